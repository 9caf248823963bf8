/- The helper of ram.FS that gives a node the lowest free number: add. Conditions: those that each theorem names. -/
import Derived.Test.YtdafneilalompaaGreatDoorRam1
namespace Go.Proofs.YtdafneilalompaaGreatDoor
open Go Go.RowKit Go.MapKept
open Go.ChangeMaps (setBlock)
set_option maxRecDepth 100000 in
set_option maxHeartbeats 600000 in
theorem add_rep {w : World} {S : St} (h : Rep w S) {x : Nd} (hx : Loose w S x) (i c : Int) (hi1 : 1 ≤ i) (hic : i < c) (hc : S.g4 = c) (hc2 : c ≤ 1000000) (hlow : ∀ j, 1 ≤ j → j < i → j ∈ S.keys) (hi : i ∉ S.keys) (hn : S.us.length ≤ 1000000) (N : Nat) (hN : x.blk = N) :
    Calls Tryz.prog 184 #[.pointer (some ⟨S.F, 0, none⟩), .pointer (some ⟨N, 0, none⟩)] w fun e w' => e = .returned (.tuple #[.int .i64 i, .int .i64 0]) ∧
      ∃ u' bF bI, Rep w' ((S.add i x).undo u' (.func (.func 227) #[] #[.pointer (some ⟨bF, 0, none⟩), .pointer (some ⟨bI, 0, none⟩)])) ∧ Keeps (S.add i x).foot w w' ∧
        w.heap.size ≤ bF ∧ w.heap.size ≤ bI ∧ Blk w' bF #[.pointer (some ⟨S.F, 0, none⟩)] 25 ∧ Blk w' bI #[.int .i64 i] 3 := by
  have hmf := run_makeFunc_any
  have HN := Lib.hid hN
  have Hc := Lib.hid hc
  have Hlow := Lib.hid hlow
  have Hi := Lib.hid hi
  clear hN hc hlow hi
  go_enter Tryz.func184, Tryz.ntmps184
  go_wp2_with fail
  go_loopg [6] (i - 1).toNat (fun k p wr => ∃ (j : Int) (b : Nat), p = .pointer (some ⟨b, 0, none⟩) ∧ 1 ≤ j ∧ j ≤ i ∧ k = (i - j).toNat ∧ w.heap.size ≤ b ∧ Blk wr b #[.int .i64 j] 3 ∧ Blk wr w.heap.size #[.pointer (some ⟨S.F, 0, none⟩)] 25 ∧ Keeps (fun _ => False) w wr)
  case atStart =>
    refine ⟨1, w.heap.size + 1, rfl, by omega, by omega, by omega, by omega, Blk.new' (by simp) _ _, (Blk.new' rfl _ _).alloc _, ((Keeps.refl _ _).alloc _).alloc _⟩
  case round =>
    obtain ⟨j, b, rfl, hj1, hj2, hgk, hb, hbI, hbF, hK⟩ := hrel
    have hR := h.keeps hK (fun _ _ x => x)
    have hcI : wr.cell? ⟨b, 0, none⟩ = some (.int .i64 j) := hbI.cell 0
    have hcF : wr.cell? ⟨w.heap.size, 0, none⟩ = some (.pointer (some ⟨S.F, 0, none⟩)) := hbF.cell 0
    have hc4 : wr.cell? ⟨S.F, 4, none⟩ = some (.int .i64 c) := by rw [hR.F.cell]; simp [St.fcells, Hc.out]
    have hc5 : wr.cell? ⟨S.F, 5, none⟩ = some (.map (some S.M)) := by rw [hR.F.cell]; simp [St.fcells]
    have hlt : decide (j < c) = true := by simp; omega
    have hfind := hR.findOk j
    have hM1 := h.Mlt
    have hB1 := h.B
    have hne1 : ¬ w.heap.size = S.M := by omega
    have hne2 : ¬ b = S.M := by omega
    clear hM1
    have HA := Lib.hid hgk
    clear hgk
    by_cases hji : j = i
    · subst hji
      simp only [Hi.out, if_false, decide_false] at hfind
      obtain ⟨o, hupd⟩ := hR.M.update kInt (t := 112) Tryz.underlying112 j (ndPtr x)
      have hrun : ∀ W, ob W S.M = ob wr S.M → (Instr.mapUpdate 112 (.map (some S.M)) (.int .i64 j) (.pointer (some ⟨N, 0, none⟩))).run Tryz.prog W = .ok () (setBlock W S.M o) := fun W hW => by rw [← HN.out]; exact (hupd W hW).1
      have Hupd := Lib.hid hupd
      clear hupd
      go_wp2_with fail
      go_region
      go_wp2_with fail
      go_region
      go_wp2_with fail
      go_region
      go_wp2_with fail
      have hmk := (Hupd.out wr.drew.drew.drew (by simp)).2
      have hR3 := ((hR.drew).drew).drew
      obtain ⟨hR4, hK4⟩ := hR3.add (hx.keeps ((hK.drew).drew).drew (fun _ _ _ x => x)) Hi.out hmk
      have hbF4 := Blk.keeps (w := wr.drew.drew.drew) hbF hK4 (hR3.off hB1 hbF (by decide))
      have hbI4 := Blk.keeps (w := wr.drew.drew.drew) hbI hK4 (hR3.off (Nat.le_trans hB1 hb) hbI (by decide))
      have hK5 : Keeps S.foot w _ := (((hK.mono (fun _ _ x => x.elim)).drew).drew).drew.then hK4
      refine (back_rep hR4 227 _ hn).mono ?_
      rintro e w' ⟨rfl, u', hR', hK'⟩
      have hcI' : w'.cell? ⟨b, 0, none⟩ = some (.int .i64 j) := (hbI4.keeps hK' (hR4.off (Nat.le_trans hB1 hb) hbI4 (by decide))).cell 0
      go_wp2
      go_ret2
      exact ⟨rfl, u', w.heap.size, b, hR', (hK5.mono (fun _ _ hf => S.add_foot j x hf)).then hK', Nat.le_refl _, hb, hbF4.keeps hK' (hR4.off hB1 hbF4 (by decide)), hbI4.keeps hK' (hR4.off (Nat.le_trans hB1 hb) hbI4 (by decide))⟩
    · have hm : j ∈ S.keys := Hlow.out j hj1 (by omega)
      simp only [hm, if_true, decide_true] at hfind
      go_wp2_with fail
      go_region
      go_wp2_with fail
      go_region
      go_wp2_with fail
      go_roundg (i - (j + 1)).toNat
      case measure => rw [HA.out]; omega
      case rel => exact ⟨j + 1, wr.heap.size, rfl, by omega, by omega, rfl, hK.size, Blk.drew (Blk.drew (Blk.new' rfl _ _)), Blk.drew (Blk.drew (hbF.alloc _)), ((hK.alloc _).drew).drew⟩
end Go.Proofs.YtdafneilalompaaGreatDoor
