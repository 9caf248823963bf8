/- stat of a node; what all nodes take. Conditions: those that each theorem names. -/
import Derived.Test.YtdafneilalompaaGreatDoorPlain1
namespace Go.Proofs.YtdafneilalompaaGreatDoor
open Go Go.RowKit Go.MapKept
open Go.ChangeMaps (setBlock)

def statV (n : Int) (x : Nd) : Value := .agg #[.int .i64 n, .int .i64 x.kind, .int .i64 x.links, .int .i64 x.size, .int .i64 x.takes]

set_option maxRecDepth 100000 in
set_option maxHeartbeats 1000000 in
theorem stat_any {w : World} {own : Nat → Option (Nat × Int)} {i : Int} {x : Nd} (h : NdAt w own i x) (hx : x.Wf) (n : Int) :
    Calls Tryz.prog 145 #[ndPtr x, .int .i64 n] w fun e w' => e = .returned (statV n x) ∧ Keeps (fun _ => False) w w' := by
  have hlt := h.blk.lt
  simp only [ndPtr]
  go_enter Tryz.func145, Tryz.ntmps145
  go_wp2_with fail
  have h1 : NdAt (w.alloc (.cells #[.int .i64 0, .int .i64 0, .int .i64 0, .int .i64 0, .int .i64 0] 44)) own i x := h.keeps (X := fun _ => False) ((Keeps.refl _ _).alloc _) (fun _ _ x => x)
  refine (indices_any h1 hx).mono ?_
  rintro e w1 ⟨ks, v, rfl, hperm, hrow, hk1⟩
  go_wp2_with fail
  refine (Takes_row hx hperm hrow).mono ?_
  rintro e w2 ⟨rfl, hk2⟩
  have hk3 := (((Keeps.refl (fun _ => False) w).alloc (.cells #[.int .i64 0, .int .i64 0, .int .i64 0, .int .i64 0, .int .i64 0] 44)).then hk1).then hk2
  have hb := h.blk.keeps hk3 (fun x => x)
  have hc0 : w2.cell? ⟨x.blk, 0, none⟩ = some (.int .i64 x.kind) := hb.cell 0
  have hc1 : w2.cell? ⟨x.blk, 1, none⟩ = some (.int .i64 x.links) := hb.cell 1
  have hc2 : w2.cell? ⟨x.blk, 2, none⟩ = some (.int .i64 x.size) := hb.cell 2
  have hres := (Blk.new w #[.int .i64 0, .int .i64 0, .int .i64 0, .int .i64 0, .int .i64 0] 44).keeps (hk1.then hk2) (fun x => x)
  have hr := hres.cell
  have hf := hres.frz
  have hsz : w.heap.size < w2.heap.size := hres.lt
  clear hk1 hrow hk2 hb
  go_wp2_with fail
  go_region
  go_wp2_with fail
  have hW := (((((hres.set 0 (.int .i64 n)).set 1 (.int .i64 x.kind)).set 2 (.int .i64 x.links)).set 3 (.int .i64 x.size)).set 4 (.int .i64 x.takes)).drew
  have hKf := (((((hk3.setCell (p := ⟨w.heap.size, 0, none⟩) (Or.inr (Nat.le_refl _)) (.int .i64 n)).setCell (p := ⟨w.heap.size, 1, none⟩) (Or.inr (Nat.le_refl _)) (.int .i64 x.kind)).setCell (p := ⟨w.heap.size, 2, none⟩) (Or.inr (Nat.le_refl _)) (.int .i64 x.links)).setCell (p := ⟨w.heap.size, 3, none⟩) (Or.inr (Nat.le_refl _)) (.int .i64 x.size)).setCell (p := ⟨w.heap.size, 4, none⟩) (Or.inr (Nat.le_refl _)) (.int .i64 x.takes)).drew
  exact bodyPost_ret (v := statV n x) (results_cell1 rfl _ _ _ rfl (run_loadVar_row _ _ 44 44 _ _ _ hW Tryz.underlying44 rfl (by kernel_rfl))) rfl ⟨rfl, hKf⟩

set_option maxRecDepth 100000 in
set_option maxHeartbeats 1000000 in
theorem taken_rep {w : World} {S : St} (h : Rep w S) (hwf : ∀ i ∈ S.keys, (S.nd i).Wf) (hl : S.keys.length ≤ 20000) :
    Calls Tryz.prog 146 #[.pointer (some ⟨S.F, 0, none⟩)] w fun e w' => e = .returned (.int .i64 S.taken) ∧ Keeps (fun _ => False) w w' := by
  have h5 : w.cell? ⟨S.F, 5, none⟩ = some (.map (some S.M)) := h.F.cell 5
  obtain ⟨w1, hrun, hrg, hK1, hs1⟩ := h.M.range kInt (t := 112) Tryz.underlying112
  clear hs1
  go_enter Tryz.func146, Tryz.ntmps146
  go_wp2_with fail
  go_loopg [3] S.keys.length (fun k p wr => ∃ (t : Int) (left : List Int), Ranging kInt wr S.M w.heap.size (S.keys.map fun i => (i, ndPtr (S.nd i))) (left.map fun i => (i, ndPtr (S.nd i))) ∧ k = left.length ∧ p = .int .i64 t ∧ 0 ≤ t ∧ t ≤ 100000 * (S.keys.length - left.length) ∧ (∀ i ∈ left, i ∈ S.keys) ∧ left.length ≤ S.keys.length ∧ t + (left.map fun i => (S.nd i).takes).sum = S.taken ∧ Keeps (fun _ => False) w wr)
  case atStart => exact ⟨0, S.keys, hrg, rfl, rfl, by omega, by simp, fun _ h => h, Nat.le_refl _, by simp [St.taken], hK1⟩
  case round =>
    obtain ⟨t, left, hR, hgk, rfl, ht0, ht1, hin, hle, hsum, hK⟩ := hrel
    have HA := Lib.hid hgk
    have Hsum := Lib.hid hsum
    clear hgk hsum
    rcases hR.next kInt 0 with ⟨hnil, hnext⟩ | ⟨l1, q, l2, w2, hsplit, hnext, hR2, hK2, hs2, hent⟩
    · have hl0 : left = [] := by simpa using hnil
      have HN := Lib.hid hl0
      clear hnil hl0
      go_wp2_with fail
      go_ret
      refine ⟨?_, hK⟩
      have := Hsum.out
      rw [HN.out] at this
      simp at this
      rw [← this]
      rfl
    · obtain ⟨m1, m2, hm, rfl, hm2⟩ := List.map_eq_append_iff.1 hsplit
      obtain ⟨i, m3, rfl, rfl, rfl⟩ := List.map_eq_cons_iff.1 hm2
      subst hm
      have hi : i ∈ S.keys := hin i (by simp)
      clear hsplit hm2 hs2
      have hK3 : Keeps (fun _ => False) w w2 := hK.trans hK2 (fun _ _ x => x) (fun k hk e => by subst e; exact absurd hk (Nat.lt_irrefl _))
      have hRep := h.keeps hK3 (fun _ _ x => x)
      have hnd := hRep.nds i hi
      change (Instr.next (.pointer (some ⟨w.heap.size, 0, none⟩)) false 0).run Tryz.prog wr = Result.ok (Value.tuple #[.bool true, .int .i64 i, ndPtr (S.nd i)]) w2 at hnext
      change (Instr.entry (.pointer (some ⟨w.heap.size, 0, none⟩))).run Tryz.prog w2 = Result.ok (Value.tuple #[.int .i64 i, ndPtr (S.nd i)]) w2 at hent
      have htk : 0 ≤ (S.nd i).takes ∧ (S.nd i).takes ≤ 60000 := by
        have h1 := fold_with1_len (S.nd i).idx []
        have h2 := fold_tab1_len (S.nd i).idx []
        have h3 := (hwf i hi).len
        simp only [List.length_nil] at h1 h2
        unfold Nd.takes takes
        omega
      obtain ⟨htk0, htk1⟩ := htk
      simp only [List.length_append, List.length_cons] at ht1 hle
      go_wp2_with (first | (go_at_call 211; refine (indices_any hnd (hwf i hi)).mono ?_; rintro e w3 ⟨ks, v, rfl, hperm, hrow, hk3⟩) | fail)
      refine (Takes_row (hwf i hi) hperm hrow).mono ?_
      rintro e w4 ⟨rfl, hk4⟩
      have hK5 : Keeps (fun _ => False) w w4 := (hK3.then hk3).then hk4
      have hR4 := hR2.keeps kInt (hk3.then hk4) (fun x => x) (fun x => x)
      have htb : t ≤ 2000000000 := by omega
      go_wp2_with fail
      go_roundg (m1 ++ m3).length
      case measure => rw [HA.out]; simp
      case rel =>
        refine ⟨t + (S.nd i).takes, m1 ++ m3, by rw [List.map_append]; exact hR4, rfl, rfl, by omega, by simp only [List.length_append]; omega, fun j hj => hin j (by rcases List.mem_append.1 hj with hj | hj <;> simp [hj]), by simp only [List.length_append]; omega, ?_, hK5⟩
        have := Hsum.out
        simp only [List.map_append, List.sum_append, List.map_cons, List.sum_cons] at this ⊢
        omega
end Go.Proofs.YtdafneilalompaaGreatDoor
