/- geo.Of and ram.New, of small disks. Conditions: those that each theorem names. -/
import Derived.Test.YtdafneilalompaaGreatDoorDoA
namespace Go.Proofs.YtdafneilalompaaGreatDoor
open Go Go.RowKit
open Go.ChangeMaps (setBlock)

set_option maxRecDepth 100000 in
set_option maxHeartbeats 1000000 in
theorem geoLay (w : World) (b : Nat) (x k : Int) (hc : w.cell? ⟨b, 0, none⟩ = some (.int .i64 x)) (hf : w.frozen? ⟨b, 0, none⟩ = false) (h0 : 0 ≤ x) (h1 : x ≤ 1000000) (h2 : 0 ≤ k) (h3 : k ≤ 1000000) :
    Calls Tryz.prog 90 #[.pointer (some ⟨b, 0, none⟩), .int .i64 k] w fun e w' => e = .returned (.int .i64 x) ∧ w' = w.setCell ⟨b, 0, none⟩ (.int .i64 (x + k)) := by
  go_enter Tryz.func90, Tryz.ntmps90
  go_wp2_with fail
  go_ret
  exact ⟨rfl, rfl⟩
set_option maxRecDepth 100000 in
set_option maxHeartbeats 1000000 in
theorem geoOf (w : World) (n t : Int) (h0 : 128 ≤ n) (h1 : n ≤ 207) (ht : n / 64 = t) :
    Calls Tryz.prog 54 #[.int .i64 n] w fun e w' => e = .returned (.tuple #[.agg #[.int .i64 n, .int .i64 98, .int .i64 99, .int .i64 (99 + t), .int .i64 (t * 8)], .int .i64 0]) ∧ Keeps (fun _ => False) w w' := by
  have ht0 : 2 ≤ t := by omega
  have ht1 : t ≤ 3 := by omega
  have hq : n.tdiv 64 = t := by rw [Int.tdiv_eq_ediv_of_nonneg (by omega)]; exact ht
  have hq2 : (n + 4096 - 1).tdiv 4096 = 1 := by rw [Int.tdiv_eq_ediv_of_nonneg (by omega)]; omega
  clear ht
  go_enter Tryz.func54, Tryz.ntmps54
  go_wp2
  refine bodyPost_ret (results_cell2 rfl _ _ _ rfl (run_loadVar_row _ w.heap.size 104 104 #[.int .i64 n, .int .i64 98, .int .i64 99, .int .i64 (99 + t), .int .i64 (t * 8)] (0, 0) _ (((Blk.new w _ _).alloc _).alloc _) Tryz.underlying104 rfl (by kernel_rfl))) rfl ⟨rfl, (((Keeps.refl _ _).alloc _).alloc _).alloc _⟩

def rootNd (bR bN : Nat) : Nd := { blk := bR, kind := 2, links := 2, size := 0, pcs := none, nms := some (bN, []), blocks := 0, text := ⟨#[]⟩ }
/-- A new tree on a disk of n blocks. -/
def newSt (F M bR bN : Nat) (n t : Int) (B : Nat) : St :=
  { F := F, M := M, g0 := n, g1 := 98, g2 := 99, g3 := 99 + t, g4 := t * 8, keys := [1], nd := fun _ => rootNd bR bN, own := fun b => if b = F then some (0, 0) else if b = M then some (1, 0) else if b = bR then some (2, 1) else if b = bN then some (4, 1) else none, B := B, u := .slice none 0 0, us := [] }
set_option maxRecDepth 100000 in
set_option maxHeartbeats 1000000 in
theorem New_ok (w : World) (n t : Int) (h0 : 128 ≤ n) (h1 : n ≤ 207) (ht : n / 64 = t) :
    Calls Tryz.prog 25 #[.int .i64 n] w fun e w' => ∃ F M bR bN, e = .returned (.tuple #[.pointer (some ⟨F, 0, none⟩), .int .i64 0]) ∧ w.heap.size ≤ F ∧ w.heap.size ≤ M ∧ w.heap.size ≤ bR ∧ w.heap.size ≤ bN ∧ Rep w' (newSt F M bR bN n t w'.heap.size) ∧ Keeps (fun _ => False) w w' := by
  have hmm := @run_makeMap Tryz.prog
  have HT := Lib.hid ht
  clear ht
  go_enter Tryz.func25, Tryz.ntmps25
  go_wp2_with fail
  refine (geoOf w n t h0 h1 HT.out).mono ?_
  rintro e w1 ⟨rfl, hk1⟩
  obtain ⟨o, hm, hr⟩ := (MapO.empty kInt).update kInt (t := 112) (e := 107) Tryz.underlying112 (w1.heap.size + 1 + 1 + 1) 1 (.pointer (some ⟨w1.heap.size + 1 + 1, 0, none⟩))
  change ∀ W, ob W (w1.heap.size + 1 + 1 + 1) = some (.map #[] 0) → (Instr.mapUpdate 112 (.map (some (w1.heap.size + 1 + 1 + 1))) (.int .i64 1) (.pointer (some ⟨w1.heap.size + 1 + 1, 0, none⟩))).run Tryz.prog W = .ok () (setBlock W (w1.heap.size + 1 + 1 + 1) o) at hr
  have HM := Lib.hid hm
  clear hm
  go_wp2_with fail
  go_ret2
  have kN := MapB.new (w1.alloc (.cells #[.int .i64 n, .int .i64 98, .int .i64 99, .int .i64 (99 + t), .int .i64 (t * 8)] 104))
  have kR := Blk.new ((w1.alloc (.cells #[.int .i64 n, .int .i64 98, .int .i64 99, .int .i64 (99 + t), .int .i64 (t * 8)] 104)).alloc (.map #[] 0)) #[.int .i64 2, .int .i64 2, .int .i64 0, .map none, .map (some (w1.heap.size + 1)), .int .i64 0, .string ⟨#[]⟩] 111
  simp only [World.size_alloc] at kN kR
  have hs1 := hk1.size
  refine ⟨_, w1.heap.size + 1 + 1 + 1, w1.heap.size + 1 + 1, w1.heap.size + 1, rfl, by omega, by omega, by omega, by omega, ⟨Blk.new' (by simp [newSt]) _ _, by simp [newSt], ?_, by simp [newSt], ?_, ?_, Nat.le_refl _, ⟨rfl, Or.inl ⟨rfl, rfl⟩⟩⟩, ?_⟩
  · exact HM.out.mapK kInt (by show ob _ (w1.heap.size + 1 + 1 + 1) = some o; simp)
  · intro i hi
    have : i = 1 := by simpa [newSt] using hi
    subst this
    refine ⟨((kR.alloc _).setBlock (by omega) _).alloc _, by simp [newSt, rootNd], fun b L e => by simp [newSt, rootNd] at e, fun b L e => ?_⟩
    have e2 : w1.heap.size + 1 = b ∧ [] = L := by simpa [newSt, rootNd] using e
    obtain ⟨rfl, rfl⟩ := e2
    exact ⟨MapB.alloc (MapB.setBlock (MapB.alloc (MapB.alloc kN _) _) (by omega) _) _, by simp [newSt]⟩
  · intro b hb
    simp only [newSt] at hb
    simp [newSt]
    split at hb
    · omega
    · split at hb
      · omega
      · split at hb
        · omega
        · split at hb
          · omega
          · exact absurd rfl hb
  · exact (((((hk1.alloc _).alloc _).alloc _).alloc _).setBlock (Or.inr (by omega)) _).alloc _
end Go.Proofs.YtdafneilalompaaGreatDoor
