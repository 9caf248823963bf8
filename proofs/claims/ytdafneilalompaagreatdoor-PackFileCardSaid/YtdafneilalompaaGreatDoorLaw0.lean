/- The law's small functions: sameInts, made. Conditions: those that each theorem names. -/
import Derived.Test.YtdafneilalompaaGreatDoorDo3
namespace Go.Proofs.YtdafneilalompaaGreatDoor
open Go Go.RowKit
open Go.ChangeMaps (setBlock)

/-- A row of integers. -/
def IRow (w : World) (v : Value) (xs : List Int) : Prop := w.ownsRow 0 3 1 v xs.length (xs.map (Value.int .i64))
theorem IRow.keeps {w w' : World} {v : Value} {xs : List Int} (h : IRow w v xs) (k : Keeps (fun _ => False) w w') : IRow w' v xs := ownsRow_keep h (fun g hg => by
  obtain ⟨_, cur, h5⟩ := ownsRow_base h hg
  exact k.block g (Array.getElem?_eq_some_iff.1 h5).1 (fun x => x))
set_option maxRecDepth 100000 in
set_option maxHeartbeats 2000000 in
theorem sameInts_same {w : World} {a1 a2 : Option Addr} {n c1 c2 : Nat} {xs : List Int} (hn : n = xs.length) (hn2 : n ≤ 1000000) (h1 : IRow w (.slice a1 n c1) xs) (h2 : IRow w (.slice a2 n c2) xs) :
    Calls Tryz.prog 16 #[.slice a1 n c1, .slice a2 n c2] w fun e w' => e = .returned (.bool true) ∧ Keeps (fun _ => False) w w' := by
  have HA := Lib.hid (And.intro hn (And.intro h1 h2))
  clear hn h1 h2
  go_enter Tryz.func16, Tryz.ntmps16
  go_wp2_with fail
  go_loopg [5, 13] n (fun k _ p wr => ∃ j : Nat, p = .int .i64 j ∧ j ≤ n ∧ k = n - j ∧ Keeps (fun _ => False) w wr)
  case atStart => exact ⟨0, rfl, Nat.zero_le _, by omega, Keeps.refl _ _⟩
  case round =>
    obtain ⟨j, rfl, hj, hgk, hK⟩ := hrel
    have HG := Lib.hid (And.intro hgk hK)
    by_cases hlt : j < n
    · obtain ⟨hn, h1, h2⟩ := HA.out
      have r1 := h1.keeps hK
      have r2 := h2.keeps hK
      unfold IRow at r1 r2
      rw [← hn] at r1 r2
      obtain ⟨g1, d1, e1, _, _, _, _, k1⟩ := ownsRow_cells2 r1 (by omega)
      obtain ⟨g2, d2, e2, _, _, _, _, k2⟩ := ownsRow_cells2 r2 (by omega)
      simp only [Value.slice.injEq] at e1 e2
      obtain ⟨rfl, _, rfl⟩ := e1
      obtain ⟨rfl, _, rfl⟩ := e2
      obtain ⟨x, hx⟩ : ∃ x, xs[j]? = some x := ⟨_, List.getElem?_eq_getElem (by omega)⟩
      have q1 : wr.cell? ⟨g1, j, none⟩ = some (.int .i64 x) := by rw [k1 j (by rw [List.length_map]; omega), List.getElem?_map, hx]; rfl
      have q2 : wr.cell? ⟨g2, j, none⟩ = some (.int .i64 x) := by rw [k2 j (by rw [List.length_map]; omega), List.getElem?_map, hx]; rfl
      clear hn h1 h2 r1 r2 k1 k2 hx hgk hK
      go_wp2_with fail
      go_quiet (fail)
      go_wp2_with fail
      go_roundg (n - (j + 1))
      case measure => have := HG.out.1; omega
      case rel => exact ⟨j + 1, by go_num, by omega, rfl, HG.out.2.drewN _⟩
    · clear hgk hK
      go_wp2_with fail
      go_ret
      exact ⟨rfl, HG.out.2⟩
end Go.Proofs.YtdafneilalompaaGreatDoor
