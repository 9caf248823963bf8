/- (*strings.Builder).Write, with what it leaves as it was. Conditions: those that each theorem names. -/
import Derived.Test.YtdafneilalompaaGreatDoorNew0
import Derived.Test.YtdafneilalompaaGreatDoorShelf
namespace Go.Proofs.YtdafneilalompaaGreatDoor
open Go Go.RowKit
open Go.ChangeMaps (setBlock)

/-- Of the blocks of w all but the builder's and, from B on, those of bytes are as they were. -/
def FrB (B b : Nat) (w w' : World) : Prop := Keeps (fun k => k = b ∨ (B ≤ k ∧ ∃ cs f, w.heap[k]? = some (.cells cs 5 f))) w w'
theorem size139 : (Tryz.prog.info? 139).map (·.size) = some 2 := by kernel_rfl
set_option maxHeartbeats 1000000 in
set_option maxRecDepth 100000 in
theorem copyCheck_used (b : Nat) (w : World) (h0 : w.cell? ⟨b, 0, none⟩ = some (.pointer (some ⟨b, 0, none⟩))) :
    Calls Tryz.prog 116 #[.pointer (some ⟨b, 0, none⟩)] w fun e w' => e = .returned (.tuple #[]) ∧ w' = w := by
  obtain ⟨j, hj, _⟩ := Option.map_eq_some_iff.1 size139
  go_enter Tryz.func116, Tryz.ntmps116
  go_wp2
  rw [Lib.run_neq_ptr_same w _ Tryz.underlying137 hj]
  go_wp2
  go_end0
  exact ⟨rfl, rfl⟩
set_option maxHeartbeats 1000000 in
set_option maxRecDepth 100000 in
theorem copyCheck_fresh (b : Nat) (w : World) (h0 : w.cell? ⟨b, 0, none⟩ = some (.pointer none)) (hsh : w.shape? b = some (139, 2)) (hfz : w.frozen? ⟨b, 0, none⟩ = false) :
    Calls Tryz.prog 116 #[.pointer (some ⟨b, 0, none⟩)] w fun e w' => e = .returned (.tuple #[]) ∧ w' = w.setCell ⟨b, 0, none⟩ (.pointer (some ⟨b, 0, none⟩)) := by
  obtain ⟨j, hj, hjs⟩ := Option.map_eq_some_iff.1 size139
  go_enter Tryz.func116, Tryz.ntmps116
  go_wp2
  rw [Lib.run_to_unsafe w ⟨b, 0, none⟩ Tryz.underlying137 Tryz.underlying238 hj (by rw [hjs]; decide) hsh (Nat.zero_lt_succ 1)]
  simp only [Result.andThen]
  rw [Oper.upon_value]
  go_wp2
  rw [run_callFunc_extern Tryz.func182 (by kernel_rfl) (by kernel_rfl) (by kernel_rfl) (e := Extern.AbiNoEscape.same) (by kernel_rfl)]
  rw [Lib.run_noEscape]
  simp only [Result.andThen]
  rw [Oper.upon_value]
  go_wp2
  rw [Lib.run_from_unsafe w ⟨b, 0, none⟩ Tryz.underlying238 Tryz.underlying137 hj hsh (by kernel_rfl)]
  simp only [Result.andThen]
  rw [Oper.upon_value]
  go_wp2
  go_end0
  exact ⟨rfl, rfl⟩
theorem copyCheck_any {w : World} {B b : Nat} {bs : List Value} (h : Lib.IsBuilder 139 5 B b bs w) :
    Calls Tryz.prog 116 #[.pointer (some ⟨b, 0, none⟩)] w fun e w' => e = .returned (.tuple #[]) ∧ Lib.BuilderAt 139 5 B b (.pointer (some ⟨b, 0, none⟩)) bs w' ∧ Keeps (fun k => k = b) w w' := by
  rcases h with h | h
  · refine (copyCheck_fresh b w h.cell0 h.shape h.frozen0).mono ?_
    rintro e w' ⟨rfl, rfl⟩
    exact ⟨rfl, h.used _, Keeps.setCell (X := fun k => k = b) (Keeps.refl _ _) (Or.inl rfl) _⟩
  · refine (copyCheck_used b w h.cell0).mono ?_
    rintro e w' ⟨rfl, rfl⟩
    exact ⟨rfl, h, Keeps.refl _ _⟩
theorem info5 : (Tryz.prog.info? 5).map (fun i => (i.zero, i.size, i.bytes)) = some (some (.int .u8 0), 1, 1) := by kernel_rfl
set_option maxHeartbeats 1000000 in
set_option maxRecDepth 100000 in
theorem Builder_Write {w : World} {B b : Nat} {bs : List Value} (h : Lib.IsBuilder 139 5 B b bs w) (hB : B ≤ w.heap.size) (g o m c : Nat) (news : List Value) (hl : news.length = m) (cur : Array Value) (tg : TypeId) (hg : w.heap[g]? = some (.cells cur tg (0, 0))) (hgb : g ≠ b) (hnews : ∀ j u, news[j]? = some u → cur[o + j]? = some u) (h1 : ∀ u ∈ news, u.oneCell' = true)
    (hlen : bs.length + m ≤ 100000000) :
    Calls Tryz.prog 187 #[.pointer (some ⟨b, 0, none⟩), .slice (some ⟨g, o, none⟩) m c] w fun e w' => e = .returned (.tuple #[.int .i64 m, .nilIface]) ∧ Lib.BuilderAt 139 5 B b (.pointer (some ⟨b, 0, none⟩)) (bs ++ news) w' ∧ FrB B b w w' := by
  obtain ⟨i5, hi5, hz50, hz51, hz52⟩ := info_parts info5
  have HL := Lib.hid hl
  clear hl
  go_enter Tryz.func187, Tryz.ntmps187
  go_wp2_with fail
  refine (copyCheck_any h).mono ?_
  rintro e w1 ⟨rfl, hb1, hk1⟩
  have hg1 : w1.heap[g]? = some (.cells cur tg (0, 0)) := (hk1.block g (Array.getElem?_eq_some_iff.1 hg).1 hgb).trans hg
  obtain ⟨hBb, v, hbk, hown, hne⟩ := hb1
  have c1 : w1.cell? ⟨b, 1, none⟩ = some v := by rw [Lib.cell_of_heap hbk]; rfl
  have f1 : w1.frozen? ⟨b, 1, none⟩ = false := Lib.frozen_of_heap hbk 1
  have hn1 : ∀ j u, news[j]? = some u → w1.cell? ((⟨g, o, none⟩ : Addr).add j) = some u := fun j u hu => by
    rw [Addr.add_mid, cell_of_row _ _ _ _ _ _ hg1]; exact hnews j u hu
  have HN := Lib.hid hn1
  have hB1 : B ≤ w1.heap.size := Nat.le_trans hB hk1.size
  clear hn1 hg1 hg
  go_wp2_with (first | (at_builtin; refine wpList_append_own_at _ rfl _ _ 42 rfl B 5 i5 (.int .u8 0) 1 1 Tryz.underlying42 hi5 hz50 hz51 hz52 rfl (by decide) _ _ _ rfl hown ⟨g, o, none⟩ m c news rfl (by rw [HL.out]; simp) HN.out h1 (by simp only [maxLen]; omega) (by omega) hB1 ?_) | fail)
  intro v' w2 hown2 hg2 _ _
  have hkk : w2.heap[b]? = some (.cells #[.pointer (some ⟨b, 0, none⟩), v] 139 (0, 0)) := (hg2.block b (Array.getElem?_eq_some_iff.1 hbk).1 (fun e => hne e.symm)).trans hbk
  have c2 : w2.cell? ⟨b, 1, none⟩ = some v := by rw [Lib.cell_of_heap hkk]; rfl
  have f2 : w2.frozen? ⟨b, 1, none⟩ = false := Lib.frozen_of_heap hkk 1
  have hown3 : w2.ownsRow B 5 1 v' (bs ++ news).length (bs ++ news) := by rw [List.length_append, HL.out]; exact hown2
  obtain ⟨a9, c9, hv9⟩ := ownsRow_form hown2
  subst hv9
  have hput := Lib.BuilderAt.put (v' := .slice a9 (bs.length + m) c9) hBb hkk hown3 (by decide)
  have hfr : FrB B b w (w2.setCell ⟨b, 1, none⟩ (.slice a9 (bs.length + m) c9)) := by
    refine ((hk1.mono (Y := fun k => k = b ∨ (B ≤ k ∧ ∃ cs f, w.heap[k]? = some (.cells cs 5 f))) (fun k _ e => Or.inl e)).trans ((Keeps.refl (fun k => v.ownBlock = some k) w1).grown hg2 (fun k e => Or.inl e)) (fun _ _ x => x) ?_).setCell (p := ⟨b, 1, none⟩) (Or.inl (Or.inl rfl)) _
    intro k hk e
    by_cases hkb : k = b
    · exact Or.inl hkb
    · obtain ⟨h2, cur2, h3⟩ := ownsRow_base hown e
      exact Or.inr ⟨h2, cur2, _, (hk1.block k hk hkb).symm.trans h3⟩
  have HP := Lib.hid (And.intro hput hfr)
  clear hput hfr c1 f1 hkk hown3
  go_wp2_with fail
  go_ret2
  exact ⟨rfl, HP.out.1, HP.out.2⟩
end Go.Proofs.YtdafneilalompaaGreatDoor
