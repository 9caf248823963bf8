/- Builder.WriteString with what it leaves as it was; pack's small functions: zeros, at, give. Conditions: those that each theorem names. -/
import Derived.Test.YtdafneilalompaaGreatDoorTell0
namespace Go.Proofs.YtdafneilalompaaGreatDoor
open Go Go.RowKit
open Go.ChangeMaps (setBlock)

set_option maxHeartbeats 1000000 in
set_option maxRecDepth 100000 in
theorem Builder_WriteString {w : World} {B b : Nat} {bs : List Value} (h : Lib.IsBuilder 139 5 B b bs w) (hB : B ≤ w.heap.size) (s : ByteArray) (hlen : bs.length + s.size ≤ 100000000) :
    Calls Tryz.prog 68 #[.pointer (some ⟨b, 0, none⟩), .string s] w fun e w' => e = .returned (.tuple #[.int .i64 s.size, .nilIface]) ∧ Lib.BuilderAt 139 5 B b (.pointer (some ⟨b, 0, none⟩)) (bs ++ Lib.strCells s) w' ∧ FrB B b w w' := by
  obtain ⟨i5, hi5, hz50, hz51, hz52⟩ := info_parts info5
  go_enter Tryz.func68, Tryz.ntmps68
  go_wp2_with fail
  refine (copyCheck_any h).mono ?_
  rintro e w1 ⟨rfl, hb1, hk1⟩
  obtain ⟨hBb, v, hbk, hown, hne⟩ := hb1
  have c1 : w1.cell? ⟨b, 1, none⟩ = some v := by rw [Lib.cell_of_heap hbk]; rfl
  have f1 : w1.frozen? ⟨b, 1, none⟩ = false := Lib.frozen_of_heap hbk 1
  have hB1 : B ≤ w1.heap.size := Nat.le_trans hB hk1.size
  go_wp2_with (first | (at_builtin; refine Lib.wpList_append_own_string _ rfl _ _ 42 9 rfl B 5 i5 Tryz.underlying42 Tryz.underlying9 hi5 hz50 hz51 hz52 _ _ _ rfl hown s rfl (by unfold maxLen; omega) (by omega) hB1 ?_) | fail)
  intro v' w2 hown2 hg2 _
  have hkk : w2.heap[b]? = some (.cells #[.pointer (some ⟨b, 0, none⟩), v] 139 (0, 0)) := (hg2.block b (Array.getElem?_eq_some_iff.1 hbk).1 (fun e => hne e.symm)).trans hbk
  have c2 : w2.cell? ⟨b, 1, none⟩ = some v := by rw [Lib.cell_of_heap hkk]; rfl
  have f2 : w2.frozen? ⟨b, 1, none⟩ = false := Lib.frozen_of_heap hkk 1
  have hown3 : w2.ownsRow B 5 1 v' (bs ++ Lib.strCells s).length (bs ++ Lib.strCells s) := by rw [List.length_append, Lib.strCells_length]; exact hown2
  obtain ⟨a9, c9, hv9⟩ := ownsRow_form hown2
  subst hv9
  have hput := Lib.BuilderAt.put (v' := .slice a9 (bs.length + s.size) c9) hBb hkk hown3 (by decide)
  have hfr : FrB B b w (w2.setCell ⟨b, 1, none⟩ (.slice a9 (bs.length + s.size) c9)) := by
    refine ((hk1.mono (Y := fun k => k = b ∨ (B ≤ k ∧ ∃ cs f, w.heap[k]? = some (.cells cs 5 f))) (fun k _ e => Or.inl e)).trans ((Keeps.refl (fun k => v.ownBlock = some k) w1).grown hg2 (fun k e => Or.inl e)) (fun _ _ x => x) ?_).setCell (p := ⟨b, 1, none⟩) (Or.inl (Or.inl rfl)) _
    intro k hk e
    by_cases hkb : k = b
    · exact Or.inl hkb
    · obtain ⟨h2, cur2, h3⟩ := ownsRow_base hown e
      exact Or.inr ⟨h2, cur2, _, (hk1.block k hk hkb).symm.trans h3⟩
  have HP := Lib.hid (And.intro hput hfr)
  clear hput hfr c1 f1 hkk hown3
  go_wp2_with fail
  go_ret2
  exact ⟨rfl, HP.out.1, HP.out.2⟩

theorem dropZ_nil : ∀ l : List UInt8, l.dropWhile (· == 0) = [] ↔ allZero l = true
  | [] => by simp [allZero]
  | a :: l => by
    have := dropZ_nil l
    simp only [allZero] at this
    rw [List.dropWhile_cons, allZero, List.all_cons]
    cases h : a == 0
    · simp
    · simpa using this
theorem dropZ_mem {x : UInt8} : ∀ {l : List UInt8}, x ∈ l.dropWhile (· == 0) → x ∈ l
  | [], h => h
  | a :: l, h => by
    rw [List.dropWhile_cons] at h
    split at h
    · exact List.mem_cons_of_mem _ (dropZ_mem h)
    · exact h
theorem allZero_mem {l : List UInt8} : allZero l = true ↔ ∀ x ∈ l, x = 0 := by simp [allZero]
theorem trimB_zero (l : List UInt8) : Lib.trimB l 0 = [] ↔ allZero l = true := by
  simp only [Lib.trimB, Lib.trimLeftB, Lib.trimRightB]
  rw [dropZ_nil, allZero_mem, allZero_mem]
  constructor
  · intro h
    have hn : l.reverse.dropWhile (· == 0) = [] := by
      cases hd : l.reverse.dropWhile (· == 0) with
      | nil => rfl
      | cons a r =>
        have h1 := h a (by rw [hd]; simp)
        have h2 := List.head_dropWhile_not (fun x : UInt8 => x == 0) (l := l.reverse) (by rw [hd]; simp)
        simp [hd, h1] at h2
    intro x hx
    exact allZero_mem.1 ((dropZ_nil _).1 hn) x (List.mem_reverse.2 hx)
  · intro h x hx
    exact h x (List.mem_reverse.1 (dropZ_mem (List.mem_reverse.1 hx)))
set_option maxHeartbeats 1000000 in
set_option maxRecDepth 100000 in
theorem zeros_any (s : ByteArray) (w : World) (hs : s.size ≤ 1000000000) (z : Bool) (hz : allZero s.data.toList = z) :
    Calls Tryz.prog 67 #[.string s] w fun e w' => e = .returned (.bool z) ∧ Keeps (fun _ => False) w w' := by
  have HZ := Lib.hid hz
  clear hz
  go_enter Tryz.func67, Tryz.ntmps67
  go_wp2_with fail
  refine (Tryz.strings_Trim_one s 0 (by decide) _ (by omega)).mono ?_
  rintro e w1 ⟨rfl, hw1⟩
  have hk : Keeps (fun _ => False) w w1 := by
    rcases hw1 with rfl | rfl
    · exact Keeps.refl _ _
    · exact (Keeps.refl _ _).drew
  clear hw1
  have hb : (Lib.trimB s.data.toList 0).isEmpty = z := by
    rw [← HZ.out]
    cases ha : allZero s.data.toList with
    | true => rw [(trimB_zero _).2 ha]; rfl
    | false =>
      cases ht : Lib.trimB s.data.toList 0 with
      | nil => rw [(trimB_zero _).1 ht] at ha; cases ha
      | cons a r => rfl
  go_wp2_with fail
  go_ret
  exact ⟨rfl, hk⟩

/-- The path of an item at a path. -/
def atR (s p : ByteArray) : ByteArray := if p = ⟨#[]⟩ then s else (⟨(Lib.trimSuffix s.data.toList [47]).toArray⟩ ++ ⟨#[47]⟩) ++ p
set_option maxHeartbeats 1000000 in
set_option maxRecDepth 100000 in
theorem packAt_any (s p : ByteArray) (w : World) (hs : s.size ≤ 1000000000) (hps : p.size ≤ 1000000000) (r : ByteArray) (hr : atR s p = r) :
    Calls Tryz.prog 34 #[.string s, .string p] w fun e w' => e = .returned (.string r) ∧ w = w' := by
  have HR := Lib.hid hr
  clear hr
  have he := empty_list p
  by_cases hp : p = ⟨#[]⟩
  · have hpe : p.toList.isEmpty = true := by rw [he]; simp [hp]
    have hr2 : r = s := by rw [← HR.out, atR, if_pos hp]
    clear he hp
    subst hr2
    go_enter Tryz.func34, Tryz.ntmps34
    go_wp2_with fail
    go_ret
    exact ⟨rfl, rfl⟩
  · have hpe : p.toList.isEmpty = false := by rw [he]; simp [hp]
    have htl : (Lib.trimSuffix s.data.toList [47]).length ≤ 1000000000 := by
      have h2 : s.size = s.data.toList.length := Lib.size_eq s
      unfold Lib.trimSuffix
      split
      · rw [List.length_take]; omega
      · omega
    have HP := Lib.hid hp
    clear he hp
    go_enter Tryz.func34, Tryz.ntmps34
    go_wp2_with (first | (go_at_call 66; refine (Tryz.strings_TrimSuffix s _ _ (by omega)).mono ?_; rintro e w' ⟨rfl, rfl⟩) | fail)
    go_ret
    rw [← HR.out, atR, if_neg HP.out]
    exact ⟨rfl, rfl⟩

set_option maxHeartbeats 1000000 in
set_option maxRecDepth 100000 in
theorem give_ok (w : World) (n : Int) (data : ByteArray) (i k l s b : Int) (na : Option Addr) (nn nc : Nat) :
    Calls Tryz.prog 35 #[answV 0 n data i k l s b (.slice na nn nc)] w fun e w' => e = .returned (answV 0 n data i k l s b (.slice na nn nc)) ∧ Keeps (fun _ => False) w w' := by
  unfold answV answC
  go_enter Tryz.func35, Tryz.ntmps35
  go_wp2_with fail
  refine bodyPost_ret (results_cell1 rfl _ _ _ rfl (run_loadVar_row _ (w.heap.size + 1) 49 49 (answC 0 n data i k l s b (.slice na nn nc)) (0, 0) _ (Blk.new' (by simp) _ _) Tryz.underlying49 rfl (by kernel_rfl))) rfl ⟨rfl, ((Keeps.refl _ _).alloc _).alloc _⟩
end Go.Proofs.YtdafneilalompaaGreatDoor
