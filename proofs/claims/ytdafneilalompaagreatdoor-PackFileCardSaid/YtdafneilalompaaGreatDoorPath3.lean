/- Parse, Text and Make of a path. Conditions: those that each theorem names. -/
import Derived.Test.YtdafneilalompaaGreatDoorPath2
import Derived.Test.YtdafneilalompaaGreatDoorShelf
namespace Go.Proofs.YtdafneilalompaaGreatDoor
open Go Go.RowKit Go.Shelf
open Go.ChangeMaps (setBlock)

theorem ret_bool {a b : Bool} (h : a = b) : Ending.returned (.bool a) = .returned (.bool b) := by rw [h]
/-- What is wrong with a text ahead of its pieces. -/
def wrongB (s : ByteArray) (p : Bool) : Bool :=
  s.toList.isEmpty || (decide (0 ≤ Lib.indexByte s.data.toList 0) || (p && s.data.toList.headD 0 != 47))

set_option maxRecDepth 100000 in
set_option maxHeartbeats 1000000 in
theorem wrong_any (s : ByteArray) (p : Bool) (w : World) :
    Calls Tryz.prog 185 #[.string s, .bool p] w fun e w' => e = .returned (.bool (wrongB s p)) ∧ w = w' := by
  by_cases he : s.toList.isEmpty = true
  · have hr : wrongB s p = true := by simp [wrongB, he]
    have HR := Lib.hid hr
    clear hr
    go_enter Tryz.func185, Tryz.ntmps185
    go_wp2_with fail
    go_ret
    exact ⟨by rw [HR.out]; rfl, rfl⟩
  · have he' : s.toList.isEmpty = false := by simpa using he
    have hz := Lib.hid (show wrongB s p = (decide (0 ≤ Lib.indexByte s.data.toList 0) || (p && s.data.toList.headD 0 != 47)) by simp [wrongB, he'])
    have hpos : 0 < s.size := by
      rw [ByteArray.toList_eq] at he'
      have : s.data.toList ≠ [] := by simpa using he'
      have h2 : 0 < s.data.toList.length := List.length_pos_iff.2 this
      simpa using h2
    clear he
    by_cases h0 : 0 ≤ Lib.indexByte s.data.toList 0
    · have hr : wrongB s p = true := by rw [hz.out]; simp [h0]
      have HR := Lib.hid hr
      clear hr
      go_enter Tryz.func185, Tryz.ntmps185
      go_wp2_with (first | (go_at_call 228; refine (Tryz.strings_IndexByte s 0 _).mono ?_; rintro e w' ⟨rfl, rfl⟩) | fail)
      go_ret
      exact ⟨by rw [HR.out]; rfl, rfl⟩
    · have hlt : Lib.indexByte s.data.toList 0 < 0 := by omega
      have hhd : s.data.toList.headD 0 = s[0] := by
        have e1 : s.data.toList.headD 0 = s.data.toList.getD 0 0 := by cases s.data.toList <;> rfl
        have h2 : 0 < s.data.size := hpos
        rw [e1]
        simp only [List.getD, Array.getElem?_toList, Array.getElem?_eq_getElem h2, Option.getD_some]
        rfl
      have h47 : (s[0] != 47) = ((s[0].toNat : Int) != 47) := by rw [← isCh_get hpos, isCh_int hpos]
      cases p with
      | false =>
        have hr : wrongB s false = false := by rw [hz.out]; simp [h0]
        have HR := Lib.hid hr
        clear hr h0 hhd h47
        go_enter Tryz.func185, Tryz.ntmps185
        go_wp2_with (first | (go_at_call 228; refine (Tryz.strings_IndexByte s 0 _).mono ?_; rintro e w' ⟨rfl, rfl⟩) | fail)
        go_ret
        exact ⟨ret_bool (by rw [HR.out]; simp; omega), rfl⟩
      | true =>
        have hr : wrongB s true = ((s[0].toNat : Int) != 47) := by rw [hz.out, hhd, h47]; simp [h0]
        have HR := Lib.hid hr
        clear hr h0 hhd h47
        go_enter Tryz.func185, Tryz.ntmps185
        go_wp2_with (first | (go_at_call 228; refine (Tryz.strings_IndexByte s 0 _).mono ?_; rintro e w' ⟨rfl, rfl⟩) | fail)
        go_ret
        exact ⟨ret_bool (by rw [HR.out]; have : decide (0 ≤ Lib.indexByte s.data.toList 0) = false := by simp; omega
                            rw [this]; rfl), rfl⟩
def dotdot : ByteArray := ⟨#[46, 46]⟩
/-- Is a text one of the dots? -/
def dotsB (s : ByteArray) : Bool := decide (s = dot ∨ s = dotdot)
theorem zero253 (w : World) : (zeroValue 253).run Tryz.prog w = .ok .nilFunc w := by kernel_rfl

set_option maxRecDepth 100000 in
set_option maxHeartbeats 1000000 in
theorem does_any (s : ByteArray) (w : World) :
    Calls Tryz.prog 200 #[.string s] w fun e w' => ∃ f, e = .returned (.tuple #[f, .bool (dotsB s)]) ∧ Keeps (fun _ => False) w w' := by
  have hmm := @run_makeMap Tryz.prog
  obtain ⟨o1, hm1, hr1⟩ := (MapO.empty kStr).update kStr (t := 277) (e := 253) Tryz.underlying277 w.heap.size ⟨#[46]⟩ (.func (.func 233) #[] #[])
  obtain ⟨o2, hm2, hr2⟩ := hm1.update kStr (t := 277) (e := 253) Tryz.underlying277 w.heap.size ⟨#[46, 46]⟩ (.func (.func 234) #[] #[])
  have hl := hm2.lookup_ok kStr (t := 277) (e := 253) Tryz.underlying277 zero253 w.heap.size s
  have hsome : ((upd (⟨#[46, 46]⟩ : ByteArray) (Value.func (.func 234) #[] #[]) (upd (⟨#[46]⟩ : ByteArray) (Value.func (.func 233) #[] #[]) [])).lookup s).isSome = dotsB s := by
    have h1 : ((⟨#[46, 46]⟩ : ByteArray) == ⟨#[46]⟩) = false := by decide
    simp only [upd, h1, Bool.false_eq_true, if_false, List.lookup_cons, List.lookup_nil]
    by_cases e1 : s = dot
    · subst e1; simp [dot, dotsB]
    · have e1' : (s == (⟨#[46]⟩ : ByteArray)) = false := by rw [beq_eq_false_iff_ne]; exact e1
      by_cases e2 : s = dotdot
      · subst e2; simp only [dotdot, dotsB]; simp [h1]
      · have e2' : (s == (⟨#[46, 46]⟩ : ByteArray)) = false := by rw [beq_eq_false_iff_ne]; exact e2
        simp [e1', e2', e1, e2, dotsB]
  rw [hsome] at hl
  generalize ((upd (⟨#[46, 46]⟩ : ByteArray) (Value.func (.func 234) #[] #[]) (upd (⟨#[46]⟩ : ByteArray) (Value.func (.func 233) #[] #[]) [])).lookup s).getD .nilFunc = f at hl
  clear hsome hm1 hm2
  change ∀ W, ob W w.heap.size = some (.map #[] 0) → (Instr.mapUpdate 277 (.map (some w.heap.size)) (.string ⟨#[46]⟩) (.func (.func 233) #[] #[])).run Tryz.prog W = .ok () (setBlock W w.heap.size o1) at hr1
  change ∀ W, ob W w.heap.size = some o1 → (Instr.mapUpdate 277 (.map (some w.heap.size)) (.string ⟨#[46, 46]⟩) (.func (.func 234) #[] #[])).run Tryz.prog W = .ok () (setBlock W w.heap.size o2) at hr2
  change ∀ W, ob W w.heap.size = some o2 → (Instr.lookup 277 (.map (some w.heap.size)) (.string s) true).run Tryz.prog W = .ok (.tuple #[f, .bool (dotsB s)]) W at hl
  go_enter Tryz.func200, Tryz.ntmps200
  go_wp2
  go_ret2
  exact ⟨f, rfl, (((Keeps.refl _ _).alloc _).setBlock (Or.inr (Nat.le_refl _)) _).setBlock (Or.inr (Nat.le_refl _)) _⟩
end Go.Proofs.YtdafneilalompaaGreatDoor
