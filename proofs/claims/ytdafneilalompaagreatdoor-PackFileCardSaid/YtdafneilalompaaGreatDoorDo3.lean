/- answer and Do of create and symlink, to a tree of some kind. Conditions: those that each theorem names. -/
import Derived.Test.YtdafneilalompaaGreatDoorPackZ
namespace Go.Proofs.YtdafneilalompaaGreatDoor
open Go Go.RowKit
open Go.ChangeMaps (setBlock)

/-- From one tree to another of some kind. -/
def StepTo (P : St → Prop) (S : St) (w w' : World) : Prop := ∃ S1, P S1 ∧ Step S S1 w w'
set_option maxRecDepth 100000 in
set_option maxHeartbeats 2000000 in
theorem answer_create_to {w : World} {S : St} {P : St → Prop} (path other data : ByteArray) (off size : Int) (n : Int) (hn : ∀ W, Keeps (fun _ => False) w W → Calls Tryz.prog 71 #[.pointer (some ⟨S.F, 0, none⟩), .string path] W fun e w' => e = .returned (.tuple #[.int .i64 n, .int .i64 0]) ∧ StepTo P S W w') (hB : ∀ b, w.heap.size ≤ b → S.own b = none) :
    Calls Tryz.prog 38 #[.pointer (some ⟨S.F, 0, none⟩), callV 1 path other off size data] w fun e w' => e = .returned (answV 0 n ⟨#[]⟩ 0 0 0 0 0 (.slice none 0 0)) ∧ StepTo P S w w' := by
  unfold callV
  go_enter Tryz.func38, Tryz.ntmps38
  go_wp2_with fail
  have hK : Keeps (fun _ => False) w ((w.alloc (.cells #[.int .i64 1, .string path, .string other, .int .i64 off, .int .i64 size, .string data] 52)).alloc (.cells (answC 0 0 ⟨#[]⟩ 0 0 0 0 0 (.slice none 0 0)) 49)) := ((Keeps.refl _ _).alloc _).alloc _
  have hb := Blk.new' (w := w.alloc (.cells #[.int .i64 1, .string path, .string other, .int .i64 off, .int .i64 size, .string data] 52)) (n := w.heap.size + 1) (by simp) (answC 0 0 ⟨#[]⟩ 0 0 0 0 0 (.slice none 0 0)) 49
  refine (hn _ hK).mono ?_
  rintro e w2 ⟨rfl, S1, hP, hst⟩
  have hb2 : Blk w2 (w.heap.size + 1) _ 49 := hb.keeps hst.keeps (fun e => e (hB _ (by omega)))
  have hc := hb2.cell
  have hf := hb2.frz
  have hl := hb2.lt
  have HO := Lib.hid (show ∀ b, b = w.heap.size + 1 → S1.own b = none from fun b e => by
    cases ho : S1.own b with
    | none => rfl
    | some q => exact absurd (hB b (by omega)) (hst.new b (by rw [e]; exact hb.lt) (by rw [ho]; simp)))
  have HS := Lib.hid (hst.before hK)
  unfold answC at hc
  clear hst hn
  go_wp2_with fail
  have hb3 : Blk ((w2.setCell ⟨w.heap.size + 1, 1, none⟩ (.int .i64 n)).setCell ⟨w.heap.size + 1, 0, none⟩ (.int .i64 0)) (w.heap.size + 1) (answC 0 n ⟨#[]⟩ 0 0 0 0 0 (.slice none 0 0)) 49 := (hb2.set 1 (.int .i64 n)).set 0 (.int .i64 0)
  refine answ_end rfl (w.heap.size + 1) 0 n ⟨#[]⟩ 0 0 0 0 0 (.slice none 0 0) hb3 _ rfl ⟨rfl, S1, hP, ?_⟩
  exact HS.out.after (X := fun b => b = w.heap.size + 1) (((Keeps.refl (fun b => b = w.heap.size + 1) w2).setCell (p := ⟨w.heap.size + 1, 1, none⟩) (Or.inl rfl) _).setCell (p := ⟨w.heap.size + 1, 0, none⟩) (Or.inl rfl) _) (fun b e => HO.out b e) (fun b e hlt => by omega)
set_option maxRecDepth 100000 in
set_option maxHeartbeats 2000000 in
theorem answer_symlink_to {w : World} {S : St} {P : St → Prop} (path other data : ByteArray) (off size : Int) (n : Int) (hn : ∀ W, Keeps (fun _ => False) w W → Calls Tryz.prog 73 #[.pointer (some ⟨S.F, 0, none⟩), .string other, .string path] W fun e w' => e = .returned (.tuple #[.int .i64 n, .int .i64 0]) ∧ StepTo P S W w') (hB : ∀ b, w.heap.size ≤ b → S.own b = none) :
    Calls Tryz.prog 38 #[.pointer (some ⟨S.F, 0, none⟩), callV 10 path other off size data] w fun e w' => e = .returned (answV 0 n ⟨#[]⟩ 0 0 0 0 0 (.slice none 0 0)) ∧ StepTo P S w w' := by
  unfold callV
  go_enter Tryz.func38, Tryz.ntmps38
  go_wp2_with fail
  have hK : Keeps (fun _ => False) w ((w.alloc (.cells #[.int .i64 10, .string path, .string other, .int .i64 off, .int .i64 size, .string data] 52)).alloc (.cells (answC 0 0 ⟨#[]⟩ 0 0 0 0 0 (.slice none 0 0)) 49)) := ((Keeps.refl _ _).alloc _).alloc _
  have hb := Blk.new' (w := w.alloc (.cells #[.int .i64 10, .string path, .string other, .int .i64 off, .int .i64 size, .string data] 52)) (n := w.heap.size + 1) (by simp) (answC 0 0 ⟨#[]⟩ 0 0 0 0 0 (.slice none 0 0)) 49
  refine (hn _ hK).mono ?_
  rintro e w2 ⟨rfl, S1, hP, hst⟩
  have hb2 : Blk w2 (w.heap.size + 1) _ 49 := hb.keeps hst.keeps (fun e => e (hB _ (by omega)))
  have hc := hb2.cell
  have hf := hb2.frz
  have hl := hb2.lt
  have HO := Lib.hid (show ∀ b, b = w.heap.size + 1 → S1.own b = none from fun b e => by
    cases ho : S1.own b with
    | none => rfl
    | some q => exact absurd (hB b (by omega)) (hst.new b (by rw [e]; exact hb.lt) (by rw [ho]; simp)))
  have HS := Lib.hid (hst.before hK)
  unfold answC at hc
  clear hst hn
  go_wp2_with fail
  have hb3 : Blk ((w2.setCell ⟨w.heap.size + 1, 1, none⟩ (.int .i64 n)).setCell ⟨w.heap.size + 1, 0, none⟩ (.int .i64 0)) (w.heap.size + 1) (answC 0 n ⟨#[]⟩ 0 0 0 0 0 (.slice none 0 0)) 49 := (hb2.set 1 (.int .i64 n)).set 0 (.int .i64 0)
  refine answ_end rfl (w.heap.size + 1) 0 n ⟨#[]⟩ 0 0 0 0 0 (.slice none 0 0) hb3 _ rfl ⟨rfl, S1, hP, ?_⟩
  exact HS.out.after (X := fun b => b = w.heap.size + 1) (((Keeps.refl (fun b => b = w.heap.size + 1) w2).setCell (p := ⟨w.heap.size + 1, 1, none⟩) (Or.inl rfl) _).setCell (p := ⟨w.heap.size + 1, 0, none⟩) (Or.inl rfl) _) (fun b e => HO.out b e) (fun b e hlt => by omega)


/-- Do, from one tree to another. -/
theorem do_step {w : World} {S : St} (h : Rep w S) {P : St → Prop} (kind : Int) (path other data : ByteArray) (off size : Int) (n : Int)
    (hans : ∀ W, Keeps (fun _ => False) w W → Calls Tryz.prog 38 #[.pointer (some ⟨S.F, 0, none⟩), callV kind path other off size data] W fun e w' => e = .returned (answV 0 n ⟨#[]⟩ 0 0 0 0 0 (.slice none 0 0)) ∧ StepTo P S W w') :
    Calls Tryz.prog 15 #[.pointer (some ⟨S.F, 0, none⟩), callV kind path other off size data] w fun e w' => e = .returned (answV 0 n ⟨#[]⟩ 0 0 0 0 0 (.slice none 0 0)) ∧ StepTo P S w w' := by
  have hB := h.B
  have hfree : ∀ b, w.heap.size ≤ b → S.own b = none := fun b hb => by
    cases ho : S.own b with
    | none => rfl
    | some q => have := h.lt b (by rw [ho]; simp); omega
  refine (Do_ok kind path other data off size n ⟨#[]⟩ 0 0 0 0 0 none 0 0 (fun W w' => w.heap.size ≤ W.heap.size ∧ StepTo P S W w') (fun W k => (hans W k).mono (by rintro e w' ⟨rfl, hs⟩; exact ⟨rfl, k.size, hs⟩)) ?_).mono ?_
  · rintro W w' ⟨_, S1, _, hst⟩ b cs t hb hblk
    exact hblk.keeps hst.keeps (fun e => e (hfree b hb))
  · rintro e w' ⟨rfl, W, w1, k, ⟨_, S1, hP, hst⟩, k2⟩
    refine ⟨rfl, S1, hP, (hst.before k).after k2 (fun b hb => ?_) (fun b hb hlt => by omega)⟩
    cases ho : S1.own b with
    | none => rfl
    | some q => exact absurd (hfree b hb.1) (hst.new b hb.2 (by rw [ho]; simp))
end Go.Proofs.YtdafneilalompaaGreatDoor
