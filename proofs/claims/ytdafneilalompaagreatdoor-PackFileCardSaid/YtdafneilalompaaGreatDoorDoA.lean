/- Calls as plain data: writePath, cutPath; what a step from tree to tree leaves. Conditions: those that each theorem names. answer and Do: the calls that change a tree. Conditions: those that each theorem names. answer of a write; Do. Conditions: those that each theorem names. -/
import Derived.Test.YtdafneilalompaaGreatDoorCall6
namespace Go.Proofs.YtdafneilalompaaGreatDoor
section
open Go Go.RowKit
open Go.ChangeMaps (setBlock)

/-- From one tree to another. -/
structure Step (S S1 : St) (w w' : World) : Prop where
  rep : ∃ B, w.heap.size ≤ B ∧ Rep w' (S1.fresh B)
  keeps : Keeps (fun b => S.own b ≠ none) w w'
  new : ∀ b, b < w.heap.size → S1.own b ≠ none → S.own b ≠ none
theorem Step.before {S S1 : St} {w W w' : World} (h : Step S S1 W w') (k : Keeps (fun _ => False) w W) : Step S S1 w w' :=
  ⟨by obtain ⟨B, h1, h2⟩ := h.rep; exact ⟨B, Nat.le_trans k.size h1, h2⟩, k.trans h.keeps (fun _ _ x => x.elim) (fun _ _ x => x), fun b hb => h.new b (Nat.lt_of_lt_of_le hb k.size)⟩
theorem Step.after {S S1 : St} {w w1 w' : World} (h : Step S S1 w w1) {X : Nat → Prop} (k : Keeps X w1 w') (hX : ∀ b, X b → S1.own b = none) (hX2 : ∀ b, X b → b < w.heap.size → False) : Step S S1 w w' :=
  ⟨by
    obtain ⟨B, h1, h2⟩ := h.rep
    exact ⟨B, h1, h2.keeps k (fun b hb hx => by
      rcases hb with hb | hb
      · exact hb (hX b hx)
      · cases hb)⟩, h.keeps.trans k (fun _ _ x => x) (fun b hb hx => (hX2 b hx hb).elim), h.new⟩
theorem Step.same {S S1 : St} {w w' : World} (ho : S1.own = S.own) (h : ∃ B, w.heap.size ≤ B ∧ Rep w' (S1.fresh B) ∧ Keeps (fun b => S.own b ≠ none) w w') : Step S S1 w w' := by
  obtain ⟨B, h1, h2, h3⟩ := h
  exact ⟨⟨B, h1, h2⟩, h3, fun b _ e => by rw [← ho]; exact e⟩
theorem Step.added {S S1 : St} {w w' : World} {i : Int} {x : Nd} (ho : S1.own = (S.add i x).own) (h1 : w.heap.size ≤ x.blk) (h2 : ∀ b L, x.pcs = some (b, L) → w.heap.size ≤ b) (h3 : ∀ b L, x.nms = some (b, L) → w.heap.size ≤ b)
    (h : ∃ B, w.heap.size ≤ B ∧ Rep w' (S1.fresh B) ∧ Keeps (fun b => S.own b ≠ none) w w') : Step S S1 w w' := by
  obtain ⟨B, k1, k2, k3⟩ := h
  refine ⟨⟨B, k1, k2⟩, k3, fun b hb e => ?_⟩
  rw [ho, add_own (by omega)] at e
  · exact e
  · intro e2
    cases hp : x.pcs with
    | none => rw [hp] at e2; cases e2
    | some q => rw [hp] at e2; have e3 : q.1 = b := by simpa using e2
                have := h2 q.1 q.2 hp; omega
  · intro e2
    cases hp : x.nms with
    | none => rw [hp] at e2; cases e2
    | some q => rw [hp] at e2; have e3 : q.1 = b := by simpa using e2
                have := h3 q.1 q.2 hp; omega

/-- A call as plain data. -/
def callV (kind : Int) (path other : ByteArray) (off size : Int) (data : ByteArray) : Value := .agg #[.int .i64 kind, .string path, .string other, .int .i64 off, .int .i64 size, .string data]

set_option maxRecDepth 100000 in
set_option maxHeartbeats 2000000 in
theorem writePath_ok {w : World} {S : St} (h : Rep w S) (hw : S.Wf) (kind : Int) (path other : ByteArray) (off : Nat) (size : Int) (data : ByteArray) (hp0 : path.size ≤ 9000000000000000000) {i : Int} (hF : fileR S path = (i, 0)) (hi : i ∈ S.keys) (hk : (S.nd i).kind = 1)
    {b : Nat} {L : List (Int × List UInt8)} (hp : (S.nd i).pcs = some (b, L)) (hs : data.size ≤ 16384) (ho : off + data.size ≤ 8459264)
    (S1 : St) (hS1 : S1 = S.put i ((S.nd i).wroteAt b L off data)) (hW1 : S1.Wf) (htk : S1.taken ≤ S.g0 - S.g3) :
    Calls Tryz.prog 75 #[.pointer (some ⟨S.F, 0, none⟩), callV kind path other off size data] w fun e w' => e = .returned (.int .i64 0) ∧ Step S S1 w w' := by
  have HA := Lib.hid (And.intro hF (And.intro hk (And.intro hp (And.intro hS1 (And.intro hW1 htk)))))
  clear hF hk hp hS1 hW1 htk
  unfold callV
  go_enter Tryz.func75, Tryz.ntmps75
  go_wp2_with fail
  obtain ⟨hF, hk, hp, hS1, hW1, htk⟩ := HA.out
  have hK1 : Keeps (fun _ => False) w (w.alloc (.cells #[.int .i64 kind, .string path, .string other, .int .i64 off, .int .i64 size, .string data] 52)) := (Keeps.refl _ _).alloc _
  have hb1 := Blk.new w #[.int .i64 kind, .string path, .string other, .int .i64 off, .int .i64 size, .string data] 52
  generalize w.alloc (.cells #[.int .i64 kind, .string path, .string other, .int .i64 off, .int .i64 size, .string data] 52) = w1 at *
  refine (file_any (h.keeps hK1 (fun _ _ x => x)) hw path hp0 _ hF).mono ?_
  rintro e w2 ⟨rfl, hk2⟩
  have hK2 := hK1.then hk2
  have hb2 := hb1.keeps hk2 (fun x => x)
  have c3 : w2.cell? ⟨w.heap.size, 3, none⟩ = some (.int .i64 off) := hb2.cell 3
  have c5 : w2.cell? ⟨w.heap.size, 5, none⟩ = some (.string data) := hb2.cell 5
  clear hF hk hp hS1 hk2
  go_wp2_with fail
  obtain ⟨hF, hk, hp, hS1, hW1, htk⟩ := HA.out
  refine (WriteAt_ok (h.keeps hK2 (fun _ _ x => x)) hw hi hk hp off data hs ho S1 hS1 hW1 htk).mono ?_
  rintro e w3 ⟨rfl, hst⟩
  have ho1 : S1.own = S.own := by rw [hS1]; rfl
  have HS := Lib.hid ((Step.same ho1 hst).before hK2)
  clear hF hk hp hS1 hst ho1
  go_wp2_with fail
  go_ret
  exact ⟨rfl, HS.out⟩

set_option maxRecDepth 100000 in
set_option maxHeartbeats 2000000 in
theorem cutPath_ok {w : World} {S : St} (h : Rep w S) (hw : S.Wf) (kind : Int) (path other : ByteArray) (off : Int) (z : Int) (data : ByteArray) (hp0 : path.size ≤ 9000000000000000000) {i : Int} (hF : fileR S path = (i, 0)) (hi : i ∈ S.keys) (hk : (S.nd i).kind = 1)
    (h1 : (S.nd i).size ≤ z) (h2 : z ≤ 8459264) (S1 : St) (hS1 : S1 = S.put i { S.nd i with size := z }) (hW1 : S1.Wf) (htk : S1.taken ≤ S.g0 - S.g3) :
    Calls Tryz.prog 76 #[.pointer (some ⟨S.F, 0, none⟩), callV kind path other off z data] w fun e w' => e = .returned (.int .i64 0) ∧ Step S S1 w w' := by
  have hz0 : 0 ≤ z := by have := (hw.sizes i hi).1; omega
  have HA := Lib.hid (And.intro hF (And.intro hk (And.intro hS1 (And.intro hW1 (And.intro htk h1)))))
  clear hF hk hS1 hW1 htk h1
  unfold callV
  go_enter Tryz.func76, Tryz.ntmps76
  go_wp2_with fail
  obtain ⟨hF, hk, hS1, hW1, htk, h1⟩ := HA.out
  have hK1 : Keeps (fun _ => False) w (w.alloc (.cells #[.int .i64 kind, .string path, .string other, .int .i64 off, .int .i64 z, .string data] 52)) := (Keeps.refl _ _).alloc _
  have hb1 := Blk.new w #[.int .i64 kind, .string path, .string other, .int .i64 off, .int .i64 z, .string data] 52
  generalize w.alloc (.cells #[.int .i64 kind, .string path, .string other, .int .i64 off, .int .i64 z, .string data] 52) = w1 at *
  refine (file_any (h.keeps hK1 (fun _ _ x => x)) hw path hp0 _ hF).mono ?_
  rintro e w2 ⟨rfl, hk2⟩
  have hK2 := hK1.then hk2
  have hb2 := hb1.keeps hk2 (fun x => x)
  have c4 : w2.cell? ⟨w.heap.size, 4, none⟩ = some (.int .i64 z) := hb2.cell 4
  clear hF hk hS1 hk2
  go_wp2_with fail
  obtain ⟨hF, hk, hS1, hW1, htk, h1⟩ := HA.out
  refine (CutAt_ok (h.keeps hK2 (fun _ _ x => x)) hw hi hk z _ rfl h1 h2 S1 hS1 hW1 htk).mono ?_
  rintro e w3 ⟨rfl, hst⟩
  have ho1 : S1.own = S.own := by rw [hS1]; rfl
  have HS := Lib.hid ((Step.same ho1 hst).before hK2)
  clear hF hk hS1 hst ho1
  go_wp2_with fail
  go_ret
  exact ⟨rfl, HS.out⟩
end
section
open Go Go.RowKit
open Go.ChangeMaps (setBlock)

/-- An answer's cells. -/
def answC (err n : Int) (data : ByteArray) (i k l s b : Int) (names : Value) : Array Value :=
  #[.int .i64 err, .int .i64 n, .string data, .int .i64 i, .int .i64 k, .int .i64 l, .int .i64 s, .int .i64 b, names, .int .i64 0, .int .i64 0, .int .i64 0, .int .i64 0]
def answV (err n : Int) (data : ByteArray) (i k l s b : Int) (names : Value) : Value := .agg (answC err n data i k l s b names)

/-- All of an answer's cells, written over. -/
def over13 (W : World) (p : Nat) (err n : Int) (data : ByteArray) (i k l s b : Int) (names : Value) : World :=
  ((((((((((((W.setCell ⟨p, 0, none⟩ (.int .i64 err)).setCell ⟨p, 1, none⟩ (.int .i64 n)).setCell ⟨p, 2, none⟩ (.string data)).setCell ⟨p, 3, none⟩ (.int .i64 i)).setCell ⟨p, 4, none⟩ (.int .i64 k)).setCell ⟨p, 5, none⟩ (.int .i64 l)).setCell ⟨p, 6, none⟩ (.int .i64 s)).setCell ⟨p, 7, none⟩ (.int .i64 b)).setCell ⟨p, 8, none⟩ names).setCell ⟨p, 9, none⟩ (.int .i64 0)).setCell ⟨p, 10, none⟩ (.int .i64 0)).setCell ⟨p, 11, none⟩ (.int .i64 0)).setCell ⟨p, 12, none⟩ (.int .i64 0)
theorem setCell_same {W : World} {b : Nat} {cs : Array Value} {t : TypeId} (h : Blk W b cs t) (o : Nat) (v : Value) (hv : cs[o]? = some v) : W.setCell ⟨b, o, none⟩ v = W := by
  rw [setCell_block h]
  have : cs.setIfInBounds o v = cs := by
    apply Array.ext_getElem?
    intro i
    rw [Array.getElem?_setIfInBounds]
    split
    · rename_i e; subst e
      split
      · exact hv.symm
      · rename_i h2; exact absurd (Array.getElem?_eq_some_iff.1 hv).1 h2
    · rfl
  rw [this, setBlock_self h]
theorem over13_same {W : World} {p : Nat} {err n : Int} {data : ByteArray} {i k l s b : Int} {names : Value} (h : Blk W p (answC err n data i k l s b names) 49) : over13 W p err n data i k l s b names = W := by
  unfold over13
  rw [setCell_same h 0 (.int .i64 err) rfl, setCell_same h 1 (.int .i64 n) rfl, setCell_same h 2 (.string data) rfl, setCell_same h 3 (.int .i64 i) rfl, setCell_same h 4 (.int .i64 k) rfl, setCell_same h 5 (.int .i64 l) rfl, setCell_same h 6 (.int .i64 s) rfl, setCell_same h 7 (.int .i64 b) rfl, setCell_same h 8 names rfl, setCell_same h 9 (.int .i64 0) rfl, setCell_same h 10 (.int .i64 0) rfl, setCell_same h 11 (.int .i64 0) rfl, setCell_same h 12 (.int .i64 0) rfl]
theorem answ_end {fn : Func} (hfn : fn.results = #[.cell 4 49]) {W : World} {Q : Ending → World → Prop} (p : Nat) (err n : Int) (data : ByteArray) (i k l s b : Int) (names : Value) (hb : Blk W p (answC err n data i k l s b names) 49)
    (tmps : Array Value) (h4 : tmps.getD 4 undef = .pointer (some ⟨p, 0, none⟩)) (hQ : Q (.returned (answV err n data i k l s b names)) W) :
    bodyPost Tryz.prog fn Q Exit.ret { tmps := tmps, defers := [] } (over13 W p err n data i k l s b names) := by
  rw [over13_same hb]
  exact bodyPost_ret (results_cell1 hfn _ _ _ h4 (run_loadVar_row _ _ 49 49 _ _ _ hb Tryz.underlying49 rfl (by kernel_rfl))) rfl hQ

set_option maxRecDepth 100000 in
set_option maxHeartbeats 2000000 in
theorem answer_create {w : World} {S S1 : St} (path other data : ByteArray) (off size : Int) (n : Int) (hn : ∀ W, Keeps (fun _ => False) w W → Calls Tryz.prog 71 #[.pointer (some ⟨S.F, 0, none⟩), .string path] W fun e w' => e = .returned (.tuple #[.int .i64 n, .int .i64 0]) ∧ Step S S1 W w') (hB : ∀ b, w.heap.size ≤ b → S.own b = none) :
    Calls Tryz.prog 38 #[.pointer (some ⟨S.F, 0, none⟩), callV 1 path other off size data] w fun e w' => e = .returned (answV 0 n ⟨#[]⟩ 0 0 0 0 0 (.slice none 0 0)) ∧ Step S S1 w w' := by
  unfold callV
  go_enter Tryz.func38, Tryz.ntmps38
  go_wp2_with fail
  have hK : Keeps (fun _ => False) w ((w.alloc (.cells #[.int .i64 1, .string path, .string other, .int .i64 off, .int .i64 size, .string data] 52)).alloc (.cells (answC 0 0 ⟨#[]⟩ 0 0 0 0 0 (.slice none 0 0)) 49)) := ((Keeps.refl _ _).alloc _).alloc _
  have hb := Blk.new' (w := w.alloc (.cells #[.int .i64 1, .string path, .string other, .int .i64 off, .int .i64 size, .string data] 52)) (n := w.heap.size + 1) (by simp) (answC 0 0 ⟨#[]⟩ 0 0 0 0 0 (.slice none 0 0)) 49
  refine (hn _ hK).mono ?_
  rintro e w2 ⟨rfl, hst⟩
  have hb2 : Blk w2 (w.heap.size + 1) _ 49 := hb.keeps hst.keeps (fun e => e (hB _ (by omega)))
  have hc := hb2.cell
  have hf := hb2.frz
  have hl := hb2.lt
  have HO := Lib.hid (show ∀ b, b = w.heap.size + 1 → S1.own b = none from fun b e => by
    cases ho : S1.own b with
    | none => rfl
    | some q => exact absurd (hB b (by omega)) (hst.new b (by rw [e]; exact hb.lt) (by rw [ho]; simp)))
  have HS := Lib.hid (hst.before hK)
  unfold answC at hc
  clear hst hn
  go_wp2_with fail
  have hb3 : Blk ((w2.setCell ⟨w.heap.size + 1, 1, none⟩ (.int .i64 n)).setCell ⟨w.heap.size + 1, 0, none⟩ (.int .i64 0)) (w.heap.size + 1) (answC 0 n ⟨#[]⟩ 0 0 0 0 0 (.slice none 0 0)) 49 := (hb2.set 1 (.int .i64 n)).set 0 (.int .i64 0)
  refine answ_end rfl (w.heap.size + 1) 0 n ⟨#[]⟩ 0 0 0 0 0 (.slice none 0 0) hb3 _ rfl ⟨rfl, ?_⟩
  exact HS.out.after (X := fun b => b = w.heap.size + 1) (((Keeps.refl (fun b => b = w.heap.size + 1) w2).setCell (p := ⟨w.heap.size + 1, 1, none⟩) (Or.inl rfl) _).setCell (p := ⟨w.heap.size + 1, 0, none⟩) (Or.inl rfl) _) (fun b e => HO.out b e) (fun b e hlt => by omega)
set_option maxRecDepth 100000 in
set_option maxHeartbeats 2000000 in
theorem answer_truncate {w : World} {S S1 : St} (path other data : ByteArray) (off size : Int) (hn : ∀ W, Keeps (fun _ => False) w W → Calls Tryz.prog 76 #[.pointer (some ⟨S.F, 0, none⟩), callV 5 path other off size data] W fun e w' => e = .returned (.int .i64 0) ∧ Step S S1 W w') (hB : ∀ b, w.heap.size ≤ b → S.own b = none) :
    Calls Tryz.prog 38 #[.pointer (some ⟨S.F, 0, none⟩), callV 5 path other off size data] w fun e w' => e = .returned (answV 0 0 ⟨#[]⟩ 0 0 0 0 0 (.slice none 0 0)) ∧ Step S S1 w w' := by
  unfold callV
  go_enter Tryz.func38, Tryz.ntmps38
  go_wp2_with fail
  have hK : Keeps (fun _ => False) w ((w.alloc (.cells #[.int .i64 5, .string path, .string other, .int .i64 off, .int .i64 size, .string data] 52)).alloc (.cells (answC 0 0 ⟨#[]⟩ 0 0 0 0 0 (.slice none 0 0)) 49)) := ((Keeps.refl _ _).alloc _).alloc _
  have hb := Blk.new' (w := w.alloc (.cells #[.int .i64 5, .string path, .string other, .int .i64 off, .int .i64 size, .string data] 52)) (n := w.heap.size + 1) (by simp) (answC 0 0 ⟨#[]⟩ 0 0 0 0 0 (.slice none 0 0)) 49
  refine (hn _ hK).mono ?_
  rintro e w2 ⟨rfl, hst⟩
  have hb2 : Blk w2 (w.heap.size + 1) _ 49 := hb.keeps hst.keeps (fun e => e (hB _ (by omega)))
  have hc := hb2.cell
  have hf := hb2.frz
  have hl := hb2.lt
  have HO := Lib.hid (show ∀ b, b = w.heap.size + 1 → S1.own b = none from fun b e => by
    cases ho : S1.own b with
    | none => rfl
    | some q => exact absurd (hB b (by omega)) (hst.new b (by rw [e]; exact hb.lt) (by rw [ho]; simp)))
  have HS := Lib.hid (hst.before hK)
  unfold answC at hc
  clear hst hn
  go_wp2_with fail
  have hb3 : Blk (w2.setCell ⟨w.heap.size + 1, 0, none⟩ (.int .i64 0)) (w.heap.size + 1) (answC 0 0 ⟨#[]⟩ 0 0 0 0 0 (.slice none 0 0)) 49 := hb2.set 0 (.int .i64 0)
  refine answ_end rfl (w.heap.size + 1) 0 0 ⟨#[]⟩ 0 0 0 0 0 (.slice none 0 0) hb3 _ rfl ⟨rfl, ?_⟩
  exact HS.out.after (X := fun b => b = w.heap.size + 1) ((Keeps.refl (fun b => b = w.heap.size + 1) w2).setCell (p := ⟨w.heap.size + 1, 0, none⟩) (Or.inl rfl) _) (fun b e => HO.out b e) (fun b e hlt => by omega)
set_option maxRecDepth 100000 in
set_option maxHeartbeats 2000000 in
theorem answer_link {w : World} {S S1 : St} (path other data : ByteArray) (off size : Int) (hn : ∀ W, Keeps (fun _ => False) w W → Calls Tryz.prog 80 #[.pointer (some ⟨S.F, 0, none⟩), .string path, .string other] W fun e w' => e = .returned (.int .i64 0) ∧ Step S S1 W w') (hB : ∀ b, w.heap.size ≤ b → S.own b = none) :
    Calls Tryz.prog 38 #[.pointer (some ⟨S.F, 0, none⟩), callV 9 path other off size data] w fun e w' => e = .returned (answV 0 0 ⟨#[]⟩ 0 0 0 0 0 (.slice none 0 0)) ∧ Step S S1 w w' := by
  unfold callV
  go_enter Tryz.func38, Tryz.ntmps38
  go_wp2_with fail
  have hK : Keeps (fun _ => False) w ((w.alloc (.cells #[.int .i64 9, .string path, .string other, .int .i64 off, .int .i64 size, .string data] 52)).alloc (.cells (answC 0 0 ⟨#[]⟩ 0 0 0 0 0 (.slice none 0 0)) 49)) := ((Keeps.refl _ _).alloc _).alloc _
  have hb := Blk.new' (w := w.alloc (.cells #[.int .i64 9, .string path, .string other, .int .i64 off, .int .i64 size, .string data] 52)) (n := w.heap.size + 1) (by simp) (answC 0 0 ⟨#[]⟩ 0 0 0 0 0 (.slice none 0 0)) 49
  refine (hn _ hK).mono ?_
  rintro e w2 ⟨rfl, hst⟩
  have hb2 : Blk w2 (w.heap.size + 1) _ 49 := hb.keeps hst.keeps (fun e => e (hB _ (by omega)))
  have hc := hb2.cell
  have hf := hb2.frz
  have hl := hb2.lt
  have HO := Lib.hid (show ∀ b, b = w.heap.size + 1 → S1.own b = none from fun b e => by
    cases ho : S1.own b with
    | none => rfl
    | some q => exact absurd (hB b (by omega)) (hst.new b (by rw [e]; exact hb.lt) (by rw [ho]; simp)))
  have HS := Lib.hid (hst.before hK)
  unfold answC at hc
  clear hst hn
  go_wp2_with fail
  have hb3 : Blk (w2.setCell ⟨w.heap.size + 1, 0, none⟩ (.int .i64 0)) (w.heap.size + 1) (answC 0 0 ⟨#[]⟩ 0 0 0 0 0 (.slice none 0 0)) 49 := hb2.set 0 (.int .i64 0)
  refine answ_end rfl (w.heap.size + 1) 0 0 ⟨#[]⟩ 0 0 0 0 0 (.slice none 0 0) hb3 _ rfl ⟨rfl, ?_⟩
  exact HS.out.after (X := fun b => b = w.heap.size + 1) ((Keeps.refl (fun b => b = w.heap.size + 1) w2).setCell (p := ⟨w.heap.size + 1, 0, none⟩) (Or.inl rfl) _) (fun b e => HO.out b e) (fun b e hlt => by omega)
set_option maxRecDepth 100000 in
set_option maxHeartbeats 2000000 in
theorem answer_symlink {w : World} {S S1 : St} (path other data : ByteArray) (off size : Int) (n : Int) (hn : ∀ W, Keeps (fun _ => False) w W → Calls Tryz.prog 73 #[.pointer (some ⟨S.F, 0, none⟩), .string other, .string path] W fun e w' => e = .returned (.tuple #[.int .i64 n, .int .i64 0]) ∧ Step S S1 W w') (hB : ∀ b, w.heap.size ≤ b → S.own b = none) :
    Calls Tryz.prog 38 #[.pointer (some ⟨S.F, 0, none⟩), callV 10 path other off size data] w fun e w' => e = .returned (answV 0 n ⟨#[]⟩ 0 0 0 0 0 (.slice none 0 0)) ∧ Step S S1 w w' := by
  unfold callV
  go_enter Tryz.func38, Tryz.ntmps38
  go_wp2_with fail
  have hK : Keeps (fun _ => False) w ((w.alloc (.cells #[.int .i64 10, .string path, .string other, .int .i64 off, .int .i64 size, .string data] 52)).alloc (.cells (answC 0 0 ⟨#[]⟩ 0 0 0 0 0 (.slice none 0 0)) 49)) := ((Keeps.refl _ _).alloc _).alloc _
  have hb := Blk.new' (w := w.alloc (.cells #[.int .i64 10, .string path, .string other, .int .i64 off, .int .i64 size, .string data] 52)) (n := w.heap.size + 1) (by simp) (answC 0 0 ⟨#[]⟩ 0 0 0 0 0 (.slice none 0 0)) 49
  refine (hn _ hK).mono ?_
  rintro e w2 ⟨rfl, hst⟩
  have hb2 : Blk w2 (w.heap.size + 1) _ 49 := hb.keeps hst.keeps (fun e => e (hB _ (by omega)))
  have hc := hb2.cell
  have hf := hb2.frz
  have hl := hb2.lt
  have HO := Lib.hid (show ∀ b, b = w.heap.size + 1 → S1.own b = none from fun b e => by
    cases ho : S1.own b with
    | none => rfl
    | some q => exact absurd (hB b (by omega)) (hst.new b (by rw [e]; exact hb.lt) (by rw [ho]; simp)))
  have HS := Lib.hid (hst.before hK)
  unfold answC at hc
  clear hst hn
  go_wp2_with fail
  have hb3 : Blk ((w2.setCell ⟨w.heap.size + 1, 1, none⟩ (.int .i64 n)).setCell ⟨w.heap.size + 1, 0, none⟩ (.int .i64 0)) (w.heap.size + 1) (answC 0 n ⟨#[]⟩ 0 0 0 0 0 (.slice none 0 0)) 49 := (hb2.set 1 (.int .i64 n)).set 0 (.int .i64 0)
  refine answ_end rfl (w.heap.size + 1) 0 n ⟨#[]⟩ 0 0 0 0 0 (.slice none 0 0) hb3 _ rfl ⟨rfl, ?_⟩
  exact HS.out.after (X := fun b => b = w.heap.size + 1) (((Keeps.refl (fun b => b = w.heap.size + 1) w2).setCell (p := ⟨w.heap.size + 1, 1, none⟩) (Or.inl rfl) _).setCell (p := ⟨w.heap.size + 1, 0, none⟩) (Or.inl rfl) _) (fun b e => HO.out b e) (fun b e hlt => by omega)
end
section
open Go Go.RowKit
open Go.ChangeMaps (setBlock)

set_option maxRecDepth 100000 in
set_option maxHeartbeats 2000000 in
theorem answer_write {w : World} {S S1 : St} (path other data : ByteArray) (off size : Int) (hd : data.size ≤ 1000000) (hn : ∀ W, Keeps (fun _ => False) w W → Calls Tryz.prog 75 #[.pointer (some ⟨S.F, 0, none⟩), callV 4 path other off size data] W fun e w' => e = .returned (.int .i64 0) ∧ Step S S1 W w') (hB : ∀ b, w.heap.size ≤ b → S.own b = none) :
    Calls Tryz.prog 38 #[.pointer (some ⟨S.F, 0, none⟩), callV 4 path other off size data] w fun e w' => e = .returned (answV 0 data.size ⟨#[]⟩ 0 0 0 0 0 (.slice none 0 0)) ∧ Step S S1 w w' := by
  unfold callV
  unfold callV at hn
  have HN := Lib.hid hn
  clear hn
  go_enter Tryz.func38, Tryz.ntmps38
  go_upto_region 13 with fail
  have hK : Keeps (fun _ => False) w ((w.alloc (.cells #[.int .i64 4, .string path, .string other, .int .i64 off, .int .i64 size, .string data] 52)).alloc (.cells (answC 0 0 ⟨#[]⟩ 0 0 0 0 0 (.slice none 0 0)) 49)) := ((Keeps.refl _ _).alloc _).alloc _
  have hx := (Blk.new w #[.int .i64 4, .string path, .string other, .int .i64 off, .int .i64 size, .string data] 52).alloc (.cells (answC 0 0 ⟨#[]⟩ 0 0 0 0 0 (.slice none 0 0)) 49)
  have hb := Blk.new' (w := w.alloc (.cells #[.int .i64 4, .string path, .string other, .int .i64 off, .int .i64 size, .string data] 52)) (n := w.heap.size + 1) (by simp) (answC 0 0 ⟨#[]⟩ 0 0 0 0 0 (.slice none 0 0)) 49
  have hK' := hK
  unfold answC at hK'
  change Keeps (fun _ => False) w _ at hK'
  generalize hw1 : (w.alloc (.cells #[.int .i64 4, .string path, .string other, .int .i64 off, .int .i64 size, .string data] 52)).alloc (.cells (answC 0 0 ⟨#[]⟩ 0 0 0 0 0 (.slice none 0 0)) 49) = w1 at hK hx hb
  unfold answC at hw1
  rw [hw1]
  clear hw1 hK'
  have hcall : Calls Tryz.prog 75 #[.pointer (some ⟨S.F, 0, none⟩), .agg #[.int .i64 4, .string path, .string other, .int .i64 off, .int .i64 size, .string data]] w1.drew fun e w' => e = .returned (.int .i64 0) ∧
      (w'.cell? ⟨w.heap.size, 0, none⟩ = some (.int .i64 4) ∧ w'.cell? ⟨w.heap.size, 1, none⟩ = some (.string path) ∧ w'.cell? ⟨w.heap.size, 2, none⟩ = some (.string other) ∧ w'.cell? ⟨w.heap.size, 3, none⟩ = some (.int .i64 off) ∧ w'.cell? ⟨w.heap.size, 4, none⟩ = some (.int .i64 size) ∧ w'.cell? ⟨w.heap.size, 5, none⟩ = some (.string data)) ∧
      Blk w' (w.heap.size + 1) (answC 0 0 ⟨#[]⟩ 0 0 0 0 0 (.slice none 0 0)) 49 ∧ Blk w' w.heap.size #[.int .i64 4, .string path, .string other, .int .i64 off, .int .i64 size, .string data] 52 ∧ Step S S1 w w' ∧ (∀ b, b = w.heap.size + 1 → S1.own b = none) := by
    refine (HN.out w1.drew hK.drew).mono ?_
    rintro e w' ⟨rfl, hst⟩
    have hx2 : Blk w' w.heap.size _ 52 := (hx.drew).keeps hst.keeps (fun e => e (hB _ (Nat.le_refl _)))
    have hb2 : Blk w' (w.heap.size + 1) _ 49 := (hb.drew).keeps hst.keeps (fun e => e (hB _ (by omega)))
    refine ⟨rfl, ⟨hx2.cell 0, hx2.cell 1, hx2.cell 2, hx2.cell 3, hx2.cell 4, hx2.cell 5⟩, hb2, hx2, hst.before hK.drew, fun b e => ?_⟩
    cases ho : S1.own b with
    | none => rfl
    | some q => exact absurd (hB b (by omega)) (hst.new b (by rw [e]; exact hb.lt) (by rw [ho]; simp))
  have HC := Lib.hid hcall
  have HA := Lib.hid (show w1.drew.cell? ⟨w.heap.size, 0, none⟩ = some (.int .i64 4) ∧ w1.drew.cell? ⟨w.heap.size, 1, none⟩ = some (.string path) ∧ w1.drew.cell? ⟨w.heap.size, 2, none⟩ = some (.string other) ∧ w1.drew.cell? ⟨w.heap.size, 3, none⟩ = some (.int .i64 off) ∧ w1.drew.cell? ⟨w.heap.size, 4, none⟩ = some (.int .i64 size) ∧ w1.drew.cell? ⟨w.heap.size, 5, none⟩ = some (.string data) from ⟨hx.cell 0, hx.cell 1, hx.cell 2, hx.cell 3, hx.cell 4, hx.cell 5⟩)
  have HK := Lib.hid hK
  clear hcall hx hb hK
  go_region_held3 (fun W => W.cell? ⟨w.heap.size, 0, none⟩ = some (.int .i64 4) ∧ W.cell? ⟨w.heap.size, 1, none⟩ = some (.string path) ∧ W.cell? ⟨w.heap.size, 2, none⟩ = some (.string other) ∧ W.cell? ⟨w.heap.size, 3, none⟩ = some (.int .i64 off) ∧ W.cell? ⟨w.heap.size, 4, none⟩ = some (.int .i64 size) ∧ W.cell? ⟨w.heap.size, 5, none⟩ = some (.string data))
    (first | exact HA.out | assumption | go_keep)
    (first | (go_at_call 75; refine HC.out.mono ?_; rintro e w2 ⟨rfl, hS2, hb2, hx2, hst, ho⟩; have hc0 : w2.cell? ⟨w.heap.size + 1, 0, none⟩ = some (.int .i64 0) := hb2.cell 0; have hc1 : w2.cell? ⟨w.heap.size + 1, 1, none⟩ = some (.int .i64 0) := hb2.cell 1; have hf2 := hb2.frz))
  have hb3 : Blk ((w2.setCell ⟨w.heap.size + 1, 1, none⟩ (.int .i64 data.size)).setCell ⟨w.heap.size + 1, 0, none⟩ (.int .i64 0)) (w.heap.size + 1) (answC 0 data.size ⟨#[]⟩ 0 0 0 0 0 (.slice none 0 0)) 49 := (hb2.set 1 (.int .i64 data.size)).set 0 (.int .i64 0)
  have HS := Lib.hid (hst.after (X := fun b => b = w.heap.size + 1) (((Keeps.refl (fun b => b = w.heap.size + 1) w2).setCell (p := ⟨w.heap.size + 1, 1, none⟩) (Or.inl rfl) (.int .i64 data.size)).setCell (p := ⟨w.heap.size + 1, 0, none⟩) (Or.inl rfl) (.int .i64 0)) (fun b e => ho b e) (fun b e hlt => by omega))
  generalize (w2.setCell ⟨w.heap.size + 1, 1, none⟩ (.int .i64 data.size)).setCell ⟨w.heap.size + 1, 0, none⟩ (.int .i64 0) = w3 at *
  clear hc0 hc1 hf2 hb2 hx2 hst ho hS2
  have hc := hb3.cell
  have hf := hb3.frz
  have hl := hb3.lt
  have HB3 := Lib.hid hb3
  unfold answC at hc
  clear hb3
  go_wp2_with fail
  refine answ_end rfl (w.heap.size + 1) 0 data.size ⟨#[]⟩ 0 0 0 0 0 (.slice none 0 0) HB3.out _ rfl ⟨rfl, HS.out⟩

theorem over13_set {W : World} {p : Nat} {cs : Array Value} (h : Blk W p cs 49) (hs : cs.size = 13) (err n : Int) (data : ByteArray) (i k l s b : Int) (names : Value) :
    over13 W p err n data i k l s b names = setBlock W p (.cells (answC err n data i k l s b names) 49) := by
  have h1 : over13 W p err n data i k l s b names = W.setCells p 0 (answC err n data i k l s b names).toList := rfl
  rw [h1, setCells_block _ 0 h, putAt_all (by rw [hs]; rfl)]
theorem answ_end2 {fn : Func} (hfn : fn.results = #[.cell 4 49]) {W : World} {Q : Ending → World → Prop} (p : Nat) (o : Obj) {cs : Array Value} (h : Blk W p cs 49) (hs : cs.size = 13) (err n : Int) (data : ByteArray) (i k l s b : Int) (names : Value)
    (tmps : Array Value) (h4 : tmps.getD 4 undef = .pointer (some ⟨p, 0, none⟩)) (hQ : Q (.returned (answV err n data i k l s b names)) ((over13 W p err n data i k l s b names).alloc o)) :
    bodyPost Tryz.prog fn Q Exit.ret { tmps := tmps, defers := [] } ((over13 W p err n data i k l s b names).alloc o) := by
  have hb : Blk ((over13 W p err n data i k l s b names).alloc o) p (answC err n data i k l s b names) 49 := by
    rw [over13_set h hs]
    exact (Blk.setSame h.lt _ _).alloc o
  exact bodyPost_ret (results_cell1 hfn _ _ _ h4 (run_loadVar_row _ _ 49 49 _ _ _ hb Tryz.underlying49 rfl (by kernel_rfl))) rfl hQ
set_option maxRecDepth 100000 in
set_option maxHeartbeats 2000000 in
/-- Do, where the answer bears no error. -/
theorem Do_ok {w : World} {F : Nat} (kind : Int) (path other data : ByteArray) (off size : Int) (n : Int) (text : ByteArray) (i k l s b : Int) (na : Option Addr) (nn nc : Nat) (Q : World → World → Prop)
    (hans : ∀ W, Keeps (fun _ => False) w W → Calls Tryz.prog 38 #[.pointer (some ⟨F, 0, none⟩), callV kind path other off size data] W fun e w' => e = .returned (answV 0 n text i k l s b (.slice na nn nc)) ∧ Q W w')
    (hQ : ∀ W w', Q W w' → ∀ b cs t, w.heap.size ≤ b → Blk W b cs t → Blk w' b cs t) :
    Calls Tryz.prog 15 #[.pointer (some ⟨F, 0, none⟩), callV kind path other off size data] w fun e w' => e = .returned (answV 0 n text i k l s b (.slice na nn nc)) ∧ ∃ W w1, Keeps (fun _ => False) w W ∧ Q W w1 ∧ Keeps (fun b => w.heap.size ≤ b ∧ b < W.heap.size) w1 w' := by
  have HA := Lib.hid (And.intro hans hQ)
  clear hans hQ
  unfold callV at HA ⊢
  go_enter Tryz.func15, Tryz.ntmps15
  go_wp2_with fail
  obtain ⟨hans, hQ⟩ := HA.out
  have hK : Keeps (fun _ => False) w ((w.alloc (.cells #[.int .i64 kind, .string path, .string other, .int .i64 off, .int .i64 size, .string data] 52)).alloc (.cells (answC 0 0 ⟨#[]⟩ 0 0 0 0 0 (.slice none 0 0)) 49)) := ((Keeps.refl _ _).alloc _).alloc _
  have hb := Blk.new' (w := w.alloc (.cells #[.int .i64 kind, .string path, .string other, .int .i64 off, .int .i64 size, .string data] 52)) (n := w.heap.size + 1) (by simp) (answC 0 0 ⟨#[]⟩ 0 0 0 0 0 (.slice none 0 0)) 49
  have hsz : ((w.alloc (.cells #[.int .i64 kind, .string path, .string other, .int .i64 off, .int .i64 size, .string data] 52)).alloc (.cells (answC 0 0 ⟨#[]⟩ 0 0 0 0 0 (.slice none 0 0)) 49)).heap.size = w.heap.size + 2 := by simp
  refine (hans _ hK).mono ?_
  rintro e w2 ⟨rfl, hq⟩
  have hb2 : Blk w2 (w.heap.size + 1) (answC 0 0 ⟨#[]⟩ 0 0 0 0 0 (.slice none 0 0)) 49 := hQ _ _ hq _ _ _ (by omega) hb
  have HZ := Lib.hid (And.intro hK (And.intro hq hsz))
  have hc := hb2.cell
  have hf := hb2.frz
  have hl := hb2.lt
  have hlk := hb2.ltk
  have HB2 := Lib.hid hb2
  unfold answC at hc
  unfold answV answC
  clear hans hQ hq hsz hb2
  go_wp2_with fail
  obtain ⟨hK, hq, hsz⟩ := HZ.out
  have hb2 := HB2.out
  refine answ_end2 rfl (w.heap.size + 1) _ hb2 rfl 0 n text i k l s b (.slice na nn nc) _ rfl ⟨rfl, _, w2, hK, hq, ?_⟩
  refine Keeps.alloc ?_ _
  rw [over13_set hb2 rfl]
  exact (Keeps.refl (fun b => w.heap.size ≤ b ∧ b < _) w2).setBlock (Or.inl ⟨by omega, by rw [hsz]; omega⟩) _
end
end Go.Proofs.YtdafneilalompaaGreatDoor
