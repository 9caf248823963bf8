/- answer and Do of the calls that tell and read. Conditions: those that each theorem names. Do of lstat, stat, readlink, readdir, read, on any tree. Conditions: those that each theorem names. -/
import Derived.Test.YtdafneilalompaaGreatDoorTell0
namespace Go.Proofs.YtdafneilalompaaGreatDoor
section
open Go Go.RowKit
open Go.ChangeMaps (setBlock)

/-- What a call that only tells leaves: all as it was; its names are new memory. -/
structure Tells (names : List ByteArray) (w w' : World) (na : Option Addr) (nn nc : Nat) : Prop where
  row : NewStrs w w' (.slice na nn nc) names
  keeps : Keeps (fun _ => False) w w'
theorem Tells.wrap {names : List ByteArray} {w W w1 w' : World} {na : Option Addr} {nn nc : Nat} (h : Tells names W w1 na nn nc) (k : Keeps (fun _ => False) w W) (k2 : Keeps (fun b => w.heap.size ≤ b ∧ b < W.heap.size) w1 w') : Tells names w w' na nn nc := by
  refine ⟨?_, (k.then h.keeps).trans k2 (fun _ _ x => x) (fun b hb hx => by omega)⟩
  have h1 : w'.ownsRow W.heap.size 9 1 (.slice na nn nc) names.length (names.map Value.string) := ownsRow_keep h.row (fun g hg => by
    obtain ⟨h2, cur, h3⟩ := ownsRow_base h.row hg
    exact k2.block g (Array.getElem?_eq_some_iff.1 h3).1 (fun hx => by omega))
  exact ownsRow_rebase h1 (fun g hg => Nat.le_trans k.size (ownsRow_base h1 hg).1)
theorem Tells.none {w w' : World} (k : Keeps (fun _ => False) w w') : Tells [] w w' none 0 0 := ⟨⟨rfl, Or.inl ⟨rfl, rfl⟩⟩, k⟩
theorem answ_end3 {fn : Func} (hfn : fn.results = #[.cell 4 49]) {W : World} {Q : Ending → World → Prop} (p : Nat) {cs : Array Value} (h : Blk W p cs 49) (hs : cs.size = 13) (err n : Int) (data : ByteArray) (i k l s b : Int) (names : Value)
    (tmps : Array Value) (h4 : tmps.getD 4 undef = .pointer (some ⟨p, 0, none⟩)) (hQ : Q (.returned (answV err n data i k l s b names)) (over13 W p err n data i k l s b names)) :
    bodyPost Tryz.prog fn Q Exit.ret { tmps := tmps, defers := [] } (over13 W p err n data i k l s b names) := by
  have hb : Blk (over13 W p err n data i k l s b names) p (answC err n data i k l s b names) 49 := by
    rw [over13_set h hs]
    exact Blk.setSame h.lt _ _
  exact bodyPost_ret (results_cell1 hfn _ _ _ h4 (run_loadVar_row _ _ 49 49 _ _ _ hb Tryz.underlying49 rfl (by kernel_rfl))) rfl hQ

set_option maxRecDepth 100000 in
set_option maxHeartbeats 2000000 in
theorem answer_tell_11 {w : World} {F : Nat} (path other data : ByteArray) (off size : Int) (n : Int) (text : ByteArray) (i k l s b : Int) (names : List ByteArray)
    (hn : ∀ W, Keeps (fun _ => False) w W → Calls Tryz.prog 81 #[.pointer (some ⟨F, 0, none⟩), callV 11 path other off size data] W fun e w' => ∃ na nn nc, e = .returned (answV 0 n text i k l s b (.slice na nn nc)) ∧ Tells names W w' na nn nc) :
    Calls Tryz.prog 38 #[.pointer (some ⟨F, 0, none⟩), callV 11 path other off size data] w fun e w' => ∃ na nn nc, e = .returned (answV 0 n text i k l s b (.slice na nn nc)) ∧ Tells names w w' na nn nc := by
  have HN := Lib.hid hn
  clear hn
  unfold callV at HN ⊢
  go_enter Tryz.func38, Tryz.ntmps38
  go_wp2_with fail
  have hK : Keeps (fun _ => False) w ((w.alloc (.cells #[.int .i64 11, .string path, .string other, .int .i64 off, .int .i64 size, .string data] 52)).alloc (.cells (answC 0 0 ⟨#[]⟩ 0 0 0 0 0 (.slice none 0 0)) 49)) := ((Keeps.refl _ _).alloc _).alloc _
  have hb := Blk.new' (w := w.alloc (.cells #[.int .i64 11, .string path, .string other, .int .i64 off, .int .i64 size, .string data] 52)) (n := w.heap.size + 1) (by simp) (answC 0 0 ⟨#[]⟩ 0 0 0 0 0 (.slice none 0 0)) 49
  have hsz : ((w.alloc (.cells #[.int .i64 11, .string path, .string other, .int .i64 off, .int .i64 size, .string data] 52)).alloc (.cells (answC 0 0 ⟨#[]⟩ 0 0 0 0 0 (.slice none 0 0)) 49)).heap.size = w.heap.size + 2 := by simp
  refine (HN.out _ hK).mono ?_
  rintro e w2 ⟨na, nn, nc, rfl, hq⟩
  have hb2 : Blk w2 (w.heap.size + 1) _ 49 := hb.keeps hq.keeps (fun x => x)
  have hc := hb2.cell
  have hf := hb2.frz
  have hl := hb2.lt
  have HZ := Lib.hid (And.intro hK (And.intro hq (And.intro hsz hb2)))
  unfold answC at hc
  unfold answV answC
  clear hK hq hsz hb2 hb
  go_wp2_with fail
  obtain ⟨hK, hq, hsz, hb2⟩ := HZ.out
  refine answ_end3 rfl (w.heap.size + 1) hb2 rfl 0 n text i k l s b (.slice na nn nc) _ rfl ⟨na, nn, nc, rfl, hq.wrap hK ?_⟩
  rw [over13_set hb2 rfl]
  exact (Keeps.refl (fun b => w.heap.size ≤ b ∧ b < _) w2).setBlock (Or.inl ⟨by omega, by rw [hsz]; omega⟩) _

set_option maxRecDepth 100000 in
set_option maxHeartbeats 2000000 in
theorem answer_tell_12 {w : World} {F : Nat} (path other data : ByteArray) (off size : Int) (n : Int) (text : ByteArray) (i k l s b : Int) (names : List ByteArray)
    (hn : ∀ W, Keeps (fun _ => False) w W → Calls Tryz.prog 81 #[.pointer (some ⟨F, 0, none⟩), callV 12 path other off size data] W fun e w' => ∃ na nn nc, e = .returned (answV 0 n text i k l s b (.slice na nn nc)) ∧ Tells names W w' na nn nc) :
    Calls Tryz.prog 38 #[.pointer (some ⟨F, 0, none⟩), callV 12 path other off size data] w fun e w' => ∃ na nn nc, e = .returned (answV 0 n text i k l s b (.slice na nn nc)) ∧ Tells names w w' na nn nc := by
  have HN := Lib.hid hn
  clear hn
  unfold callV at HN ⊢
  go_enter Tryz.func38, Tryz.ntmps38
  go_wp2_with fail
  have hK : Keeps (fun _ => False) w ((w.alloc (.cells #[.int .i64 12, .string path, .string other, .int .i64 off, .int .i64 size, .string data] 52)).alloc (.cells (answC 0 0 ⟨#[]⟩ 0 0 0 0 0 (.slice none 0 0)) 49)) := ((Keeps.refl _ _).alloc _).alloc _
  have hb := Blk.new' (w := w.alloc (.cells #[.int .i64 12, .string path, .string other, .int .i64 off, .int .i64 size, .string data] 52)) (n := w.heap.size + 1) (by simp) (answC 0 0 ⟨#[]⟩ 0 0 0 0 0 (.slice none 0 0)) 49
  have hsz : ((w.alloc (.cells #[.int .i64 12, .string path, .string other, .int .i64 off, .int .i64 size, .string data] 52)).alloc (.cells (answC 0 0 ⟨#[]⟩ 0 0 0 0 0 (.slice none 0 0)) 49)).heap.size = w.heap.size + 2 := by simp
  refine (HN.out _ hK).mono ?_
  rintro e w2 ⟨na, nn, nc, rfl, hq⟩
  have hb2 : Blk w2 (w.heap.size + 1) _ 49 := hb.keeps hq.keeps (fun x => x)
  have hc := hb2.cell
  have hf := hb2.frz
  have hl := hb2.lt
  have HZ := Lib.hid (And.intro hK (And.intro hq (And.intro hsz hb2)))
  unfold answC at hc
  unfold answV answC
  clear hK hq hsz hb2 hb
  go_wp2_with fail
  obtain ⟨hK, hq, hsz, hb2⟩ := HZ.out
  refine answ_end3 rfl (w.heap.size + 1) hb2 rfl 0 n text i k l s b (.slice na nn nc) _ rfl ⟨na, nn, nc, rfl, hq.wrap hK ?_⟩
  rw [over13_set hb2 rfl]
  exact (Keeps.refl (fun b => w.heap.size ≤ b ∧ b < _) w2).setBlock (Or.inl ⟨by omega, by rw [hsz]; omega⟩) _

set_option maxRecDepth 100000 in
set_option maxHeartbeats 2000000 in
theorem answer_tell_13 {w : World} {F : Nat} (path other data : ByteArray) (off size : Int) (n : Int) (text : ByteArray) (i k l s b : Int) (names : List ByteArray)
    (hn : ∀ W, Keeps (fun _ => False) w W → Calls Tryz.prog 81 #[.pointer (some ⟨F, 0, none⟩), callV 13 path other off size data] W fun e w' => ∃ na nn nc, e = .returned (answV 0 n text i k l s b (.slice na nn nc)) ∧ Tells names W w' na nn nc) :
    Calls Tryz.prog 38 #[.pointer (some ⟨F, 0, none⟩), callV 13 path other off size data] w fun e w' => ∃ na nn nc, e = .returned (answV 0 n text i k l s b (.slice na nn nc)) ∧ Tells names w w' na nn nc := by
  have HN := Lib.hid hn
  clear hn
  unfold callV at HN ⊢
  go_enter Tryz.func38, Tryz.ntmps38
  go_wp2_with fail
  have hK : Keeps (fun _ => False) w ((w.alloc (.cells #[.int .i64 13, .string path, .string other, .int .i64 off, .int .i64 size, .string data] 52)).alloc (.cells (answC 0 0 ⟨#[]⟩ 0 0 0 0 0 (.slice none 0 0)) 49)) := ((Keeps.refl _ _).alloc _).alloc _
  have hb := Blk.new' (w := w.alloc (.cells #[.int .i64 13, .string path, .string other, .int .i64 off, .int .i64 size, .string data] 52)) (n := w.heap.size + 1) (by simp) (answC 0 0 ⟨#[]⟩ 0 0 0 0 0 (.slice none 0 0)) 49
  have hsz : ((w.alloc (.cells #[.int .i64 13, .string path, .string other, .int .i64 off, .int .i64 size, .string data] 52)).alloc (.cells (answC 0 0 ⟨#[]⟩ 0 0 0 0 0 (.slice none 0 0)) 49)).heap.size = w.heap.size + 2 := by simp
  refine (HN.out _ hK).mono ?_
  rintro e w2 ⟨na, nn, nc, rfl, hq⟩
  have hb2 : Blk w2 (w.heap.size + 1) _ 49 := hb.keeps hq.keeps (fun x => x)
  have hc := hb2.cell
  have hf := hb2.frz
  have hl := hb2.lt
  have HZ := Lib.hid (And.intro hK (And.intro hq (And.intro hsz hb2)))
  unfold answC at hc
  unfold answV answC
  clear hK hq hsz hb2 hb
  go_wp2_with fail
  obtain ⟨hK, hq, hsz, hb2⟩ := HZ.out
  refine answ_end3 rfl (w.heap.size + 1) hb2 rfl 0 n text i k l s b (.slice na nn nc) _ rfl ⟨na, nn, nc, rfl, hq.wrap hK ?_⟩
  rw [over13_set hb2 rfl]
  exact (Keeps.refl (fun b => w.heap.size ≤ b ∧ b < _) w2).setBlock (Or.inl ⟨by omega, by rw [hsz]; omega⟩) _

set_option maxRecDepth 100000 in
set_option maxHeartbeats 2000000 in
theorem answer_tell_14 {w : World} {F : Nat} (path other data : ByteArray) (off size : Int) (n : Int) (text : ByteArray) (i k l s b : Int) (names : List ByteArray)
    (hn : ∀ W, Keeps (fun _ => False) w W → Calls Tryz.prog 81 #[.pointer (some ⟨F, 0, none⟩), callV 14 path other off size data] W fun e w' => ∃ na nn nc, e = .returned (answV 0 n text i k l s b (.slice na nn nc)) ∧ Tells names W w' na nn nc) :
    Calls Tryz.prog 38 #[.pointer (some ⟨F, 0, none⟩), callV 14 path other off size data] w fun e w' => ∃ na nn nc, e = .returned (answV 0 n text i k l s b (.slice na nn nc)) ∧ Tells names w w' na nn nc := by
  have HN := Lib.hid hn
  clear hn
  unfold callV at HN ⊢
  go_enter Tryz.func38, Tryz.ntmps38
  go_wp2_with fail
  have hK : Keeps (fun _ => False) w ((w.alloc (.cells #[.int .i64 14, .string path, .string other, .int .i64 off, .int .i64 size, .string data] 52)).alloc (.cells (answC 0 0 ⟨#[]⟩ 0 0 0 0 0 (.slice none 0 0)) 49)) := ((Keeps.refl _ _).alloc _).alloc _
  have hb := Blk.new' (w := w.alloc (.cells #[.int .i64 14, .string path, .string other, .int .i64 off, .int .i64 size, .string data] 52)) (n := w.heap.size + 1) (by simp) (answC 0 0 ⟨#[]⟩ 0 0 0 0 0 (.slice none 0 0)) 49
  have hsz : ((w.alloc (.cells #[.int .i64 14, .string path, .string other, .int .i64 off, .int .i64 size, .string data] 52)).alloc (.cells (answC 0 0 ⟨#[]⟩ 0 0 0 0 0 (.slice none 0 0)) 49)).heap.size = w.heap.size + 2 := by simp
  refine (HN.out _ hK).mono ?_
  rintro e w2 ⟨na, nn, nc, rfl, hq⟩
  have hb2 : Blk w2 (w.heap.size + 1) _ 49 := hb.keeps hq.keeps (fun x => x)
  have hc := hb2.cell
  have hf := hb2.frz
  have hl := hb2.lt
  have HZ := Lib.hid (And.intro hK (And.intro hq (And.intro hsz hb2)))
  unfold answC at hc
  unfold answV answC
  clear hK hq hsz hb2 hb
  go_wp2_with fail
  obtain ⟨hK, hq, hsz, hb2⟩ := HZ.out
  refine answ_end3 rfl (w.heap.size + 1) hb2 rfl 0 n text i k l s b (.slice na nn nc) _ rfl ⟨na, nn, nc, rfl, hq.wrap hK ?_⟩
  rw [over13_set hb2 rfl]
  exact (Keeps.refl (fun b => w.heap.size ≤ b ∧ b < _) w2).setBlock (Or.inl ⟨by omega, by rw [hsz]; omega⟩) _

set_option maxRecDepth 100000 in
set_option maxHeartbeats 2000000 in
theorem answer_read {w : World} {F : Nat} (path other data : ByteArray) (off size : Int) (text : ByteArray) (ht : text.size ≤ 1000000)
    (hn : ∀ W, Keeps (fun _ => False) w W → Calls Tryz.prog 74 #[.pointer (some ⟨F, 0, none⟩), callV 3 path other off size data] W fun e w' => e = .returned (.tuple #[.string text, .int .i64 0]) ∧ Keeps (fun _ => False) W w') :
    Calls Tryz.prog 38 #[.pointer (some ⟨F, 0, none⟩), callV 3 path other off size data] w fun e w' => ∃ na nn nc, e = .returned (answV 0 text.size text 0 0 0 0 0 (.slice na nn nc)) ∧ Tells [] w w' na nn nc := by
  have HN := Lib.hid hn
  clear hn
  unfold callV at HN ⊢
  go_enter Tryz.func38, Tryz.ntmps38
  go_wp2_with fail
  have hK : Keeps (fun _ => False) w ((w.alloc (.cells #[.int .i64 3, .string path, .string other, .int .i64 off, .int .i64 size, .string data] 52)).alloc (.cells (answC 0 0 ⟨#[]⟩ 0 0 0 0 0 (.slice none 0 0)) 49)) := ((Keeps.refl _ _).alloc _).alloc _
  have hb := Blk.new' (w := w.alloc (.cells #[.int .i64 3, .string path, .string other, .int .i64 off, .int .i64 size, .string data] 52)) (n := w.heap.size + 1) (by simp) (answC 0 0 ⟨#[]⟩ 0 0 0 0 0 (.slice none 0 0)) 49
  have hsz : ((w.alloc (.cells #[.int .i64 3, .string path, .string other, .int .i64 off, .int .i64 size, .string data] 52)).alloc (.cells (answC 0 0 ⟨#[]⟩ 0 0 0 0 0 (.slice none 0 0)) 49)).heap.size = w.heap.size + 2 := by simp
  refine (HN.out _ hK).mono ?_
  rintro e w2 ⟨rfl, hq⟩
  have hb2 : Blk w2 (w.heap.size + 1) _ 49 := hb.keeps hq (fun x => x)
  have hc := hb2.cell
  have hf := hb2.frz
  have hl := hb2.lt
  have HZ := Lib.hid (And.intro hK (And.intro hq (And.intro hsz hb2)))
  unfold answC at hc
  clear hK hq hsz hb2 hb
  go_wp2_with fail
  obtain ⟨hK, hq, hsz, hb2⟩ := HZ.out
  refine answ_end rfl (w.heap.size + 1) 0 text.size text 0 0 0 0 0 (.slice none 0 0) (((hb2.set 2 (.string text)).set 0 (.int .i64 0)).set 1 (.int .i64 text.size)) _ rfl ⟨none, 0, 0, rfl, Tells.none ?_⟩
  exact (((hK.then hq).setCell (p := ⟨w.heap.size + 1, 2, none⟩) (Or.inr (Nat.le_succ _)) _).setCell (p := ⟨w.heap.size + 1, 0, none⟩) (Or.inr (Nat.le_succ _)) _).setCell (p := ⟨w.heap.size + 1, 1, none⟩) (Or.inr (Nat.le_succ _)) _

set_option maxRecDepth 100000 in
set_option maxHeartbeats 2000000 in
/-- Do, where the answer bears no error and nothing turns. -/
theorem Do_tell {w : World} {F : Nat} (kind : Int) (path other data : ByteArray) (off size : Int) (n : Int) (text : ByteArray) (i k l s b : Int) (names : List ByteArray)
    (hans : ∀ W, Keeps (fun _ => False) w W → Calls Tryz.prog 38 #[.pointer (some ⟨F, 0, none⟩), callV kind path other off size data] W fun e w' => ∃ na nn nc, e = .returned (answV 0 n text i k l s b (.slice na nn nc)) ∧ Tells names W w' na nn nc) :
    Calls Tryz.prog 15 #[.pointer (some ⟨F, 0, none⟩), callV kind path other off size data] w fun e w' => ∃ na nn nc, e = .returned (answV 0 n text i k l s b (.slice na nn nc)) ∧ Tells names w w' na nn nc := by
  have HA := Lib.hid hans
  clear hans
  unfold callV at HA ⊢
  go_enter Tryz.func15, Tryz.ntmps15
  go_wp2_with fail
  have hK : Keeps (fun _ => False) w ((w.alloc (.cells #[.int .i64 kind, .string path, .string other, .int .i64 off, .int .i64 size, .string data] 52)).alloc (.cells (answC 0 0 ⟨#[]⟩ 0 0 0 0 0 (.slice none 0 0)) 49)) := ((Keeps.refl _ _).alloc _).alloc _
  have hb := Blk.new' (w := w.alloc (.cells #[.int .i64 kind, .string path, .string other, .int .i64 off, .int .i64 size, .string data] 52)) (n := w.heap.size + 1) (by simp) (answC 0 0 ⟨#[]⟩ 0 0 0 0 0 (.slice none 0 0)) 49
  have hsz : ((w.alloc (.cells #[.int .i64 kind, .string path, .string other, .int .i64 off, .int .i64 size, .string data] 52)).alloc (.cells (answC 0 0 ⟨#[]⟩ 0 0 0 0 0 (.slice none 0 0)) 49)).heap.size = w.heap.size + 2 := by simp
  refine (HA.out _ hK).mono ?_
  rintro e w2 ⟨na, nn, nc, rfl, hq⟩
  have hb2 : Blk w2 (w.heap.size + 1) (answC 0 0 ⟨#[]⟩ 0 0 0 0 0 (.slice none 0 0)) 49 := hb.keeps hq.keeps (fun x => x)
  have HZ := Lib.hid (And.intro hK (And.intro hq hsz))
  have hc := hb2.cell
  have hf := hb2.frz
  have hl := hb2.lt
  have hlk := hb2.ltk
  have HB2 := Lib.hid hb2
  unfold answC at hc
  unfold answV answC
  clear hK hq hsz hb2 hb
  go_wp2_with fail
  obtain ⟨hK, hq, hsz⟩ := HZ.out
  have hb2 := HB2.out
  refine answ_end2 rfl (w.heap.size + 1) _ hb2 rfl 0 n text i k l s b (.slice na nn nc) _ rfl ⟨na, nn, nc, rfl, hq.wrap hK ?_⟩
  refine Keeps.alloc ?_ _
  rw [over13_set hb2 rfl]
  exact (Keeps.refl (fun b => w.heap.size ≤ b ∧ b < _) w2).setBlock (Or.inl ⟨by omega, by rw [hsz]; omega⟩) _
end
section
open Go Go.RowKit
open Go.ChangeMaps (setBlock)
section
variable {w : World} {S : St} (h : Rep w S) (hw : S.Wf) (path other data : ByteArray) (hp0 : path.size ≤ 9000000000000000000)
include h hw hp0
theorem do_lstat (off size : Int) (R : (List Int × ByteArray × Int) × Int) (hR : toR S path false = R) (hR2 : R.2 = 0) (n : Int) (hn : R.1.2.2 = n) (x : Nd) (hx : S.nd n = x) :
    Calls Tryz.prog 15 #[.pointer (some ⟨S.F, 0, none⟩), callV 13 path other off size data] w fun e w' => ∃ na nn nc, e = .returned (answV 0 0 ⟨#[]⟩ n x.kind x.links x.size x.takes (.slice na nn nc)) ∧ Tells [] w w' na nn nc :=
  Do_tell 13 path other data off size 0 ⟨#[]⟩ n x.kind x.links x.size x.takes [] fun W k => answer_tell_13 path other data off size 0 ⟨#[]⟩ n x.kind x.links x.size x.takes [] fun W2 k2 =>
    (tell_lstat (h.keeps (k.then k2) (fun _ _ x => x)) hw path other off size data hp0 R hR hR2 n hn x hx).mono (by rintro e w' ⟨rfl, hk⟩; exact ⟨none, 0, 0, rfl, Tells.none hk⟩)
theorem do_stat (off size : Int) (R : (List Int × ByteArray × Int) × Int) (hR : toR S path true = R) (hR2 : R.2 = 0) (n : Int) (hn : R.1.2.2 = n) (x : Nd) (hx : S.nd n = x) :
    Calls Tryz.prog 15 #[.pointer (some ⟨S.F, 0, none⟩), callV 12 path other off size data] w fun e w' => ∃ na nn nc, e = .returned (answV 0 0 ⟨#[]⟩ n x.kind x.links x.size x.takes (.slice na nn nc)) ∧ Tells [] w w' na nn nc :=
  Do_tell 12 path other data off size 0 ⟨#[]⟩ n x.kind x.links x.size x.takes [] fun W k => answer_tell_12 path other data off size 0 ⟨#[]⟩ n x.kind x.links x.size x.takes [] fun W2 k2 =>
    (tell_stat (h.keeps (k.then k2) (fun _ _ x => x)) hw path other off size data hp0 R hR hR2 n hn x hx).mono (by rintro e w' ⟨rfl, hk⟩; exact ⟨none, 0, 0, rfl, Tells.none hk⟩)
theorem do_readlink (off size : Int) (R : (List Int × ByteArray × Int) × Int) (hR : toR S path false = R) (hR2 : R.2 = 0) (n : Int) (hn : R.1.2.2 = n) (x : Nd) (hx : S.nd n = x) (hk : x.kind = 3) :
    Calls Tryz.prog 15 #[.pointer (some ⟨S.F, 0, none⟩), callV 11 path other off size data] w fun e w' => ∃ na nn nc, e = .returned (answV 0 0 x.text 0 0 0 0 0 (.slice na nn nc)) ∧ Tells [] w w' na nn nc :=
  Do_tell 11 path other data off size 0 x.text 0 0 0 0 0 [] fun W k => answer_tell_11 path other data off size 0 x.text 0 0 0 0 0 [] fun W2 k2 =>
    (tell_readlink (h.keeps (k.then k2) (fun _ _ x => x)) hw path other off size data hp0 R hR hR2 n hn x hx hk).mono (by rintro e w' ⟨rfl, hk⟩; exact ⟨none, 0, 0, rfl, Tells.none hk⟩)
theorem do_readdir (off size : Int) (R : (List Int × ByteArray × Int) × Int) (hR : toR S path true = R) (hR2 : R.2 = 0) (n : Int) (hn : R.1.2.2 = n) (x : Nd) (hx : S.nd n = x) (hk : x.kind = 2) {b : Nat} {L : List (ByteArray × Int)} (hnm : x.nms = some (b, L)) (hns : ∀ p ∈ L, p.1.size ≤ 1000000) :
    Calls Tryz.prog 15 #[.pointer (some ⟨S.F, 0, none⟩), callV 14 path other off size data] w fun e w' => ∃ na nn nc, e = .returned (answV 0 0 ⟨#[]⟩ 0 0 0 0 0 (.slice na nn nc)) ∧ Tells (sortB (L.map (·.1))) w w' na nn nc :=
  Do_tell 14 path other data off size 0 ⟨#[]⟩ 0 0 0 0 0 (sortB (L.map (·.1))) fun W k => answer_tell_14 path other data off size 0 ⟨#[]⟩ 0 0 0 0 0 (sortB (L.map (·.1))) fun W2 k2 =>
    (tell_readdir (h.keeps (k.then k2) (fun _ _ x => x)) hw path other off size data hp0 R hR hR2 n hn x hx hk hnm hns).mono (by rintro e w' ⟨na, c, rfl, hr, hk⟩; exact ⟨na, _, c, rfl, hr, hk⟩)
theorem do_read (off size : Nat) {i : Int} (hF : fileR S path = (i, 0)) (hi : i ∈ S.keys) {b : Nat} {L : List (Int × List UInt8)} (hp : (S.nd i).pcs = some (b, L)) (sz : Nat) (hsz : (S.nd i).size = sz) (ho : off ≤ 9000000) (hs : size ≤ 16384) :
    Calls Tryz.prog 15 #[.pointer (some ⟨S.F, 0, none⟩), callV 3 path other off size data] w fun e w' => ∃ na nn nc, e = .returned (answV 0 (readR L sz off size).length ⟨(readR L sz off size).toArray⟩ 0 0 0 0 0 (.slice na nn nc)) ∧ Tells [] w w' na nn nc := by
  have hl : (readR L sz off size).length ≤ 16384 := by rw [readR_length (hw.whole i hi b L hp)]; omega
  have e : ((⟨(readR L sz off size).toArray⟩ : ByteArray).size : Int) = (readR L sz off size).length := by simp [ByteArray.size]
  rw [← e]
  exact Do_tell 3 path other data off size _ ⟨(readR L sz off size).toArray⟩ 0 0 0 0 0 [] fun W k => answer_read path other data off size ⟨(readR L sz off size).toArray⟩ (by simp [ByteArray.size]; omega) fun W2 k2 =>
    readPath_ok (h.keeps (k.then k2) (fun _ _ x => x)) hw 3 path other off size data hp0 hF hi hp sz hsz ho hs
end
end
end Go.Proofs.YtdafneilalompaaGreatDoor
