/- The components of a path: path.components. Conditions: those that each theorem names. -/
import Derived.Test.YtdafneilalompaaGreatDoorPath1
import Derived.Test.YtdafneilalompaaGreatDoorRam0
import Derived.RangeFuncBox
namespace Go.Proofs.YtdafneilalompaaGreatDoor
open Go Go.RowKit Go.Shelf
open Go.ChangeMaps (setBlock)
attribute [local go_sem] Oper.semAt_some

@[simp] theorem wide_fn (f : FuncId) : Fence.wide.fn f := trivial
/-- W' is W but for blocks that are no cells and lie from B on, and for new ones. -/
structure Mild (B : Nat) (W W' : World) : Prop where
  os : W'.os = W.os
  tape : W'.tape = W.tape
  output : W'.output = W.output
  size : W.heap.size ≤ W'.heap.size
  block : ∀ k, k < W.heap.size → (k < B ∨ ∃ cs t f, W.heap[k]? = some (.cells cs t f)) → W'.heap[k]? = W.heap[k]?
theorem Mild.of {B : Nat} {W W' : World} {row : Option Nat} (hg : W.grownBy W' row) (hr : ∀ r, row = some r → B ≤ r ∧ ∃ o : Obj, W.heap[r]? = some o ∧ o.isCells = false) : Mild B W W' :=
  ⟨hg.os, hg.tape, hg.output, hg.size, fun k hk h => hg.block k hk (fun e => by
    obtain ⟨h1, o, ho, hc⟩ := hr k e.symm
    rcases h with h | ⟨cs, t, f, h⟩
    · omega
    · rw [ho] at h; cases h; cases hc)⟩
section
variable {B : Nat} {W W' : World}
theorem Mild.blk (m : Mild B W W') {b : Nat} {cs : Array Value} {t : TypeId} (h : Blk W b cs t) : Blk W' b cs t := (m.block b h.lt (Or.inr ⟨_, _, _, h⟩)).trans h
theorem Mild.row (m : Mild B W W') {base t s n : Nat} {v : Value} {xs : List Value} (h : W.ownsRow base t s v n xs) : W'.ownsRow base t s v n xs :=
  ownsRow_keep h (fun g hg => by
    obtain ⟨_, cur, hc⟩ := ownsRow_base h hg
    exact m.block g (Array.getElem?_eq_some_iff.1 hc).1 (Or.inr ⟨_, _, _, hc⟩))
theorem Mild.keeps (m : Mild B W W') {X : Nat → Prop} {w : World} (h : Keeps X w W) (hB : w.heap.size ≤ B) : Keeps X w W' :=
  ⟨m.os.trans h.os, m.tape.trans h.tape, m.output.trans h.output, Nat.le_trans h.size m.size, fun k hk hx => (m.block k (Nat.lt_of_lt_of_le hk h.size) (Or.inl (by omega))).trans (h.block k hk hx)⟩
end

def dot : ByteArray := ⟨#[46]⟩
theorem bytes_list (a b : ByteArray) : (a.toList == b.toList) = decide (a = b) := by
  rw [Bool.eq_iff_iff]
  simp only [beq_iff_eq, decide_eq_true_eq]
  constructor
  · intro h
    have h2 : a.data.toList = b.data.toList := by rwa [ByteArray.toList_eq, ByteArray.toList_eq] at h
    cases a; cases b
    simp only [ByteArray.mk.injEq]
    exact Array.toList_inj.1 h2
  · rintro rfl; rfl
theorem dot_list : dot.toList = [46] := by rw [ByteArray.toList_eq]; rfl
/-- The pieces without '.', behind acc; none: too long, or too many. -/
def comps : List ByteArray → List ByteArray → Option (List ByteArray)
  | [], acc => some acc
  | p :: r, acc => if p = dot then comps r acc else if 27 < p.size ∨ acc.length = 32 then none else comps r (acc ++ [p])
def compsOf (s : ByteArray) (most : Int) : Option (List ByteArray) := if most < s.size then none else comps (piecesOf s) []

theorem Tryz.info9 : (Tryz.prog.info? 9).map (fun i => (i.zero, i.size, i.bytes)) = some (some (.string ByteArray.empty), 1, 16) := by kernel_rfl

set_option maxRecDepth 100000 in
set_option maxHeartbeats 1000000 in
theorem components_in (n : Nat) (hn : 3 ≤ n) (s : ByteArray) (hs : s.size ≤ 9000000000000000000) (most : Int) (w : World) :
    CallsIn Fence.wide n Tryz.prog 186 #[.string s, .int .i64 most] w fun e w' => Keeps (fun _ => False) w w' ∧
      ((∃ l v, compsOf s most = some l ∧ e = .returned (.tuple #[v, .int .i64 0]) ∧ w'.ownsRow w.heap.size 9 1 v l.length (l.map Value.string)) ∨
       (compsOf s most = none ∧ e = .returned (.tuple #[.slice none 0 0, .int .i64 130]))) := by
  have h1 : 1 ≤ n := by omega
  obtain ⟨i0, hi, hz0, hz1, hz2⟩ := info_parts Tryz.info9
  refine callsIn_of_wp_marks Tryz.func186 rfl trivial ?_ rfl
  simp only [Tryz.ntmps186, List.size_toArray, List.length_cons, List.length_nil, Nat.reduceAdd, Nat.reduceSub, Array.replicate_succ, Array.replicate_zero, List.push_toArray, List.append_toArray, List.nil_append, List.cons_append]
  by_cases hm : most < s.size
  · have hcn : compsOf s most = none := by simp [compsOf, hm]
    have HC := Lib.hid hcn
    clear hcn
    gi_wp2
    have k4 := (Blk.new w #[.slice none 0 0] 45).alloc (.cells #[.int .i64 130] 31)
    have k5 := Blk.new' (w := w.alloc (.cells #[.slice none 0 0] 45)) (n := w.heap.size + 1) (by simp) #[.int .i64 130] 31
    exact ⟨_, results_cells rfl _ _ _ rfl rfl (run_loadVar_one Tryz.underlying45 rfl (k4.cell 0)) (run_loadVar_one Tryz.underlying31 rfl (k5.cell 0)), ((Keeps.refl _ _).alloc _).alloc _, .inr ⟨HC.out, rfl⟩⟩
  · gi_wp2_with (gi_at_call 199; refine (pieces_in (n - 1) _ _).mono ?_; rintro e w' ⟨rfl, rfl⟩)
    have hb4 := (((Blk.new w #[.slice none 0 0] 45).alloc (.cells #[.int .i64 0] 31)).alloc (.cells #[.slice none 0 0] 45)).alloc (.cells #[.string s] 9)
    have hb5 := ((Blk.new' (w := w.alloc (.cells #[.slice none 0 0] 45)) (n := w.heap.size + 1) (by simp) #[.int .i64 0] 31).alloc (.cells #[.slice none 0 0] 45)).alloc (.cells #[.string s] 9)
    have hbL := (Blk.new' (w := (w.alloc (.cells #[.slice none 0 0] 45)).alloc (.cells #[.int .i64 0] 31)) (n := w.heap.size + 1 + 1) (by simp) #[.slice none 0 0] 45).alloc (.cells #[.string s] 9)
    have hbS := Blk.new' (w := ((w.alloc (.cells #[.slice none 0 0] 45)).alloc (.cells #[.int .i64 0] 31)).alloc (.cells #[.slice none 0 0] 45)) (n := w.heap.size + 1 + 1 + 1) (by simp) #[.string s] 9
    have hK4 : Keeps (fun _ => False) w _ := ((((Keeps.refl (fun _ => False) w).alloc (.cells #[.slice none 0 0] 45)).alloc (.cells #[.int .i64 0] 31)).alloc (.cells #[.slice none 0 0] 45)).alloc (.cells #[.string s] 9)
    generalize hw4 : ((((w.alloc (.cells #[.slice none 0 0] 45)).alloc (.cells #[.int .i64 0] 31)).alloc (.cells #[.slice none 0 0] 45)).alloc (.cells #[.string s] 9)) = w4 at *
    have hsz4 : w.heap.size + 1 + 1 + 1 < w4.heap.size := hbS.lt
    clear hw4
    refine wpIn_rangeFunc_ownF rfl h1 (gf := 232) (lb := #[.pointer (some ⟨w.heap.size + 1 + 1 + 1, 0, none⟩)]) rfl trivial (enters_of Tryz.func232 (by kernel_rfl) rfl)
      (pieces_stops (n - 1) (by omega) (w.heap.size + 1 + 1 + 1) s hs w4 hsz4 (hbS.cell 0)) (fun {A B C} h k => Eq.trans k h) ?kb (Below.refl _ _) (fun _ => rfl)
      (fun pre W => ∃ (acc : List ByteArray) (v : Value), Blk W (w.heap.size + 1 + 1) #[v] 45 ∧ W.ownsRow w4.heap.size 9 1 v acc.length (acc.map Value.string) ∧ w4.heap.size ≤ W.heap.size ∧ acc.length ≤ 32 ∧ (∀ r, comps (pre ++ r) [] = comps r acc) ∧
        Blk W w.heap.size #[.slice none 0 0] 45 ∧ Blk W (w.heap.size + 1) #[.int .i64 0] 31 ∧ Keeps (fun _ => False) w W)
      (fun c pre W => c = .ret ∧ (∀ r, comps (pre ++ r) [] = none) ∧ Blk W w.heap.size #[.slice none 0 0] 45 ∧ Blk W (w.heap.size + 1) #[.int .i64 130] 31 ∧ Keeps (fun _ => False) w W)
      ?ownI ?ownX ?start
      (fun x => { tmps := #[.string s, .int .i64 most, undef, undef, .pointer (some ⟨w.heap.size, 0, none⟩), .pointer (some ⟨w.heap.size + 1, 0, none⟩), .pointer (some ⟨w.heap.size + 1 + 1, 0, none⟩), .string x, .string s,
        .int .i64 s.size, .int .i64 most, .bool false, .string s, .func (.func 232) #[] #[.pointer (some ⟨w.heap.size + 1 + 1 + 1, 0, none⟩)], .string x,
        undef, undef, undef, undef, undef, undef, undef, undef, undef, undef, undef, undef, undef, undef, undef], defers := [] }) ?assign ?body ?done ?stop
    case kb =>
      intro W l o o' hl hW ho _
      have : W.putObj l o' = setBlock W l o' := rfl
      rw [this]
      exact ob_setBlock (by omega)
    case ownI =>
      rintro pre W W' row ⟨acc, v, h1, h2, h0, h3, h4, h5, h6, h7⟩ hg hr
      have m := Mild.of hg hr
      exact ⟨acc, v, m.blk h1, m.row h2, Nat.le_trans h0 m.size, h3, h4, m.blk h5, m.blk h6, m.keeps h7 (by omega)⟩
    case ownX =>
      rintro c pre W W' row ⟨h1, h2, h3, h4, h5⟩ hg hr
      have m := Mild.of hg hr
      exact ⟨h1, h2, m.blk h3, m.blk h4, m.keeps h5 (by omega)⟩
    case start => exact ⟨[], _, hbL, ⟨rfl, Or.inl ⟨rfl, rfl⟩⟩, Nat.le_refl _, by simp, fun r => rfl, hb4, hb5, hK4⟩
    case assign =>
      intro l x W K hK
      gi_wp2
      exact hK
    case body =>
      rintro l pre x W ⟨acc, v, hL, hrow, hw4W, hlen, hcomp, h4, h5, hK⟩ _
      have HC := Lib.hid hcomp
      clear hcomp
      have hcL : W.cell? ⟨w.heap.size + 1 + 1, 0, none⟩ = some v := hL.cell 0
      have hfL : W.frozen? ⟨w.heap.size + 1 + 1, 0, none⟩ = false := hL.frz 0
      have hc4 : W.cell? ⟨w.heap.size, 0, none⟩ = some (.slice none 0 0) := h4.cell 0
      have hf4 : W.frozen? ⟨w.heap.size, 0, none⟩ = false := h4.frz 0
      have hc5 : W.cell? ⟨w.heap.size + 1, 0, none⟩ = some (.int .i64 0) := h5.cell 0
      have hf5 : W.frozen? ⟨w.heap.size + 1, 0, none⟩ = false := h5.frz 0
      obtain ⟨a0, c0, hv⟩ : ∃ a c, v = .slice a acc.length c := by
        rcases hrow.2 with ⟨hv, h0⟩ | ⟨g, c, cur, hv, _⟩
        · exact ⟨none, 0, by rw [hv, h0]⟩
        · exact ⟨_, _, hv⟩
      subst hv
      have hdec : (x.toList == [46]) = decide (x = dot) := by rw [← dot_list]; exact bytes_list x dot
      by_cases hd : x = dot
      · have ht : (x.toList == [46]) = true := by rw [hdec]; simpa using hd
        have HD := Lib.hid hd
        clear hdec hd
        gi_wp2_with fail
        exact ⟨KeepsOthers.refl _, rfl, acc, _, hL, hrow, hw4W, hlen, fun r => by rw [List.append_assoc, HC.out]; simp [comps, HD.out], h4, h5, hK⟩
      · have ht : (x.toList == [46]) = false := by rw [hdec]; simpa using hd
        have HD := Lib.hid hd
        clear hdec hd
        by_cases hbad : 27 < x.size ∨ acc.length = 32
        · have HB := Lib.hid hbad
          have hno : ∀ r, comps (pre ++ [x] ++ r) [] = none := fun r => by rw [List.append_assoc, HC.out]; simp [comps, HD.out, HB.out]
          have HN := Lib.hid hno
          have hend : ∀ W', W' = (W.setCell ⟨w.heap.size, 0, none⟩ (.slice none 0 0)).setCell ⟨w.heap.size + 1, 0, none⟩ (.int .i64 130) →
              KeepsOthers W W' ∧ Blk W' w.heap.size #[.slice none 0 0] 45 ∧ Blk W' (w.heap.size + 1) #[.int .i64 130] 31 ∧ Keeps (fun _ => False) w W' := by
            rintro W' rfl
            exact ⟨(KeepsOthers.setCell _ _ _).trans (KeepsOthers.setCell _ _ _), (h4.set 0 _).setOther (by simp) _, (h5.setOther (by simp) _).set 0 _,
              (hK.setCell (p := ⟨w.heap.size, 0, none⟩) (Or.inr (Nat.le_refl _)) _).setCell (p := ⟨w.heap.size + 1, 0, none⟩) (Or.inr (Nat.le_succ _)) _⟩
          have HE := Lib.hid hend
          clear hbad hno hend
          by_cases hlong : 27 < x.size
          · gi_wp2_with fail
            obtain ⟨e1, e2, e3, e4⟩ := HE.out _ rfl
            exact ⟨e1, rfl, HN.out, e2, e3, e4⟩
          · have hfull : ((acc.length : Int) == 32) = true := by
              rcases HB.out with h | h
              · exact absurd h hlong
              · simp [h]
            gi_wp2_with fail
            obtain ⟨e1, e2, e3, e4⟩ := HE.out _ rfl
            exact ⟨e1, rfl, HN.out, e2, e3, e4⟩
        · have hlong : x.size ≤ 27 := by omega
          have hfull : ((acc.length : Int) == 32) = false := by simp; omega
          have hl2 : acc.length + 1 ≤ 32 := by omega
          have HB := Lib.hid hbad
          clear hbad
          gi_wp2_with (first | (gi_at_builtin; refine wpListIn_append_own _ rfl _ _ 45 rfl w4.heap.size 9 i0 (.string ByteArray.empty) 1 16 Tryz.underlying45 hi hz0 hz1 hz2 rfl (by decide) _ _ _ rfl (hrow.alloc _) ⟨W.heap.size, 0, none⟩ 1 1 [.string x] rfl rfl ?c1 ?c2 ?c3 ?c4 ?c5 ?_) | fail)
          case c1 => exact cell_one_new _ _ _
          case c2 => simp [Value.oneCell']
          case c3 => simp only [maxLen]; omega
          case c4 => omega
          case c5 => simp; omega
          intro v' w3 hown3 hg3 hne
          obtain ⟨a', c', hv'⟩ : ∃ a c, v' = .slice a (acc.length + 1) c := by
            rcases hown3.2 with ⟨h, h0⟩ | ⟨g, c, _, h, _⟩
            · omega
            · exact ⟨_, _, h⟩
          rw [hv']
          rw [hv'] at hown3
          clear hv' hne
          have hrowb := ownsRow_rebase (B' := w.heap.size) hrow (fun g hg => by have := (ownsRow_base hrow hg).1; omega)
          have hown3b := ownsRow_rebase (B' := w.heap.size) hown3 (fun g hg => by have := (ownsRow_base hown3 hg).1; omega)
          obtain ⟨q1, q2, q3, q4, q5⟩ := Boxed.appended (W := W) (w1 := w3) (n₀ := w.heap.size) (B := w.heap.size + 1 + 1) (t := 45) (e := 9) hL (by decide) hrowb hK.size (by omega) hown3b hg3
          have hm4 : ∀ {b : Nat} {cs : Array Value} {t : TypeId}, Blk W b cs t → t ≠ 9 → b ≠ w.heap.size + 1 + 1 → Blk (w3.setCell ⟨w.heap.size + 1 + 1, 0, none⟩ (.slice a' (acc.length + 1) c')) b cs t := by
            intro b cs t hb ht hbn
            refine Blk.setOther ?_ (Ne.symm hbn) _
            refine (hb.alloc (.cells #[.string x] 9)).grown hg3 (fun e => ?_)
            obtain ⟨_, cur, hc⟩ := ownsRow_base hrow e.symm
            have := (show W.heap[b]? = _ from hb).symm.trans hc
            simp at this
            exact ht this.2
          have r4 := hm4 h4 (by decide) (by omega)
          have r5 := hm4 h5 (by decide) (by omega)
          have rS : KeepBox (w.heap.size + 1 + 1 + 1) W (w3.setCell ⟨w.heap.size + 1 + 1, 0, none⟩ (.slice a' (acc.length + 1) c')) := by
            have e1 : ob (W.alloc (.cells #[.string x] 9)) (w.heap.size + 1 + 1 + 1) = ob W (w.heap.size + 1 + 1 + 1) := ob_alloc (by omega)
            have e2 : ob w3 (w.heap.size + 1 + 1 + 1) = ob (W.alloc (.cells #[.string x] 9)) (w.heap.size + 1 + 1 + 1) := hg3.block _ (by simp; omega) (fun e => by have := (ownsRow_base hrow e.symm).1; omega)
            exact ((ob_setCell (by omega)).trans e2).trans e1
          have q3' := ownsRow_rebase (B' := w4.heap.size) q3 (fun g hg => (ownsRow_base hown3 hg).1)
          have hsz3 : w4.heap.size ≤ w3.heap.size := by have := hg3.size; simp at this; omega
          have rK : Keeps (fun _ => False) w (w3.setCell ⟨w.heap.size + 1 + 1, 0, none⟩ (.slice a' (acc.length + 1) c')) :=
            hK.trans (Y := fun k => w.heap.size ≤ k) ⟨q5.os, q5.tape, q5.output, q5.size, fun k _ hk => q5.block k (by omega)⟩ (fun _ _ x => x) (fun k hk h => by omega)
          have hc3 := q1.cell
          have hf3 := q1.frozen
          clear hm4 hown3 hown3b hrowb hg3 q1
          gi_wp2_with fail
          exact ⟨q4, rS, acc ++ [x], _, q2, by simpa using q3', by simpa using hsz3, by simpa using hl2, fun r => by rw [List.append_assoc, HC.out, List.singleton_append, comps, if_neg HD.out, if_neg HB.out], r4, r5, rK⟩
    case done =>
      rintro D ys W hD rfl ⟨acc, v, hL, hrow, hw4W, hlen, hcomp, h4, h5, hK⟩ hDd
      obtain ⟨a0, c0, hv⟩ : ∃ a c, v = .slice a acc.length c := by
        rcases hrow.2 with ⟨hv, h0⟩ | ⟨g, c, cur, hv, _⟩
        · exact ⟨none, 0, by rw [hv, h0]⟩
        · exact ⟨_, _, hv⟩
      subst hv
      have HC := Lib.hid hcomp
      have hcL : W.cell? ⟨w.heap.size + 1 + 1, 0, none⟩ = some (.slice a0 acc.length c0) := hL.cell 0
      have hc4 : W.cell? ⟨w.heap.size, 0, none⟩ = some (.slice none 0 0) := h4.cell 0
      have hf4 : W.frozen? ⟨w.heap.size, 0, none⟩ = false := h4.frz 0
      have hc5 : W.cell? ⟨w.heap.size + 1, 0, none⟩ = some (.int .i64 0) := h5.cell 0
      have hf5 : W.frozen? ⟨w.heap.size + 1, 0, none⟩ = false := h5.frz 0
      have hW5 : ∀ W', W' = (W.setCell ⟨w.heap.size, 0, none⟩ (.slice a0 acc.length c0)).setCell ⟨w.heap.size + 1, 0, none⟩ (.int .i64 0) →
          Blk W' w.heap.size #[.slice a0 acc.length c0] 45 ∧ Blk W' (w.heap.size + 1) #[.int .i64 0] 31 ∧ Keeps (fun _ => False) w W' ∧ W'.ownsRow w.heap.size 9 1 (.slice a0 acc.length c0) acc.length (acc.map Value.string) ∧ W'.heap[D]? = some (.deferred (some [])) := by
        rintro W' rfl
        refine ⟨(h4.set 0 _).setOther (by simp) _, (h5.setOther (by simp) _).set 0 _,
          (hK.setCell (p := ⟨w.heap.size, 0, none⟩) (Or.inr (Nat.le_refl _)) _).setCell (p := ⟨w.heap.size + 1, 0, none⟩) (Or.inr (Nat.le_succ _)) _, ?_, ?_⟩
        · refine ownsRow_keep (ownsRow_rebase hrow (fun g hg => by have := (ownsRow_base hrow hg).1; omega)) (fun g hg => ?_)
          have := (ownsRow_base hrow hg).1
          rw [Below.heap_setCell _ _ _ _ (by simp; omega), Below.heap_setCell _ _ _ _ (by simp; omega)]
        · rw [Below.heap_setCell _ _ _ _ (by simp; omega), Below.heap_setCell _ _ _ _ (by simp; omega)]; exact hDd
      have HW := Lib.hid hW5
      clear hW5 hcomp
      gi_wp2
      obtain ⟨k4, k5, kK, krow, kD⟩ := HW.out _ rfl
      refine ⟨by simp, .inl ⟨_, _, rfl, run_takeDeferred kD, ?_⟩⟩
      have m : Mild w4.heap.size _ (World.putObj _ D (.deferred none)) := Mild.of (grownBy_putObj' _ D (.deferred none)) (fun r e => by cases e; exact ⟨hD, _, kD, rfl⟩)
      exact ⟨_, results_cells rfl _ _ _ rfl rfl (run_loadVar_one Tryz.underlying45 rfl ((m.blk k4).cell 0)) (run_loadVar_one Tryz.underlying31 rfl ((m.blk k5).cell 0)), m.keeps kK (by omega),
        .inl ⟨acc, _, by rw [compsOf, if_neg (by omega)]; have := HC.out []; simpa [comps] using this, rfl, m.row krow⟩⟩
    case stop =>
      rintro D c pre W hD ⟨r, hpre⟩ ⟨rfl, hno, h4, h5, hK⟩ hDd
      have HC := Lib.hid hno
      clear hno
      gi_wp2
      refine ⟨by simp, .inl ⟨_, _, rfl, run_takeDeferred hDd, ?_⟩⟩
      have m : Mild w4.heap.size _ (World.putObj _ D (.deferred none)) := Mild.of (grownBy_putObj' _ D (.deferred none)) (fun r e => by cases e; exact ⟨hD, _, hDd, rfl⟩)
      exact ⟨_, results_cells rfl _ _ _ rfl rfl (run_loadVar_one Tryz.underlying45 rfl ((m.blk h4).cell 0)) (run_loadVar_one Tryz.underlying31 rfl ((m.blk h5).cell 0)), m.keeps hK (by omega),
        .inr ⟨by rw [compsOf, if_neg (by omega), ← hpre]; exact HC.out r, rfl⟩⟩
end Go.Proofs.YtdafneilalompaaGreatDoor
