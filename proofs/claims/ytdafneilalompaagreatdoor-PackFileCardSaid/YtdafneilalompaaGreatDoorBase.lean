/- Plain facts on worlds: what a call leaves as it was; blocks that are known whole; maps, entry by entry. No condition but those that each lemma names. -/
import Derived.Test.YtdafneilalompaaGreatDoorChecked
import Derived.WalkKit
import Derived.WalkLawsBesides
import Derived.WalkSpells
import Derived.Lib.Hide
import Derived.Deep.QuietTactic
import Derived.BigQuiet
import Derived.StillTailTactics
import Derived.Maps.RangeRun
import Derived.Deep.LoopGhost
import Derived.Deep.DeepFit
namespace Go.Proofs.YtdafneilalompaaGreatDoor
open Go Go.RowKit Go.MapKept
open Go.ChangeMaps (setBlock)

/-- Of the blocks of w all but those of X are in w' as they were. -/
structure Keeps (X : Nat → Prop) (w w' : World) : Prop where
  os : w'.os = w.os
  tape : w'.tape = w.tape
  output : w'.output = w.output
  size : w.heap.size ≤ w'.heap.size
  block : ∀ k, k < w.heap.size → ¬ X k → w'.heap[k]? = w.heap[k]?

theorem Keeps.refl (X : Nat → Prop) (w : World) : Keeps X w w := ⟨rfl, rfl, rfl, Nat.le_refl _, fun _ _ _ => rfl⟩
theorem Keeps.trans {X Y Z : Nat → Prop} {a b c : World} (h : Keeps X a b) (k : Keeps Y b c) (hX : ∀ i, i < a.heap.size → X i → Z i) (hY : ∀ i, i < a.heap.size → Y i → Z i) : Keeps Z a c :=
  ⟨k.os.trans h.os, k.tape.trans h.tape, k.output.trans h.output, Nat.le_trans h.size k.size, fun i hi hz =>
    (k.block i (Nat.lt_of_lt_of_le hi h.size) (fun y => hz (hY i hi y))).trans (h.block i hi (fun x => hz (hX i hi x)))⟩
theorem Keeps.mono {X Y : Nat → Prop} {a b : World} (h : Keeps X a b) (hX : ∀ i, i < a.heap.size → X i → Y i) : Keeps Y a b :=
  ⟨h.os, h.tape, h.output, h.size, fun i hi hy => h.block i hi (fun x => hy (hX i hi x))⟩
theorem Keeps.then {X : Nat → Prop} {a b c : World} (h : Keeps X a b) (k : Keeps X b c) : Keeps X a c := h.trans k (fun _ _ x => x) (fun _ _ x => x)
theorem Keeps.alloc {X : Nat → Prop} {a w : World} (h : Keeps X a w) (o : Obj) : Keeps X a (w.alloc o) :=
  h.then ⟨rfl, rfl, rfl, by simp, fun k hk _ => Below.heap_alloc _ _ _ hk⟩
theorem Keeps.drew {X : Nat → Prop} {a w : World} (h : Keeps X a w) : Keeps X a w.drew := ⟨h.os, h.tape, h.output, h.size, h.block⟩
theorem Keeps.drewN {X : Nat → Prop} {a w : World} (h : Keeps X a w) (n : Nat) : Keeps X a (w.drewN n) := ⟨h.os, h.tape, h.output, h.size, h.block⟩
theorem Keeps.setCell {X : Nat → Prop} {a w : World} (h : Keeps X a w) {p : Addr} (hp : X p.block ∨ a.heap.size ≤ p.block) (u : Value) : Keeps X a (w.setCell p u) :=
  h.trans (Y := fun k => k = p.block) ⟨rfl, rfl, rfl, by simp, fun k _ hne => Below.heap_setCell _ _ _ _ hne⟩ (fun _ _ x => x)
    (fun i hi e => by rcases hp with hp | hp
                      · exact e ▸ hp
                      · omega)
theorem Keeps.setBlock {X : Nat → Prop} {a w : World} (h : Keeps X a w) {b : Nat} (hp : X b ∨ a.heap.size ≤ b) (o : Obj) : Keeps X a (Go.ChangeMaps.setBlock w b o) :=
  h.trans (Y := fun k => k = b) ⟨rfl, rfl, rfl, by simp [Go.ChangeMaps.setBlock], fun k _ hne => by simp [Go.ChangeMaps.setBlock, Array.getElem?_setIfInBounds, Ne.symm hne]⟩ (fun _ _ x => x)
    (fun i hi e => by rcases hp with hp | hp
                      · exact e ▸ hp
                      · omega)
theorem Keeps.grown {X : Nat → Prop} {a w w' : World} {row : Option Nat} (h : Keeps X a w) (hg : w.grownBy w' row) (hr : ∀ k, row = some k → X k ∨ a.heap.size ≤ k) : Keeps X a w' :=
  h.trans (Y := fun k => some k = row) ⟨hg.os, hg.tape, hg.output, hg.size, fun k hk hne => hg.block k hk hne⟩ (fun _ _ x => x)
    (fun i hi e => by rcases hr i e.symm with hp | hp
                      · exact hp
                      · omega)
theorem Keeps.below {X : Nat → Prop} {w w' : World} (h : Keeps X w w') {B : Nat} (hB : B ≤ w.heap.size) (hX : ∀ k, k < B → ¬ X k) : Below B w w' :=
  ⟨h.os, h.tape, h.output, h.size, fun k hk => h.block k (by omega) (hX k hk)⟩
theorem Keeps.ofBelow {w w' : World} (h : Below w.heap.size w w') (X : Nat → Prop) : Keeps X w w' := ⟨h.os, h.tape, h.output, h.size, fun k hk _ => h.block k hk⟩

/-- What lies at a block. (A name that the walk's simp does not look behind.) -/
def ob (w : World) (b : Nat) : Option Obj := w.heap[b]?
@[simp] theorem ob_alloc {w : World} {o : Obj} {n : Nat} (hn : n < w.heap.size) : ob (w.alloc o) n = ob w n := Below.heap_alloc _ _ _ hn
@[simp] theorem ob_setCell {w : World} {m i n : Nat} {v : Value} (h : ¬ n = m) : ob (w.setCell ⟨m, i, none⟩ v) n = ob w n := Below.heap_setCell _ _ _ _ h
@[simp] theorem ob_drew {w : World} {n : Nat} : ob w.drew n = ob w n := id rfl
@[simp] theorem ob_drewN {w : World} {n k : Nat} : ob (w.drewN k) n = ob w n := id rfl
@[simp] theorem ob_setBlock {w : World} {m n : Nat} {o : Obj} (h : ¬ n = m) : ob (setBlock w m o) n = ob w n := by simp [ob, Go.ChangeMaps.setBlock, Array.getElem?_setIfInBounds, Ne.symm h]
@[simp] theorem size_setBlock {w : World} {m : Nat} {o : Obj} : (setBlock w m o).heap.size = w.heap.size := by simp [Go.ChangeMaps.setBlock]

@[simp] theorem ob_alloc_new {w : World} {o : Obj} {n : Nat} (hn : n = w.heap.size) : ob (w.alloc o) n = some o := hn ▸ (heap_alloc w o).1
@[simp] theorem cell_setBlock {w : World} {m n i : Nat} {o : Obj} (h : ¬ n = m) : (setBlock w m o).cell? ⟨n, i, none⟩ = w.cell? ⟨n, i, none⟩ := World.cell?_of_block (w := w) (ob_setBlock h)
@[simp] theorem frozen_setBlock {w : World} {m n i : Nat} {o : Obj} (h : ¬ n = m) : (setBlock w m o).frozen? ⟨n, i, none⟩ = w.frozen? ⟨n, i, none⟩ := World.frozen?_of_block (w := w) (ob_setBlock h)

/-- A block of cells that is known whole. -/
def Blk (w : World) (b : Nat) (cs : Array Value) (t : TypeId) : Prop := w.heap[b]? = some (.cells cs t (0, 0))
section
variable {w w' : World} {b : Nat} {cs : Array Value} {t : TypeId}
theorem Blk.cell (h : Blk w b cs t) (i : Nat) : w.cell? ⟨b, i, none⟩ = cs[i]? := by simp [World.cell?, show w.heap[b]? = _ from h]
theorem Blk.frz (h : Blk w b cs t) (i : Nat) : w.frozen? ⟨b, i, none⟩ = false := by simp [World.frozen?, show w.heap[b]? = _ from h]
theorem Blk.lt (h : Blk w b cs t) : b < w.heap.size := (Array.getElem?_eq_some_iff.1 h).1
theorem Blk.ltk (h : Blk w b cs t) (k : Nat) : b < w.heap.size + k := by have := h.lt; omega
theorem Blk.set (h : Blk w b cs t) (i : Nat) (v : Value) : Blk (w.setCell ⟨b, i, none⟩ v) b (cs.setIfInBounds i v) t := by
  unfold Blk at *; simp [World.setCell, Array.getElem?_modify, h]
theorem Blk.setOther (h : Blk w b cs t) {a : Addr} (ha : a.block ≠ b) (v : Value) : Blk (w.setCell a v) b cs t := by
  unfold Blk at *; rw [Below.heap_setCell _ _ _ _ (Ne.symm ha)]; exact h
theorem Blk.alloc (h : Blk w b cs t) (o : Obj) : Blk (w.alloc o) b cs t := (Below.heap_alloc _ _ _ h.lt).trans h
theorem Blk.new (w : World) (cs : Array Value) (t : TypeId) : Blk (w.alloc (.cells cs t)) w.heap.size cs t := (heap_alloc w _).1
theorem Blk.new' {w : World} {n : Nat} (hn : n = w.heap.size) (cs : Array Value) (t : TypeId) : Blk (w.alloc (.cells cs t)) n cs t := hn ▸ Blk.new w cs t
theorem Blk.drew (h : Blk w b cs t) : Blk w.drew b cs t := h
theorem Blk.drewN (h : Blk w b cs t) (n : Nat) : Blk (w.drewN n) b cs t := h
theorem Blk.keeps (h : Blk w b cs t) {X : Nat → Prop} (k : Keeps X w w') (hX : ¬ X b) : Blk w' b cs t := (k.block b h.lt hX).trans h
theorem Blk.setBlock (h : Blk w b cs t) {c : Nat} (hc : c ≠ b) (o : Obj) : Blk (Go.ChangeMaps.setBlock w c o) b cs t := by
  unfold Blk at *; simp [Go.ChangeMaps.setBlock, Array.getElem?_setIfInBounds, hc, h]
theorem Blk.grown (h : Blk w b cs t) {row : Option Nat} (k : w.grownBy w' row) (hX : some b ≠ row) : Blk w' b cs t := (k.block b h.lt hX).trans h
end

theorem results_cell1 {fn : Func} {p : Tmp} {ty : TypeId} (h : fn.results = #[.cell p ty]) (tmps : Array Value) (P : Program) (w : World) {a : Addr} {v : Value} (ha : tmps.getD p undef = .pointer (some a)) (hl : (loadVar ty a).run P w = .ok v w) :
    (results fn tmps).run P w = .ok v w := by
  rw [Array.getD_eq_getD_getElem?] at ha
  simp only [results, h]
  simp [Sem.run_bind, Result.andThen, ha, asAddr, hl]
theorem results_cell2 {fn : Func} {p u : Tmp} {ty : TypeId} (h : fn.results = #[.cell p ty, .tmp u]) (tmps : Array Value) (P : Program) (w : World) {a : Addr} {v : Value} (ha : tmps.getD p undef = .pointer (some a)) (hl : (loadVar ty a).run P w = .ok v w) :
    (results fn tmps).run P w = .ok (.tuple #[v, tmps.getD u undef]) w := by
  rw [Array.getD_eq_getD_getElem?] at ha
  simp only [results, h]
  simp [Sem.run_bind, Result.andThen, ha, asAddr, hl]

theorem results_cells {fn : Func} {p q : Tmp} {t1 t2 : TypeId} (h : fn.results = #[.cell p t1, .cell q t2]) (tmps : Array Value) (P : Program) (w : World) {a b : Addr} {v u : Value} (ha : tmps.getD p undef = .pointer (some a)) (hb : tmps.getD q undef = .pointer (some b))
    (h1 : (loadVar t1 a).run P w = .ok v w) (h2 : (loadVar t2 b).run P w = .ok u w) : (results fn tmps).run P w = .ok (.tuple #[v, u]) w := by
  rw [Array.getD_eq_getD_getElem?] at ha hb
  simp only [results, h]
  simp [Sem.run_bind, Result.andThen, ha, hb, asAddr, h1, h2]
theorem run_loadVar_one {P : Program} {w : World} {t : TypeId} {d : TypeDesc} (ht : P.underlying t = some d) (hd : (match d with | .struct _ | .array _ _ => true | _ => false) = false) {a : Addr} {v : Value} (hc : w.cell? a = some v) :
    (loadVar t a).run P w = .ok v w := by
  have hagg : (isAgg t).run P w = .ok false w := by
    unfold isAgg
    rw [Sem.run_bind, run_underlying ht w]
    cases d <;> simp_all
  simp [loadVar, Sem.run_bind, hagg, load, Sem.run, hc]

/-! ### maps whose keys are integers of a kind, or strings: entry by entry, in the order in which they were laid -/
/-- Block b is a map of these pairs. -/
def MapB (w : World) (b : Nat) (L : List (Value × Value)) : Prop :=
  ∃ es clock, w.heap[b]? = some (.map es clock) ∧ Stamped es clock ∧ es.toList.map (fun e => (e.key, e.val)) = L
def mapObj? (w : World) (b : Nat) : Prop := ∃ es clock, w.heap[b]? = some (Obj.map es clock)

section
variable {w w' : World} {b : Nat} {L : List (Value × Value)}
theorem MapB.lt (h : MapB w b L) : b < w.heap.size := by obtain ⟨es, c, hb, _⟩ := h; exact (Array.getElem?_eq_some_iff.1 hb).1
theorem MapB.of (h : MapB w b L) (e : w'.heap[b]? = w.heap[b]?) : MapB w' b L := by obtain ⟨es, c, hb, r⟩ := h; exact ⟨es, c, e.trans hb, r⟩
theorem MapB.keeps (h : MapB w b L) {X : Nat → Prop} (k : Keeps X w w') (hX : ¬ X b) : MapB w' b L := h.of (k.block b h.lt hX)
theorem MapB.alloc (h : MapB w b L) (o : Obj) : MapB (w.alloc o) b L := h.of (Below.heap_alloc _ _ _ h.lt)
theorem MapB.drew (h : MapB w b L) : MapB w.drew b L := h
theorem MapB.drewN (h : MapB w b L) (n : Nat) : MapB (w.drewN n) b L := h
theorem MapB.new (w : World) : MapB (w.alloc (.map #[] 0)) w.heap.size [] := ⟨#[], 0, (heap_alloc w _).1, stamped_empty 0, rfl⟩
theorem MapB.setCell (h : MapB w b L) {a : Addr} (ha : a.block ≠ b) (v : Value) : MapB (w.setCell a v) b L := h.of (Below.heap_setCell _ _ _ _ (Ne.symm ha))
theorem MapB.setBlock (h : MapB w b L) {c : Nat} (hc : c ≠ b) (o : Obj) : MapB (Go.ChangeMaps.setBlock w c o) b L := h.of (by simp [Go.ChangeMaps.setBlock, Array.getElem?_setIfInBounds, hc])
end

/-- A kind of keys: how a key of it stands as a value, and when two are one. -/
structure KeyKind (P : Program) (α : Type) [BEq α] [LawfulBEq α] where
  type : TypeId
  desc : TypeDesc
  val : α → Value
  und : P.underlying type = some desc
  inj : ∀ x y, val x = val y → x = y
  same : ∀ x y, Instr.sameNow desc (val x) (val y) = some (x == y)
  stay : ∀ x n, Instr.sameBits (n + 1) (val x) (val x) = true
  plain : ∀ (n : Nat) (e : Bool) (x : α) (w : World), (Instr.checkKey e (n + 1) type (val x)).run P w = .ok () w

def intKind (P : Program) (t : TypeId) (q : IntKind) (h : P.underlying t = some (.int q)) : KeyKind P Int where
  type := t
  desc := .int q
  val := .int q
  und := h
  inj := fun x y e => by injection e
  same := fun x y => by simp [Instr.sameNow]
  stay := fun x n => by simp [Instr.sameBits]
  plain := fun n e x w => by simp [Instr.checkKey, run_underlying h, Result.andThen]

instance : LawfulBEq ByteArray where
  eq_of_beq := fun h => (bytes_beq _ _).1 h
  rfl := (bytes_beq _ _).2 rfl

def strKind (P : Program) (t : TypeId) (h : P.underlying t = some .string) : KeyKind P ByteArray where
  type := t
  desc := .string
  val := .string
  und := h
  inj := fun x y e => by injection e
  same := fun x y => by simp [Instr.sameNow]
  stay := fun x n => by simp [Instr.sameBits]
  plain := fun n e x w => by simp [Instr.checkKey, run_underlying h, Result.andThen]

/-- 'm[x] = v': in place, or behind all others. -/
def upd {α β : Type} [BEq α] (x : α) (v : β) : List (α × β) → List (α × β)
  | [] => [(x, v)]
  | p :: r => if x == p.1 then (x, v) :: r else p :: upd x v r
/-- 'delete(m, x)'. -/
def del {α β : Type} [BEq α] (x : α) : List (α × β) → List (α × β)
  | [] => []
  | p :: r => if x == p.1 then r else p :: del x r
theorem upd_map {α β γ : Type} [BEq α] (f : β → γ) (x : α) (v : β) : ∀ L : List (α × β), (upd x v L).map (fun q => (q.1, f q.2)) = upd x (f v) (L.map fun q => (q.1, f q.2))
  | [] => rfl
  | p :: r => by simp only [upd, List.map_cons]; split <;> simp [upd_map f x v r]
theorem del_map {α β γ : Type} [BEq α] (f : β → γ) (x : α) : ∀ L : List (α × β), (del x L).map (fun q => (q.1, f q.2)) = del x (L.map fun q => (q.1, f q.2))
  | [] => rfl
  | p :: r => by simp only [del, List.map_cons]; split <;> simp [del_map f x r]
theorem lookup_map {α β γ : Type} [BEq α] (f : β → γ) (x : α) : ∀ L : List (α × β), (L.map fun q => (q.1, f q.2)).lookup x = (L.lookup x).map f
  | [] => rfl
  | (k, v) :: r => by
    simp only [List.map_cons, List.lookup_cons, lookup_map f x r]
    cases x == k <;> rfl

section
variable {P : Program} {α : Type} [BEq α] [LawfulBEq α] (K : KeyKind P α)
/-- Block b is a map of these keys and elements. -/
def MapK (w : World) (b : Nat) (L : List (α × Value)) : Prop := MapB w b (L.map fun p => (K.val p.1, p.2))

/-- At which place a key stands. -/
def at? (x : α) : List (α × Value) → Option (Nat × Value)
  | [] => none
  | p :: r => if x == p.1 then some (0, p.2) else (at? x r).map fun q => (q.1 + 1, q.2)
omit [LawfulBEq α] in
theorem at?_lookup (x : α) : ∀ L : List (α × Value), (at? x L).map (·.2) = L.lookup x
  | [] => rfl
  | (k, v) :: r => by
    rw [at?, List.lookup_cons]
    cases h : x == k
    · simp [← at?_lookup x r, Function.comp_def]
    · simp

theorem findNow_at (x : α) : ∀ (es : List MapEntry) (L : List (α × Value)), es.map (fun e => (e.key, e.val)) = L.map (fun p => (K.val p.1, p.2)) → ∀ i,
    Instr.findNow K.desc (K.val x) es i = some ((at? x L).map fun q => (i + q.1, q.2))
  | [], [], _, i => by simp [Instr.findNow, at?]
  | [], _ :: _, h, _ => by simp at h
  | _ :: _, [], h, _ => by simp at h
  | e :: es, (k, v) :: L, h, i => by
    simp only [List.map_cons, List.cons.injEq, Prod.mk.injEq] at h
    obtain ⟨⟨hk, hv⟩, hr⟩ := h
    rw [Instr.findNow, hk, K.same, at?]
    cases hx : x == k
    · simp only [findNow_at x es L hr (i + 1), Bool.false_eq_true, if_false, Option.map_map]
      congr 2
      funext q
      simp; omega
    · simp [hv]

theorem run_findKey (x : α) {es : Array MapEntry} {L : List (α × Value)} (h : es.toList.map (fun e => (e.key, e.val)) = L.map (fun p => (K.val p.1, p.2))) (w : World) :
    (Instr.findKey K.type (K.val x) es.toList).run P w = .ok (at? x L) w := by
  simp only [Instr.findKey, Sem.run_bind, run_underlying K.und, Result.andThen, findNow_at K x es.toList L h 0]
  simp

theorem MapK.lookup_ok {w : World} {b : Nat} {L : List (α × Value)} (h : MapK K w b L) {t e : TypeId} (ht : P.underlying t = some (.map K.type e)) {z : Value} (hz : ∀ w, (zeroValue e).run P w = .ok z w) (x : α) (W : World) (hW : ob W b = ob w b) :
    (Instr.lookup t (.map (some b)) (K.val x) true).run P W = .ok (.tuple #[(L.lookup x).getD z, .bool (L.lookup x).isSome]) W := by
  unfold ob at hW
  obtain ⟨es, c, hb, _, hL⟩ := h
  have hf := run_findKey K x hL W
  have hl := at?_lookup x L
  simp only [Instr.lookup, Sem.run_bind, run_underlying ht, Result.andThen, getObj, Sem.run, hW, hb, Sem.run_pure, K.plain, hf]
  cases hq : at? x L with
  | none => rw [hq] at hl; simp at hl; simp [← hl, hz]
  | some q => rw [hq] at hl; simp at hl; simp [← hl]

theorem MapK.lookup_one {w : World} {b : Nat} {L : List (α × Value)} (h : MapK K w b L) {t e : TypeId} (ht : P.underlying t = some (.map K.type e)) {z : Value} (hz : ∀ w, (zeroValue e).run P w = .ok z w) (x : α) (W : World) (hW : ob W b = ob w b) :
    (Instr.lookup t (.map (some b)) (K.val x) false).run P W = .ok ((L.lookup x).getD z) W := by
  unfold ob at hW
  obtain ⟨es, c, hb, _, hL⟩ := h
  have hf := run_findKey K x hL W
  have hl := at?_lookup x L
  simp only [Instr.lookup, Sem.run_bind, run_underlying ht, Result.andThen, getObj, Sem.run, hW, hb, Sem.run_pure, K.plain, hf]
  cases hq : at? x L with
  | none => rw [hq] at hl; simp at hl; simp [← hl, hz]
  | some q => rw [hq] at hl; simp at hl; simp [← hl]

theorem MapK.update {w : World} {b : Nat} {L : List (α × Value)} (h : MapK K w b L) {t e : TypeId} (ht : P.underlying t = some (.map K.type e)) (x : α) (v : Value) :
    ∃ o, (∀ W : World, ob W b = ob w b → (Instr.mapUpdate t (.map (some b)) (K.val x) v).run P W = .ok () (setBlock W b o) ∧ MapK K (setBlock W b o) b (upd x v L)) := by
  obtain ⟨es, c, hb, hst, hL⟩ := h
  have hl : ∀ (L : List (α × Value)), match at? x L with
      | none => upd x v L = L ++ [(x, v)] ∧ ∀ p ∈ L, x ≠ p.1
      | some q => upd x v L = L.set q.1 (x, v) ∧ (L[q.1]?).map (·.1) = some x := by
    intro L
    induction L with
    | nil => simp [at?, upd]
    | cons p r ih =>
      rw [at?, upd]
      cases hx : x == p.1
      · have hne : x ≠ p.1 := by simpa using hx
        simp only [Bool.false_eq_true, if_false]
        cases hq : at? x r with
        | none =>
          rw [hq] at ih
          simp only [Option.map_none]
          exact ⟨by rw [ih.1]; rfl, fun y hy => by
            rcases List.mem_cons.1 hy with rfl | hy
            · exact hne
            · exact ih.2 y hy⟩
        | some q => rw [hq] at ih; simp only [Option.map_some]; exact ⟨by rw [ih.1]; rfl, by simpa using ih.2⟩
      · have hxx : x = p.1 := by simpa using hx
        simp [hxx]
  have hl := hl L
  cases hq : at? x L with
  | none =>
    rw [hq] at hl
    refine ⟨.map (es.push { key := K.val x, val := v, born := c }) (c + 1), fun W (hW : W.heap[b]? = w.heap[b]?) => ⟨?_, ?_⟩⟩
    · have hf := run_findKey K x hL W
      rw [hq] at hf
      simp only [Instr.mapUpdate, Sem.run_bind, run_underlying ht, Result.andThen, getObj, Sem.run, hW, hb, Sem.run_pure, K.plain, hf]
      simp [setObj, Sem.run, hW, hb, setBlock]
    · refine ⟨_, _, (heap_set (hW.trans hb)).1, stamped_push hst (fun y hy e => ?_), ?_⟩
      · have : (y.key, y.val) ∈ L.map (fun p => (K.val p.1, p.2)) := by rw [← hL]; exact List.mem_map.2 ⟨y, hy, rfl⟩
        obtain ⟨p, hp, hpe⟩ := List.mem_map.1 this
        simp only [Prod.mk.injEq] at hpe
        exact hl.2 p hp (K.inj _ _ (e ▸ hpe.1).symm)
      · rw [hl.1]; simp [hL]
  | some q =>
    rw [hq] at hl
    have hqL : ∃ p, L[q.1]? = some p ∧ p.1 = x := by simpa using hl.2
    obtain ⟨p, hp, hpx⟩ := hqL
    have hkey : ∀ e0, es[q.1]? = some e0 → e0.key = K.val x := by
      intro e0 he0
      have h1 : (es.toList.map (fun e => (e.key, e.val)))[q.1]? = some (e0.key, e0.val) := by simp [he0]
      rw [hL] at h1
      simp [hp] at h1
      rw [← h1.1, hpx]
    refine ⟨.map (es.modify q.1 fun e => { e with key := K.val x, val := v }) c, fun W (hW : W.heap[b]? = w.heap[b]?) => ⟨?_, ?_⟩⟩
    · have hf := run_findKey K x hL W
      rw [hq] at hf
      have hsome : ∃ e0, es[q.1]? = some e0 := by
        have h1 : (es.toList.map (fun e => (e.key, e.val)))[q.1]? = some (K.val p.1, p.2) := by rw [hL]; simp [hp]
        simp only [List.getElem?_map, Array.getElem?_toList, Option.map_eq_some_iff] at h1
        obtain ⟨e0, he0, _⟩ := h1
        exact ⟨e0, he0⟩
      obtain ⟨e0, he0⟩ := hsome
      simp only [Instr.mapUpdate, Sem.run_bind, run_underlying ht, Result.andThen, getObj, Sem.run, hW, hb, Sem.run_pure, K.plain, hf, Instr.keyThatStays, he0, Option.map_some, Option.getD_some, hkey e0 he0, K.stay, if_true]
      simp [setObj, Sem.run, hW, hb, setBlock]
    · refine ⟨_, _, (heap_set (hW.trans hb)).1, stamped_modify hst _ _ (fun _ _ => rfl) (fun e1 _ he1 => (hkey e1 he1).symm), ?_⟩
      rw [hl.1]
      apply List.ext_getElem?
      intro j
      have hLj := congrArg (fun l => l[j]?) hL
      simp only [List.getElem?_map, Array.getElem?_toList] at hLj
      simp only [List.getElem?_map, Array.getElem?_toList, Array.getElem?_modify, List.getElem?_set]
      by_cases hj : q.1 = j
      · subst hj
        have hlt : q.1 < L.length := (List.getElem?_eq_some_iff.1 hp).1
        simp only [if_true, hlt, Option.map_some]
        rw [hp] at hLj
        cases he : es[q.1]? with
        | none => rw [he] at hLj; simp at hLj
        | some e1 => simp
      · simp only [hj, if_false]
        exact hLj

theorem map_eraseIdx {β γ : Type} (f : β → γ) : ∀ (l : List β) (i : Nat), (l.eraseIdx i).map f = (l.map f).eraseIdx i
  | [], _ => rfl
  | _ :: _, 0 => rfl
  | a :: l, i + 1 => by simp [map_eraseIdx f l i]
theorem MapK.delete {w : World} {b : Nat} {L : List (α × Value)} (h : MapK K w b L) {t e ty : TypeId} (ht : P.underlying t = some (.map K.type e)) (x : α) (kt : TypeId) :
    ∃ o, (∀ W : World, ob W b = ob w b → (Builtin.delete_ #[t, kt] ty #[.map (some b), K.val x]).run P W = .ok (.tuple #[]) (setBlock W b o) ∧ MapK K (setBlock W b o) b (del x L)) := by
  obtain ⟨es, c, hb, hst, hL⟩ := h
  have hl : ∀ (L : List (α × Value)), match at? x L with
      | none => del x L = L
      | some q => del x L = L.eraseIdx q.1 := by
    intro L
    induction L with
    | nil => simp [at?, del]
    | cons p r ih =>
      rw [at?, del]
      cases hx : x == p.1
      · simp only [Bool.false_eq_true, if_false]
        cases hq : at? x r with
        | none => rw [hq] at ih; simp only [Option.map_none]; rw [ih]
        | some q => rw [hq] at ih; simp only [Option.map_some]; rw [ih]; rfl
      · simp
  have hl := hl L
  cases hq : at? x L with
  | none =>
    rw [hq] at hl
    refine ⟨.map es c, fun W (hW : W.heap[b]? = w.heap[b]?) => ⟨?_, ?_⟩⟩
    · have hf := run_findKey K x hL W
      rw [hq] at hf
      simp only [Builtin.delete_, Sem.run_bind, run_underlying ht, Result.andThen, getObj, Sem.run, hW, hb, Sem.run_pure, K.plain, hf, List.getElem?_toArray, List.getElem?_cons_zero, List.getElem?_cons_succ]
      simp [setObj, Sem.run, hW, hb, setBlock]
    · exact ⟨_, _, (heap_set (hW.trans hb)).1, hst, by rw [hl]; exact hL⟩
  | some q =>
    rw [hq] at hl
    refine ⟨.map (es.eraseIdxIfInBounds q.1) c, fun W (hW : W.heap[b]? = w.heap[b]?) => ⟨?_, ?_⟩⟩
    · have hf := run_findKey K x hL W
      rw [hq] at hf
      simp only [Builtin.delete_, Sem.run_bind, run_underlying ht, Result.andThen, getObj, Sem.run, hW, hb, Sem.run_pure, K.plain, hf, List.getElem?_toArray, List.getElem?_cons_zero, List.getElem?_cons_succ]
      simp [setObj, Sem.run, hW, hb, setBlock]
    · refine ⟨_, _, (heap_set (hW.trans hb)).1, stamped_erase hst _, ?_⟩
      have : (es.eraseIdxIfInBounds q.1).toList = es.toList.eraseIdx q.1 := by
        unfold Array.eraseIdxIfInBounds
        split
        · simp
        · rename_i hge
          rw [List.eraseIdx_of_length_le (by simpa using hge)]
      rw [hl, this, map_eraseIdx, hL, ← map_eraseIdx]

theorem MapK.len {w : World} {b : Nat} {L : List (α × Value)} (h : MapK K w b L) {t ty : TypeId} {k e : TypeId} (ht : P.underlying t = some (.map k e)) (W : World) (hW : ob W b = ob w b) :
    (Builtin.len_ #[t] ty #[.map (some b)]).run P W = .ok (.int .i64 L.length) W := by
  unfold ob at hW
  obtain ⟨es, c, hb, _, hL⟩ := h
  have : es.size = L.length := by have := congrArg List.length hL; simpa using this
  simp [Builtin.len_, run_underlying ht, getObj, Sem.run, hW, hb, Result.andThen, goInt, this]
/-- An object is a map of these keys and elements. -/
def MapO (o : Obj) (L : List (α × Value)) : Prop := ∃ es clock, o = .map es clock ∧ Stamped es clock ∧ es.toList.map (fun e => (e.key, e.val)) = L.map fun p => (K.val p.1, p.2)
theorem MapK.obj {w : World} {b : Nat} {L : List (α × Value)} (h : MapK K w b L) : ∃ o, ob w b = some o ∧ MapO K o L := by
  obtain ⟨es, c, hb, hst, hL⟩ := h
  exact ⟨_, hb, es, c, rfl, hst, hL⟩
theorem MapO.mapK {o : Obj} {L : List (α × Value)} (h : MapO K o L) {w : World} {b : Nat} (hb : ob w b = some o) : MapK K w b L := by
  obtain ⟨es, c, rfl, hst, hL⟩ := h
  exact ⟨es, c, hb, hst, hL⟩
theorem MapO.empty : MapO K (.map #[] 0) [] := ⟨#[], 0, rfl, stamped_empty 0, rfl⟩
theorem MapO.lookup_one {o : Obj} {L : List (α × Value)} (h : MapO K o L) {t e : TypeId} (ht : P.underlying t = some (.map K.type e)) {z : Value} (hz : ∀ w, (zeroValue e).run P w = .ok z w) (b : Nat) (x : α) (W : World) (hW : ob W b = some o) :
    (Instr.lookup t (.map (some b)) (K.val x) false).run P W = .ok ((L.lookup x).getD z) W := MapK.lookup_one K (h.mapK K hW) ht hz x W rfl
theorem MapO.lookup_ok {o : Obj} {L : List (α × Value)} (h : MapO K o L) {t e : TypeId} (ht : P.underlying t = some (.map K.type e)) {z : Value} (hz : ∀ w, (zeroValue e).run P w = .ok z w) (b : Nat) (x : α) (W : World) (hW : ob W b = some o) :
    (Instr.lookup t (.map (some b)) (K.val x) true).run P W = .ok (.tuple #[(L.lookup x).getD z, .bool (L.lookup x).isSome]) W := MapK.lookup_ok K (h.mapK K hW) ht hz x W rfl
theorem MapO.len {o : Obj} {L : List (α × Value)} (h : MapO K o L) {t ty : TypeId} {k e : TypeId} (ht : P.underlying t = some (.map k e)) (b : Nat) (W : World) (hW : ob W b = some o) :
    (Builtin.len_ #[t] ty #[.map (some b)]).run P W = .ok (.int .i64 L.length) W := MapK.len K (h.mapK K hW) ht W rfl
@[simp] theorem ob_setBlock_same {w : World} {m : Nat} {o : Obj} (h : m < w.heap.size) : ob (setBlock w m o) m = some o := by simp [ob, Go.ChangeMaps.setBlock, h]
theorem MapO.update {o : Obj} {L : List (α × Value)} (h : MapO K o L) {t e : TypeId} (ht : P.underlying t = some (.map K.type e)) (b : Nat) (x : α) (v : Value) :
    ∃ o', MapO K o' (upd x v L) ∧ ∀ W, ob W b = some o → (Instr.mapUpdate t (.map (some b)) (K.val x) v).run P W = .ok () (setBlock W b o') := by
  -- one world in which the object lies at block b
  obtain ⟨W0, hW0⟩ : ∃ W0 : World, ob W0 b = some o := ⟨{ (default : World) with heap := Array.replicate (b + 1) o }, by simp [ob]⟩
  obtain ⟨o', ho'⟩ := MapK.update K (h.mapK K hW0) ht x v
  refine ⟨o', ?_, fun W hW => (ho' W (hW.trans hW0.symm)).1⟩
  have := (ho' W0 rfl).2
  have hlt : b < W0.heap.size := (Array.getElem?_eq_some_iff.1 (show W0.heap[b]? = _ from hW0)).1
  obtain ⟨o2, ho2, hm⟩ := MapK.obj K this
  rw [ob_setBlock_same hlt] at ho2
  cases ho2
  exact hm
theorem MapO.delete {o : Obj} {L : List (α × Value)} (h : MapO K o L) {t e ty : TypeId} (ht : P.underlying t = some (.map K.type e)) (b : Nat) (x : α) (kt : TypeId) :
    ∃ o', MapO K o' (del x L) ∧ ∀ W, ob W b = some o → (Builtin.delete_ #[t, kt] ty #[.map (some b), K.val x]).run P W = .ok (.tuple #[]) (setBlock W b o') := by
  obtain ⟨W0, hW0⟩ : ∃ W0 : World, ob W0 b = some o := ⟨{ (default : World) with heap := Array.replicate (b + 1) o }, by simp [ob]⟩
  obtain ⟨o', ho'⟩ := MapK.delete K (h.mapK K hW0) (ty := ty) ht x kt
  refine ⟨o', ?_, fun W hW => (ho' W (hW.trans hW0.symm)).1⟩
  have := (ho' W0 rfl).2
  have hlt : b < W0.heap.size := (Array.getElem?_eq_some_iff.1 (show W0.heap[b]? = _ from hW0)).1
  obtain ⟨o2, ho2, hm⟩ := MapK.obj K this
  rw [ob_setBlock_same hlt] at ho2
  cases ho2
  exact hm

/-- 'for k, v := range m' under way: r is an iterator over block b, nothing has been laid into the map since; 'left': what is still to come, in the order of laying. -/
def Ranging (w : World) (b r : Nat) (L left : List (α × Value)) : Prop :=
  ∃ es clock since seen c0, w.heap[b]? = some (.map es clock) ∧ Stamped es clock ∧ es.toList.map (fun e => (e.key, e.val)) = L.map (fun p => (K.val p.1, p.2)) ∧
    w.heap[r]? = some (.mapIter (some b) since seen c0) ∧ (∀ x ∈ es.toList, x.born < since) ∧ since ≤ c0 ∧ since ≤ clock ∧ (leftOf es seen).toList.map (fun e => (e.key, e.val)) = left.map (fun p => (K.val p.1, p.2))

section
variable {w w' : World} {b r : Nat} {L left : List (α × Value)}
theorem Ranging.map (h : Ranging K w b r L left) : MapK K w b L := by
  obtain ⟨es, c, _, _, _, h1, h2, h3, _⟩ := h
  exact ⟨es, c, h1, h2, h3⟩
theorem Ranging.lt (h : Ranging K w b r L left) : r < w.heap.size := by
  obtain ⟨es, c, _, _, _, h1, h2, h3, h4, _⟩ := h
  exact (Array.getElem?_eq_some_iff.1 h4).1
theorem Ranging.ne (h : Ranging K w b r L left) : r ≠ b := by
  obtain ⟨es, c, _, _, _, h1, h2, h3, h4, _⟩ := h
  intro e
  rw [e, h1] at h4
  cases h4
theorem Ranging.iter (h : Ranging K w b r L left) : ∃ s se c, w.heap[r]? = some (.mapIter (some b) s se c) := by
  obtain ⟨es, c, s, se, c0, h1, h2, h3, h4, _⟩ := h
  exact ⟨_, _, _, h4⟩
theorem Ranging.off (h : Ranging K w b r L left) {g : Nat} {cur : Array Value} {t : TypeId} {f : Nat × Nat} (hg : w.heap[g]? = some (.cells cur t f)) : g ≠ r ∧ g ≠ b := by
  obtain ⟨es, c, s, se, c0, h1, h2, h3, h4, _⟩ := h
  exact ⟨fun e => (by rw [e, h4] at hg; cases hg), fun e => (by rw [e, h1] at hg; cases hg)⟩
theorem Ranging.of (h : Ranging K w b r L left) (e1 : w'.heap[b]? = w.heap[b]?) (e2 : w'.heap[r]? = w.heap[r]?) : Ranging K w' b r L left := by
  obtain ⟨es, c, s, se, c0, h1, h2, h3, h4, rest⟩ := h
  exact ⟨es, c, s, se, c0, e1.trans h1, h2, h3, e2.trans h4, rest⟩
theorem Ranging.keeps (h : Ranging K w b r L left) {X : Nat → Prop} (k : Keeps X w w') (hb : ¬ X b) (hr : ¬ X r) : Ranging K w' b r L left :=
  h.of K (k.block b h.map.lt hb) (k.block r h.lt hr)
theorem MapK.range (h : MapK K w b L) {t e : TypeId} (ht : P.underlying t = some (.map K.type e)) :
    ∃ w', (Instr.range t (.map (some b))).run P w = .ok (.pointer (some ⟨w.heap.size, 0, none⟩)) w' ∧ Ranging K w' b w.heap.size L L ∧ Keeps (fun _ => False) w w' ∧ w'.heap.size = w.heap.size + 1 := by
  have hlt := MapB.lt h
  obtain ⟨es, c, hb, hst, hL⟩ := h
  refine ⟨_, run_range_map w t K.type e b es c ht hb, ⟨es, c, c, #[], c, ((MapKept.heap_alloc w _).2 b hlt).trans hb, hst, hL, (MapKept.heap_alloc w _).1, hst.1, Nat.le_refl _, Nat.le_refl _, ?_⟩, (Keeps.refl _ _).alloc _, by simp⟩
  rw [← hL]
  congr 1
  simp [leftOf]
theorem filter_less : ∀ (l : List MapEntry) (e : MapEntry) (seen : Array Nat), (l.map (·.born)).Nodup → e ∈ l → seen.contains e.born = false →
    ∃ l1 l2, l.filter (fun x => !seen.contains x.born) = l1 ++ e :: l2 ∧ l.filter (fun x => !(seen.push e.born).contains x.born) = l1 ++ l2
  | [], _, _, _, he, _ => by simp at he
  | a :: l, e, seen, hn, he, hs => by
    simp only [List.map_cons, List.nodup_cons] at hn
    have hc : ∀ x : Nat, (seen.push e.born).contains x = (seen.contains x || (x == e.born)) := contains_push seen e.born
    rcases List.mem_cons.1 he with rfl | hm
    · refine ⟨[], l.filter (fun x => !seen.contains x.born), by simp only [List.filter_cons, hs]; simp, ?_⟩
      simp only [List.filter_cons, hc, beq_self_eq_true, Bool.or_true, Bool.not_true, Bool.false_eq_true, if_false, List.nil_append]
      apply List.filter_congr
      intro x hx
      have : (x.born == e.born) = false := by
        simp only [beq_eq_false_iff_ne]
        intro h
        exact hn.1 (h ▸ List.mem_map.2 ⟨x, hx, rfl⟩)
      simp [this]
    · obtain ⟨l1, l2, h1, h2⟩ := filter_less l e seen hn.2 hm hs
      have hae : (a.born == e.born) = false := by
        simp only [beq_eq_false_iff_ne]
        intro h
        exact hn.1 (h ▸ List.mem_map.2 ⟨e, hm, rfl⟩)
      by_cases ha : seen.contains a.born = true
      · refine ⟨l1, l2, ?_, ?_⟩
        · rw [List.filter_cons, h1, ha]; rfl
        · rw [List.filter_cons, h2, hc, ha]; rfl
      · have ha' : seen.contains a.born = false := by simpa using ha
        refine ⟨a :: l1, l2, ?_, ?_⟩
        · rw [List.filter_cons, h1, ha']; rfl
        · rw [List.filter_cons, h2, hc, ha', hae]; rfl
/-- The step: nothing is left; or SOME pair that is left comes out, and is left no more. -/
theorem Ranging.next (h : Ranging K w b r L left) (ty : TypeId) :
    (left = [] ∧ (Instr.next (.pointer (some ⟨r, 0, none⟩)) false ty).run P w = .ok (.tuple #[.bool false]) w) ∨
    ∃ l1 p l2 w', left = l1 ++ p :: l2 ∧ (Instr.next (.pointer (some ⟨r, 0, none⟩)) false ty).run P w = .ok (.tuple #[.bool true, K.val p.1, p.2]) w' ∧
      Ranging K w' b r L (l1 ++ l2) ∧ Keeps (fun k => k = r) w w' ∧ w'.heap.size = w.heap.size ∧ (Instr.entry (.pointer (some ⟨r, 0, none⟩))).run P w' = .ok (.tuple #[K.val p.1, p.2]) w' := by
  have hne := h.ne K
  obtain ⟨es, c, s, se, c0, hb, hst, hL, hr, hold, hsc, hsk, hleft⟩ := h
  rcases run_next_at (P := P) w ty r b s c0 se es c hr hb hold hsc with ⟨h0, hrun⟩ | ⟨e, he, w1, hal, hrun⟩
  · refine Or.inl ⟨?_, hrun⟩
    have hl := congrArg List.length hleft
    simp only [List.length_map, Array.length_toList, h0] at hl
    exact List.eq_nil_of_length_eq_zero hl.symm
  · have hem : e ∈ es.toList := by simp [leftOf] at he; simpa using he.1
    have hes : se.contains e.born = false := by simp [leftOf] at he; simpa using he.2
    obtain ⟨l1, l2, h1, h2⟩ := filter_less es.toList e se hst.2.1 hem hes
    have e1 : (leftOf es se).toList = l1 ++ e :: l2 := by rw [← h1]; simp [leftOf]
    have e2 : (leftOf es (se.push e.born)).toList = l1 ++ l2 := by rw [← h2]; simp [leftOf]
    rw [e1] at hleft
    simp only [List.map_append, List.map_cons] at hleft
    obtain ⟨m1, m2, hm, hm1, hm2⟩ := List.map_eq_append_iff.1 hleft.symm
    obtain ⟨p, m3, rfl, hp, hm3⟩ := List.map_eq_cons_iff.1 hm2
    simp only [Prod.mk.injEq] at hp
    have hr1 : w1.heap[r]? = some (.mapIter (some b) s se c0) := by rcases hal with rfl | rfl <;> exact hr
    have hb1 : w1.heap[b]? = some (.map es c) := by rcases hal with rfl | rfl <;> exact hb
    have hset := heap_set (o' := .mapIter (some b) s (se.push e.born) c) hr1
    have hb' : (setBlock w1 r (.mapIter (some b) s (se.push e.born) c)).heap[b]? = some (.map es c) := (hset.2 b (fun e1 => hne e1.symm)).trans hb1
    have hent := run_entry_at (P := P) _ r b s se es c e hset.1 hb' hem hst.2.1
    have hk0 : Keeps (fun k => k = r) w w1 := by
      rcases hal with rfl | rfl
      · exact Keeps.refl _ _
      · exact (Keeps.refl _ _).drew
    have hs1 : w1.heap.size = w.heap.size := by rcases hal with rfl | rfl <;> rfl
    refine Or.inr ⟨m1, p, m3, _, hm, ?_, ⟨es, c, s, se.push e.born, c, hb', hst, hL, hset.1, hold, hsk, hsk, ?_⟩, hk0.setBlock (Or.inl rfl) _, by simp [setBlock, hs1], ?_⟩
    · rw [hp.1, hp.2]; exact hrun
    · rw [e2, List.map_append, List.map_append, hm1, hm3]
    · rw [hp.1, hp.2]; exact hent
end
end
end Go.Proofs.YtdafneilalompaaGreatDoor
