/- What a ram.FS is in memory: its blocks, whole; and how it stays one while single blocks of it are written. -/
import Derived.Test.YtdafneilalompaaGreatDoorBase
namespace Go.Proofs.YtdafneilalompaaGreatDoor
open Go Go.RowKit Go.MapKept
open Go.ChangeMaps (setBlock)
def kInt : KeyKind Tryz.prog Int := intKind Tryz.prog 3 .i64 Tryz.underlying3
def kStr : KeyKind Tryz.prog ByteArray := strKind Tryz.prog 9 Tryz.underlying9

/-- A node: where it lies, its fields; its maps: where they lie, and what they hold, in the order of laying. -/
structure Nd where
  blk : Nat
  kind : Int
  links : Int
  size : Int
  pcs : Option (Nat × List (Int × List UInt8))
  nms : Option (Nat × List (ByteArray × Int))
  blocks : Int
  text : ByteArray

/-- A piece's bytes as an array. -/
def pc (l : List UInt8) : Value := .agg (l.map fun b => Value.int .u8 b.toNat).toArray
def Nd.cells (x : Nd) : Array Value :=
  #[.int .i64 x.kind, .int .i64 x.links, .int .i64 x.size, .map (x.pcs.map (·.1)), .map (x.nms.map (·.1)), .int .i64 x.blocks, .string x.text]

/-- The whole: block F the FS, block M its map of nodes; 'own': whose a block is: (0, 0) the FS, (1, 0) the map, (2, i) node i, (3, i) its pieces, (4, i) its names; from block B on lie the undo steps 'us', in the slice u. -/
structure St where
  F : Nat
  M : Nat
  g0 : Int
  g1 : Int
  g2 : Int
  g3 : Int
  g4 : Int
  keys : List Int
  nd : Int → Nd
  own : Nat → Option (Nat × Int)
  B : Nat
  u : Value
  us : List Value

def St.fcells (S : St) : Array Value := #[.int .i64 S.g0, .int .i64 S.g1, .int .i64 S.g2, .int .i64 S.g3, .int .i64 S.g4, .map (some S.M), S.u]
def ndPtr (x : Nd) : Value := .pointer (some ⟨x.blk, 0, none⟩)

structure NdAt (w : World) (own : Nat → Option (Nat × Int)) (i : Int) (x : Nd) : Prop where
  blk : Blk w x.blk x.cells 111
  mine : own x.blk = some (2, i)
  pcs : ∀ b L, x.pcs = some (b, L) → MapK kInt w b (L.map fun q => (q.1, pc q.2)) ∧ own b = some (3, i)
  nms : ∀ b L, x.nms = some (b, L) → MapK kStr w b (L.map fun q => (q.1, Value.int .i64 q.2)) ∧ own b = some (4, i)

structure Rep (w : World) (S : St) : Prop where
  F : Blk w S.F S.fcells 115
  ownF : S.own S.F = some (0, 0)
  M : MapK kInt w S.M (S.keys.map fun i => (i, ndPtr (S.nd i)))
  ownM : S.own S.M = some (1, 0)
  nds : ∀ i ∈ S.keys, NdAt w S.own i (S.nd i)
  lt : ∀ b, S.own b ≠ none → b < S.B
  B : S.B ≤ w.heap.size
  row : w.ownsRow S.B 1 1 S.u S.us.length S.us

/-- The blocks that are the whole's. -/
def St.foot (S : St) (b : Nat) : Prop := S.own b ≠ none ∨ S.u.ownBlock = some b
def St.put (S : St) (i : Int) (x : Nd) : St := { S with nd := fun j => if j = i then x else S.nd j }
def St.undo (S : St) (u : Value) (cl : Value) : St := { S with u := u, us := S.us ++ [cl] }

def St.undos (S : St) (u : Value) (cls : List Value) : St := { S with u := u, us := S.us ++ cls }
theorem St.put_put (S : St) (i : Int) (x y : Nd) : (S.put i x).put i y = S.put i y := by
  simp only [St.put]; congr 1; funext j; split <;> rfl
theorem St.put_at (S : St) (i : Int) (x : Nd) : (S.put i x).nd i = x := by simp [St.put]
theorem St.put_ne (S : St) {i j : Int} (x : Nd) (h : j ≠ i) : (S.put i x).nd j = S.nd j := by simp [St.put, h]

theorem ownsRow_keep {w w' : World} {B t n s : Nat} {u : Value} {us : List Value} (h : w.ownsRow B t s u n us) (hg : ∀ g, u.ownBlock = some g → w'.heap[g]? = w.heap[g]?) : w'.ownsRow B t s u n us := by
  refine ⟨h.1, ?_⟩
  rcases h.2 with h | ⟨g, c, cur, hu, h1, h2, h3⟩
  · exact Or.inl h
  · exact Or.inr ⟨g, c, cur, hu, h1, (hg g (by rw [hu]; rfl)).trans h2, h3⟩
theorem ownsRow_base {w : World} {B t n s g : Nat} {u : Value} {us : List Value} (h : w.ownsRow B t s u n us) (hg : u.ownBlock = some g) : B ≤ g ∧ ∃ cur, w.heap[g]? = some (.cells cur t (0, 0)) := by
  rcases h.2 with ⟨h, _⟩ | ⟨g', c, cur, hu, h1, h2, h3⟩
  · rw [h] at hg; cases hg
  · rw [hu] at hg; cases hg; exact ⟨h1, _, h2⟩

theorem ownsRow_cells2 {w : World} {B t n s : Nat} {v : Value} {xs : List Value} (h : w.ownsRow B t s v n xs) (hn : 0 < n) : ∃ g c, v = .slice (some ⟨g, 0, none⟩) n c ∧ B ≤ g ∧ g < w.heap.size ∧ n ≤ c ∧ c ≤ maxLen ∧ ∀ i, i < xs.length → w.cell? ⟨g, i, none⟩ = xs[i]? := by
  rcases h.2 with ⟨_, h0⟩ | ⟨g, c, cur, hv, hB, hh, hnc, hcm, hcs, hx⟩
  · omega
  · refine ⟨g, c, hv, hB, (Array.getElem?_eq_some_iff.1 hh).1, hnc, hcm, fun i hi => ?_⟩
    subst hx
    simp only [World.cell?, hh]
    simp only [List.length_take] at hi
    simp [List.getElem?_take, show i < n * s by omega]
theorem ownsRow_rebase {w : World} {B B' t n s : Nat} {v : Value} {xs : List Value} (h : w.ownsRow B t s v n xs) (hg : ∀ g, v.ownBlock = some g → B' ≤ g) : w.ownsRow B' t s v n xs := by
  refine ⟨h.1, ?_⟩
  rcases h.2 with h | ⟨g, c, cur, hu, h1, h2, h3⟩
  · exact Or.inl h
  · exact Or.inr ⟨g, c, cur, hu, hg g (by rw [hu]; rfl), h2, h3⟩

theorem NdAt.keeps {w w' : World} {own : Nat → Option (Nat × Int)} {i : Int} {x : Nd} (h : NdAt w own i x) {X : Nat → Prop} (k : Keeps X w w') (hX : ∀ b, own b = some (2, i) ∨ own b = some (3, i) ∨ own b = some (4, i) → ¬ X b) : NdAt w' own i x :=
  ⟨h.blk.keeps k (hX _ (Or.inl h.mine)), h.mine,
   fun b L e => ⟨MapB.keeps (h.pcs b L e).1 k (hX _ (Or.inr (Or.inl (h.pcs b L e).2))), (h.pcs b L e).2⟩,
   fun b L e => ⟨MapB.keeps (h.nms b L e).1 k (hX _ (Or.inr (Or.inr (h.nms b L e).2))), (h.nms b L e).2⟩⟩

section
variable {w w' : World} {S : St}
theorem Rep.ub (h : Rep w S) {b : Nat} (hb : S.own b ≠ none) : S.u.ownBlock ≠ some b := fun e => by
  have h1 := (ownsRow_base h.row e).1
  have h2 := h.lt b hb
  omega
theorem Rep.keeps (h : Rep w S) {X : Nat → Prop} (k : Keeps X w w') (hX : ∀ b, S.foot b → ¬ X b) : Rep w' S :=
  have hf : ∀ b, S.own b ≠ none → ¬ X b := fun b hb => hX b (Or.inl hb)
  ⟨h.F.keeps k (hf _ (by rw [h.ownF]; simp)), h.ownF, MapB.keeps h.M k (hf _ (by rw [h.ownM]; simp)), h.ownM,
   fun i hi => (h.nds i hi).keeps k (fun b hb => hf b (by rcases hb with hb | hb | hb <;> rw [hb] <;> simp)), h.lt, Nat.le_trans h.B k.size,
   ownsRow_keep h.row (fun g hg => k.block g (by obtain ⟨_, cur, hc⟩ := ownsRow_base h.row hg; exact (Array.getElem?_eq_some_iff.1 hc).1) (hX g (Or.inr hg)))⟩
theorem Rep.alloc (h : Rep w S) (o : Obj) : Rep (w.alloc o) S := h.keeps (X := fun _ => False) ((Keeps.refl _ _).alloc o) (fun _ _ x => x)
theorem Rep.drew (h : Rep w S) : Rep w.drew S := h.keeps (X := fun _ => False) (Keeps.refl _ _).drew (fun _ _ x => x)
theorem Rep.drewN (h : Rep w S) (n : Nat) : Rep (w.drewN n) S := h.keeps (X := fun _ => False) ((Keeps.refl _ _).drewN n) (fun _ _ x => x)
theorem Rep.Flt (h : Rep w S) : S.F < S.B := h.lt _ (by rw [h.ownF]; simp)
theorem Rep.Mlt (h : Rep w S) : S.M < S.B := h.lt _ (by rw [h.ownM]; simp)
theorem Rep.FneM (h : Rep w S) : S.F ≠ S.M := fun e => by have h1 := h.ownF; rw [e, h.ownM] at h1; simp at h1
theorem Rep.Nlt (h : Rep w S) {i : Int} (hi : i ∈ S.keys) : (S.nd i).blk < S.B := h.lt _ (by rw [(h.nds i hi).mine]; simp)
theorem Rep.FneN (h : Rep w S) {i : Int} (hi : i ∈ S.keys) : S.F ≠ (S.nd i).blk := fun e => by have h1 := h.ownF; rw [e, (h.nds i hi).mine] at h1; simp at h1
theorem Rep.MneN (h : Rep w S) {i : Int} (hi : i ∈ S.keys) : S.M ≠ (S.nd i).blk := fun e => by have h1 := h.ownM; rw [e, (h.nds i hi).mine] at h1; simp at h1

/-- A node turns, in its own blocks. -/
theorem Rep.node (h : Rep w S) {i : Int} (hi : i ∈ S.keys) {x : Nd} (hx : x.blk = (S.nd i).blk) {X : Nat → Prop} (k : Keeps X w w')
    (hX : ∀ b, X b → b < w.heap.size → (S.own b = some (2, i) ∨ S.own b = some (3, i) ∨ S.own b = some (4, i))) (hN : NdAt w' S.own i x) : Rep w' (S.put i x) := by
  have hne : ∀ b, b < w.heap.size → (S.own b ≠ some (2, i) ∧ S.own b ≠ some (3, i) ∧ S.own b ≠ some (4, i)) → ¬ X b := fun b hb ⟨h1, h2, h3⟩ hx => by
    rcases hX b hx hb with e | e | e
    · exact h1 e
    · exact h2 e
    · exact h3 e
  have hlt : ∀ b, S.own b ≠ none → b < w.heap.size := fun b hb => Nat.lt_of_lt_of_le (h.lt b hb) h.B
  have k' : Keeps (fun b => X b ∧ b < w.heap.size) w w' := ⟨k.os, k.tape, k.output, k.size, fun b hb hn => k.block b hb (fun hx => hn ⟨hx, hb⟩)⟩
  refine ⟨h.F.keeps k (hne _ (hlt _ (by rw [h.ownF]; simp)) (by rw [h.ownF]; simp)), h.ownF, ?_, h.ownM, ?_, h.lt, Nat.le_trans h.B k.size, ?_⟩
  · have e : (S.put i x).keys.map (fun j => (j, ndPtr ((S.put i x).nd j))) = S.keys.map fun j => (j, ndPtr (S.nd j)) := by
      apply List.map_congr_left
      intro j _
      simp only [St.put]
      split
      · rename_i hj; subst hj; simp only [ndPtr, hx]
      · rfl
    rw [e]
    exact MapB.keeps h.M k (hne S.M (hlt S.M (by rw [h.ownM]; simp)) (by rw [h.ownM]; simp))
  · intro j hj
    simp only [St.put]
    split
    · rename_i e; subst e; exact hN
    · rename_i e
      refine (h.nds j hj).keeps k' (fun b hb ⟨hx, hlt⟩ => hne b hlt ?_ hx)
      rcases hb with hb | hb | hb <;> rw [hb] <;> simp [e]
  · refine ownsRow_keep h.row (fun g hg => ?_)
    have h1 := ownsRow_base h.row hg
    obtain ⟨h1, cur, h2⟩ := h1
    have h3 := (Array.getElem?_eq_some_iff.1 h2).1
    refine k.block g h3 (hne g h3 ?_)
    have h4 : S.own g = none := by
      cases ho : S.own g with
      | none => rfl
      | some t => have := h.lt g (by rw [ho]; simp); omega
    rw [h4]; simp

/-- A field of a node that is no map turns. -/
theorem Rep.setField (h : Rep w S) {i : Int} (hi : i ∈ S.keys) {N : Nat} (hN : N = (S.nd i).blk) (k : Nat) (v : Value) {x : Nd} (hx : x.blk = (S.nd i).blk) (hc : x.cells = (S.nd i).cells.setIfInBounds k v) (hp : x.pcs = (S.nd i).pcs) (hm : x.nms = (S.nd i).nms) :
    Rep (w.setCell ⟨N, k, none⟩ v) (S.put i x) ∧ Keeps S.foot w (w.setCell ⟨N, k, none⟩ v) := by
  subst hN
  have hk : Keeps (fun b => b = (S.nd i).blk) w (w.setCell ⟨(S.nd i).blk, k, none⟩ v) := Keeps.setCell (X := fun b => b = (S.nd i).blk) (Keeps.refl _ _) (Or.inl rfl) _
  have ho := (h.nds i hi).mine
  refine ⟨h.node hi hx hk (fun b e _ => Or.inl (e ▸ ho)) ⟨?_, hx ▸ (h.nds i hi).mine, fun b L e => ?_, fun b L e => ?_⟩, hk.mono (fun b _ e => Or.inl (by rw [e, ho]; simp))⟩
  · have := (h.nds i hi).blk.set k v; rw [hx, hc]; exact this
  · have := (h.nds i hi).pcs b L (hp ▸ e)
    exact ⟨MapB.keeps this.1 hk (fun e2 => by rw [e2, ho] at this; simp at this), this.2⟩
  · have := (h.nds i hi).nms b L (hm ▸ e)
    exact ⟨MapB.keeps this.1 hk (fun e2 => by rw [e2, ho] at this; simp at this), this.2⟩
/-- The pieces of a node turn. -/
theorem Rep.setPcs (h : Rep w S) {i : Int} (hi : i ∈ S.keys) {b : Nat} {L L' : List (Int × List UInt8)} (hp : (S.nd i).pcs = some (b, L)) {o : Obj} (ho : MapK kInt (setBlock w b o) b (L'.map fun q => (q.1, pc q.2))) :
    Rep (setBlock w b o) (S.put i { S.nd i with pcs := some (b, L') }) ∧ Keeps S.foot w (setBlock w b o) := by
  have hk : Keeps (fun c => c = b) w (setBlock w b o) := Keeps.setBlock (X := fun c => c = b) (Keeps.refl _ _) (Or.inl rfl) _
  have hn := h.nds i hi
  have hb := (hn.pcs b L hp).2
  refine ⟨h.node hi rfl hk (fun c e _ => Or.inr (Or.inl (e ▸ hb))) ⟨?_, hn.mine, fun c L e => ?_, fun c L e => ?_⟩, hk.mono (fun c _ e => Or.inl (by rw [e, hb]; simp))⟩
  · have := hn.blk.keeps hk (fun e => by have h1 := hn.mine; rw [e, hb] at h1; simp at h1)
    have e2 : Nd.cells { S.nd i with pcs := some (b, L') } = (S.nd i).cells := by simp only [Nd.cells, hp]; rfl
    rw [e2]; exact this
  · simp only [Option.some.injEq, Prod.mk.injEq] at e; obtain ⟨rfl, rfl⟩ := e; exact ⟨ho, hb⟩
  · have := hn.nms c L e
    exact ⟨MapB.keeps this.1 hk (fun e2 => by rw [e2, hb] at this; simp at this), this.2⟩
/-- The names of a node turn. -/
theorem Rep.setNms (h : Rep w S) {i : Int} (hi : i ∈ S.keys) {b : Nat} {L L' : List (ByteArray × Int)} (hp : (S.nd i).nms = some (b, L)) {o : Obj} (ho : MapK kStr (setBlock w b o) b (L'.map fun q => (q.1, Value.int .i64 q.2))) :
    Rep (setBlock w b o) (S.put i { S.nd i with nms := some (b, L') }) ∧ Keeps S.foot w (setBlock w b o) := by
  have hk : Keeps (fun c => c = b) w (setBlock w b o) := Keeps.setBlock (X := fun c => c = b) (Keeps.refl _ _) (Or.inl rfl) _
  have hn := h.nds i hi
  have hb := (hn.nms b L hp).2
  refine ⟨h.node hi rfl hk (fun c e _ => Or.inr (Or.inr (e ▸ hb))) ⟨?_, hn.mine, fun c L e => ?_, fun c L e => ?_⟩, hk.mono (fun c _ e => Or.inl (by rw [e, hb]; simp))⟩
  · have := hn.blk.keeps hk (fun e => by have h1 := hn.mine; rw [e, hb] at h1; simp at h1)
    have e2 : Nd.cells { S.nd i with nms := some (b, L') } = (S.nd i).cells := by simp only [Nd.cells, hp]; rfl
    rw [e2]; exact this
  · have := hn.pcs c L e
    exact ⟨MapB.keeps this.1 hk (fun e2 => by rw [e2, hb] at this; simp at this), this.2⟩
  · simp only [Option.some.injEq, Prod.mk.injEq] at e; obtain ⟨rfl, rfl⟩ := e; exact ⟨ho, hb⟩

theorem lookup_keys {β : Type} (f : Int → β) (i : Int) : ∀ ks : List Int, (ks.map fun j => (j, f j)).lookup i = if i ∈ ks then some (f i) else none
  | [] => rfl
  | k :: ks => by
    simp only [List.map_cons, List.lookup_cons, lookup_keys f i ks, List.mem_cons]
    by_cases e : i = k
    · subst e; simp
    · have : (i == k) = false := by simp [e]
      simp [this, e]
theorem zero107 (w : World) : (zeroValue 107).run Tryz.prog w = .ok (.pointer none) w := by kernel_rfl
/-- What the map of nodes answers. -/
theorem Rep.find (h : Rep w S) (i : Int) (W : World) (hW : ob W S.M = ob w S.M) :
    (Instr.lookup 112 (.map (some S.M)) (.int .i64 i) false).run Tryz.prog W = .ok (if i ∈ S.keys then ndPtr (S.nd i) else .pointer none) W := by
  have := h.M.lookup_one kInt (t := 112) Tryz.underlying112 zero107 i W hW
  rw [lookup_keys] at this
  split <;> rename_i hm <;> simp only [hm, if_true, if_false] at this <;> exact this
theorem Rep.findOk (h : Rep w S) (i : Int) (W : World) (hW : ob W S.M = ob w S.M) :
    (Instr.lookup 112 (.map (some S.M)) (.int .i64 i) true).run Tryz.prog W = .ok (.tuple #[if i ∈ S.keys then ndPtr (S.nd i) else .pointer none, .bool (decide (i ∈ S.keys))]) W := by
  have := h.M.lookup_ok kInt (t := 112) Tryz.underlying112 zero107 i W hW
  rw [lookup_keys] at this
  change (Instr.lookup 112 (.map (some S.M)) (.int .i64 i) true).run Tryz.prog W = _ at this
  split <;> rename_i hm <;> simp only [hm, if_true, if_false] at this <;> simpa [hm] using this

/-- A node that is not yet the whole's. -/
structure Loose (w : World) (S : St) (x : Nd) : Prop where
  blk : Blk w x.blk x.cells 111
  free : S.own x.blk = none
  lt : x.blk < S.B
  pcs : ∀ b L, x.pcs = some (b, L) → MapK kInt w b (L.map fun q => (q.1, pc q.2)) ∧ S.own b = none ∧ b < S.B ∧ b ≠ x.blk ∧ x.nms = none
  nms : ∀ b L, x.nms = some (b, L) → MapK kStr w b (L.map fun q => (q.1, Value.int .i64 q.2)) ∧ S.own b = none ∧ b < S.B ∧ b ≠ x.blk
def St.add (S : St) (i : Int) (x : Nd) : St :=
  { S with keys := S.keys ++ [i], nd := fun j => if j = i then x else S.nd j, own := fun b => if b = x.blk then some (2, i) else if x.pcs.map (·.1) = some b then some (3, i) else if x.nms.map (·.1) = some b then some (4, i) else S.own b }
theorem Loose.keeps {x : Nd} (h : Loose w S x) {X : Nat → Prop} (k : Keeps X w w') (hX : ∀ b, b < S.B → S.own b = none → ¬ X b) : Loose w' S x :=
  ⟨h.blk.keeps k (hX _ h.lt h.free), h.free, h.lt, fun b L e => have ⟨h1, h2, h3, h4⟩ := h.pcs b L e; ⟨MapB.keeps h1 k (hX b h3 h2), h2, h3, h4⟩,
   fun b L e => have ⟨h1, h2, h3, h4⟩ := h.nms b L e; ⟨MapB.keeps h1 k (hX b h3 h2), h2, h3, h4⟩⟩
theorem Rep.notFoot (h : Rep w S) {b : Nat} (hb : b < S.B) (ho : S.own b = none) : ¬ S.foot b := by
  rintro (h1 | h1)
  · exact h1 ho
  · have := (ownsRow_base h.row h1).1; omega
theorem upd_new {α β : Type} [BEq α] [LawfulBEq α] (x : α) (v : β) : ∀ L : List (α × β), (∀ p ∈ L, p.1 ≠ x) → upd x v L = L ++ [(x, v)]
  | [], _ => rfl
  | p :: r, h => by
    have h1 : (x == p.1) = false := by simpa using Ne.symm (h p (by simp))
    simp only [upd, h1, Bool.false_eq_true, if_false, List.cons_append]
    rw [upd_new x v r (fun q hq => h q (by simp [hq]))]
theorem St.add_foot (S : St) (i : Int) (x : Nd) {b : Nat} (h : S.foot b) : (S.add i x).foot b := by
  rcases h with h | h
  · refine Or.inl ?_
    simp only [St.add]
    split
    · simp
    · split
      · simp
      · split
        · simp
        · exact h
  · exact Or.inr h
/-- A node comes into the map. -/
theorem Rep.add (h : Rep w S) {x : Nd} (hx : Loose w S x) {i : Int} (hi : i ∉ S.keys) {o : Obj} (ho : MapK kInt (setBlock w S.M o) S.M (upd i (ndPtr x) (S.keys.map fun j => (j, ndPtr (S.nd j))))) :
    Rep (setBlock w S.M o) (S.add i x) ∧ Keeps S.foot w (setBlock w S.M o) := by
  have hk : Keeps (fun c => c = S.M) w (setBlock w S.M o) := Keeps.setBlock (X := fun c => c = S.M) (Keeps.refl _ _) (Or.inl rfl) _
  have hown : ∀ b, S.own b ≠ none → (S.add i x).own b = S.own b := by
    intro b hb
    simp only [St.add]
    rw [if_neg (show ¬ b = x.blk from fun e => hb (e ▸ hx.free)), if_neg, if_neg]
    · intro e
      cases hm : x.nms with
      | none => rw [hm] at e; cases e
      | some q => rw [hm] at e; cases e; exact hb (hx.nms _ _ hm).2.1
    · intro e
      cases hm : x.pcs with
      | none => rw [hm] at e; cases e
      | some q => rw [hm] at e; cases e; exact hb (hx.pcs _ _ hm).2.1
  have hF : S.own S.F ≠ none := by rw [h.ownF]; simp
  have hM : S.own S.M ≠ none := by rw [h.ownM]; simp
  refine ⟨⟨h.F.keeps hk h.FneM, (hown _ hF).trans h.ownF, ?_, (hown _ hM).trans h.ownM, ?_, ?_, Nat.le_trans h.B hk.size, ?_⟩, hk.mono (fun b _ e => Or.inl (e ▸ hM))⟩
  · rw [upd_new _ _ _ (by intro p hp; obtain ⟨j, hj, rfl⟩ := List.mem_map.1 hp; exact fun e => hi (e ▸ hj))] at ho
    have e1 : (S.add i x).keys.map (fun j => (j, ndPtr ((S.add i x).nd j))) = (S.keys.map fun j => (j, ndPtr (S.nd j))) ++ [(i, ndPtr x)] := by
      simp only [St.add, List.map_append, List.map_cons, List.map_nil, if_true]
      congr 1
      apply List.map_congr_left
      intro j hj
      rw [if_neg (show ¬ j = i from fun e => hi (e ▸ hj))]
    rw [e1]; exact ho
  · intro j hj
    rcases List.mem_append.1 hj with hj | hj
    · have hji : j ≠ i := fun e => hi (e ▸ hj)
      have hn := (h.nds j hj).keeps hk (fun b hb e => by rw [e, h.ownM] at hb; simp at hb)
      have e2 : (S.add i x).nd j = S.nd j := by simp [St.add, hji]
      rw [e2]
      have ho2 : ∀ {b t}, S.own b = some t → (S.add i x).own b = some t := fun {b t} e => (hown b (by rw [e]; simp)).trans e
      exact ⟨hn.blk, ho2 hn.mine, fun b L e => ⟨(hn.pcs b L e).1, ho2 (hn.pcs b L e).2⟩, fun b L e => ⟨(hn.nms b L e).1, ho2 (hn.nms b L e).2⟩⟩
    · have hji : j = i := by simpa using hj
      subst hji
      have e2 : (S.add j x).nd j = x := by simp [St.add]
      rw [e2]
      refine ⟨hx.blk.keeps hk (fun e => hM (e ▸ hx.free)), by simp [St.add], fun b L e => ?_, fun b L e => ?_⟩
      · obtain ⟨h1, h2, h3, h4, _⟩ := hx.pcs b L e
        refine ⟨MapB.keeps h1 hk (fun e3 => hM (e3 ▸ h2)), ?_⟩
        simp only [St.add]
        rw [if_neg h4, if_pos (by rw [e]; rfl)]
      · obtain ⟨h1, h2, h3, h4⟩ := hx.nms b L e
        refine ⟨MapB.keeps h1 hk (fun e3 => hM (e3 ▸ h2)), ?_⟩
        simp only [St.add]
        rw [if_neg h4, if_neg, if_pos (by rw [e]; rfl)]
        intro e5
        cases hp : x.pcs with
        | none => rw [hp] at e5; cases e5
        | some q => have := (hx.pcs _ _ hp).2.2.2.2; rw [e] at this; cases this
  · intro b hb
    simp only [St.add] at hb ⊢
    split at hb
    · rename_i e; subst e; exact hx.lt
    · split at hb
      · rename_i e
        cases hm : x.pcs with
        | none => rw [hm] at e; cases e
        | some q => rw [hm] at e; cases e; exact (hx.pcs _ _ hm).2.2.1
      · split at hb
        · rename_i e
          cases hm : x.nms with
          | none => rw [hm] at e; cases e
          | some q => rw [hm] at e; cases e; exact (hx.nms _ _ hm).2.2.1
        · exact h.lt b hb
  · refine ownsRow_keep h.row (fun g hg => ?_)
    obtain ⟨h1, cur, h2⟩ := ownsRow_base h.row hg
    exact hk.block g (Array.getElem?_eq_some_iff.1 h2).1 (fun e => by have := h.Mlt; omega)

/-- One step of undoing more. -/
theorem Rep.back (h : Rep w S) {u' cl : Value} {w1 : World} (h1 : w1.ownsRow S.B 1 1 u' (S.us.length + 1) (S.us ++ [cl])) (hg : w.grownBy w1 S.u.ownBlock) :
    Rep (w1.setCell ⟨S.F, 6, none⟩ u') (S.undo u' cl) ∧ Keeps S.foot w (w1.setCell ⟨S.F, 6, none⟩ u') := by
  have hk : Keeps (fun b => S.u.ownBlock = some b) w w1 := (Keeps.refl _ _).grown hg (fun k e => Or.inl e)
  have hub : ∀ b, S.own b ≠ none → ¬ S.u.ownBlock = some b := fun b hb => h.ub hb
  have hF1 := h.F.keeps hk (hub _ (by rw [h.ownF]; simp))
  have hk2 : Keeps (fun b => b = S.F) w1 (w1.setCell ⟨S.F, 6, none⟩ u') := Keeps.setCell (X := fun b => b = S.F) (Keeps.refl _ _) (Or.inl rfl) _
  refine ⟨⟨?_, h.ownF, ?_, h.ownM, ?_, h.lt, ?_, ?_⟩, ?_⟩
  · have := hF1.set 6 u'
    exact this
  · exact MapB.keeps (MapB.keeps h.M hk (hub S.M (by rw [h.ownM]; simp))) hk2 (Ne.symm h.FneM)
  · intro i hi
    refine ((h.nds i hi).keeps hk (fun b hb => hub b (by rcases hb with hb | hb | hb <;> rw [hb] <;> simp))).keeps hk2 (fun b hb e => ?_)
    subst e
    rcases hb with hb | hb | hb <;> (rw [h.ownF] at hb; simp at hb)
  · exact Nat.le_trans h.B (Nat.le_trans hk.size hk2.size)
  · have : (S.undo u' cl).us.length = S.us.length + 1 := by simp [St.undo]
    rw [this]
    refine ownsRow_keep h1 (fun g hg => ?_)
    obtain ⟨h2, cur, h3⟩ := ownsRow_base h1 hg
    refine hk2.block g (Array.getElem?_eq_some_iff.1 h3).1 (fun e => ?_)
    have := h.Flt
    omega
  · exact hk.trans hk2 (fun _ _ e => Or.inr e) (fun b _ e => Or.inl (by rw [e, h.ownF]; simp))

/-- A block of another type than the undo steps' own is none of the whole's, if it lies from B on. -/
theorem Rep.off (h : Rep w S) {b : Nat} (hb : S.B ≤ b) {cs : Array Value} {t : TypeId} (hc : Blk w b cs t) (ht : t ≠ 1) : ¬ S.foot b := by
  rintro (h1 | h1)
  · have := h.lt b h1; omega
  · obtain ⟨_, cur, h2⟩ := ownsRow_base h.row h1
    rw [show w.heap[b]? = _ from hc] at h2
    simp at h2
    exact ht h2.2
/-- What every call under way says of the memory ahead of it. -/
theorem Rep.since (h : Rep w S) {X : Nat → Prop} (k : Keeps S.foot w w') {w0 : World} (k0 : Keeps X w0 w) (h0 : w0.heap.size ≤ S.B) (hX : ∀ b, S.own b ≠ none → X b) : Keeps X w0 w' :=
  k0.trans k (fun _ _ x => x) (fun i hi hf => by
    rcases hf with hf | hf
    · exact hX i hf
    · have := (ownsRow_base h.row hf).1; omega)
end
end Go.Proofs.YtdafneilalompaaGreatDoor
