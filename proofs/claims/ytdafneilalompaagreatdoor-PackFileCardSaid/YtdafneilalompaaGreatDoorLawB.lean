/- PackFile under way: what a round does. Conditions: those that each theorem names. PackFile behind its loop: what is kept; four items in memory. Conditions: those that each theorem names. -/
import Derived.Test.YtdafneilalompaaGreatDoorLaw1
namespace Go.Proofs.YtdafneilalompaaGreatDoor
section
open Go Go.RowKit
open Go.ChangeMaps (setBlock)

/-- PackFile under way: the file is as behind k pieces, what is to be told as behind j. -/
structure PF (w : World) (F n : Nat) (ps : List UInt8) (k j : Nat) (S : St) (v8 : Value) (wr : World) : Prop where
  rep : Rep wr S
  u : S.u = .slice none 0 0
  F : S.F = F
  fam : Fam S [1, 2] [(bF, 2)] 1 (pst n ps k).z (pst n ps k).L
  keeps : Keeps (fun b => w.heap.size ≤ b) w wr
  row : wr.ownsRow w.heap.size 3 1 v8 (pst n ps j).want.length ((pst n ps j).want.map (Value.int .i64))
  free : ∀ g, v8.ownBlock = some g → S.own g = none
  less : ∀ i, i < k → 512 * i < n
  high : ∀ b, S.own b ≠ none → w.heap.size ≤ b
section
variable {w : World} {F n : Nat} {ps : List UInt8} {k j : Nat} {S : St} {v8 : Value} {wr wq w6 : World}
theorem less_succ (h : ∀ i, i < k → 512 * i < n) (hk : 512 * k < n) : ∀ i, i < k + 1 → 512 * i < n := fun i hi => (Nat.lt_or_ge i k).elim (h i) (fun hge => by rw [show i = k by omega]; exact hk)
theorem PF.skip (h : PF w F n ps k k S v8 wr) (h255 : ps.getD k 0 = 255) (hk : 512 * k < n) : PF w F n ps (k + 1) (k + 1) S v8 wr := by
  have e : pst n ps (k + 1) = pst n ps k := by rw [pst, if_pos h255]
  exact ⟨h.rep, h.u, h.F, by rw [e]; exact h.fam, h.keeps, by rw [e]; exact h.row, h.free, less_succ h.less hk, h.high⟩
theorem PF.after (h : PF w F n ps k j S v8 wr) (kk : Keeps (fun _ => False) wr wq) : PF w F n ps k j S v8 wq :=
  ⟨h.rep.keeps kk (fun _ _ x => x), h.u, h.F, h.fam, h.keeps.trans kk (fun _ _ x => x) (fun _ _ x => x.elim), ownsRow_keep h.row (fun g hg => by
    obtain ⟨_, cur, h5⟩ := ownsRow_base h.row hg
    exact kk.block g (Array.getElem?_eq_some_iff.1 h5).1 (fun x => x)), h.free, h.less, h.high⟩
theorem PF.ok (h : PF w F n ps k j S v8 wr) (hk : k ≤ 40) (hn : n < 30000) : FamOk [1, 2] [(bF, 2)] 1 (pst n ps k).z (pst n ps k).L := by
  have h1 := pst_L n ps k
  have h2 := pst_z n ps k h.less
  exact ok_one (by omega) (by omega) (fun q hq => by have := h1.2 q hq; refine ⟨this.1, by omega, this.2.2⟩)
theorem pst_succ {x : UInt8} (hx : ps.getD k 0 = x) (h255 : x ≠ 255) : pst n ps (k + 1) = ⟨(pst n ps k).L ++ [((k : Int), over zpiece 0 (pieceP n k x))], max (pst n ps k).z (512 * k + longP n k), if x = 0 then (pst n ps k).want else (pst n ps k).want ++ [(k : Int)], if x = 0 then (pst n ps k).data else (pst n ps k).data ++ pieceP n k x⟩ := by
  rw [pst, if_neg (by rw [hx]; exact h255), hx]
theorem PF.write (h : PF w F n ps k k S v8 wr) {x : UInt8} (hx : ps.getD k 0 = x) (h255 : x ≠ 255) (hk : 512 * k < n) (hk40 : k < 40) (hn : n < 30000) {lg : Nat} (hlg : longP n k = lg) :
    Calls Tryz.prog 15 #[.pointer (some ⟨F, 0, none⟩), .agg #[.int .i64 4, .string ⟨#[47, 102]⟩, .string ⟨#[]⟩, .int .i64 (512 * (k : Int)), .int .i64 0, .string ⟨(List.replicate lg x).toArray⟩]] wr fun e w' => e = .returned (okV lg) ∧ ∃ S1, PF w F n ps (k + 1) k S1 v8 w' ∧ Keeps (fun b => S.own b ≠ none) wr w' := by
  have e1 := pst_succ (n := n) hx h255
  have hl1 : 1 ≤ lg := by rw [← hlg]; unfold longP; omega
  have hl2 : lg ≤ 512 := by rw [← hlg]; unfold longP; omega
  have hsz : (⟨(List.replicate lg x).toArray⟩ : ByteArray).size = lg := by simp [ByteArray.size]
  have h1 := pst_L n ps (k + 1)
  have h2 := pst_z n ps (k + 1) (less_succ h.less hk)
  have hpp : pieceP n k x = List.replicate lg x := by rw [pieceP, hlg]
  have := do_write h.rep h.fam (h.ok (by omega) hn) (512 * k) ⟨(List.replicate lg x).toArray⟩ (by rw [hsz]; exact hl1) (by rw [hsz]; exact hl2) (by omega) (pst n ps (k + 1)).z (by rw [e1, hsz, hlg]) (pst n ps (k + 1)).L (by
    rw [e1]
    show wrote (512 * k) (List.replicate lg x).toArray.toList 0 _ = _
    rw [hpp]
    exact wrote_new k _ (by simpa using hl1) (by simpa using hl2) _ (fun q hq => by have := (pst_L n ps k).2 q hq; omega)) (ok_one (by omega) (by omega) (fun q hq => by have := h1.2 q hq; refine ⟨this.1, by omega, this.2.2⟩))
  rw [hsz, h.F, show ((512 * k : Nat) : Int) = 512 * (k : Int) by omega] at this
  refine this.mono ?_
  rintro e w' ⟨rfl, S1, hr, hu, hF, hf, hk, hnew⟩
  refine ⟨rfl, S1, ⟨hr, hu, hF, hf, h.keeps.trans hk (fun _ _ x => x) (fun b _ e => h.high b e), ?_, ?_, less_succ h.less (by assumption), ?_⟩, hk⟩
  · exact ownsRow_keep h.row (fun g hg => by
      obtain ⟨_, cur, h5⟩ := ownsRow_base h.row hg
      exact hk.block g (Array.getElem?_eq_some_iff.1 h5).1 (fun e => e (h.free g hg)))
  · intro g hg
    obtain ⟨_, cur, h5⟩ := ownsRow_base h.row hg
    have hlt := (Array.getElem?_eq_some_iff.1 h5).1
    cases ho : S1.own g with
    | none => rfl
    | some q => exact absurd (h.free g hg) (hnew g hlt (by rw [ho]; simp))
  · intro b hb
    by_cases hlt : b < wr.heap.size
    · exact h.high b (hnew b hlt hb)
    · have := h.keeps.size; omega
/-- A piece that is all zeros is not told. -/
theorem PF.zero (h : PF w F n ps (k + 1) k S v8 wr) (hx : ps.getD k 0 = 0) : PF w F n ps (k + 1) (k + 1) S v8 wr := by
  have e := pst_succ (n := n) hx (by decide)
  exact ⟨h.rep, h.u, h.F, h.fam, h.keeps, by rw [e]; simp only [if_true]; exact h.row, h.free, h.less, h.high⟩
/-- Another one is. -/
theorem PF.push (h : PF w F n ps (k + 1) k S v8 wr) {x : UInt8} (hx : ps.getD k 0 = x) (h255 : x ≠ 255) (h0 : x ≠ 0) {v' : Value} {w8 : World} {o : Obj} (hown : w8.ownsRow w.heap.size 3 1 v' ((pst n ps k).want.length + 1) ((pst n ps k).want.map (Value.int .i64) ++ [.int .i64 k]))
    (hg : (wr.alloc o).grownBy w8 v8.ownBlock) (hat : v'.ownBlock = v8.ownBlock ∨ ∃ g, v'.ownBlock = some g ∧ wr.heap.size ≤ g) : PF w F n ps (k + 1) (k + 1) S v' w8 ∧ Keeps (fun c => v8.ownBlock = some c) wr w8 := by
  have e := pst_succ (n := n) hx h255
  have kA : Keeps (fun c => v8.ownBlock = some c) wr w8 := ((Keeps.refl (fun c => v8.ownBlock = some c) wr).alloc o).grown hg (fun k e => Or.inl e)
  refine ⟨⟨h.rep.keeps kA (fun b hb hc => ?_), h.u, h.F, h.fam, h.keeps.trans kA (fun _ _ x => x) (fun c _ e => (ownsRow_base h.row e).1), ?_, ?_, h.less, h.high⟩, kA⟩
  · rcases hb with hb | hb
    · exact hb (h.free b hc)
    · rw [h.u] at hb; cases hb
  · rw [e]
    simp only [h0, if_false]
    rw [List.length_append, List.map_append]
    exact hown
  · intro g hg
    rcases hat with e | ⟨g', e, hge⟩
    · exact h.free g (by rw [← e]; exact hg)
    · rw [e] at hg
      cases hg
      exact own_free h.rep g hge
end
end
section
open Go Go.RowKit
open Go.ChangeMaps (setBlock)

/-- What PackFile holds beside the file system: the list of what is to be told. -/
structure Loc (w0 : World) (F : Nat) (v8 : Value) (xs : List Int) (S : St) (wr : World) : Prop where
  rep : Rep wr S
  u : S.u = .slice none 0 0
  F : S.F = F
  keeps : Keeps (fun b => w0.heap.size ≤ b) w0 wr
  row : wr.ownsRow w0.heap.size 3 1 v8 xs.length (xs.map (Value.int .i64))
  free : ∀ g, v8.ownBlock = some g → S.own g = none
  high : ∀ b, S.own b ≠ none → w0.heap.size ≤ b
theorem PF.loc {w : World} {F n : Nat} {ps : List UInt8} {k j : Nat} {S : St} {v8 : Value} {wr : World} (h : PF w F n ps k j S v8 wr) : Loc w F v8 (pst n ps j).want S wr := ⟨h.rep, h.u, h.F, h.keeps, h.row, h.free, h.high⟩
section
variable {w0 : World} {F : Nat} {v8 : Value} {xs : List Int} {S : St} {wr w' : World}
theorem Loc.next (h : Loc w0 F v8 xs S wr) {ks : List Int} {names : List (ByteArray × Int)} {lk z : Int} {L : List (Int × List UInt8)} (hN : Next F ks names lk z L S wr w') : ∃ S1, Loc w0 F v8 xs S1 w' ∧ Fam S1 ks names lk z L := by
  obtain ⟨S1, hr, hu, hF, hf, hk, hnew⟩ := hN
  refine ⟨S1, ⟨hr, hu, hF, h.keeps.trans hk (fun _ _ x => x) (fun b _ e => h.high b e), ?_, ?_, ?_⟩, hf⟩
  · exact ownsRow_keep h.row (fun g hg => by
      obtain ⟨_, cur, h5⟩ := ownsRow_base h.row hg
      exact hk.block g (Array.getElem?_eq_some_iff.1 h5).1 (fun e => e (h.free g hg)))
  · intro g hg
    obtain ⟨_, cur, h5⟩ := ownsRow_base h.row hg
    have hlt := (Array.getElem?_eq_some_iff.1 h5).1
    cases ho : S1.own g with
    | none => rfl
    | some q => exact absurd (h.free g hg) (hnew g hlt (by rw [ho]; simp))
  · intro b hb
    by_cases hlt : b < wr.heap.size
    · exact h.high b (hnew b hlt hb)
    · have := h.keeps.size; omega
theorem Loc.after (h : Loc w0 F v8 xs S wr) (k : Keeps (fun _ => False) wr w') : Loc w0 F v8 xs S w' :=
  ⟨h.rep.keeps k (fun _ _ x => x), h.u, h.F, h.keeps.trans k (fun _ _ x => x) (fun _ _ x => x.elim), ownsRow_keep h.row (fun g hg => by
    obtain ⟨_, cur, h5⟩ := ownsRow_base h.row hg
    exact k.block g (Array.getElem?_eq_some_iff.1 h5).1 (fun x => x)), h.free, h.high⟩
theorem Loc.irow (h : Loc w0 F v8 xs S wr) : IRow wr v8 xs := ownsRow_rebase h.row (fun _ _ => Nat.zero_le _)
end
theorem items4 {w : World} {B : Nat} {v : Value} {a b c d : It} {L : List (It × Value)} (h : ItemsAt w B v [a, b, c, d] L) :
    ∃ g cap va vb vc vd, v = .slice (some ⟨g, 0, none⟩) 4 cap ∧ g < w.heap.size ∧ (∀ i, i < 24 → w.cell? ⟨g, i, none⟩ = (a.cells va ++ b.cells vb ++ c.cells vc ++ d.cells vd)[i]?) ∧ IRow w vb b.pcs := by
  have hl : L.length = 4 := by have := congrArg List.length h.fst; simpa using this
  obtain ⟨⟨a', va⟩, L1, rfl⟩ : ∃ q L1, L = q :: L1 := by cases L with
    | nil => simp at hl
    | cons q L1 => exact ⟨q, L1, rfl⟩
  obtain ⟨⟨b', vb⟩, L2, rfl⟩ : ∃ q M, L1 = q :: M := by cases L1 with
    | nil => simp at hl
    | cons q L1 => exact ⟨q, L1, rfl⟩
  obtain ⟨⟨c', vc⟩, L3, rfl⟩ : ∃ q M, L2 = q :: M := by cases L2 with
    | nil => simp at hl
    | cons q L1 => exact ⟨q, L1, rfl⟩
  obtain ⟨⟨d', vd⟩, L4, rfl⟩ : ∃ q M, L3 = q :: M := by cases L3 with
    | nil => simp at hl
    | cons q L1 => exact ⟨q, L1, rfl⟩
  obtain rfl : L4 = [] := by simpa using hl
  have hf := h.fst
  simp only [List.map_cons, List.map_nil, List.cons.injEq, and_true] at hf
  obtain ⟨rfl, rfl, rfl, rfl⟩ := hf
  obtain ⟨g, cap, hv, hB, hg, _, _, hc⟩ := ownsRow_cells2 h.row (by simp)
  have e : itemsC [(a', va), (b', vb), (c', vc), (d', vd)] = a'.cells va ++ b'.cells vb ++ c'.cells vc ++ d'.cells vd := by simp [itemsC]
  rw [e] at hc
  refine ⟨g, cap, va, vb, vc, vd, hv, hg, fun i hi => hc i (by simp [It.cells]; omega), ?_⟩
  exact ownsRow_rebase (h.pcs (b', vb) (by simp)) (fun _ _ => Nat.zero_le _)
theorem items1 {w : World} {B : Nat} {v : Value} {a : It} {L : List (It × Value)} (h : ItemsAt w B v [a] L) :
    ∃ g cap va, v = .slice (some ⟨g, 0, none⟩) 1 cap ∧ g < w.heap.size ∧ (∀ i, i < 6 → w.cell? ⟨g, i, none⟩ = (a.cells va)[i]?) := by
  have hl : L.length = 1 := by have := congrArg List.length h.fst; simpa using this
  obtain ⟨⟨a', va⟩, L1, rfl⟩ : ∃ q L1, L = q :: L1 := by cases L with
    | nil => simp at hl
    | cons q L1 => exact ⟨q, L1, rfl⟩
  obtain rfl : L1 = [] := by simpa using hl
  have hf := h.fst
  simp only [List.map_cons, List.map_nil, List.cons.injEq, and_true] at hf
  obtain rfl := hf
  obtain ⟨g, cap, hv, hB, hg, _, _, hc⟩ := ownsRow_cells2 h.row (by simp)
  have e : itemsC [(a', va)] = a'.cells va := by simp [itemsC]
  rw [e] at hc
  exact ⟨g, cap, va, hv, hg, fun i hi => hc i (by simp [It.cells]; omega)⟩
theorem Fam.small {S : St} {ks : List Int} {names : List (ByteArray × Int)} {lk z : Int} {L : List (Int × List UInt8)} (h : Fam S ks names lk z L) (ok : FamOk ks names lk z L) : ∀ i ∈ S.keys, ∀ b L, (S.nd i).nms = some (b, L) → ∀ q ∈ L, q.1.size ≤ 1000000 := by
  refine h.cases ok (Q := fun _ x => ∀ b L, x.nms = some (b, L) → ∀ q ∈ L, q.1.size ≤ 1000000) ?_ ?_ ?_
  · intro blk b sz _ _ b' L' e q hq
    simp only [rootF, Option.some.injEq, Prod.mk.injEq] at e
    obtain ⟨_, rfl⟩ := e
    have := (ok.onames q hq).2
    omega
  · intro blk b b' L' e; simp [YtdafneilalompaaGreatDoor.fileF] at e
  · intro blk b' L' e; simp [linkNd] at e
end
end Go.Proofs.YtdafneilalompaaGreatDoor
