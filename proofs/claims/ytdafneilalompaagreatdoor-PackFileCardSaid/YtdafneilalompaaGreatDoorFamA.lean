/- The trees of PackFile: a root, a file with one name or two, a link. Conditions: those that each theorem names. The calls of PackFile on its trees. Conditions: those that each theorem names. The calls of PackFile on its trees: Do of create, write, truncate, link, symlink. Conditions: those that each theorem names. -/
import Derived.Test.YtdafneilalompaaGreatDoorLaw0
namespace Go.Proofs.YtdafneilalompaaGreatDoor
section
open Go Go.RowKit
open Go.ChangeMaps (setBlock)

def bF : ByteArray := ⟨#[102]⟩
def bG : ByteArray := ⟨#[103]⟩
def bH : ByteArray := ⟨#[104]⟩
def pR : ByteArray := ⟨#[47]⟩
def pF : ByteArray := ⟨#[47, 102]⟩
def pG : ByteArray := ⟨#[47, 103]⟩
def pH : ByteArray := ⟨#[47, 104]⟩
theorem parse_R : parseR pR = ([], 0) := by kernel_rfl
theorem parse_F : parseR pF = ([bF], 0) := by kernel_rfl
theorem parse_G : parseR pG = ([bG], 0) := by kernel_rfl
theorem parse_H : parseR pH = ([bH], 0) := by kernel_rfl
theorem make_F : makeR pF = ([], bF, 0) := by kernel_rfl
theorem make_G : makeR pG = ([], bG, 0) := by kernel_rfl
theorem make_H : makeR pH = ([], bH, 0) := by kernel_rfl
theorem text_F : textR bF = ([bF], false, 0) := by kernel_rfl
theorem at_R : atR pR ⟨#[]⟩ = pR := by kernel_rfl
theorem at_RF : atR pR bF = pF := by kernel_rfl
theorem at_RG : atR pR bG = pG := by kernel_rfl
theorem at_RH : atR pR bH = pH := by kernel_rfl
theorem at_G : atR pG ⟨#[]⟩ = pG := by kernel_rfl
theorem sub_F : subR ⟨#[]⟩ bF = bF := by kernel_rfl
theorem sub_G : subR ⟨#[]⟩ bG = bG := by kernel_rfl
theorem sub_H : subR ⟨#[]⟩ bH = bH := by kernel_rfl
theorem sort_FGH : sortB [bF, bG, bH] = [bF, bG, bH] := by
  have : sortL ([bF, bG, bH].map (·.data.toList)) = [[102], [103], [104]] := by
    show List.mergeSort [[102], [103], [104]] _ = _
    exact List.mergeSort_of_pairwise (by decide)
  rw [sortB, this]
  rfl
theorem ne_F : bF ≠ dotdot := by intro e; have := congrArg (fun b : ByteArray => b.data.toList) e; simp [bF, dotdot] at this
theorem ne_G : bG ≠ dotdot := by intro e; have := congrArg (fun b : ByteArray => b.data.toList) e; simp [bG, dotdot] at this
theorem ne_H : bH ≠ dotdot := by intro e; have := congrArg (fun b : ByteArray => b.data.toList) e; simp [bH, dotdot] at this
theorem beq_ff : (bF == bF) = true := by simp
theorem beq_gf : (bG == bF) = false := by
  have : bG ≠ bF := by intro e; have := congrArg (fun b : ByteArray => b.data.toList) e; simp [bG, bF] at this
  simpa using this
theorem beq_hf : (bH == bF) = false := by
  have : bH ≠ bF := by intro e; have := congrArg (fun b : ByteArray => b.data.toList) e; simp [bH, bF] at this
  simpa using this
theorem beq_hg : (bH == bG) = false := by
  have : bH ≠ bG := by intro e; have := congrArg (fun b : ByteArray => b.data.toList) e; simp [bH, bG] at this
  simpa using this

def rootF (blk b : Nat) (sz : Int) (names : List (ByteArray × Int)) : Nd := { blk := blk, kind := 2, links := 2, size := sz, pcs := none, nms := some (b, names), blocks := 1, text := ⟨#[]⟩ }
def fileF (blk b : Nat) (lk z : Int) (L : List (Int × List UInt8)) : Nd := { blk := blk, kind := 1, links := lk, size := z, pcs := some (b, L), nms := none, blocks := 0, text := ⟨#[]⟩ }
/-- A root with these names; inode 2 a file; inode 3, if there is one, a link. -/
structure Fam (S : St) (ks : List Int) (names : List (ByteArray × Int)) (lk z : Int) (L : List (Int × List UInt8)) : Prop where
  g : S.g0 = 207 ∧ S.g3 = 102 ∧ S.g4 = 24
  keys : S.keys = ks
  root : ∃ blk b sz, 0 ≤ sz ∧ sz ≤ 512 ∧ S.nd 1 = rootF blk b sz names
  file : ∃ blk b, S.nd 2 = fileF blk b lk z L
  link : ∃ blk, 3 ∈ ks → S.nd 3 = linkNd blk bF
structure FamOk (ks : List Int) (names : List (ByteArray × Int)) (lk z : Int) (L : List (Int × List UInt8)) : Prop where
  oks : ks = [1, 2] ∨ ks = [1, 2, 3]
  onames : ∀ p ∈ names, p.2 ∈ ks ∧ p.1.size ≤ 1000
  few : names.length ≤ 16
  olk : 0 ≤ lk ∧ lk ≤ 900
  oz : 0 ≤ z ∧ z ≤ 30000
  len : L.length ≤ 40
  oL : ∀ q ∈ L, 0 ≤ q.1 ∧ q.1 < 40 ∧ q.2.length = 512
section
variable {S : St} {ks : List Int} {names : List (ByteArray × Int)} {lk z : Int} {L : List (Int × List UInt8)}
theorem Fam.fresh (h : Fam S ks names lk z L) (B : Nat) : Fam (S.fresh B) ks names lk z L := ⟨h.g, h.keys, h.root, h.file, h.link⟩
theorem Fam.cases (h : Fam S ks names lk z L) (ok : FamOk ks names lk z L) {Q : Int → Nd → Prop} (h1 : ∀ blk b sz, 0 ≤ sz → sz ≤ 512 → Q 1 (rootF blk b sz names)) (h2 : ∀ blk b, Q 2 (fileF blk b lk z L)) (h3 : ∀ blk, Q 3 (linkNd blk bF)) : ∀ i ∈ S.keys, Q i (S.nd i) := by
  intro i hi
  rw [h.keys] at hi
  obtain ⟨b1, b2, sz, hz1, hz2, hr⟩ := h.root
  obtain ⟨b3, b4, hf⟩ := h.file
  obtain ⟨b5, hl⟩ := h.link
  have hcase : i = 1 ∨ i = 2 ∨ (i = 3 ∧ 3 ∈ ks) := by
    rcases ok.oks with e | e <;> (rw [e] at hi ⊢; simp at hi ⊢; omega)
  rcases hcase with e | e | ⟨e, h3m⟩ <;> subst e
  · rw [hr]; exact h1 _ _ _ hz1 hz2
  · rw [hf]; exact h2 _ _
  · rw [hl h3m]; exact h3 _
theorem Fam.wf (h : Fam S ks names lk z L) (ok : FamOk ks names lk z L) : S.Wf := by
  have h1m : (1 : Int) ∈ ks := by rcases ok.oks with e | e <;> rw [e] <;> simp
  obtain ⟨b1, b2, sz, hz1, hz2, hr⟩ := h.root
  obtain ⟨g0, g3, g4⟩ := h.g
  refine ⟨⟨by rw [h.keys]; exact h1m, by rw [hr]; rfl⟩, ?_, ?_, ?_, ?_, ?_, ?_, ?_, ?_, ?_⟩
  · refine h.cases ok (Q := fun _ x => x.Wf) ?_ ?_ ?_
    · intro blk b sz _ _; exact ⟨Or.inr (Or.inl ⟨rfl, by simp [rootF], by simp [rootF]⟩)⟩
    · intro blk b; exact ⟨Or.inl ⟨rfl, b, L, rfl, by have := ok.len; omega, fun q hq => by have := ok.oL q hq; omega⟩⟩
    · intro blk; exact ⟨Or.inr (Or.inr ⟨rfl, by show bF.size ≤ 1024; decide⟩)⟩
  · refine h.cases ok (Q := fun _ x => x.kind = 2 → ∃ b L, x.nms = some (b, L) ∧ ∀ p ∈ L, p.2 ∈ S.keys) ?_ ?_ ?_
    · intro blk b sz _ _ _; exact ⟨b, names, rfl, fun p hp => by rw [h.keys]; exact (ok.onames p hp).1⟩
    · intro blk b e; simp [fileF] at e
    · intro blk e; simp [linkNd] at e
  · refine h.cases ok (Q := fun _ x => 0 ≤ x.links ∧ x.links ≤ 1000000) ?_ ?_ ?_
    · intro blk b sz _ _; simp [rootF]
    · intro blk b; have := ok.olk; simp [fileF]; omega
    · intro blk; simp [linkNd]
  · refine h.cases ok (Q := fun _ x => 0 ≤ x.size ∧ x.size ≤ 8459264) ?_ ?_ ?_
    · intro blk b sz _ _; simp [rootF]; omega
    · intro blk b; have := ok.oz; simp [fileF]; omega
    · intro blk; simp only [linkNd]; decide
  · rw [g0, g3, g4]; decide
  · rw [h.keys]; rcases ok.oks with e | e <;> rw [e] <;> simp
  · refine h.cases ok (Q := fun _ x => ∀ b L, x.nms = some (b, L) → (L.length : Int) ≤ x.blocks * 16) ?_ ?_ ?_
    · intro blk b sz _ _ b' L' e
      simp only [rootF, Option.some.injEq, Prod.mk.injEq] at e
      obtain ⟨_, rfl⟩ := e
      have := ok.few
      simp [rootF]; omega
    · intro blk b b' L' e; simp [fileF] at e
    · intro blk b' L' e; simp [linkNd] at e
  · refine h.cases ok (Q := fun _ x => ∀ b L, x.pcs = some (b, L) → ∀ q ∈ L, q.2.length = 512) ?_ ?_ ?_
    · intro blk b sz _ _ b' L' e; simp [rootF] at e
    · intro blk b b' L' e q hq
      simp only [fileF, Option.some.injEq, Prod.mk.injEq] at e
      obtain ⟨_, rfl⟩ := e
      exact (ok.oL q hq).2.2
    · intro blk b' L' e; simp [linkNd] at e
  · rw [h.keys]; rcases ok.oks with e | e <;> rw [e] <;> decide
theorem fold_tab1_one : ∀ (ks l : List Int), (∀ k ∈ ks, k < 138) → (l = [] ∨ l = [-2]) → (ks.foldl tab1 l).length ≤ 1
  | [], l, _, hl => by rcases hl with rfl | rfl <;> simp
  | k :: ks, l, h, hl => by
    rw [List.foldl_cons]
    refine fold_tab1_one ks _ (fun x hx => h x (by simp [hx])) ?_
    have hk := h k (by simp)
    rw [tab1_eq, tabOf, if_neg (by omega)]
    split
    · rcases hl with rfl | rfl
      · exact Or.inr rfl
      · exact Or.inr rfl
    · exact hl
theorem takes_few {ks : List Int} (h : ∀ k ∈ ks, k < 138) : takes ks ≤ ks.length + 1 := by
  have h1 := fold_with1_len ks []
  have h2 := fold_tab1_one ks [] h (Or.inl rfl)
  unfold takes
  simp at h1
  omega
theorem Fam.taken (h : Fam S ks names lk z L) (ok : FamOk ks names lk z L) : S.taken ≤ S.g0 - S.g3 := by
  obtain ⟨b1, b2, sz, hz1, hz2, hr⟩ := h.root
  obtain ⟨b3, b4, hf⟩ := h.file
  obtain ⟨b5, hl⟩ := h.link
  obtain ⟨g0, g3, g4⟩ := h.g
  have t1 : (S.nd 1).takes ≤ 2 := by
    rw [hr]
    have e : (rootF b1 b2 sz names).idx = [0] := rfl
    unfold Nd.takes
    rw [e]
    exact takes_few (ks := [0]) (by decide)
  have t2 : (S.nd 2).takes ≤ 41 := by
    rw [hf]
    have e : (fileF b3 b4 lk z L).idx = L.map (·.1) := rfl
    have : (fileF b3 b4 lk z L).takes ≤ ((L.map (·.1)).length : Int) + 1 := by
      unfold Nd.takes
      rw [e]
      refine takes_few (fun k hk => ?_)
      obtain ⟨q, hq, rfl⟩ := List.mem_map.1 hk
      have := ok.oL q hq; omega
    rw [List.length_map] at this
    have := ok.len
    omega
  have t3 : 3 ∈ ks → (S.nd 3).takes ≤ 2 := by
    intro hm
    rw [hl hm]
    have e : (linkNd b5 bF).idx = [0] := by kernel_rfl
    unfold Nd.takes
    rw [e]
    exact takes_few (ks := [0]) (by decide)
  rw [St.taken, h.keys, g0, g3]
  rcases ok.oks with e | e
  · rw [e]; simp; omega
  · have := t3 (by rw [e]; simp)
    rw [e]; simp; omega
end
end
section
open Go Go.RowKit
open Go.ChangeMaps (setBlock)

section
variable {S : St} {ks : List Int} {names : List (ByteArray × Int)} {lk z : Int} {L : List (Int × List UInt8)}
theorem Fam.rnames (h : Fam S ks names lk z L) : (S.nd 1).names = names := by
  obtain ⟨b1, b2, sz, _, _, hr⟩ := h.root
  rw [hr]; rfl
theorem to_root (S : St) (f : Bool) : toR S pR f = (([1], ⟨#[]⟩, 1), 0) := by
  rw [toR, parse_R]
  simp only [ne_eq, not_true_eq_false, if_false]
  rw [goesR]; rfl
theorem to_one {c p : ByteArray} {m : Int} (hp : parseR p = ([c], 0)) (hc : c ≠ dotdot) (hl : (S.nd 1).names.lookup c = some m) (f : Bool) (hk : f = false ∨ (S.nd m).kind ≠ 3) : toR S p f = (([1], c, m), 0) := by
  rw [toR, hp]
  simp only [ne_eq, not_true_eq_false, if_false]
  rw [goesR, if_neg hc]
  have e : lastI [1] = 1 := rfl
  simp only [e, hl]
  rw [if_neg (by simp), if_neg]
  · simp
  · rintro ⟨h1, h2⟩
    rcases hk with hk | hk
    · simp [hk] at h2
    · exact hk h1
theorem name_one {c p : ByteArray} (hp : makeR p = ([], c, 0)) (hc : c ≠ ⟨#[]⟩) : nameR S p = (([1], c, ((S.nd 1).names.lookup c).getD 0), 0) := by
  have hg : goesR S true true [] [1] 0 = (([1], ⟨#[]⟩, 1), 0) := by rw [goesR]; rfl
  rw [nameR, hp]
  simp only [ne_eq, not_true_eq_false, if_false]
  rw [if_neg hc, hg]
  simp only [not_true_eq_false, if_false]
  rfl
theorem nz_F : bF ≠ ⟨#[]⟩ := by intro e; have := congrArg (fun b : ByteArray => b.data.toList) e; simp [bF] at this
theorem nz_G : bG ≠ ⟨#[]⟩ := by intro e; have := congrArg (fun b : ByteArray => b.data.toList) e; simp [bG] at this
theorem nz_H : bH ≠ ⟨#[]⟩ := by intro e; have := congrArg (fun b : ByteArray => b.data.toList) e; simp [bH] at this
theorem Fam.toF (h : Fam S ks names lk z L) (hn : names.lookup bF = some 2) (f : Bool) : toR S pF f = (([1], bF, 2), 0) := by
  obtain ⟨b3, b4, hf⟩ := h.file
  exact to_one parse_F ne_F (by rw [h.rnames]; exact hn) f (Or.inr (by rw [hf]; simp [fileF]))
theorem Fam.toG (h : Fam S ks names lk z L) (hn : names.lookup bG = some 2) (f : Bool) : toR S pG f = (([1], bG, 2), 0) := by
  obtain ⟨b3, b4, hf⟩ := h.file
  exact to_one parse_G ne_G (by rw [h.rnames]; exact hn) f (Or.inr (by rw [hf]; simp [fileF]))
theorem Fam.fileF (h : Fam S ks names lk z L) (hn : names.lookup bF = some 2) : fileR S pF = (2, 0) := by
  obtain ⟨b3, b4, hf⟩ := h.file
  rw [fileR, h.toF hn]
  simp [hf, YtdafneilalompaaGreatDoor.fileF]
theorem Fam.fileG (h : Fam S ks names lk z L) (hn : names.lookup bG = some 2) : fileR S pG = (2, 0) := by
  obtain ⟨b3, b4, hf⟩ := h.file
  rw [fileR, h.toG hn]
  simp [hf, YtdafneilalompaaGreatDoor.fileF]

/-! ### what the two Trees are -/
def itF (p : ByteArray) (z : Nat) (L : List (Int × List UInt8)) : It := ⟨p, 1, z, ⟨(dataOf (fillTo L z (fillN z))).toArray⟩, pcsOf (fillTo L z (fillN z)), -1⟩
theorem Fam.visit_file (h : Fam S ks names lk z L) {s p full : ByteArray} {zn : Nat} (hz : z = zn) (hat : atR s p = full) (hto : toR S full false = (([1], p, 2), 0) ∨ ∃ c, toR S full false = (([1], c, 2), 0)) (hfl : fileR S full = (2, 0)) (n : Nat) (st : Trd) (hl : st.1.length < 1000) (hm : st.2.lookup 2 = none) :
    visitR S s (n + 1) p st = some (st.1 ++ [itF p zn L], upd 2 (st.1.length : Int) st.2) := by
  obtain ⟨b3, b4, hf⟩ := h.file
  obtain ⟨c, hto⟩ : ∃ c, toR S full false = (([1], c, 2), 0) := hto.elim (fun e => ⟨p, e⟩) id
  rw [visitR, hat, hto, hfl]
  simp only [ne_eq, not_true_eq_false, if_false]
  rw [if_neg (by omega), hm, hf]
  subst hz
  simp [YtdafneilalompaaGreatDoor.fileF, itF]
theorem visit_met_eq {s p full c : ByteArray} {i : Int} (hat : atR s p = full) (hto : toR S full false = (([1], c, i), 0)) (n : Nat) (st : Trd) (hl : st.1.length < 1000) (k : Int) (hm : st.2.lookup i = some k) :
    visitR S s (n + 1) p st = some (st.1 ++ [⟨p, (S.nd i).kind, 0, ⟨#[]⟩, [], k⟩], st.2) := by
  rw [visitR, hat, hto]
  simp only [ne_eq, not_true_eq_false, if_false]
  rw [if_neg (by omega), hm]
theorem visit_link_eq {s p full c : ByteArray} {i : Int} (hat : atR s p = full) (hto : toR S full false = (([1], c, i), 0)) (n : Nat) (st : Trd) (hl : st.1.length < 1000) (hm : st.2.lookup i = none) {b : Nat} {t : ByteArray} (hn : S.nd i = linkNd b t) :
    visitR S s (n + 1) p st = some (st.1 ++ [⟨p, 3, t.size, t, [], -1⟩], upd i (st.1.length : Int) st.2) := by
  rw [visitR, hat, hto]
  simp only [ne_eq, not_true_eq_false, if_false]
  rw [if_neg (by omega), hm, hn]
  simp [linkNd]
/-- The tree of the root. -/
theorem Fam.tree_root (h : Fam S [1, 2, 3] [(bF, 2), (bG, 2), (bH, 3)] lk z L) {zn : Nat} (hz : z = zn) :
    visitR S pR 2 ⟨#[]⟩ ([], []) = some ([⟨⟨#[]⟩, 2, 0, ⟨#[]⟩, [], -1⟩, itF bF zn L, ⟨bG, 1, 0, ⟨#[]⟩, [], 1⟩, ⟨bH, 3, 1, bF, [], -1⟩], [(2, 1), (3, 3)]) := by
  have lF : ([(bF, 2), (bG, 2), (bH, 3)] : List (ByteArray × Int)).lookup bF = some 2 := by simp [List.lookup_cons]
  have lG : ([(bF, 2), (bG, 2), (bH, 3)] : List (ByteArray × Int)).lookup bG = some 2 := by simp [List.lookup_cons, beq_gf]
  have lH : ([(bF, 2), (bG, 2), (bH, 3)] : List (ByteArray × Int)).lookup bH = some 3 := by simp [List.lookup_cons, beq_hf, beq_hg]
  obtain ⟨b1, b2, sz, _, _, hr⟩ := h.root
  obtain ⟨b3, b4, hf⟩ := h.file
  obtain ⟨b5, hl⟩ := h.link
  have hl3 := hl (by simp)
  have tH : toR S pH false = (([1], bH, 3), 0) := to_one parse_H ne_H (by rw [h.rnames]; exact lH) false (Or.inl rfl)
  rw [visitR, at_R, to_root, to_root]
  simp only [ne_eq, not_true_eq_false, if_false]
  rw [if_neg (by simp), hr]
  simp only [rootF, List.lookup_nil, List.map_cons, List.map_nil, sort_FGH, List.foldlM_cons, List.foldlM_nil]
  rw [if_neg (by simp), if_neg (by simp), if_pos trivial, if_pos (by simp), sub_F, sub_G, sub_H]
  rw [h.visit_file (p := bF) hz at_RF (Or.inl (h.toF lF false)) (h.fileF lF) 0 _ (by simp) rfl]
  simp only [Option.bind_some, bind]
  rw [visit_met_eq at_RG (h.toG lG false) 0 _ (by simp) 1 rfl]
  simp only [Option.bind_some]
  rw [visit_link_eq at_RH tH 0 _ (by simp) rfl hl3]
  rw [hf]
  rfl
theorem Fam.tree_g (h : Fam S ks names lk z L) (hn : names.lookup bG = some 2) {zn : Nat} (hz : z = zn) :
    visitR S pG 1 ⟨#[]⟩ ([], []) = some ([itF ⟨#[]⟩ zn L], [(2, 0)]) := by
  rw [h.visit_file (p := ⟨#[]⟩) hz at_G (Or.inr ⟨_, h.toG hn false⟩) (h.fileG hn) 0 _ (by simp) rfl]
  rfl
end
end
section
open Go Go.RowKit
open Go.ChangeMaps (setBlock)

def okV (n : Int) : Value := answV 0 n ⟨#[]⟩ 0 0 0 0 0 (.slice none 0 0)
theorem own_free {w : World} {S : St} (h : Rep w S) : ∀ b, w.heap.size ≤ b → S.own b = none := fun b hb => by
  have hB := h.B
  cases ho : S.own b with
  | none => rfl
  | some q => have := h.lt b (by rw [ho]; simp); omega

/-! ### the empty tree -/
theorem new_wf (F M bR bN B : Nat) : (newSt F M bR bN 207 3 B).Wf := by
  refine ⟨⟨by simp [newSt], rfl⟩, ?_, ?_, ?_, ?_, by simp [newSt], by simp [newSt], ?_, ?_, by simp [newSt]⟩
  · intro i hi; exact ⟨Or.inr (Or.inl ⟨rfl, by simp [newSt, rootNd], by simp [newSt, rootNd]⟩)⟩
  · intro i hi _; exact ⟨bN, [], rfl, fun p hp => by cases hp⟩
  · intro i hi; simp [newSt, rootNd]
  · intro i hi; simp [newSt, rootNd]
  · intro i hi b L e
    simp only [newSt, rootNd, Option.some.injEq, Prod.mk.injEq] at e
    obtain ⟨_, rfl⟩ := e
    simp [newSt, rootNd]
  · intro i hi b L e; simp [newSt, rootNd] at e
theorem fam_create (F M bR bN B b1 b2 : Nat) : Fam (((newSt F M bR bN 207 3 B).add 2 (fileNd b1 b2)).put 1 (((newSt F M bR bN 207 3 B).nd 1).grown bF 2)) [1, 2] [(bF, 2)] 1 0 [] :=
  ⟨⟨rfl, rfl, rfl⟩, rfl, ⟨bR, bN, 512, by decide, by decide, rfl⟩, ⟨b1, b2, rfl⟩, ⟨0, fun h => by simp at h⟩⟩
theorem ok_one {z : Int} {L : List (Int × List UInt8)} (hz : 0 ≤ z ∧ z ≤ 30000) (hlen : L.length ≤ 40) (hL : ∀ q ∈ L, 0 ≤ q.1 ∧ q.1 < 40 ∧ q.2.length = 512) : FamOk [1, 2] [(bF, 2)] 1 z L :=
  ⟨Or.inl rfl, by intro p hp; simp at hp; subst hp; exact ⟨by simp, by decide⟩, by simp, by decide, hz, hlen, hL⟩
theorem ok_two {z : Int} {L : List (Int × List UInt8)} (hz : 0 ≤ z ∧ z ≤ 30000) (hlen : L.length ≤ 40) (hL : ∀ q ∈ L, 0 ≤ q.1 ∧ q.1 < 40 ∧ q.2.length = 512) : FamOk [1, 2] [(bF, 2), (bG, 2)] 2 z L :=
  ⟨Or.inl rfl, by intro p hp; simp at hp; rcases hp with rfl | rfl <;> exact ⟨by simp, by decide⟩, by simp, by decide, hz, hlen, hL⟩
theorem ok_three {z : Int} {L : List (Int × List UInt8)} (hz : 0 ≤ z ∧ z ≤ 30000) (hlen : L.length ≤ 40) (hL : ∀ q ∈ L, 0 ≤ q.1 ∧ q.1 < 40 ∧ q.2.length = 512) : FamOk [1, 2, 3] [(bF, 2), (bG, 2), (bH, 3)] 2 z L :=
  ⟨Or.inr rfl, by intro p hp; simp at hp; rcases hp with rfl | rfl | rfl <;> exact ⟨by simp, by decide⟩, by simp, by decide, hz, hlen, hL⟩
/-- The next tree is of this kind. -/
def Next (F : Nat) (ks : List Int) (names : List (ByteArray × Int)) (lk z : Int) (L : List (Int × List UInt8)) (S : St) (w w' : World) : Prop :=
  ∃ S1, Rep w' S1 ∧ S1.u = .slice none 0 0 ∧ S1.F = F ∧ Fam S1 ks names lk z L ∧ Keeps (fun b => S.own b ≠ none) w w' ∧ ∀ b, b < w.heap.size → S1.own b ≠ none → S.own b ≠ none
theorem Next.of {F : Nat} {ks : List Int} {names : List (ByteArray × Int)} {lk z : Int} {L : List (Int × List UInt8)} {S : St} {w w' : World} (h : StepTo (fun S1 => S1.F = F ∧ Fam S1 ks names lk z L) S w w') : Next F ks names lk z L S w w' := by
  obtain ⟨S1, ⟨hF, hf⟩, hst⟩ := h
  obtain ⟨B, hB, hr⟩ := hst.rep
  exact ⟨S1.fresh B, hr, rfl, hF, hf.fresh B, hst.keeps, hst.new⟩

theorem do_create {w : World} {F M bR bN B : Nat} (h : Rep w (newSt F M bR bN 207 3 B)) :
    Calls Tryz.prog 15 #[.pointer (some ⟨F, 0, none⟩), callV 1 pF ⟨#[]⟩ 0 0 ⟨#[]⟩] w fun e w' => e = .returned (okV 2) ∧ Next F [1, 2] [(bF, 2)] 1 0 [] (newSt F M bR bN 207 3 B) w w' := by
  have hw := new_wf F M bR bN B
  have hok := ok_one (z := 0) (L := []) (by decide) (by simp) (fun q hq => by cases hq)
  have hn : nameR (newSt F M bR bN 207 3 B) pF = (([1], bF, 0), 0) := by rw [name_one make_F nz_F]; rfl
  refine (do_step h (P := fun S1 => S1.F = F ∧ Fam S1 [1, 2] [(bF, 2)] 1 0 []) 1 pF ⟨#[]⟩ ⟨#[]⟩ 0 0 2 (fun W k => answer_create_to pF ⟨#[]⟩ ⟨#[]⟩ 0 0 2 (fun W2 k2 => ?_) (own_free (h.keeps k (fun _ _ x => x))))).mono (by rintro e w' ⟨rfl, hs⟩; exact ⟨rfl, Next.of hs⟩)
  have hr := h.keeps (k.then k2) (fun _ _ x => x)
  refine (create_ok hr hw pF 2 (by decide) _ hn rfl rfl (by decide) 1 rfl (by decide) 24 rfl (by decide) (fun j h1 h2 => by simp [newSt]; omega) (by simp [newSt]) (fun b1 b2 => (fam_create F M bR bN B b1 b2).wf hok) (fun b1 b2 => (fam_create F M bR bN B b1 b2).taken hok)).mono ?_
  rintro e w' ⟨rfl, B', b1, b2, hB, hb1, hb2, hrep, hk⟩
  exact ⟨rfl, _, ⟨rfl, fam_create F M bR bN B b1 b2⟩, Step.added (S := newSt F M bR bN 207 3 B) (i := 2) (x := fileNd b1 b2) rfl hb1 (fun b L e => by simp only [fileNd, Option.some.injEq, Prod.mk.injEq] at e; obtain ⟨rfl, _⟩ := e; exact hb2) (fun b L e => by simp [fileNd] at e) ⟨B', hB, hrep, hk⟩⟩

section
variable {w : World} {S : St} (h : Rep w S)
include h
theorem do_write {z : Nat} {L : List (Int × List UInt8)} (hf : Fam S [1, 2] [(bF, 2)] 1 z L) (ok : FamOk [1, 2] [(bF, 2)] 1 z L) (off : Nat) (data : ByteArray) (hd : 1 ≤ data.size) (hd2 : data.size ≤ 512) (ho : off ≤ 30000) (z1 : Nat) (hz1 : max z (off + data.size) = z1) (L1 : List (Int × List UInt8)) (hL1 : wrote off data.data.toList 0 L = L1) (ok1 : FamOk [1, 2] [(bF, 2)] 1 z1 L1) :
    Calls Tryz.prog 15 #[.pointer (some ⟨S.F, 0, none⟩), callV 4 pF ⟨#[]⟩ off 0 data] w fun e w' => e = .returned (okV data.size) ∧ Next S.F [1, 2] [(bF, 2)] 1 z1 L1 S w w' := by
  obtain ⟨b3, b4, hn2⟩ := hf.file
  have h2k : (2 : Int) ∈ S.keys := by rw [hf.keys]; simp
  have hfam : Fam (S.put 2 ((S.nd 2).wroteAt b4 L off data)) [1, 2] [(bF, 2)] 1 z1 L1 := by
    obtain ⟨c1, c2, sz, s1, s2, hr⟩ := hf.root
    refine ⟨hf.g, hf.keys, ⟨c1, c2, sz, s1, s2, by rw [← hr]; simp [St.put]⟩, ⟨b3, b4, ?_⟩, ⟨0, fun hm => by simp at hm⟩⟩
    rw [St.put_at, hn2]
    simp only [Nd.wroteAt, fileF, hL1, Nd.mk.injEq, true_and]
    rw [if_neg (by omega), ← hz1]
    simp only [and_true, true_and]
    omega
  refine (do_step h (P := fun S1 => S1.F = S.F ∧ Fam S1 [1, 2] [(bF, 2)] 1 z1 L1) 4 pF ⟨#[]⟩ data off 0 data.size (fun W k => (answer_write (S := S) (S1 := S.put 2 ((S.nd 2).wroteAt b4 L off data)) pF ⟨#[]⟩ data off 0 (by omega) (fun W2 k2 => ?_) (own_free (h.keeps k (fun _ _ x => x)))).mono (by rintro e w' ⟨rfl, hs⟩; exact ⟨rfl, S.put 2 ((S.nd 2).wroteAt b4 L off data), ⟨rfl, hfam⟩, hs⟩))).mono (by rintro e w' ⟨rfl, hs⟩; exact ⟨rfl, Next.of hs⟩)
  exact writePath_ok (h.keeps (k.then k2) (fun _ _ x => x)) (hf.wf ok) 4 pF ⟨#[]⟩ off 0 data (by decide) (hf.fileF (by simp)) h2k (by rw [hn2]; rfl) (by rw [hn2]; rfl) (by omega) (by omega) _ rfl (hfam.wf ok1) (hfam.taken ok1)
theorem do_truncate {z : Nat} {L : List (Int × List UInt8)} (hf : Fam S [1, 2] [(bF, 2)] 1 z L) (ok : FamOk [1, 2] [(bF, 2)] 1 z L) (z1 : Nat) (hz : z ≤ z1) (hz1 : z1 ≤ 30000) :
    Calls Tryz.prog 15 #[.pointer (some ⟨S.F, 0, none⟩), callV 5 pF ⟨#[]⟩ 0 z1 ⟨#[]⟩] w fun e w' => e = .returned (okV 0) ∧ Next S.F [1, 2] [(bF, 2)] 1 z1 L S w w' := by
  obtain ⟨b3, b4, hn2⟩ := hf.file
  have h2k : (2 : Int) ∈ S.keys := by rw [hf.keys]; simp
  have ok1 := ok_one (z := z1) (L := L) (by omega) ok.len ok.oL
  have hfam : Fam (S.put 2 { S.nd 2 with size := (z1 : Int) }) [1, 2] [(bF, 2)] 1 z1 L := by
    obtain ⟨c1, c2, sz, s1, s2, hr⟩ := hf.root
    refine ⟨hf.g, hf.keys, ⟨c1, c2, sz, s1, s2, by rw [← hr]; simp [St.put]⟩, ⟨b3, b4, ?_⟩, ⟨0, fun hm => by simp at hm⟩⟩
    rw [St.put_at, hn2]; rfl
  refine (do_step h (P := fun S1 => S1.F = S.F ∧ Fam S1 [1, 2] [(bF, 2)] 1 z1 L) 5 pF ⟨#[]⟩ ⟨#[]⟩ 0 z1 0 (fun W k => (answer_truncate (S := S) (S1 := S.put 2 { S.nd 2 with size := (z1 : Int) }) pF ⟨#[]⟩ ⟨#[]⟩ 0 z1 (fun W2 k2 => ?_) (own_free (h.keeps k (fun _ _ x => x)))).mono (by rintro e w' ⟨rfl, hs⟩; exact ⟨rfl, S.put 2 { S.nd 2 with size := (z1 : Int) }, ⟨rfl, hfam⟩, hs⟩))).mono (by rintro e w' ⟨rfl, hs⟩; exact ⟨rfl, Next.of hs⟩)
  exact cutPath_ok (h.keeps (k.then k2) (fun _ _ x => x)) (hf.wf ok) 5 pF ⟨#[]⟩ 0 z1 ⟨#[]⟩ (by decide) (hf.fileF (by simp)) h2k (by rw [hn2]; rfl) (by rw [hn2]; simp [fileF]; omega) (by omega) _ rfl (hfam.wf ok1) (hfam.taken ok1)
theorem do_link {z : Int} {L : List (Int × List UInt8)} (hf : Fam S [1, 2] [(bF, 2)] 1 z L) (ok : FamOk [1, 2] [(bF, 2)] 1 z L) :
    Calls Tryz.prog 15 #[.pointer (some ⟨S.F, 0, none⟩), callV 9 pF pG 0 0 ⟨#[]⟩] w fun e w' => e = .returned (okV 0) ∧ Next S.F [1, 2] [(bF, 2), (bG, 2)] 2 z L S w w' := by
  obtain ⟨b3, b4, hn2⟩ := hf.file
  have ok1 := ok_two (z := z) (L := L) ok.oz ok.len ok.oL
  have hup : upd bG (2 : Int) [(bF, 2)] = [(bF, 2), (bG, 2)] := by simp [upd, beq_gf]
  have hfam : Fam ((S.put 2 { S.nd 2 with links := (S.nd 2).links + 1 }).put 1 ((S.nd 1).grown bG 2)) [1, 2] [(bF, 2), (bG, 2)] 2 z L := by
    obtain ⟨c1, c2, sz, s1, s2, hr⟩ := hf.root
    refine ⟨hf.g, hf.keys, ⟨c1, c2, sz, s1, s2, ?_⟩, ⟨b3, b4, ?_⟩, ⟨0, fun hm => by simp at hm⟩⟩
    · rw [St.put_at, hr]
      simp [Nd.grown, rootF, hup]
    · rw [St.put_ne _ _ (by decide), St.put_at, hn2]; rfl
  have hnm : nameR S pG = (([1], bG, 0), 0) := by
    rw [name_one make_G nz_G, hf.rnames]
    have : ([(bF, (2 : Int))]).lookup bG = none := by simp [List.lookup_cons, beq_gf]
    rw [this]; rfl
  refine (do_step h (P := fun S1 => S1.F = S.F ∧ Fam S1 [1, 2] [(bF, 2), (bG, 2)] 2 z L) 9 pF pG ⟨#[]⟩ 0 0 0 (fun W k => (answer_link (S := S) (S1 := (S.put 2 { S.nd 2 with links := (S.nd 2).links + 1 }).put 1 ((S.nd 1).grown bG 2)) pF pG ⟨#[]⟩ 0 0 (fun W2 k2 => ?_) (own_free (h.keeps k (fun _ _ x => x)))).mono (by rintro e w' ⟨rfl, hs⟩; exact ⟨rfl, (S.put 2 { S.nd 2 with links := (S.nd 2).links + 1 }).put 1 ((S.nd 1).grown bG 2), ⟨rfl, hfam⟩, hs⟩))).mono (by rintro e w' ⟨rfl, hs⟩; exact ⟨rfl, Next.of hs⟩)
  exact (link_ok (h.keeps (k.then k2) (fun _ _ x => x)) (hf.wf ok) pF pG (by decide) (by decide) _ _ (hf.toF (by simp) false) rfl 2 rfl (by rw [hn2]; simp [fileF]) (by rw [hn2]; simp [fileF]) hnm rfl rfl (by decide) 1 rfl _ rfl (hfam.wf ok1) (hfam.taken ok1)).mono (by rintro e w' ⟨rfl, hs⟩; exact ⟨rfl, Step.same rfl hs⟩)
theorem do_symlink {z : Int} {L : List (Int × List UInt8)} (hf : Fam S [1, 2] [(bF, 2), (bG, 2)] 2 z L) (ok : FamOk [1, 2] [(bF, 2), (bG, 2)] 2 z L) :
    Calls Tryz.prog 15 #[.pointer (some ⟨S.F, 0, none⟩), callV 10 pH bF 0 0 ⟨#[]⟩] w fun e w' => e = .returned (okV 3) ∧ Next S.F [1, 2, 3] [(bF, 2), (bG, 2), (bH, 3)] 2 z L S w w' := by
  obtain ⟨b3, b4, hn2⟩ := hf.file
  have ok1 := ok_three (z := z) (L := L) ok.oz ok.len ok.oL
  have hup : upd bH (3 : Int) [(bF, 2), (bG, 2)] = [(bF, 2), (bG, 2), (bH, 3)] := by simp [upd, beq_hf, beq_hg]
  have hfam : ∀ b1, Fam ((S.add 3 (linkNd b1 bF)).put 1 ((S.nd 1).grown bH 3)) [1, 2, 3] [(bF, 2), (bG, 2), (bH, 3)] 2 z L := by
    intro b1
    obtain ⟨c1, c2, sz, s1, s2, hr⟩ := hf.root
    refine ⟨hf.g, by show S.keys ++ [3] = _; rw [hf.keys]; rfl, ⟨c1, c2, sz, s1, s2, ?_⟩, ⟨b3, b4, ?_⟩, ⟨b1, fun _ => ?_⟩⟩
    · rw [St.put_at, hr]
      simp [Nd.grown, rootF, hup]
    · rw [St.put_ne _ _ (by decide), ← hn2]; simp [St.add]
    · rw [St.put_ne _ _ (by decide)]; simp [St.add]
  have hnm : nameR S pH = (([1], bH, 0), 0) := by
    rw [name_one make_H nz_H, hf.rnames]
    have : ([(bF, (2 : Int)), (bG, 2)]).lookup bH = none := by simp [List.lookup_cons, beq_hf, beq_hg]
    rw [this]; rfl
  refine (do_step h (P := fun S1 => S1.F = S.F ∧ Fam S1 [1, 2, 3] [(bF, 2), (bG, 2), (bH, 3)] 2 z L) 10 pH bF ⟨#[]⟩ 0 0 3 (fun W k => answer_symlink_to pH bF ⟨#[]⟩ 0 0 3 (fun W2 k2 => ?_) (own_free (h.keeps k (fun _ _ x => x))))).mono (by rintro e w' ⟨rfl, hs⟩; exact ⟨rfl, Next.of hs⟩)
  refine (symlink_ok (h.keeps (k.then k2) (fun _ _ x => x)) (hf.wf ok) bF pH 3 (by decide) (by decide) _ (by rw [text_F]) hnm rfl rfl (by decide) 1 rfl (by decide) 24 hf.g.2.2 (by decide) (fun j h1 h2 => by rw [hf.keys]; simp; omega) (by rw [hf.keys]; simp) (fun b1 => (hfam b1).wf ok1) (fun b1 => (hfam b1).taken ok1)).mono ?_
  rintro e w' ⟨rfl, B', b1, hB, hb1, hrep, hk⟩
  exact ⟨rfl, (S.add 3 (linkNd b1 bF)).put 1 ((S.nd 1).grown bH 3), ⟨rfl, hfam b1⟩, Step.added (S := S) (i := 3) (x := linkNd b1 bF) rfl hb1 (fun b L e => by simp [linkNd] at e) (fun b L e => by simp [linkNd] at e) ⟨B', hB, hrep, hk⟩⟩
end
end
end Go.Proofs.YtdafneilalompaaGreatDoor
