/- The plain law of PackFile: the pieces that are told are those that were written and aren't zeros. -/
import Derived.Test.YtdafneilalompaaGreatDoorFamA
namespace Go.Proofs.YtdafneilalompaaGreatDoor
open Go

theorem wrote_new (k : Nat) (s : List UInt8) (hs : 1 ≤ s.length) (hs2 : s.length ≤ 512) (L : List (Int × List UInt8)) (hL : ∀ q ∈ L, q.1 ≠ (k : Int)) : wrote (512 * k) s 0 L = L ++ [((k : Int), over zpiece 0 s)] := by
  have hlk : L.lookup (k : Int) = none := by
    cases h : L.lookup (k : Int) with
    | none => rfl
    | some v => exact absurd rfl (hL _ (lookup_mem h))
  rw [wrote, dif_pos (by omega)]
  have e1 : (512 * k + 0) % 512 = 0 := by omega
  have e2 : (512 * k + 0) / 512 = k := by omega
  rw [e1, e2, hlk, wrote_end _ _ _ _ (by omega)]
  have e3 : (s.drop 0).take (512 - 0) = s := by rw [List.drop_zero, List.take_of_length_le (by omega)]
  rw [e3, upd_new _ _ _ hL]
  rfl
theorem pieceR_take {L : List (Int × List UInt8)} (hL : ∀ q ∈ L, q.2.length = 512) (sz q : Nat) : pieceR L sz q = ((L.lookup (q : Int)).getD zpiece).take (sz - 512 * q) := by
  have hp := lookup_len hL (q : Int)
  rw [pieceR, readR_range hL]
  apply List.ext_getElem?
  intro i
  rw [List.getElem?_map, List.getElem?_take]
  by_cases hi : i < min 512 (sz - 512 * q)
  · rw [if_pos (by omega), List.getElem?_range' hi]
    simp only [Option.map_some, byteAt]
    rw [show (512 * q + 1 * i) / 512 = q by omega, show (512 * q + 1 * i) % 512 = i by omega, List.getD_eq_getElem?_getD, List.getElem?_eq_getElem (by omega)]
    rfl
  · rw [List.getElem?_eq_none (l := List.range' _ _) (by simpa using hi)]
    split
    · rw [List.getElem?_eq_none (by omega)]; rfl
    · rfl

/-- What PackFile has made behind k pieces: the file's pieces, its size, what is to be told. -/
structure Pst where
  L : List (Int × List UInt8)
  z : Nat
  want : List Int
  data : List UInt8
def longP (n k : Nat) : Nat := min 512 (n - 512 * k)
def pieceP (n k : Nat) (v : UInt8) : List UInt8 := List.replicate (longP n k) v
def pst (n : Nat) (ps : List UInt8) : Nat → Pst
  | 0 => ⟨[], 0, [], []⟩
  | k + 1 =>
    if ps.getD k 0 = 255 then pst n ps k else
    ⟨(pst n ps k).L ++ [((k : Int), over zpiece 0 (pieceP n k (ps.getD k 0)))], max (pst n ps k).z (512 * k + longP n k),
      if ps.getD k 0 = 0 then (pst n ps k).want else (pst n ps k).want ++ [(k : Int)],
      if ps.getD k 0 = 0 then (pst n ps k).data else (pst n ps k).data ++ pieceP n k (ps.getD k 0)⟩
theorem over_zero_len {s : List UInt8} (h : s.length ≤ 512) : (over zpiece 0 s).length = 512 := by
  have : zpiece.length = 512 := List.length_replicate
  rw [over_len (by omega)]; exact this
theorem pieceP_len (n k : Nat) (v : UInt8) : (pieceP n k v).length = longP n k := List.length_replicate
theorem pst_L (n : Nat) (ps : List UInt8) : ∀ k, (pst n ps k).L.length ≤ k ∧ ∀ q ∈ (pst n ps k).L, 0 ≤ q.1 ∧ q.1 < k ∧ q.2.length = 512
  | 0 => ⟨Nat.le_refl _, fun q hq => by cases hq⟩
  | k + 1 => by
    obtain ⟨h1, h2⟩ := pst_L n ps k
    rw [pst]
    split
    · exact ⟨by omega, fun q hq => by have := h2 q hq; refine ⟨this.1, ?_, this.2.2⟩; omega⟩
    · refine ⟨by simp; omega, fun q hq => ?_⟩
      rcases List.mem_append.1 hq with hq | hq
      · have := h2 q hq; refine ⟨this.1, ?_, this.2.2⟩; omega
      · simp only [List.mem_singleton] at hq
        subst hq
        refine ⟨by simp, by simp; omega, over_zero_len ?_⟩
        rw [pieceP_len]; unfold longP; omega
theorem pst_z (n : Nat) (ps : List UInt8) : ∀ k, (∀ j, j < k → 512 * j < n) → (pst n ps k).z ≤ n
  | 0, _ => Nat.zero_le _
  | k + 1, h => by
    have h1 := pst_z n ps k (fun j hj => h j (by omega))
    have h2 := h k (by omega)
    rw [pst]
    split
    · exact h1
    · show max _ _ ≤ n
      unfold longP; omega
theorem pst_want (n : Nat) (ps : List UInt8) : ∀ k, (pst n ps k).want.length ≤ k ∧ (pst n ps k).data.length ≤ 512 * k
  | 0 => ⟨Nat.le_refl _, Nat.le_refl _⟩
  | k + 1 => by
    obtain ⟨h1, h2⟩ := pst_want n ps k
    rw [pst]
    split
    · omega
    · simp only
      split
      · omega
      · rw [List.length_append, List.length_append, pieceP_len]
        unfold longP
        simp; omega
theorem lookup_append {β : Type} (x : Int) : ∀ (a b : List (Int × β)), (a ++ b).lookup x = (a.lookup x).or (b.lookup x)
  | [], b => by simp
  | (k, v) :: a, b => by
    simp only [List.cons_append, List.lookup_cons]
    cases x == k
    · exact lookup_append x a b
    · rfl
theorem lookup_none' {β : Type} {x : Int} {a : List (Int × β)} (h : ∀ q ∈ a, q.1 ≠ x) : a.lookup x = none := by
  cases hl : a.lookup x with
  | none => rfl
  | some v => exact absurd rfl (h _ (lookup_mem hl))
theorem pst_lookup (n : Nat) (ps : List UInt8) (q : Nat) : ∀ k, (pst n ps k).L.lookup (q : Int) = if q < k ∧ ps.getD q 0 ≠ 255 then some (over zpiece 0 (pieceP n q (ps.getD q 0))) else none
  | 0 => by simp [pst]
  | k + 1 => by
    have ih := pst_lookup n ps q k
    rw [pst]
    by_cases h255 : ps.getD k 0 = 255
    · rw [if_pos h255, ih]
      by_cases hq : q = k
      · subst hq
        rw [if_neg (by omega), if_neg (fun h => h.2 h255)]
      · have : (q < k ∧ ps.getD q 0 ≠ 255) ↔ (q < k + 1 ∧ ps.getD q 0 ≠ 255) := by constructor <;> (rintro ⟨a, b⟩; exact ⟨by omega, b⟩)
        simp only [this]
    · rw [if_neg h255]
      show ((pst n ps k).L ++ [_]).lookup (q : Int) = _
      rw [lookup_append, ih]
      by_cases hq : q = k
      · subst hq
        rw [if_neg (by omega), if_pos ⟨by omega, h255⟩]
        simp [List.lookup_cons]
      · have e : ((q : Int) == (k : Int)) = false := by simp; omega
        have : (q < k ∧ ps.getD q 0 ≠ 255) ↔ (q < k + 1 ∧ ps.getD q 0 ≠ 255) := by constructor <;> (rintro ⟨a, b⟩; exact ⟨by omega, b⟩)
        simp only [List.lookup_cons, e, List.lookup_nil, Option.or_none, this]
theorem zpiece_take (m : Nat) : allZero (zpiece.take m) = true := by
  rw [allZero, List.all_eq_true]
  intro x hx
  have := List.eq_of_mem_replicate (List.mem_of_mem_take hx)
  simp [this]
theorem over_take (n q : Nat) (v : UInt8) : (over zpiece 0 (pieceP n q v)).take (n - 512 * q) = pieceP n q v := by
  have hz : zpiece.length = 512 := List.length_replicate
  have hl : (pieceP n q v).length = longP n q := pieceP_len n q v
  have e : over zpiece 0 (pieceP n q v) = pieceP n q v ++ zpiece.drop (longP n q) := by
    rw [over, List.take_zero, List.nil_append, hl, Nat.zero_add]
  rw [e]
  by_cases h : n - 512 * q ≤ 512
  · have h2 : longP n q = n - 512 * q := by unfold longP; omega
    rw [List.take_append_of_le_length (by omega), List.take_of_length_le (by omega)]
  · have h2 : longP n q = 512 := by unfold longP; omega
    rw [h2, List.drop_of_length_le (by omega), List.append_nil, List.take_of_length_le (by omega)]
theorem allZero_piece {n q : Nat} (h : 512 * q < n) (v : UInt8) : allZero (pieceP n q v) = decide (v = 0) := by
  have hl : 1 ≤ longP n q := by unfold longP; omega
  by_cases hv : v = 0
  · subst hv
    simp only [decide_true]
    rw [allZero, List.all_eq_true]
    intro x hx
    simp [List.eq_of_mem_replicate hx]
  · simp only [hv, decide_false]
    obtain ⟨m, hm⟩ : ∃ m, longP n q = m + 1 := ⟨longP n q - 1, by omega⟩
    rw [allZero, pieceP, hm, List.replicate_succ, List.all_cons]
    simp [hv]
/-- What is told of the file behind K pieces. -/
theorem pst_fill (n : Nat) (ps : List UInt8) (K : Nat) (hK : ∀ j, j < K → 512 * j < n) : ∀ q, pcsOf (fillTo (pst n ps K).L n q) = (pst n ps (min q K)).want ∧ dataOf (fillTo (pst n ps K).L n q) = (pst n ps (min q K)).data
  | 0 => by simp [fillTo, pst, pcsOf, dataOf]
  | q + 1 => by
    obtain ⟨ih1, ih2⟩ := pst_fill n ps K hK q
    have hL : ∀ x ∈ (pst n ps K).L, x.2.length = 512 := fun x hx => ((pst_L n ps K).2 x hx).2.2
    have hp := pieceR_take hL n q
    rw [pst_lookup] at hp
    rw [fillTo]
    by_cases hq : q < K
    · rw [show min (q + 1) K = q + 1 by omega]
      rw [show min q K = q by omega] at ih1 ih2
      rw [pst]
      by_cases h255 : ps.getD q 0 = 255
      · rw [if_neg (fun h => h.2 h255)] at hp
        rw [if_pos (by rw [hp]; exact zpiece_take _), if_pos h255]
        exact ⟨ih1, ih2⟩
      · rw [if_pos ⟨hq, h255⟩, Option.getD_some, over_take] at hp
        rw [if_neg h255, hp, allZero_piece (hK q hq)]
        by_cases h0 : ps.getD q 0 = 0
        · rw [if_pos (decide_eq_true h0)]
          simp only [h0, if_true]
          exact ⟨ih1, ih2⟩
        · rw [if_neg (by rw [decide_eq_false h0]; simp)]
          simp only [h0, if_false]
          rw [pcsOf_snoc, dataOf_snoc, ih1, ih2]
          exact ⟨rfl, rfl⟩
    · rw [if_neg (fun h => hq h.1)] at hp
      rw [show min (q + 1) K = min q K by omega, if_pos (by rw [hp]; exact zpiece_take _)]
      exact ⟨ih1, ih2⟩
theorem pst_told (n : Nat) (ps : List UInt8) (K : Nat) (hK : ∀ j, j < K → 512 * j < n) : pcsOf (fillTo (pst n ps K).L n (fillN n)) = (pst n ps K).want ∧ dataOf (fillTo (pst n ps K).L n (fillN n)) = (pst n ps K).data := by
  have := pst_fill n ps K hK (fillN n)
  have e : min (fillN n) K = K := by
    by_cases h0 : K = 0
    · omega
    · have := hK (K - 1) (by omega)
      unfold fillN; omega
  rw [e] at this
  exact this
end Go.Proofs.YtdafneilalompaaGreatDoor
