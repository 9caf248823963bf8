/- The pieces of a path as plain texts: rows of bytes that are no slashes. No condition. -/
import Derived.Test.YtdafneilalompaaGreatDoorBase
namespace Go.Proofs.YtdafneilalompaaGreatDoor
open Go

/-- Is there a byte at a place, and no slash? -/
def isCh (s : ByteArray) (e : Nat) : Bool := decide (e < s.size) && (s.data.toList.getD e 0 != 47)
theorem isCh_get {s : ByteArray} {k : Nat} (h : k < s.size) : isCh s k = (s[k] != 47) := by
  have e : s.data.toList.getD k 0 = s[k] := by
    have h2 : k < s.data.size := h
    simp only [List.getD, Array.getElem?_toList, Array.getElem?_eq_getElem h2, Option.getD_some]
    rfl
  rw [isCh, e]
  simp [h]
theorem isCh_int {s : ByteArray} {k : Nat} (h : k < s.size) : isCh s k = ((s[k].toNat : Int) != 47) := by
  rw [isCh_get h, Bool.eq_iff_iff]
  simp only [bne_iff_ne, ne_eq]
  constructor
  · intro h1 h2
    apply h1
    apply UInt8.toNat_inj.1
    have : (47 : UInt8).toNat = 47 := rfl
    omega
  · intro h1 h2
    apply h1
    rw [h2]; rfl
/-- The first place from e on that is a slash or the end. -/
def endAt (s : ByteArray) : Nat → Nat → Nat
  | 0, e => e
  | n + 1, e => if isCh s e then endAt s n (e + 1) else e
/-- The pieces from a place on. -/
def piecesAt (s : ByteArray) : Nat → Nat → List ByteArray
  | 0, _ => []
  | n + 1, k => if k < s.size then (if isCh s k then s.extract k (endAt s (s.size - k) k) :: piecesAt s n (endAt s (s.size - k) k) else piecesAt s n (k + 1)) else []
def piecesOf (s : ByteArray) : List ByteArray := piecesAt s (s.size + 1) 0

theorem endAt_ge (s : ByteArray) : ∀ n e, e ≤ endAt s n e
  | 0, e => Nat.le_refl _
  | n + 1, e => by rw [endAt]; split; exact Nat.le_trans (Nat.le_succ _) (endAt_ge s n (e + 1)); exact Nat.le_refl _
theorem endAt_le (s : ByteArray) : ∀ n e, e ≤ s.size → endAt s n e ≤ s.size
  | 0, e, h => h
  | n + 1, e, h => by
    rw [endAt]
    split
    · rename_i hc
      refine endAt_le s n (e + 1) ?_
      simp [isCh] at hc
      omega
    · exact h
theorem endAt_gt (s : ByteArray) {n e : Nat} (h : isCh s e = true) : e < endAt s (n + 1) e := by
  rw [endAt, if_pos h]; exact endAt_ge s n (e + 1)
/-- Enough fuel: one more changes nothing. -/
theorem endAt_step (s : ByteArray) : ∀ n e, s.size ≤ e + n → isCh s e = true → endAt s n e = endAt s (n - 1) (e + 1)
  | 0, e, h, hc => by simp [isCh] at hc; omega
  | n + 1, e, h, hc => by rw [endAt, if_pos hc]; rfl
theorem endAt_fuel (s : ByteArray) : ∀ n m e, s.size ≤ e + n → s.size ≤ e + m → endAt s n e = endAt s m e
  | 0, m, e, h, _ => by
    cases m with
    | zero => rfl
    | succ m => rw [endAt, endAt, if_neg]; simp [isCh]; omega
  | n + 1, 0, e, _, h => by rw [endAt, endAt, if_neg]; simp [isCh]; omega
  | n + 1, m + 1, e, h, h' => by
    rw [endAt, endAt]
    split
    · exact endAt_fuel s n m (e + 1) (by omega) (by omega)
    · rfl
theorem piecesAt_fuel (s : ByteArray) : ∀ n m k, s.size + 1 ≤ k + n → s.size + 1 ≤ k + m → piecesAt s n k = piecesAt s m k
  | 0, m, k, h, _ => by
    cases m with
    | zero => rfl
    | succ m => rw [piecesAt, piecesAt, if_neg]; omega
  | n + 1, 0, k, _, h => by rw [piecesAt, piecesAt, if_neg]; omega
  | n + 1, m + 1, k, h, h' => by
    rw [piecesAt, piecesAt]
    split
    · split
      · rename_i hk hc
        have : k < endAt s (s.size - k) k := by
          cases hs : s.size - k with
          | zero => omega
          | succ j => exact endAt_gt s hc
        rw [piecesAt_fuel s n m _ (by omega) (by omega)]
      · exact piecesAt_fuel s n m _ (by omega) (by omega)
    · rfl
/-- What is still to come at a place. -/
def rest (s : ByteArray) (k : Nat) : List ByteArray := piecesAt s (s.size + 1) k
theorem rest_end {s : ByteArray} {k : Nat} (h : s.size ≤ k) : rest s k = [] := by rw [rest, piecesAt, if_neg (by omega)]
theorem rest_slash {s : ByteArray} {k : Nat} (h : k < s.size) (hc : isCh s k = false) : rest s k = rest s (k + 1) := by
  rw [rest, piecesAt, if_pos h, if_neg (by simp [hc])]
  exact piecesAt_fuel s _ _ _ (by omega) (by omega)
theorem rest_piece {s : ByteArray} {k : Nat} (h : k < s.size) (hc : isCh s k = true) : rest s k = s.extract k (endAt s (s.size - k) k) :: rest s (endAt s (s.size - k) k) := by
  have hg : k < endAt s (s.size - k) k := by
    cases hs : s.size - k with
    | zero => omega
    | succ j => exact endAt_gt s hc
  rw [rest, piecesAt, if_pos h, if_pos hc]
  rw [rest, piecesAt_fuel s s.size (s.size + 1) _ (by omega) (by omega)]
end Go.Proofs.YtdafneilalompaaGreatDoor
