/- Where a path leads, as plain functions of the tree: goesR, toR, nameR. -/
import Derived.Test.YtdafneilalompaaGreatDoorPath4
import Derived.Test.YtdafneilalompaaGreatDoorRam5
namespace Go.Proofs.YtdafneilalompaaGreatDoor
open Go

theorem comps_len : ∀ (ps acc : List ByteArray) (l : List ByteArray), comps ps acc = some l → acc.length ≤ 32 → l.length ≤ 32
  | [], acc, l, h, ha => by simp [comps] at h; subst h; exact ha
  | p :: r, acc, l, h, ha => by
    rw [comps] at h
    split at h
    · exact comps_len r acc l h ha
    · split at h
      · cases h
      · rename_i hn
        exact comps_len r _ l h (by simp; omega)
theorem compsR_len (s : ByteArray) (m : Int) : (compsR s m).1.length ≤ 32 := by
  unfold compsR
  cases h : compsOf s m with
  | none => simp
  | some l =>
    unfold compsOf at h
    split at h
    · cases h
    · exact comps_len _ _ _ h (by simp)
theorem textR_len (s : ByteArray) : (textR s).1.length ≤ 32 := by
  unfold textR
  split
  · simp
  · split
    · exact compsR_len s 1024
    · simp
theorem parseR_len (s : ByteArray) : (parseR s).1.length ≤ 32 := by
  unfold parseR
  split
  · simp
  · exact compsR_len s 1024
theorem makeR_len (s : ByteArray) : (makeR s).1.length ≤ 32 := by
  have := compsR_len s 1024
  unfold makeR
  split
  · simp
  · split
    · simp
    · split
      · simp; omega
      · simp

/-- The names of a directory. -/
def Nd.names (x : Nd) : List (ByteArray × Int) := match x.nms with | some (_, L) => L | none => []
/-- The last of a row that is never empty. -/
def lastI (l : List Int) : Int := l.getLastD 1
/-- A walk: what is left, the row, how many links were followed: where it leads, or what is wrong. -/
def goesR (S : St) (behind follow : Bool) (parts : List ByteArray) (chain : List Int) (fol : Nat) : (List Int × ByteArray × Int) × Int :=
  match parts with
  | [] => ((chain, ⟨#[]⟩, lastI chain), 0)
  | c :: r =>
    if c = dotdot then goesR S behind follow r (if chain.length ≤ 1 then chain else chain.dropLast) fol else
    match (S.nd (lastI chain)).names.lookup c with
    | none => (([], ⟨#[]⟩, 0), 160)
    | some m =>
      if (S.nd m).kind = 2 ∧ (behind = true ∨ r ≠ []) then goesR S behind follow r (chain ++ [m]) fol else
      if (S.nd m).kind = 3 ∧ ((behind = true ∨ r ≠ []) ∨ follow = true) then
        if h8 : 8 ≤ fol then (([], ⟨#[]⟩, 0), 162) else
        if (textR (S.nd m).text).2.2 ≠ 0 then (([], ⟨#[]⟩, 0), (textR (S.nd m).text).2.2) else
        goesR S behind follow ((textR (S.nd m).text).1 ++ r) (if (textR (S.nd m).text).2.1 = true then [1] else chain) (fol + 1)
      else if behind = true ∨ r ≠ [] then (([], ⟨#[]⟩, 0), 161) else ((chain, c, m), 0)
termination_by parts.length + 33 * (8 - fol)
decreasing_by
  · simp only [List.length_cons]; omega
  · simp only [List.length_cons]; omega
  · have := textR_len (S.nd m).text
    simp only [List.length_append, List.length_cons]; omega

/-- What must hold of a tree for a walk in it. -/
structure St.Wf (S : St) : Prop where
  root : 1 ∈ S.keys ∧ (S.nd 1).kind = 2
  nds : ∀ i ∈ S.keys, (S.nd i).Wf
  dirs : ∀ i ∈ S.keys, (S.nd i).kind = 2 → ∃ b L, (S.nd i).nms = some (b, L) ∧ ∀ p ∈ L, p.2 ∈ S.keys
  links : ∀ i ∈ S.keys, 0 ≤ (S.nd i).links ∧ (S.nd i).links ≤ 1000000
  sizes : ∀ i ∈ S.keys, 0 ≤ (S.nd i).size ∧ (S.nd i).size ≤ 8459264
  g : 0 ≤ S.g3 ∧ S.g3 ≤ S.g0 ∧ S.g0 ≤ 16384 ∧ 0 ≤ S.g4 ∧ S.g4 ≤ 2048
  few : S.keys.length ≤ 2048
  room : ∀ i ∈ S.keys, ∀ b L, (S.nd i).nms = some (b, L) → (L.length : Int) ≤ (S.nd i).blocks * 16
  whole : ∀ i ∈ S.keys, ∀ b L, (S.nd i).pcs = some (b, L) → ∀ q ∈ L, q.2.length = 512
  nodup : S.keys.Nodup
theorem lookup_mem {α β : Type} [BEq α] [LawfulBEq α] {x : α} {v : β} : ∀ {L : List (α × β)}, L.lookup x = some v → (x, v) ∈ L
  | [], h => by simp at h
  | (k, u) :: r, h => by
    rw [List.lookup_cons] at h
    cases hk : x == k with
    | true => rw [hk] at h; simp at h; subst h; have : x = k := by simpa using hk
              subst this; simp
    | false => rw [hk] at h; exact List.mem_cons_of_mem _ (lookup_mem h)
end Go.Proofs.YtdafneilalompaaGreatDoor
