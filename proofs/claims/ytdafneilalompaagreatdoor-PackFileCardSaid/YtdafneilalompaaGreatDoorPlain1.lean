/- How many blocks a file takes hangs on which indices it has, not on their order; the contracts of indices and Takes for any node. -/
import Derived.Test.YtdafneilalompaaGreatDoorRamB
namespace Go.Proofs.YtdafneilalompaaGreatDoor
open Go

theorem mem_with1 (l : List Int) (k x : Int) : x ∈ with1 l k ↔ x ∈ l ∨ x = k := by
  unfold with1
  split
  · rename_i h; constructor
    · exact Or.inl
    · rintro (h1 | rfl)
      · exact h1
      · exact h
  · simp
theorem nodup_with1 {l : List Int} (h : l.Nodup) (k : Int) : (with1 l k).Nodup := by
  unfold with1
  split
  · exact h
  · rename_i hk
    refine List.nodup_append.2 ⟨h, by simp, ?_⟩
    intro a ha b hb
    simp only [List.mem_singleton] at hb
    subst hb
    exact fun e => hk (e ▸ ha)
theorem mem_fold_with1 (x : Int) : ∀ (ks l : List Int), x ∈ ks.foldl with1 l ↔ x ∈ l ∨ x ∈ ks
  | [], l => by simp
  | k :: ks, l => by rw [List.foldl_cons, mem_fold_with1 x ks, mem_with1]; simp [or_assoc]
theorem nodup_fold_with1 : ∀ (ks : List Int) {l : List Int}, l.Nodup → (ks.foldl with1 l).Nodup
  | [], _, h => h
  | k :: ks, _, h => nodup_fold_with1 ks (nodup_with1 h k)
def tabOf (k : Int) : List Int := if 138 ≤ k then [-1, (k - 138) / 128] else if 10 ≤ k then [-2] else []
theorem tab1_eq (t : List Int) (k : Int) : tab1 t k = (tabOf k).foldl with1 t := by
  unfold tab1 tabOf
  split
  · rfl
  · split <;> rfl
theorem fold_tab1 : ∀ (ks t : List Int), ks.foldl tab1 t = (ks.flatMap tabOf).foldl with1 t
  | [], _ => rfl
  | k :: ks, t => by rw [List.foldl_cons, fold_tab1 ks, tab1_eq, List.flatMap_cons, List.foldl_append]
theorem fold_with1_perm {a b : List Int} (h : ∀ x, x ∈ a ↔ x ∈ b) : (a.foldl with1 []).length = (b.foldl with1 []).length := by
  have h1 := nodup_fold_with1 a List.nodup_nil
  have h2 := nodup_fold_with1 b List.nodup_nil
  exact ((List.perm_ext_iff_of_nodup h1 h2).2 (fun x => by rw [mem_fold_with1, mem_fold_with1]; simp [h x])).length_eq
theorem takes_mem {a b : List Int} (h : ∀ x, x ∈ a ↔ x ∈ b) : takes a = takes b := by
  unfold takes
  rw [fold_with1_perm h, fold_tab1, fold_tab1, fold_with1_perm (a := a.flatMap tabOf) (b := b.flatMap tabOf)]
  intro x
  simp [List.mem_flatMap, h]
theorem takes_perm {a b : List Int} (h : a.Perm b) : takes a = takes b := takes_mem fun _ => h.mem_iff

/-- The indices that a node has. -/
def Nd.idx (x : Nd) : List Int :=
  if x.kind = 1 then (match x.pcs with | some (_, L) => L.map (·.1) | none => []) else if x.kind = 2 then upTo x.blocks.toNat else upTo ((x.text.size + 511) / 512)
/-- What may stand in a node. -/
structure Nd.Wf (x : Nd) : Prop where
  kind : x.kind = 1 ∧ (∃ b L, x.pcs = some (b, L) ∧ L.length ≤ 20000 ∧ ∀ q ∈ L, 0 ≤ q.1 ∧ q.1 < 16522) ∨ x.kind = 2 ∧ 0 ≤ x.blocks ∧ x.blocks ≤ 16522 ∨ x.kind = 3 ∧ x.text.size ≤ 1024
theorem Nd.Wf.range {x : Nd} (h : x.Wf) : ∀ k ∈ x.idx, 0 ≤ k ∧ k < 16522 := by
  intro k hk
  rcases h.kind with ⟨h1, b, L, hp, hL, hr⟩ | ⟨h1, h2, h3⟩ | ⟨h1, h2⟩
  · simp only [Nd.idx, h1, if_true, hp, List.mem_map] at hk
    obtain ⟨q, hq, rfl⟩ := hk
    exact hr q hq
  · simp only [Nd.idx, h1, show ¬ (2 : Int) = 1 by decide, if_false, if_true, upTo, List.mem_map, List.mem_range] at hk
    obtain ⟨n, hn, rfl⟩ := hk
    simp; omega
  · simp only [Nd.idx, h1, show ¬ (3 : Int) = 1 by decide, show ¬ (3 : Int) = 2 by decide, if_false, upTo, List.mem_map, List.mem_range] at hk
    obtain ⟨n, hn, rfl⟩ := hk
    simp; omega
theorem Nd.Wf.len {x : Nd} (h : x.Wf) : x.idx.length ≤ 20000 := by
  rcases h.kind with ⟨h1, b, L, hp, hL, hr⟩ | ⟨h1, h2, h3⟩ | ⟨h1, h2⟩
  · simp only [Nd.idx, h1, if_true, hp, List.length_map]; exact hL
  · simp only [Nd.idx, h1, show ¬ (2 : Int) = 1 by decide, if_false, if_true, upTo_len]; omega
  · simp only [Nd.idx, h1, show ¬ (3 : Int) = 1 by decide, show ¬ (3 : Int) = 2 by decide, if_false, upTo_len]; omega
/-- What a node takes. -/
def Nd.takes (x : Nd) : Int := YtdafneilalompaaGreatDoor.takes x.idx
def St.taken (S : St) : Int := (S.keys.map fun i => (S.nd i).takes).sum

theorem indices_any {w : World} {own : Nat → Option (Nat × Int)} {i : Int} {x : Nd} (h : NdAt w own i x) (hx : x.Wf) :
    Calls Tryz.prog 211 #[ndPtr x] w fun e w' => ∃ (ks : List Int) (v : Value), e = .returned v ∧ ks.Perm x.idx ∧ w'.ownsRow w.heap.size 3 1 v ks.length (ks.map (Value.int .i64)) ∧ Keeps (fun _ => False) w w' := by
  have hlen := hx.len
  rcases hx.kind with ⟨h1, b, L, hp, hL, hr⟩ | ⟨h1, h2, h3⟩ | ⟨h1, h2⟩
  · refine (indices_file w x.blk b (L.map fun q => (q.1, pc q.2)) (by rw [h.blk.cell]; simp [Nd.cells, h1]) (by rw [h.blk.cell]; simp [Nd.cells, hp]) (h.pcs b L hp).1 (by simp; omega)).mono ?_
    rintro e w' ⟨ks, v, he, hperm, hrow, hk⟩
    refine ⟨ks, v, he, ?_, hrow, hk⟩
    rw [List.map_map] at hperm
    have hi : x.idx = L.map (·.1) := by simp [Nd.idx, h1, hp]
    rw [hi]; exact hperm
  · refine (indices_dir w x.blk x.blocks.toNat (by rw [h.blk.cell]; simp [Nd.cells, h1]) (by rw [h.blk.cell]; simp [Nd.cells]; omega) (by omega)).mono ?_
    rintro e w' ⟨v, he, hrow, hk⟩
    have hi : x.idx = upTo x.blocks.toNat := by simp [Nd.idx, h1]
    exact ⟨x.idx, v, he, List.Perm.refl _, by rw [hi, upTo_len]; exact hrow, hk⟩
  · refine (indices_link w x.blk ((x.text.size + 511) / 512) x.text (by rw [h.blk.cell]; simp [Nd.cells, h1]) (by rw [h.blk.cell]; simp [Nd.cells]) (by omega) (by omega) (by omega)).mono ?_
    rintro e w' ⟨v, he, hrow, hk⟩
    have hi : x.idx = upTo ((x.text.size + 511) / 512) := by simp [Nd.idx, h1]
    exact ⟨x.idx, v, he, List.Perm.refl _, by rw [hi, upTo_len]; exact hrow, hk⟩

/-- 'Takes(n.indices())', the second call: whatever order the first one told them in. -/
theorem Takes_row {w : World} {B : Nat} {v : Value} {ks : List Int} {x : Nd} (hx : x.Wf) (hp : ks.Perm x.idx) (hrow : w.ownsRow B 3 1 v ks.length (ks.map (Value.int .i64))) :
    Calls Tryz.prog 210 #[v] w fun e w' => e = .returned (.tuple #[.int .i64 x.takes, .int .i64 0]) ∧ Keeps (fun _ => False) w w' := by
  have hlen : ks.length ≤ 20000 := hp.length_eq ▸ hx.len
  obtain ⟨a, c, hv, hcell⟩ : ∃ a c, v = .slice a ks.length c ∧ ∀ i k, ks[i]? = some k → ∃ g, a = some ⟨g, 0, none⟩ ∧ w.cell? ⟨g, i, none⟩ = some (.int .i64 k) := by
    rcases hrow.2 with ⟨hv, h0⟩ | ⟨g, c, cur, hv, _⟩
    · refine ⟨none, 0, by rw [hv, h0], fun i k hk => ?_⟩
      have : ks = [] := List.eq_nil_of_length_eq_zero h0
      rw [this] at hk; simp at hk
    · refine ⟨some ⟨g, 0, none⟩, c, hv, fun i k hk => ⟨g, rfl, ?_⟩⟩
      have hlt := (List.getElem?_eq_some_iff.1 hk).1
      obtain ⟨g', c', hv', _, _, hc⟩ := ownsRow_cells hrow (by omega)
      rw [hv] at hv'
      cases hv'
      rw [hc i (by simpa using hlt)]
      simp [hk]
  subst hv
  refine (Takes_any w a c ks ks.length rfl (by omega) hcell (fun k hk => hx.range k (hp.mem_iff.1 hk))).mono ?_
  rintro e w' ⟨he, hk⟩
  exact ⟨by rw [he, takes_perm hp]; rfl, hk⟩
end Go.Proofs.YtdafneilalompaaGreatDoor
