/- A map's keys, sorted: slices.Sorted(maps.Keys(m)) at a map of strings. Conditions: those that each theorem names. -/
import Derived.Test.YtdafneilalompaaGreatDoorWalk0
import Derived.Test.YtdafneilalompaaGreatDoorIter
namespace Go.Proofs.YtdafneilalompaaGreatDoor
open Go Go.RowKit Go.MapKept
open Go.ChangeMaps (setBlock)

/-- Texts as byte lists, in order. -/
def sortL (l : List (List UInt8)) : List (List UInt8) := l.mergeSort fun x y => decide (x ≤ y)
def sortB (l : List ByteArray) : List ByteArray := (sortL (l.map (·.data.toList))).map fun x => ⟨x.toArray⟩
theorem leL_trans (a b c : List UInt8) (h : decide (a ≤ b) = true) (k : decide (b ≤ c) = true) : decide (a ≤ c) = true := by
  simp only [decide_eq_true_eq] at *
  exact List.le_trans h k
theorem leL_total (a b : List UInt8) : (decide (a ≤ b) || decide (b ≤ a)) = true := by
  rcases List.le_total a b with h | h <;> simp [h]
theorem sortL_perm {a b : List (List UInt8)} (h : a.Perm b) : sortL a = sortL b := by
  refine List.Perm.eq_of_pairwise (le := fun x y => decide (x ≤ y) = true) ?_ (List.pairwise_mergeSort leL_trans leL_total a) (List.pairwise_mergeSort leL_trans leL_total b) (((List.mergeSort_perm a _).trans h).trans (List.mergeSort_perm b _).symm)
  intro x y _ _ h1 h2
  simp only [decide_eq_true_eq] at h1 h2
  exact List.le_antisymm h1 h2
theorem sortB_length (l : List ByteArray) : (sortB l).length = l.length := by simp [sortB, sortL]
theorem sortB_mem {l : List ByteArray} {x : ByteArray} : x ∈ sortB l ↔ x ∈ l := by
  simp only [sortB, sortL, List.mem_map, List.mem_mergeSort]
  constructor
  · rintro ⟨y, ⟨z, hz, rfl⟩, rfl⟩; simpa using hz
  · intro h; exact ⟨_, ⟨x, h, rfl⟩, by simp⟩

theorem keysOwn {w : World} {b : Nat} {L : List (ByteArray × Value)} (h : MapK kStr w b L) (hs : ∀ p ∈ L, p.1.size ≤ maxLen) (hn : L.length ≤ maxLen) :
    ∃ D0 : DataW Unit, w.ownsMap Tryz.prog 9 (fun _ => some (.nil, [])) b L.length D0 ∧ (strKeys D0).Perm (L.map fun p => p.1.data.toList) ∧ Maps.size D0 = L.length := by
  obtain ⟨es, c, hb, hst, hL⟩ := h
  have hsz : es.size = L.length := by have := congrArg List.length hL; simpa using this
  have hrd : ∀ x ∈ es.toList, ∃ s : ByteArray, x.key = .string s ∧ WideElems.rd (H := Unit) Tryz.prog 9 (fun _ => some (.nil, [])) x = some (.string s.data.toList, .nil) := by
    intro x hx
    have hm : (x.key, x.val) ∈ L.map (fun p => (kStr.val p.1, p.2)) := by rw [← hL]; exact List.mem_map.2 ⟨x, hx, rfl⟩
    obtain ⟨p, hp, e⟩ := List.mem_map.1 hm
    have e1 : x.key = .string p.1 := (congrArg Prod.fst e).symm
    refine ⟨p.1, e1, ?_⟩
    have := Go.WideMaps.keyOf_string_mk (P := Tryz.prog) (k := 9) Tryz.underlying9 (hs p hp)
    simp [WideElems.rd, e1, this]
  refine ⟨_, ⟨es, c, hb, ⟨by omega, hst, fun x hx => by obtain ⟨s, _, h2⟩ := hrd x hx; exact ⟨_, h2⟩⟩, by omega, rfl⟩, ?_, ?_⟩
  · simp only [strKeys]
    refine ((Go.WideShapes.sorted_perm _).map _).trans ?_
    rw [List.map_map]
    have : es.toList.map ((fun p => strOf p.1) ∘ WideElems.rg (H := Unit) Tryz.prog 9 (fun _ => some (.nil, []))) = L.map fun p => p.1.data.toList := by
      have h2 : es.toList.map ((fun p => strOf p.1) ∘ WideElems.rg (H := Unit) Tryz.prog 9 (fun _ => some (.nil, []))) = (es.toList.map fun e => (e.key, e.val)).map fun q => match q.1 with | .string s => s.data.toList | _ => [] := by
        rw [List.map_map]
        apply List.map_congr_left
        intro x hx
        obtain ⟨s, h1, h2⟩ := hrd x hx
        simp [WideElems.rg, h2, h1, strOf]
      rw [h2, hL, List.map_map]
      rfl
    rw [this]
  · simp only [Maps.size]
    rw [(Go.WideShapes.sorted_perm _).length_eq]; simp [hsz]

/-- maps.Keys, and what slices.Sorted makes of it. -/
theorem keys_any (m : Option Nat) (w : World) : Calls Tryz.prog 144 #[.map m] w fun e w' => e = .returned (.func (.func 209) #[] #[.pointer (some ⟨w.heap.size, 0, none⟩)]) ∧ w' = w.alloc (.cells #[.map m] 108) :=
  callsIn_wide.1 (Tryz.maps_Keys_144 m w)
theorem sorted_any {w : World} {b : Nat} {L : List (ByteArray × Value)} (h : MapK kStr w b L) (hs : ∀ p ∈ L, p.1.size ≤ maxLen) (hn : L.length ≤ 1000000) :
    Calls Tryz.prog 143 #[.func (.func 209) #[] #[.pointer (some ⟨w.heap.size, 0, none⟩)]] (w.alloc (.cells #[.map (some b)] 108)) fun e w' => ∃ v, e = .returned v ∧ w'.ownsRow (w.heap.size + 1) 9 1 v L.length ((sortB (L.map (·.1))).map Value.string) ∧ (L = [] → v = .slice none 0 0) ∧ Keeps (fun _ => False) w w' := by
  obtain ⟨D0, h1, h2, h3⟩ := keysOwn h hs (by unfold maxLen; omega)
  refine (callsIn_wide.1 (Tryz.slices_Sorted_keys_143_144 b L.length D0 _ w h1 (by rw [h3]; unfold maxLen; omega) (by rw [h3]; omega))).mono ?_
  rintro e w' ⟨v, ss, rfl, hp, hrow, hnil, hb⟩
  have hpp := hp.trans h2
  have hl : ss.length = L.length := by rw [hpp.length_eq]; simp
  refine ⟨v, rfl, ?_, fun e => hnil.2 (List.length_eq_zero_iff.1 (by rw [hl, e]; rfl)), ?_⟩
  · rw [hl] at hrow
    have e : (ss.mergeSort fun x y => decide (x ≤ y)).map encStr = (sortB (L.map (·.1))).map Value.string := by
      have : sortL ss = sortL (L.map fun p => p.1.data.toList) := sortL_perm hpp
      simp only [sortB, List.map_map]
      rw [show ss.mergeSort (fun x y => decide (x ≤ y)) = sortL ss from rfl, this]
      rfl
    rw [e] at hrow
    simpa using hrow
  · exact ((Keeps.refl _ _).alloc _).then (Keeps.ofBelow hb _)
end Go.Proofs.YtdafneilalompaaGreatDoor
