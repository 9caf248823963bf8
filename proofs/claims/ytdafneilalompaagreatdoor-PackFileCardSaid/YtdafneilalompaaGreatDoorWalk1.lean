/- Where a path leads: goes. Conditions: those that each theorem names. -/
import Derived.Test.YtdafneilalompaaGreatDoorWalk0
import Derived.Deep.DeepCutAuto
namespace Go.Proofs.YtdafneilalompaaGreatDoor
open Go Go.RowKit
open Go.ChangeMaps (setBlock)

theorem ownsRow_type {w : World} {B t n s : Nat} {v : Value} {xs : List Value} (h : w.ownsRow B t s v n xs) {b : Nat} {cs : Array Value} {t' : TypeId} {f : Nat × Nat} (hb : w.heap[b]? = some (.cells cs t' f)) (ht : t' ≠ t) : v.ownBlock ≠ some b := fun e => by
  obtain ⟨_, cur, hc⟩ := ownsRow_base h e
  rw [hb] at hc
  simp at hc
  exact ht hc.2.1
theorem own_new3 (w : World) : ((w.alloc (.cells #[.slice none 0 0, .string ⟨#[]⟩, .int .i64 0] 201)).alloc (.cells #[.int .i64 1] 3)).ownsRow w.heap.size 3 1 (.slice (some ⟨w.heap.size + 1, 0, none⟩) 1 1) 1 [.int .i64 1] := by
  refine ⟨rfl, Or.inr ⟨w.heap.size + 1, 1, #[.int .i64 1], rfl, by omega, ?_, by omega, by simp [maxLen], rfl, rfl⟩⟩
  have := Blk.new' (w := w.alloc (.cells #[.slice none 0 0, .string ⟨#[]⟩, .int .i64 0] 201)) (n := w.heap.size + 1) (by simp) #[.int .i64 1] 3
  exact this
theorem own_one (w : World) {B : Nat} (hB : B ≤ w.heap.size) : (w.alloc (.cells #[.int .i64 1] 3)).ownsRow B 3 1 (.slice (some ⟨w.heap.size, 0, none⟩) 1 1) 1 [.int .i64 1] :=
  ⟨rfl, Or.inr ⟨w.heap.size, 1, #[.int .i64 1], rfl, hB, Blk.new w #[.int .i64 1] 3, by omega, by simp [maxLen], rfl, rfl⟩⟩
theorem zero9 (w : World) : (zeroValue 9).run Tryz.prog w = .ok (.string ByteArray.empty) w := by kernel_rfl

/-- What a directory's map answers. -/
theorem names_ok {w : World} {own : Nat → Option (Nat × Int)} {i : Int} {x : Nd} (h : NdAt w own i x) {b : Nat} {L : List (ByteArray × Int)} (hp : x.nms = some (b, L)) (c : ByteArray) (W : World) (hW : ob W b = ob w b) :
    (Instr.lookup 108 (.map (some b)) (.string c) true).run Tryz.prog W = .ok (.tuple #[.int .i64 ((L.lookup c).getD 0), .bool (L.lookup c).isSome]) W := by
  have := (h.nms b L hp).1.lookup_ok kStr (t := 108) Tryz.underlying108 zero3 c W hW
  rw [lookup_map] at this
  cases hl : L.lookup c with
  | none => rw [hl] at this; exact this
  | some v => rw [hl] at this; exact this

theorem PS.tail {w : World} {v : Value} {c : ByteArray} {r : List ByteArray} (h : PS w v (c :: r)) :
    ∃ gp off cp, v = .slice (some ⟨gp, off, none⟩) (r.length + 1) cp ∧ gp < w.heap.size ∧ w.cell? ⟨gp, off, none⟩ = some (.string c) ∧
      ∃ o' c', (∀ W, (Instr.sliceAt 45 (.slice (some ⟨gp, off, none⟩) (r.length + 1) cp) (some (.int .i64 1)) none none).run Tryz.prog W = .ok (.slice (some ⟨gp, o', none⟩) r.length c') W) ∧ PS w (.slice (some ⟨gp, o', none⟩) r.length c') r := by
  obtain ⟨a, cp, rfl, h2, h3, h4⟩ := h
  obtain ⟨gp, off, cur, rfl, e2, e3⟩ := h4 (by simp)
  simp only [List.length_cons] at h2
  refine ⟨gp, off, cp, rfl, (Array.getElem?_eq_some_iff.1 e2).1, by simp [World.cell?, e2]; exact (by simpa using e3 0 c rfl), (if cp = 1 then off else off + 1), cp - 1, fun W => ?_, ?_⟩
  · have hs : (sizeOf 9).run Tryz.prog W = .ok 1 W := by kernel_rfl
    have hel : Tryz.prog.elem 45 = 9 := by kernel_rfl
    rw [run_sliceAt_slice (t := 45) (h := by rw [hel]; exact Tryz.underlying45), run_slice_l (t := 45) (ht := by rw [hel]; exact Tryz.underlying45) (h0 := by omega) (h1 := by omega), hel, hs]
    simp only [Result.andThen, sliced, Int.toNat_one, Nat.add_sub_cancel, Option.map_some, Addr.add, Nat.one_mul, Nat.one_ne_zero, if_false]
    split <;> rfl
  · refine ⟨_, _, rfl, by omega, by omega, fun hr => ?_⟩
    have : 0 < r.length := List.length_pos_iff.2 hr
    rw [if_neg (by omega)]
    refine ⟨gp, off + 1, cur, rfl, e2, fun i x hx => ?_⟩
    have := e3 (i + 1) x (by simpa using hx)
    rw [← this]; congr 1; omega
theorem ownsRow_form {w : World} {B t n s : Nat} {v : Value} {xs : List Value} (h : w.ownsRow B t s v n xs) : ∃ a c, v = .slice a n c := by
  rcases h.2 with ⟨h2, h3⟩ | ⟨g', c', cur, hu, _⟩
  · exact ⟨none, 0, by rw [h2, h3]⟩
  · exact ⟨_, _, hu⟩
theorem dd_list : dotdot.toList = [46, 46] := by rw [ByteArray.toList_eq]; rfl
theorem ownsRow_take {w : World} {B t n g c k : Nat} {xs : List Value} (h : w.ownsRow B t 1 (.slice (some ⟨g, 0, none⟩) n c) n xs) (hk : k ≤ n) : w.ownsRow B t 1 (.slice (some ⟨g, 0, none⟩) k c) k (xs.take k) := by
  have h1 := h.1
  refine ⟨by rw [List.length_take]; omega, ?_⟩
  rcases h.2 with ⟨h2, _⟩ | ⟨g', c', cur, hu, h2, h3, h4, h5, h6, h7⟩
  · cases h2
  · cases hu
    refine Or.inr ⟨g, c, cur, rfl, h2, h3, by omega, h5, h6, ?_⟩
    rw [← h7, List.take_take]
    congr 1
    omega
theorem goes_err {w W : World} {R : (List Int × ByteArray × Int) × Int} {e : Int} (hb8 : Blk W w.heap.size #[.slice none 0 0, .string ⟨#[]⟩, .int .i64 0] 201) (hK : Keeps (fun _ => False) w W) (hR : R = (([], ⟨#[]⟩, 0), e)) (tmps : Array Value)
    (h8 : tmps.getD 8 undef = .pointer (some ⟨w.heap.size, 0, none⟩)) (h9 : tmps.getD 9 undef = .int .i64 e) :
    bodyPost Tryz.prog Tryz.f194 (fun e w' => ∃ cv, e = .returned (.tuple #[.agg #[cv, .string R.1.2.1, .int .i64 R.1.2.2], .int .i64 R.2]) ∧ w'.ownsRow w.heap.size 3 1 cv R.1.1.length (R.1.1.map (Value.int .i64)) ∧ Keeps (fun _ => False) w w')
      Exit.ret { tmps := tmps, defers := [] } (((W.setCell ⟨w.heap.size, 0, none⟩ (.slice none 0 0)).setCell ⟨w.heap.size, 1, none⟩ (.string ⟨#[]⟩)).setCell ⟨w.heap.size, 2, none⟩ (.int .i64 0)) := by
  have hW := ((hb8.set 0 (.slice none 0 0)).set 1 (.string ⟨#[]⟩)).set 2 (.int .i64 0)
  have hKf := ((hK.setCell (p := ⟨w.heap.size, 0, none⟩) (Or.inr (Nat.le_refl _)) (.slice none 0 0)).setCell (p := ⟨w.heap.size, 1, none⟩) (Or.inr (Nat.le_refl _)) (.string ⟨#[]⟩)).setCell (p := ⟨w.heap.size, 2, none⟩) (Or.inr (Nat.le_refl _)) (.int .i64 0)
  rw [hR]
  refine bodyPost_ret (results_cell2 rfl tmps _ _ h8 (run_loadVar_row _ _ 201 201 _ _ _ hW Tryz.underlying201 rfl (by kernel_rfl))) rfl ⟨_, by rw [h9]; rfl, ⟨rfl, Or.inl ⟨rfl, rfl⟩⟩, hKf⟩
theorem goes_step {w W w1 : World} {a' : Option Addr} {c' m g cc : Nat} {r : List ByteArray} {chain : List Int} {n : Int} {v' : Value} (hps : PS W (.slice a' r.length c') r) (hb8 : Blk W w.heap.size #[.slice none 0 0, .string ⟨#[]⟩, .int .i64 0] 201)
    (hrow : W.ownsRow w.heap.size 3 1 (.slice (some ⟨g, 0, none⟩) (m + 1) cc) (m + 1) (chain.map (Value.int .i64))) (hgn : ¬ g = w.heap.size)
    (hown1 : w1.ownsRow w.heap.size 3 1 v' (m + 1 + 1) (chain.map (Value.int .i64) ++ [Value.int .i64 n]))
    (hg1 : (W.alloc (.cells #[.int .i64 n] 3)).grownBy w1 (Value.slice (some ⟨g, 0, none⟩) (m + 1) cc).ownBlock)
    (hsame : v'.ownBlock = (Value.slice (some ⟨g, 0, none⟩) (m + 1) cc).ownBlock ∨ v'.ownBlock = some (W.heap.size + 1)) (hK : Keeps (fun _ => False) w W) :
    ∃ a9 c9, v' = .slice a9 (m + 1 + 1) c9 ∧ PS w1 (.slice a' r.length c') r ∧ Blk w1 w.heap.size #[.slice none 0 0, .string ⟨#[]⟩, .int .i64 0] 201 ∧ Keeps (fun _ => False) w w1 := by
  obtain ⟨hgB, cur, hcur⟩ := ownsRow_base hrow rfl
  have hkA : Keeps (fun k => k = g) W w1 := ((Keeps.refl (fun k => k = g) W).alloc _).grown hg1 (fun k e => by cases e; exact Or.inl rfl)
  obtain ⟨a9, c9, hv9⟩ := ownsRow_form hown1
  refine ⟨a9, c9, hv9, hps.keeps hkA (fun x cur2 hx e => by subst e; rw [hcur] at hx; simp at hx), hb8.keeps hkA (Ne.symm hgn), hK.trans hkA (fun _ _ x => x) (fun i hi e => by subst e; exact absurd hgB (by simpa using hi))⟩
theorem ownsRow_ps {w : World} {B : Nat} {v : Value} {l : List ByteArray} (h' : w.ownsRow B 9 1 v l.length (l.map Value.string)) : PS w v l := by
  rcases h'.2 with ⟨hv, h0⟩ | ⟨g, c, cur, hv, hB, hh, hnc, hcm, hcs, hx⟩
  · exact ⟨none, 0, by rw [hv, h0], by omega, Nat.zero_le _, fun hl => absurd (List.eq_nil_of_length_eq_zero h0) hl⟩
  · refine ⟨_, c, hv, hnc, hcm, fun _ => ⟨g, 0, cur, rfl, hh, fun i x hi => ?_⟩⟩
    have hlt := (List.getElem?_eq_some_iff.1 hi).1
    have h1 : (cur.toList.take (l.length * 1))[i]? = some (.string x) := by rw [hx]; simp [hi]
    rw [List.getElem?_take, if_pos (by omega)] at h1
    simpa using h1
theorem PS.cells {w : World} {g o n c : Nat} {l : List ByteArray} (h : PS w (.slice (some ⟨g, o, none⟩) n c) l) : ∀ j u, (l.map Value.string)[j]? = some u → w.cell? ((⟨g, o, none⟩ : Addr).add j) = some u := by
  obtain ⟨a, c', h1, h2, h3, h4⟩ := h
  intro j u hu
  simp only [List.getElem?_map, Option.map_eq_some_iff] at hu
  obtain ⟨x, hx, rfl⟩ := hu
  obtain ⟨g', off, cur, e1, e2, e3⟩ := h4 (by rintro rfl; simp at hx)
  rw [e1] at h1
  cases h1
  have := e3 j x hx
  cases j with
  | zero => simpa [World.cell?, Addr.add, e2] using this
  | succ j => simpa [World.cell?, Addr.add, e2] using this
theorem goes_found {w W : World} {R : (List Int × ByteArray × Int) × Int} {chain : List Int} {c : ByteArray} {n : Int} {g m cc : Nat} (hb8 : Blk W w.heap.size #[.slice none 0 0, .string ⟨#[]⟩, .int .i64 0] 201) (hK : Keeps (fun _ => False) w W) (hR : R = ((chain, c, n), 0))
    (hrow : W.ownsRow w.heap.size 3 1 (.slice (some ⟨g, 0, none⟩) (m + 1) cc) (m + 1) (chain.map (Value.int .i64))) (hm : chain.length = m + 1) (hgn : ¬ g = w.heap.size) (tmps : Array Value)
    (h8 : tmps.getD 8 undef = .pointer (some ⟨w.heap.size, 0, none⟩)) (h9 : tmps.getD 9 undef = .int .i64 0) :
    bodyPost Tryz.prog Tryz.f194 (fun e w' => ∃ cv, e = .returned (.tuple #[.agg #[cv, .string R.1.2.1, .int .i64 R.1.2.2], .int .i64 R.2]) ∧ w'.ownsRow w.heap.size 3 1 cv R.1.1.length (R.1.1.map (Value.int .i64)) ∧ Keeps (fun _ => False) w w')
      Exit.ret { tmps := tmps, defers := [] } (((W.setCell ⟨w.heap.size, 0, none⟩ (.slice (some ⟨g, 0, none⟩) (m + 1) cc)).setCell ⟨w.heap.size, 1, none⟩ (.string c)).setCell ⟨w.heap.size, 2, none⟩ (.int .i64 n)) := by
  have hW := ((hb8.set 0 (.slice (some ⟨g, 0, none⟩) (m + 1) cc)).set 1 (.string c)).set 2 (.int .i64 n)
  have hKf := ((hK.setCell (p := ⟨w.heap.size, 0, none⟩) (Or.inr (Nat.le_refl _)) (.slice (some ⟨g, 0, none⟩) (m + 1) cc)).setCell (p := ⟨w.heap.size, 1, none⟩) (Or.inr (Nat.le_refl _)) (.string c)).setCell (p := ⟨w.heap.size, 2, none⟩) (Or.inr (Nat.le_refl _)) (.int .i64 n)
  rw [hR]
  refine bodyPost_ret (results_cell2 rfl tmps _ _ h8 (run_loadVar_row _ _ 201 201 _ _ _ hW Tryz.underlying201 rfl (by kernel_rfl))) rfl ⟨_, by rw [h9]; rfl, ?_, hKf⟩
  rw [hm]
  exact ownsRow_keep hrow (fun x hx => by cases hx; rw [Below.heap_setCell _ _ _ _ hgn, Below.heap_setCell _ _ _ _ hgn, Below.heap_setCell _ _ _ _ hgn])
/-- The loop's relation. -/
def GoesR (S : St) (w : World) (behind follow : Bool) (R : (List Int × ByteArray × Int) × Int) (k : Nat) (p1 p10 p11 : Value) (wr : World) : Prop :=
  ∃ (parts : List ByteArray) (chain : List Int) (fol : Nat), PS wr p1 parts ∧ wr.ownsRow w.heap.size 3 1 p10 chain.length (chain.map (Value.int .i64)) ∧ p11 = .int .i64 fol ∧ fol ≤ 8 ∧ k = parts.length + 33 * (8 - fol) ∧
    goesR S behind follow parts chain fol = R ∧ chain ≠ [] ∧ (∀ i ∈ chain, i ∈ S.keys ∧ (S.nd i).kind = 2) ∧ chain.length + parts.length ≤ 33 + 32 * fol ∧
    Blk wr w.heap.size #[.slice none 0 0, .string ⟨#[]⟩, .int .i64 0] 201 ∧ Keeps (fun _ => False) w wr

set_option maxRecDepth 100000 in
set_option maxHeartbeats 4000000 in
theorem goes_any {w : World} {S : St} (h : Rep w S) (hw : S.Wf) (a0 : Option Addr) (n0 c0 : Nat) (parts0 : List ByteArray) (hp : PS w (.slice a0 n0 c0) parts0) (hpl : parts0.length ≤ 32) (behind follow : Bool) (R : (List Int × ByteArray × Int) × Int) (hR : goesR S behind follow parts0 [1] 0 = R) :
    Calls Tryz.prog 194 #[.pointer (some ⟨S.F, 0, none⟩), .slice a0 n0 c0, .bool behind, .bool follow] w fun e w' => ∃ cv, e = .returned (.tuple #[.agg #[cv, .string R.1.2.1, .int .i64 R.1.2.2], .int .i64 R.2]) ∧
      w'.ownsRow w.heap.size 3 1 cv R.1.1.length (R.1.1.map (Value.int .i64)) ∧ Keeps (fun _ => False) w w' := by
  obtain ⟨i3, hi3, hz30, hz31, hz32⟩ := info_parts Tryz.info3
  obtain ⟨i9, hi9, hz90, hz91, hz92⟩ := info_parts Tryz.info9
  have HR0 := Lib.hid hR
  clear hR
  go_enter Tryz.func194, Tryz.ntmps194
  go_wp2_with fail
  go_loopg [1, 10, 11] (parts0.length + 33 * 8) (fun k p1 p10 p11 wr => GoesR S w behind follow R k p1 p10 p11 wr)
  case atStart =>
    refine ⟨parts0, [1], 0, (hp.keeps (((Keeps.refl (fun _ => False) w).alloc _).alloc _) (fun _ _ _ x => x)), ?_, rfl, by omega, rfl, HR0.out, by simp, ?_, by simp; omega, (Blk.new' rfl _ _).alloc _, ((Keeps.refl _ _).alloc _).alloc _⟩
    · exact own_new3 w
    · intro i hi
      simp only [List.mem_singleton] at hi
      subst hi
      exact hw.root
  case round =>
    obtain ⟨parts, chain, fol, hps, hrow, rfl, hfol, hgk, hgo, hne, hch, hlen, hb8, hK⟩ := hrel
    have HA := Lib.hid hgk
    have HG := Lib.hid hgo
    clear hgk hgo
    have hRep := h.keeps hK (fun _ _ x => x)
    -- the row
    obtain ⟨m, hm⟩ : ∃ m, chain.length = m + 1 := ⟨chain.length - 1, by have := List.length_pos_iff.2 hne; omega⟩
    rw [hm] at hrow
    obtain ⟨g, cc, hv, hgB, hgl, hgc, hcm, hcells⟩ := ownsRow_cells2 hrow (by omega)
    have hlast : wr.cell? ⟨g, m, none⟩ = some (.int .i64 (lastI chain)) := by
      rw [hcells m (by simp; omega)]
      simp only [List.getElem?_map]
      rw [lastI, List.getLastD_eq_getLast?, List.getLast?_eq_getElem?, hm]
      simp only [Nat.add_sub_cancel]
      cases hc : chain[m]? with
      | none => rw [List.getElem?_eq_none_iff] at hc; omega
      | some x => rfl
    have hgn : ¬ g = w.heap.size := fun e => by
      obtain ⟨_, cur, hc⟩ := ownsRow_base hrow (by rw [hv]; rfl)
      rw [e, show wr.heap[w.heap.size]? = _ from hb8] at hc
      simp at hc
    subst hv
    have hm2 : m ≤ 1000 := by omega
    have HC := Lib.hid hcells
    have HM := Lib.hid hm
    clear hcells hm
    obtain ⟨d, hd⟩ : ∃ d, lastI chain = d := ⟨_, rfl⟩
    have hdk : d ∈ S.keys ∧ (S.nd d).kind = 2 := hch d (by rw [← hd, lastI, List.getLastD_eq_getLast?, List.getLast?_eq_getElem?, HM.out, Nat.add_sub_cancel, List.getElem?_eq_getElem (by rw [HM.out]; omega)]; simp)
    rw [hd] at hlast
    have HD := Lib.hid hd
    clear hd
    have hz8 : wr.cell? ⟨w.heap.size, 0, none⟩ = some (.slice none 0 0) := hb8.cell 0
    have hz8' : wr.cell? ⟨w.heap.size, 1, none⟩ = some (.string ⟨#[]⟩) := hb8.cell 1
    have hz8'' : wr.cell? ⟨w.heap.size, 2, none⟩ = some (.int .i64 0) := hb8.cell 2
    have hf8 : ∀ i, wr.frozen? ⟨w.heap.size, i, none⟩ = false := hb8.frz
    have hl8 := hb8.lt
    have hl8k := hb8.ltk
    cases parts with
    | nil =>
      obtain ⟨a1, c1, hp1, hpc, hpm, hpx⟩ := hps
      clear hpx
      subst hp1
      simp only [List.length_nil] at *
      go_wp2_with fail
      have hR : R = ((chain, ⟨#[]⟩, d), 0) := by rw [← HG.out, goesR, HD.out]
      have hW := ((hb8.set 0 (.slice (some ⟨g, 0, none⟩) (m + 1) cc)).set 1 (.string ⟨#[]⟩)).set 2 (.int .i64 d)
      have hKf := ((hK.setCell (p := ⟨w.heap.size, 0, none⟩) (Or.inr (Nat.le_refl _)) (.slice (some ⟨g, 0, none⟩) (m + 1) cc)).setCell (p := ⟨w.heap.size, 1, none⟩) (Or.inr (Nat.le_refl _)) (.string ⟨#[]⟩)).setCell (p := ⟨w.heap.size, 2, none⟩) (Or.inr (Nat.le_refl _)) (.int .i64 d)
      rw [hR]
      refine bodyPost_ret (results_cell2 rfl _ _ _ rfl (run_loadVar_row _ _ 201 201 _ _ _ hW Tryz.underlying201 rfl (by kernel_rfl))) rfl ⟨_, rfl, ?_, hKf⟩
      rw [HM.out]
      exact ownsRow_keep hrow (fun x hx => by cases hx; rw [Below.heap_setCell _ _ _ _ hgn, Below.heap_setCell _ _ _ _ hgn, Below.heap_setCell _ _ _ _ hgn])
    | cons c r =>
      obtain ⟨gp, off, cp, hp1, hgp, hcp, o', c', hrun, hps'⟩ := hps.tail
      subst hp1
      clear hps
      simp only [List.length_cons] at *
      have hdec : (c.toList == [46, 46]) = decide (c = dotdot) := by rw [← dd_list]; exact bytes_list c dotdot
      have hr1 : r.length + 1 ≤ 400 := by omega
      by_cases hdd : c = dotdot
      · have ht : (c.toList == [46, 46]) = true := by rw [hdec]; simpa using hdd
        have HDD := Lib.hid hdd
        clear hdec hdd
        go_wp2_with fail
        go_roundg (r.length + 33 * (8 - fol))
        case measure => rw [HA.out]; omega
        case rel =>
          have hmx : (max 1 (m : Int)).toNat = max 1 m := by omega
          have hmt : (chain.map (Value.int .i64)).take (max 1 m) = (if chain.length ≤ 1 then chain else chain.dropLast).map (Value.int .i64) := by
            rw [← List.map_take]
            congr 1
            split
            · rw [List.take_of_length_le (by omega)]
            · rw [List.dropLast_eq_take, HM.out]; congr 1; have := HM.out; omega
          have hlen2 : (if chain.length ≤ 1 then chain else chain.dropLast).length = max 1 m := by
            have := HM.out
            split
            · omega
            · rw [List.length_dropLast]; omega
          refine ⟨r, if chain.length ≤ 1 then chain else chain.dropLast, fol, hps', ?_, rfl, hfol, rfl, ?_, ?_, ?_, ?_, hb8, hK⟩
          · rw [hmx, hlen2, ← hmt]; exact ownsRow_take hrow (by omega)
          · rw [← HG.out, goesR, if_pos HDD.out]
          · exact List.length_pos_iff.1 (by omega)
          · intro i hi
            refine hch i ?_
            split at hi
            · exact hi
            · exact List.dropLast_subset _ hi
          · have := HM.out; omega
      · have ht : (c.toList == [46, 46]) = false := by rw [hdec]; simpa using hdd
        have HDD := Lib.hid hdd
        clear hdec hdd
        obtain ⟨b, L, hnm, hmem⟩ := hw.dirs d hdk.1 hdk.2
        have hNd := hRep.nds d hdk.1
        have hblk := hNd.blk
        have hc4 : wr.cell? ⟨(S.nd d).blk, 4, none⟩ = some (.map (some b)) := by rw [hblk.cell]; simp [Nd.cells, hnm]
        have hbl := hblk.lt
        have hlk := names_ok hNd hnm c
        have hat : ∀ W, Rep W S → Calls Tryz.prog 121 #[.pointer (some ⟨S.F, 0, none⟩), .int .i64 d] W fun e w' => e = .returned (.pointer (some ⟨(S.nd d).blk, 0, none⟩)) ∧ W = w' := fun W hW => (at_any hW d).mono (by rintro e w' ⟨rfl, rfl⟩; simp only [hdk.1, if_true]; exact ⟨rfl, trivial⟩)
        have HAt := Lib.hid hat
        obtain ⟨N, hN⟩ : ∃ N, (S.nd d).blk = N := ⟨_, rfl⟩
        rw [hN] at hc4 hbl
        have HN := Lib.hid hN
        clear hat hblk hN
        cases hl : L.lookup c with
        | none =>
          simp only [hl, Option.getD_none, Option.isSome_none] at hlk
          have HL := Lib.hid hl
          clear hl
          go_wp2_with (first | (go_at_call 121; refine (HAt.out _ hRep).mono ?_; rintro e w' ⟨rfl, rfl⟩; rw [HN.out]) | fail)
          refine goes_err hb8 hK ?_ _ rfl rfl
          have h1 : (S.nd d).names.lookup c = none := by rw [Nd.names, hnm]; exact HL.out
          rw [← HG.out, goesR, if_neg HDD.out, HD.out, h1]
        | some n =>
          simp only [hl, Option.getD_some, Option.isSome_some] at hlk
          have HL := Lib.hid hl
          clear hl
          go_upto_region 10 with (first | (go_at_call 121; refine (HAt.out _ hRep).mono ?_; rintro e w' ⟨rfl, rfl⟩; rw [HN.out]) | fail)
          go_cut [15] (fun v wx => v = .bool (behind || decide (0 < r.length)) ∧ wx = wr)
          case first =>
            cases behind with
            | true =>
              go_wp2_with fail
              go_meet
              exact ⟨by simp, rfl⟩
            | false =>
              go_wp2_with fail
              go_meet
              exact ⟨by simp, rfl⟩
          case rest =>
            obtain ⟨rfl, rfl⟩ := hcut
            obtain ⟨left, hleft⟩ : ∃ left, (behind || decide (0 < r.length)) = left := ⟨_, rfl⟩
            have hleft2 : (behind = true ∨ r ≠ []) ↔ left = true := by rw [← hleft, Bool.or_eq_true, decide_eq_true_eq, List.length_pos_iff]
            rw [hleft]
            have HLe := Lib.hid hleft2
            clear hleft hleft2
            have hnk : n ∈ S.keys := hmem _ (lookup_mem HL.out)
            have HG2 : Hid (_ = R) := Lib.hid (show (if (S.nd n).kind = 2 ∧ left = true then goesR S behind follow r (chain ++ [n]) fol else
                if (S.nd n).kind = 3 ∧ (left = true ∨ follow = true) then
                  if h8 : 8 ≤ fol then (([], ⟨#[]⟩, 0), 162) else
                  if (textR (S.nd n).text).2.2 ≠ 0 then (([], ⟨#[]⟩, 0), (textR (S.nd n).text).2.2) else
                  goesR S behind follow ((textR (S.nd n).text).1 ++ r) (if (textR (S.nd n).text).2.1 = true then [1] else chain) (fol + 1)
                else if left = true then (([], ⟨#[]⟩, 0), 161) else ((chain, c, n), 0)) = R by
              have h1 : (S.nd d).names.lookup c = some n := by rw [Nd.names, hnm]; exact HL.out
              rw [← HG.out, goesR, if_neg HDD.out, HD.out, h1]
              simp only [HLe.out])
            have hNd2 := hRep.nds n hnk
            have hblk2 := hNd2.blk
            obtain ⟨N2, hN2⟩ : ∃ N, (S.nd n).blk = N := ⟨_, rfl⟩
            obtain ⟨k2, hk2⟩ : ∃ k, (S.nd n).kind = k := ⟨_, rfl⟩
            have hc0 : wc.cell? ⟨N2, 0, none⟩ = some (.int .i64 k2) := by rw [← hN2, hblk2.cell]; simp [Nd.cells, hk2]
            have hc6 : wc.cell? ⟨N2, 6, none⟩ = some (.string (S.nd n).text) := by rw [← hN2, hblk2.cell]; simp [Nd.cells]
            have hbl2 : N2 < wc.heap.size := hN2 ▸ hblk2.lt
            have HN2 := Lib.hid hN2
            have HK2 := Lib.hid hk2
            clear hN2 hk2 hblk2 hlk hc4 hcp hrun hbl
            have hat2 : ∀ W, Rep W S → Calls Tryz.prog 121 #[.pointer (some ⟨S.F, 0, none⟩), .int .i64 n] W fun e w' => e = .returned (.pointer (some ⟨N2, 0, none⟩)) ∧ W = w' := fun W hW => (at_any hW n).mono (by rintro e w' ⟨rfl, rfl⟩; simp only [hnk, if_true, ndPtr, HN2.out]; exact ⟨trivial, trivial⟩)
            have HAt2 := Lib.hid hat2
            clear hat2
            by_cases hlink : k2 = 3 ∧ (left = true ∨ follow = true)
            · obtain ⟨rfl, hlf0⟩ := hlink
              have HG3 : Hid (_ = R) := Lib.hid (show (if h8 : 8 ≤ fol then (([], ⟨#[]⟩, 0), 162) else
                  if (textR (S.nd n).text).2.2 ≠ 0 then (([], ⟨#[]⟩, 0), (textR (S.nd n).text).2.2) else
                  goesR S behind follow ((textR (S.nd n).text).1 ++ r) (if (textR (S.nd n).text).2.1 = true then [1] else chain) (fol + 1)) = R by
                have e := HG2.out
                rw [if_neg (show ¬ ((S.nd n).kind = 2 ∧ left = true) from fun h => by have h2 := h.1; rw [HK2.out] at h2; cases h2), if_pos ⟨HK2.out, hlf0⟩] at e
                exact e)
              clear HG2
              have hlf : left = true ∨ (left = false ∧ follow = true) := by
                cases left with
                | true => exact Or.inl rfl
                | false => exact Or.inr ⟨rfl, hlf0.resolve_left (by simp)⟩
              clear hlf0
              have hts : (S.nd n).text.size ≤ 1024 := by
                rcases (hw.nds n hnk).kind with ⟨h1, _⟩ | ⟨h1, _⟩ | ⟨_, h1⟩
                · rw [HK2.out] at h1; cases h1
                · rw [HK2.out] at h1; cases h1
                · exact h1
              rcases hlf with rfl | ⟨rfl, rfl⟩
              all_goals by_cases hf9 : 8 ≤ fol
              iterate 2
                · go_wp2_with (first | (go_at_call 121; refine (HAt2.out _ hRep).mono ?_; rintro e w' ⟨rfl, rfl⟩) | (go_at_call 129; refine (isDir_any _ _ _ hc0).mono ?_; rintro e w' ⟨rfl, rfl⟩) | fail)
                  refine goes_err hb8 hK ?_ _ rfl rfl
                  rw [← HG3.out, dif_pos hf9]
                · go_wp2_with (first | (go_at_call 121; refine (HAt2.out _ hRep).mono ?_; rintro e w' ⟨rfl, rfl⟩) | (go_at_call 129; refine (isDir_any _ _ _ hc0).mono ?_; rintro e w' ⟨rfl, rfl⟩) | fail)
                  refine (Text_any _ (by omega) _).mono ?_
                  rintro e w2 ⟨v, rfl, hns, hkT⟩
                  have htl := textR_len (S.nd n).text
                  obtain ⟨T, hT⟩ : ∃ T, textR (S.nd n).text = T := ⟨_, rfl⟩
                  rw [hT] at hns htl
                  simp only [hT]
                  have HG4 : Hid (_ = R) := Lib.hid (show (if T.2.2 ≠ 0 then (([], ⟨#[]⟩, 0), T.2.2) else goesR S behind _ (T.1 ++ r) (if T.2.1 = true then [1] else chain) (fol + 1)) = R by
                    rw [← HG3.out, dif_neg hf9, hT])
                  clear HG3
                  obtain ⟨more, root, err⟩ := T
                  simp only at hns htl ⊢
                  have hns' : w2.ownsRow wc.heap.size 9 1 v more.length (more.map Value.string) := hns
                  clear hns
                  obtain ⟨av, cv, hv⟩ := ownsRow_form hns'
                  subst hv
                  have hK2 := hK.then hkT
                  have hb82 := hb8.keeps hkT (fun x => x)
                  have hz8 : w2.cell? ⟨w.heap.size, 0, none⟩ = some (.slice none 0 0) := hb82.cell 0
                  have hz8' : w2.cell? ⟨w.heap.size, 1, none⟩ = some (.string ⟨#[]⟩) := hb82.cell 1
                  have hz8'' : w2.cell? ⟨w.heap.size, 2, none⟩ = some (.int .i64 0) := hb82.cell 2
                  have hf8 : ∀ i, w2.frozen? ⟨w.heap.size, i, none⟩ = false := hb82.frz
                  have hl8 := hb82.lt
                  have hl8k := hb82.ltk
                  by_cases he : err = 0
                  · subst he
                    have hps2 := hps'.keeps hkT (fun _ _ _ x => x)
                    have hsz2 : wc.heap.size ≤ w2.heap.size := hkT.size
                    go_wp2_with (first |
                      (at_builtin; refine wpList_append_own_at _ rfl _ _ 45 rfl wc.heap.size 9 i9 (.string ⟨#[]⟩) 1 16 Tryz.underlying45 hi9 hz90 hz91 hz92 rfl (by decide) _ _ _ rfl hns' ⟨gp, o', none⟩ r.length c' (r.map Value.string) rfl (by simp) hps2.cells (by simp [Value.oneCell']) (by simp only [maxLen]; omega) (by omega) hsz2 ?_) | fail)
                    intro v1 w3 hown1 hg1 _ _
                    have hkA : Keeps (fun _ => False) wc w3 := hkT.grown hg1 (fun k e => Or.inr (hns'.lt k e).1)
                    obtain ⟨a3, c3, hv3⟩ := ownsRow_form hown1
                    subst hv3
                    have hKA := hK.then hkA
                    have hps3 : PS w3 (.slice a3 (more.length + r.length) c3) (more ++ r) := ownsRow_ps (by rw [List.length_append, List.map_append]; exact hown1)
                    have hb83 := hb8.keeps hkA (fun x => x)
                    have hrow3 : w3.ownsRow w.heap.size 3 1 (.slice (some ⟨g, 0, none⟩) (m + 1) cc) (m + 1) (chain.map (Value.int .i64)) := ownsRow_keep hrow (fun k e => hkA.block k (hrow.lt k e).2 (fun x => x))
                    have hsz3 := hKA.size
                    clear hg1 hkT hsz2
                    cases root with
                    | true =>
                      go_wp2_with fail
                      go_roundg ((more ++ r).length + 33 * (8 - (fol + 1)))
                      case measure => rw [HA.out, List.length_append]; omega
                      case rel =>
                        refine ⟨more ++ r, [1], fol + 1, hps3.keeps ((Keeps.refl (fun _ => False) _).alloc _) (fun _ _ _ x => x), own_one w3 hsz3, by simp, by omega, rfl, ?_, by simp, ?_, ?_, hb83.alloc _, hKA.alloc _⟩
                        · rw [← HG4.out, if_neg (by simp)]; rfl
                        · intro i hi
                          simp only [List.mem_singleton] at hi
                          subst hi
                          exact hw.root
                        · have := HM.out
                          simp only [List.length_append, List.length_cons, List.length_nil]; omega
                    | false =>
                      go_wp2_with fail
                      go_roundg ((more ++ r).length + 33 * (8 - (fol + 1)))
                      case measure => rw [HA.out, List.length_append]; omega
                      case rel =>
                        refine ⟨more ++ r, chain, fol + 1, hps3, by rw [HM.out]; exact hrow3, by simp, by omega, rfl, ?_, hne, hch, ?_, hb83, hKA⟩
                        · rw [← HG4.out, if_neg (by simp), if_neg (by simp)]
                        · have := HM.out
                          simp only [List.length_append]; omega
                  · go_wp2_with fail
                    refine goes_err hb82 hK2 ?_ _ rfl rfl
                    rw [← HG4.out, if_pos he]
            · have hno : ¬ ((S.nd n).kind = 3 ∧ (left = true ∨ follow = true)) := fun h => hlink ⟨HK2.out.symm.trans h.1, h.2⟩
              have HNo := Lib.hid hno
              clear hno
              cases left with
              | true =>
                by_cases hk : k2 = 2
                · subst hk
                  clear hlink
                  have hwsz := hK.size
                  go_wp2_with (first | (go_at_call 121; refine (HAt2.out _ hRep).mono ?_; rintro e w' ⟨rfl, rfl⟩) | (go_at_call 129; refine (isDir_any _ _ _ hc0).mono ?_; rintro e w' ⟨rfl, rfl⟩) |
                    (at_builtin; refine wpList_append_own_at _ rfl _ _ 53 rfl w.heap.size 3 i3 (.int .i64 0) 1 8 Tryz.underlying53 hi3 hz30 hz31 hz32 rfl (by decide) _ _ _ rfl (hrow.alloc _) ⟨wc.heap.size, 0, none⟩ 1 1 [.int .i64 n] rfl rfl (cell_one_new _ _ _) (by simp [Value.oneCell']) (by simp only [maxLen]; omega) (by omega) (by simp; omega) ?_) | fail)
                  intro v' w1 hown1 hg1 _ hsame
                  have hst := goes_step hps' hb8 hrow hgn hown1 hg1 hsame hK
                  obtain ⟨a9, c9, hv9, hps1, hb81, hK1⟩ := hst
                  rw [hv9]
                  rw [hv9] at hown1
                  clear hsame hg1 hv9
                  go_wp2_with fail
                  go_roundg (r.length + 33 * (8 - fol))
                  case measure => rw [HA.out]; omega
                  case rel =>
                    have hlc : (chain ++ [n]).length = m + 1 + 1 := by rw [List.length_append, HM.out]; rfl
                    refine ⟨r, chain ++ [n], fol, hps1, ?_, rfl, hfol, rfl, ?_, by simp, ?_, (by have := HM.out; omega), hb81, hK1⟩
                    · rw [hlc, List.map_append]; exact hown1
                    · rw [← HG2.out, if_pos ⟨HK2.out, trivial⟩]
                    · intro i hi
                      rcases List.mem_append.1 hi with hi | hi
                      · exact hch i hi
                      · simp only [List.mem_singleton] at hi; subst hi; exact ⟨hnk, HK2.out⟩
                · have hk3 : ¬ k2 = 3 := fun h => hlink ⟨h, Or.inl rfl⟩
                  clear hlink
                  go_wp2_with (first | (go_at_call 121; refine (HAt2.out _ hRep).mono ?_; rintro e w' ⟨rfl, rfl⟩) | (go_at_call 129; refine (isDir_any _ _ _ hc0).mono ?_; rintro e w' ⟨rfl, rfl⟩) | fail)
                  refine goes_err hb8 hK ?_ _ rfl rfl
                  rw [← HG2.out, if_neg (fun h => hk (HK2.out.symm.trans h.1)), if_neg HNo.out]
                  rfl
              | false =>
                have hR2 : R = ((chain, c, n), 0) := by
                  rw [← HG2.out, if_neg (by simp), if_neg HNo.out, if_neg (by simp)]
                have HR2 := Lib.hid hR2
                clear hR2
                by_cases hk3 : k2 = 3
                · have hff : follow = false := by
                    cases follow with
                    | false => rfl
                    | true => exact absurd ⟨hk3, Or.inr rfl⟩ hlink
                  subst hk3
                  subst hff
                  clear hlink
                  go_wp2_with (first | (go_at_call 121; refine (HAt2.out _ hRep).mono ?_; rintro e w' ⟨rfl, rfl⟩) | (go_at_call 129; refine (isDir_any _ _ _ hc0).mono ?_; rintro e w' ⟨rfl, rfl⟩) | fail)
                  exact goes_found hb8 hK HR2.out hrow HM.out hgn _ rfl rfl
                · clear hlink
                  go_wp2_with (first | (go_at_call 121; refine (HAt2.out _ hRep).mono ?_; rintro e w' ⟨rfl, rfl⟩) | (go_at_call 129; refine (isDir_any _ _ _ hc0).mono ?_; rintro e w' ⟨rfl, rfl⟩) | fail)
                  all_goals exact goes_found hb8 hK HR2.out hrow HM.out hgn _ rfl rfl
end Go.Proofs.YtdafneilalompaaGreatDoor
