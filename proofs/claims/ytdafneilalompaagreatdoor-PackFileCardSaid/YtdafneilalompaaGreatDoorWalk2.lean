/- Where a path leads: to and name. Conditions: those that each theorem names. -/
import Derived.Test.YtdafneilalompaaGreatDoorWalk1
namespace Go.Proofs.YtdafneilalompaaGreatDoor
open Go Go.RowKit
open Go.ChangeMaps (setBlock)

/-- What holds of where a walk leads. -/
structure PlaceOk (S : St) (p : List Int × ByteArray × Int) : Prop where
  ne : p.1 ≠ []
  dirs : ∀ i ∈ p.1, i ∈ S.keys ∧ (S.nd i).kind = 2
  len : p.1.length ≤ 1000
theorem lastI_mem {l : List Int} (h : l ≠ []) : lastI l ∈ l := by
  rw [lastI, List.getLastD_eq_getLast?, List.getLast?_eq_some_getLast h]
  exact List.getLast_mem h

theorem goesR_ok {S : St} (hw : S.Wf) (behind follow : Bool) (parts : List ByteArray) (chain : List Int) (fol : Nat) (hne : chain ≠ []) (hch : ∀ i ∈ chain, i ∈ S.keys ∧ (S.nd i).kind = 2)
    (h : (goesR S behind follow parts chain fol).2 = 0) (hl : chain.length + parts.length + 33 * (8 - fol) ≤ 1000) :
    PlaceOk S (goesR S behind follow parts chain fol).1 ∧ (goesR S behind follow parts chain fol).1.2.2 ∈ S.keys := by
  fun_induction goesR S behind follow parts chain fol with
  | case1 chain fol => exact ⟨⟨hne, hch, by simp at hl ⊢; omega⟩, (hch _ (lastI_mem hne)).1⟩
  | case2 chain fol r ih =>
    refine ih ?_ ?_ h ?_
    · split
      · exact hne
      · rename_i h2; intro e; have := congrArg List.length e; simp at this; omega
    · intro i hi
      split at hi
      · exact hch i hi
      · exact hch i (List.dropLast_subset _ hi)
    · simp only [List.length_cons] at hl
      split
      · omega
      · rw [List.length_dropLast]; omega
  | case3 => cases h
  | case4 chain fol c r hc m hm hk ih =>
    refine ih (by simp) ?_ h (by simp at hl ⊢; omega)
    intro i hi
    rcases List.mem_append.1 hi with hi | hi
    · exact hch i hi
    · simp only [List.mem_singleton] at hi
      subst hi
      have hd := hch _ (lastI_mem hne)
      obtain ⟨b, L, hn, hmem⟩ := hw.dirs _ hd.1 hd.2
      simp only [Nd.names, hn] at hm
      exact ⟨hmem _ (lookup_mem hm), hk.1⟩
  | case5 => cases h
  | case6 chain fol c r hc m hm hk hk2 h8 he => exact absurd h he
  | case7 chain fol c r hc m hm hk hk2 h8 he ih =>
    have htl := textR_len (S.nd m).text
    refine ih ?_ ?_ h ?_
    · split
      · simp
      · exact hne
    · intro i hi
      split at hi
      · simp only [List.mem_singleton] at hi; subst hi; exact hw.root
      · exact hch i hi
    · have : 0 < chain.length := List.length_pos_iff.2 hne
      simp only [List.length_append, List.length_cons] at hl ⊢
      split
      · simp; omega
      · omega
  | case8 => cases h
  | case9 chain fol c r hc m hm hk hk2 hk3 =>
    have hd := hch _ (lastI_mem hne)
    obtain ⟨b, L, hn, hmem⟩ := hw.dirs _ hd.1 hd.2
    simp only [Nd.names, hn] at hm
    exact ⟨⟨hne, hch, by simp only [List.length_cons] at hl; show chain.length ≤ 1000; omega⟩, hmem _ (lookup_mem hm)⟩

/-- What to answers. -/
def toR (S : St) (s : ByteArray) (follow : Bool) : (List Int × ByteArray × Int) × Int :=
  if (parseR s).2 ≠ 0 then (([], ⟨#[]⟩, 0), (parseR s).2) else goesR S false follow (parseR s).1 [1] 0
theorem toR_ok {S : St} (hw : S.Wf) (s : ByteArray) (follow : Bool) (h : (toR S s follow).2 = 0) : PlaceOk S (toR S s follow).1 ∧ (toR S s follow).1.2.2 ∈ S.keys := by
  unfold toR at h ⊢
  split at h
  · rename_i h2; exact absurd h h2
  · rename_i h2
    rw [if_neg h2]
    have := parseR_len s
    refine goesR_ok hw _ _ _ _ _ (by simp) (fun i hi => ?_) h (by simp; omega)
    simp only [List.mem_singleton] at hi; subst hi; exact hw.root
/-- A place in memory. -/
def PlaceV (w w' : World) (v : Value) (p : List Int × ByteArray × Int) : Prop :=
  ∃ cv, v = .agg #[cv, .string p.2.1, .int .i64 p.2.2] ∧ w'.ownsRow w.heap.size 3 1 cv p.1.length (p.1.map (Value.int .i64))

set_option maxRecDepth 100000 in
set_option maxHeartbeats 1000000 in
theorem to_any {w : World} {S : St} (h : Rep w S) (hw : S.Wf) (s : ByteArray) (hs : s.size ≤ 9000000000000000000) (follow : Bool) (R : (List Int × ByteArray × Int) × Int) (hR : toR S s follow = R) :
    Calls Tryz.prog 141 #[.pointer (some ⟨S.F, 0, none⟩), .string s, .bool follow] w fun e w' => ∃ v, e = .returned (.tuple #[v, .int .i64 R.2]) ∧ PlaceV w w' v R.1 ∧ Keeps (fun _ => False) w w' := by
  have HR := Lib.hid hR
  clear hR
  go_enter Tryz.func141, Tryz.ntmps141
  go_wp2_with fail
  refine (Parse_any s hs _).mono ?_
  rintro e w1 ⟨v, rfl, hns, hk1⟩
  have hb := (Blk.new w #[.slice none 0 0, .string ⟨#[]⟩, .int .i64 0] 201).keeps hk1 (fun x => x)
  have hK1 : Keeps (fun _ => False) w w1 := ((Keeps.refl _ _).alloc _).then hk1
  have hps := hns.ps
  have hlen := parseR_len s
  obtain ⟨a, c, hv⟩ := ownsRow_form (show w1.ownsRow _ 9 1 v _ _ from hns)
  have hc0 := hb.cell
  have hc1 : w1.cell? ⟨w.heap.size, 0, none⟩ = some (.slice none 0 0) := hc0 0
  have hc2 : w1.cell? ⟨w.heap.size, 1, none⟩ = some (.string ⟨#[]⟩) := hc0 1
  have hc3 : w1.cell? ⟨w.heap.size, 2, none⟩ = some (.int .i64 0) := hc0 2
  have hf := hb.frz
  have hlt := hb.lt
  clear hc0 hns hk1
  by_cases he : (parseR s).2 = 0
  · rw [he]
    rw [hv] at hps ⊢
    have HR2 := Lib.hid (show goesR S false follow (parseR s).1 [1] 0 = R by rw [← HR.out, toR, if_neg (by simp [he])])
    clear he hv
    go_wp2_with fail
    refine (goes_any (h.keeps hK1 (fun _ _ x => x)) hw a _ c _ hps hlen false follow R HR2.out).mono ?_
    rintro e w2 ⟨cv, rfl, hrow, hk2⟩
    have hb2 := hb.keeps hk2 (fun x => x)
    have hc0 := hb2.cell
    have hc1 : w2.cell? ⟨w.heap.size, 0, none⟩ = some (.slice none 0 0) := hc0 0
    have hc2 : w2.cell? ⟨w.heap.size, 1, none⟩ = some (.string ⟨#[]⟩) := hc0 1
    have hc3 : w2.cell? ⟨w.heap.size, 2, none⟩ = some (.int .i64 0) := hc0 2
    have hf := hb2.frz
    have hlt := hb2.lt
    have hK2 := hK1.then hk2
    have hsz := hK1.size
    have hrow2 := ownsRow_rebase (B' := w.heap.size) hrow (fun g e => Nat.le_trans hsz (ownsRow_base hrow e).1)
    have hgn : ∀ g, cv.ownBlock = some g → g ≠ w.heap.size := fun g e e2 => by
      obtain ⟨_, cur, hc⟩ := ownsRow_base hrow e
      rw [e2, show w2.heap[w.heap.size]? = _ from hb2] at hc
      simp at hc
    obtain ⟨a3, c3, hcv⟩ := ownsRow_form hrow
    subst hcv
    clear hc0 hrow hk2
    go_wp2_with fail
    have hW := ((hb2.set 0 (.slice a3 R.1.1.length c3)).set 1 (.string R.1.2.1)).set 2 (.int .i64 R.1.2.2)
    have hKf := ((hK2.setCell (p := ⟨w.heap.size, 0, none⟩) (Or.inr (Nat.le_refl _)) (.slice a3 R.1.1.length c3)).setCell (p := ⟨w.heap.size, 1, none⟩) (Or.inr (Nat.le_refl _)) (.string R.1.2.1)).setCell (p := ⟨w.heap.size, 2, none⟩) (Or.inr (Nat.le_refl _)) (.int .i64 R.1.2.2)
    refine bodyPost_ret (results_cell2 rfl _ _ _ rfl (run_loadVar_row _ _ 201 201 _ _ _ hW Tryz.underlying201 rfl (by kernel_rfl))) rfl ⟨_, rfl, ⟨_, rfl, ?_⟩, hKf⟩
    exact ownsRow_keep hrow2 (fun x hx => by rw [Below.heap_setCell _ _ _ _ (hgn x hx), Below.heap_setCell _ _ _ _ (hgn x hx), Below.heap_setCell _ _ _ _ (hgn x hx)])
  · have HR2 := Lib.hid (show R = (([], ⟨#[]⟩, 0), (parseR s).2) by rw [← HR.out, toR, if_pos he])
    rw [hv]
    clear hv
    go_wp2_with fail
    have hW := ((hb.set 0 (.slice none 0 0)).set 1 (.string ⟨#[]⟩)).set 2 (.int .i64 0)
    have hKf := ((hK1.setCell (p := ⟨w.heap.size, 0, none⟩) (Or.inr (Nat.le_refl _)) (.slice none 0 0)).setCell (p := ⟨w.heap.size, 1, none⟩) (Or.inr (Nat.le_refl _)) (.string ⟨#[]⟩)).setCell (p := ⟨w.heap.size, 2, none⟩) (Or.inr (Nat.le_refl _)) (.int .i64 0)
    rw [HR2.out]
    exact bodyPost_ret (results_cell2 rfl _ _ _ rfl (run_loadVar_row _ _ 201 201 _ _ _ hW Tryz.underlying201 rfl (by kernel_rfl))) rfl ⟨_, rfl, ⟨_, rfl, ⟨rfl, Or.inl ⟨rfl, rfl⟩⟩⟩, hKf⟩

/-- What name answers. -/
def nameR (S : St) (s : ByteArray) : (List Int × ByteArray × Int) × Int :=
  if (makeR s).2.2 ≠ 0 then (([], ⟨#[]⟩, 0), (makeR s).2.2) else
  if (makeR s).2.1 = ⟨#[]⟩ then (([1], ⟨#[]⟩, 1), 0) else
  if (goesR S true true (makeR s).1 [1] 0).2 ≠ 0 then (([], ⟨#[]⟩, 0), (goesR S true true (makeR s).1 [1] 0).2) else
  (((goesR S true true (makeR s).1 [1] 0).1.1, (makeR s).2.1, ((S.nd (lastI (goesR S true true (makeR s).1 [1] 0).1.1)).names.lookup (makeR s).2.1).getD 0), 0)
theorem nameR_ok {S : St} (hw : S.Wf) (s : ByteArray) (h : (nameR S s).2 = 0) : PlaceOk S (nameR S s).1 := by
  have hone : ∀ i ∈ [(1 : Int)], i ∈ S.keys ∧ (S.nd i).kind = 2 := fun i hi => by
    simp only [List.mem_singleton] at hi; subst hi; exact hw.root
  unfold nameR at h ⊢
  split at h
  · rename_i h2; exact absurd h h2
  · rename_i h2
    rw [if_neg h2]
    split at h
    · rename_i h3
      rw [if_pos h3]
      exact ⟨by simp, hone, by simp⟩
    · rename_i h3
      rw [if_neg h3]
      split at h
      · rename_i h4; exact absurd h h4
      · rename_i h4
        rw [if_neg h4]
        have := makeR_len s
        have := (goesR_ok hw true true (makeR s).1 [1] 0 (by simp) hone (by simpa using h4) (by simp; omega)).1
        exact ⟨this.ne, this.dirs, this.len⟩
theorem names_one {w : World} {own : Nat → Option (Nat × Int)} {i : Int} {x : Nd} (h : NdAt w own i x) {b : Nat} {L : List (ByteArray × Int)} (hp : x.nms = some (b, L)) (c : ByteArray) (W : World) (hW : ob W b = ob w b) :
    (Instr.lookup 108 (.map (some b)) (.string c) false).run Tryz.prog W = .ok (.int .i64 ((L.lookup c).getD 0)) W := by
  have := (h.nms b L hp).1.lookup_one kStr (t := 108) Tryz.underlying108 zero3 c W hW
  rw [lookup_map] at this
  cases hl : L.lookup c with
  | none => rw [hl] at this; exact this
  | some v => rw [hl] at this; exact this
theorem empty_list (s : ByteArray) : s.toList.isEmpty = decide (s = ⟨#[]⟩) := by
  rw [Bool.eq_iff_iff]
  simp only [List.isEmpty_iff, decide_eq_true_eq]
  constructor
  · intro h
    rw [ByteArray.toList_eq] at h
    cases s with | mk d => simp at h; simp [h]
  · rintro rfl; rw [ByteArray.toList_eq]

set_option maxRecDepth 100000 in
set_option maxHeartbeats 1000000 in
theorem name_any {w : World} {S : St} (h : Rep w S) (hw : S.Wf) (s : ByteArray) (hs : s.size ≤ 9000000000000000000) (R : (List Int × ByteArray × Int) × Int) (hR : nameR S s = R) :
    Calls Tryz.prog 127 #[.pointer (some ⟨S.F, 0, none⟩), .string s] w fun e w' => ∃ v, e = .returned (.tuple #[v, .int .i64 R.2]) ∧ PlaceV w w' v R.1 ∧ Keeps (fun _ => False) w w' := by
  have HR := Lib.hid hR
  clear hR
  go_enter Tryz.func127, Tryz.ntmps127
  go_wp2_with fail
  refine (Make_any s hs _).mono ?_
  rintro e w1 ⟨v, rfl, hk1, hps⟩
  have hb := (Blk.new w #[.slice none 0 0, .string ⟨#[]⟩, .int .i64 0] 201).keeps hk1 (fun x => x)
  have hK1 : Keeps (fun _ => False) w w1 := ((Keeps.refl _ _).alloc _).then hk1
  have hlen := makeR_len s
  have hc0 := hb.cell
  have hc1 : w1.cell? ⟨w.heap.size, 0, none⟩ = some (.slice none 0 0) := hc0 0
  have hc2 : w1.cell? ⟨w.heap.size, 1, none⟩ = some (.string ⟨#[]⟩) := hc0 1
  have hc3 : w1.cell? ⟨w.heap.size, 2, none⟩ = some (.int .i64 0) := hc0 2
  have hf := hb.frz
  have hlt := hb.lt
  have hltk := hb.ltk
  have hsz := hK1.size
  clear hc0 hk1
  obtain ⟨T, hT⟩ : ∃ T, makeR s = T := ⟨_, rfl⟩
  rw [hT] at hps hlen
  have HT := Lib.hid hT
  simp only [hT]
  clear hT
  obtain ⟨parts, nm, err⟩ := T
  simp only at hps hlen ⊢
  by_cases he : err = 0
  · subst he
    have hnil := empty_list nm
    by_cases hn : nm = ⟨#[]⟩
    · subst hn
      have hne : (⟨#[]⟩ : ByteArray).toList.isEmpty = true := by rw [hnil]; rfl
      clear hnil
      obtain ⟨a, c, hv, _⟩ := id hps
      rw [hv]
      clear hv
      go_wp2_with fail
      have hW := (((hb.set 0 (.slice (some ⟨w1.heap.size, 0, none⟩) 1 1)).set 1 (.string ⟨#[]⟩)).set 2 (.int .i64 1)).alloc (.cells #[.int .i64 1] 3)
      have hKf := (((hK1.setCell (p := ⟨w.heap.size, 0, none⟩) (Or.inr (Nat.le_refl _)) (.slice (some ⟨w1.heap.size, 0, none⟩) 1 1)).setCell (p := ⟨w.heap.size, 1, none⟩) (Or.inr (Nat.le_refl _)) (.string ⟨#[]⟩)).setCell (p := ⟨w.heap.size, 2, none⟩) (Or.inr (Nat.le_refl _)) (.int .i64 1)).alloc (.cells #[.int .i64 1] 3)
      have hR2 : R = (([1], ⟨#[]⟩, 1), 0) := by rw [← HR.out, nameR, HT.out, if_neg (by simp), if_pos rfl]
      rw [hR2]
      refine bodyPost_ret (results_cell2 rfl _ _ _ rfl (run_loadVar_row _ _ 201 201 _ _ _ hW Tryz.underlying201 rfl (by kernel_rfl))) rfl ⟨_, rfl, ⟨_, rfl, ?_⟩, hKf⟩
      have := own_one (((w1.setCell ⟨w.heap.size, 0, none⟩ (.slice (some ⟨w1.heap.size, 0, none⟩) 1 1)).setCell ⟨w.heap.size, 1, none⟩ (.string ⟨#[]⟩)).setCell ⟨w.heap.size, 2, none⟩ (.int .i64 1)) (B := w.heap.size) (by simpa using hsz)
      simp only [World.size_setCell] at this
      exact this
    · have hne : nm.toList.isEmpty = false := by rw [hnil]; simpa using hn
      clear hnil
      obtain ⟨a, c, hv, _⟩ := id hps
      rw [hv] at hps ⊢
      clear hv
      obtain ⟨G, hG⟩ : ∃ G, goesR S true true parts [1] 0 = G := ⟨_, rfl⟩
      have HN := Lib.hid hn
      clear hn
      go_wp2_with fail
      refine (goes_any (h.keeps hK1 (fun _ _ x => x)) hw a _ c _ hps hlen true true G hG).mono ?_
      rintro e w2 ⟨cv, rfl, hrow, hk2⟩
      have HG := Lib.hid hG
      clear hG
      have hb2 := hb.keeps hk2 (fun x => x)
      have hc0 := hb2.cell
      have hc1 : w2.cell? ⟨w.heap.size, 0, none⟩ = some (.slice none 0 0) := hc0 0
      have hc2 : w2.cell? ⟨w.heap.size, 1, none⟩ = some (.string ⟨#[]⟩) := hc0 1
      have hc3 : w2.cell? ⟨w.heap.size, 2, none⟩ = some (.int .i64 0) := hc0 2
      have hf := hb2.frz
      have hlt := hb2.lt
      have hltk := hb2.ltk
      have hK2 := hK1.then hk2
      have hrow2 := ownsRow_rebase (B' := w.heap.size) hrow (fun g e => Nat.le_trans hsz (ownsRow_base hrow e).1)
      clear hc0 hk2 hrow
      obtain ⟨a3, c3, hcv⟩ := ownsRow_form hrow2
      subst hcv
      by_cases he : G.2 = 0
      · have hok := goesR_ok hw true true parts [1] 0 (by simp) (fun i hi => by simp only [List.mem_singleton] at hi; subst hi; exact hw.root) (by rw [HG.out]; exact he) (by simp; omega)
        rw [HG.out] at hok
        obtain ⟨m, hm⟩ : ∃ m, G.1.1.length = m + 1 := ⟨G.1.1.length - 1, by have := List.length_pos_iff.2 hok.1.ne; omega⟩
        have hml : m + 1 ≤ 1000 := hm ▸ hok.1.len
        obtain ⟨g, cc, hv, hgB, hgl, hgc, hcm, hcells⟩ := ownsRow_cells2 hrow2 (by omega)
        obtain ⟨d, hd⟩ : ∃ d, lastI G.1.1 = d := ⟨_, rfl⟩
        have hdk : d ∈ S.keys ∧ (S.nd d).kind = 2 := hok.1.dirs d (hd ▸ lastI_mem hok.1.ne)
        have hlast : w2.cell? ⟨g, m, none⟩ = some (.int .i64 d) := by
          rw [hcells m (by simp; omega)]
          rw [← hd, lastI, List.getLastD_eq_getLast?, List.getLast?_eq_getElem?, hm]
          simp only [Nat.add_sub_cancel, List.getElem?_map]
          cases hc : G.1.1[m]? with
          | none => rw [List.getElem?_eq_none_iff] at hc; omega
          | some x => rfl
        obtain ⟨b, L, hnm, hmem⟩ := hw.dirs d hdk.1 hdk.2
        have hRep := h.keeps hK2 (fun _ _ x => x)
        have hNd := hRep.nds d hdk.1
        have hblk := hNd.blk
        have hc4 : w2.cell? ⟨(S.nd d).blk, 4, none⟩ = some (.map (some b)) := by rw [hblk.cell]; simp [Nd.cells, hnm]
        have hbl := hblk.lt
        have hbll := (hNd.nms b L hnm).1.lt
        have hblk2 := hblk.ltk
        have hbllk : ∀ k, b < w2.heap.size + k := fun k => by omega
        have hlk := names_one hNd hnm nm
        have hat : ∀ W, Rep W S → Calls Tryz.prog 121 #[.pointer (some ⟨S.F, 0, none⟩), .int .i64 d] W fun e w' => e = .returned (.pointer (some ⟨(S.nd d).blk, 0, none⟩)) ∧ W = w' := fun W hW => (at_any hW d).mono (by rintro e w' ⟨rfl, rfl⟩; simp only [hdk.1, if_true]; exact ⟨rfl, trivial⟩)
        have HAt := Lib.hid hat
        have HC := Lib.hid hcells
        have HV := Lib.hid hv
        have hgn : ¬ g = w.heap.size := fun e => by
          obtain ⟨_, cur, hc⟩ := ownsRow_base hrow2 (by rw [hv]; rfl)
          rw [e, show w2.heap[w.heap.size]? = _ from hb2] at hc
          simp at hc
        have hgk : ∀ k, g < w2.heap.size + k := fun k => by omega
        rw [hv, hm, he]
        have HM := Lib.hid hm
        have HE := Lib.hid he
        have HD := Lib.hid hd
        clear hat hv hcells hm he hd
        go_wp2_with fail
        refine (dir_any _ undef _ _ g m cc d rfl rfl (by omega) (by rw [World.cell?_alloc_past _ _ _ hgl]; exact hlast)).mono ?_
        rintro e w3 ⟨rfl, rfl⟩
        go_wp2_with (first | (go_at_call 121; refine (HAt.out _ ((hRep.alloc _).alloc _)).mono ?_; rintro e w' ⟨rfl, rfl⟩) | fail)
        obtain ⟨nd, hnd⟩ : ∃ x, (L.lookup nm).getD 0 = x := ⟨_, rfl⟩
        rw [hnd]
        have hW := ((((hb2.set 0 (.slice (some ⟨g, 0, none⟩) (m + 1) cc)).set 1 (.string nm)).set 2 (.int .i64 nd)).alloc (.cells #[.slice (some ⟨g, 0, none⟩) (m + 1) cc, .string nm, .int .i64 nd] 201)).alloc (.cells #[.slice (some ⟨g, 0, none⟩) (m + 1) cc, .string nm, .int .i64 G.1.2.2] 201)
        have hKf := ((((hK2.setCell (p := ⟨w.heap.size, 0, none⟩) (Or.inr (Nat.le_refl _)) (.slice (some ⟨g, 0, none⟩) (m + 1) cc)).setCell (p := ⟨w.heap.size, 1, none⟩) (Or.inr (Nat.le_refl _)) (.string nm)).setCell (p := ⟨w.heap.size, 2, none⟩) (Or.inr (Nat.le_refl _)) (.int .i64 nd)).alloc (.cells #[.slice (some ⟨g, 0, none⟩) (m + 1) cc, .string nm, .int .i64 nd] 201)).alloc (.cells #[.slice (some ⟨g, 0, none⟩) (m + 1) cc, .string nm, .int .i64 G.1.2.2] 201)
        have hR2 : R = ((G.1.1, nm, nd), 0) := by
          rw [← HR.out, nameR, HT.out, if_neg (by simp), if_neg HN.out, HG.out, if_neg (by simp [HE.out]), HD.out, ← hnd]
          simp only [Nd.names, hnm]
        rw [hR2]
        refine bodyPost_ret (results_cell2 rfl _ _ _ rfl (run_loadVar_row _ _ 201 201 _ _ _ hW Tryz.underlying201 rfl (by kernel_rfl))) rfl ⟨_, rfl, ⟨_, rfl, ?_⟩, hKf⟩
        have hrow3 := hrow2
        rw [HV.out, HM.out] at hrow3
        show World.ownsRow _ _ _ _ _ G.1.1.length _
        rw [HM.out]
        refine ((ownsRow_keep hrow3 (fun x hx => ?_)).alloc _).alloc _
        cases hx
        rw [Below.heap_setCell _ _ _ _ hgn, Below.heap_setCell _ _ _ _ hgn, Below.heap_setCell _ _ _ _ hgn]
      · go_wp2_with fail
        have hW := (((hb2.set 0 (.slice none 0 0)).set 1 (.string ⟨#[]⟩)).set 2 (.int .i64 0)).alloc (.cells #[.slice a3 G.1.1.length c3, .string G.1.2.1, .int .i64 G.1.2.2] 201)
        have hKf := (((hK2.setCell (p := ⟨w.heap.size, 0, none⟩) (Or.inr (Nat.le_refl _)) (.slice none 0 0)).setCell (p := ⟨w.heap.size, 1, none⟩) (Or.inr (Nat.le_refl _)) (.string ⟨#[]⟩)).setCell (p := ⟨w.heap.size, 2, none⟩) (Or.inr (Nat.le_refl _)) (.int .i64 0)).alloc (.cells #[.slice a3 G.1.1.length c3, .string G.1.2.1, .int .i64 G.1.2.2] 201)
        have hR2 : R = (([], ⟨#[]⟩, 0), G.2) := by rw [← HR.out, nameR, HT.out, if_neg (by simp), if_neg HN.out, HG.out, if_pos he]
        rw [hR2]
        exact bodyPost_ret (results_cell2 rfl _ _ _ rfl (run_loadVar_row _ _ 201 201 _ _ _ hW Tryz.underlying201 rfl (by kernel_rfl))) rfl ⟨_, rfl, ⟨_, rfl, ⟨rfl, Or.inl ⟨rfl, rfl⟩⟩⟩, hKf⟩
  · obtain ⟨a, c, hv, _⟩ := hps
    rw [hv]
    clear hv
    go_wp2_with fail
    have hW := ((hb.set 0 (.slice none 0 0)).set 1 (.string ⟨#[]⟩)).set 2 (.int .i64 0)
    have hKf := ((hK1.setCell (p := ⟨w.heap.size, 0, none⟩) (Or.inr (Nat.le_refl _)) (.slice none 0 0)).setCell (p := ⟨w.heap.size, 1, none⟩) (Or.inr (Nat.le_refl _)) (.string ⟨#[]⟩)).setCell (p := ⟨w.heap.size, 2, none⟩) (Or.inr (Nat.le_refl _)) (.int .i64 0)
    have hR2 : R = (([], ⟨#[]⟩, 0), err) := by rw [← HR.out, nameR, HT.out, if_pos he]
    rw [hR2]
    exact bodyPost_ret (results_cell2 rfl _ _ _ rfl (run_loadVar_row _ _ 201 201 _ _ _ hW Tryz.underlying201 rfl (by kernel_rfl))) rfl ⟨_, rfl, ⟨_, rfl, ⟨rfl, Or.inl ⟨rfl, rfl⟩⟩⟩, hKf⟩
end Go.Proofs.YtdafneilalompaaGreatDoor
