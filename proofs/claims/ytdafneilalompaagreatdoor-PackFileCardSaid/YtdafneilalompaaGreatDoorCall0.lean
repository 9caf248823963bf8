/- How a call of ram.FS is carried out: call, and what it defers. Conditions: those that each theorem names. -/
import Derived.Test.YtdafneilalompaaGreatDoorWalk2
import Derived.Defers
import Derived.Deep.RegionHeld3
namespace Go.Proofs.YtdafneilalompaaGreatDoor
open Go Go.RowKit
open Go.ChangeMaps (setBlock)

set_option maxRecDepth 100000 in
set_option maxHeartbeats 1000000 in
/-- What call defers, where nothing is to be taken back. -/
theorem deferred_plain (W : World) (F bF bE : Nat) (r : Int) (a : Option Addr) (n c : Nat) (hr : r = 0 ∨ n = 0) (hn : n ≤ 1000000000)
    (hF : W.cell? ⟨bF, 0, none⟩ = some (.pointer (some ⟨F, 0, none⟩))) (hE : W.cell? ⟨bE, 0, none⟩ = some (.int .i64 r)) (h6 : W.cell? ⟨F, 6, none⟩ = some (.slice a n c)) (hz : W.frozen? ⟨F, 6, none⟩ = false) :
    CallsD Tryz.prog 193 #[.pointer (some ⟨bF, 0, none⟩), .pointer (some ⟨bE, 0, none⟩)] .returning W fun e u' w' => u' = .returning ∧ (e = .returned (.tuple #[]) ∧ w' = W.setCell ⟨F, 6, none⟩ (.slice none 0 0)) := by
  rcases hr with rfl | rfl
  · go_enter_d Tryz.func193, Tryz.ntmps193
    go_wp2_with fail
    go_loopg [2] 0 (fun k p wr => p = .int .i64 ((n : Int) - 1) ∧ wr = W)
    case atStart => exact ⟨rfl, rfl⟩
    case round =>
      obtain ⟨rfl, rfl⟩ := hrel
      by_cases h0 : n = 0
      · subst h0
        go_wp2_with fail
        go_end0
        exact ⟨rfl, rfl⟩
      · have h1 : 0 < n := by omega
        go_wp2_with fail
        go_end0
        exact ⟨rfl, rfl⟩
  · go_enter_d Tryz.func193, Tryz.ntmps193
    go_wp2_with fail
    go_loopg [2] 0 (fun k p wr => p = .int .i64 (-1) ∧ wr = W)
    case atStart => exact ⟨rfl, rfl⟩
    case round =>
      obtain ⟨rfl, rfl⟩ := hrel
      go_wp2_with fail
      go_end0
      exact ⟨rfl, rfl⟩

/-- The state in which a call's work begins. -/
def St.fresh (S : St) (B : Nat) : St := { S with B := B, u := .slice none 0 0, us := [] }
/-- The state in which it ends. -/
def St.done (S : St) : St := { S with u := .slice none 0 0, us := [] }
theorem Rep.fresh {w : World} {S : St} (h : Rep w S) {B : Nat} (hB : S.B ≤ B) (hB2 : B ≤ w.heap.size) : Rep (w.setCell ⟨S.F, 6, none⟩ (.slice none 0 0)) (S.fresh B) ∧ Keeps (fun b => b = S.F) w (w.setCell ⟨S.F, 6, none⟩ (.slice none 0 0)) := by
  have hk2 : Keeps (fun b => b = S.F) w (w.setCell ⟨S.F, 6, none⟩ (.slice none 0 0)) := Keeps.setCell (X := fun b => b = S.F) (Keeps.refl _ _) (Or.inl rfl) _
  refine ⟨⟨?_, h.ownF, ?_, h.ownM, ?_, fun b hb => Nat.lt_of_lt_of_le (h.lt b hb) hB, by simpa [St.fresh] using hB2, ⟨rfl, Or.inl ⟨rfl, rfl⟩⟩⟩, hk2⟩
  · exact h.F.set 6 (.slice none 0 0)
  · exact MapB.keeps h.M hk2 (Ne.symm h.FneM)
  · intro i hi
    refine (h.nds i hi).keeps hk2 (fun b hb e => ?_)
    subst e
    rcases hb with hb | hb | hb <;> (rw [h.ownF] at hb; simp at hb)
theorem Rep.raise {w : World} {S : St} {B B' : Nat} (h : Rep w (S.fresh B)) (hB : B ≤ B') (hB2 : B' ≤ w.heap.size) : Rep w (S.fresh B') :=
  ⟨h.F, h.ownF, h.M, h.ownM, h.nds, fun b hb => Nat.lt_of_lt_of_le (h.lt b hb) hB, hB2, ⟨rfl, Or.inl ⟨rfl, rfl⟩⟩⟩
theorem Rep.done {w : World} {S : St} (h : Rep w S) : Rep (w.setCell ⟨S.F, 6, none⟩ (.slice none 0 0)) S.done ∧ Keeps (fun b => b = S.F) w (w.setCell ⟨S.F, 6, none⟩ (.slice none 0 0)) :=
  h.fresh (Nat.le_refl _) h.B

theorem call_end {W2 : World} (R : Ending → World → Prop) (tmps : Array Value) (F bF bE : Nat) (r : Int) (a : Option Addr) (n c : Nat) (hr : r = 0 ∨ n = 0) (hn : n ≤ 1000000000)
    (hF : W2.cell? ⟨bF, 0, none⟩ = some (.pointer (some ⟨F, 0, none⟩))) (hE : W2.cell? ⟨bE, 0, none⟩ = some (.int .i64 r)) (h6 : W2.cell? ⟨F, 6, none⟩ = some (.slice a n c)) (hz : W2.frozen? ⟨F, 6, none⟩ = false) (hne : bE ≠ F)
    (h4 : tmps.getD 4 undef = .pointer (some ⟨bE, 0, none⟩)) (hR : R (.returned (.int .i64 r)) (W2.setCell ⟨F, 6, none⟩ (.slice none 0 0))) :
    bodyPostD Tryz.prog Tryz.f125 R Exit.ret { tmps := tmps, defers := [{ target := .fn (.func 193) #[.pointer (some ⟨bF, 0, none⟩), .pointer (some ⟨bE, 0, none⟩)], args := #[] }] } W2 := by
  refine leaves_cons (f := 193) (args := #[.pointer (some ⟨bF, 0, none⟩), .pointer (some ⟨bE, 0, none⟩)]) (by simp) (by simp [go_sem]) ?_
  refine (deferred_plain W2 F bF bE r a n c hr hn hF hE h6 hz).mono ?_
  rintro e u' w'' ⟨rfl, rfl, rfl⟩
  refine ⟨.int .i64 r, results_cell1 rfl _ _ _ h4 (run_loadVar_one Tryz.underlying31 rfl ?_), hR⟩
  rw [World.cell?_of_block (Below.heap_setCell _ _ _ _ hne)]
  exact hE

set_option maxRecDepth 100000 in
set_option maxHeartbeats 1000000 in
/-- A call whose work goes well, or changes nothing. -/
theorem call_plain {w : World} {S : St} (h : Rep w S) (f : Nat) (cap : Array Value) (hen : ∀ W : World, (callFunc f cap).run Tryz.prog W = .ok (.enter f cap) W) (Y : Nat → Prop) (hY : ∀ b, Y b → b < w.heap.size) (Post : Int → St → World → Prop)
    (hf : ∀ W, Rep W (S.fresh W.heap.size) → Keeps (fun b => b = S.F) w W → Calls Tryz.prog f cap W fun e w' => ∃ (r : Int) (S' : St), e = .returned (.int .i64 r) ∧ Rep w' S' ∧ S'.F = S.F ∧ S'.B = W.heap.size ∧ Keeps (fun b => S'.own b ≠ none ∨ Y b) W w' ∧
      (∀ b, w.heap.size ≤ b → S'.own b = none) ∧ (r ≠ 0 → S'.us = []) ∧ S'.us.length ≤ 1000000 ∧ (S'.us ≠ [] → (∀ i ∈ S'.keys, (S'.nd i).Wf) ∧ S'.keys.length ≤ 20000 ∧ 0 ≤ S'.g3 ∧ S'.g0 ≤ 1000000 ∧ S'.g3 ≤ S'.g0 ∧ S'.taken ≤ S'.g0 - S'.g3) ∧ Post r S' w') :
    Calls Tryz.prog 125 #[.pointer (some ⟨S.F, 0, none⟩), .func (.func f) #[] cap] w fun e w' => ∃ (r : Int) (S' : St) (w1 : World), e = .returned (.int .i64 r) ∧ Rep w' S'.done ∧ S'.F = S.F ∧ Post r S' w1 ∧ w.heap.size ≤ S'.B ∧ Keeps (fun b => S'.own b ≠ none ∨ Y b) w w' ∧ Keeps (fun b => b = S.F ∨ w.heap.size ≤ b) w1 w' := by
  have hmf := run_makeFunc_any
  have h6 : w.cell? ⟨S.F, 6, none⟩ = some S.u := h.F.cell 6
  have hz : ∀ i, w.frozen? ⟨S.F, i, none⟩ = false := h.F.frz
  have hFB := h.Flt
  have hB := h.B
  have hFl : S.F < w.heap.size := by omega
  have hFlk : ∀ k, S.F < w.heap.size + k := fun k => by omega
  have hFn : ¬ S.F = w.heap.size := by omega
  have hFn1 : ¬ S.F = w.heap.size + 1 := by omega
  go_enter_defers Tryz.func125, Tryz.ntmps125
  go_wp2_with fail
  have hK00 : Keeps (fun b => b = S.F) w (w.setCell ⟨S.F, 6, none⟩ (.slice none 0 0)) := Keeps.setCell (X := fun b => b = S.F) (Keeps.refl _ _) (Or.inl rfl) _
  have hK0 := (hK00.alloc (.cells #[.pointer (some ⟨S.F, 0, none⟩)] 25)).alloc (.cells #[.int .i64 0] 31)
  have hR0 := ((((h.fresh (B := w.heap.size) hB (Nat.le_refl _)).1.alloc (.cells #[.pointer (some ⟨S.F, 0, none⟩)] 25)).alloc (.cells #[.int .i64 0] 31)).raise (B' := w.heap.size + 2) (by omega) (by simp))
  have hbF := (Blk.new' (w := w.setCell ⟨S.F, 6, none⟩ (.slice none 0 0)) (n := w.heap.size) (by simp) #[.pointer (some ⟨S.F, 0, none⟩)] 25).alloc (.cells #[.int .i64 0] 31)
  have hbE := Blk.new' (w := (w.setCell ⟨S.F, 6, none⟩ (.slice none 0 0)).alloc (.cells #[.pointer (some ⟨S.F, 0, none⟩)] 25)) (n := w.heap.size + 1) (by simp) #[.int .i64 0] 31
  have hsz : (((w.setCell ⟨S.F, 6, none⟩ (.slice none 0 0)).alloc (.cells #[.pointer (some ⟨S.F, 0, none⟩)] 25)).alloc (.cells #[.int .i64 0] 31)).heap.size = w.heap.size + 2 := by simp
  generalize hW : ((w.setCell ⟨S.F, 6, none⟩ (.slice none 0 0)).alloc (.cells #[.pointer (some ⟨S.F, 0, none⟩)] 25)).alloc (.cells #[.int .i64 0] 31) = W at *
  clear hW
  rw [← hsz] at hR0
  go_wp2_with fail
  refine (hf W hR0 hK0).mono ?_
  rintro e w1 ⟨r, S', rfl, hR1, hF, hB1, hK1, hnew, hr0, hus, hok, hpost⟩
  have HP := Lib.hid hpost
  clear hpost hen hf
  have hF1 := hR1.F
  have hbF1 := hbF.keeps hK1 (fun e => e.elim (fun e => e (hnew _ (Nat.le_refl _))) (fun e => absurd (hY _ e) (by omega)))
  have hbE1 := hbE.keeps hK1 (fun e => e.elim (fun e => e (hnew _ (by omega))) (fun e => absurd (hY _ e) (by omega)))
  have hcF : w1.cell? ⟨w.heap.size, 0, none⟩ = some (.pointer (some ⟨S.F, 0, none⟩)) := hbF1.cell 0
  have hcE : w1.cell? ⟨w.heap.size + 1, 0, none⟩ = some (.int .i64 0) := hbE1.cell 0
  have hzE : w1.frozen? ⟨w.heap.size + 1, 0, none⟩ = false := hbE1.frz 0
  rw [hF] at hF1
  have hc6 : w1.cell? ⟨S.F, 6, none⟩ = some S'.u := hF1.cell 6
  have hz6 : w1.frozen? ⟨S.F, 6, none⟩ = false := hF1.frz 6
  have hlE := hbE1.lt
  have hlE2 := hbF1.lt
  have hlF := hF1.lt
  obtain ⟨au, cu, hu⟩ := ownsRow_form hR1.row
  rw [hu] at hc6
  have HU := Lib.hid hu
  have HF := Lib.hid hF
  have HB := Lib.hid hB1
  have HS := Lib.hid hsz
  have HN := Lib.hid hnew
  clear hF hB1 hu hsz hnew hz h6
  have hne : ¬ w.heap.size + 1 = S.F := fun e => hFn1 e.symm
  have hfin : ∀ W2, Keeps (fun b => b = w.heap.size + 1) w1 W2 → Rep (W2.setCell ⟨S.F, 6, none⟩ (.slice none 0 0)) S'.done ∧ Keeps (fun b => S'.own b ≠ none ∨ Y b) w (W2.setCell ⟨S.F, 6, none⟩ (.slice none 0 0)) ∧ Keeps (fun b => b = S.F ∨ w.heap.size ≤ b) w1 (W2.setCell ⟨S.F, 6, none⟩ (.slice none 0 0)) := by
    intro W2 hK2
    have hR2 := hR1.keeps hK2 (fun b hb e => hR1.notFoot (by have := HB.out; have := HS.out; omega) (HN.out b (by omega)) hb)
    have hd := hR2.done
    rw [HF.out] at hd
    have hKd : Keeps (fun b => b = S.F ∨ w.heap.size ≤ b) w1 (W2.setCell ⟨S.F, 6, none⟩ (.slice none 0 0)) := hK2.trans hd.2 (fun i _ e => Or.inr (by omega)) (fun i _ e => Or.inl e)
    refine ⟨hd.1, ?_, hKd⟩
    refine (hK0.trans hK1 (Z := fun b => S'.own b ≠ none ∨ Y b) ?_ (fun _ _ x => x)).trans hKd (fun _ _ x => x) ?_
    · intro i _ e; rw [e, ← HF.out, hR1.ownF]; simp
    · intro i hi e
      rcases e with e | e
      · rw [e, ← HF.out, hR1.ownF]; simp
      · omega
  have hfin2 : ∀ W2, Keeps (fun b => b = w.heap.size + 1) w1 W2 → W2.cell? ⟨w.heap.size, 0, none⟩ = some (.pointer (some ⟨S.F, 0, none⟩)) ∧ W2.cell? ⟨S.F, 6, none⟩ = some (.slice au S'.us.length cu) ∧ W2.frozen? ⟨S.F, 6, none⟩ = false := by
    intro W2 hK2
    have h2 := hF1.keeps hK2 (fun e => hne e.symm)
    exact ⟨(hbF1.keeps hK2 (by omega)).cell 0, by rw [h2.cell, ← HU.out]; rfl, h2.frz 6⟩
  have HFin := Lib.hid hfin
  have HFin2 := Lib.hid hfin2
  have hrB : w.heap.size ≤ S'.B := by have := HB.out; have := HS.out; omega
  clear hfin hfin2
  by_cases hr : r = 0
  · subst hr
    by_cases hu0 : S'.us = []
    · have hu1 : S'.us.length = 0 := by rw [hu0]; rfl
      rw [hu1] at hc6
      have HU1 := Lib.hid hu1
      clear hu0 hu1
      go_wp2_with fail
      go_quiet (fail)
      go_wp2_with fail
      have hK2 := (((Keeps.refl (fun b => b = w.heap.size + 1) w1).setCell (p := ⟨w.heap.size + 1, 0, none⟩) (Or.inl rfl) (.int .i64 0)).drewN nq).setCell (p := ⟨w.heap.size + 1, 0, none⟩) (Or.inl rfl) (.int .i64 0)
      obtain ⟨e1, e2, e3⟩ := HFin.out _ hK2
      obtain ⟨f1, f2, f3⟩ := HFin2.out _ hK2
      rw [HU1.out] at f2
      exact call_end _ _ S.F _ _ 0 au 0 cu (Or.inl rfl) (by omega) f1 ((((hbE1.set 0 (.int .i64 0)).drewN nq).set 0 (.int .i64 0)).cell 0) f2 f3 hne rfl ⟨0, S', w1, rfl, e1, HF.out, HP.out, hrB, e2, e3⟩
    · obtain ⟨o1, o2, o3, o4, o5, o6⟩ := hok hu0
      have hpos : 0 < S'.us.length := List.length_pos_iff.2 hu0
      obtain ⟨k, hk⟩ : ∃ k, S'.us.length = k + 1 := ⟨S'.us.length - 1, by omega⟩
      have hc0 : w1.cell? ⟨S.F, 0, none⟩ = some (.int .i64 S'.g0) := hF1.cell 0
      have hc3 : w1.cell? ⟨S.F, 3, none⟩ = some (.int .i64 S'.g3) := hF1.cell 3
      obtain ⟨t, ht⟩ : ∃ t, S'.taken = t := ⟨_, rfl⟩
      rw [ht] at o6
      have hle : t ≤ S'.g0 - S'.g3 := o6
      rw [hk] at hc6
      have HT := Lib.hid ht
      have HK := Lib.hid hk
      clear ht hk hpos hu0 hok
      go_wp2_with fail
      have hi0 : ∀ W2, Keeps (fun b => b = w.heap.size + 1) w1 W2 → W2.cell? ⟨w.heap.size + 1, 0, none⟩ = some (.int .i64 0) → W2.frozen? ⟨w.heap.size + 1, 0, none⟩ = false → Rep W2 S' ∧ Keeps (fun b => b = w.heap.size + 1) w1 W2 ∧ W2.cell? ⟨w.heap.size, 0, none⟩ = some (.pointer (some ⟨S.F, 0, none⟩)) ∧ W2.cell? ⟨w.heap.size + 1, 0, none⟩ = some (.int .i64 0) ∧ W2.cell? ⟨S.F, 6, none⟩ = some (.slice au (k + 1) cu) ∧ W2.cell? ⟨S.F, 0, none⟩ = some (.int .i64 S'.g0) ∧ W2.cell? ⟨S.F, 3, none⟩ = some (.int .i64 S'.g3) ∧ W2.frozen? ⟨w.heap.size + 1, 0, none⟩ = false := by
        intro W2 hK2 hE hZ
        have h2 := hF1.keeps hK2 (fun e => hne e.symm)
        have h3 := HFin2.out W2 hK2
        exact ⟨hR1.keeps hK2 (fun b hb e => hR1.notFoot (by have := HB.out; have := HS.out; omega) (HN.out b (by omega)) hb), hK2, h3.1, hE, by rw [h3.2.1, HK.out], h2.cell 0, h2.cell 3, hZ⟩
      have hst : ∀ W2 W3, (Rep W2 S' ∧ Keeps (fun b => b = w.heap.size + 1) w1 W2 ∧ W2.cell? ⟨w.heap.size, 0, none⟩ = some (.pointer (some ⟨S.F, 0, none⟩)) ∧ W2.cell? ⟨w.heap.size + 1, 0, none⟩ = some (.int .i64 0) ∧ W2.cell? ⟨S.F, 6, none⟩ = some (.slice au (k + 1) cu) ∧ W2.cell? ⟨S.F, 0, none⟩ = some (.int .i64 S'.g0) ∧ W2.cell? ⟨S.F, 3, none⟩ = some (.int .i64 S'.g3) ∧ W2.frozen? ⟨w.heap.size + 1, 0, none⟩ = false) →
          Keeps (fun _ => False) W2 W3 → (Rep W3 S' ∧ Keeps (fun b => b = w.heap.size + 1) w1 W3 ∧ W3.cell? ⟨w.heap.size, 0, none⟩ = some (.pointer (some ⟨S.F, 0, none⟩)) ∧ W3.cell? ⟨w.heap.size + 1, 0, none⟩ = some (.int .i64 0) ∧ W3.cell? ⟨S.F, 6, none⟩ = some (.slice au (k + 1) cu) ∧ W3.cell? ⟨S.F, 0, none⟩ = some (.int .i64 S'.g0) ∧ W3.cell? ⟨S.F, 3, none⟩ = some (.int .i64 S'.g3) ∧ W3.frozen? ⟨w.heap.size + 1, 0, none⟩ = false) := by
        rintro W2 W3 ⟨h1, h2, h3, h4, h5, h6, h7, h8⟩ hk
        exact hi0 W3 (h2.trans hk (fun _ _ x => x) (fun _ _ x => x.elim)) ((World.cell?_of_block (hk.block _ (World.block_lt_of_cell? _ _ h4) (fun x => x))).trans h4) ((World.frozen?_of_block (hk.block _ (World.block_lt_of_cell? _ _ h4) (fun x => x))).trans h8)
      have HI := Lib.hid (hi0 _ (((Keeps.refl (fun b => b = w.heap.size + 1) w1).setCell (p := ⟨w.heap.size + 1, 0, none⟩) (Or.inl rfl) (.int .i64 0)).drew) ((hbE1.set 0 (.int .i64 0)).cell 0) ((hbE1.set 0 (.int .i64 0)).frz 0))
      have HST := Lib.hid hst
      clear hi0 hst
      have hFS : (S'.F : Nat) = S.F := HF.out
      have htk : ∀ W, Rep W S' → Calls Tryz.prog 146 #[.pointer (some ⟨S.F, 0, none⟩)] W fun e w' => e = .returned (.int .i64 t) ∧ Keeps (fun _ => False) W w' := fun W hW => by
        have := taken_rep hW o1 o2
        rw [HF.out, HT.out] at this
        exact this
      have HTK := Lib.hid htk
      clear htk hFS
      go_region_held3 (fun W2 => Rep W2 S' ∧ Keeps (fun b => b = w.heap.size + 1) w1 W2 ∧ W2.cell? ⟨w.heap.size, 0, none⟩ = some (.pointer (some ⟨S.F, 0, none⟩)) ∧ W2.cell? ⟨w.heap.size + 1, 0, none⟩ = some (.int .i64 0) ∧ W2.cell? ⟨S.F, 6, none⟩ = some (.slice au (k + 1) cu) ∧ W2.cell? ⟨S.F, 0, none⟩ = some (.int .i64 S'.g0) ∧ W2.cell? ⟨S.F, 3, none⟩ = some (.int .i64 S'.g3) ∧ W2.frozen? ⟨w.heap.size + 1, 0, none⟩ = false)
        (first | exact HI.out | exact HST.out _ _ (by assumption) (by assumption))
        (first | (go_at_call 146; refine (HTK.out _ (And.left (by assumption))).mono ?_; rintro e w3 ⟨rfl, hk3⟩))
      have hS3 : Rep w3 S' ∧ Keeps (fun b => b = w.heap.size + 1) w1 w3 ∧ w3.cell? ⟨w.heap.size, 0, none⟩ = some (.pointer (some ⟨S.F, 0, none⟩)) ∧ w3.cell? ⟨w.heap.size + 1, 0, none⟩ = some (.int .i64 0) ∧ w3.cell? ⟨S.F, 6, none⟩ = some (.slice au (k + 1) cu) ∧ w3.cell? ⟨S.F, 0, none⟩ = some (.int .i64 S'.g0) ∧ w3.cell? ⟨S.F, 3, none⟩ = some (.int .i64 S'.g3) ∧ w3.frozen? ⟨w.heap.size + 1, 0, none⟩ = false := by assumption
      obtain ⟨hR3, hK3, g1, g2, g3, g4, g5, hzE3⟩ := hS3
      clear hk3
      have hlE3 : w.heap.size + 1 < w3.heap.size := World.block_lt_of_cell? _ _ g2
      have hdec : decide (IntKind.i64.wrap (S'.g0 - S'.g3) < t) = false := by rw [IntKind.wrap_i64]; simp; omega
      simp only [hdec]
      clear g1 g3 g4 g5 hR3
      go_wp2_with fail
      have hK4 := hK3.setCell (p := ⟨w.heap.size + 1, 0, none⟩) (Or.inl rfl) (.int .i64 0)
      obtain ⟨e1, e2, e3⟩ := HFin.out _ hK4
      obtain ⟨f1, f2, f3⟩ := HFin2.out _ hK4
      rw [HK.out] at f2
      exact call_end _ _ S.F _ _ 0 au (k + 1) cu (Or.inl rfl) (by have := HK.out; omega) f1 (World.cell?_setCell_same _ _ _ g2) f2 f3 hne rfl ⟨0, S', w1, rfl, e1, HF.out, HP.out, hrB, e2, e3⟩
  · have hrb : (r == 0) = false := by simpa using hr
    have hu0 := hr0 hr
    have hu1 : S'.us.length = 0 := by rw [hu0]; rfl
    rw [hu1] at hc6
    have HU1 := Lib.hid hu1
    clear hu0 hu1
    go_wp2_with fail
    go_quiet (fail)
    go_wp2_with fail
    have hK2 := (((Keeps.refl (fun b => b = w.heap.size + 1) w1).setCell (p := ⟨w.heap.size + 1, 0, none⟩) (Or.inl rfl) (.int .i64 r)).drewN nq).setCell (p := ⟨w.heap.size + 1, 0, none⟩) (Or.inl rfl) (.int .i64 r)
    obtain ⟨e1, e2, e3⟩ := HFin.out _ hK2
    obtain ⟨f1, f2, f3⟩ := HFin2.out _ hK2
    rw [HU1.out] at f2
    exact call_end _ _ S.F _ _ r au 0 cu (Or.inr rfl) (by omega) f1 ((((hbE1.set 0 (.int .i64 r)).drewN nq).set 0 (.int .i64 r)).cell 0) f2 f3 hne rfl ⟨r, S', w1, rfl, e1, HF.out, HP.out, hrB, e2, e3⟩
end Go.Proofs.YtdafneilalompaaGreatDoor
