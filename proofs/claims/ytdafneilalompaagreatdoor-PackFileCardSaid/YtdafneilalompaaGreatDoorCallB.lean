/- A new inode with a name: the call. Conditions: those that each theorem names. create, symlink. Conditions: those that each theorem names. -/
import Derived.Test.YtdafneilalompaaGreatDoorCall1
namespace Go.Proofs.YtdafneilalompaaGreatDoor
section
open Go Go.RowKit
open Go.ChangeMaps (setBlock)

theorem St.Wf.fresh {S : St} (h : S.Wf) (B : Nat) : (S.fresh B).Wf := ⟨h.root, h.nds, h.dirs, h.links, h.sizes, h.g, h.few, h.room, h.whole, h.nodup⟩
theorem goesR_nd {S S' : St} (hnd : S'.nd = S.nd) (behind follow : Bool) (parts : List ByteArray) (chain : List Int) (fol : Nat) : goesR S' behind follow parts chain fol = goesR S behind follow parts chain fol := by
  fun_induction goesR S behind follow parts chain fol with
  | case1 => rw [goesR]
  | case2 chain fol r ih => rw [goesR, if_pos rfl]; exact ih
  | case3 chain fol c r hc hl => rw [goesR, if_neg hc, hnd, hl]
  | case4 chain fol c r hc m hm hk ih => rw [goesR, if_neg hc, hnd, hm]; simp only; rw [if_pos hk]; exact ih
  | case5 chain fol c r hc m hm hk hk2 h8 => rw [goesR, if_neg hc, hnd, hm]; simp only; rw [if_neg hk, if_pos hk2, dif_pos h8]
  | case6 chain fol c r hc m hm hk hk2 h8 he => rw [goesR, if_neg hc, hnd, hm]; simp only; rw [if_neg hk, if_pos hk2, dif_neg h8, if_pos he]
  | case7 chain fol c r hc m hm hk hk2 h8 he ih => rw [goesR, if_neg hc, hnd, hm]; simp only; rw [if_neg hk, if_pos hk2, dif_neg h8, if_neg he]; exact ih
  | case8 chain fol c r hc m hm hk hk2 hk3 => rw [goesR, if_neg hc, hnd, hm]; simp only; rw [if_neg hk, if_neg hk2, if_pos hk3]
  | case9 chain fol c r hc m hm hk hk2 hk3 => rw [goesR, if_neg hc, hnd, hm]; simp only; rw [if_neg hk, if_neg hk2, if_neg hk3]
theorem goesR_fresh (S : St) (B : Nat) (behind follow : Bool) (parts : List ByteArray) (chain : List Int) (fol : Nat) : goesR (S.fresh B) behind follow parts chain fol = goesR S behind follow parts chain fol := goesR_nd (S := S) (S' := S.fresh B) rfl _ _ _ _ _
theorem nameR_fresh (S : St) (B : Nat) (s : ByteArray) : nameR (S.fresh B) s = nameR S s := by
  simp only [nameR, goesR_fresh]; rfl
theorem Loose.fresh {w w' : World} {S : St} {x : Nd} {B B' : Nat} (h : Loose w (S.fresh B) x) (hB : B ≤ B') (hF : S.own S.F = some (0, 0)) (k : Keeps (fun b => b = S.F) w w') : Loose w' (S.fresh B') x := by
  have h2 := h.keeps k (fun b hb ho e => by subst e; exact absurd (hF.symm.trans ho) (by simp))
  exact ⟨h2.blk, h2.free, Nat.lt_of_lt_of_le h2.lt hB, fun b L e => have ⟨a, b, c, d, f⟩ := h2.pcs b L e; ⟨a, b, Nat.lt_of_lt_of_le c hB, d, f⟩, fun b L e => have ⟨a, b, c, d⟩ := h2.nms b L e; ⟨a, b, Nat.lt_of_lt_of_le c hB, d⟩⟩
theorem Loose.addFree {w : World} {S : St} {x : Nd} (h : Loose w S x) {i : Int} {b : Nat} (hb : S.B ≤ b) (ho : S.own b = none) : (S.add i x).own b = none := by
  simp only [St.add]
  have h1 := h.lt
  rw [if_neg (by omega), if_neg, if_neg, ho]
  · intro e
    cases hm : x.nms with
    | none => rw [hm] at e; cases e
    | some q => rw [hm] at e; have e2 : q.1 = b := by simpa using e
                have := (h.nms _ _ hm).2.2.1; omega
  · intro e
    cases hm : x.pcs with
    | none => rw [hm] at e; cases e
    | some q => rw [hm] at e; have e2 : q.1 = b := by simpa using e
                have := (h.pcs _ _ hm).2.2.1; omega

set_option maxRecDepth 100000 in
set_option maxHeartbeats 2000000 in
theorem fresh_ok {w : World} {S : St} (h : Rep w S) (hw : S.Wf) (s : ByteArray) (N : Nat)
    (x : Nd) (i : Int) (hs : s.size ≤ 9000000000000000000) (R : (List Int × ByteArray × Int) × Int) (hR : nameR S s = R) (hR2 : R.2 = 0) (hR3 : R.1.2.2 = 0) (hR4 : R.1.1.length ≤ 32) (d : Int) (hd : lastI R.1.1 = d)
    (hx : Loose w (S.fresh w.heap.size) x) (hN : x.blk = N) (hk : x.kind ≠ 2) (hi1 : 1 ≤ i) (c4 : Int) (hc4 : S.g4 = c4) (hic : i < c4) (hlow : ∀ j, 1 ≤ j → j < i → j ∈ S.keys) (hi : i ∉ S.keys)
    (S1 : St) (hS1 : S1 = (S.add i x).put d ((S.nd d).grown R.1.2.1 i)) (hW1 : S1.Wf) (htk : S1.taken ≤ S.g0 - S.g3) :
    Calls Tryz.prog 118 #[.pointer (some ⟨S.F, 0, none⟩), .string s, .pointer (some ⟨N, 0, none⟩)] w fun e w' => e = .returned (.tuple #[.int .i64 i, .int .i64 0]) ∧ ∃ B, w.heap.size ≤ B ∧ Rep w' (S1.fresh B) ∧ Keeps (fun b => S1.own b ≠ none) w w' := by
  have hmf := run_makeFunc_any
  have HA := Lib.hid (And.intro hR (And.intro hR2 (And.intro hR3 (And.intro hR4 (And.intro hd (And.intro hN (And.intro hc4 (And.intro hlow hS1))))))))
  clear hR hR2 hR3 hR4 hd hN hc4 hlow hS1
  go_enter Tryz.func118, Tryz.ntmps118
  go_wp2_with fail
  obtain ⟨hR, hR2, hR3, hR4, hd, hN, hc4, hlow, hS1⟩ := HA.out
  have b1 := (((Blk.new w #[.pointer (some ⟨S.F, 0, none⟩)] 25).alloc (.cells #[.string s] 9)).alloc (.cells #[.pointer (some ⟨N, 0, none⟩)] 107)).alloc (.cells #[.int .i64 0] 3)
  have b2 := ((Blk.new' (w := w.alloc (.cells #[.pointer (some ⟨S.F, 0, none⟩)] 25)) (n := w.heap.size + 1) (by simp) #[.string s] 9).alloc (.cells #[.pointer (some ⟨N, 0, none⟩)] 107)).alloc (.cells #[.int .i64 0] 3)
  have b3 := (Blk.new' (w := (w.alloc (.cells #[.pointer (some ⟨S.F, 0, none⟩)] 25)).alloc (.cells #[.string s] 9)) (n := w.heap.size + 1 + 1) (by simp) #[.pointer (some ⟨N, 0, none⟩)] 107).alloc (.cells #[.int .i64 0] 3)
  have b4 := Blk.new' (w := ((w.alloc (.cells #[.pointer (some ⟨S.F, 0, none⟩)] 25)).alloc (.cells #[.string s] 9)).alloc (.cells #[.pointer (some ⟨N, 0, none⟩)] 107)) (n := w.heap.size + 1 + 1 + 1) (by simp) #[.int .i64 0] 3
  have hK : Keeps (fun _ => False) w ((((w.alloc (.cells #[.pointer (some ⟨S.F, 0, none⟩)] 25)).alloc (.cells #[.string s] 9)).alloc (.cells #[.pointer (some ⟨N, 0, none⟩)] 107)).alloc (.cells #[.int .i64 0] 3)) := ((((Keeps.refl _ _).alloc _).alloc _).alloc _).alloc _
  have hsz : ((((w.alloc (.cells #[.pointer (some ⟨S.F, 0, none⟩)] 25)).alloc (.cells #[.string s] 9)).alloc (.cells #[.pointer (some ⟨N, 0, none⟩)] 107)).alloc (.cells #[.int .i64 0] 3)).heap.size = w.heap.size + 4 := by simp
  generalize ((((w.alloc (.cells #[.pointer (some ⟨S.F, 0, none⟩)] 25)).alloc (.cells #[.string s] 9)).alloc (.cells #[.pointer (some ⟨N, 0, none⟩)] 107)).alloc (.cells #[.int .i64 0] 3)) = w1 at *
  have hR1 := h.keeps hK (fun _ _ x => x)
  have hB := h.B
  have hg := hw.g
  refine (call_plain hR1 183 _ (enters_of Tryz.func183 (by kernel_rfl) rfl _) (fun b => b = w.heap.size + 1 + 1 + 1) (fun b e => by omega) (fun r S' W' => r = 0 ∧ S'.fresh S'.B = S1.fresh S'.B ∧ S'.own = S1.own ∧ Blk W' (w.heap.size + 1 + 1 + 1) #[.int .i64 i] 3) ?_).mono ?_
  · intro W hRW hKW
    have hxW : Loose W (S.fresh W.heap.size) x := ((hx.keeps hK (fun _ _ _ x => x)).fresh (by have := hK.size; have := hKW.size; omega) h.ownF hKW)
    have hne : ∀ b, w.heap.size ≤ b → b ≠ S.F := fun b hb e => by have := h.Flt; omega
    have own : ∀ b, w.heap.size ≤ b → ((S.fresh W.heap.size).add i x).own b = none := fun b hb => (hx.addFree (i := i) (b := b) hb (h.free (by omega)))
    refine (fresh1_ok hRW (hw.fresh _) w.heap.size (w.heap.size + 1) (w.heap.size + 1 + 1) (w.heap.size + 1 + 1 + 1) s N 0 (b1.keeps hKW (hne _ (by omega))) (b2.keeps hKW (hne _ (by omega))) (b3.keeps hKW (hne _ (by omega))) (b4.keeps hKW (hne _ (by omega)))
      x i (own _ (by omega)) (own _ (by omega)) (own _ (by omega)) (own _ (by omega)) hs R (by rw [nameR_fresh]; exact hR) hR2 hR3 hR4 d hd hxW hN hk hi1 c4 hc4 hic hlow hi (by simp [St.fresh])).mono ?_
    rintro e w2 ⟨rfl, u', cls, hR3, hne3, hl3, hf3, hI3⟩
    refine ⟨0, _, rfl, hR3, rfl, rfl, ?_, ?_, fun h => absurd rfl h, ?_, ?_, rfl, ?_, ?_, hI3⟩
    · -- what it writes
      refine (Fr.owned hf3).mono ?_
      intro b _ e
      simp only [ownAnd] at e
      split at e
      · exact Or.inr ‹_›
      · exact Or.inl e
    · intro b hb
      exact own b (by omega)
    · have : cls.length = cls.length := rfl
      show ([] ++ cls).length ≤ _
      simp; omega
    · intro _
      subst hS1
      refine ⟨hW1.nds, by have := hW1.few; exact Nat.le_trans this (by omega), hg.1, by show S.g0 ≤ _; omega, hg.2.1, htk⟩
    · subst hS1; rfl
    · subst hS1; rfl
  · rintro e w2 ⟨r, S', w3, rfl, hR2', hF', ⟨rfl, e1, e2, hI⟩, hB', hk2, hk3⟩
    have hnF : ¬ w.heap.size + 1 + 1 + 1 = S.F := fun e => by have := h.Flt; omega
    have hI2 : Blk w2 (w.heap.size + 1 + 1 + 1) #[.int .i64 i] 3 := hI.keeps hk3 (fun e => e.elim hnF (by omega))
    have cI : w2.cell? ⟨w.heap.size + 1 + 1 + 1, 0, none⟩ = some (.int .i64 i) := hI2.cell 0
    have zI : w2.frozen? ⟨w.heap.size + 1 + 1 + 1, 0, none⟩ = false := hI2.frz 0
    have lI := hI2.lt
    have hoI : S1.own (w.heap.size + 1 + 1 + 1) = none := by
      rw [hS1]
      exact hx.addFree (S := S.fresh w.heap.size) (i := i) (b := w.heap.size + 1 + 1 + 1) (by show w.heap.size ≤ _; omega) (h.free (by omega))
    have HZ := Lib.hid (And.intro e1 (And.intro e2 hS1))
    clear e1 e2 hS1 hR hR2 hR3 hR4 hd hN hc4 hlow hsz
    go_wp2_with fail
    obtain ⟨e1, e2, hS1⟩ := HZ.out
    have hRd : Rep w2 (S1.fresh S'.B) := by rw [← e1]; exact hR2'
    have hkI : Keeps (fun b => b = w.heap.size + 1 + 1 + 1) w2 (w2.setCell ⟨w.heap.size + 1 + 1 + 1, 0, none⟩ (.int .i64 i)) := Keeps.setCell (X := fun b => b = w.heap.size + 1 + 1 + 1) (Keeps.refl _ _) (Or.inl rfl) _
    have cI3 : (w2.setCell ⟨w.heap.size + 1 + 1 + 1, 0, none⟩ (.int .i64 i)).cell? ⟨w.heap.size + 1 + 1 + 1, 0, none⟩ = some (.int .i64 i) := (hI2.set 0 (.int .i64 i)).cell 0
    refine bodyPost_ret (results_cell2 rfl _ _ _ rfl (run_loadVar_one Tryz.underlying3 rfl cI3)) rfl ⟨rfl, S'.B, by have := hK.size; omega, ?_, ?_⟩
    · refine hRd.keeps hkI (fun b hb e => ?_)
      subst e
      rcases hb with hb | hb
      · exact hb hoI
      · cases hb
    · rw [e2] at hk2
      refine (hK.trans hk2 (Z := fun b => S1.own b ≠ none ∨ w.heap.size ≤ b) (fun _ _ x => x.elim) (fun b _ e => e.imp id (by omega))).trans hkI (Z := fun b => S1.own b ≠ none ∨ w.heap.size ≤ b) (fun _ _ x => x) (fun b _ e => Or.inr (by omega)) |>.mono (fun b hb e => e.elim id (by omega))
end
section
open Go Go.RowKit
open Go.ChangeMaps (setBlock)

theorem add_own {S : St} {i : Int} {x : Nd} {b : Nat} (h1 : b ≠ x.blk) (h2 : x.pcs.map (·.1) ≠ some b) (h3 : x.nms.map (·.1) ≠ some b) : (S.add i x).own b = S.own b := by
  simp only [St.add]
  rw [if_neg h1, if_neg h2, if_neg h3]
def fileNd (b1 b2 : Nat) : Nd := { blk := b1, kind := 1, links := 1, size := 0, pcs := some (b2, []), nms := none, blocks := 0, text := ⟨#[]⟩ }
def linkNd (b1 : Nat) (t : ByteArray) : Nd := { blk := b1, kind := 3, links := 1, size := t.size, pcs := none, nms := none, blocks := 0, text := t }

set_option maxRecDepth 100000 in
set_option maxHeartbeats 2000000 in
theorem create_ok {w : World} {S : St} (h : Rep w S) (hw : S.Wf) (s : ByteArray) (i : Int) (hs : s.size ≤ 9000000000000000000) (R : (List Int × ByteArray × Int) × Int) (hR : nameR S s = R) (hR2 : R.2 = 0) (hR3 : R.1.2.2 = 0) (hR4 : R.1.1.length ≤ 32) (d : Int) (hd : lastI R.1.1 = d)
    (hi1 : 1 ≤ i) (c4 : Int) (hc4 : S.g4 = c4) (hic : i < c4) (hlow : ∀ j, 1 ≤ j → j < i → j ∈ S.keys) (hi : i ∉ S.keys)
    (hW1 : ∀ b1 b2, ((S.add i (fileNd b1 b2)).put d ((S.nd d).grown R.1.2.1 i)).Wf) (htk : ∀ b1 b2, ((S.add i (fileNd b1 b2)).put d ((S.nd d).grown R.1.2.1 i)).taken ≤ S.g0 - S.g3) :
    Calls Tryz.prog 71 #[.pointer (some ⟨S.F, 0, none⟩), .string s] w fun e w' => e = .returned (.tuple #[.int .i64 i, .int .i64 0]) ∧
      ∃ B b1 b2, w.heap.size ≤ B ∧ w.heap.size ≤ b1 ∧ w.heap.size ≤ b2 ∧ Rep w' (((S.add i (fileNd b1 b2)).put d ((S.nd d).grown R.1.2.1 i)).fresh B) ∧ Keeps (fun b => S.own b ≠ none) w w' := by
  have hmm := @run_makeMap Tryz.prog
  have HA := Lib.hid (And.intro hR (And.intro hR2 (And.intro hR3 (And.intro hR4 (And.intro hd (And.intro hc4 (And.intro hlow (And.intro hW1 htk))))))))
  clear hR hR2 hR3 hR4 hd hc4 hlow hW1 htk
  go_enter Tryz.func71, Tryz.ntmps71
  go_wp2_with fail
  obtain ⟨hR, hR2, hR3, hR4, hd, hc4, hlow, hW1, htk⟩ := HA.out
  have hB := h.B
  have hK : Keeps (fun _ => False) w ((w.alloc (.map #[] 0)).alloc (.cells #[.int .i64 1, .int .i64 1, .int .i64 0, .map (some w.heap.size), .map none, .int .i64 0, .string ⟨#[]⟩] 111)) := ((Keeps.refl _ _).alloc _).alloc _
  have hb := Blk.new' (w := w.alloc (.map #[] 0)) (n := w.heap.size + 1) (by simp) #[.int .i64 1, .int .i64 1, .int .i64 0, .map (some w.heap.size), .map none, .int .i64 0, .string ⟨#[]⟩] 111
  have hm : MapK kInt ((w.alloc (.map #[] 0)).alloc (.cells #[.int .i64 1, .int .i64 1, .int .i64 0, .map (some w.heap.size), .map none, .int .i64 0, .string ⟨#[]⟩] 111)) w.heap.size [] := MapB.alloc (MapB.new w) _
  have hsz : ((w.alloc (.map #[] 0)).alloc (.cells #[.int .i64 1, .int .i64 1, .int .i64 0, .map (some w.heap.size), .map none, .int .i64 0, .string ⟨#[]⟩] 111)).heap.size = w.heap.size + 2 := by simp
  generalize ((w.alloc (.map #[] 0)).alloc (.cells #[.int .i64 1, .int .i64 1, .int .i64 0, .map (some w.heap.size), .map none, .int .i64 0, .string ⟨#[]⟩] 111)) = w1 at *
  have hx : Loose w1 (S.fresh w1.heap.size) (fileNd (w.heap.size + 1) w.heap.size) := ⟨hb, h.free (by show S.B ≤ w.heap.size + 1; omega), by show w.heap.size + 1 < w1.heap.size; omega, fun b L e => by
    cases e
    exact ⟨hm, h.free hB, by show w.heap.size < w1.heap.size; omega, by show w.heap.size ≠ w.heap.size + 1; omega, rfl⟩, fun b L e => by cases e⟩
  refine (fresh_ok (h.keeps hK (fun _ _ x => x)) hw s (w.heap.size + 1) _ i hs R hR hR2 hR3 hR4 d hd hx rfl (by show (1 : Int) ≠ 2; decide) hi1 c4 hc4 hic hlow hi _ rfl (hW1 _ _) (htk _ _)).mono ?_
  rintro e w2 ⟨rfl, B, hB2, hR5, hk5⟩
  have HZ := Lib.hid (And.intro hB2 (And.intro hR5 hk5))
  clear hR hR2 hR3 hR4 hd hc4 hlow hW1 htk hsz hB2 hR5 hk5
  go_wp2_with fail
  go_ret2
  obtain ⟨hB2, hR5, hk5⟩ := HZ.out
  refine ⟨rfl, B, w.heap.size + 1, w.heap.size, by have := hK.size; omega, by omega, Nat.le_refl _, hR5, ?_⟩
  refine hK.trans hk5 (fun _ _ x => x.elim) (fun b hb e => ?_)
  intro e2
  apply e
  show (S.add i (fileNd (w.heap.size + 1) w.heap.size)).own b = none
  rw [add_own (by show b ≠ w.heap.size + 1; omega) (by intro e3; have e4 : w.heap.size = b := by simpa [fileNd] using e3
                                                       omega) (by simp [fileNd])]
  exact e2

set_option maxRecDepth 100000 in
set_option maxHeartbeats 2000000 in
theorem symlink_ok {w : World} {S : St} (h : Rep w S) (hw : S.Wf) (t s : ByteArray) (i : Int) (ht : t.size ≤ 9000000000000000000) (hs : s.size ≤ 9000000000000000000) (R : (List Int × ByteArray × Int) × Int) (hT : (textR t).2.2 = 0) (hR : nameR S s = R) (hR2 : R.2 = 0) (hR3 : R.1.2.2 = 0) (hR4 : R.1.1.length ≤ 32) (d : Int) (hd : lastI R.1.1 = d)
    (hi1 : 1 ≤ i) (c4 : Int) (hc4 : S.g4 = c4) (hic : i < c4) (hlow : ∀ j, 1 ≤ j → j < i → j ∈ S.keys) (hi : i ∉ S.keys)
    (hW1 : ∀ b1, ((S.add i (linkNd b1 t)).put d ((S.nd d).grown R.1.2.1 i)).Wf) (htk : ∀ b1, ((S.add i (linkNd b1 t)).put d ((S.nd d).grown R.1.2.1 i)).taken ≤ S.g0 - S.g3) :
    Calls Tryz.prog 73 #[.pointer (some ⟨S.F, 0, none⟩), .string t, .string s] w fun e w' => e = .returned (.tuple #[.int .i64 i, .int .i64 0]) ∧
      ∃ B b1, w.heap.size ≤ B ∧ w.heap.size ≤ b1 ∧ Rep w' (((S.add i (linkNd b1 t)).put d ((S.nd d).grown R.1.2.1 i)).fresh B) ∧ Keeps (fun b => S.own b ≠ none) w w' := by
  have HA := Lib.hid (And.intro hR (And.intro hR2 (And.intro hR3 (And.intro hR4 (And.intro hd (And.intro hc4 (And.intro hlow (And.intro hW1 htk))))))))
  have HT := Lib.hid hT
  clear hR hR2 hR3 hR4 hd hc4 hlow hW1 htk hT
  go_enter Tryz.func73, Tryz.ntmps73
  go_wp2_with fail
  refine (Text_any t ht _).mono ?_
  rintro e w0 ⟨v, rfl, hns, hk0⟩
  rw [HT.out]
  obtain ⟨av, cv, hv⟩ := ownsRow_form (show w0.ownsRow w.heap.size 9 1 v (textR t).1.length _ from hns)
  rw [hv]
  clear hv hns
  go_wp2_with fail
  obtain ⟨hR, hR2, hR3, hR4, hd, hc4, hlow, hW1, htk⟩ := HA.out
  have hB := h.B
  have hsz0 := hk0.size
  have hK : Keeps (fun _ => False) w (w0.alloc (.cells #[.int .i64 3, .int .i64 1, .int .i64 t.size, .map none, .map none, .int .i64 0, .string t] 111)) := hk0.alloc _
  have hb := Blk.new w0 #[.int .i64 3, .int .i64 1, .int .i64 t.size, .map none, .map none, .int .i64 0, .string t] 111
  have hsz : (w0.alloc (.cells #[.int .i64 3, .int .i64 1, .int .i64 t.size, .map none, .map none, .int .i64 0, .string t] 111)).heap.size = w0.heap.size + 1 := by simp
  generalize (w0.alloc (.cells #[.int .i64 3, .int .i64 1, .int .i64 t.size, .map none, .map none, .int .i64 0, .string t] 111)) = w1 at *
  have hx : Loose w1 (S.fresh w1.heap.size) (linkNd w0.heap.size t) := ⟨hb, h.free (by show S.B ≤ w0.heap.size; omega), by show w0.heap.size < w1.heap.size; omega, fun b L e => (by cases e), fun b L e => (by cases e)⟩
  refine (fresh_ok (h.keeps hK (fun _ _ x => x)) hw s w0.heap.size _ i hs R hR hR2 hR3 hR4 d hd hx rfl (by show (3 : Int) ≠ 2; decide) hi1 c4 hc4 hic hlow hi _ rfl (hW1 _) (htk _)).mono ?_
  rintro e w2 ⟨rfl, B, hB2, hR5, hk5⟩
  have HZ := Lib.hid (And.intro hB2 (And.intro hR5 hk5))
  clear hR hR2 hR3 hR4 hd hc4 hlow hW1 htk hsz hB2 hR5 hk5
  go_wp2_with fail
  go_ret2
  obtain ⟨hB2, hR5, hk5⟩ := HZ.out
  refine ⟨rfl, B, w0.heap.size, by have := hK.size; omega, hsz0, hR5, ?_⟩
  refine hK.trans hk5 (fun _ _ x => x.elim) (fun b hb e => ?_)
  intro e2
  apply e
  show (S.add i (linkNd w0.heap.size t)).own b = none
  rw [add_own (by show b ≠ w0.heap.size; omega) (by simp [linkNd]) (by simp [linkNd])]
  exact e2
end
end Go.Proofs.YtdafneilalompaaGreatDoor
