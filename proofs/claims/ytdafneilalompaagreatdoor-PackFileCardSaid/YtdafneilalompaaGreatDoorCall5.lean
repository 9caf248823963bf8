/- WriteAt, CutAt (upward). Conditions: those that each theorem names. -/
import Derived.Test.YtdafneilalompaaGreatDoorCall4
namespace Go.Proofs.YtdafneilalompaaGreatDoor
open Go Go.RowKit
open Go.ChangeMaps (setBlock)

/-- A file's node behind a write. -/
def Nd.wroteAt (x : Nd) (b : Nat) (L : List (Int × List UInt8)) (off : Nat) (s : ByteArray) : Nd :=
  { x with pcs := some (b, wrote off s.data.toList 0 L), size := if s.size = 0 then x.size else max x.size (off + s.size : Nat) }

set_option maxRecDepth 100000 in
set_option maxHeartbeats 2000000 in
theorem WriteAt1 {W : World} (F N bF bN bO bS : Nat) (off : Nat) (s : ByteArray) (kF : Blk W bF #[.pointer (some ⟨F, 0, none⟩)] 25) (kN : Blk W bN #[.pointer (some ⟨N, 0, none⟩)] 107) (kO : Blk W bO #[.int .i64 off] 3) (kS : Blk W bS #[.string s] 9)
    (Q : World → Prop) (hwr : Calls Tryz.prog 190 #[.pointer (some ⟨F, 0, none⟩), .pointer (some ⟨N, 0, none⟩), .int .i64 off, .string s] W fun e w' => e = .returned (.int .i64 0) ∧ Q w') :
    Calls Tryz.prog 189 #[.pointer (some ⟨bF, 0, none⟩), .pointer (some ⟨bN, 0, none⟩), .pointer (some ⟨bO, 0, none⟩), .pointer (some ⟨bS, 0, none⟩)] W fun e w' => e = .returned (.int .i64 0) ∧ Q w' := by
  have c1 : W.cell? ⟨bF, 0, none⟩ = some (.pointer (some ⟨F, 0, none⟩)) := kF.cell 0
  have c2 : W.cell? ⟨bN, 0, none⟩ = some (.pointer (some ⟨N, 0, none⟩)) := kN.cell 0
  have c3 : W.cell? ⟨bO, 0, none⟩ = some (.int .i64 off) := kO.cell 0
  have c4 : W.cell? ⟨bS, 0, none⟩ = some (.string s) := kS.cell 0
  have HW := Lib.hid hwr
  clear hwr kF kN kO kS
  go_enter Tryz.func189, Tryz.ntmps189
  go_wp2_with fail
  refine HW.out.mono ?_
  rintro e w' ⟨rfl, hq⟩
  go_wp2_with fail
  go_ret
  exact ⟨rfl, hq⟩
set_option maxRecDepth 100000 in
set_option maxHeartbeats 2000000 in
theorem CutAt1 {W : World} (F N bF bN bZ : Nat) (z : Int) (kF : Blk W bF #[.pointer (some ⟨F, 0, none⟩)] 25) (kN : Blk W bN #[.pointer (some ⟨N, 0, none⟩)] 107) (kZ : Blk W bZ #[.int .i64 z] 3)
    (Q : World → Prop) (hwr : Calls Tryz.prog 192 #[.pointer (some ⟨F, 0, none⟩), .pointer (some ⟨N, 0, none⟩), .int .i64 z] W fun e w' => e = .returned (.int .i64 0) ∧ Q w') :
    Calls Tryz.prog 191 #[.pointer (some ⟨bF, 0, none⟩), .pointer (some ⟨bN, 0, none⟩), .pointer (some ⟨bZ, 0, none⟩)] W fun e w' => e = .returned (.int .i64 0) ∧ Q w' := by
  have c1 : W.cell? ⟨bF, 0, none⟩ = some (.pointer (some ⟨F, 0, none⟩)) := kF.cell 0
  have c2 : W.cell? ⟨bN, 0, none⟩ = some (.pointer (some ⟨N, 0, none⟩)) := kN.cell 0
  have c3 : W.cell? ⟨bZ, 0, none⟩ = some (.int .i64 z) := kZ.cell 0
  have HW := Lib.hid hwr
  clear hwr kF kN kZ
  go_enter Tryz.func191, Tryz.ntmps191
  go_wp2_with fail
  refine HW.out.mono ?_
  rintro e w' ⟨rfl, hq⟩
  go_wp2_with fail
  go_ret
  exact ⟨rfl, hq⟩

/-- A call whose work changes the tree's own blocks alone, and goes well. -/
theorem call_own {w : World} {S : St} (h : Rep w S) (hw : S.Wf) (f : Nat) (cap : Array Value) (hen : ∀ W : World, (callFunc f cap).run Tryz.prog W = .ok (.enter f cap) W) (S1 : St) (hF1 : S1.F = S.F) (ho : S1.own = S.own) (hW1 : S1.Wf) (hg0 : S1.g0 = S.g0) (hg3 : S1.g3 = S.g3) (htk : S1.taken ≤ S.g0 - S.g3)
    (hf : ∀ W, Rep W (S.fresh W.heap.size) → Keeps (fun b => b = S.F) w W → Calls Tryz.prog f cap W fun e w' => e = .returned (.int .i64 0) ∧ ∃ u' us', Rep w' ((S1.fresh W.heap.size).undos u' us') ∧ us'.length ≤ 100000 ∧ Fr S.own W.heap.size W w') :
    Calls Tryz.prog 125 #[.pointer (some ⟨S.F, 0, none⟩), .func (.func f) #[] cap] w fun e w' => e = .returned (.int .i64 0) ∧ ∃ B, w.heap.size ≤ B ∧ Rep w' (S1.fresh B) ∧ Keeps (fun b => S.own b ≠ none) w w' := by
  have hg := hw.g
  refine (call_plain h f cap hen (fun _ => False) (fun _ x => x.elim) (fun r S' _ => r = 0 ∧ S'.fresh S'.B = S1.fresh S'.B ∧ S'.own = S.own) ?_).mono ?_
  · intro W hRW hKW
    refine (hf W hRW hKW).mono ?_
    rintro e w2 ⟨rfl, u', us', hR3, hl3, hf3⟩
    refine ⟨0, _, rfl, hR3, hF1, rfl, ?_, ?_, fun h => absurd rfl h, ?_, ?_, rfl, rfl, ho⟩
    · refine (Fr.owned hf3).mono ?_
      intro b _ e
      left
      show S1.own b ≠ none
      rw [ho]; exact e
    · intro b hb
      show S1.own b = none
      rw [ho]; exact h.free (by have := h.B; omega)
    · show ([] ++ us').length ≤ _
      simp; omega
    · intro _
      refine ⟨hW1.nds, by have := hW1.few; exact Nat.le_trans this (by omega), ?_, ?_, ?_, ?_⟩
      · show 0 ≤ S1.g3; rw [hg3]; exact hg.1
      · show S1.g0 ≤ _; rw [hg0]; omega
      · show S1.g3 ≤ S1.g0; rw [hg0, hg3]; exact hg.2.1
      · show S1.taken ≤ S1.g0 - S1.g3; rw [hg0, hg3]; exact htk
  · rintro e w2 ⟨r, S', w3, rfl, hR2', hF', ⟨rfl, e1, e2⟩, hB', hk2, hk3⟩
    refine ⟨rfl, S'.B, hB', ?_, ?_⟩
    · rw [← e1]; exact hR2'
    · rw [e2] at hk2
      exact hk2.mono (fun b _ e => e.elim id (fun x => x.elim))

set_option maxRecDepth 100000 in
set_option maxHeartbeats 2000000 in
theorem WriteAt_ok {w : World} {S : St} (h : Rep w S) (hw : S.Wf) {i : Int} (hi : i ∈ S.keys) (hk : (S.nd i).kind = 1) {b : Nat} {L : List (Int × List UInt8)} (hp : (S.nd i).pcs = some (b, L)) (off : Nat) (s : ByteArray) (hs : s.size ≤ 16384) (ho : off + s.size ≤ 8459264)
    (S1 : St) (hS1 : S1 = S.put i ((S.nd i).wroteAt b L off s)) (hW1 : S1.Wf) (htk : S1.taken ≤ S.g0 - S.g3) :
    Calls Tryz.prog 123 #[.pointer (some ⟨S.F, 0, none⟩), .int .i64 i, .int .i64 off, .string s] w fun e w' => e = .returned (.int .i64 0) ∧ ∃ B, w.heap.size ≤ B ∧ Rep w' (S1.fresh B) ∧ Keeps (fun b => S.own b ≠ none) w w' := by
  have hmf := run_makeFunc_any
  obtain ⟨N, hN⟩ : ∃ N, (S.nd i).blk = N := ⟨_, rfl⟩
  have HA := Lib.hid (And.intro hk (And.intro hp (And.intro hS1 (And.intro hW1 (And.intro htk hN)))))
  clear hp hS1 hW1 htk
  have hop := open_file (((h.alloc (.cells #[.pointer (some ⟨S.F, 0, none⟩)] 25)).alloc (.cells #[.int .i64 off] 3)).alloc (.cells #[.string s] 9)) i hi hk
  simp only [ndPtr, hN] at hop
  have HOp := Lib.hid hop
  clear hop hk hN
  go_enter Tryz.func123, Tryz.ntmps123
  go_wp2_with (first | (go_at_call 188; refine HOp.out.mono ?_; rintro e w' ⟨rfl, rfl⟩) | fail)
  obtain ⟨hk, hp, hS1, hW1, htk, hN⟩ := HA.out
  have b1 := (((Blk.new w #[.pointer (some ⟨S.F, 0, none⟩)] 25).alloc (.cells #[.int .i64 off] 3)).alloc (.cells #[.string s] 9)).alloc (.cells #[.pointer (some ⟨N, 0, none⟩)] 107)
  have b2 := ((Blk.new' (w := w.alloc (.cells #[.pointer (some ⟨S.F, 0, none⟩)] 25)) (n := w.heap.size + 1) (by simp) #[.int .i64 off] 3).alloc (.cells #[.string s] 9)).alloc (.cells #[.pointer (some ⟨N, 0, none⟩)] 107)
  have b3 := (Blk.new' (w := (w.alloc (.cells #[.pointer (some ⟨S.F, 0, none⟩)] 25)).alloc (.cells #[.int .i64 off] 3)) (n := w.heap.size + 1 + 1) (by simp) #[.string s] 9).alloc (.cells #[.pointer (some ⟨N, 0, none⟩)] 107)
  have b4 := Blk.new' (w := ((w.alloc (.cells #[.pointer (some ⟨S.F, 0, none⟩)] 25)).alloc (.cells #[.int .i64 off] 3)).alloc (.cells #[.string s] 9)) (n := w.heap.size + 1 + 1 + 1) (by simp) #[.pointer (some ⟨N, 0, none⟩)] 107
  have hK : Keeps (fun _ => False) w ((((w.alloc (.cells #[.pointer (some ⟨S.F, 0, none⟩)] 25)).alloc (.cells #[.int .i64 off] 3)).alloc (.cells #[.string s] 9)).alloc (.cells #[.pointer (some ⟨N, 0, none⟩)] 107)) := ((((Keeps.refl _ _).alloc _).alloc _).alloc _).alloc _
  generalize ((((w.alloc (.cells #[.pointer (some ⟨S.F, 0, none⟩)] 25)).alloc (.cells #[.int .i64 off] 3)).alloc (.cells #[.string s] 9)).alloc (.cells #[.pointer (some ⟨N, 0, none⟩)] 107)) = w1 at *
  have hsz := hw.sizes i hi
  refine (call_own (h.keeps hK (fun _ _ x => x)) hw 189 _ (enters_of Tryz.func189 (by kernel_rfl) rfl _) S1 (by rw [hS1]; rfl) (by rw [hS1]; rfl) hW1 (by rw [hS1]; rfl) (by rw [hS1]; rfl) htk ?_).mono ?_
  · intro W hRW hKW
    have hne : ∀ b, w.heap.size ≤ b → b ≠ S.F := fun b hb e => by have := h.Flt; have := h.B; omega
    refine (WriteAt1 S.F N _ _ _ _ off s (b1.keeps hKW (hne _ (by omega))) (b4.keeps hKW (hne _ (by omega))) (b2.keeps hKW (hne _ (by omega))) (b3.keeps hKW (hne _ (by omega))) _
      (write_ok hRW hi hp (hw.whole i hi b L hp) N hN off s hs ho _ rfl hsz.1 hsz.2 (by simp [St.fresh]))).mono ?_
    rintro e w2 ⟨rfl, u', us', hR3, hl3, hf3⟩
    refine ⟨rfl, u', us', ?_, by omega, hf3⟩
    rw [hS1]; exact hR3
  · rintro e w2 ⟨rfl, B, hB, hR2, hk2⟩
    clear hk hp hS1 hN
    go_wp2_with fail
    go_ret
    exact ⟨rfl, B, by have := hK.size; omega, hR2, hK.trans hk2 (fun _ _ x => x.elim) (fun _ _ x => x)⟩

set_option maxRecDepth 100000 in
set_option maxHeartbeats 2000000 in
theorem CutAt_ok {w : World} {S : St} (h : Rep w S) (hw : S.Wf) {i : Int} (hi : i ∈ S.keys) (hk : (S.nd i).kind = 1) (z sz : Int) (hsz : (S.nd i).size = sz) (h1 : sz ≤ z) (h2 : z ≤ 8459264)
    (S1 : St) (hS1 : S1 = S.put i { S.nd i with size := z }) (hW1 : S1.Wf) (htk : S1.taken ≤ S.g0 - S.g3) :
    Calls Tryz.prog 124 #[.pointer (some ⟨S.F, 0, none⟩), .int .i64 i, .int .i64 z] w fun e w' => e = .returned (.int .i64 0) ∧ ∃ B, w.heap.size ≤ B ∧ Rep w' (S1.fresh B) ∧ Keeps (fun b => S.own b ≠ none) w w' := by
  have hmf := run_makeFunc_any
  have hz0 : 0 ≤ z := by have := (hw.sizes i hi).1; omega
  obtain ⟨N, hN⟩ : ∃ N, (S.nd i).blk = N := ⟨_, rfl⟩
  have HA := Lib.hid (And.intro hk (And.intro hsz (And.intro hS1 (And.intro hW1 (And.intro htk hN)))))
  clear hsz hS1 hW1 htk
  have hop := open_file ((h.alloc (.cells #[.pointer (some ⟨S.F, 0, none⟩)] 25)).alloc (.cells #[.int .i64 z] 3)) i hi hk
  simp only [ndPtr, hN] at hop
  have HOp := Lib.hid hop
  clear hop hk hN
  go_enter Tryz.func124, Tryz.ntmps124
  go_wp2_with (first | (go_at_call 188; refine HOp.out.mono ?_; rintro e w' ⟨rfl, rfl⟩) | fail)
  obtain ⟨hk, hsz, hS1, hW1, htk, hN⟩ := HA.out
  have b1 := ((Blk.new w #[.pointer (some ⟨S.F, 0, none⟩)] 25).alloc (.cells #[.int .i64 z] 3)).alloc (.cells #[.pointer (some ⟨N, 0, none⟩)] 107)
  have b2 := (Blk.new' (w := w.alloc (.cells #[.pointer (some ⟨S.F, 0, none⟩)] 25)) (n := w.heap.size + 1) (by simp) #[.int .i64 z] 3).alloc (.cells #[.pointer (some ⟨N, 0, none⟩)] 107)
  have b3 := (Blk.new' (w := (w.alloc (.cells #[.pointer (some ⟨S.F, 0, none⟩)] 25)).alloc (.cells #[.int .i64 z] 3)) (n := w.heap.size + 1 + 1) (by simp) #[.pointer (some ⟨N, 0, none⟩)] 107)
  have hK : Keeps (fun _ => False) w (((w.alloc (.cells #[.pointer (some ⟨S.F, 0, none⟩)] 25)).alloc (.cells #[.int .i64 z] 3)).alloc (.cells #[.pointer (some ⟨N, 0, none⟩)] 107)) := (((Keeps.refl _ _).alloc _).alloc _).alloc _
  generalize (((w.alloc (.cells #[.pointer (some ⟨S.F, 0, none⟩)] 25)).alloc (.cells #[.int .i64 z] 3)).alloc (.cells #[.pointer (some ⟨N, 0, none⟩)] 107)) = w1 at *
  refine (call_own (h.keeps hK (fun _ _ x => x)) hw 191 _ (enters_of Tryz.func191 (by kernel_rfl) rfl _) S1 (by rw [hS1]; rfl) (by rw [hS1]; rfl) hW1 (by rw [hS1]; rfl) (by rw [hS1]; rfl) htk ?_).mono ?_
  · intro W hRW hKW
    have hne : ∀ b, w.heap.size ≤ b → b ≠ S.F := fun b hb e => by have := h.Flt; have := h.B; omega
    refine (CutAt1 S.F N _ _ _ z (b1.keeps hKW (hne _ (by omega))) (b3.keeps hKW (hne _ (by omega))) (b2.keeps hKW (hne _ (by omega))) _
      (cut_grow hRW hi N hN z sz hsz h1 h2 (by simp [St.fresh]))).mono ?_
    rintro e w2 ⟨rfl, u', us', hR3, hl3, hf3⟩
    refine ⟨rfl, u', us', ?_, by omega, hf3⟩
    rw [hS1]; exact hR3
  · rintro e w2 ⟨rfl, B, hB, hR2, hk2⟩
    clear hk hsz hS1 hN
    go_wp2_with fail
    go_ret
    exact ⟨rfl, B, by have := hK.size; omega, hR2, hK.trans hk2 (fun _ _ x => x.elim) (fun _ _ x => x)⟩
end Go.Proofs.YtdafneilalompaaGreatDoor
