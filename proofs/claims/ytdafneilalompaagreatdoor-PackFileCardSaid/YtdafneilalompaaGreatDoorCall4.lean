/- The file that a path leads to; writing into it, and setting its size (no smaller one). Conditions: those that each theorem names. -/
import Derived.Test.YtdafneilalompaaGreatDoorCallB
namespace Go.Proofs.YtdafneilalompaaGreatDoor
open Go Go.RowKit
open Go.ChangeMaps (setBlock)

/-- What file answers. -/
def fileR (S : St) (s : ByteArray) : Int × Int :=
  if (toR S s true).2 ≠ 0 then (0, (toR S s true).2) else if (S.nd (toR S s true).1.2.2).kind = 2 then (0, 170) else ((toR S s true).1.2.2, 0)

set_option maxRecDepth 100000 in
set_option maxHeartbeats 2000000 in
theorem file_any {w : World} {S : St} (h : Rep w S) (hw : S.Wf) (s : ByteArray) (hs : s.size ≤ 9000000000000000000) (F : Int × Int) (hF : fileR S s = F) :
    Calls Tryz.prog 120 #[.pointer (some ⟨S.F, 0, none⟩), .string s] w fun e w' => e = .returned (.tuple #[.int .i64 F.1, .int .i64 F.2]) ∧ Keeps (fun _ => False) w w' := by
  have HF := Lib.hid hF
  clear hF
  obtain ⟨R, hR⟩ : ∃ R, toR S s true = R := ⟨_, rfl⟩
  have hok : R.2 = 0 → R.1.2.2 ∈ S.keys := fun e => by have := (toR_ok hw s true (by rw [hR]; exact e)).2; rw [hR] at this; exact this
  have HOk := Lib.hid hok
  have HR := Lib.hid hR
  clear hok hR
  go_enter Tryz.func120, Tryz.ntmps120
  go_wp2_with fail
  refine (to_any h hw s hs true R HR.out).mono ?_
  rintro e w1 ⟨v, rfl, ⟨cv, rfl, hrow⟩, hk1⟩
  obtain ⟨a, c, rfl⟩ := ownsRow_form hrow
  clear hrow
  by_cases he : R.2 = 0
  · have hin := HOk.out he
    have hFR : F = if (S.nd R.1.2.2).kind = 2 then (0, 170) else (R.1.2.2, 0) := by rw [← HF.out, fileR, HR.out, if_neg (by simp [he])]
    rw [he]
    obtain ⟨n, hn⟩ : ∃ n, R.1.2.2 = n := ⟨_, rfl⟩
    rw [hn] at hin hFR ⊢
    have hR2 := (h.keeps hk1 (fun _ _ x => x)).alloc (.cells #[.slice a R.1.1.length c, .string R.1.2.1, .int .i64 n] 201)
    have hK2 := hk1.alloc (.cells #[.slice a R.1.1.length c, .string R.1.2.1, .int .i64 n] 201)
    have hb := (hR2.nds n hin).blk
    have hc := hb.cell 0
    have HFR := Lib.hid hFR
    clear he hn hFR hb
    by_cases hk : (S.nd n).kind = 2
    · have hkb : ((S.nd n).kind == 2) = true := by simp [hk]
      have HK := Lib.hid hk
      clear hk
      go_wp2_with (first | (go_at_call 121; refine (at_any hR2 n).mono ?_; rintro e w' ⟨rfl, rfl⟩; simp only [hin, if_true, ndPtr]) | (go_at_call 129; refine (isDir_any _ _ _ hc).mono ?_; rintro e w' ⟨rfl, rfl⟩; rw [hkb]) | fail)
      go_ret2
      rw [HFR.out, if_pos HK.out]
      exact ⟨rfl, hK2⟩
    · have hkb : ((S.nd n).kind == 2) = false := by simpa using hk
      have HK := Lib.hid hk
      clear hk
      go_wp2_with (first | (go_at_call 121; refine (at_any hR2 n).mono ?_; rintro e w' ⟨rfl, rfl⟩; simp only [hin, if_true, ndPtr]) | (go_at_call 129; refine (isDir_any _ _ _ hc).mono ?_; rintro e w' ⟨rfl, rfl⟩; rw [hkb]) | fail)
      go_ret2
      rw [HFR.out, if_neg HK.out]
      exact ⟨rfl, hK2⟩
  · have hFR : F = (0, R.2) := by rw [← HF.out, fileR, HR.out, if_pos he]
    have HFR := Lib.hid hFR
    clear hFR
    go_wp2_with fail
    go_ret2
    rw [HFR.out]
    exact ⟨rfl, hk1.alloc _⟩

set_option maxRecDepth 100000 in
set_option maxHeartbeats 2000000 in
theorem open_file {w : World} {S : St} (h : Rep w S) (i : Int) (hi : i ∈ S.keys) (hk : (S.nd i).kind = 1) :
    Calls Tryz.prog 188 #[.pointer (some ⟨S.F, 0, none⟩), .int .i64 i] w fun e w' => e = .returned (.tuple #[ndPtr (S.nd i), .int .i64 0]) ∧ w = w' := by
  have hb := (h.nds i hi).blk
  have hc : w.cell? ⟨(S.nd i).blk, 0, none⟩ = some (.int .i64 1) := by rw [hb.cell]; simp [Nd.cells, hk]
  clear hk
  have HB := Lib.hid hb
  clear hb
  go_enter Tryz.func188, Tryz.ntmps188
  go_wp2_with (first | (go_at_call 229; refine (has_any h i).mono ?_; rintro e w' ⟨rfl, rfl⟩; simp only [hi, if_true, ndPtr]) | (go_at_call 129; refine (isDir_any _ _ _ hc).mono ?_; rintro e w' ⟨rfl, rfl⟩) | fail)
  go_ret2
  exact ⟨rfl, rfl⟩

/-- What setting a size that is no smaller leaves. -/
def Grew (S : St) (i : Int) (z : Int) (w w' : World) : Prop :=
  ∃ u' us', Rep w' ((S.put i { S.nd i with size := z }).undos u' us') ∧ us'.length ≤ 1 ∧ Fr S.own S.B w w'
set_option maxRecDepth 100000 in
set_option maxHeartbeats 2000000 in
theorem cut_grow {w : World} {S : St} (h : Rep w S) {i : Int} (hi : i ∈ S.keys) (N : Nat) (hN : (S.nd i).blk = N) (z sz : Int) (hsz : (S.nd i).size = sz) (h1 : sz ≤ z) (h2 : z ≤ 8459264) (hn : S.us.length ≤ 100000) :
    Calls Tryz.prog 192 #[.pointer (some ⟨S.F, 0, none⟩), .pointer (some ⟨N, 0, none⟩), .int .i64 z] w fun e w' => e = .returned (.int .i64 0) ∧ Grew S i z w w' := by
  have hb := (h.nds i hi).blk
  have hc : w.cell? ⟨N, 2, none⟩ = some (.int .i64 sz) := by rw [← hN, hb.cell]; simp [Nd.cells, hsz]
  have hl : N < w.heap.size := hN ▸ hb.lt
  have HN := Lib.hid hN
  have HZ := Lib.hid hsz
  clear hN hsz hb
  by_cases he : z = sz
  · subst he
    go_enter Tryz.func192, Tryz.ntmps192
    go_wp2_with fail
    go_ret
    refine ⟨rfl, S.u, [], ?_, by simp, (Fr.refl _ _ _).alloc _⟩
    have : (S.put i { S.nd i with size := z }).undos S.u [] = S := by
      rw [← HZ.out]
      simp only [St.undos, St.put, List.append_nil]
      cases S
      congr 1
      funext j
      split
      · rename_i e; subst e; rfl
      · rfl
    rw [this]; exact h.alloc _
  · go_enter Tryz.func192, Tryz.ntmps192
    go_wp2_with fail
    refine (resize_rep (h.alloc _) hi z N HN.out.symm sz HZ.out (by omega)).mono ?_
    rintro e w2 ⟨rfl, u2, bN, bB, hR2, hK2, _⟩
    go_wp2
    go_ret
    have f2 := Fr.of (h.alloc _) hK2
    exact ⟨rfl, u2, [.func (.func 237) #[] #[.pointer (some ⟨bB, 0, none⟩), .pointer (some ⟨bN, 0, none⟩)]], hR2, by simp, ((Fr.refl _ _ w).alloc _).trans f2⟩
end Go.Proofs.YtdafneilalompaaGreatDoor
