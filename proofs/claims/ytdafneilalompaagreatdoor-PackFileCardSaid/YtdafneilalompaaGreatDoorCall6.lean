/- link. Conditions: those that each theorem names. -/
import Derived.Test.YtdafneilalompaaGreatDoorCall5
namespace Go.Proofs.YtdafneilalompaaGreatDoor
open Go Go.RowKit
open Go.ChangeMaps (setBlock)

theorem nameR_make {S : St} {s : ByteArray} (h : (nameR S s).2 = 0) : (makeR s).2.2 = 0 := by
  unfold nameR at h
  split at h
  · rename_i h2; exact absurd h h2
  · rename_i h2; simpa using h2
theorem toR_parse {S : St} {s : ByteArray} {f : Bool} (h : (toR S s f).2 = 0) : (parseR s).2 = 0 := by
  unfold toR at h
  split at h
  · rename_i h2; exact absurd h h2
  · rename_i h2; simpa using h2

set_option maxRecDepth 100000 in
set_option maxHeartbeats 2000000 in
theorem link1_ok {W : World} {S : St} (h : Rep W S) (hw : S.Wf) (bO bT bF : Nat) (old other : ByteArray)
    (kO : Blk W bO #[.string old] 9) (kT : Blk W bT #[.string other] 9) (kF : Blk W bF #[.pointer (some ⟨S.F, 0, none⟩)] 25)
    (oO : S.own bO = none) (oT : S.own bT = none) (oF : S.own bF = none)
    (hs : old.size ≤ 9000000000000000000) (ht : other.size ≤ 9000000000000000000) (RF R : (List Int × ByteArray × Int) × Int) (hRF : toR S old false = RF) (hRF2 : RF.2 = 0) (n : Int) (hn0 : RF.1.2.2 = n) (hk : (S.nd n).kind ≠ 2) (hl : (S.nd n).links < 1000)
    (hR : nameR S other = R) (hR2 : R.2 = 0) (hR3 : R.1.2.2 = 0) (hR4 : R.1.1.length ≤ 32) (d : Int) (hd : lastI R.1.1 = d) (hn : S.us.length ≤ 1000) :
    Calls Tryz.prog 139 #[.pointer (some ⟨bO, 0, none⟩), .pointer (some ⟨bT, 0, none⟩), .pointer (some ⟨bF, 0, none⟩)] W fun e w' => e = .returned (.int .i64 0) ∧
      ∃ u' us', Rep w' (((S.put n { S.nd n with links := (S.nd n).links + 1 }).put d ((S.nd d).grown R.1.2.1 n)).undos u' us') ∧ us'.length ≤ 10 ∧ Fr S.own S.B W w' := by
  have hok := nameR_ok hw other (by rw [hR]; exact hR2)
  have hokF := (toR_ok hw old false (by rw [hRF]; exact hRF2)).2
  rw [hR] at hok
  rw [hRF, hn0] at hokF
  have hmk := nameR_make (S := S) (s := other) (by rw [hR]; exact hR2)
  have hpk := toR_parse (S := S) (s := old) (f := false) (by rw [hRF]; exact hRF2)
  obtain ⟨p, e0⟩ := R
  simp only at hR2 hR3 hR4 hok hd ⊢
  obtain ⟨chain, nm, ino⟩ := p
  simp only at hR3 hR4 hok hd ⊢
  subst hR2 hR3
  obtain ⟨pF, eF⟩ := RF
  simp only at hRF2 hn0
  obtain ⟨chainF, nmF, inoF⟩ := pF
  simp only at hn0
  subst hRF2 hn0
  have HR := Lib.hid hR
  have HRF := Lib.hid hRF
  have HD := Lib.hid hd
  have HMk := Lib.hid hmk
  have HPk := Lib.hid hpk
  have cO : W.cell? ⟨bO, 0, none⟩ = some (.string old) := kO.cell 0
  have cT : W.cell? ⟨bT, 0, none⟩ = some (.string other) := kT.cell 0
  clear hR hRF hd hmk hpk
  go_enter Tryz.func139, Tryz.ntmps139
  go_wp2_with fail
  refine (Parse_any old hs _).mono ?_
  rintro e w1 ⟨v1, rfl, hns1, hk1⟩
  rw [HPk.out]
  obtain ⟨a1, c1, hv1⟩ := ownsRow_form (show w1.ownsRow W.heap.size 9 1 v1 (parseR old).1.length _ from hns1)
  rw [hv1]
  have cT1 : w1.cell? ⟨bT, 0, none⟩ = some (.string other) := (kT.keeps hk1 (fun x => x)).cell 0
  clear hv1 hns1 cO cT
  go_wp2_with fail
  refine (Make_any other ht _).mono ?_
  rintro e w2 ⟨v2, rfl, hk2, hps2⟩
  rw [HMk.out]
  obtain ⟨a2, c2, hv2, _⟩ := hps2
  rw [hv2]
  have hk02 := hk1.then hk2
  have cO2 : w2.cell? ⟨bO, 0, none⟩ = some (.string old) := (kO.keeps hk02 (fun x => x)).cell 0
  have cF2 : w2.cell? ⟨bF, 0, none⟩ = some (.pointer (some ⟨S.F, 0, none⟩)) := (kF.keeps hk02 (fun x => x)).cell 0
  clear hv2 cT1 hk1 hk2
  go_wp2_with fail
  refine (to_any (h.keeps hk02 (fun _ _ x => x)) hw old hs false _ HRF.out).mono ?_
  rintro e w3 ⟨v3, rfl, ⟨cv3, rfl, hrow3⟩, hk3⟩
  obtain ⟨a3, c3, hv3⟩ := ownsRow_form hrow3
  subst hv3
  have hk03 := hk02.then hk3
  have cT3 : w3.cell? ⟨bT, 0, none⟩ = some (.string other) := (kT.keeps hk03 (fun x => x)).cell 0
  have cF3 : w3.cell? ⟨bF, 0, none⟩ = some (.pointer (some ⟨S.F, 0, none⟩)) := (kF.keeps hk03 (fun x => x)).cell 0
  have lT := (kT.keeps hk03 (fun x => x)).lt
  have lF := (kF.keeps hk03 (fun x => x)).lt
  have lTk := (kT.keeps hk03 (fun x => x)).ltk
  have lFk := (kF.keeps hk03 (fun x => x)).ltk
  clear hrow3 cO2 cF2 hk3
  go_wp2_with fail
  have hkA := hk03.alloc (.cells #[.slice a3 chainF.length c3, .string nmF, .int .i64 inoF] 201)
  have kPA := Blk.new w3 #[.slice a3 chainF.length c3, .string nmF, .int .i64 inoF] 201
  generalize hwA : w3.alloc (.cells #[.slice a3 chainF.length c3, .string nmF, .int .i64 inoF] 201) = wA at *
  have hszA : w3.heap.size < wA.heap.size := kPA.lt
  clear hwA
  refine (name_any (h.keeps hkA (fun _ _ x => x)) hw other ht _ HR.out).mono ?_
  rintro e w4 ⟨v4, rfl, hpv, hk4⟩
  obtain ⟨g, m, cc, rfl, hm, hgB, hgl, hlast, cur, hcur⟩ := hpv.open hok.ne
  simp only at hm hlast ⊢
  have hdk : d ∈ S.keys ∧ (S.nd d).kind = 2 := hok.dirs d (HD.out ▸ lastI_mem hok.ne)
  rw [HD.out] at hlast
  have hm32 : m + 1 ≤ 32 := by omega
  have HM := Lib.hid hm
  have hk04 := hkA.then hk4
  have hR4' := h.keeps hk04 (fun _ _ x => x)
  have kPA4 := kPA.keeps hk4 (fun x => x)
  have kF4 := kF.keeps hk04 (fun x => x)
  have cF4 : w4.cell? ⟨bF, 0, none⟩ = some (.pointer (some ⟨S.F, 0, none⟩)) := kF4.cell 0
  have cPA0 : w4.cell? ⟨w3.heap.size, 0, none⟩ = some (.slice a3 chainF.length c3) := kPA4.cell 0
  have cPA2 : w4.cell? ⟨w3.heap.size, 2, none⟩ = some (.int .i64 inoF) := kPA4.cell 2
  have lF4 := kF4.lt
  have lF4k := kF4.ltk
  have lP4 := kPA4.lt
  have lP4k := kPA4.ltk
  obtain ⟨N, hN⟩ : ∃ N, (S.nd inoF).blk = N := ⟨_, rfl⟩
  obtain ⟨kk, hkk⟩ : ∃ kk, (S.nd inoF).kind = kk := ⟨_, rfl⟩
  obtain ⟨ll, hll⟩ : ∃ ll, (S.nd inoF).links = ll := ⟨_, rfl⟩
  have hb4 := (hR4'.nds inoF hokF).blk
  have cK : w4.cell? ⟨N, 0, none⟩ = some (.int .i64 kk) := by rw [← hN, ← hkk]; exact hb4.cell 0
  have cL : w4.cell? ⟨N, 1, none⟩ = some (.int .i64 ll) := by rw [← hN, ← hll]; exact hb4.cell 1
  have lN : N < w4.heap.size := hN ▸ hb4.lt
  have lNk : ∀ j, N < w4.heap.size + j := fun j => by omega
  rw [hkk] at hk
  rw [hll] at hl
  have hkb : (kk == 2) = false := by simpa using hk
  have hll0 := (hw.links inoF hokF).1
  rw [hll] at hll0
  have HN := Lib.hid hN
  have HL := Lib.hid hll
  have HK := Lib.hid hkk
  have hat : ∀ W', Rep W' S → Calls Tryz.prog 121 #[.pointer (some ⟨S.F, 0, none⟩), .int .i64 inoF] W' fun e w' => e = .returned (.pointer (some ⟨N, 0, none⟩)) ∧ W' = w' := fun W' hW => (at_any hW inoF).mono (by rintro e w' ⟨rfl, rfl⟩; simp only [hokF, if_true, ndPtr, HN.out]; exact ⟨trivial, trivial⟩)
  have HAt := Lib.hid hat
  clear hat hm hpv cT3 cF3 lT lF lTk lFk hN hkk hll hb4
  go_wp2_with (first | (go_at_call 121; refine (HAt.out _ (hR4'.alloc _)).mono ?_; rintro e w' ⟨rfl, rfl⟩) | (go_at_call 129; refine (isDir_any _ _ kk (by rw [World.cell?_alloc_past _ _ _ lN]; exact cK)).mono ?_; rintro e w' ⟨rfl, rfl⟩; rw [hkb]) | fail)
  have hB0 := h.B
  have hs04 := hk04.size
  have hs03 := hk03.size
  have hs4A := hk4.size
  have kPB := Blk.new w4 #[.slice (some ⟨g, 0, none⟩) (m + 1) cc, .string nm, .int .i64 0] 201
  have kPA5 := kPA4.alloc (.cells #[.slice (some ⟨g, 0, none⟩) (m + 1) cc, .string nm, .int .i64 0] 201)
  have kF5 := kF4.alloc (.cells #[.slice (some ⟨g, 0, none⟩) (m + 1) cc, .string nm, .int .i64 0] 201)
  have kG5 := Blk.alloc (w := w4) hcur (.cells #[.slice (some ⟨g, 0, none⟩) (m + 1) cc, .string nm, .int .i64 0] 201)
  have hk05 := hk04.alloc (.cells #[.slice (some ⟨g, 0, none⟩) (m + 1) cc, .string nm, .int .i64 0] 201)
  have hlast5 : cur[m]? = some (.int .i64 d) := by rw [← hlast, Blk.cell (w := w4) hcur]
  have hR5 := hR4'.alloc (.cells #[.slice (some ⟨g, 0, none⟩) (m + 1) cc, .string nm, .int .i64 0] 201)
  refine (links_rep hR5 hokF ll 1 N HN.out.symm HL.out (by omega) (by omega) hll0 (by omega) (by omega)).mono ?_
  rintro e w6 ⟨rfl, u6, c6a, c6b, hR6, hk6, _⟩
  have hf56 := Fr.of hR5 hk6
  have kPB6 := hf56.blk kPB (by decide) (h.free (by omega))
  have kPA6 := hf56.blk kPA5 (by decide) (h.free (by omega))
  have kF6 := hf56.blk kF5 (by decide) oF
  have kG6 := hf56.blk kG5 (by decide) (h.free (by omega))
  have hf06 : Fr S.own S.B W w6 := (Fr.ofKeeps hk05).trans hf56
  have hdn : d ≠ inoF := fun e => hk (by rw [← HK.out, ← e]; exact hdk.2)
  obtain ⟨b, L, hnm, hmem⟩ := hw.dirs d hdk.1 hdk.2
  obtain ⟨hbl0, hbl1⟩ : 0 ≤ (S.nd d).blocks ∧ (S.nd d).blocks ≤ 16522 := by
    rcases (hw.nds d hdk.1).kind with ⟨h1, _⟩ | ⟨_, h1, h2⟩ | ⟨h1, _⟩
    · rw [hdk.2] at h1; cases h1
    · exact ⟨h1, h2⟩
    · rw [hdk.2] at h1; cases h1
  have hroom := hw.room d hdk.1 b L hnm
  have e6 : ((S.put inoF { S.nd inoF with links := ll + 1 }).undo u6 (.func (.func 197) #[] #[.pointer (some ⟨c6a, 0, none⟩), .pointer (some ⟨c6b, 0, none⟩)])).nd d = S.nd d := by simp [St.undo, St.put, hdn]
  have hput : ∀ w7, Keeps (fun _ => False) w6.drew w7 → Calls Tryz.prog 142 #[.pointer (some ⟨S.F, 0, none⟩), .int .i64 d, .string nm, .int .i64 inoF] w7 fun e w' => e = .returned (.tuple #[]) ∧
      (w'.cell? ⟨bF, 0, none⟩ = some (.pointer (some ⟨S.F, 0, none⟩)) ∧ w'.cell? ⟨w4.heap.size, 0, none⟩ = some (.slice (some ⟨g, 0, none⟩) (m + 1) cc) ∧ w'.cell? ⟨w4.heap.size, 1, none⟩ = some (.string nm) ∧ w'.cell? ⟨w4.heap.size, 2, none⟩ = some (.int .i64 0) ∧ w'.cell? ⟨w3.heap.size, 2, none⟩ = some (.int .i64 inoF)) ∧
      ∃ u' us', Rep w' (((S.put inoF { S.nd inoF with links := ll + 1 }).put d ((S.nd d).grown nm inoF)).undos u' us') ∧ us'.length ≤ 10 ∧ Fr S.own S.B W w' := by
    intro w7 hk7
    have hR7 := hR6.drew.keeps hk7 (fun _ _ x => x)
    have hp7 := put_any hR7 (i := d) hdk.1 (by rw [e6]; exact hnm) nm inoF (by rw [e6]; exact hbl0) (by rw [e6]; omega) (by rw [e6]; exact hroom) (by show (S.us ++ _).length ≤ _; rw [List.length_append]; simp; omega)
    refine hp7.mono ?_
    rintro e w' ⟨he, u', cls, hR8, hl8, hne8, hf8⟩
    have hf8' : Fr S.own S.B w7 w' := hf8
    have hf68 : Fr S.own S.B w6 w' := (((Fr.refl _ _ w6).drew).then hk7).trans hf8'
    have kF' := hf68.blk kF6 (by decide) oF
    have kPB' := hf68.blk kPB6 (by decide) (h.free (by omega))
    have kPA' := hf68.blk kPA6 (by decide) (h.free (by omega))
    refine ⟨he, ⟨kF'.cell 0, kPB'.cell 0, kPB'.cell 1, kPB'.cell 2, kPA'.cell 2⟩, u', (.func (.func 197) #[] #[.pointer (some ⟨c6a, 0, none⟩), .pointer (some ⟨c6b, 0, none⟩)]) :: cls, ?_, by simp; omega, hf06.trans hf68⟩
    rw [e6] at hR8
    have e : ((((S.put inoF { S.nd inoF with links := ll + 1 }).undo u6 (.func (.func 197) #[] #[.pointer (some ⟨c6a, 0, none⟩), .pointer (some ⟨c6b, 0, none⟩)])).put d ((S.nd d).grown nm inoF)).undos u' cls) =
        (((S.put inoF { S.nd inoF with links := ll + 1 }).put d ((S.nd d).grown nm inoF)).undos u' ((.func (.func 197) #[] #[.pointer (some ⟨c6a, 0, none⟩), .pointer (some ⟨c6b, 0, none⟩)]) :: cls)) := by
      simp only [St.undo, St.undos, St.put, List.append_assoc, List.cons_append, List.nil_append]
    rw [e] at hR8
    exact hR8
  have hdir : Calls Tryz.prog 131 #[.agg #[.slice (some ⟨g, 0, none⟩) (m + 1) cc, .string nm, .int .i64 0]] w6.drew fun e w' => e = .returned (.int .i64 d) ∧ Keeps (fun _ => False) w6.drew w' := by
    refine (dir_any _ undef _ _ g m cc d rfl rfl (by omega) ?_).mono ?_
    · show w6.cell? _ = _
      rw [kG6.cell, ← hlast5]
    · rintro e w' ⟨rfl, rfl⟩
      exact ⟨rfl, (Keeps.refl _ _).alloc _⟩
  have hS6 : w6.drew.cell? ⟨bF, 0, none⟩ = some (.pointer (some ⟨S.F, 0, none⟩)) ∧ w6.drew.cell? ⟨w4.heap.size, 0, none⟩ = some (.slice (some ⟨g, 0, none⟩) (m + 1) cc) ∧ w6.drew.cell? ⟨w4.heap.size, 1, none⟩ = some (.string nm) ∧ w6.drew.cell? ⟨w4.heap.size, 2, none⟩ = some (.int .i64 0) ∧ w6.drew.cell? ⟨w3.heap.size, 2, none⟩ = some (.int .i64 inoF) :=
    ⟨kF6.cell 0, kPB6.cell 0, kPB6.cell 1, kPB6.cell 2, kPA6.cell 2⟩
  have hS7 : ∀ w7, Keeps (fun _ => False) w6.drew w7 → w7.cell? ⟨bF, 0, none⟩ = some (.pointer (some ⟨S.F, 0, none⟩)) ∧ w7.cell? ⟨w4.heap.size, 0, none⟩ = some (.slice (some ⟨g, 0, none⟩) (m + 1) cc) ∧ w7.cell? ⟨w4.heap.size, 1, none⟩ = some (.string nm) ∧ w7.cell? ⟨w4.heap.size, 2, none⟩ = some (.int .i64 0) ∧ w7.cell? ⟨w3.heap.size, 2, none⟩ = some (.int .i64 inoF) :=
    fun w7 hk7 => ⟨(kF6.drew.keeps hk7 (fun x => x)).cell 0, (kPB6.drew.keeps hk7 (fun x => x)).cell 0, (kPB6.drew.keeps hk7 (fun x => x)).cell 1, (kPB6.drew.keeps hk7 (fun x => x)).cell 2, (kPA6.drew.keeps hk7 (fun x => x)).cell 2⟩
  have HPut := Lib.hid hput
  have HDir := Lib.hid hdir
  have HS6 := Lib.hid hS6
  have HS7 := Lib.hid hS7
  have cF6 : w6.cell? ⟨bF, 0, none⟩ = some (.pointer (some ⟨S.F, 0, none⟩)) := kF6.cell 0
  have HX := Lib.hid e6
  clear hput hdir hS6 hS7 e6 hlast5 hlast cK cL cPA0 cPA2 cF4
  go_upto_region 23 with fail
  go_region_held3 (fun W2 => W2.cell? ⟨bF, 0, none⟩ = some (.pointer (some ⟨S.F, 0, none⟩)) ∧ W2.cell? ⟨w4.heap.size, 0, none⟩ = some (.slice (some ⟨g, 0, none⟩) (m + 1) cc) ∧ W2.cell? ⟨w4.heap.size, 1, none⟩ = some (.string nm) ∧ W2.cell? ⟨w4.heap.size, 2, none⟩ = some (.int .i64 0) ∧ W2.cell? ⟨w3.heap.size, 2, none⟩ = some (.int .i64 inoF))
    (first | exact HS6.out | exact HS7.out _ (by assumption) | assumption)
    (first | (go_at_call 131; refine HDir.out.mono ?_; rintro e w7 ⟨rfl, hk7⟩) | (go_at_call 142; refine (HPut.out _ (by assumption)).mono ?_; rintro e w8 ⟨rfl, hS8, hfin⟩))
  go_wp2_with fail
  go_ret
  rw [HL.out]
  exact ⟨rfl, hfin⟩

theorem toR_fresh (S : St) (B : Nat) (s : ByteArray) (f : Bool) : toR (S.fresh B) s f = toR S s f := by
  simp only [toR, goesR_fresh]
set_option maxRecDepth 100000 in
set_option maxHeartbeats 2000000 in
theorem link_ok {w : World} {S : St} (h : Rep w S) (hw : S.Wf) (old other : ByteArray)
    (hs : old.size ≤ 9000000000000000000) (ht : other.size ≤ 9000000000000000000) (RF R : (List Int × ByteArray × Int) × Int) (hRF : toR S old false = RF) (hRF2 : RF.2 = 0) (n : Int) (hn0 : RF.1.2.2 = n) (hk : (S.nd n).kind ≠ 2) (hl : (S.nd n).links < 1000)
    (hR : nameR S other = R) (hR2 : R.2 = 0) (hR3 : R.1.2.2 = 0) (hR4 : R.1.1.length ≤ 32) (d : Int) (hd : lastI R.1.1 = d)
    (S1 : St) (hS1 : S1 = (S.put n { S.nd n with links := (S.nd n).links + 1 }).put d ((S.nd d).grown R.1.2.1 n)) (hW1 : S1.Wf) (htk : S1.taken ≤ S.g0 - S.g3) :
    Calls Tryz.prog 80 #[.pointer (some ⟨S.F, 0, none⟩), .string old, .string other] w fun e w' => e = .returned (.int .i64 0) ∧ ∃ B, w.heap.size ≤ B ∧ Rep w' (S1.fresh B) ∧ Keeps (fun b => S.own b ≠ none) w w' := by
  have hmf := run_makeFunc_any
  have HA := Lib.hid (And.intro hRF (And.intro hRF2 (And.intro hn0 (And.intro hR (And.intro hR2 (And.intro hR3 (And.intro hd (And.intro hS1 (And.intro hW1 htk)))))))))
  clear hRF hRF2 hn0 hR hR2 hR3 hd hS1 hW1 htk
  go_enter Tryz.func80, Tryz.ntmps80
  go_wp2_with fail
  obtain ⟨hRF, hRF2, hn0, hR, hR2, hR3, hd, hS1, hW1, htk⟩ := HA.out
  have b1 := ((Blk.new w #[.pointer (some ⟨S.F, 0, none⟩)] 25).alloc (.cells #[.string old] 9)).alloc (.cells #[.string other] 9)
  have b2 := (Blk.new' (w := w.alloc (.cells #[.pointer (some ⟨S.F, 0, none⟩)] 25)) (n := w.heap.size + 1) (by simp) #[.string old] 9).alloc (.cells #[.string other] 9)
  have b3 := (Blk.new' (w := (w.alloc (.cells #[.pointer (some ⟨S.F, 0, none⟩)] 25)).alloc (.cells #[.string old] 9)) (n := w.heap.size + 1 + 1) (by simp) #[.string other] 9)
  have hK : Keeps (fun _ => False) w (((w.alloc (.cells #[.pointer (some ⟨S.F, 0, none⟩)] 25)).alloc (.cells #[.string old] 9)).alloc (.cells #[.string other] 9)) := (((Keeps.refl _ _).alloc _).alloc _).alloc _
  generalize (((w.alloc (.cells #[.pointer (some ⟨S.F, 0, none⟩)] 25)).alloc (.cells #[.string old] 9)).alloc (.cells #[.string other] 9)) = w1 at *
  refine (call_own (h.keeps hK (fun _ _ x => x)) hw 139 _ (enters_of Tryz.func139 (by kernel_rfl) rfl _) S1 (by rw [hS1]; rfl) (by rw [hS1]; rfl) hW1 (by rw [hS1]; rfl) (by rw [hS1]; rfl) htk ?_).mono ?_
  · intro W hRW hKW
    have hB := h.B
    have hne : ∀ b, w.heap.size ≤ b → b ≠ S.F := fun b hb e => by have := h.Flt; omega
    refine (link1_ok hRW (hw.fresh _) _ _ _ old other (b2.keeps hKW (hne _ (by omega))) (b3.keeps hKW (hne _ (by omega))) (b1.keeps hKW (hne _ (by omega))) (h.free (by omega)) (h.free (by omega)) (h.free (by omega))
      hs ht RF R (by rw [toR_fresh]; exact hRF) hRF2 n hn0 hk hl (by rw [nameR_fresh]; exact hR) hR2 hR3 hR4 d hd (by simp [St.fresh])).mono ?_
    rintro e w2 ⟨rfl, u', us', hR3, hl3, hf3⟩
    refine ⟨rfl, u', us', ?_, by omega, hf3⟩
    rw [hS1]; exact hR3
  · rintro e w2 ⟨rfl, B, hB, hR2, hk2⟩
    clear hRF hRF2 hn0 hR hR3 hd hS1
    go_wp2_with fail
    go_ret
    exact ⟨rfl, B, by have := hK.size; omega, hR2, hK.trans hk2 (fun _ _ x => x.elim) (fun _ _ x => x)⟩
end Go.Proofs.YtdafneilalompaaGreatDoor
