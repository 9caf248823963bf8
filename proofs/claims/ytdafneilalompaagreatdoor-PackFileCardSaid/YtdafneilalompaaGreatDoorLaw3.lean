/- The walk of PackFile. Conditions: those that each theorem names. -/
import Derived.Test.YtdafneilalompaaGreatDoorLawB
import Derived.Deep.CutBlock
import Derived.Deep.DeepCutAuto
import Derived.Deep.OwnRows
import Derived.Laws.IdiomStrings
namespace Go.Proofs.YtdafneilalompaaGreatDoor
open Go Go.RowKit
open Go.ChangeMaps (setBlock)

theorem info5z : (Tryz.prog.info? 5).map (fun i => (i.zero, i.size, i.bytes)) = some (some (.int .u8 0), 1, 1) := by kernel_rfl
set_option maxRecDepth 200000 in
set_option maxHeartbeats 8000000 in
theorem packFile_walk (w : World) (a0 : Option Addr) (len0 cap0 : Nat) (ps : List UInt8) (hps : ps.length = len0) (hlen : len0 ≤ 9223372036854775807) (b0 off0 : Nat) (ha : 0 < len0 → a0 = some ⟨b0, off0, none⟩ ∧ b0 < w.heap.size ∧ ∀ i, i < len0 → w.cell? ⟨b0, off0 + i, none⟩ = some (.int .u8 ((ps.getD i 0).toNat : Int)))
    (a1 : Int) (n : Nat) (r : Int) (hr : a1.tmod 30000 = r) (hn : r = n ∨ (r < 0 ∧ -r = n)) (hn2 : n < 30000) (hb1 : -9223372036854775808 ≤ a1) (hb2 : a1 ≤ 9223372036854775807) :
    Calls Tryz.prog 4 #[.slice a0 len0 cap0, .int .i64 a1] w fun e w' => e = .returned (.bool true) ∧ Below w.heap.size w w' := by
  obtain ⟨i3, hi3, hz30, hz31, hz32⟩ := info_parts info3
  have HP := Lib.hid hps
  have HA := Lib.hid ha
  clear hps ha
  go_enter Tryz.func4, Tryz.ntmps4
  go_wp2_with fail
  refine (made_ok _).mono ?_
  rintro e w1 ⟨F, M, bR, bN, B, rfl, hF, hM, hR, hN, hrep, hk1⟩
  have hk0 := ((Keeps.refl (fun _ => False) w).alloc (.cells #[.int .i64 79, .slice none 0 0] 24)).then hk1
  have hz0 : w.heap.size ≤ (w.alloc (.cells #[.int .i64 79, .slice none 0 0] 24)).heap.size := by simp
  have hown : ∀ b, (newSt F M bR bN 207 3 B).own b ≠ none → w.heap.size ≤ b := by
    intro b hb
    simp only [newSt] at hb
    split at hb
    · omega
    · split at hb
      · omega
      · split at hb
        · omega
        · split at hb
          · omega
          · exact absurd rfl hb
  have HX := Lib.hid (And.intro hrep (And.intro hk0 hown))
  clear hF hM hR hN hrep hk1 hk0 hz0 hown
  go_upto_if 26 with fail
  go_cut [7] (fun v wx => v = .int .i64 (n : Nat) ∧ wx = w1)
  case first =>
    go_wp2_with fail
    · go_meet
      exact ⟨congrArg (Value.int .i64) (by omega), rfl⟩
    · go_meet
      exact ⟨congrArg (Value.int .i64) (by omega), rfl⟩
  case rest =>
    obtain ⟨rfl, hwc⟩ := hcut
    obtain rfl : w1 = _ := hwc.symm
    obtain ⟨hrep, hk0, hown⟩ := HX.out
    have hdc := do_create hrep
    unfold callV at hdc
    have HD := Lib.hid hdc
    clear hr hn hb1 hb2 hrep hk0 hdc hown
    go_wp2_with fail
    refine HD.out.mono ?_
    rintro e w2 ⟨rfl, S0, hr0, hu0, hF0, hf0, hk2, hnew⟩
    have hPF : PF w F n ps 0 0 S0 (.slice none 0 0) w2 := ⟨hr0, hu0, hF0, hf0, (HX.out.2.1).trans hk2 (fun _ _ x => x.elim) (fun b hb e => HX.out.2.2 b e), ⟨rfl, Or.inl ⟨rfl, rfl⟩⟩, fun g hg => (by cases hg), fun j hj => by omega, fun b hb => by
      by_cases hlt : b < w1.heap.size
      · exact HX.out.2.2 b (hnew b hlt hb)
      · have := HX.out.2.1.size; omega⟩
    have HPF := Lib.hid hPF
    have hfld := field49_0
    clear hr0 hu0 hF0 hf0 hk2 hnew hPF
    unfold okV answV answC
    go_upto_block 0 with fail
    go_cut [8, 9] (fun p8 p9 wx => ∃ (K : Nat) (S : St) (dat : ByteArray), p9 = .string dat ∧ K ≤ 40 ∧ dat.data.toList = (pst n ps K).data ∧ PF w F n ps K K S p8 wx)
    case first =>
      go_wp2_with fail
      go_loopg [8, 9, 10] 41 (fun kk p8 p9 p10 wr => ∃ (k : Nat) (S : St) (dat : ByteArray), p10 = .int .i64 k ∧ p9 = .string dat ∧ k ≤ 40 ∧ kk = 41 - k ∧ dat.data.toList = (pst n ps k).data ∧ PF w F n ps k k S p8 wr)
      case atStart => exact ⟨0, S0, ⟨#[]⟩, rfl, rfl, by omega, by omega, rfl, HPF.out⟩
      case round =>
        obtain ⟨k, S, dat, rfl, rfl, hk40, hgk, hdat, hpf⟩ := hrel
        have HG := Lib.hid (And.intro hgk (And.intro hdat hpf))
        clear hgk hdat hpf
        by_cases c1 : k < len0
        · by_cases c2 : k < 40
          · by_cases c3 : 512 * k < n
            · obtain ⟨rfl, hbl, hcell⟩ := HA.out (by omega)
              obtain ⟨x, hx⟩ : ∃ x, ps.getD k 0 = x := ⟨_, rfl⟩
              have hcP : wr.cell? ⟨b0, off0 + k, none⟩ = some (.int .u8 (x.toNat : Int)) := by
                rw [World.cell?_of_block (HG.out.2.2.keeps.block b0 hbl (by omega)), hcell k c1, hx]
              have hbl2 : b0 < wr.heap.size := Nat.lt_of_lt_of_le hbl HG.out.2.2.keeps.size
              have HC := Lib.hid hcell
              have HXX := Lib.hid hx
              have hxl : x.toNat < 256 := x.toNat_lt
              clear hcell hx
              by_cases h255 : x = 255
              · have hb255 : ((x.toNat : Int) == 255) = true := by rw [h255]; rfl
                have H255 := Lib.hid h255
                clear h255
                go_wp2_with fail
                go_roundg (41 - (k + 1))
                case measure => have := HG.out.1; omega
                case rel => exact ⟨k + 1, S, dat, by go_num, rfl, by omega, rfl, by rw [pst, if_pos (by rw [HXX.out, H255.out])]; exact HG.out.2.1, HG.out.2.2.skip (by rw [HXX.out, H255.out]) c3⟩
              · have hb255 : ((x.toNat : Int) == 255) = false := by
                  simp only [beq_eq_false_iff_ne, ne_eq]
                  intro e
                  exact h255 (by apply UInt8.toNat_inj.1; simp; omega)
                have H255 := Lib.hid h255
                obtain ⟨m, hm⟩ : ∃ m, n - 512 * k = m := ⟨_, rfl⟩
                have hsub : (n : Int) - 512 * (k : Int) = (m : Int) := by omega
                obtain ⟨lg, hlg⟩ : ∃ lg, longP n k = lg := ⟨_, rfl⟩
                have hlm : lg = min 512 m := by rw [← hlg, longP, hm]
                have hm1 : 1 ≤ m := by omega
                have hm2 : m ≤ 30000 := by omega
                have hlg1 : 1 ≤ lg := by omega
                have hlg2 : lg ≤ 512 := by omega
                have HLM := Lib.hid (And.intro hlm (And.intro hlg hm))
                clear h255 hm hlg hlm
                go_upto_if 60 with fail
                go_cut [11] (fun v wx => v = .int .i64 (lg : Nat) ∧ wx = wr)
                case first =>
                  have hlm := HLM.out.1
                  by_cases hm5 : 512 < m
                  · have e : lg = 512 := by omega
                    clear hlm
                    go_wp2_with fail
                    go_meet
                    exact ⟨by rw [e]; rfl, rfl⟩
                  · have e : lg = m := by omega
                    clear hlm
                    go_wp2_with fail
                    go_meet
                    exact ⟨by rw [e], rfl⟩
                case rest =>
                  obtain ⟨rfl, rfl⟩ := hcut
                  have hmk := run_make_row' (P := Tryz.prog) 42 5 (.int .u8 0) 1 Tryz.underlying42 info5z rfl .i64 .i64 lg (by omega) (by omega)
                  go_wp2_with fail
                  clear hmk
                  go_loopg [13, 65] lg (fun kk p13 p65 wq => ∃ (i : Nat) (cs : Array Value), p65 = .int .i64 i ∧ i ≤ lg ∧ kk = lg - i ∧ Blk wq wc.heap.size cs 5 ∧ cs.size = lg ∧ (∀ j, j < i → cs[j]? = some (.int .u8 (x.toNat : Int))) ∧ Keeps (fun _ => False) wc wq)
                  case atStart => exact ⟨0, madeCells #[.int .u8 0] lg, rfl, Nat.zero_le _, rfl, Blk.new _ _ _, size_madeCells _ _, fun j hj => by omega, (Keeps.refl _ _).alloc _⟩
                  case round =>
                    obtain ⟨i, cs, rfl, hi, hgi, hbq, hcs, hcj, hkq⟩ := hrel
                    have hcP2 : wr.cell? ⟨b0, off0 + k, none⟩ = some (.int .u8 (x.toNat : Int)) := by
                      rw [World.cell?_of_block (hkq.block b0 hbl2 (fun x => x))]; exact hcP
                    by_cases hil : i < lg
                    · obtain ⟨u, hu⟩ : ∃ u, cs[i]? = some u := ⟨_, Array.getElem?_eq_getElem (by omega)⟩
                      have hci : wr.cell? ⟨wc.heap.size, i, none⟩ = some u := by rw [hbq.cell, hu]
                      have hfi : wr.frozen? ⟨wc.heap.size, i, none⟩ = false := hbq.frz i
                      have hlq := hbq.lt
                      have HI := Lib.hid (And.intro hgi (And.intro hbq (And.intro hcs (And.intro hcj hkq))))
                      clear hgi hbq hcs hcj hkq hu
                      go_wp2_with fail
                      go_roundg (lg - (i + 1))
                      case measure => have := HI.out.1; omega
                      case rel =>
                        obtain ⟨hgi, hbq, hcs, hcj, hkq⟩ := HI.out
                        refine ⟨i + 1, cs.setIfInBounds i (.int .u8 (x.toNat : Int)), by go_num, by omega, rfl, hbq.set i _, by simpa using hcs, fun j hj => ?_, hkq.setCell (p := ⟨wc.heap.size, i, none⟩) (Or.inr (Nat.le_refl _)) _⟩
                        rw [Array.getElem?_setIfInBounds]
                        split
                        · rw [if_pos (by omega)]
                        · exact hcj j (by omega)
                    · have hpfq := HG.out.2.2.after hkq
                      have hlgq := HLM.out.2.1
                      have hpw := hpfq.write HXX.out H255.out c3 c2 hn2 hlgq
                      have hcv : (convert 42 9 (.slice (some ⟨wc.heap.size, 0, none⟩) lg lg)).run Tryz.prog wr = .ok (.string ⟨(List.replicate lg x).toArray⟩) wr := by
                        have := run_convert_bytes_back (P := Tryz.prog) wr 42 9 5 ⟨wc.heap.size, 0, none⟩ lg (List.replicate lg x) Tryz.underlying42 Tryz.underlying5 Tryz.underlying9 (fun j hj => by
                          have hj' : j < lg := by simpa using hj
                          rw [Addr.add_mid, Nat.zero_add, hbq.cell, hcj j (by omega)]
                          simp)
                        rw [List.length_replicate] at this
                        exact this
                      have HW := Lib.hid hpw
                      have HQ := Lib.hid (And.intro hbq (And.intro hcs (And.intro hcj hkq)))
                      clear hgi hbq hcs hcj hkq hpfq hpw hlgq
                      go_wp2_with fail
                      refine HW.out.mono ?_
                      rintro e w6 ⟨rfl, S1, hpf6, hk6⟩
                      obtain ⟨hbq, hcs, hcj, hkq⟩ := HQ.out
                      have hrepq := (HG.out.2.2.after hkq).rep
                      have hbq6 := hbq.keeps hk6 (fun e => e (own_free HG.out.2.2.rep _ (Nat.le_refl _)))
                      have hcP6 : w6.cell? ⟨b0, off0 + k, none⟩ = some (.int .u8 (x.toNat : Int)) := by
                        rw [World.cell?_of_block (hpf6.keeps.block b0 hbl (by omega)), HC.out k c1, HXX.out]
                      have hbl6 : b0 < w6.heap.size := Nat.lt_of_lt_of_le hbl hpf6.keeps.size
                      have hws6 := hpf6.keeps.size
                      have hwl : (pst n ps k).want.length ≤ 40 := by have := (pst_want n ps k).1; omega
                      have hds : dat.size ≤ 30000 := by
                        have h1 := (pst_want n ps k).2
                        have h2 := Lib.size_eq dat
                        rw [HG.out.2.1] at h2
                        omega
                      by_cases h0 : x = 0
                      · have hb0 : ((x.toNat : Int) != 0) = false := by rw [h0]; rfl
                        have HE := Lib.hid (And.intro hpf6 h0)
                        clear hbq hcs hcj hkq hrepq hbq6 hpf6 hk6 h0 hcv hcP2 hcP
                        unfold okV answV answC
                        go_wp2_with fail
                        go_roundg (41 - (k + 1))
                        case measure => have := HG.out.1; omega
                        case rel =>
                          obtain ⟨hpf6, h0⟩ := HE.out
                          have hx0 : ps.getD k 0 = 0 := by rw [HXX.out, h0]
                          refine ⟨k + 1, S1, dat, by go_num, rfl, by omega, rfl, ?_, hpf6.zero hx0⟩
                          rw [pst_succ hx0 (by decide)]
                          simp only [if_true]
                          exact HG.out.2.1
                      · have hb0 : ((x.toNat : Int) != 0) = true := by
                          simp only [bne_iff_ne, ne_eq]
                          intro e
                          exact h0 (by apply UInt8.toNat_inj.1; simp; omega)
                        have hrow6 := hpf6.row
                        have HE := Lib.hid (And.intro hpf6 (And.intro h0 (And.intro hbq6 (And.intro hcs hcj))))
                        clear hbq hcs hcj hkq hrepq hbq6 hpf6 hk6 h0 hcv hcP2 hcP
                        unfold okV answV answC
                        go_wp2_with (first | (at_builtin; refine wpList_append_own_at _ rfl _ _ 53 rfl w.heap.size 3 i3 (.int .i64 0) 1 8 Tryz.underlying53 hi3 hz30 hz31 hz32 rfl (by decide) _ _ _ rfl (hrow6.alloc _) ⟨w6.heap.size, 0, none⟩ 1 1 [.int .i64 k] rfl rfl (cell_one_new _ _ _) (by simp [Value.oneCell']) (by simp only [maxLen]; omega) (by omega) (by simp; omega) ?_) | fail)
                        intro v' w8 hown8 hg8 _ hat8
                        obtain ⟨hpf6, h0, hbq6, hcs, hcj⟩ := HE.out
                        obtain ⟨hpf8, hk8⟩ := hpf6.push HXX.out H255.out h0 hown8 hg8 (hat8.imp (fun e => e) (fun e => ⟨_, e, by simp⟩))
                        have hbq8 := hbq6.keeps hk8 (ownsRow_type hpf6.row hbq6 (by decide))
                        have hcv8 : (convert 42 9 (.slice (some ⟨wc.heap.size, 0, none⟩) lg lg)).run Tryz.prog w8 = .ok (.string ⟨(List.replicate lg x).toArray⟩) w8 := by
                          have := run_convert_bytes_back (P := Tryz.prog) w8 42 9 5 ⟨wc.heap.size, 0, none⟩ lg (List.replicate lg x) Tryz.underlying42 Tryz.underlying5 Tryz.underlying9 (fun j hj => by
                            have hj' : j < lg := by simpa using hj
                            rw [Addr.add_mid, Nat.zero_add, hbq8.cell, hcj j (by omega)]
                            simp)
                          rw [List.length_replicate] at this
                          exact this
                        have hif : ¬ 9223372036854775807 < dat.size + lg := by omega
                        have HY := Lib.hid (And.intro hpf8 h0)
                        clear hpf6 h0 hbq6 hcs hcj hpf8 hk8 hbq8 hown8 hg8 hat8 hrow6
                        go_wp2_with fail
                        go_roundg (41 - (k + 1))
                        case measure => have := HG.out.1; omega
                        case rel =>
                          obtain ⟨hpf8, h0⟩ := HY.out
                          refine ⟨k + 1, S1, dat ++ ⟨(List.replicate lg x).toArray⟩, by go_num, rfl, by omega, rfl, ?_, hpf8⟩
                          rw [pst_succ HXX.out H255.out]
                          simp only [h0, if_false]
                          rw [pieceP, HLM.out.2.1, ← HG.out.2.1]
                          simp [ByteArray.data_append]
            · have c3' : (n : Int) ≤ 512 * (k : Int) := by omega
              clear c3
              go_wp2_with fail
              go_meet
              exact ⟨k, S, dat, rfl, hk40, HG.out.2.1, HG.out.2.2⟩
          · go_wp2_with fail
            go_meet
            exact ⟨k, S, dat, rfl, hk40, HG.out.2.1, HG.out.2.2⟩
        · go_wp2_with fail
          go_meet
          exact ⟨k, S, dat, rfl, hk40, HG.out.2.1, HG.out.2.2⟩
    case rest =>
      obtain ⟨K, S, dat, hp9, hK, hdat, hpf⟩ := hcut
      subst hp9
      have hz := pst_z n ps K hpf.less
      have ht := do_truncate hpf.rep hpf.fam (hpf.ok hK hn2) n hz (by omega)
      rw [hpf.F] at ht
      unfold callV at ht
      have HT := Lib.hid ht
      have htold := pst_told n ps K hpf.less
      have hLL := pst_L n ps K
      have hwl := (pst_want n ps K).1
      have hoL : ∀ q ∈ (pst n ps K).L, 0 ≤ q.1 ∧ q.1 < 40 ∧ q.2.length = 512 := fun q hq => by have := hLL.2 q hq; refine ⟨this.1, by omega, this.2.2⟩
      have hlc := hpf.loc
      obtain ⟨wa, wcp, hp8⟩ := ownsRow_form hpf.row
      subst hp8
      generalize (pst n ps K).want = want at htold hwl hlc ⊢
      generalize (pst n ps K).data = pdat at htold hdat
      generalize (pst n ps K).L = L at *
      clear hpf
      have HL := Lib.hid (And.intro hlc (And.intro htold (And.intro hLL (And.intro hoL hdat))))
      clear hz ht htold hLL hoL hlc hdat
      go_wp2_with fail
      refine HT.out.mono ?_
      rintro e w2 ⟨rfl, hN⟩
      obtain ⟨hlc, htold, hLL, hoL, hdat⟩ := HL.out
      obtain ⟨S2, hl2, hf2⟩ := hlc.next hN
      have ok2 := ok_one (z := n) (L := L) (by omega) (by omega) hoL
      have hlk := do_link hl2.rep hf2 ok2
      rw [hl2.F] at hlk
      unfold callV at hlk
      have HK := Lib.hid hlk
      have HL2 := Lib.hid hl2
      clear hlc htold hLL hoL hdat hN hl2 hf2 ok2 hlk
      unfold okV answV answC
      go_wp2_with fail
      refine HK.out.mono ?_
      rintro e w3 ⟨rfl, hN⟩
      obtain ⟨hlc, htold, hLL, hoL, hdat⟩ := HL.out
      obtain ⟨S3, hl3, hf3⟩ := HL2.out.next hN
      have ok3 := ok_two (z := n) (L := L) (by omega) (by omega) hoL
      have hsy := do_symlink hl3.rep hf3 ok3
      rw [hl3.F] at hsy
      unfold callV at hsy
      have HS := Lib.hid hsy
      have HL3 := Lib.hid hl3
      clear hlc htold hLL hoL hdat hN hl3 hf3 ok3 hsy
      unfold okV answV answC
      go_wp2_with fail
      refine HS.out.mono ?_
      rintro e w4 ⟨rfl, hN⟩
      obtain ⟨hlc, htold, hLL, hoL, hdat⟩ := HL.out
      obtain ⟨S4, hl4, hf4⟩ := HL3.out.next hN
      have ok4 := ok_three (z := n) (L := L) (by omega) (by omega) hoL
      have htr := Tree_ok hl4.rep hl4.u (hf4.wf ok4) (hf4.small ok4) pR (by decide) 2 (by decide) _ (hf4.tree_root rfl)
      have htg : ∀ W, Keeps (fun _ => False) w4 W → Calls Tryz.prog 11 #[ifc S4.F, .string pG] W fun e w' => ∃ v L', e = .returned (.tuple #[v, .int .i64 0]) ∧ ItemsAt w' W.heap.size v [itF ⟨#[]⟩ n L] L' ∧ Keeps (fun _ => False) W w' := fun W k =>
        Tree_ok (hl4.rep.keeps k (fun _ _ x => x)) hl4.u (hf4.wf ok4) (hf4.small ok4) pG (by decide) 1 (by decide) _ (hf4.tree_g (by simp [List.lookup_cons, beq_gf]) rfl)
      rw [hl4.F] at htr htg
      unfold ifc at htr htg
      have HR := Lib.hid htr
      have HG2 := Lib.hid htg
      have HL4 := Lib.hid hl4
      clear hlc htold hLL hoL hdat hN hl4 hf4 ok4 htr htg
      unfold okV answV answC
      go_wp2_with fail
      refine HR.out.mono ?_
      rintro e w5 ⟨v5, L5, rfl, hit, hk5⟩
      obtain ⟨g5, cp5, va, vb, vc, vd, rfl, hg5, hc5, hrb⟩ := items4 hit
      obtain ⟨hlc, htold, hLL, hoL, hdat⟩ := HL.out
      have hda : (⟨(dataOf (fillTo L n (fillN n))).toArray⟩ : ByteArray) = dat := by rw [htold.2, ← hdat]
      have hpq : pcsOf (fillTo L n (fillN n)) = want := htold.1
      have hrb2 : IRow w5 vb want := by rw [← hpq]; exact hrb
      obtain ⟨ba, bc, hvb⟩ := ownsRow_form hrb2
      subst hvb
      have k0 : w5.cell? ⟨g5, 0, none⟩ = some (.string ⟨#[]⟩) := hc5 0 (by decide)
      have k1 : w5.cell? ⟨g5, 1, none⟩ = some (.int .i64 2) := hc5 1 (by decide)
      have k6 : w5.cell? ⟨g5, 6, none⟩ = some (.string ⟨#[102]⟩) := hc5 6 (by decide)
      have k8 : w5.cell? ⟨g5, 8, none⟩ = some (.int .i64 n) := hc5 8 (by decide)
      have k9 : w5.cell? ⟨g5, 9, none⟩ = some (.string dat) := by rw [← hda]; exact hc5 9 (by decide)
      have k10 : w5.cell? ⟨g5, 10, none⟩ = some (.slice ba want.length bc) := hc5 10 (by decide)
      have k11 : w5.cell? ⟨g5, 11, none⟩ = some (.int .i64 (-1)) := hc5 11 (by decide)
      have k12 : w5.cell? ⟨g5, 12, none⟩ = some (.string ⟨#[103]⟩) := hc5 12 (by decide)
      have k15 : w5.cell? ⟨g5, 15, none⟩ = some (.string ⟨#[]⟩) := hc5 15 (by decide)
      have k17 : w5.cell? ⟨g5, 17, none⟩ = some (.int .i64 1) := hc5 17 (by decide)
      have k18 : w5.cell? ⟨g5, 18, none⟩ = some (.string ⟨#[104]⟩) := hc5 18 (by decide)
      have k19 : w5.cell? ⟨g5, 19, none⟩ = some (.int .i64 3) := hc5 19 (by decide)
      have k21 : w5.cell? ⟨g5, 21, none⟩ = some (.string ⟨#[102]⟩) := hc5 21 (by decide)
      have hsi := sameInts_same rfl (by omega) hrb2 ((HL4.out.after hk5).irow)
      have HSI := Lib.hid hsi
      have HB5 := Lib.hid (And.intro hk5 (And.intro hda (And.intro hpq hc5)))
      clear hlc htold hLL hoL hdat hda hpq hrb hrb2 hsi hc5 hit hk5
      go_wp2_with fail
      refine HSI.out.mono ?_
      rintro e w6 ⟨rfl, hk6⟩
      have hce : ∀ i, w6.cell? ⟨g5, i, none⟩ = w5.cell? ⟨g5, i, none⟩ := fun i => World.cell?_of_block (hk6.block g5 hg5 (fun x => x))
      have j11 : w6.cell? ⟨g5, 11, none⟩ = some (.int .i64 (-1)) := (hce 11).trans k11
      have j15 : w6.cell? ⟨g5, 15, none⟩ = some (.string ⟨#[]⟩) := (hce 15).trans k15
      have j17 : w6.cell? ⟨g5, 17, none⟩ = some (.int .i64 1) := (hce 17).trans k17
      have j19 : w6.cell? ⟨g5, 19, none⟩ = some (.int .i64 3) := (hce 19).trans k19
      have j21 : w6.cell? ⟨g5, 21, none⟩ = some (.string ⟨#[102]⟩) := (hce 21).trans k21
      have HTG := Lib.hid (HG2.out w6 (HB5.out.1.then hk6))
      have HK6 := Lib.hid hk6
      clear hce k0 k1 k6 k8 k9 k10 k11 k12 k15 k17 k18 k19 k21 hk6
      go_wp2_with fail
      refine HTG.out.mono ?_
      rintro e w7 ⟨v7, L7, rfl, hit, hk7⟩
      obtain ⟨g7, cp7, vz, rfl, hg7, hc7⟩ := items1 hit
      have m0 : w7.cell? ⟨g7, 0, none⟩ = some (.string ⟨#[]⟩) := hc7 0 (by decide)
      have m2 : w7.cell? ⟨g7, 2, none⟩ = some (.int .i64 n) := hc7 2 (by decide)
      have m3 : w7.cell? ⟨g7, 3, none⟩ = some (.string dat) := by rw [← HB5.out.2.1]; exact hc7 3 (by decide)
      have m5 : w7.cell? ⟨g7, 5, none⟩ = some (.int .i64 (-1)) := hc7 5 (by decide)
      have HK7 := Lib.hid hk7
      clear j11 j15 j17 j19 j21 hc7 hit hk7
      go_wp2_with fail
      go_ret
      have hkk := (((HL4.out.keeps).trans HB5.out.1 (fun _ _ x => x) (fun _ _ x => x.elim)).trans HK6.out (fun _ _ x => x) (fun _ _ x => x.elim)).trans HK7.out (Z := fun b => w.heap.size ≤ b) (fun _ _ x => x) (fun _ _ x => x.elim)
      exact ⟨rfl, hkk.below (Nat.le_refl _) (fun k hk => by omega)⟩
end Go.Proofs.YtdafneilalompaaGreatDoor
