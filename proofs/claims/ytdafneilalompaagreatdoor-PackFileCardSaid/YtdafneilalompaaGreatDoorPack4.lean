/- pack's visit: a directory, with all below it. Conditions: those that each theorem names. -/
import Derived.Test.YtdafneilalompaaGreatDoorPack3
namespace Go.Proofs.YtdafneilalompaaGreatDoor
open Go Go.RowKit
open Go.ChangeMaps (setBlock)

abbrev Trd := List It × List (Int × Int)

set_option maxRecDepth 100000 in
set_option maxHeartbeats 4000000 in
theorem visit_dir {w0 : World} {S : St} (h : Rep w0 S) (hS : S.u = .slice none 0 0) (hw : S.Wf) {T : TV} (hTF : T.F = S.F) {w : World} {l : List It} {met : List (Int × Int)} (hm : TM w0 T w l met) (p : ByteArray) (hs : T.s.size ≤ 1000000) (hp : p.size ≤ 1000000000) (full : ByteArray) (hfull : atR T.s p = full)
    (R : (List Int × ByteArray × Int) × Int) (hR : toR S full false = R) (hR2 : R.2 = 0) (n : Int) (hn : R.1.2.2 = n) (x : Nd) (hx : S.nd n = x) (hkd : x.kind = 2) (hk : met.lookup n = none) (hl : l.length < 1000000000000) {b : Nat} {L : List (ByteArray × Int)} (hnm : x.nms = some (b, L)) (hns : ∀ q ∈ L, q.1.size ≤ 1000000) (hT1 : (toR S full true).2 = 0) (hT2 : (toR S full true).1.2.2 = n)
    (V : ByteArray → Trd → Option Trd) (st' : Trd) (hV : ∀ nm ∈ sortB (L.map (·.1)), ∀ st st', V nm st = some st' → ∀ W, TM w0 T W st.1 st.2 → Calls Tryz.prog 33 #[.string (subR p nm), .pointer (some ⟨T.bs, 0, none⟩), .pointer (some ⟨T.bf, 0, none⟩), .pointer (some ⟨T.bm, 0, none⟩), .pointer (some ⟨T.bl, 0, none⟩), .pointer (some ⟨T.bv, 0, none⟩)] W fun e w' => e = .returned (.tuple #[]) ∧ TM w0 T w' st'.1 st'.2 ∧ Keeps (T.X w0 W) W w')
    (hfold : (sortB (L.map (·.1))).foldlM (fun st nm => V nm st) (l ++ [⟨p, 2, 0, ⟨#[]⟩, [], -1⟩], met) = some st') :
    Calls Tryz.prog 33 #[.string p, .pointer (some ⟨T.bs, 0, none⟩), .pointer (some ⟨T.bf, 0, none⟩), .pointer (some ⟨T.bm, 0, none⟩), .pointer (some ⟨T.bl, 0, none⟩), .pointer (some ⟨T.bv, 0, none⟩)] w fun e w' => 
      e = .returned (.tuple #[]) ∧ TM w0 T w' st'.1 st'.2 ∧ Keeps (T.X w0 w) w w' := by
  have hfl : full.size ≤ 9000000000000000000 := by rw [← hfull]; have := atR_size T.s p; omega
  have hms := hm.s
  have hmf := hm.f
  have hmm := hm.m
  have cs : w.cell? ⟨T.bs, 0, none⟩ = some (.string T.s) := hms.cell 0
  have cf : w.cell? ⟨T.bf, 0, none⟩ = some (.iface 25 (.pointer (some ⟨S.F, 0, none⟩))) := by rw [hmf.cell]; simp [ifc, hTF]
  have hdo := do_lstat (h.below0 hS hm.keeps) hw full ⟨#[]⟩ ⟨#[]⟩ hfl 0 0 R hR hR2 n hn x hx
  rw [hkd] at hdo
  have HDO := Lib.hid hdo
  have HA := Lib.hid (And.intro hR (And.intro hR2 (And.intro hn (And.intro hx (And.intro hk (And.intro hfull (And.intro hm (And.intro hTF (And.intro hkd (And.intro h hS))))))))))
  have HB := Lib.hid (And.intro hnm (And.intro hns (And.intro hT1 (And.intro hT2 (And.intro hV hfold)))))
  clear hR hR2 hn hx hk hfull hm hTF hms hmf hmm hdo hS hkd  hnm hns hT1 hT2 hV hfold
  unfold callV at HDO
  have hmd := method_do
  have hf3 := field49_3
  go_enter Tryz.func33, Tryz.ntmps33
  go_wp2_with (first | (go_at_call 34; refine (packAt_any _ _ _ (by omega) hp full HA.out.2.2.2.2.2.1).mono ?_; rintro e w' ⟨rfl, rfl⟩) | fail)
  refine HDO.out.mono ?_
  rintro e w1 ⟨na, nn, nc, rfl, ht⟩
  go_wp2_with fail
  refine (give_ok w1 0 ⟨#[]⟩ n 2 x.links x.size x.takes na nn nc).mono ?_
  rintro e w2 ⟨rfl, hk2⟩
  have hK2 := ht.keeps.then hk2
  obtain ⟨hR, hR2, hn, hx, hk, hfull, hm, hTF, hkd, h, hS⟩ := HA.out
  have hm2 := hm.after hK2
  have cm : w2.cell? ⟨T.bm, 0, none⟩ = some (.map (some T.mm)) := hm2.m.cell 0
  have lm := hm2.m.lt
  have lmm := MapB.lt hm2.met
  have lmm1 : T.mm < w2.heap.size + 1 := by omega
  have lmm2 : T.mm < w2.heap.size + 1 + 1 := by omega
  have hlk := hm2.met.lookup_ok kInt (t := 81) Tryz.underlying81 zero3 n
  rw [lookup_map, hk] at hlk
  change ∀ W, ob W T.mm = ob w2 T.mm → (Instr.lookup 81 (.map (some T.mm)) (.int .i64 n) true).run Tryz.prog W = .ok (.tuple #[.int .i64 0, .bool false]) W at hlk
  have HM2 := Lib.hid (And.intro hm2 hK2)
  clear ht hk2 hmd hR hR2 hn hx hk hfull hm hTF hm2 hK2 hkd h hS
  unfold answV answC
  go_upto_region 7 with fail
  obtain ⟨hm2, hK2⟩ := HM2.out
  obtain ⟨hR, hR2, hn, hx, hk, hfull, hm, hTF, hkd, h, hS⟩ := HA.out
  have kK := ((Keeps.refl (fun _ => False) w2).alloc (.cells #[.int .i64 n, .int .i64 2, .int .i64 x.links, .int .i64 x.size, .int .i64 x.takes] 44)).alloc (.cells #[.string p, .int .i64 2, .int .i64 0, .string ⟨#[]⟩, .slice none 0 0, .int .i64 (-1)] 55)
  have hm5 := hm2.after kK
  have hK5 := hK2.then kK
  have hst := (Blk.new w2 #[.int .i64 n, .int .i64 2, .int .i64 x.links, .int .i64 x.size, .int .i64 x.takes] 44).alloc (.cells #[.string p, .int .i64 2, .int .i64 0, .string ⟨#[]⟩, .slice none 0 0, .int .i64 (-1)] 55)
  have hbx := Blk.new' (w := w2.alloc (.cells #[.int .i64 n, .int .i64 2, .int .i64 x.links, .int .i64 x.size, .int .i64 x.takes] 44)) (n := w2.heap.size + 1) (by simp) #[.string p, .int .i64 2, .int .i64 0, .string ⟨#[]⟩, .slice none 0 0, .int .i64 (-1)] 55
  have hbls : ∃ v L, Blk w2 T.bl #[v] 34 ∧ ItemsAt w2 w0.heap.size v l L := hm2.l
  obtain ⟨v2, L2, hb2, _⟩ := hbls
  have hlo : T.Loose _ (w2.heap.size + 1) := (hm2.loose (Nat.le_succ _)).keeps hb2 kK (fun x => x)
  have hz5 : ((w2.alloc (.cells #[.int .i64 n, .int .i64 2, .int .i64 x.links, .int .i64 x.size, .int .i64 x.takes] 44)).alloc (.cells #[.string p, .int .i64 2, .int .i64 0, .string ⟨#[]⟩, .slice none 0 0, .int .i64 (-1)] 55)).heap.size = w2.heap.size + 2 := by simp
  have h02 : w0.heap.size ≤ w2.heap.size := hm2.keeps.size
  generalize hw5 : (w2.alloc (.cells #[.int .i64 n, .int .i64 2, .int .i64 x.links, .int .i64 x.size, .int .i64 x.takes] 44)).alloc (.cells #[.string p, .int .i64 2, .int .i64 0, .string ⟨#[]⟩, .slice none 0 0, .int .i64 (-1)] 55) = w5 at hK5 hm5 hst hbx hlo hz5 ⊢
  clear hw5 kK hm2 hK2 hb2 cm lm lmm lmm1 lmm2 hlk cs cf hf3
  have hKA := TV.X.ofNone (T := T) (w0 := w0) hK5
  have hmA := hm5
  have hstA := hst
  have hbxA := hbx
  have cs1 : w5.cell? ⟨w2.heap.size, 1, none⟩ = some (.int .i64 2) := hst.cell 1
  have hpvA : World.ownsRow w5 w0.heap.size 3 1 (.slice none 0 0) 0 [] := ⟨rfl, Or.inl ⟨rfl, rfl⟩⟩
  clear hm5 hst hbx hK5 hlo hz5
  clear hR hR2 hn hx hk hfull hm hTF hkd h hS
  obtain ⟨v, L5, hbl, hit⟩ := hmA.l
  obtain ⟨i55, hi55, hz50, hz51, hz52⟩ := info_parts info55
  have cl : w5.cell? ⟨T.bl, 0, none⟩ = some v := hbl.cell 0
  have ll := hbl.lt
  have hcx := hbxA.cell
  have hrow := hit.row
  have hsA := hmA.keeps.size
  have HX := Lib.hid (And.intro hmA (And.intro hbl (And.intro hit (And.intro hKA (And.intro hstA hpvA)))))
  clear hmA hbl hit hKA hbxA hstA hpvA
  go_wp2_with (first | (at_builtin; refine wpList_append_own_at _ rfl _ _ 34 rfl w0.heap.size 55 i55 _ 6 80 Tryz.underlying34 hi55 hz50 hz51 hz52 rfl (by decide) _ _ _ rfl (hrow.alloc _) ⟨w5.heap.size, 0, none⟩ 1 1 (It.cells ⟨p, 2, 0, ⟨#[]⟩, [], -1⟩ (.slice none 0 0)) rfl rfl (cells_new w5 (It.cells ⟨p, 2, 0, ⟨#[]⟩, [], -1⟩ (.slice none 0 0)).toArray 55) (by simp [It.cells, Value.oneCell']) (by simp only [maxLen]; omega) (by omega) (by simp; omega) ?_) | fail)
  intro v' w9 hown9 hg9 _ _
  obtain ⟨hmA, hbl, hit, hKA, hstA, hpvA⟩ := HX.out
  obtain ⟨hb9, hm10, hk10⟩ := hmA.push hbl hit ⟨p, 2, 0, ⟨#[]⟩, [], -1⟩ (.slice none 0 0) hpvA hown9 hg9
  have kA9 : Keeps (fun c => v.ownBlock = some c) w5 w9 := ((Keeps.refl (fun c => v.ownBlock = some c) w5).alloc _).grown hg9 (fun k e => Or.inl e)
  have hst9 := hstA.keeps kA9 (ownsRow_type hit.row hstA (by decide))
  have cl9 : w9.cell? ⟨T.bl, 0, none⟩ = some v := hb9.cell 0
  have fl9 : w9.frozen? ⟨T.bl, 0, none⟩ = false := hb9.frz 0
  have ct9 : w9.cell? ⟨w2.heap.size, 1, none⟩ = some (.int .i64 2) := hst9.cell 1
  have ne9 : ¬ w2.heap.size = T.bl := blk_ne hst9 hb9 (by decide)
  obtain ⟨a9, c9, rfl⟩ := ownsRow_form hown9
  have hstB : Blk (w9.setCell ⟨T.bl, 0, none⟩ (.slice a9 (l.length + 1) c9)) w2.heap.size _ 44 := hst9.setOther (a := ⟨T.bl, 0, none⟩) (Ne.symm ne9) _
  have hKB := TV.X.trans hKA hk10
  have HY := Lib.hid (And.intro hm10 (And.intro hKB hstB))
  clear hmA hbl hit hKA hstA hb9 hm10 hk10 hown9 hg9 hrow hcx cl kA9 hst9 hpvA hKB hstB cs1
  go_upto_region 18 with fail
  obtain ⟨hm, hK, hst⟩ := HY.out
  generalize w9.setCell ⟨T.bl, 0, none⟩ (.slice a9 (l.length + 1) c9) = wB at hm hK hst ⊢
  clear cl9 fl9 ct9 ne9
  obtain ⟨hR, hR2, hn, hx, hk, hfull, _, hTF, hkd, h, hS⟩ := HA.out
  obtain ⟨hnm, hns, hT1, hT2, hV, hfold⟩ := HB.out
  have hdd := do_readdir (h.below0 hS hm.keeps) hw full ⟨#[]⟩ ⟨#[]⟩ hfl 0 0 _ rfl hT1 n hT2 x hx hkd hnm hns
  unfold callV at hdd
  have HDD := Lib.hid hdd
  have cfB : wB.cell? ⟨T.bf, 0, none⟩ = some (.iface 25 (.pointer (some ⟨S.F, 0, none⟩))) := by rw [hm.f.cell]; simp [ifc, hTF]
  have hmd := method_do
  have hf4 := field49_4
  obtain ⟨names, hnames⟩ : ∃ names, sortB (L.map (·.1)) = names := ⟨_, rfl⟩
  rw [hnames] at hV hfold
  have hsn : ∀ nm ∈ names, nm.size ≤ 1000000 := by
    intro nm hq
    rw [← hnames, sortB_mem] at hq
    obtain ⟨q, hq2, rfl⟩ := List.mem_map.1 hq
    exact hns q hq2
  have hnl : names.length ≤ 1000000 := by
    rw [← hnames, sortB_length, List.length_map]
    have hin : n ∈ S.keys := by have := (toR_ok hw full true hT1).2; rw [hT2] at this; exact this
    have h1 := hw.room n hin b L (by rw [hx]; exact hnm)
    have h2 := (hw.nds n hin).kind
    rw [hx] at h1 h2
    omega
  have HE := Lib.hid (And.intro hm (And.intro hK (And.intro hst (And.intro hV (And.intro hfold (And.intro hnames hsn))))))
  clear hm hK hst hV hfold hnames hsn hR hR2 hn hx hk hfull hTF hkd h hS hnm hns hT1 hT2 hdd
  go_wp2_with fail
  refine HDD.out.mono ?_
  rintro e w11 ⟨na7, nn7, nc7, rfl, ht7⟩
  go_wp2_with fail
  refine (give_ok w11 0 ⟨#[]⟩ 0 0 0 0 0 na7 nn7 nc7).mono ?_
  rintro e w12 ⟨rfl, hk8⟩
  obtain ⟨hm, hK, hst, hV, hfold, hnames, hsn⟩ := HE.out
  have k8 := ht7.keeps.then hk8
  have hrow := ht7.row
  unfold NewStrs at hrow
  rw [hnames] at hrow
  have hnn : nn7 = names.length := by obtain ⟨a, c, e⟩ := ownsRow_form hrow; simp at e; exact e.2.1
  subst hnn
  have hrow12 : w12.ownsRow wB.heap.size 9 1 (.slice na7 names.length nc7) names.length (names.map Value.string) := ownsRow_keep hrow (fun g hg => by
    obtain ⟨_, cur, h5⟩ := ownsRow_base hrow hg
    exact hk8.block g (Array.getElem?_eq_some_iff.1 h5).1 (fun x => x))
  have hm12 := hm.after k8
  have hK12 := TV.X.trans hK (TV.X.ofNone k8)
  have HE2 := Lib.hid (And.intro hm12 (And.intro hK12 (And.intro hrow12 (And.intro hV (And.intro hfold hsn)))))
  clear hm hK hst hV hfold hnames hsn k8 hrow hrow12 hm12 hK12 ht7 hk8 hmd cfB
  unfold answV answC
  go_wp2_with fail
  clear hf4
  go_loopg [13, 86] names.length (fun k _ p86 wr => ∃ (j : Nat) (st : Trd), p86 = .int .i64 j ∧ j ≤ names.length ∧ k = names.length - j ∧ TM w0 T wr st.1 st.2 ∧ (names.drop j).foldlM (fun st nm => V nm st) st = some st' ∧
    wr.ownsRow wB.heap.size 9 1 (.slice na7 names.length nc7) names.length (names.map Value.string) ∧ Keeps (T.X w0 w) w wr)
  case atStart =>
    obtain ⟨hm12, hK12, hrow12, hV, hfold, hsn⟩ := HE2.out
    exact ⟨0, (l ++ [⟨p, 2, 0, ⟨#[]⟩, [], -1⟩], met), rfl, Nat.zero_le _, by omega, hm12, hfold, hrow12, hK12⟩
  case round =>
    obtain ⟨j, st, rfl, hj, hgk, hmj, hfj, hrj, hKj⟩ := hrel
    by_cases hlt : j < names.length
    · obtain ⟨g, c, hvg, _, hgl, _, _, hcells⟩ := ownsRow_cells2 hrj (by omega)
      simp only [Value.slice.injEq] at hvg
      obtain ⟨rfl, _, rfl⟩ := hvg
      obtain ⟨nm, hnm⟩ : ∃ nm, names[j]? = some nm := ⟨_, List.getElem?_eq_getElem hlt⟩
      have hnmem : nm ∈ names := List.mem_of_getElem? hnm
      have hcj : wr.cell? ⟨g, j, none⟩ = some (.string nm) := by rw [hcells j (by simpa using hlt), List.getElem?_map, hnm]; rfl
      have hdrop : names.drop j = nm :: names.drop (j + 1) := by
        rw [List.drop_eq_getElem_cons hlt]
        congr 1
        rw [List.getElem?_eq_getElem hlt] at hnm
        simpa using hnm
      rw [hdrop, List.foldlM_cons] at hfj
      obtain ⟨st1, hst1, hrest⟩ := Option.bind_eq_some_iff.1 hfj
      have hsz := HE2.out.2.2.2.2.2 nm hnmem
      have cvv : wr.cell? ⟨T.bv, 0, none⟩ = some T.vis := hmj.v.cell 0
      unfold TV.vis at cvv
      have hcall := HE2.out.2.2.2.1 nm hnmem st st1 hst1 wr.drew (hmj.after (Keeps.refl _ _).drew)
      unfold subR at hcall
      have HF := Lib.hid (And.intro hgk (And.intro hmj (And.intro hrest (And.intro hrj (And.intro hKj hcall)))))
      clear hgk hmj hfj hrj hKj hcells hnm hdrop hst1 hrest hcall
      go_wp2_with fail
      have hif1 : ¬ 9223372036854775807 < p.size + 1 := by omega
      have hif2 : ¬ 9223372036854775807 < p.size + 1 + nm.size := by omega
      go_still_tail 6, (by kernel_rfl)
      clear hif1 hif2
      still_call (Tryz.strings_TrimPrefix _ _ _)
      refine wpStill_nil ?_
      change wpList _ _ _ _ _ wr.drew
      go_wp2_with fail
      refine HF.out.2.2.2.2.2.mono ?_
      rintro e w13 ⟨rfl, hm13, hk13⟩
      have HG := Lib.hid (And.intro hm13 hk13)
      clear hm13 hk13 cvv hcj
      go_wp2_with fail
      go_roundg (names.length - (j + 1))
      case measure => obtain ⟨h1, _⟩ := HF.out; omega
      case rel =>
        obtain ⟨hgk, hmj, hrest, hrj, hKj, _⟩ := HF.out
        obtain ⟨hm13, hk13⟩ := HG.out
        refine ⟨j + 1, st1, by go_num, by omega, rfl, hm13, hrest, ?_, TV.X.trans hKj (TV.X.trans (TV.X.ofNone (Keeps.refl _ _).drew) hk13)⟩
        obtain ⟨v13, L13, hb13, hi13⟩ := hmj.l
        refine ownsRow_keep hrj (fun g' hg' => ?_)
        obtain ⟨_, cur, h5⟩ := ownsRow_base hrj hg'
        refine hk13.block g' (Array.getElem?_eq_some_iff.1 h5).1 ?_
        rintro (e | e | ⟨_, cs, f, e⟩)
        · exact blk_ne h5 hb13 (by decide) e
        · exact not_blk hmj.met h5 e.symm
        · rw [show (wr.drew).heap[g']? = _ from h5] at e; cases e
    · have hje : j = names.length := by omega
      have hfe : st' = st := by
        rw [hje, List.drop_length, List.foldlM_nil] at hfj
        simpa using hfj.symm
      have HF := Lib.hid (And.intro hfe (And.intro hmj hKj))
      clear hgk hmj hfj hrj hKj hfe hje
      go_wp2_with fail
      go_end0
      obtain ⟨hfe, hmj, hKj⟩ := HF.out
      rw [hfe]
      exact ⟨rfl, hmj, hKj⟩
end Go.Proofs.YtdafneilalompaaGreatDoor
