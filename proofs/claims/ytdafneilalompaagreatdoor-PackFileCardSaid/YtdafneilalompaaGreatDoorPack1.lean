/- pack's fill: a file's pieces that are not all zeros. Conditions: those that each theorem names. -/
import Derived.Test.YtdafneilalompaaGreatDoorPack0
import Derived.Test.YtdafneilalompaaGreatDoorAnsA
namespace Go.Proofs.YtdafneilalompaaGreatDoor
open Go Go.RowKit
open Go.ChangeMaps (setBlock)

/-- A ram.FS as an api.Caller. -/
def ifc (F : Nat) : Value := .iface 25 (.pointer (some ⟨F, 0, none⟩))
theorem method_do (a : Addr) (w : World) : (method 425 25 (.pointer (some a)) "Do").run Tryz.prog w = .ok (15, .pointer (some a)) w := by kernel_rfl
section
variable (err n i k l s b : Int) (data : ByteArray) (na : Option Addr) (nn nc : Nat) (w : World)
theorem field49_0 : (Instr.field 49 (.agg #[.int .i64 err, .int .i64 n, .string data, .int .i64 i, .int .i64 k, .int .i64 l, .int .i64 s, .int .i64 b, .slice na nn nc, .int .i64 0, .int .i64 0, .int .i64 0, .int .i64 0]) 0).run Tryz.prog w = .ok (.int .i64 err) w := by kernel_rfl
theorem field49_2 : (Instr.field 49 (.agg #[.int .i64 err, .int .i64 n, .string data, .int .i64 i, .int .i64 k, .int .i64 l, .int .i64 s, .int .i64 b, .slice na nn nc, .int .i64 0, .int .i64 0, .int .i64 0, .int .i64 0]) 2).run Tryz.prog w = .ok (.string data) w := by kernel_rfl
theorem field49_3 : (Instr.field 49 (.agg #[.int .i64 err, .int .i64 n, .string data, .int .i64 i, .int .i64 k, .int .i64 l, .int .i64 s, .int .i64 b, .slice na nn nc, .int .i64 0, .int .i64 0, .int .i64 0, .int .i64 0]) 3).run Tryz.prog w = .ok (.agg #[.int .i64 i, .int .i64 k, .int .i64 l, .int .i64 s, .int .i64 b]) w := by kernel_rfl
theorem field49_4 : (Instr.field 49 (.agg #[.int .i64 err, .int .i64 n, .string data, .int .i64 i, .int .i64 k, .int .i64 l, .int .i64 s, .int .i64 b, .slice na nn nc, .int .i64 0, .int .i64 0, .int .i64 0, .int .i64 0]) 4).run Tryz.prog w = .ok (.slice na nn nc) w := by kernel_rfl
end
/-- An item under way: what has been filled in. -/
structure FillMem (w : World) (bx : Nat) (p : ByteArray) (kind sz same : Int) (l : List (Nat × List UInt8)) (v : Value) (wr : World) : Prop where
  blk : Blk wr bx #[.string p, .int .i64 kind, .int .i64 sz, .string ⟨#[]⟩, v, .int .i64 same] 55
  row : wr.ownsRow w.heap.size 3 1 v (pcsOf l).length ((pcsOf l).map (Value.int .i64))
  bld : Lib.IsBuilder 139 5 w.heap.size w.heap.size (Lib.byteCells (dataOf l)) wr
  keeps : Keeps (fun c => c = bx) w wr
theorem FillMem.after {w : World} {bx : Nat} {p : ByteArray} {kind sz same : Int} {l : List (Nat × List UInt8)} {v : Value} {w1 w2 : World} (hm : FillMem w bx p kind sz same l v w1) (k : Keeps (fun _ => False) w1 w2) : FillMem w bx p kind sz same l v w2 :=
  ⟨hm.blk.keeps k (fun x => x), ownsRow_keep hm.row (fun g hg => k.block g (by obtain ⟨_, cur, h3⟩ := ownsRow_base hm.row hg; exact (Array.getElem?_eq_some_iff.1 h3).1) (fun x => x)), IsBuilder.keeps hm.bld k, hm.keeps.trans k (fun _ _ x => x) (fun _ _ x => x.elim)⟩
theorem IsBuilder.keepsT {w w' : World} {T e B b : Nat} {bs : List Value} (h : Lib.IsBuilder T e B b bs w) {X : Nat → Prop} (k : Keeps X w w') (hX : ∀ c cs t f, X c → w.heap[c]? = some (.cells cs t f) → t ≠ T ∧ t ≠ e) : Lib.IsBuilder T e B b bs w' := by
  have one : ∀ p, Lib.BuilderAt T e B b p bs w → Lib.BuilderAt T e B b p bs w' := by
    rintro p ⟨h1, v, h2, h3, h4⟩
    refine ⟨h1, v, (k.block b (Array.getElem?_eq_some_iff.1 h2).1 (fun x => (hX b _ _ _ x h2).1 rfl)).trans h2, ownsRow_keep h3 (fun g hg => ?_), h4⟩
    obtain ⟨_, cur, h5⟩ := ownsRow_base h3 hg
    exact k.block g (Array.getElem?_eq_some_iff.1 h5).1 (fun x => (hX g _ _ _ x h5).2 rfl)
  exact h.imp (one _) (one _)
theorem IsBuilder.cells {w : World} {T e B b : Nat} {bs : List Value} (h : Lib.IsBuilder T e B b bs w) : ∃ cs, w.heap[b]? = some (.cells cs T (0, 0)) := by
  rcases h with ⟨_, v, h2, _⟩ | ⟨_, v, h2, _⟩ <;> exact ⟨_, h2⟩
theorem FillMem.step {w : World} {bx : Nat} {p : ByteArray} {kind sz same : Int} {l : List (Nat × List UInt8)} {v : Value} {w3 : World} (hm : FillMem w bx p kind sz same l v w3) (hbx : bx < w.heap.size) (q : Nat) (t : ByteArray) {v' : Value} {w4 : World} {o : Obj}
    (hown : w4.ownsRow w.heap.size 3 1 v' ((pcsOf l).length + 1) ((pcsOf l).map (Value.int .i64) ++ [.int .i64 q])) (hg : (w3.alloc o).grownBy w4 v.ownBlock) :
    Blk w4 bx #[.string p, .int .i64 kind, .int .i64 sz, .string ⟨#[]⟩, v, .int .i64 same] 55 ∧ Lib.IsBuilder 139 5 w.heap.size w.heap.size (Lib.byteCells (dataOf l)) (w4.setCell ⟨bx, 4, none⟩ v') ∧ w.heap.size ≤ w4.heap.size ∧
      ∀ w6, Lib.BuilderAt 139 5 w.heap.size w.heap.size (.pointer (some ⟨w.heap.size, 0, none⟩)) (Lib.byteCells (dataOf l) ++ Lib.strCells t) w6 → FrB w.heap.size w.heap.size (w4.setCell ⟨bx, 4, none⟩ v') w6 → FillMem w bx p kind sz same (l ++ [(q, t.data.toList)]) v' w6 := by
  have kA : Keeps (fun c => v.ownBlock = some c) w3 w4 := ((Keeps.refl (fun c => v.ownBlock = some c) w3).alloc o).grown hg (fun k e => Or.inl e)
  have hne := ownsRow_type hm.row hm.blk (by decide)
  have hb4 := hm.blk.keeps kA hne
  have hbl4 := IsBuilder.keepsT hm.bld kA (fun c cs t f hc hh => by
    obtain ⟨_, cur, h5⟩ := ownsRow_base hm.row hc
    rw [hh] at h5
    cases h5
    decide)
  have k5 : Keeps (fun c => c = bx) w4 (w4.setCell ⟨bx, 4, none⟩ v') := Keeps.setCell (X := fun c => c = bx) (Keeps.refl _ _) (Or.inl rfl) _
  have hbl5 := IsBuilder.keepsT hbl4 k5 (fun c cs t f hc hh => by
    subst hc
    rw [show w4.heap[c]? = _ from hb4] at hh
    cases hh
    decide)
  have hb5 := hb4.set 4 v'
  have hrow5 : (w4.setCell ⟨bx, 4, none⟩ v').ownsRow w.heap.size 3 1 v' ((pcsOf l).length + 1) ((pcsOf l).map (Value.int .i64) ++ [.int .i64 q]) :=
    ownsRow_keep hown (fun g hg => by have := (ownsRow_base hown hg).1; exact Below.heap_setCell _ _ _ _ (by show g ≠ bx; omega))
  have hK4 : Keeps (fun c => c = bx) w w4 := hm.keeps.trans kA (fun _ _ x => x) (fun c hc e => by have := (ownsRow_base hm.row e).1; omega)
  have hK5 := hK4.then k5
  refine ⟨hb4, hbl5, hK4.size, fun w6 hb hf => ?_⟩
  refine ⟨?_, ?_, Or.inr ?_, ?_⟩
  · refine hb5.keeps hf ?_
    rintro (e | ⟨e, _⟩) <;> omega
  · rw [pcsOf_snoc, List.length_append, List.map_append]
    refine ownsRow_keep hrow5 (fun g hg => ?_)
    obtain ⟨h1, cur, h5⟩ := ownsRow_base hrow5 hg
    refine hf.block g (Array.getElem?_eq_some_iff.1 h5).1 ?_
    rintro (e | ⟨_, cs, f, e⟩)
    · subst e
      obtain ⟨cs, hcs⟩ := IsBuilder.cells hbl5
      rw [hcs] at h5
      cases h5
    · rw [h5] at e; cases e
  · rw [dataOf_snoc]
    simp only [Lib.byteCells, List.map_append] at hb ⊢
    exact hb
  · refine hK5.trans hf (fun _ _ x => x) (fun c hc e => ?_)
    rcases e with e | ⟨e, _⟩ <;> omega
theorem FrB.ofKept {w w' : World} {B b : Nat} (h : Below B w w') (k : Lib.OthersKept 5 (some b) w w') : FrB B b w w' := by
  refine ⟨h.os, h.tape, h.output, h.size, fun i hi hn => ?_⟩
  by_cases hB : i < B
  · exact h.block i hB
  · obtain ⟨o, ho⟩ : ∃ o, w.heap[i]? = some o := ⟨_, Array.getElem?_eq_getElem hi⟩
    rw [ho]
    exact k i o ho (fun e => hn (Or.inl (by simpa using e))) (fun c fz e => hn (Or.inr ⟨by omega, c, fz, by rw [ho, e]⟩))
theorem info3 : (Tryz.prog.info? 3).map (fun i => (i.zero, i.size, i.bytes)) = some (some (.int .i64 0), 1, 8) := by kernel_rfl
set_option maxRecDepth 100000 in
set_option maxHeartbeats 2000000 in
theorem fill_ok {w : World} {S : St} (h : Rep w S) (hw : S.Wf) (full : ByteArray) (hp0 : full.size ≤ 9000000000000000000) {i : Int} (hF : fileR S full = (i, 0)) (hi : i ∈ S.keys) {b : Nat} {L : List (Int × List UInt8)} (hp : (S.nd i).pcs = some (b, L)) (sz : Nat) (hsz : (S.nd i).size = sz)
    (bx : Nat) (p : ByteArray) (kind same : Int) (hx : Blk w bx #[.string p, .int .i64 kind, .int .i64 sz, .string ⟨#[]⟩, .slice none 0 0, .int .i64 same] 55) (hbx : ¬ S.foot bx) :
    Calls Tryz.prog 36 #[.pointer (some ⟨bx, 0, none⟩), ifc S.F, .string full] w fun e w' => e = .returned (.tuple #[]) ∧ ∃ v, Blk w' bx #[.string p, .int .i64 kind, .int .i64 sz, .string ⟨(dataOf (fillTo L sz (fillN sz))).toArray⟩, v, .int .i64 same] 55 ∧
      w'.ownsRow w.heap.size 3 1 v (pcsOf (fillTo L sz (fillN sz))).length ((pcsOf (fillTo L sz (fillN sz))).map (Value.int .i64)) ∧ Keeps (fun c => c = bx) w w' := by
  obtain ⟨i3, hi3, hz30, hz31, hz32⟩ := info_parts info3
  have hsz2 : sz ≤ 8459264 := by have := (hw.sizes i hi).2; omega
  have hrd : ∀ (W : World) (off : Nat), Keeps (fun c => c = bx) w W → off ≤ 9000000 → Calls Tryz.prog 15 #[.pointer (some ⟨S.F, 0, none⟩), callV 3 full ⟨#[]⟩ off 16384 ⟨#[]⟩] W fun e w' => ∃ na nn nc, e = .returned (answV 0 (readR L sz off 16384).length ⟨(readR L sz off 16384).toArray⟩ 0 0 0 0 0 (.slice na nn nc)) ∧ Keeps (fun _ => False) W w' := by
    intro W off k ho
    refine (do_read (h.keeps k (fun b hb e => hbx (e ▸ hb))) hw full ⟨#[]⟩ ⟨#[]⟩ hp0 off 16384 hF hi hp sz hsz ho (Nat.le_refl _)).mono ?_
    rintro e w' ⟨na, nn, nc, rfl, ht⟩
    exact ⟨na, nn, nc, rfl, ht.keeps⟩
  have HRD := Lib.hid hrd
  have HL := Lib.hid (hw.whole i hi b L hp)
  have hbl := hx.lt
  have hx0 : FillMem w bx p kind sz same (fillTo L sz 0) (.slice none 0 0) (w.alloc (.cells #[.pointer none, .slice none 0 0] 139)) :=
    ⟨hx.alloc _, ⟨rfl, Or.inl ⟨rfl, rfl⟩⟩, Lib.fresh_isBuilder 139 5 w, (Keeps.refl _ _).alloc _⟩
  have HX0 := Lib.hid hx0
  have hc2 : w.cell? ⟨bx, 2, none⟩ = some (.int .i64 sz) := hx.cell 2
  clear hF hp hsz hrd hx0 hx hbx h
  unfold ifc
  unfold callV at HRD
  go_enter Tryz.func36, Tryz.ntmps36
  go_wp2_with fail
  clear hc2
  go_loopg [7] (fillN sz + 32) (fun k p7 wr => ∃ (a o : Nat) (v : Value), p7 = .int .i64 o ∧ o = 16384 * a ∧ k = fillN sz + 32 - 32 * a ∧ FillMem w bx p kind sz same (fillTo L sz (min (32 * a) (fillN sz))) v wr)
  case atStart => exact ⟨0, 0, _, rfl, rfl, by omega, by simpa using HX0.out⟩
  case round =>
    obtain ⟨a, o, v, rfl, ho, hgk, hm⟩ := hrel
    have hc2 : wr.cell? ⟨bx, 2, none⟩ = some (.int .i64 sz) := hm.blk.cell 2
    have HG := Lib.hid (And.intro ho (And.intro hgk hm))
    clear ho hgk hm
    by_cases hlt : o < sz
    · have ho2 : o ≤ 9000000 := by omega
      obtain ⟨txt, htxt⟩ : ∃ txt, (⟨(readR L sz o 16384).toArray⟩ : ByteArray) = txt := ⟨_, rfl⟩
      have htl : txt.size = min 16384 (sz - o) := by rw [← htxt]; simp only [ByteArray.size, List.size_toArray]; exact readR_length HL.out sz o 16384
      have hrd := HRD.out wr o HG.out.2.2.keeps ho2
      rw [htxt] at hrd
      have hrd2 := Lib.hid hrd
      have HT := Lib.hid htxt
      clear hrd htxt
      have hmd := method_do
      go_wp2_with fail
      refine hrd2.out.mono ?_
      rintro e w1 ⟨na, nn, nc, rfl, hk1⟩
      clear hmd
      go_wp2_with fail
      refine (give_ok w1 _ txt 0 0 0 0 0 na nn nc).mono ?_
      rintro e w2 ⟨rfl, hk2⟩
      obtain ⟨ho, hgk, hm⟩ := HG.out
      have hm2 := hm.after (hk1.then hk2)
      have HG2 := Lib.hid (And.intro ho (And.intro hgk hm2))
      have HTL := Lib.hid htl
      clear hk1 hk2 ho hgk hm hm2 hc2 htl
      unfold answV answC
      have hfld := field49_2
      go_wp2_with fail
      clear hfld
      have hfn : 32 * a < fillN sz := by have := HG2.out.1; unfold fillN; omega
      go_loopg [9] ((txt.size + 511) / 512) (fun k p9 wq => ∃ (j o9 : Nat) (v : Value), p9 = .int .i64 o9 ∧ o9 = 512 * j ∧ j ≤ (txt.size + 511) / 512 ∧ k = (txt.size + 511) / 512 - j ∧ FillMem w bx p kind sz same (fillTo L sz (32 * a + j)) v wq)
      case atStart =>
        obtain ⟨_, _, hm2⟩ := HG2.out
        rw [Nat.min_eq_left (Nat.le_of_lt hfn)] at hm2
        exact ⟨0, 0, v, rfl, rfl, by omega, by omega, hm2⟩
      case round =>
        obtain ⟨j, o9, v9, rfl, ho9, hj, hgk9, hm9⟩ := hrel
        have HH := Lib.hid (And.intro ho9 (And.intro hj (And.intro hgk9 hm9)))
        clear ho9 hj hgk9 hm9
        by_cases hlt9 : o9 < txt.size
        · have htl2 : txt.size ≤ 16384 := by have := HTL.out; omega
          obtain ⟨m9, hm9⟩ : ∃ m, min txt.size (o9 + 512) = m := ⟨_, rfl⟩
          have hmin : min (txt.size : Int) ((o9 : Int) + 512) = (m9 : Int) := by omega
          have hm91 : o9 ≤ m9 := by omega
          have hm92 : m9 ≤ txt.size := by omega
          have HM := Lib.hid hm9
          clear hm9
          go_wp2_with fail
          have hpc : (txt.extract o9 m9).data.toList = pieceR L sz (32 * a + j) := by
            have h1 := HT.out
            have h2 := HM.out
            obtain ⟨ho, _⟩ := HG2.out
            obtain ⟨ho9, _⟩ := HH.out
            have h3 : (txt.extract o9 m9).data.toList = ((readR L sz o 16384).drop o9).take (m9 - o9) := by
              rw [← h1]; simp [Lib.extract_data]
            have h4 : (readR L sz o 16384).length = txt.size := by rw [← h1]; simp [ByteArray.size]
            have h5 : ((readR L sz o 16384).drop o9).take (m9 - o9) = ((readR L sz o 16384).drop o9).take 512 := by
              by_cases hc : o9 + 512 ≤ txt.size
              · rw [show m9 - o9 = 512 by omega]
              · rw [List.take_of_length_le (by simp; omega), List.take_of_length_le (by simp; omega)]
            rw [h3, h5, readR_slice HL.out sz o 16384 o9 512 (by omega), pieceR]
            congr 1; omega
          have hsx : (txt.extract o9 m9).size ≤ 1000000000 := by simp [ByteArray.size_extract]; omega
          by_cases hz : allZero (pieceR L sz (32 * a + j)) = true
          · refine (zeros_any _ _ hsx true (by rw [hpc]; exact hz)).mono ?_
            rintro e w3 ⟨rfl, hk3⟩
            have HP := Lib.hid (And.intro hpc (And.intro hz hk3))
            clear hpc hz hk3 hsx
            go_wp2_with fail
            go_roundg ((txt.size + 511) / 512 - (j + 1))
            case measure => obtain ⟨h1, h2, h3, _⟩ := HH.out; omega
            case rel =>
              obtain ⟨h1, h2, h3, hm⟩ := HH.out
              obtain ⟨hpc, hz, hk3⟩ := HP.out
              refine ⟨j + 1, o9 + 512, v9, by go_num, by omega, by omega, rfl, ?_⟩
              rw [show 32 * a + (j + 1) = (32 * a + j) + 1 by omega, fillTo, if_pos hz]
              exact hm.after hk3
          · have hzf : allZero (pieceR L sz (32 * a + j)) = false := by simpa using hz
            refine (zeros_any _ _ hsx false (by rw [hpc]; exact hzf)).mono ?_
            rintro e w3 ⟨rfl, hk3⟩
            have hm3 := HH.out.2.2.2.after hk3
            have hm3s := hm3.keeps.size
            have hc4 : w3.cell? ⟨bx, 4, none⟩ = some v9 := hm3.blk.cell 4
            have hf4 : w3.frozen? ⟨bx, 4, none⟩ = false := hm3.blk.frz 4
            have hq : ((o : Int) + (o9 : Int)).tdiv 512 = ((32 * a + j : Nat) : Int) := by
              obtain ⟨ho, _⟩ := HG2.out
              obtain ⟨ho9, _⟩ := HH.out
              rw [Int.tdiv_eq_ediv_of_nonneg (by omega)]; omega
            obtain ⟨qq, hqq⟩ : ∃ qq, 32 * a + j = qq := ⟨_, rfl⟩
            rw [hqq] at hq
            have hrow3 := hm3.row
            rw [hqq] at hrow3
            have hpl : (pcsOf (fillTo L sz qq)).length ≤ 20000 := by
              simp only [pcsOf, List.length_map]
              have := fillTo_len L sz qq
              obtain ⟨h1, h2, _⟩ := HH.out
              have := HTL.out
              unfold fillN at hfn
              omega
            have ho91 : o9 ≤ 20000 := by omega
            have hqq2 : qq ≤ 20000 := by
              obtain ⟨h1, h2, _⟩ := HH.out
              have := HTL.out
              unfold fillN at hfn
              omega
            have HP := Lib.hid (And.intro hpc (And.intro hzf (And.intro hm3 hqq)))
            clear hpc hz hzf hk3 hsx hm3 hqq
            go_wp2_with (first | (at_builtin; refine wpList_append_own_at _ rfl _ _ 53 rfl w.heap.size 3 i3 (.int .i64 0) 1 8 Tryz.underlying53 hi3 hz30 hz31 hz32 rfl (by decide) _ _ _ rfl (hrow3.alloc _) ⟨w3.heap.size, 0, none⟩ 1 1 [.int .i64 qq] rfl rfl (cell_one_new _ _ _) (by simp [Value.oneCell']) (by simp only [maxLen]; omega) (by omega) (by simp; omega) ?_) | fail)
            intro v' w4 hown4 hg4 _ _
            obtain ⟨hpc, hzf, hm3, hqq⟩ := HP.out
            rw [hqq] at hm3
            obtain ⟨hb4, hbl5, hs4, hfin⟩ := hm3.step hbl qq (txt.extract o9 m9) hown4 hg4
            obtain ⟨a9, c9, rfl⟩ := ownsRow_form hown4
            have hc44 : w4.cell? ⟨bx, 4, none⟩ = some v9 := hb4.cell 4
            have hf44 : w4.frozen? ⟨bx, 4, none⟩ = false := hb4.frz 4
            have HF := Lib.hid (And.intro hfin hbl5)
            have HP2 := Lib.hid (And.intro hpc (And.intro hzf hqq))
            clear hfin hbl5 hb4 hpc hzf hqq hm3 hown4 hg4 hrow3 hc4 hf4 hq
            go_wp2_with fail
            have hxl : (txt.extract o9 m9).size ≤ 1000000 := by simp [ByteArray.size_extract]; omega
            have hdl : (dataOf (fillTo L sz qq)).length ≤ 20000 * 512 := by have := dataOf_len HL.out sz qq; omega
            refine (Builder_WriteString HF.out.2 (by simp; omega) (txt.extract o9 m9) (by rw [Lib.byteCells_length]; omega)).mono ?_
            rintro e w6 ⟨rfl, hb6, hf6⟩
            have hm6 := HF.out.1 w6 hb6 hf6
            have HM6 := Lib.hid hm6
            clear hb6 hf6 hm6 hc44 hf44 hxl hdl
            go_wp2_with fail
            go_roundg ((txt.size + 511) / 512 - (j + 1))
            case measure => obtain ⟨h1, h2, h3, _⟩ := HH.out; omega
            case rel =>
              obtain ⟨h1, h2, h3, hm⟩ := HH.out
              obtain ⟨hpc, hzf, hqq⟩ := HP2.out
              refine ⟨j + 1, o9 + 512, .slice a9 ((pcsOf (fillTo L sz qq)).length + 1) c9, by go_num, by omega, by omega, rfl, ?_⟩
              rw [show 32 * a + (j + 1) = qq + 1 by omega, fillTo, if_neg (by rw [← hqq, hzf]; simp), ← hqq, ← hpc, hqq]
              exact HM6.out
        · have htl2 : txt.size ≤ 16384 := by have := HTL.out; omega
          go_wp2_with fail
          go_roundg (fillN sz + 32 - 32 * (a + 1))
          case measure => obtain ⟨_, h2, _⟩ := HG2.out; omega
          case rel =>
            obtain ⟨ho, h2, _⟩ := HG2.out
            obtain ⟨h1, h3, h4, hm⟩ := HH.out
            have htl := HTL.out
            refine ⟨a + 1, o + 16384, v9, by go_num, by omega, rfl, ?_⟩
            rw [show min (32 * (a + 1)) (fillN sz) = 32 * a + j by unfold fillN at hfn ⊢; omega]
            exact hm
    · obtain ⟨ho, hgk, hm⟩ := HG.out
      rw [show min (32 * a) (fillN sz) = fillN sz by unfold fillN; omega] at hm
      have hms := hm.keeps.size
      have HM := Lib.hid hm
      clear ho hgk hm
      go_wp2_with fail
      refine (Tryz.Builder_String_any_k w.heap.size w.heap.size (dataOf (fillTo L sz (fillN sz))) wr (Lib.IsBuilderF.of HM.out.bld) hms).mono ?_
      rintro e w8 ⟨rfl, _, hbel, hoth⟩
      have hfr := FrB.ofKept hbel hoth
      have hm := HM.out
      have hb8 := hm.blk.keeps hfr (by rintro (e | ⟨e, _⟩) <;> omega)
      have hc8 : w8.cell? ⟨bx, 3, none⟩ = some (.string ⟨#[]⟩) := hb8.cell 3
      have hf8 : w8.frozen? ⟨bx, 3, none⟩ = false := hb8.frz 3
      have hrow8 : w8.ownsRow w.heap.size 3 1 v (pcsOf (fillTo L sz (fillN sz))).length ((pcsOf (fillTo L sz (fillN sz))).map (Value.int .i64)) := by
        refine ownsRow_keep hm.row (fun g hg => ?_)
        obtain ⟨h1, cur, h5⟩ := ownsRow_base hm.row hg
        refine hfr.block g (Array.getElem?_eq_some_iff.1 h5).1 ?_
        rintro (e | ⟨_, cs, f, e⟩)
        · subst e
          obtain ⟨cs, hcs⟩ := IsBuilder.cells hm.bld
          rw [hcs] at h5
          cases h5
        · rw [h5] at e; cases e
      have hK8 : Keeps (fun c => c = bx) w w8 := hm.keeps.trans hfr (fun _ _ x => x) (fun c hc e => by rcases e with e | ⟨e, _⟩ <;> omega)
      have HE := Lib.hid (And.intro hb8 (And.intro hrow8 hK8))
      clear hbel hoth hfr hm hb8 hrow8 hK8
      go_wp2_with fail
      go_end0
      obtain ⟨hb8, hrow8, hK8⟩ := HE.out
      refine ⟨rfl, v, hb8.set 3 _, ?_, hK8.setCell (p := ⟨bx, 3, none⟩) (Or.inl rfl) _⟩
      exact ownsRow_keep hrow8 (fun g hg => by have := (ownsRow_base hrow8 hg).1; exact Below.heap_setCell _ _ _ _ (by show g ≠ bx; omega))
end Go.Proofs.YtdafneilalompaaGreatDoor
