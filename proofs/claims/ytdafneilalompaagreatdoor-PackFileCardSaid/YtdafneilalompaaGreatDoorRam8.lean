/- Writing a file's bytes. Conditions: those that each theorem names. -/
import Derived.Test.YtdafneilalompaaGreatDoorRam7
namespace Go.Proofs.YtdafneilalompaaGreatDoor
open Go Go.RowKit Go.MapKept
open Go.ChangeMaps (setBlock)

def zpiece : List UInt8 := List.replicate 512 0
/-- A piece with bytes written over it from a place on. -/
def over (p : List UInt8) (from_ : Nat) (t : List UInt8) : List UInt8 := p.take from_ ++ t ++ p.drop (from_ + t.length)
theorem over_len {p t : List UInt8} {f : Nat} (h : f + t.length ≤ p.length) : (over p f t).length = p.length := by
  simp only [over, List.length_append, List.length_take, List.length_drop]; omega
theorem putAt_over (p t : List UInt8) (f : Nat) (h : f + t.length ≤ p.length) : putAt (pcs8 p) f (t.map fun b => Value.int .u8 b.toNat) = pcs8 (over p f t) := by
  apply Array.ext_getElem?
  intro i
  rw [putAt_get _ _ _ (by rw [List.length_map, pcs8_size]; exact h)]
  simp only [List.length_map, pcs8, List.getElem?_toArray, List.getElem?_map, over]
  split
  · rename_i h2
    rw [List.append_assoc, List.getElem?_append_right (by rw [List.length_take]; omega), List.getElem?_append_left (by rw [List.length_take]; omega)]
    congr 2
    rw [List.length_take]; omega
  · rename_i h2
    by_cases h3 : i < f
    · rw [List.append_assoc, List.getElem?_append_left (by rw [List.length_take]; omega), List.getElem?_take, if_pos h3]
    · rw [List.getElem?_append_right (by rw [List.length_append, List.length_take]; omega), List.getElem?_drop]
      congr 2
      rw [List.length_append, List.length_take]; omega
/-- The pieces behind a write of s at off, from s[at:] on. -/
def wrote (off : Nat) (s : List UInt8) (at_ : Nat) (L : List (Int × List UInt8)) : List (Int × List UInt8) :=
  if h : at_ < s.length then
    wrote off s (at_ + min (512 - (off + at_) % 512) (s.length - at_))
      (upd (((off + at_) / 512 : Nat) : Int) (over ((L.lookup (((off + at_) / 512 : Nat) : Int)).getD zpiece) ((off + at_) % 512) ((s.drop at_).take (512 - (off + at_) % 512))) L)
  else L
termination_by s.length - at_
decreasing_by
  have : (off + at_) % 512 < 512 := Nat.mod_lt _ (by omega)
  omega

/-- 'copy(p[from:], t)', t a string. -/
theorem copy244 {b f : Nat} {cs : Array Value} (hs : cs.size = 512) (hf : f ≤ 512) (c : Nat) (t : ByteArray) (W : World) (hb : ob W b = some (.cells cs 244)) :
    (Builtin.copy_ #[42, 9] 3 #[.slice (some ⟨b, f, none⟩) (512 - f) c, .string t]).run Tryz.prog W =
      .ok (.int .i64 (min t.size (512 - f) : Nat)) (setBlock W b (.cells (putAt cs f ((t.data.toList.take (512 - f)).map fun x => Value.int .u8 x.toNat)) 244)) := by
  have hB : Blk W b cs 244 := hb
  have hl : ((t.data.toList.take (512 - f)).map fun x => Value.int .u8 (x.toNat : Int)).length = min (512 - f) t.size := by simp
  have hst := run_storeCells_cells (P := Tryz.prog) b f ((t.data.toList.take (512 - f)).map fun x => Value.int .u8 (x.toNat : Int)) 0 W
    (by intro j hj; rw [hl] at hj; rw [Nat.add_zero, hB.cell]; simp; omega) (by intro j hj; exact hB.frz _) (by
      intro v hv
      obtain ⟨x, _, rfl⟩ := List.mem_map.1 hv
      rfl)
  rw [setCells_block _ _ hB, Nat.add_zero] at hst
  have hz : (Go.sizeOf 5).run Tryz.prog W = .ok 1 W := by kernel_rfl
  have hcells : (Array.map (fun b : UInt8 => Value.int IntKind.u8 (b.toNat : Int)) (t.extract 0 (Nat.min t.size (512 - f))).data).toList = (t.data.toList.take (512 - f)).map fun x => Value.int .u8 (x.toNat : Int) := by
    have key : ∀ n : Nat, t.data.toList.extract 0 (Nat.min t.size n) = t.data.toList.take n := by
      intro n
      rw [List.extract_eq_take_drop, List.drop_zero, Nat.sub_zero]
      show List.take (min t.data.size n) _ = _
      rw [← Array.length_toList, ← List.take_take]
      exact List.take_of_length_le (by rw [List.length_take]; omega)
    rw [Array.toList_map, ByteArray.data_extract, Array.toList_extract, key]
  simp only [Builtin.copy_, run_underlying Tryz.underlying42, Builtin.lenOf, Builtin.firstCells, Sem.run_bind, Sem.run_pure, Result.andThen, List.getElem?_toArray, List.getElem?_cons_zero, List.getElem?_cons_succ, hz, hcells, hst]
  rfl
theorem slice244 (b f : Nat) (hf : f < 512) (W : World) : (Instr.sliceAt 244 (.pointer (some ⟨b, 0, none⟩)) (some (.int .i64 f)) none none).run Tryz.prog W = .ok (.slice (some ⟨b, f, none⟩) (512 - f) (512 - f)) W := by
  have hz : (Go.sizeOf 5).run Tryz.prog W = .ok 1 W := by kernel_rfl
  have ha : Tryz.prog.arrayLen 244 = 512 := by kernel_rfl
  have he : Tryz.prog.elem 244 = 5 := by kernel_rfl
  rw [run_sliceAt_array_l (t := 244) (ht := by rw [ha, he]; exact Tryz.underlying244) (h0 := by omega) (h1 := by rw [ha]; omega), he, hz]
  simp only [Result.andThen, slicedAt, ha, Int.toNat_natCast, Nat.mul_one]
  rw [if_neg (by omega), Addr.add_mid, Nat.zero_add]
/-- What a write leaves. -/
def Wrote (S : St) (i : Int) (b : Nat) (L : List (Int × List UInt8)) (off : Nat) (s : ByteArray) (w w' : World) : Prop :=
  ∃ u' us', Rep w' ((S.put i { S.nd i with pcs := some (b, wrote off s.data.toList 0 L), size := if s.size = 0 then (S.nd i).size else max (S.nd i).size (off + s.size : Nat) }).undos u' us') ∧ us'.length ≤ s.size + 1 ∧ Fr S.own S.B w w'
theorem wrote_end (off : Nat) (s : List UInt8) (at_ : Nat) (L : List (Int × List UInt8)) (h : ¬ at_ < s.length) : wrote off s at_ L = L := by rw [wrote, dif_neg h]
theorem upd_all {α β : Type} [BEq α] {x : α} {v : β} {Q : β → Prop} (hv : Q v) : ∀ {L : List (α × β)}, (∀ q ∈ L, Q q.2) → ∀ q ∈ upd x v L, Q q.2
  | [], _, q, hq => by simp only [upd, List.mem_singleton] at hq; subst hq; exact hv
  | p :: r, h, q, hq => by
    simp only [upd] at hq
    split at hq
    · rcases List.mem_cons.1 hq with rfl | hq
      · exact hv
      · exact h q (List.mem_cons_of_mem _ hq)
    · rcases List.mem_cons.1 hq with rfl | hq
      · exact h _ (by simp)
      · exact upd_all hv (fun q hq => h q (List.mem_cons_of_mem _ hq)) q hq

set_option maxRecDepth 100000 in
set_option maxHeartbeats 2000000 in
theorem write_ok {w : World} {S : St} (h : Rep w S) {i : Int} (hi : i ∈ S.keys) {b : Nat} {L : List (Int × List UInt8)} (hp : (S.nd i).pcs = some (b, L)) (hL : ∀ q ∈ L, q.2.length = 512) (N : Nat) (hN : (S.nd i).blk = N) (off : Nat) (s : ByteArray) (hs : s.size ≤ 16384) (ho : off + s.size ≤ 8459264)
    (sz : Int) (hsz : (S.nd i).size = sz) (hsz1 : 0 ≤ sz) (hsz2 : sz ≤ 8459264) (hn : S.us.length ≤ 100000) :
    Calls Tryz.prog 190 #[.pointer (some ⟨S.F, 0, none⟩), .pointer (some ⟨N, 0, none⟩), .int .i64 off, .string s] w fun e w' => e = .returned (.int .i64 0) ∧ Wrote S i b L off s w w' := by
  have HN := Lib.hid hN
  have HP := Lib.hid hp
  have HZ := Lib.hid hsz
  have HLL := Lib.hid hL
  clear hN hp hsz hL
  have hemp := empty_list s
  by_cases he : s = ⟨#[]⟩
  · subst he
    have hne : (⟨#[]⟩ : ByteArray).toList.isEmpty = true := by rw [hemp]; rfl
    clear hemp
    go_enter Tryz.func190, Tryz.ntmps190
    go_wp2_with fail
    go_loopg [9] 0 (fun k p9 wr => p9 = .int .i64 0 ∧ wr = w)
    case atStart => exact ⟨rfl, rfl⟩
    case round =>
      obtain ⟨rfl, rfl⟩ := hrel
      go_wp2_with fail
      go_ret
      refine ⟨rfl, S.u, [], ?_, by simp, Fr.refl _ _ _⟩
      have : (S.put i { S.nd i with pcs := some (b, wrote off (⟨#[]⟩ : ByteArray).data.toList 0 L), size := if (⟨#[]⟩ : ByteArray).size = 0 then (S.nd i).size else max (S.nd i).size (off + (⟨#[]⟩ : ByteArray).size : Nat) }).undos S.u [] = S := by
        rw [wrote_end _ _ _ _ (by simp), if_pos (show (⟨#[]⟩ : ByteArray).size = 0 from rfl), ← HP.out]
        simp only [St.undos, St.put, List.append_nil]
        cases S
        congr 1
        funext j
        split
        · rename_i e; subst e; rfl
        · rfl
      rw [this]; exact h
  · have hne : s.toList.isEmpty = false := by rw [hemp]; simpa using he
    have hs1 : 0 < s.size := by
      have : s.data.size ≠ 0 := fun e => he (by cases s with | mk d => simp at e; simp [e])
      exact Nat.pos_of_ne_zero this
    clear hemp he
    go_enter Tryz.func190, Tryz.ntmps190
    go_wp2_with fail
    go_loopg [9] s.size (fun k p9 wr => ∃ (at_ : Nat) (L' : List (Int × List UInt8)) (u' : Value) (us' : List Value), p9 = .int .i64 at_ ∧ at_ ≤ s.size ∧ k = s.size - at_ ∧ Rep wr ((S.put i { S.nd i with pcs := some (b, L') }).undos u' us') ∧ us'.length ≤ at_ ∧ Fr S.own S.B w wr ∧
      wrote off s.data.toList at_ L' = wrote off s.data.toList 0 L ∧ ∀ q ∈ L', q.2.length = 512)
    case atStart =>
      refine ⟨0, L, S.u, [], rfl, by omega, rfl, ?_, by simp, Fr.refl _ _ _, rfl, HLL.out⟩
      have : (S.put i { S.nd i with pcs := some (b, L) }).undos S.u [] = S := by
        rw [← HP.out]
        simp only [St.undos, St.put, List.append_nil]
        cases S
        congr 1
        funext j
        split
        · rename_i e; subst e; rfl
        · rfl
      rw [this]; exact h
    case round =>
      obtain ⟨at_, L', u', us', rfl, hat, hgk, hR, hus, hF, hw, hL'⟩ := hrel
      have HA := Lib.hid hgk
      have HW := Lib.hid hw
      have HL' := Lib.hid hL'
      clear hgk hw hL'
      have hi' : i ∈ ((S.put i { S.nd i with pcs := some (b, L') }).undos u' us').keys := hi
      have e' : ((S.put i { S.nd i with pcs := some (b, L') }).undos u' us').nd i = { S.nd i with pcs := some (b, L') } := St.put_at S i _
      have hnd := hR.nds i hi'
      have hblk := hnd.blk
      rw [e'] at hblk
      have hblk2 : Blk wr N ({ S.nd i with pcs := some (b, L') } : Nd).cells 111 := by rw [← HN.out]; exact hblk
      have hc2 : wr.cell? ⟨N, 2, none⟩ = some (.int .i64 sz) := by rw [hblk2.cell]; simp [Nd.cells, HZ.out]
      have hc3 : wr.cell? ⟨N, 3, none⟩ = some (.map (some b)) := by rw [hblk2.cell]; simp [Nd.cells]
      have hNl := hblk2.lt
      have hNk := hblk2.ltk
      clear hblk hblk2
      by_cases hlt : at_ < s.size
      · obtain ⟨kk, hkk⟩ : ∃ kk, (off + at_) / 512 = kk := ⟨_, rfl⟩
        obtain ⟨ff, hff⟩ : ∃ ff, (off + at_) % 512 = ff := ⟨_, rfl⟩
        have hff1 : ff < 512 := by rw [← hff]; exact Nat.mod_lt _ (by omega)
        have hlk := pieces_one hnd (by rw [e']) (kk : Int)
        have hpl : ((L'.lookup (kk : Int)).getD zpiece).length = 512 := by
          cases hl : L'.lookup (kk : Int) with
          | none => simp [zpiece]
          | some v => exact HL'.out _ (lookup_mem hl)
        change ∀ W, ob W b = ob wr b → (Instr.lookup 109 (.map (some b)) (.int .i64 kk) false).run Tryz.prog W = .ok (.agg (pcs8 ((L'.lookup (kk : Int)).getD zpiece))) W at hlk
        obtain ⟨p, hp⟩ : ∃ p, (L'.lookup (kk : Int)).getD zpiece = p := ⟨_, rfl⟩
        rw [hp] at hlk hpl
        obtain ⟨cp, hcp⟩ : ∃ cp, pcs8 p = cp := ⟨_, rfl⟩
        rw [hcp] at hlk
        have hsp : cp.size = 512 := by rw [← hcp, pcs8_size, hpl]
        have hop : cp.all (·.oneCell') = true := by rw [← hcp]; exact pcs8_one _
        have hst := storeCells244 (b := wr.heap.size) (cs := Tryz.zeroCells244) rfl hsp hop
        have hq : (((off : Int) + (at_ : Int)).tdiv 512) = (kk : Int) := by rw [← hkk, Int.tdiv_eq_ediv_of_nonneg (by omega)]; omega
        have hq2 : (((off : Int) + (at_ : Int)).tmod 512) = (ff : Int) := by rw [← hff, Int.tmod_eq_emod_of_nonneg (by omega)]; omega
        have hkk1 : kk ≤ 20000 := by omega
        have hbl := (hnd.pcs b L' (by rw [e'])).1.lt
        have hbk : ∀ j, b < wr.heap.size + j := fun j => by omega
        have HKK := Lib.hid hkk
        have HFF := Lib.hid hff
        have HP2 := Lib.hid hp
        have HCP := Lib.hid hcp
        have HPL := Lib.hid hpl
        clear hkk hff hp hcp hpl hop
        go_upto_region 7 with fail
        have hK7 : Keeps (fun _ => False) wr (setBlock (wr.alloc (.cells Tryz.zeroCells244 244)) wr.heap.size (.cells cp 244)) := ((Keeps.refl _ _).alloc _).setBlock (Or.inr (Nat.le_refl _)) _
        have hB7 : Blk (setBlock (wr.alloc (.cells Tryz.zeroCells244 244)) wr.heap.size (.cells cp 244)) wr.heap.size cp 244 := Blk.setSame (by simp) _ _
        generalize setBlock (wr.alloc (.cells Tryz.zeroCells244 244)) wr.heap.size (.cells cp 244) = w7 at hK7 hB7 ⊢
        clear hst hlk hc2 hc3
        have hB7' : ob w7 wr.heap.size = some (.cells cp 244) := hB7
        have hsl := slice244 wr.heap.size ff hff1
        go_still_tail 5, (by kernel_rfl)
        change wpList _ _ _ _ _ w7.drew
        have hcopy := copy244 (b := wr.heap.size) hsp (f := ff) (by omega) (512 - ff) (s.extract at_ s.size)
        go_upto_region 8 with fail
        clear hcopy hsl hB7'
        have hX : putAt cp ff (List.take (512 - ff) (List.take (s.size - at_) (List.drop at_ (List.map (fun x => Value.int IntKind.u8 x.toNat) s.data.toList)))) = pcs8 (over p ff ((s.data.toList.drop at_).take (512 - ff))) := by
          rw [← putAt_over _ _ _ (by rw [List.length_take, HPL.out]; omega), ← HCP.out]
          congr 1
          rw [← List.map_drop, ← List.map_take, ← List.map_take]
          congr 2
          exact List.take_of_length_le (by rw [List.length_drop, Array.length_toList]; exact Nat.le_refl _)
        rw [hX]
        have hpl2 : (over p ff ((s.data.toList.drop at_).take (512 - ff))).length = 512 := by rw [over_len (by rw [List.length_take, HPL.out]; omega), HPL.out]
        generalize hp3 : over p ff ((s.data.toList.drop at_).take (512 - ff)) = p3 at hpl2 ⊢
        have HP3 := Lib.hid hp3
        have hs3 : (pcs8 p3).size = 512 := by rw [pcs8_size, hpl2]
        have hK8 : Keeps (fun _ => False) wr (setBlock w7.drew wr.heap.size (.cells (pcs8 p3) 244)) := hK7.drew.setBlock (Or.inr (Nat.le_refl _)) _
        have hB8 : Blk (setBlock w7.drew wr.heap.size (.cells (pcs8 p3) 244)) wr.heap.size (pcs8 p3) 244 := Blk.setSame hB7.lt _ _
        generalize setBlock w7.drew wr.heap.size (.cells (pcs8 p3) 244) = w8 at hK8 hB8 ⊢
        have hR8 := hR.keeps hK8 (fun _ _ x => x)
        have hlay := lay_any hR8 hi' (by rw [e']) (fun q hq => HL'.out q hq) N (by rw [e']; exact HN.out) (kk : Int) p3 hpl2 (by show (S.us ++ us').length ≤ _; rw [List.length_append]; omega)
        have HLay := Lib.hid hlay
        have HE := Lib.hid e'
        have hF8 : Fr S.own S.B w w8 := hF.then hK8
        obtain ⟨c3, hc3⟩ : ∃ c, pcs8 p3 = c := ⟨_, rfl⟩
        rw [hc3] at hB8 hs3
        have HC3 := Lib.hid hc3
        have hi244 : (Tryz.prog.info? 244).map (·.size) = some c3.size := by rw [info244, hs3]
        clear hlay e' hp3 hX hK7 hB7 hpl2 hc3 hs3
        have HI := Lib.hid hi244
        clear hi244
        go_wp2_with (first | (refine wpList_load_row rfl 244 _ rfl _ rfl 244 c3 (0, 0) _ hB8 Tryz.underlying244 rfl HI.out ?_) | fail)
        have hl := HLay.out
        rw [pc_eq, HC3.out] at hl
        refine hl.mono ?_
        rintro e w9 ⟨rfl, u4, cl, hR9, hF9⟩
        obtain ⟨mm, hmm⟩ : ∃ mm, min (s.size - at_) (512 - ff) = mm := ⟨_, rfl⟩
        rw [hmm]
        have hm1 : 1 ≤ mm := by omega
        have hm2 : at_ + mm ≤ s.size := by omega
        have HM := Lib.hid hmm
        clear hmm hl
        go_wp2_with fail
        go_roundg (s.size - (at_ + mm))
        case measure => rw [HA.out]; omega
        case rel =>
          rw [HE.out] at hR9
          refine ⟨at_ + mm, upd (kk : Int) p3 L', u4, us' ++ [cl], by simp, hm2, rfl, ?_, by rw [List.length_append]; simp; omega, ?_, ?_, ?_⟩
          · have e : ((((S.put i { S.nd i with pcs := some (b, L') }).undos u' us').put i { S.nd i with pcs := some (b, upd (kk : Int) p3 L') }).undo u4 cl) = ((S.put i { S.nd i with pcs := some (b, upd (kk : Int) p3 L') }).undos u4 (us' ++ [cl])) := by
              simp only [St.undo, St.undos, St.put, List.append_assoc]
              congr 1
              funext j
              split <;> rfl
            rw [e] at hR9
            exact hR9
          · exact hF8.trans hF9
          · rw [← HW.out]
            conv => rhs; rw [wrote]
            rw [dif_pos (by rw [Array.length_toList]; exact hlt)]
            have e1 : min (512 - (off + at_) % 512) (s.data.toList.length - at_) = mm := by rw [HFF.out, Array.length_toList, Nat.min_comm]; exact HM.out
            rw [e1, HKK.out, HFF.out, HP2.out, HP3.out]
          · exact upd_all (Q := fun l : List UInt8 => l.length = 512) (by rw [← HP3.out, over_len (by rw [List.length_take, HPL.out]; omega), HPL.out]) HL'.out
      · have hrs := resize_rep hR hi' (max sz ((off : Int) + s.size)) N (by rw [e']; exact HN.out.symm) _ rfl (by show (S.us ++ us').length ≤ _; rw [List.length_append]; omega)
        have HRS := Lib.hid hrs
        have HE := Lib.hid e'
        clear hrs e'
        go_wp2_with fail
        refine HRS.out.mono ?_
        rintro e w2 ⟨rfl, u2, bN, bB, hR2, hK2, _⟩
        go_wp2
        go_ret
        refine ⟨rfl, u2, us' ++ [.func (.func 237) #[] #[.pointer (some ⟨bB, 0, none⟩), .pointer (some ⟨bN, 0, none⟩)]], ?_, by rw [List.length_append]; simp; omega, ?_⟩
        · rw [← HW.out, wrote_end off s.data.toList at_ L' (by rw [Array.length_toList]; exact hlt), if_neg (by omega), HZ.out]
          rw [HE.out] at hR2
          have e : ((((S.put i { S.nd i with pcs := some (b, L') }).undos u' us').put i { S.nd i with pcs := some (b, L'), size := max sz ((off : Int) + s.size) }).undo u2 (.func (.func 237) #[] #[.pointer (some ⟨bB, 0, none⟩), .pointer (some ⟨bN, 0, none⟩)])) =
              ((S.put i { S.nd i with pcs := some (b, L'), size := max sz ((off + s.size : Nat) : Int) }).undos u2 (us' ++ [.func (.func 237) #[] #[.pointer (some ⟨bB, 0, none⟩), .pointer (some ⟨bN, 0, none⟩)]])) := by
            simp only [St.undo, St.undos, St.put, List.append_assoc, Int.natCast_add]
            congr 1
            funext j
            split <;> rfl
          rw [e] at hR2
          exact hR2
        · have f2 := Fr.of hR hK2
          exact hF.trans f2
end Go.Proofs.YtdafneilalompaaGreatDoor
