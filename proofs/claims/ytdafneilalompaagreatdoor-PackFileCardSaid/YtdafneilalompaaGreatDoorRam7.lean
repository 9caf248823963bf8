/- Pieces in memory; lay. Conditions: those that each theorem names. -/
import Derived.Test.YtdafneilalompaaGreatDoorRam6
import Derived.Test.YtdafneilalompaaGreatDoorCall0
import Derived.Deep.MidRow
namespace Go.Proofs.YtdafneilalompaaGreatDoor
open Go Go.RowKit Go.MapKept
open Go.ChangeMaps (setBlock)

/-- A piece's cells. -/
def pcs8 (l : List UInt8) : Array Value := (l.map fun b => Value.int .u8 b.toNat).toArray
theorem pc_eq (l : List UInt8) : pc l = .agg (pcs8 l) := rfl
theorem pcs8_size (l : List UInt8) : (pcs8 l).size = l.length := by simp [pcs8]
theorem pcs8_one (l : List UInt8) : (pcs8 l).all (·.oneCell') = true := by
  simp only [pcs8, List.all_toArray, List.all_map, List.all_eq_true]
  intro b _; rfl
theorem info244 : (Tryz.prog.info? 244).map (·.size) = some 512 := by kernel_rfl
theorem zero244 (w : World) : (zeroValue 244).run Tryz.prog w = .ok (.agg (pcs8 (List.replicate 512 0))) w := by kernel_rfl

/-- Values written over cells. -/
def putAt (cs : Array Value) : Nat → List Value → Array Value
  | _, [] => cs
  | o, v :: r => putAt (cs.setIfInBounds o v) (o + 1) r
theorem putAt_size (vs : List Value) : ∀ (cs : Array Value) (o : Nat), (putAt cs o vs).size = cs.size := by
  induction vs with
  | nil => intro cs o; rfl
  | cons v r ih => intro cs o; rw [putAt, ih, Array.size_setIfInBounds]
theorem putAt_get (vs : List Value) : ∀ (cs : Array Value) (o : Nat), o + vs.length ≤ cs.size → ∀ i, (putAt cs o vs)[i]? = if o ≤ i ∧ i < o + vs.length then vs[i - o]? else cs[i]? := by
  induction vs with
  | nil => intro cs o _ i; rw [putAt, if_neg (by simp)]
  | cons v r ih =>
    intro cs o ho i
    simp only [List.length_cons] at ho ⊢
    rw [putAt, ih _ _ (by rw [Array.size_setIfInBounds]; omega)]
    by_cases h1 : i = o
    · subst h1
      rw [if_neg (by omega), if_pos (by omega), Array.getElem?_setIfInBounds]
      simp; omega
    · by_cases h2 : o + 1 ≤ i ∧ i < o + 1 + r.length
      · rw [if_pos h2, if_pos (by omega)]
        obtain ⟨j, rfl⟩ : ∃ j, i = o + 1 + j := ⟨i - (o + 1), by omega⟩
        rw [show o + 1 + j - (o + 1) = j by omega, show o + 1 + j - o = j + 1 by omega]; rfl
      · rw [if_neg h2, if_neg (by omega), Array.getElem?_setIfInBounds, if_neg (Ne.symm h1)]
theorem putAt_all {cs : Array Value} {vs : List Value} (h : vs.length = cs.size) : putAt cs 0 vs = vs.toArray := by
  apply Array.ext_getElem?
  intro i
  rw [putAt_get vs cs 0 (by omega)]
  split
  · simp
  · rename_i h2
    rw [Array.getElem?_eq_none (by omega), Array.getElem?_eq_none (by simp; omega)]
theorem setBlock_self {w : World} {b : Nat} {o : Obj} (hb : w.heap[b]? = some o) : setBlock w b o = w := by
  unfold Go.ChangeMaps.setBlock
  have : w.heap.setIfInBounds b o = w.heap := by
    apply Array.ext_getElem?
    intro i
    rw [Array.getElem?_setIfInBounds]
    split
    · rename_i e; subst e
      split
      · exact hb.symm
      · rename_i h2; exact absurd (Array.getElem?_eq_some_iff.1 hb).1 h2
    · rfl
  simp [this]
theorem setCell_block {w : World} {b : Nat} {cs : Array Value} {t : TypeId} (hb : Blk w b cs t) (o : Nat) (v : Value) : w.setCell ⟨b, o, none⟩ v = setBlock w b (.cells (cs.setIfInBounds o v) t) := by
  unfold World.setCell Go.ChangeMaps.setBlock
  congr 1
  apply Array.ext_getElem?
  intro i
  rw [Array.getElem?_modify, Array.getElem?_setIfInBounds]
  by_cases e : b = i
  · subst e
    rw [if_pos rfl, if_pos rfl, if_pos hb.lt, show w.heap[b]? = _ from hb]
    rfl
  · rw [if_neg e, if_neg e]
theorem setBlock_twice (w : World) (b : Nat) (o o' : Obj) : setBlock (setBlock w b o) b o' = setBlock w b o' := by
  simp [Go.ChangeMaps.setBlock]
theorem Blk.setSame {w : World} {b : Nat} (h : b < w.heap.size) (cs : Array Value) (t : TypeId) : Blk (Go.ChangeMaps.setBlock w b (.cells cs t)) b cs t := ob_setBlock_same h
theorem setCells_block (vs : List Value) : ∀ {w : World} {b : Nat} {cs : Array Value} {t : TypeId} (o : Nat), Blk w b cs t → w.setCells b o vs = setBlock w b (.cells (putAt cs o vs) t) := by
  induction vs with
  | nil => intro w b cs t o hb; exact (setBlock_self hb).symm
  | cons v r ih =>
    intro w b cs t o hb
    rw [World.setCells, ih (o + 1) (hb.set o v), setCell_block hb, setBlock_twice, putAt]

/-- A piece's variable is read. -/
theorem load244 {b : Nat} {cs : Array Value} (hs : cs.size = 512) (W : World) (hb : ob W b = some (.cells cs 244)) : (Instr.loadAt 244 (.pointer (some ⟨b, 0, none⟩))).run Tryz.prog W = .ok (.agg cs) W := by
  have := run_loadAt_mid (P := Tryz.prog) W b 0 244 cs.toList _ (fun j v hj => by
    rw [Nat.zero_add, Blk.cell (t := 244) (cs := cs) hb]; simpa using hj) Tryz.underlying244 rfl (by rw [info244]; simp [hs])
  simpa using this
theorem loadCells244 {b : Nat} {cs : Array Value} (hs : cs.size = 512) (W : World) (hb : ob W b = some (.cells cs 244)) : (loadCellsFrom ⟨b, 0, none⟩ 0 512 #[]).run Tryz.prog W = .ok cs W := by
  have := run_loadCells_list (P := Tryz.prog) W ⟨b, 0, none⟩ cs.toList (fun j v hj => by
    rw [Addr.add_mid, Nat.zero_add, Blk.cell (t := 244) (cs := cs) hb]; simpa using hj)
  simpa [loadCells, hs] using this
/-- A piece's variable is written. -/
theorem store244 {b : Nat} {cs cs' : Array Value} (hs : cs.size = 512) (hs' : cs'.size = 512) (h1 : cs'.all (·.oneCell') = true) (W : World) (hb : ob W b = some (.cells cs 244)) :
    (Instr.storeAt 244 (.pointer (some ⟨b, 0, none⟩)) (.agg cs')).run Tryz.prog W = .ok () (setBlock W b (.cells cs' 244)) := by
  have hB : Blk W b cs 244 := hb
  have := run_storeAt_mid (P := Tryz.prog) W b 0 244 cs' (fun j hj => by
    rw [Nat.zero_add, hB.cell, hB.frz]; simp; omega) (by rw [info244, hs']) h1
  rw [this, setCells_block _ 0 hB, putAt_all (by simp [hs, hs'])]
theorem storeCells244 {b : Nat} {cs cs' : Array Value} (hs : cs.size = 512) (hs' : cs'.size = 512) (h1 : cs'.all (·.oneCell') = true) (W : World) (hb : ob W b = some (.cells cs 244)) :
    (storeCells ⟨b, 0, none⟩ cs'.toList).run Tryz.prog W = .ok () (setBlock W b (.cells cs' 244)) := by
  have := store244 hs hs' h1 W hb
  simp only [Instr.storeAt, Instr.sureAddr, Sem.run_bind, Sem.run_pure, Result.andThen_ok] at this
  rw [← this]
  cases hq : Tryz.prog.info? 244 with
  | none => have := info244; simp [hq] at this
  | some i =>
    have hs2 : i.size = 512 := by have := info244; simpa [hq] using this
    simp [storeVar, sizeOf, typeInfo, hq, Value.cells, hs', hs2]
theorem alloc244 (W : World) : (Instr.alloc 244 true (.tuple #[])).run Tryz.prog W = .ok (.pointer (some ⟨W.heap.size, 0, none⟩)) (W.alloc (.cells (pcs8 (List.replicate 512 0)) 244)) := by
  simp only [Instr.alloc, Sem.run_bind, zero244, Result.andThen]
  rfl
theorem pieces_ok {w : World} {own : Nat → Option (Nat × Int)} {i : Int} {x : Nd} (h : NdAt w own i x) {b : Nat} {L : List (Int × List UInt8)} (hp : x.pcs = some (b, L)) (k : Int) (W : World) (hW : ob W b = ob w b) :
    (Instr.lookup 109 (.map (some b)) (.int .i64 k) true).run Tryz.prog W = .ok (.tuple #[.agg (pcs8 ((L.lookup k).getD (List.replicate 512 0))), .bool (L.lookup k).isSome]) W := by
  have := (h.pcs b L hp).1.lookup_ok kInt (t := 109) Tryz.underlying109 zero244 k W hW
  rw [lookup_map] at this
  cases hl : L.lookup k with
  | none => rw [hl] at this; exact this
  | some v => rw [hl] at this; exact this
theorem pieces_one {w : World} {own : Nat → Option (Nat × Int)} {i : Int} {x : Nd} (h : NdAt w own i x) {b : Nat} {L : List (Int × List UInt8)} (hp : x.pcs = some (b, L)) (k : Int) (W : World) (hW : ob W b = ob w b) :
    (Instr.lookup 109 (.map (some b)) (.int .i64 k) false).run Tryz.prog W = .ok (.agg (pcs8 ((L.lookup k).getD (List.replicate 512 0)))) W := by
  have := (h.pcs b L hp).1.lookup_one kInt (t := 109) Tryz.underlying109 zero244 k W hW
  rw [lookup_map] at this
  cases hl : L.lookup k with
  | none => rw [hl] at this; exact this
  | some v => rw [hl] at this; exact this

set_option maxRecDepth 100000 in
set_option maxHeartbeats 1000000 in
theorem lay_any {w : World} {S : St} (h : Rep w S) {i : Int} (hi : i ∈ S.keys) {b : Nat} {L : List (Int × List UInt8)} (hp : (S.nd i).pcs = some (b, L)) (hL : ∀ q ∈ L, q.2.length = 512) (N : Nat) (hN : (S.nd i).blk = N) (k : Int) (p : List UInt8) (hpl : p.length = 512) (hn : S.us.length ≤ 900000) :
    Calls Tryz.prog 230 #[.pointer (some ⟨S.F, 0, none⟩), .pointer (some ⟨N, 0, none⟩), .int .i64 k, pc p] w fun e w' => e = .returned (.tuple #[]) ∧
      ∃ u' cl, Rep w' ((S.put i { S.nd i with pcs := some (b, upd k p L) }).undo u' cl) ∧ Fr S.own S.B w w' := by
  have hmf := run_makeFunc_any
  have hnd := h.nds i hi
  have hblk := hnd.blk
  have hc3 : w.cell? ⟨N, 3, none⟩ = some (.map (some b)) := by rw [← hN, hblk.cell]; simp [Nd.cells, hp]
  have hNl : N < w.heap.size := hN ▸ hblk.lt
  have hNk : ∀ j, N < w.heap.size + j := fun j => by omega
  have hm := hnd.pcs b L hp
  have hbl := hm.1.lt
  have hbk : ∀ j, b < w.heap.size + j := fun j => by omega
  have hbk1 : ∀ j, b < w.heap.size + 1 + j := fun j => by omega
  have hbk2 : ∀ j, b < w.heap.size + 1 + 1 + j := fun j => by omega
  have hbk3 : ∀ j, b < w.heap.size + 1 + 1 + 1 + j := fun j => by omega
  have hNk1 : ∀ j, N < w.heap.size + 1 + j := fun j => by omega
  have hNk2 : ∀ j, N < w.heap.size + 1 + 1 + j := fun j => by omega
  have hNk3 : ∀ j, N < w.heap.size + 1 + 1 + 1 + j := fun j => by omega
  have hlk := pieces_ok hnd hp k
  have hwas : ((L.lookup k).getD (List.replicate 512 0)).length = 512 := by
    cases hl : L.lookup k with
    | none => simp
    | some v => exact hL _ (lookup_mem hl)
  generalize (L.lookup k).getD (List.replicate 512 0) = was at hlk hwas
  generalize (L.lookup k).isSome = okB at hlk
  obtain ⟨cs, hcs⟩ : ∃ cs, pcs8 p = cs := ⟨_, rfl⟩
  obtain ⟨cw, hcw⟩ : ∃ cs, pcs8 was = cs := ⟨_, rfl⟩
  have hss : cs.size = 512 := by rw [← hcs, pcs8_size, hpl]
  have hsw : cw.size = 512 := by rw [← hcw, pcs8_size, hwas]
  have hsz : Tryz.zeroCells244.size = 512 := rfl
  have how : cw.all (·.oneCell') = true := by rw [← hcw]; exact pcs8_one _
  rw [hcw] at hlk
  have hst := storeCells244 (b := w.heap.size + 1 + 1 + 1) hsz hsw how
  have hst2 := storeCells244 (b := w.heap.size + 1 + 1 + 1 + 1) hsz hsw how
  rw [pc_eq, hcs]
  have H1 := Lib.hid hss
  have H2 := Lib.hid hsw
  have H3 := Lib.hid hsz
  have H4 := Lib.hid how
  have H5 := Lib.hid hcs
  have H6 := Lib.hid hN
  have H7 := Lib.hid hp
  clear hss hsz how hwas hcs hcw hN hp
  go_enter Tryz.func230, Tryz.ntmps230
  go_upto_region 1 with fail
  have hb0 := (((Blk.new w #[.pointer (some ⟨N, 0, none⟩)] 107).alloc (.cells #[.int .i64 k] 3)).alloc (.cells cs 244))
  have hb1 := ((Blk.new' (w := w.alloc (.cells #[.pointer (some ⟨N, 0, none⟩)] 107)) (n := w.heap.size + 1) (by simp) #[.int .i64 k] 3).alloc (.cells cs 244))
  have hb2 := (Blk.new' (w := (w.alloc (.cells #[.pointer (some ⟨N, 0, none⟩)] 107)).alloc (.cells #[.int .i64 k] 3)) (n := w.heap.size + 1 + 1) (by simp) cs 244)
  have HB := Lib.hid (And.intro hb0 (And.intro hb1 hb2))
  clear hb0 hb1 hb2
  go_cut [8, 9] (fun v8 v9 wx => ∃ b8 b9, v8 = .pointer (some ⟨b8, 0, none⟩) ∧ v9 = .pointer (some ⟨b9, 0, none⟩) ∧ w.heap.size ≤ b8 ∧ w.heap.size ≤ b9 ∧ Blk wx b8 cw 244 ∧ Blk wx b9 #[.bool okB] 4 ∧
    Keeps (fun _ => False) (((w.alloc (.cells #[.pointer (some ⟨N, 0, none⟩)] 107)).alloc (.cells #[.int .i64 k] 3)).alloc (.cells cs 244)) wx)
  case first =>
    have hA : ∀ (cw2 : Array Value), Keeps (fun _ => False) (((w.alloc (.cells #[.pointer (some ⟨N, 0, none⟩)] 107)).alloc (.cells #[.int .i64 k] 3)).alloc (.cells cs 244)) (((((w.alloc (.cells #[.pointer (some ⟨N, 0, none⟩)] 107)).alloc (.cells #[.int .i64 k] 3)).alloc (.cells cs 244)).alloc (.cells cw2 244)).alloc (.cells #[.bool false] 4)).drew := fun _ => (((Keeps.refl _ _).alloc _).alloc _).drew
    have HA := Lib.hid hA
    clear hA
    go_region
    · go_wp2_with fail
      go_meet
      refine ⟨_, _, rfl, rfl, by omega, by omega, ?_, ?_, ?_⟩
      · exact (Blk.setSame (by simp) _ _).setOther (by simp) _
      · exact ((Blk.new' (by simp) _ _).drew.setBlock (by omega) _).set 0 _
      · exact (((((Keeps.refl _ _).alloc _).alloc _).drew).setBlock (Or.inr (by simp)) _).setCell (p := ⟨w.heap.size + 1 + 1 + 1 + 1, 0, none⟩) (Or.inr (by simp)) _
    · go_wp2_with fail
      go_meet
      refine ⟨_, _, rfl, rfl, by omega, by omega, ?_, ?_, ?_⟩
      · exact (Blk.setSame (by simp) _ _).setOther (by simp) _
      · exact (((Blk.new' (by simp) _ _).alloc _).drew.setBlock (by omega) _).set 0 _
      · exact (((((Keeps.refl _ _).alloc _).alloc _).drew).setBlock (Or.inr (by simp)) _).setCell (p := ⟨w.heap.size + 1 + 1 + 1, 0, none⟩) (Or.inr (by simp)) _
  case rest =>
    obtain ⟨b8, b9, rfl, rfl, h8, h9, hB8, hB9, hKc⟩ := hcut
    obtain ⟨hb0, hb1, hb2⟩ := HB.out
    have hB := h.B
    have hKw : Keeps (fun _ => False) w wc := ((((Keeps.refl _ w).alloc _).alloc _).alloc _).then hKc
    have hRc := h.keeps hKw (fun _ _ x => x)
    have hb0c := hb0.keeps hKc (fun x => x)
    have hb1c := hb1.keeps hKc (fun x => x)
    have hb2c := hb2.keeps hKc (fun x => x)
    have hc0 : wc.cell? ⟨w.heap.size, 0, none⟩ = some (.pointer (some ⟨N, 0, none⟩)) := hb0c.cell 0
    have hc1 : wc.cell? ⟨w.heap.size + 1, 0, none⟩ = some (.int .i64 k) := hb1c.cell 0
    have hc2 : ob wc (w.heap.size + 1 + 1) = some (.cells cs 244) := hb2c
    have hndc := hRc.nds i hi
    have hblkc := hndc.blk
    have hc3c : wc.cell? ⟨N, 3, none⟩ = some (.map (some b)) := by rw [← H6.out, hblkc.cell]; simp [Nd.cells, H7.out]
    have hmc := hndc.pcs b L H7.out
    obtain ⟨o, hupd⟩ := hmc.1.update kInt (t := 109) Tryz.underlying109 k (.agg cs)
    have hrun : ∀ W, ob W b = ob wc b → (Instr.mapUpdate 109 (.map (some b)) (.int .i64 k) (.agg cs)).run Tryz.prog W = .ok () (setBlock W b o) := fun W hW => (hupd W hW).1
    have Hupd := Lib.hid hupd
    have hbw : b < w.heap.size := hbl
    have hSA : wc.drew.cell? ⟨w.heap.size, 0, none⟩ = some (.pointer (some ⟨N, 0, none⟩)) ∧ wc.drew.cell? ⟨w.heap.size + 1, 0, none⟩ = some (.int .i64 k) ∧ wc.drew.cell? ⟨N, 3, none⟩ = some (.map (some b)) ∧ wc.drew.rangeAt (w.heap.size + 1 + 1) 0 cs.toList :=
      ⟨hc0, hc1, hc3c, fun j v hj => by rw [Nat.zero_add]; exact (hb2c.cell j).trans (by simpa using hj)⟩
    have hSB : (setBlock wc.drew b o).cell? ⟨w.heap.size, 0, none⟩ = some (.pointer (some ⟨N, 0, none⟩)) ∧ (setBlock wc.drew b o).cell? ⟨w.heap.size + 1, 0, none⟩ = some (.int .i64 k) ∧ (setBlock wc.drew b o).cell? ⟨N, 3, none⟩ = some (.map (some b)) ∧ (setBlock wc.drew b o).rangeAt (w.heap.size + 1 + 1) 0 cs.toList := by
      obtain ⟨h1, h2, h3, h4⟩ := hSA
      have hNb : N ≠ b := fun e => by have := hmc.2; rw [← e, ← H6.out, hndc.mine] at this; simp at this
      refine ⟨by rw [cell_setBlock (by omega)]; exact h1, by rw [cell_setBlock (by omega)]; exact h2, by rw [cell_setBlock hNb]; exact h3, fun j v hj => by rw [cell_setBlock (by omega)]; exact h4 j v hj⟩
    have HSA := Lib.hid hSA
    have HSB := Lib.hid hSB
    have hu244 := Tryz.underlying244
    have hi244 : (Tryz.prog.info? 244).map (·.size) = some cs.toList.length := by rw [info244]; simp [H1.out]
    clear hupd hc3 hKc hSA hSB
    go_wp2_with fail
    go_region_held3 (fun W2 => W2.cell? ⟨w.heap.size, 0, none⟩ = some (.pointer (some ⟨N, 0, none⟩)) ∧ W2.cell? ⟨w.heap.size + 1, 0, none⟩ = some (.int .i64 k) ∧ W2.cell? ⟨N, 3, none⟩ = some (.map (some b)) ∧ W2.rangeAt (w.heap.size + 1 + 1) 0 cs.toList)
      (first | exact HSA.out | exact HSB.out) (fail)
    clear hu244 hi244
    go_wp2_with fail
    have hmk := (Hupd.out wc.drew rfl).2
    have e1 : (upd k (.agg cs) (L.map fun q => (q.1, pc q.2))) = (upd k p L).map fun q => (q.1, pc q.2) := by rw [upd_map pc, pc_eq, H5.out]
    rw [e1] at hmk
    obtain ⟨hR2, hK2⟩ := hRc.drew.setPcs hi H7.out hmk
    refine (back_rep hR2 250 _ (by show S.us.length ≤ _; omega)).mono ?_
    rintro e w' ⟨rfl, u', hR', hK'⟩
    go_wp2
    go_end0
    refine ⟨rfl, u', _, hR', ?_⟩
    have f2 := Fr.of hR2 hK'
    exact (((Fr.ofKeeps hKw).drew).trans (Fr.of hRc.drew hK2)).trans f2
end Go.Proofs.YtdafneilalompaaGreatDoor
