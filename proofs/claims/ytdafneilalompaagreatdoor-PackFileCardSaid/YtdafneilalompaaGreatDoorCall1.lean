/- A new inode with a name: fresh. Conditions: those that each theorem names. -/
import Derived.Test.YtdafneilalompaaGreatDoorRam8
import Derived.Test.YtdafneilalompaaGreatDoorRam2
namespace Go.Proofs.YtdafneilalompaaGreatDoor
open Go Go.RowKit
open Go.ChangeMaps (setBlock)

/-- The owned blocks, and one more. -/
def ownAnd (own : Nat → Option (Nat × Int)) (c : Nat) : Nat → Option (Nat × Int) := fun b => if b = c then some (9, 0) else own b
theorem ownAnd_mono {own : Nat → Option (Nat × Int)} {c b : Nat} (h : own b ≠ none) : ownAnd own c b ≠ none := by unfold ownAnd; split <;> simp_all
theorem Fr.ofAdd {w w' : World} {S : St} {i : Int} {x : Nd} (h : Rep w S) (k : Keeps (S.add i x).foot w w') : Fr (S.add i x).own S.B w w' :=
  k.mono (fun b _ e => by
    rcases e with e | e
    · exact Or.inl e
    · obtain ⟨h1, cur, h2⟩ := ownsRow_base h.row e
      exact Or.inr ⟨h1, cur, _, h2⟩)
theorem Rep.undosWf {S : St} (h : S.Wf) (u : Value) (us : List Value) : (S.undos u us).Wf := ⟨h.root, h.nds, h.dirs, h.links, h.sizes, h.g, h.few, h.room, h.whole, h.nodup⟩

theorem PlaceV.open {w w' : World} {v : Value} {p : List Int × ByteArray × Int} (h : PlaceV w w' v p) (hne : p.1 ≠ []) :
    ∃ g m cc, v = .agg #[.slice (some ⟨g, 0, none⟩) (m + 1) cc, .string p.2.1, .int .i64 p.2.2] ∧ p.1.length = m + 1 ∧ w.heap.size ≤ g ∧ g < w'.heap.size ∧ w'.cell? ⟨g, m, none⟩ = some (.int .i64 (lastI p.1)) ∧ ∃ cur, w'.heap[g]? = some (.cells cur 3 (0, 0)) := by
  obtain ⟨cv, rfl, hrow⟩ := h
  obtain ⟨m, hm⟩ : ∃ m, p.1.length = m + 1 := ⟨p.1.length - 1, by have := List.length_pos_iff.2 hne; omega⟩
  obtain ⟨g, cc, hv, hgB, hgl, hgc, hcm, hcells⟩ := ownsRow_cells2 hrow (by omega)
  obtain ⟨_, cur, hcur⟩ := ownsRow_base hrow (by rw [hv]; rfl)
  refine ⟨g, m, cc, by rw [hv, hm], hm, hgB, hgl, ?_, cur, hcur⟩
  rw [hcells m (by simp; omega), lastI, List.getLastD_eq_getLast?, List.getLast?_eq_getElem?, hm]
  simp only [Nat.add_sub_cancel, List.getElem?_map]
  cases hc : p.1[m]? with
  | none => rw [List.getElem?_eq_none_iff] at hc; omega
  | some x => rfl

set_option maxRecDepth 100000 in
set_option maxHeartbeats 2000000 in
theorem fresh1_ok {W : World} {S : St} (h : Rep W S) (hw : S.Wf) (bF bS bN bI : Nat) (s : ByteArray) (N : Nat) (z : Int)
    (kF : Blk W bF #[.pointer (some ⟨S.F, 0, none⟩)] 25) (kS : Blk W bS #[.string s] 9) (kN : Blk W bN #[.pointer (some ⟨N, 0, none⟩)] 107) (kI : Blk W bI #[.int .i64 z] 3)
    (x : Nd) (i : Int) (oF : (S.add i x).own bF = none) (oS : (S.add i x).own bS = none) (oN : (S.add i x).own bN = none) (oI : (S.add i x).own bI = none)
    (hs : s.size ≤ 9000000000000000000) (R : (List Int × ByteArray × Int) × Int) (hR : nameR S s = R) (hR2 : R.2 = 0) (hR3 : R.1.2.2 = 0) (hR4 : R.1.1.length ≤ 32) (d : Int) (hd : lastI R.1.1 = d)
    (hx : Loose W S x) (hN : x.blk = N) (hk : x.kind ≠ 2) (hi1 : 1 ≤ i) (c4 : Int) (hc4 : S.g4 = c4) (hic : i < c4) (hlow : ∀ j, 1 ≤ j → j < i → j ∈ S.keys) (hi : i ∉ S.keys) (hn : S.us.length ≤ 1000) :
    Calls Tryz.prog 183 #[.pointer (some ⟨bF, 0, none⟩), .pointer (some ⟨bS, 0, none⟩), .pointer (some ⟨bN, 0, none⟩), .pointer (some ⟨bI, 0, none⟩)] W fun e w' => e = .returned (.int .i64 0) ∧
      ∃ u' cls, Rep w' (((S.add i x).put d ((S.nd d).grown R.1.2.1 i)).undos u' cls) ∧ cls ≠ [] ∧ cls.length ≤ 10 ∧ Fr (ownAnd (S.add i x).own bI) S.B W w' ∧ Blk w' bI #[.int .i64 i] 3 := by
  have hok := nameR_ok hw s (by rw [hR]; exact hR2)
  rw [hR] at hok
  obtain ⟨p, e0⟩ := R
  simp only at hR2 hR3 hR4 hok hd ⊢
  obtain ⟨chain, nm, ino⟩ := p
  simp only at hR3 hR4 hok hd ⊢
  subst hR2 hR3
  have cF : W.cell? ⟨bF, 0, none⟩ = some (.pointer (some ⟨S.F, 0, none⟩)) := kF.cell 0
  have cS : W.cell? ⟨bS, 0, none⟩ = some (.string s) := kS.cell 0
  have HR := Lib.hid hR
  have HN := Lib.hid hN
  have H4 := Lib.hid hc4
  have HLow := Lib.hid hlow
  have HD := Lib.hid hd
  have HO := Lib.hid (And.intro oF (And.intro oS (And.intro oN oI)))
  clear hR hN hc4 hlow hd oF oS oN oI
  go_enter Tryz.func183, Tryz.ntmps183
  go_wp2_with fail
  refine (name_any h hw s hs _ HR.out).mono ?_
  rintro e w1 ⟨v, rfl, hpv, hk1⟩
  obtain ⟨g, m, cc, rfl, hm, hgB, hgl, hlast, cur, hcur⟩ := hpv.open hok.ne
  simp only at hm hlast ⊢
  have hdk : d ∈ S.keys ∧ (S.nd d).kind = 2 := hok.dirs d (HD.out ▸ lastI_mem hok.ne)
  rw [HD.out] at hlast
  have hm32 : m + 1 ≤ 32 := by omega
  have HM := Lib.hid hm
  have kF1 := kF.keeps hk1 (fun x => x)
  have kN1 := kN.keeps hk1 (fun x => x)
  have kI1 := kI.keeps hk1 (fun x => x)
  have cF1 : w1.cell? ⟨bF, 0, none⟩ = some (.pointer (some ⟨S.F, 0, none⟩)) := kF1.cell 0
  have cN1 : w1.cell? ⟨bN, 0, none⟩ = some (.pointer (some ⟨N, 0, none⟩)) := kN1.cell 0
  have cI1 : w1.cell? ⟨bI, 0, none⟩ = some (.int .i64 z) := kI1.cell 0
  have zI1 : w1.frozen? ⟨bI, 0, none⟩ = false := kI1.frz 0
  have lF := kF1.lt
  have lN := kN1.lt
  have lI := kI1.lt
  have lFk := kF1.ltk
  have lNk := kN1.ltk
  have lIk := kI1.ltk
  clear hm hpv cF cS
  go_wp2_with fail
  have hR2 := (h.keeps hk1 (fun _ _ x => x)).alloc (.cells #[.slice (some ⟨g, 0, none⟩) (m + 1) cc, .string nm, .int .i64 0] 201)
  have hk2 := hk1.alloc (.cells #[.slice (some ⟨g, 0, none⟩) (m + 1) cc, .string nm, .int .i64 0] 201)
  have hg4 := hw.g
  refine (add_rep hR2 (hx.keeps hk2 (fun _ _ _ x => x)) i c4 hi1 hic H4.out (by have := H4.out; omega) HLow.out hi (by omega) N HN.out).mono ?_
  rintro e w3 ⟨rfl, u1, cA, cB, hR3, hk3, _⟩
  have hf3 : Fr (S.add i x).own S.B W w3 := (Fr.ofKeeps hk2).trans (Fr.ofAdd hR2 hk3)
  obtain ⟨oF, oS, oN, oI⟩ := HO.out
  have kF3 := hf3.blk kF (by decide) oF
  have kI3 := hf3.blk kI (by decide) oI
  have hlB : ∀ b, S.B ≤ b → (S.add i x).own b = none := fun b hb => hR3.free hb
  have hB0 := h.B
  have hW1 := hk1.size
  have kP3 : Blk w3 w1.heap.size #[.slice (some ⟨g, 0, none⟩) (m + 1) cc, .string nm, .int .i64 0] 201 := (Fr.ofAdd hR2 hk3).blk (Blk.new w1 _ _) (by decide) (hlB _ (by omega))
  have kG3 : Blk w3 g cur 3 := (Fr.ofAdd hR2 hk3).blk (Blk.alloc hcur _) (by decide) (hlB _ (by omega))
  have cG3 : w3.cell? ⟨g, m, none⟩ = some (.int .i64 d) := by rw [kG3.cell, ← hlast, Blk.cell (w := w1) hcur]
  have zI3 : w3.frozen? ⟨bI, 0, none⟩ = false := kI3.frz 0
  have cI3 : w3.cell? ⟨bI, 0, none⟩ = some (.int .i64 z) := kI3.cell 0
  have hIl := kI.lt
  have nGI : ¬ g = bI := by omega
  have hlast4 : cur[m]? = some (.int .i64 d) := by rw [← hlast, Blk.cell (w := w1) hcur]
  clear zI1 cI1 cN1 cF1 hlast hk2 hk3 lF lN lI lFk lNk lIk
  go_wp2_with fail
  have hnF : bF ≠ bI := fun e => by subst e; rw [Blk, show W.heap[bF]? = _ from kI] at kF; simp at kF
  have hnP : w1.heap.size ≠ bI := by omega
  obtain ⟨b, L, hnm, hmem⟩ := hw.dirs d hdk.1 hdk.2
  have hdi : d ≠ i := fun e => hi (e ▸ hdk.1)
  obtain ⟨hbl0, hbl1⟩ : 0 ≤ (S.nd d).blocks ∧ (S.nd d).blocks ≤ 16522 := by
    rcases (hw.nds d hdk.1).kind with ⟨h1, _⟩ | ⟨_, h1, h2⟩ | ⟨h1, _⟩
    · rw [hdk.2] at h1; cases h1
    · exact ⟨h1, h2⟩
    · rw [hdk.2] at h1; cases h1
  have hroom := hw.room d hdk.1 b L hnm
  have e3 : ((S.add i x).undo u1 (.func (.func 227) #[] #[.pointer (some ⟨cA, 0, none⟩), .pointer (some ⟨cB, 0, none⟩)])).nd d = S.nd d := by simp [St.undo, St.add, hdi]
  -- the world behind the store
  have hR4 : Rep (w3.setCell ⟨bI, 0, none⟩ (.int .i64 i)) ((S.add i x).undo u1 (.func (.func 227) #[] #[.pointer (some ⟨cA, 0, none⟩), .pointer (some ⟨cB, 0, none⟩)])) :=
    hR3.keeps (X := fun b => b = bI) (Keeps.setCell (X := fun b => b = bI) (Keeps.refl _ _) (p := ⟨bI, 0, none⟩) (Or.inl rfl) _) (fun b hb e => by
      subst e
      rcases hb with hb | hb
      · exact hb oI
      · obtain ⟨_, cur2, hc2⟩ := ownsRow_base hR3.row hb
        rw [show w3.heap[b]? = _ from kI3] at hc2
        simp at hc2)
  have hf4 : Fr (ownAnd (S.add i x).own bI) S.B W (w3.setCell ⟨bI, 0, none⟩ (.int .i64 i)) := (hf3.mono (fun b hb => ownAnd_mono hb)).setCell (p := ⟨bI, 0, none⟩) (Or.inl (by simp [ownAnd])) _
  have kF4 := kF3.setOther (a := ⟨bI, 0, none⟩) (Ne.symm hnF) (.int .i64 i)
  have kP4 := kP3.setOther (a := ⟨bI, 0, none⟩) (Ne.symm hnP) (.int .i64 i)
  have kG4 := kG3.setOther (a := ⟨bI, 0, none⟩) (Ne.symm nGI) (.int .i64 i)
  have kI4 := kI3.set 0 (.int .i64 i)
  generalize w3.setCell ⟨bI, 0, none⟩ (.int .i64 i) = w4 at *
  have hput : ∀ w5, Keeps (fun _ => False) w4.drew w5 → Calls Tryz.prog 142 #[.pointer (some ⟨S.F, 0, none⟩), .int .i64 d, .string nm, .int .i64 i] w5 fun e w' => e = .returned (.tuple #[]) ∧
      (w'.cell? ⟨bF, 0, none⟩ = some (.pointer (some ⟨S.F, 0, none⟩)) ∧ w'.cell? ⟨w1.heap.size, 0, none⟩ = some (.slice (some ⟨g, 0, none⟩) (m + 1) cc) ∧ w'.cell? ⟨w1.heap.size, 1, none⟩ = some (.string nm) ∧ w'.cell? ⟨w1.heap.size, 2, none⟩ = some (.int .i64 0) ∧ w'.cell? ⟨bI, 0, none⟩ = some (.int .i64 i)) ∧
      ∃ u' cls, Rep w' (((S.add i x).put d ((S.nd d).grown nm i)).undos u' cls) ∧ cls ≠ [] ∧ cls.length ≤ 10 ∧ Fr (ownAnd (S.add i x).own bI) S.B W w' ∧ Blk w' bI #[.int .i64 i] 3 := by
    intro w5 hk5
    have hR5 := hR4.drew.keeps hk5 (fun _ _ x => x)
    have hp5 := put_any hR5 (i := d) (List.mem_append_left _ hdk.1) (by rw [e3]; exact hnm) nm i (by rw [e3]; exact hbl0) (by rw [e3]; omega) (by rw [e3]; exact hroom) (by show (S.us ++ _).length ≤ _; rw [List.length_append]; simp; omega)
    refine hp5.mono ?_
    rintro e w' ⟨he, u', cls, hR6, hl6, hne6, hf6⟩
    have hf6' : Fr (S.add i x).own S.B w5 w' := hf6
    have hf5 : Fr (S.add i x).own S.B w4 w' := (((Fr.refl _ _ w4).drew).then hk5).trans hf6'
    have hnew : ∀ b, S.B ≤ b → (S.add i x).own b = none := hlB
    have kF' := hf5.blk kF4 (by decide) oF
    have kI' := hf5.blk kI4 (by decide) oI
    have kP' := hf5.blk kP4 (by decide) (hlB _ (by omega))
    refine ⟨he, ⟨kF'.cell 0, kP'.cell 0, kP'.cell 1, kP'.cell 2, kI'.cell 0⟩, u', (.func (.func 227) #[] #[.pointer (some ⟨cA, 0, none⟩), .pointer (some ⟨cB, 0, none⟩)]) :: cls, ?_, by simp, by simp; omega, hf4.trans (hf5.mono (fun b hb => ownAnd_mono hb)), kI'⟩
    rw [e3] at hR6
    have e : ((((S.add i x).undo u1 (.func (.func 227) #[] #[.pointer (some ⟨cA, 0, none⟩), .pointer (some ⟨cB, 0, none⟩)])).put d ((S.nd d).grown nm i)).undos u' cls) =
        (((S.add i x).put d ((S.nd d).grown nm i)).undos u' ((.func (.func 227) #[] #[.pointer (some ⟨cA, 0, none⟩), .pointer (some ⟨cB, 0, none⟩)]) :: cls)) := by
      simp only [St.undo, St.undos, St.put, List.append_assoc, List.cons_append, List.nil_append]
    rw [e] at hR6
    exact hR6
  have hdir : Calls Tryz.prog 131 #[.agg #[.slice (some ⟨g, 0, none⟩) (m + 1) cc, .string nm, .int .i64 0]] w4.drew fun e w' => e = .returned (.int .i64 d) ∧ Keeps (fun _ => False) w4.drew w' := by
    refine (dir_any _ undef _ _ g m cc d rfl rfl (by omega) ?_).mono ?_
    · show w4.cell? _ = _
      rw [kG4.cell, ← hlast4]
    · rintro e w' ⟨rfl, rfl⟩
      exact ⟨rfl, (Keeps.refl _ _).alloc _⟩
  have hS4 : w4.drew.cell? ⟨bF, 0, none⟩ = some (.pointer (some ⟨S.F, 0, none⟩)) ∧ w4.drew.cell? ⟨w1.heap.size, 0, none⟩ = some (.slice (some ⟨g, 0, none⟩) (m + 1) cc) ∧ w4.drew.cell? ⟨w1.heap.size, 1, none⟩ = some (.string nm) ∧ w4.drew.cell? ⟨w1.heap.size, 2, none⟩ = some (.int .i64 0) ∧ w4.drew.cell? ⟨bI, 0, none⟩ = some (.int .i64 i) :=
    ⟨kF4.cell 0, kP4.cell 0, kP4.cell 1, kP4.cell 2, kI4.cell 0⟩
  have hS5 : ∀ w5, Keeps (fun _ => False) w4.drew w5 → w5.cell? ⟨bF, 0, none⟩ = some (.pointer (some ⟨S.F, 0, none⟩)) ∧ w5.cell? ⟨w1.heap.size, 0, none⟩ = some (.slice (some ⟨g, 0, none⟩) (m + 1) cc) ∧ w5.cell? ⟨w1.heap.size, 1, none⟩ = some (.string nm) ∧ w5.cell? ⟨w1.heap.size, 2, none⟩ = some (.int .i64 0) ∧ w5.cell? ⟨bI, 0, none⟩ = some (.int .i64 i) :=
    fun w5 hk5 => ⟨(kF4.drew.keeps hk5 (fun x => x)).cell 0, (kP4.drew.keeps hk5 (fun x => x)).cell 0, (kP4.drew.keeps hk5 (fun x => x)).cell 1, (kP4.drew.keeps hk5 (fun x => x)).cell 2, (kI4.drew.keeps hk5 (fun x => x)).cell 0⟩
  have HPut := Lib.hid hput
  have HDir := Lib.hid hdir
  have HS4 := Lib.hid hS4
  have HS5 := Lib.hid hS5
  have HX := Lib.hid (And.intro hf4 e3)
  clear hput hdir hS4 hS5 hf4 e3 hlast4 zI3 cI3 cG3 hR3 hf3 hg4
  go_region_held3 (fun W2 => W2.cell? ⟨bF, 0, none⟩ = some (.pointer (some ⟨S.F, 0, none⟩)) ∧ W2.cell? ⟨w1.heap.size, 0, none⟩ = some (.slice (some ⟨g, 0, none⟩) (m + 1) cc) ∧ W2.cell? ⟨w1.heap.size, 1, none⟩ = some (.string nm) ∧ W2.cell? ⟨w1.heap.size, 2, none⟩ = some (.int .i64 0) ∧ W2.cell? ⟨bI, 0, none⟩ = some (.int .i64 i))
    (first | exact HS4.out | exact HS5.out _ (by assumption) | assumption)
    (first | (go_at_call 131; refine HDir.out.mono ?_; rintro e w5 ⟨rfl, hk5⟩) | (go_at_call 142; refine (HPut.out _ (by assumption)).mono ?_; rintro e w6 ⟨rfl, hS6, hfin⟩))
  obtain ⟨u', cls, hR6, hne6, hl6, hf6, hI6⟩ := hfin
  have hnN : bN ≠ bI := fun e => by subst e; rw [Blk, show W.heap[bN]? = _ from kI] at kN; simp at kN
  have kN6 := hf6.blk kN (by decide) (by simp only [ownAnd, if_neg hnN]; exact oN)
  have cN6 : w6.cell? ⟨bN, 0, none⟩ = some (.pointer (some ⟨N, 0, none⟩)) := kN6.cell 0
  have hx6 := (hR6.nds i (List.mem_append_right _ (by simp))).blk
  have ex : (((S.add i x).put d ((S.nd d).grown nm i)).undos u' cls).nd i = x := by simp [St.undos, St.put, St.add, Ne.symm hdi]
  rw [ex] at hx6
  have cK6 : w6.cell? ⟨N, 0, none⟩ = some (.int .i64 x.kind) := by rw [← HN.out]; exact hx6.cell 0
  have hkb : (x.kind == 2) = false := by simpa using hk
  have HF := Lib.hid (And.intro hR6 (And.intro hne6 (And.intro hl6 (And.intro hf6 hI6))))
  clear hS6 hR6 hne6 hl6 hf6 hI6 ex hx6 kN6
  go_wp2_with (first | (go_at_call 129; refine (isDir_any _ _ _ cK6).mono ?_; rintro e w' ⟨rfl, rfl⟩; rw [hkb]) | fail)
  go_ret
  obtain ⟨h1, h2, h3, h4, h5⟩ := HF.out
  exact ⟨rfl, u', cls, h1, h2, h3, h4, h5⟩
end Go.Proofs.YtdafneilalompaaGreatDoor
