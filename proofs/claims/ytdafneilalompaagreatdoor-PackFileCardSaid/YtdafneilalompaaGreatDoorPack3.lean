/- pack's visit: a file, a symbolic link. Conditions: those that each theorem names. -/
import Derived.Test.YtdafneilalompaaGreatDoorPack2
namespace Go.Proofs.YtdafneilalompaaGreatDoor
open Go Go.RowKit
open Go.ChangeMaps (setBlock)

/-- A block is no row of the items. -/
def TV.Loose (T : TV) (w : World) (bx : Nat) : Prop := ∀ v, Blk w T.bl #[v] 34 → v.ownBlock ≠ some bx
theorem Blk.uniq {w : World} {b : Nat} {cs cs' : Array Value} {t t' : TypeId} (h : Blk w b cs t) (h' : Blk w b cs' t') : cs = cs' := by
  have h1 : w.heap[b]? = _ := h
  have h2 : w.heap[b]? = _ := h'
  rw [h1] at h2
  cases h2; rfl
theorem TM.loose {w0 : World} {T : TV} {w : World} {l : List It} {met : List (Int × Int)} (hm : TM w0 T w l met) {bx : Nat} (hbx : w.heap.size ≤ bx) : T.Loose w bx := by
  intro v hv e
  obtain ⟨v', L, h1, h2⟩ := hm.l
  have := h1.uniq hv
  cases this
  obtain ⟨_, cur, h5⟩ := ownsRow_base h2.row e
  have := (Array.getElem?_eq_some_iff.1 h5).1
  omega
theorem TV.Loose.keeps {T : TV} {w w' : World} {bx : Nat} (h : T.Loose w bx) {v0 : Value} (hb : Blk w T.bl #[v0] 34) {X : Nat → Prop} (k : Keeps X w w') (hX : ¬ X T.bl) : T.Loose w' bx := by
  intro v hv
  have := (hb.keeps k hX).uniq hv
  cases this
  exact h v0 hb
/-- A loose block of an item turns. -/
theorem TM.other {w0 : World} {T : TV} {w w' : World} {l : List It} {met : List (Int × Int)} (hm : TM w0 T w l met) {bx : Nat} {cs : Array Value} (hbx : Blk w bx cs 55) (k : Keeps (fun c => c = bx) w w') (hl : T.Loose w bx) (h0 : w0.heap.size ≤ bx) : TM w0 T w' l met ∧ Keeps (T.X w0 w) w w' := by
  obtain ⟨v, L, hb, hi⟩ := hm.l
  refine ⟨⟨hm.s.keeps k (blk_ne hm.s hbx (by decide)), hm.f.keeps k (blk_ne hm.f hbx (by decide)), hm.m.keeps k (blk_ne hm.m hbx (by decide)), hm.v.keeps k (blk_ne hm.v hbx (by decide)), ⟨v, L, hb.keeps k (blk_ne hb hbx (by decide)), hi.fst, ?_, ?_⟩,
    MapB.keeps hm.met k (not_blk hm.met hbx), hm.keeps.trans k (fun _ _ x => x) (fun c _ e => by subst e; exact h0), hm.low⟩, k.mono (fun c _ e => by subst e; exact Or.inr (Or.inr ⟨h0, _, _, hbx⟩))⟩
  · exact ownsRow_keep hi.row (fun g hg => by
      obtain ⟨_, cur, h5⟩ := ownsRow_base hi.row hg
      exact k.block g (Array.getElem?_eq_some_iff.1 h5).1 (fun e => hl v hb (e ▸ hg)))
  · exact fun q hq => ownsRow_keep (hi.pcs q hq) (fun g hg => by
      obtain ⟨_, cur, h5⟩ := ownsRow_base (hi.pcs q hq) hg
      exact k.block g (Array.getElem?_eq_some_iff.1 h5).1 (blk_ne h5 hbx (by decide)))
/-- An inode is noted. -/
theorem TM.note {w0 : World} {T : TV} {w : World} {l : List It} {met : List (Int × Int)} (hm : TM w0 T w l met) (n k : Int) :
    ∃ o, (∀ W, ob W T.mm = ob w T.mm → (Instr.mapUpdate 81 (.map (some T.mm)) (.int .i64 n) (.int .i64 k)).run Tryz.prog W = .ok () (setBlock W T.mm o)) ∧ TM w0 T (setBlock w T.mm o) l (upd n k met) ∧ Keeps (fun c => c = T.mm) w (setBlock w T.mm o) := by
  obtain ⟨o, ho⟩ := hm.met.update kInt (t := 81) Tryz.underlying81 n (.int .i64 k)
  have kk : Keeps (fun c => c = T.mm) w (setBlock w T.mm o) := Keeps.setBlock (X := fun c => c = T.mm) (Keeps.refl _ _) (Or.inl rfl) _
  have nb : ∀ {b cs t}, Blk w b cs t → ¬ b = T.mm := fun hb e => not_blk hm.met hb e.symm
  refine ⟨o, fun W hW => (ho W hW).1, ⟨hm.s.keeps kk (nb hm.s), hm.f.keeps kk (nb hm.f), hm.m.keeps kk (nb hm.m), hm.v.keeps kk (nb hm.v), ?_, ?_, hm.keeps.trans kk (fun _ _ x => x) (fun c _ e => by subst e; exact hm.low.2), hm.low⟩, kk⟩
  · obtain ⟨v, L, hb, hi⟩ := hm.l
    refine ⟨v, L, hb.keeps kk (nb hb), hi.after kk (fun c cs t f e h5 => ?_)⟩
    subst e
    obtain ⟨es, c, h6, _⟩ := hm.met
    rw [h6] at h5; cases h5
  · have := (ho w rfl).2
    rw [← upd_map] at this
    exact this
theorem Rep.below0 {w0 W : World} {S : St} (h : Rep w0 S) (hS : S.u = .slice none 0 0) (k : Keeps (fun b => w0.heap.size ≤ b) w0 W) : Rep W S := h.keeps k (fun b hb hlt => by
  rcases hb with hb | hb
  · have := h.lt b hb; have := h.B; omega
  · rw [hS] at hb; cases hb)
theorem foot0 {w0 : World} {S : St} (h : Rep w0 S) (hS : S.u = .slice none 0 0) {b : Nat} (hb : w0.heap.size ≤ b) : ¬ S.foot b := by
  rintro (e | e)
  · have := h.lt b e; have := h.B; omega
  · rw [hS] at e; cases e

set_option maxRecDepth 100000 in
set_option maxHeartbeats 4000000 in
theorem visit_file {w0 : World} {S : St} (h : Rep w0 S) (hS : S.u = .slice none 0 0) (hw : S.Wf) {T : TV} (hTF : T.F = S.F) {w : World} {l : List It} {met : List (Int × Int)} (hm : TM w0 T w l met) (p : ByteArray) (hs : T.s.size ≤ 1000000) (hp : p.size ≤ 1000000000) (full : ByteArray) (hfull : atR T.s p = full)
    (R : (List Int × ByteArray × Int) × Int) (hR : toR S full false = R) (hR2 : R.2 = 0) (n : Int) (hn : R.1.2.2 = n) (x : Nd) (hx : S.nd n = x) (hkd : x.kind = 1) (hk : met.lookup n = none) (hl : l.length < 1000000000000) {b : Nat} {L : List (Int × List UInt8)} (hpc : x.pcs = some (b, L)) (sz : Nat) (hsz : x.size = sz) (hF : fileR S full = (n, 0)) (hi : n ∈ S.keys) :
    Calls Tryz.prog 33 #[.string p, .pointer (some ⟨T.bs, 0, none⟩), .pointer (some ⟨T.bf, 0, none⟩), .pointer (some ⟨T.bm, 0, none⟩), .pointer (some ⟨T.bl, 0, none⟩), .pointer (some ⟨T.bv, 0, none⟩)] w fun e w' => 
      e = .returned (.tuple #[]) ∧ TM w0 T w' (l ++ [⟨p, 1, sz, ⟨(dataOf (fillTo L sz (fillN sz))).toArray⟩, pcsOf (fillTo L sz (fillN sz)), -1⟩]) (upd n l.length met) ∧ Keeps (T.X w0 w) w w' := by
  have hfl : full.size ≤ 9000000000000000000 := by rw [← hfull]; have := atR_size T.s p; omega
  have hms := hm.s
  have hmf := hm.f
  have hmm := hm.m
  have cs : w.cell? ⟨T.bs, 0, none⟩ = some (.string T.s) := hms.cell 0
  have cf : w.cell? ⟨T.bf, 0, none⟩ = some (.iface 25 (.pointer (some ⟨S.F, 0, none⟩))) := by rw [hmf.cell]; simp [ifc, hTF]
  have hdo := do_lstat (h.below0 hS hm.keeps) hw full ⟨#[]⟩ ⟨#[]⟩ hfl 0 0 R hR hR2 n hn x hx
  rw [hkd] at hdo
  have HDO := Lib.hid hdo
  have HA := Lib.hid (And.intro hR (And.intro hR2 (And.intro hn (And.intro hx (And.intro hk (And.intro hfull (And.intro hm (And.intro hTF (And.intro hkd (And.intro h hS))))))))))
  have HB := Lib.hid (And.intro hpc (And.intro hsz hF))
  clear hR hR2 hn hx hk hfull hm hTF hms hmf hmm hdo hS hkd  hpc hsz hF
  unfold callV at HDO
  have hmd := method_do
  have hf3 := field49_3
  go_enter Tryz.func33, Tryz.ntmps33
  go_wp2_with (first | (go_at_call 34; refine (packAt_any _ _ _ (by omega) hp full HA.out.2.2.2.2.2.1).mono ?_; rintro e w' ⟨rfl, rfl⟩) | fail)
  refine HDO.out.mono ?_
  rintro e w1 ⟨na, nn, nc, rfl, ht⟩
  go_wp2_with fail
  refine (give_ok w1 0 ⟨#[]⟩ n 1 x.links x.size x.takes na nn nc).mono ?_
  rintro e w2 ⟨rfl, hk2⟩
  have hK2 := ht.keeps.then hk2
  obtain ⟨hR, hR2, hn, hx, hk, hfull, hm, hTF, hkd, h, hS⟩ := HA.out
  have hm2 := hm.after hK2
  have cm : w2.cell? ⟨T.bm, 0, none⟩ = some (.map (some T.mm)) := hm2.m.cell 0
  have lm := hm2.m.lt
  have lmm := MapB.lt hm2.met
  have lmm1 : T.mm < w2.heap.size + 1 := by omega
  have lmm2 : T.mm < w2.heap.size + 1 + 1 := by omega
  have hlk := hm2.met.lookup_ok kInt (t := 81) Tryz.underlying81 zero3 n
  rw [lookup_map, hk] at hlk
  change ∀ W, ob W T.mm = ob w2 T.mm → (Instr.lookup 81 (.map (some T.mm)) (.int .i64 n) true).run Tryz.prog W = .ok (.tuple #[.int .i64 0, .bool false]) W at hlk
  have HM2 := Lib.hid (And.intro hm2 hK2)
  clear ht hk2 hmd hR hR2 hn hx hk hfull hm hTF hm2 hK2 hkd h hS
  unfold answV answC
  go_upto_region 7 with fail
  obtain ⟨hm2, hK2⟩ := HM2.out
  obtain ⟨hR, hR2, hn, hx, hk, hfull, hm, hTF, hkd, h, hS⟩ := HA.out
  have kK := ((Keeps.refl (fun _ => False) w2).alloc (.cells #[.int .i64 n, .int .i64 1, .int .i64 x.links, .int .i64 x.size, .int .i64 x.takes] 44)).alloc (.cells #[.string p, .int .i64 1, .int .i64 0, .string ⟨#[]⟩, .slice none 0 0, .int .i64 (-1)] 55)
  have hm5 := hm2.after kK
  have hK5 := hK2.then kK
  have hst := (Blk.new w2 #[.int .i64 n, .int .i64 1, .int .i64 x.links, .int .i64 x.size, .int .i64 x.takes] 44).alloc (.cells #[.string p, .int .i64 1, .int .i64 0, .string ⟨#[]⟩, .slice none 0 0, .int .i64 (-1)] 55)
  have hbx := Blk.new' (w := w2.alloc (.cells #[.int .i64 n, .int .i64 1, .int .i64 x.links, .int .i64 x.size, .int .i64 x.takes] 44)) (n := w2.heap.size + 1) (by simp) #[.string p, .int .i64 1, .int .i64 0, .string ⟨#[]⟩, .slice none 0 0, .int .i64 (-1)] 55
  have hbls : ∃ v L, Blk w2 T.bl #[v] 34 ∧ ItemsAt w2 w0.heap.size v l L := hm2.l
  obtain ⟨v2, L2, hb2, _⟩ := hbls
  have hlo : T.Loose _ (w2.heap.size + 1) := (hm2.loose (Nat.le_succ _)).keeps hb2 kK (fun x => x)
  have hz5 : ((w2.alloc (.cells #[.int .i64 n, .int .i64 1, .int .i64 x.links, .int .i64 x.size, .int .i64 x.takes] 44)).alloc (.cells #[.string p, .int .i64 1, .int .i64 0, .string ⟨#[]⟩, .slice none 0 0, .int .i64 (-1)] 55)).heap.size = w2.heap.size + 2 := by simp
  have h02 : w0.heap.size ≤ w2.heap.size := hm2.keeps.size
  generalize hw5 : (w2.alloc (.cells #[.int .i64 n, .int .i64 1, .int .i64 x.links, .int .i64 x.size, .int .i64 x.takes] 44)).alloc (.cells #[.string p, .int .i64 1, .int .i64 0, .string ⟨#[]⟩, .slice none 0 0, .int .i64 (-1)] 55) = w5 at hK5 hm5 hst hbx hlo hz5 ⊢
  clear hw5 kK hm2 hK2 hb2 cm lm lmm lmm1 lmm2 hlk cs cf hf3
  obtain ⟨o, hup, hm6, hk6⟩ := hm5.note n l.length
  obtain ⟨v5, L5, hbl, hit⟩ := hm5.l
  obtain ⟨va, vc, rfl⟩ := ownsRow_form hit.row
  have cm5 : w5.cell? ⟨T.bm, 0, none⟩ = some (.map (some T.mm)) := hm5.m.cell 0
  have cl5 : w5.cell? ⟨T.bl, 0, none⟩ = some (.slice va l.length vc) := hbl.cell 0
  have cs0 : w5.cell? ⟨w2.heap.size, 0, none⟩ = some (.int .i64 n) := hst.cell 0
  have cs1 : w5.cell? ⟨w2.heap.size, 1, none⟩ = some (.int .i64 1) := hst.cell 1
  have hst6 := hst.keeps hk6 (fun e => not_blk hm5.met hst e.symm)
  have hbx6 := hbx.keeps hk6 (fun e => not_blk hm5.met hbx e.symm)
  have hlo6 := hlo.keeps hbl hk6 (fun e => not_blk hm5.met hbl e.symm)
  have hK6 := TV.X.trans (TV.X.ofNone hK5) (hk6.mono (Y := T.X w0 w5) (fun c _ e => Or.inr (Or.inl e)))
  have HC := Lib.hid (And.intro hst6 (And.intro hbx6 (And.intro hlo6 (And.intro hm6 hK6))))
  clear hR hR2 hn hx hk hfull hm hTF hkd h hS hm5 hK5 hbl hit hst hbx hlo hst6 hbx6 hlo6 hm6 hK6 hk6
  go_upto_region 9 with fail
  obtain ⟨hst, hbx, hlo, hm6, hK6⟩ := HC.out
  generalize setBlock w5 T.mm o = w6 at hst hbx hlo hm6 hK6 ⊢
  clear hup cm5 cl5 cs0 cs1
  obtain ⟨hR, hR2, hn, hx, hk, hfull, hm, hTF, hkd, h, hS⟩ := HA.out
  obtain ⟨hpc, hsz, hF⟩ := HB.out
  have cst : w6.cell? ⟨w2.heap.size, 1, none⟩ = some (.int .i64 1) := hst.cell 1
  have cst3 : w6.cell? ⟨w2.heap.size, 3, none⟩ = some (.int .i64 x.size) := hst.cell 3
  have cf6 : w6.cell? ⟨T.bf, 0, none⟩ = some (ifc S.F) := by rw [hm6.f.cell]; simp [hTF]
  have cx2 : w6.cell? ⟨w2.heap.size + 1, 2, none⟩ = some (.int .i64 0) := hbx.cell 2
  have fx2 : w6.frozen? ⟨w2.heap.size + 1, 2, none⟩ = false := hbx.frz 2
  have nf : ¬ T.bf = w2.heap.size + 1 := blk_ne hm6.f hbx (by decide)
  have lf6 := hm6.f.lt
  have HD := Lib.hid (And.intro hst (And.intro hbx (And.intro hlo (And.intro hm6 hK6))))
  clear hst hbx hlo hm6 hK6 hR hR2 hn hx hk hfull hm hTF hkd h hS hpc hsz hF
  go_wp2_with fail
  obtain ⟨hst, hbx, hlo, hm6, hK6⟩ := HD.out
  obtain ⟨hpc, hsz, hF⟩ := HB.out
  obtain ⟨hR, hR2, hn, hx, hk, hfull, hm, hTF, hkd, h, hS⟩ := HA.out
  obtain ⟨v6, L6, hb6, _⟩ := hm6.l
  have k7 : Keeps (fun c => c = w2.heap.size + 1) w6 (w6.setCell ⟨w2.heap.size + 1, 2, none⟩ (.int .i64 x.size)) := Keeps.setCell (X := fun c => c = w2.heap.size + 1) (Keeps.refl _ _) (Or.inl rfl) _
  have hbx7 := hbx.set 2 (.int .i64 x.size)
  have hst7 := hst.keeps k7 (blk_ne hst hbx (by decide))
  obtain ⟨hm7, hx7⟩ := hm6.other hbx k7 hlo (by omega)
  have hlo7 := hlo.keeps hb6 k7 (blk_ne hb6 hbx (by decide))
  have hK7 := TV.X.trans hK6 hx7
  generalize w6.setCell ⟨w2.heap.size + 1, 2, none⟩ (.int .i64 x.size) = w7 at hbx7 hst7 hm7 hlo7 hK7 ⊢
  simp only [List.setIfInBounds_toArray, List.set_cons_succ, List.set_cons_zero] at hbx7
  rw [hsz] at hbx7
  refine (fill_ok (h.below0 hS hm7.keeps) hw full hfl hF hi (by rw [hx]; exact hpc) sz (by rw [hx]; exact hsz) (w2.heap.size + 1) p 1 (-1) hbx7 (foot0 h hS (by omega))).mono ?_
  rintro e w8 ⟨rfl, pv, hbx8, hpv8, k8⟩
  obtain ⟨v7, L7, hb7, _⟩ := hm7.l
  obtain ⟨hmA, hx8⟩ := hm7.other hbx7 k8 hlo7 (by omega)
  have hstA := hst7.keeps k8 (blk_ne hst7 hbx7 (by decide))
  have hKA := TV.X.trans hK7 hx8
  have hbxA := hbx8
  have hs7 := hm7.keeps.size
  have hpvA : w8.ownsRow w0.heap.size 3 1 pv _ _ := ownsRow_rebase hpv8 (fun g hg => by have := (ownsRow_base hpv8 hg).1; omega)
  obtain ⟨pa, pc_, hpf⟩ := ownsRow_form hpv8
  subst hpf
  clear cst cst3 cf6 cx2 fx2 nf lf6 hst hbx hlo hm6 hK6 hR hR2 hn hx hk hfull hm hTF hkd h hS hpc hsz hF hbx7 hst7 hm7 hlo7 hK7 hbx8 hpv8 k8 k7 hx7 hx8 hb6 hb7
  obtain ⟨v, L5, hbl, hit⟩ := hmA.l
  obtain ⟨i55, hi55, hz50, hz51, hz52⟩ := info_parts info55
  have cl : w8.cell? ⟨T.bl, 0, none⟩ = some v := hbl.cell 0
  have ll := hbl.lt
  have hcx := hbxA.cell
  have hrow := hit.row
  have hsA := hmA.keeps.size
  have HX := Lib.hid (And.intro hmA (And.intro hbl (And.intro hit (And.intro hKA (And.intro hstA hpvA)))))
  clear hmA hbl hit hKA hbxA hstA hpvA
  go_wp2_with (first | (at_builtin; refine wpList_append_own_at _ rfl _ _ 34 rfl w0.heap.size 55 i55 _ 6 80 Tryz.underlying34 hi55 hz50 hz51 hz52 rfl (by decide) _ _ _ rfl (hrow.alloc _) ⟨w8.heap.size, 0, none⟩ 1 1 (It.cells ⟨p, 1, sz, ⟨(dataOf (fillTo L sz (fillN sz))).toArray⟩, pcsOf (fillTo L sz (fillN sz)), -1⟩ (.slice pa (pcsOf (fillTo L sz (fillN sz))).length pc_)) rfl rfl (cells_new w8 (It.cells ⟨p, 1, sz, ⟨(dataOf (fillTo L sz (fillN sz))).toArray⟩, pcsOf (fillTo L sz (fillN sz)), -1⟩ (.slice pa (pcsOf (fillTo L sz (fillN sz))).length pc_)).toArray 55) (by simp [It.cells, Value.oneCell']) (by simp only [maxLen]; omega) (by omega) (by simp; omega) ?_) | fail)
  intro v' w9 hown9 hg9 _ _
  obtain ⟨hmA, hbl, hit, hKA, hstA, hpvA⟩ := HX.out
  obtain ⟨hb9, hm10, hk10⟩ := hmA.push hbl hit ⟨p, 1, sz, ⟨(dataOf (fillTo L sz (fillN sz))).toArray⟩, pcsOf (fillTo L sz (fillN sz)), -1⟩ (.slice pa (pcsOf (fillTo L sz (fillN sz))).length pc_) hpvA hown9 hg9
  have kA9 : Keeps (fun c => v.ownBlock = some c) w8 w9 := ((Keeps.refl (fun c => v.ownBlock = some c) w8).alloc _).grown hg9 (fun k e => Or.inl e)
  have hst9 := hstA.keeps kA9 (ownsRow_type hit.row hstA (by decide))
  have cl9 : w9.cell? ⟨T.bl, 0, none⟩ = some v := hb9.cell 0
  have fl9 : w9.frozen? ⟨T.bl, 0, none⟩ = false := hb9.frz 0
  have ct9 : w9.cell? ⟨w2.heap.size, 1, none⟩ = some (.int .i64 1) := hst9.cell 1
  have ne9 : ¬ w2.heap.size = T.bl := blk_ne hst9 hb9 (by decide)
  obtain ⟨a9, c9, rfl⟩ := ownsRow_form hown9
  have HY := Lib.hid (And.intro hm10 (TV.X.trans hKA hk10))
  clear hmA hbl hit hKA hstA hb9 hm10 hk10 hown9 hg9 hrow hcx cl kA9 hst9 hpvA
  go_wp2_with fail
  go_end0
  exact ⟨rfl, HY.out.1, HY.out.2⟩

set_option maxRecDepth 100000 in
set_option maxHeartbeats 4000000 in
theorem visit_link {w0 : World} {S : St} (h : Rep w0 S) (hS : S.u = .slice none 0 0) (hw : S.Wf) {T : TV} (hTF : T.F = S.F) {w : World} {l : List It} {met : List (Int × Int)} (hm : TM w0 T w l met) (p : ByteArray) (hs : T.s.size ≤ 1000000) (hp : p.size ≤ 1000000000) (full : ByteArray) (hfull : atR T.s p = full)
    (R : (List Int × ByteArray × Int) × Int) (hR : toR S full false = R) (hR2 : R.2 = 0) (n : Int) (hn : R.1.2.2 = n) (x : Nd) (hx : S.nd n = x) (hkd : x.kind = 3) (hk : met.lookup n = none) (hl : l.length < 1000000000000) :
    Calls Tryz.prog 33 #[.string p, .pointer (some ⟨T.bs, 0, none⟩), .pointer (some ⟨T.bf, 0, none⟩), .pointer (some ⟨T.bm, 0, none⟩), .pointer (some ⟨T.bl, 0, none⟩), .pointer (some ⟨T.bv, 0, none⟩)] w fun e w' => 
      e = .returned (.tuple #[]) ∧ TM w0 T w' (l ++ [⟨p, 3, x.text.size, x.text, [], -1⟩]) (upd n l.length met) ∧ Keeps (T.X w0 w) w w' := by
  have hfl : full.size ≤ 9000000000000000000 := by rw [← hfull]; have := atR_size T.s p; omega
  have hms := hm.s
  have hmf := hm.f
  have hmm := hm.m
  have cs : w.cell? ⟨T.bs, 0, none⟩ = some (.string T.s) := hms.cell 0
  have cf : w.cell? ⟨T.bf, 0, none⟩ = some (.iface 25 (.pointer (some ⟨S.F, 0, none⟩))) := by rw [hmf.cell]; simp [ifc, hTF]
  have hdo := do_lstat (h.below0 hS hm.keeps) hw full ⟨#[]⟩ ⟨#[]⟩ hfl 0 0 R hR hR2 n hn x hx
  rw [hkd] at hdo
  have HDO := Lib.hid hdo
  have HA := Lib.hid (And.intro hR (And.intro hR2 (And.intro hn (And.intro hx (And.intro hk (And.intro hfull (And.intro hm (And.intro hTF (And.intro hkd (And.intro h hS))))))))))
  clear hR hR2 hn hx hk hfull hm hTF hms hmf hmm hdo hS hkd 
  unfold callV at HDO
  have hmd := method_do
  have hf3 := field49_3
  go_enter Tryz.func33, Tryz.ntmps33
  go_wp2_with (first | (go_at_call 34; refine (packAt_any _ _ _ (by omega) hp full HA.out.2.2.2.2.2.1).mono ?_; rintro e w' ⟨rfl, rfl⟩) | fail)
  refine HDO.out.mono ?_
  rintro e w1 ⟨na, nn, nc, rfl, ht⟩
  go_wp2_with fail
  refine (give_ok w1 0 ⟨#[]⟩ n 3 x.links x.size x.takes na nn nc).mono ?_
  rintro e w2 ⟨rfl, hk2⟩
  have hK2 := ht.keeps.then hk2
  obtain ⟨hR, hR2, hn, hx, hk, hfull, hm, hTF, hkd, h, hS⟩ := HA.out
  have hm2 := hm.after hK2
  have cm : w2.cell? ⟨T.bm, 0, none⟩ = some (.map (some T.mm)) := hm2.m.cell 0
  have lm := hm2.m.lt
  have lmm := MapB.lt hm2.met
  have lmm1 : T.mm < w2.heap.size + 1 := by omega
  have lmm2 : T.mm < w2.heap.size + 1 + 1 := by omega
  have hlk := hm2.met.lookup_ok kInt (t := 81) Tryz.underlying81 zero3 n
  rw [lookup_map, hk] at hlk
  change ∀ W, ob W T.mm = ob w2 T.mm → (Instr.lookup 81 (.map (some T.mm)) (.int .i64 n) true).run Tryz.prog W = .ok (.tuple #[.int .i64 0, .bool false]) W at hlk
  have HM2 := Lib.hid (And.intro hm2 hK2)
  clear ht hk2 hmd hR hR2 hn hx hk hfull hm hTF hm2 hK2 hkd h hS
  unfold answV answC
  go_upto_region 7 with fail
  obtain ⟨hm2, hK2⟩ := HM2.out
  obtain ⟨hR, hR2, hn, hx, hk, hfull, hm, hTF, hkd, h, hS⟩ := HA.out
  have kK := ((Keeps.refl (fun _ => False) w2).alloc (.cells #[.int .i64 n, .int .i64 3, .int .i64 x.links, .int .i64 x.size, .int .i64 x.takes] 44)).alloc (.cells #[.string p, .int .i64 3, .int .i64 0, .string ⟨#[]⟩, .slice none 0 0, .int .i64 (-1)] 55)
  have hm5 := hm2.after kK
  have hK5 := hK2.then kK
  have hst := (Blk.new w2 #[.int .i64 n, .int .i64 3, .int .i64 x.links, .int .i64 x.size, .int .i64 x.takes] 44).alloc (.cells #[.string p, .int .i64 3, .int .i64 0, .string ⟨#[]⟩, .slice none 0 0, .int .i64 (-1)] 55)
  have hbx := Blk.new' (w := w2.alloc (.cells #[.int .i64 n, .int .i64 3, .int .i64 x.links, .int .i64 x.size, .int .i64 x.takes] 44)) (n := w2.heap.size + 1) (by simp) #[.string p, .int .i64 3, .int .i64 0, .string ⟨#[]⟩, .slice none 0 0, .int .i64 (-1)] 55
  have hbls : ∃ v L, Blk w2 T.bl #[v] 34 ∧ ItemsAt w2 w0.heap.size v l L := hm2.l
  obtain ⟨v2, L2, hb2, _⟩ := hbls
  have hlo : T.Loose _ (w2.heap.size + 1) := (hm2.loose (Nat.le_succ _)).keeps hb2 kK (fun x => x)
  have hz5 : ((w2.alloc (.cells #[.int .i64 n, .int .i64 3, .int .i64 x.links, .int .i64 x.size, .int .i64 x.takes] 44)).alloc (.cells #[.string p, .int .i64 3, .int .i64 0, .string ⟨#[]⟩, .slice none 0 0, .int .i64 (-1)] 55)).heap.size = w2.heap.size + 2 := by simp
  have h02 : w0.heap.size ≤ w2.heap.size := hm2.keeps.size
  generalize hw5 : (w2.alloc (.cells #[.int .i64 n, .int .i64 3, .int .i64 x.links, .int .i64 x.size, .int .i64 x.takes] 44)).alloc (.cells #[.string p, .int .i64 3, .int .i64 0, .string ⟨#[]⟩, .slice none 0 0, .int .i64 (-1)] 55) = w5 at hK5 hm5 hst hbx hlo hz5 ⊢
  clear hw5 kK hm2 hK2 hb2 cm lm lmm lmm1 lmm2 hlk cs cf hf3
  obtain ⟨o, hup, hm6, hk6⟩ := hm5.note n l.length
  obtain ⟨v5, L5, hbl, hit⟩ := hm5.l
  obtain ⟨va, vc, rfl⟩ := ownsRow_form hit.row
  have cm5 : w5.cell? ⟨T.bm, 0, none⟩ = some (.map (some T.mm)) := hm5.m.cell 0
  have cl5 : w5.cell? ⟨T.bl, 0, none⟩ = some (.slice va l.length vc) := hbl.cell 0
  have cs0 : w5.cell? ⟨w2.heap.size, 0, none⟩ = some (.int .i64 n) := hst.cell 0
  have cs1 : w5.cell? ⟨w2.heap.size, 1, none⟩ = some (.int .i64 3) := hst.cell 1
  have hst6 := hst.keeps hk6 (fun e => not_blk hm5.met hst e.symm)
  have hbx6 := hbx.keeps hk6 (fun e => not_blk hm5.met hbx e.symm)
  have hlo6 := hlo.keeps hbl hk6 (fun e => not_blk hm5.met hbl e.symm)
  have hK6 := TV.X.trans (TV.X.ofNone hK5) (hk6.mono (Y := T.X w0 w5) (fun c _ e => Or.inr (Or.inl e)))
  have HC := Lib.hid (And.intro hst6 (And.intro hbx6 (And.intro hlo6 (And.intro hm6 hK6))))
  clear hR hR2 hn hx hk hfull hm hTF hkd h hS hm5 hK5 hbl hit hst hbx hlo hst6 hbx6 hlo6 hm6 hK6 hk6
  go_upto_region 9 with fail
  obtain ⟨hst, hbx, hlo, hm6, hK6⟩ := HC.out
  generalize setBlock w5 T.mm o = w6 at hst hbx hlo hm6 hK6 ⊢
  clear hup cm5 cl5 cs0 cs1
  obtain ⟨hR, hR2, hn, hx, hk, hfull, hm, hTF, hkd, h, hS⟩ := HA.out
  have hxt : x.text.size ≤ 1000000000 := by
    have h1 := (hw.nds n (by have := (toR_ok hw full false (by rw [hR]; exact hR2)).2; rw [hR, hn] at this; exact this)).kind
    rw [hx, hkd] at h1
    omega
  have hdl := do_readlink (h.below0 hS hm6.keeps) hw full ⟨#[]⟩ ⟨#[]⟩ hfl 0 0 R hR hR2 n hn x hx hkd
  unfold callV at hdl
  have HDL := Lib.hid hdl
  have cst : w6.cell? ⟨w2.heap.size, 1, none⟩ = some (.int .i64 3) := hst.cell 1
  have cf6 : w6.cell? ⟨T.bf, 0, none⟩ = some (.iface 25 (.pointer (some ⟨S.F, 0, none⟩))) := by rw [hm6.f.cell]; simp [ifc, hTF]
  have hmd := method_do
  have HD := Lib.hid (And.intro hst (And.intro hbx (And.intro hlo (And.intro hm6 hK6))))
  clear hst hbx hlo hm6 hK6 hR hR2 hn hx hk hfull hm hTF hkd h hS hdl
  go_wp2_with fail
  refine HDL.out.mono ?_
  rintro e w7 ⟨na7, nn7, nc7, rfl, ht7⟩
  go_wp2_with fail
  refine (give_ok w7 0 x.text 0 0 0 0 0 na7 nn7 nc7).mono ?_
  rintro e w8 ⟨rfl, hk8⟩
  have k8 := ht7.keeps.then hk8
  obtain ⟨hst, hbx, hlo, hm6, hK6⟩ := HD.out
  obtain ⟨v6, L6, hb6, _⟩ := hm6.l
  have hst8 := hst.keeps k8 (fun x => x)
  have hbx8 := hbx.keeps k8 (fun x => x)
  have hlo8 := hlo.keeps hb6 k8 (fun x => x)
  have hm8 := hm6.after k8
  have hK8 := TV.X.trans hK6 (TV.X.ofNone k8)
  have hcx8 := hbx8.cell
  have hfx8 := hbx8.frz
  have HE := Lib.hid (And.intro hst8 (And.intro hbx8 (And.intro hlo8 (And.intro hm8 hK8))))
  have hf2 := field49_2
  clear hst hbx hlo hm6 hK6 hb6 ht7 hk8 k8 hst8 hbx8 hlo8 hm8 hK8 hmd cst cf6
  unfold answV answC
  go_upto_region 16 with fail
  obtain ⟨hst, hbx, hlo, hm8, hK8⟩ := HE.out
  obtain ⟨v8, L8, hb8, _⟩ := hm8.l
  have kk : Keeps (fun c => c = w2.heap.size + 1) w8 ((w8.setCell ⟨w2.heap.size + 1, 3, none⟩ (.string x.text)).setCell ⟨w2.heap.size + 1, 2, none⟩ (.int .i64 x.text.size)) := ((Keeps.refl (fun c => c = w2.heap.size + 1) w8).setCell (p := ⟨w2.heap.size + 1, 3, none⟩) (Or.inl rfl) _).setCell (p := ⟨w2.heap.size + 1, 2, none⟩) (Or.inl rfl) _
  have hbxA := (hbx.set 3 (.string x.text)).set 2 (.int .i64 x.text.size)
  have hs8 := hm8.keeps.size
  obtain ⟨hmA, hxA⟩ := hm8.other hbx kk hlo (by omega)
  have hstA := hst.keeps kk (blk_ne hst hbx (by decide))
  have hKA := TV.X.trans hK8 hxA
  have hpvA : World.ownsRow ((w8.setCell ⟨w2.heap.size + 1, 3, none⟩ (.string x.text)).setCell ⟨w2.heap.size + 1, 2, none⟩ (.int .i64 x.text.size)) w0.heap.size 3 1 (.slice none 0 0) 0 [] := ⟨rfl, Or.inl ⟨rfl, rfl⟩⟩
  generalize (w8.setCell ⟨w2.heap.size + 1, 3, none⟩ (.string x.text)).setCell ⟨w2.heap.size + 1, 2, none⟩ (.int .i64 x.text.size) = wA at hbxA hmA hstA hKA hpvA ⊢
  simp only [List.setIfInBounds_toArray, List.set_cons_succ, List.set_cons_zero] at hbxA
  clear hst hbx hlo hm8 hK8 hb8 kk hxA hcx8 hfx8 hf2
  obtain ⟨v, L5, hbl, hit⟩ := hmA.l
  obtain ⟨i55, hi55, hz50, hz51, hz52⟩ := info_parts info55
  have cl : wA.cell? ⟨T.bl, 0, none⟩ = some v := hbl.cell 0
  have ll := hbl.lt
  have hcx := hbxA.cell
  have hrow := hit.row
  have hsA := hmA.keeps.size
  have HX := Lib.hid (And.intro hmA (And.intro hbl (And.intro hit (And.intro hKA (And.intro hstA hpvA)))))
  clear hmA hbl hit hKA hbxA hstA hpvA
  go_wp2_with (first | (at_builtin; refine wpList_append_own_at _ rfl _ _ 34 rfl w0.heap.size 55 i55 _ 6 80 Tryz.underlying34 hi55 hz50 hz51 hz52 rfl (by decide) _ _ _ rfl (hrow.alloc _) ⟨wA.heap.size, 0, none⟩ 1 1 (It.cells ⟨p, 3, x.text.size, x.text, [], -1⟩ (.slice none 0 0)) rfl rfl (cells_new wA (It.cells ⟨p, 3, x.text.size, x.text, [], -1⟩ (.slice none 0 0)).toArray 55) (by simp [It.cells, Value.oneCell']) (by simp only [maxLen]; omega) (by omega) (by simp; omega) ?_) | fail)
  intro v' w9 hown9 hg9 _ _
  obtain ⟨hmA, hbl, hit, hKA, hstA, hpvA⟩ := HX.out
  obtain ⟨hb9, hm10, hk10⟩ := hmA.push hbl hit ⟨p, 3, x.text.size, x.text, [], -1⟩ (.slice none 0 0) hpvA hown9 hg9
  have kA9 : Keeps (fun c => v.ownBlock = some c) wA w9 := ((Keeps.refl (fun c => v.ownBlock = some c) wA).alloc _).grown hg9 (fun k e => Or.inl e)
  have hst9 := hstA.keeps kA9 (ownsRow_type hit.row hstA (by decide))
  have cl9 : w9.cell? ⟨T.bl, 0, none⟩ = some v := hb9.cell 0
  have fl9 : w9.frozen? ⟨T.bl, 0, none⟩ = false := hb9.frz 0
  have ct9 : w9.cell? ⟨w2.heap.size, 1, none⟩ = some (.int .i64 3) := hst9.cell 1
  have ne9 : ¬ w2.heap.size = T.bl := blk_ne hst9 hb9 (by decide)
  obtain ⟨a9, c9, rfl⟩ := ownsRow_form hown9
  have HY := Lib.hid (And.intro hm10 (TV.X.trans hKA hk10))
  clear hmA hbl hit hKA hstA hb9 hm10 hk10 hown9 hg9 hrow hcx cl kA9 hst9 hpvA
  go_wp2_with fail
  go_end0
  exact ⟨rfl, HY.out.1, HY.out.2⟩
end Go.Proofs.YtdafneilalompaaGreatDoor
