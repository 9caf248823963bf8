/- pack's visit: what lies at a path and below it. Conditions: those that each theorem names. -/
import Derived.Test.YtdafneilalompaaGreatDoorPack1
namespace Go.Proofs.YtdafneilalompaaGreatDoor
open Go Go.RowKit
open Go.ChangeMaps (setBlock)

/-- An item. -/
structure It where
  path : ByteArray
  kind : Int
  size : Int
  data : ByteArray
  pcs : List Int
  same : Int
def It.cells (x : It) (v : Value) : List Value := [.string x.path, .int .i64 x.kind, .int .i64 x.size, .string x.data, v, .int .i64 x.same]
def itemsC (l : List (It × Value)) : List Value := l.flatMap fun q => q.1.cells q.2
/-- Items in memory, from block B on. -/
structure ItemsAt (w : World) (B : Nat) (v : Value) (l : List It) (L : List (It × Value)) : Prop where
  fst : L.map (·.1) = l
  row : w.ownsRow B 55 6 v l.length (itemsC L)
  pcs : ∀ q ∈ L, w.ownsRow B 3 1 q.2 q.1.pcs.length (q.1.pcs.map (Value.int .i64))
/-- What Tree's closures have in hand: blocks of cells; the map. -/
structure TV where
  bs : Nat
  bf : Nat
  bm : Nat
  bl : Nat
  bv : Nat
  mm : Nat
  s : ByteArray
  F : Nat
def TV.vis (T : TV) : Value := .func (.func 33) #[] #[.pointer (some ⟨T.bs, 0, none⟩), .pointer (some ⟨T.bf, 0, none⟩), .pointer (some ⟨T.bm, 0, none⟩), .pointer (some ⟨T.bl, 0, none⟩), .pointer (some ⟨T.bv, 0, none⟩)]
/-- Tree under way, since world w0. -/
structure TM (w0 : World) (T : TV) (w : World) (l : List It) (met : List (Int × Int)) : Prop where
  s : Blk w T.bs #[.string T.s] 9
  f : Blk w T.bf #[ifc T.F] 79
  m : Blk w T.bm #[.map (some T.mm)] 81
  v : Blk w T.bv #[T.vis] 82
  l : ∃ v L, Blk w T.bl #[v] 34 ∧ ItemsAt w w0.heap.size v l L
  met : MapK kInt w T.mm (met.map fun q => (q.1, Value.int .i64 q.2))
  keeps : Keeps (fun b => w0.heap.size ≤ b) w0 w
  low : w0.heap.size ≤ T.bl ∧ w0.heap.size ≤ T.mm
/-- The blocks that a visit may turn. -/
def TV.X (T : TV) (w0 w : World) (b : Nat) : Prop := b = T.bl ∨ b = T.mm ∨ (w0.heap.size ≤ b ∧ ∃ cs f, w.heap[b]? = some (.cells cs 55 f))
theorem ItemsAt.after {w w' : World} {B : Nat} {v : Value} {l : List It} {L : List (It × Value)} (h : ItemsAt w B v l L) {X : Nat → Prop} (k : Keeps X w w') (hX : ∀ c cs t f, X c → w.heap[c]? = some (.cells cs t f) → t ≠ 55 ∧ t ≠ 3) : ItemsAt w' B v l L :=
  ⟨h.fst, ownsRow_keep h.row (fun g hg => by
    obtain ⟨_, cur, h5⟩ := ownsRow_base h.row hg
    exact k.block g (Array.getElem?_eq_some_iff.1 h5).1 (fun x => (hX g _ _ _ x h5).1 rfl)),
   fun q hq => ownsRow_keep (h.pcs q hq) (fun g hg => by
    obtain ⟨_, cur, h5⟩ := ownsRow_base (h.pcs q hq) hg
    exact k.block g (Array.getElem?_eq_some_iff.1 h5).1 (fun x => (hX g _ _ _ x h5).2 rfl))⟩
theorem TM.after {w0 : World} {T : TV} {w w' : World} {l : List It} {met : List (Int × Int)} (h : TM w0 T w l met) (k : Keeps (fun _ => False) w w') : TM w0 T w' l met :=
  ⟨h.s.keeps k (fun x => x), h.f.keeps k (fun x => x), h.m.keeps k (fun x => x), h.v.keeps k (fun x => x),
   by obtain ⟨v, L, h1, h2⟩ := h.l; exact ⟨v, L, h1.keeps k (fun x => x), h2.after k (fun _ _ _ _ x => x.elim)⟩,
   MapB.keeps h.met k (fun x => x), h.keeps.trans k (fun _ _ x => x) (fun _ _ x => x.elim), h.low⟩
theorem TV.X.trans {T : TV} {w0 w w1 w2 : World} (h : Keeps (T.X w0 w) w w1) (k : Keeps (T.X w0 w1) w1 w2) : Keeps (T.X w0 w) w w2 := by
  refine h.trans k (fun _ _ x => x) (fun b hb hx => ?_)
  rcases hx with e | e | ⟨e1, cs, f, e2⟩
  · exact Or.inl e
  · exact Or.inr (Or.inl e)
  · by_cases hxw : T.X w0 w b
    · exact hxw
    · exact Or.inr (Or.inr ⟨e1, cs, f, (h.block b hb hxw).symm.trans e2⟩)
theorem TV.X.ofNone {T : TV} {w0 w w1 : World} (h : Keeps (fun _ => False) w w1) : Keeps (T.X w0 w) w w1 := h.mono (fun _ _ x => x.elim)
theorem info55 : (Tryz.prog.info? 55).map (fun i => (i.zero, i.size, i.bytes)) = some (some (.agg #[.string ⟨#[]⟩, .int .i64 0, .int .i64 0, .string ⟨#[]⟩, .slice none 0 0, .int .i64 0]), 6, 80) := by kernel_rfl
theorem cells_new (w : World) (cs : Array Value) (t : TypeId) : ∀ j u, cs.toList[j]? = some u → (w.alloc (.cells cs t)).cell? ((⟨w.heap.size, 0, none⟩ : Addr).add j) = some u := by
  intro j u hj
  rw [Addr.add_mid, (Blk.new w cs t).cell]
  simpa using hj
theorem not_row {w : World} {B t n s : Nat} {v : Value} {xs : List Value} (h : w.ownsRow B t s v n xs) {b : Nat} {L : List (Value × Value)} (hm : MapB w b L) : v.ownBlock ≠ some b := fun e => by
  obtain ⟨_, cur, h5⟩ := ownsRow_base h e
  obtain ⟨es, c, h6, _⟩ := hm
  rw [h6] at h5; cases h5
theorem not_blk {w : World} {b c : Nat} {L : List (Value × Value)} (hm : MapB w b L) {cs : Array Value} {t : TypeId} (h : Blk w c cs t) : b ≠ c := fun e => by
  obtain ⟨es, c, h6, _⟩ := hm
  rw [e, show w.heap[_]? = _ from h] at h6; cases h6
theorem blk_ne {w : World} {b c : Nat} {cs cs' : Array Value} {t t' : TypeId} (h : Blk w b cs t) (h' : Blk w c cs' t') (ht : t ≠ t') : b ≠ c := fun e => by
  subst e
  have h1 : w.heap[b]? = _ := h
  have h2 : w.heap[b]? = _ := h'
  rw [h1] at h2
  cases h2
  exact ht rfl
/-- An item more. -/
theorem TM.push {w0 : World} {T : TV} {w5 : World} {l : List It} {met : List (Int × Int)} (hm : TM w0 T w5 l met) {v : Value} {L : List (It × Value)} (hb : Blk w5 T.bl #[v] 34) (hi : ItemsAt w5 w0.heap.size v l L) (x : It) (pv : Value)
    (hpv : w5.ownsRow w0.heap.size 3 1 pv x.pcs.length (x.pcs.map (Value.int .i64))) {v' : Value} {w6 : World} {o : Obj} (hown : w6.ownsRow w0.heap.size 55 6 v' (l.length + 1) (itemsC L ++ x.cells pv)) (hg : (w5.alloc o).grownBy w6 v.ownBlock) :
    Blk w6 T.bl #[v] 34 ∧ TM w0 T (w6.setCell ⟨T.bl, 0, none⟩ v') (l ++ [x]) met ∧ Keeps (T.X w0 w5) w5 (w6.setCell ⟨T.bl, 0, none⟩ v') := by
  have kA : Keeps (fun c => v.ownBlock = some c) w5 w6 := ((Keeps.refl (fun c => v.ownBlock = some c) w5).alloc o).grown hg (fun k e => Or.inl e)
  have nb : ∀ {b cs t}, Blk w5 b cs t → t ≠ 55 → ¬ v.ownBlock = some b := fun hb ht => ownsRow_type hi.row hb ht
  have hs6 := hm.s.keeps kA (nb hm.s (by decide))
  have hf6 := hm.f.keeps kA (nb hm.f (by decide))
  have hm6 := hm.m.keeps kA (nb hm.m (by decide))
  have hv6 := hm.v.keeps kA (nb hm.v (by decide))
  have hb6 := hb.keeps kA (nb hb (by decide))
  have hmet6 : MapK kInt w6 T.mm _ := MapB.keeps hm.met kA (not_row hi.row hm.met)
  have k5 : Keeps (fun c => c = T.bl) w6 (w6.setCell ⟨T.bl, 0, none⟩ v') := Keeps.setCell (X := fun c => c = T.bl) (Keeps.refl _ _) (Or.inl rfl) _
  have hi6 : ∀ q ∈ L, w6.ownsRow w0.heap.size 3 1 q.2 q.1.pcs.length (q.1.pcs.map (Value.int .i64)) := fun q hq => ownsRow_keep (hi.pcs q hq) (fun g hg => by
    obtain ⟨_, cur, h5⟩ := ownsRow_base (hi.pcs q hq) hg
    exact kA.block g (Array.getElem?_eq_some_iff.1 h5).1 (ownsRow_type hi.row h5 (by decide)))
  have hpv6 : w6.ownsRow w0.heap.size 3 1 pv x.pcs.length (x.pcs.map (Value.int .i64)) := ownsRow_keep hpv (fun g hg => by
    obtain ⟨_, cur, h5⟩ := ownsRow_base hpv hg
    exact kA.block g (Array.getElem?_eq_some_iff.1 h5).1 (ownsRow_type hi.row h5 (by decide)))
  have st : ∀ {t s n : Nat} {u : Value} {xs : List Value}, w6.ownsRow w0.heap.size t s u n xs → t ≠ 34 → (w6.setCell ⟨T.bl, 0, none⟩ v').ownsRow w0.heap.size t s u n xs := fun {t s n u xs} hr ht =>
    ownsRow_keep hr (fun g hg => by
      have hne := ownsRow_type hr hb6 (Ne.symm ht)
      exact Below.heap_setCell _ _ _ _ (fun (e : g = T.bl) => hne (e ▸ hg)))
  refine ⟨hb6, ⟨hs6.keeps k5 (blk_ne hs6 hb6 (by decide)), hf6.keeps k5 (blk_ne hf6 hb6 (by decide)), hm6.keeps k5 (blk_ne hm6 hb6 (by decide)), hv6.keeps k5 (blk_ne hv6 hb6 (by decide)), ⟨v', L ++ [(x, pv)], hb6.set 0 v', ?_, ?_, ?_⟩, MapB.keeps hmet6 k5 (not_blk hmet6 hb6), ?_, hm.low⟩, ?_⟩
  · simp [hi.fst]
  · rw [List.length_append]
    have e : itemsC (L ++ [(x, pv)]) = itemsC L ++ x.cells pv := by simp [itemsC]
    rw [e]
    exact st hown (by decide)
  · intro q hq
    rcases List.mem_append.1 hq with hq | hq
    · exact st (hi6 q hq) (by decide)
    · simp only [List.mem_singleton] at hq; subst hq; exact st hpv6 (by decide)
  · exact (hm.keeps.trans kA (fun _ _ x => x) (fun c hc e => (ownsRow_base hi.row e).1)).trans k5 (fun _ _ x => x) (fun c hc e => by subst e; exact hm.low.1)
  · exact kA.trans k5 (fun c hc e => by obtain ⟨h1, cur, h5⟩ := ownsRow_base hi.row e; exact Or.inr (Or.inr ⟨h1, cur, _, h5⟩)) (fun c hc e => Or.inl e)
theorem atR_size (s p : ByteArray) : (atR s p).size ≤ s.size + p.size + 1 := by
  have h2 : s.size = s.data.toList.length := Lib.size_eq s
  have htl : (Lib.trimSuffix s.data.toList [47]).length ≤ s.size := by
    unfold Lib.trimSuffix
    split
    · rw [List.length_take]; omega
    · omega
  unfold atR
  split
  · omega
  · rw [ByteArray.size_append, ByteArray.size_append]
    simp only [ByteArray.size, List.size_toArray] at htl ⊢
    simp only [Array.size] at htl ⊢
    simp; omega
def subR (p name : ByteArray) : ByteArray := ⟨(Lib.trimPrefix (p.data.toList ++ 47 :: name.data.toList) [47]).toArray⟩

set_option maxRecDepth 100000 in
set_option maxHeartbeats 2000000 in
theorem visit_met {w0 : World} {S : St} (h : Rep w0 S) (hS : S.u = .slice none 0 0) (hw : S.Wf) {T : TV} (hTF : T.F = S.F) {w : World} {l : List It} {met : List (Int × Int)} (hm : TM w0 T w l met) (p : ByteArray) (hs : T.s.size ≤ 1000000) (hp : p.size ≤ 1000000000) (full : ByteArray) (hfull : atR T.s p = full)
    (R : (List Int × ByteArray × Int) × Int) (hR : toR S full false = R) (hR2 : R.2 = 0) (n : Int) (hn : R.1.2.2 = n) (x : Nd) (hx : S.nd n = x) (k : Int) (hk : met.lookup n = some k) (hl : l.length < 1000000000000) :
    Calls Tryz.prog 33 #[.string p, .pointer (some ⟨T.bs, 0, none⟩), .pointer (some ⟨T.bf, 0, none⟩), .pointer (some ⟨T.bm, 0, none⟩), .pointer (some ⟨T.bl, 0, none⟩), .pointer (some ⟨T.bv, 0, none⟩)] w fun e w' =>
      e = .returned (.tuple #[]) ∧ TM w0 T w' (l ++ [⟨p, x.kind, 0, ⟨#[]⟩, [], k⟩]) met ∧ Keeps (T.X w0 w) w w' := by
  have hrep : ∀ W, Keeps (fun _ => False) w W → Rep W S := fun W k2 => (h.keeps hm.keeps (fun b hb hlt => by
    rcases hb with hb | hb
    · have := h.lt b hb; have := h.B; omega
    · rw [hS] at hb; cases hb)).keeps k2 (fun _ _ x => x)
  have hfl : full.size ≤ 9000000000000000000 := by rw [← hfull]; have := atR_size T.s p; omega
  have hms := hm.s
  have hmf := hm.f
  have hmm := hm.m
  have cs : w.cell? ⟨T.bs, 0, none⟩ = some (.string T.s) := hms.cell 0
  have cf : w.cell? ⟨T.bf, 0, none⟩ = some (.iface 25 (.pointer (some ⟨S.F, 0, none⟩))) := by rw [hmf.cell]; simp [ifc, hTF]
  have hdo := do_lstat (hrep w (Keeps.refl _ _)) hw full ⟨#[]⟩ ⟨#[]⟩ hfl 0 0 R hR hR2 n hn x hx
  have HDO := Lib.hid hdo
  have HA := Lib.hid (And.intro hR (And.intro hR2 (And.intro hn (And.intro hx (And.intro hk (And.intro hfull (And.intro hm hTF)))))))
  clear hR hR2 hn hx hk hfull hm hTF hms hmf hmm hdo hS
  unfold callV at HDO
  have hmd := method_do
  have hf3 := field49_3
  go_enter Tryz.func33, Tryz.ntmps33
  go_wp2_with (first | (go_at_call 34; refine (packAt_any _ _ _ (by omega) hp full HA.out.2.2.2.2.2.1).mono ?_; rintro e w' ⟨rfl, rfl⟩) | fail)
  refine HDO.out.mono ?_
  rintro e w1 ⟨na, nn, nc, rfl, ht⟩
  go_wp2_with fail
  refine (give_ok w1 0 ⟨#[]⟩ n x.kind x.links x.size x.takes na nn nc).mono ?_
  rintro e w2 ⟨rfl, hk2⟩
  have hK2 := ht.keeps.then hk2
  obtain ⟨hR, hR2, hn, hx, hk, hfull, hm, hTF⟩ := HA.out
  have hm2 := hm.after hK2
  have cm : w2.cell? ⟨T.bm, 0, none⟩ = some (.map (some T.mm)) := hm2.m.cell 0
  have lm := hm2.m.lt
  have lmm := MapB.lt hm2.met
  have lmm1 : T.mm < w2.heap.size + 1 := by omega
  have lmm2 : T.mm < w2.heap.size + 1 + 1 := by omega
  have hlk := hm2.met.lookup_ok kInt (t := 81) Tryz.underlying81 zero3 n
  rw [lookup_map, hk] at hlk
  change ∀ W, ob W T.mm = ob w2 T.mm → (Instr.lookup 81 (.map (some T.mm)) (.int .i64 n) true).run Tryz.prog W = .ok (.tuple #[.int .i64 k, .bool true]) W at hlk
  have HM2 := Lib.hid hm2
  clear ht hk2 hmd hR hR2 hn hx hk hfull hm hTF hm2
  unfold answV answC
  go_upto_region 6 with fail
  have hm2 := HM2.out
  have hK5 := (hK2.alloc (.cells #[.int .i64 n, .int .i64 x.kind, .int .i64 x.links, .int .i64 x.size, .int .i64 x.takes] 44)).alloc (.cells #[.string p, .int .i64 x.kind, .int .i64 0, .string ⟨#[]⟩, .slice none 0 0, .int .i64 k] 55)
  have hm5 := hm2.after (((Keeps.refl (fun _ => False) w2).alloc (.cells #[.int .i64 n, .int .i64 x.kind, .int .i64 x.links, .int .i64 x.size, .int .i64 x.takes] 44)).alloc (.cells #[.string p, .int .i64 x.kind, .int .i64 0, .string ⟨#[]⟩, .slice none 0 0, .int .i64 k] 55))
  have hbx := Blk.new' (w := w2.alloc (.cells #[.int .i64 n, .int .i64 x.kind, .int .i64 x.links, .int .i64 x.size, .int .i64 x.takes] 44)) (n := w2.heap.size + 1) (by simp) #[.string p, .int .i64 x.kind, .int .i64 0, .string ⟨#[]⟩, .slice none 0 0, .int .i64 k] 55
  generalize (w2.alloc (.cells #[.int .i64 n, .int .i64 x.kind, .int .i64 x.links, .int .i64 x.size, .int .i64 x.takes] 44)).alloc (.cells #[.string p, .int .i64 x.kind, .int .i64 0, .string ⟨#[]⟩, .slice none 0 0, .int .i64 k] 55) = w5 at hK5 hm5 hbx ⊢
  obtain ⟨v, L5, hbl, hit⟩ := hm5.l
  obtain ⟨i55, hi55, hz50, hz51, hz52⟩ := info_parts info55
  have cl : w5.cell? ⟨T.bl, 0, none⟩ = some v := hbl.cell 0
  have ll := hbl.lt
  have hcx := hbx.cell
  have hrow := hit.row
  have hs5 := hm5.keeps.size
  have HX := Lib.hid (And.intro hm5 (And.intro hbl (And.intro hit hK5)))
  clear hm2 hK2 hm5 hbl hit hK5 hbx
  go_wp2_with (first | (at_builtin; refine wpList_append_own_at _ rfl _ _ 34 rfl w0.heap.size 55 i55 _ 6 80 Tryz.underlying34 hi55 hz50 hz51 hz52 rfl (by decide) _ _ _ rfl (hrow.alloc _) ⟨w5.heap.size, 0, none⟩ 1 1 (It.cells ⟨p, x.kind, 0, ⟨#[]⟩, [], k⟩ (.slice none 0 0)) rfl rfl (cells_new w5 #[.string p, .int .i64 x.kind, .int .i64 0, .string ⟨#[]⟩, .slice none 0 0, .int .i64 k] 55) (by simp [It.cells, Value.oneCell']) (by simp only [maxLen]; omega) (by omega) (by simp; omega) ?_) | fail)
  intro v' w6 hown6 hg6 _ _
  obtain ⟨hm5, hbl, hit, hK5⟩ := HX.out
  obtain ⟨hb6, hm7, hk7⟩ := hm5.push hbl hit ⟨p, x.kind, 0, ⟨#[]⟩, [], k⟩ (.slice none 0 0) ⟨rfl, Or.inl ⟨rfl, rfl⟩⟩ hown6 hg6
  have cl6 : w6.cell? ⟨T.bl, 0, none⟩ = some v := hb6.cell 0
  have fl6 : w6.frozen? ⟨T.bl, 0, none⟩ = false := hb6.frz 0
  obtain ⟨a9, c9, rfl⟩ := ownsRow_form hown6
  have HY := Lib.hid (And.intro hm7 (TV.X.trans (TV.X.ofNone hK5) hk7))
  clear hm5 hbl hit hK5 hb6 hm7 hk7 hown6 hg6 hrow
  go_wp2_with fail
  exact bodyPost_ret (results_none rfl _ _ _) rfl ⟨rfl, HY.out.1, HY.out.2⟩

end Go.Proofs.YtdafneilalompaaGreatDoor
