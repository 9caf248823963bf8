/- put, where the directory grows. Conditions: those that each theorem names. -/
import Derived.Test.YtdafneilalompaaGreatDoorRam1
import Derived.Deep.RegionHeld3
namespace Go.Proofs.YtdafneilalompaaGreatDoor
open Go Go.RowKit Go.MapKept
open Go.ChangeMaps (setBlock)

/-- Of the blocks of w all but the owned ones and, from B on, those of undo steps are in w' as they were. -/
def Fr (own : Nat → Option (Nat × Int)) (B : Nat) (w w' : World) : Prop := Keeps (fun b => own b ≠ none ∨ (B ≤ b ∧ ∃ cs f, w.heap[b]? = some (.cells cs 1 f))) w w'
section
variable {own : Nat → Option (Nat × Int)} {B : Nat} {w w1 w' : World}
theorem Fr.refl (own : Nat → Option (Nat × Int)) (B : Nat) (w : World) : Fr own B w w := Keeps.refl _ _
theorem Fr.trans (h : Fr own B w w1) (k : Fr own B w1 w') : Fr own B w w' :=
  Keeps.trans h k (fun _ _ x => x) (fun i hi e => by
    rcases e with e | ⟨e, cs, f, hc⟩
    · exact Or.inl e
    · by_cases hx : own i ≠ none ∨ (B ≤ i ∧ ∃ cs f, w.heap[i]? = some (.cells cs 1 f))
      · exact hx
      · exact Or.inr ⟨e, cs, f, (h.block i hi hx).symm.trans hc⟩)
theorem Fr.ofKeeps (k : Keeps (fun _ => False) w w') : Fr own B w w' := k.mono (fun _ _ x => x.elim)
theorem Fr.then (h : Fr own B w w1) (k : Keeps (fun _ => False) w1 w') : Fr own B w w' := h.trans (Fr.ofKeeps k)
theorem Fr.of {S : St} (h : Rep w S) (k : Keeps S.foot w w') : Fr S.own S.B w w' :=
  k.mono (fun b _ e => by
    rcases e with e | e
    · exact Or.inl e
    · obtain ⟨h1, cur, h2⟩ := ownsRow_base h.row e
      exact Or.inr ⟨h1, cur, _, h2⟩)
theorem Fr.mono {own' : Nat → Option (Nat × Int)} (h : Fr own B w w') (ho : ∀ b, own b ≠ none → own' b ≠ none) : Fr own' B w w' :=
  Keeps.mono h (fun b _ e => by
    rcases e with e | e
    · exact Or.inl (ho b e)
    · exact Or.inr e)
theorem Fr.owned (h : Fr own w.heap.size w w') : Keeps (fun b => own b ≠ none) w w' :=
  Keeps.mono h (fun b hb e => by
    rcases e with e | ⟨e, _⟩
    · exact e
    · omega)
theorem Fr.blk (h : Fr own B w w') {b : Nat} {cs : Array Value} {t : TypeId} (hb : Blk w b cs t) (ht : t ≠ 1) (ho : own b = none) : Blk w' b cs t :=
  hb.keeps h (by
    rintro (e | ⟨_, cs', f, e⟩)
    · exact e ho
    · rw [show w.heap[b]? = _ from hb] at e
      simp at e
      exact ht e.2.1)
theorem Fr.setCell (h : Fr own B w w1) {p : Addr} (hp : own p.block ≠ none ∨ w.heap.size ≤ p.block) (u : Value) : Fr own B w (w1.setCell p u) := Keeps.setCell h (hp.imp (fun e => Or.inl e) id) u
theorem Fr.alloc (h : Fr own B w w1) (o : Obj) : Fr own B w (w1.alloc o) := Keeps.alloc h o
theorem Fr.drew (h : Fr own B w w1) : Fr own B w w1.drew := Keeps.drew h
theorem Fr.drewN (h : Fr own B w w1) (n : Nat) : Fr own B w (w1.drewN n) := Keeps.drewN h n
end
theorem Rep.free {w : World} {S : St} (h : Rep w S) {b : Nat} (hb : S.B ≤ b) : S.own b = none := by
  cases ho : S.own b with
  | none => rfl
  | some t => have := h.lt b (by rw [ho]; simp); omega

/-- A directory with one name more. -/
def Nd.grown (x : Nd) (name : ByteArray) (n : Int) : Nd :=
  match x.nms with
  | some (b, L) => if (L.length : Int) = x.blocks * 16 then { x with blocks := x.blocks + 1, size := (x.blocks + 1) * 512, nms := some (b, upd name n L) } else { x with nms := some (b, upd name n L) }
  | none => x

set_option maxRecDepth 100000 in
set_option maxHeartbeats 1000000 in
theorem put_grow {w : World} {S : St} (h : Rep w S) {i : Int} (hi : i ∈ S.keys) {b : Nat} {L : List (ByteArray × Int)} (hp : (S.nd i).nms = some (b, L)) (name : ByteArray) (n : Int) (l k : Nat) (bl : Int) (hL : L.length = l) (hbl : (S.nd i).blocks = bl) (hk : bl = k) (hroom : l = 16 * k) (hk2 : k ≤ 1000000) (hn : S.us.length ≤ 900000) :
    Calls Tryz.prog 142 #[.pointer (some ⟨S.F, 0, none⟩), .int .i64 i, .string name, .int .i64 n] w fun e w' => e = .returned (.tuple #[]) ∧
      ∃ u' cls, Rep w' ((S.put i { S.nd i with blocks := bl + 1, size := (bl + 1) * 512, nms := some (b, upd name n L) }).undos u' cls) ∧ cls.length = 3 ∧ Fr S.own S.B w w' := by
  have hmf := run_makeFunc_any
  obtain ⟨N, hN⟩ : ∃ N, (S.nd i).blk = N := ⟨_, rfl⟩
  have hat := at_any h i
  simp only [hi, if_true, ndPtr, hN] at hat ⊢
  have hb := (h.nds i hi).blk
  have hm := (h.nds i hi).nms b L hp
  rw [hN] at hb
  have hc4 : w.cell? ⟨N, 4, none⟩ = some (.map (some b)) := by rw [hb.cell]; simp [Nd.cells, hp]
  have hc5 : w.cell? ⟨N, 5, none⟩ = some (.int .i64 bl) := by rw [hb.cell]; simp [Nd.cells, hbl]
  have hz := hb.frz
  have hNl := hb.lt
  have hNk := hb.ltk
  have hbl' := hm.1.lt
  have hbk : ∀ k, b < w.heap.size + k := fun k => by omega
  have hlen : ∀ W, ob W b = ob w b → (Builtin.len_ #[108] 3 #[.map (some b)]).run Tryz.prog W = .ok (.int .i64 l) W := fun W hW => by
    have := hm.1.len kStr (t := 108) (ty := 3) Tryz.underlying108 W hW
    rw [List.length_map, hL] at this
    exact this
  subst hk
  have ht1 : ((l : Int) == (k : Int) * 16) = true := by simp; omega
  have HL := Lib.hid hL
  have HN := Lib.hid hN
  have Hp := Lib.hid hp
  have Hat := Lib.hid hat
  have Hbl := Lib.hid hbl
  have HR := Lib.hid hroom
  clear hL hN hp hat hbl hroom
  go_enter Tryz.func142, Tryz.ntmps142
  go_wp2_with (go_at_call 121; refine (at_any (h.alloc _) i).mono ?_; rintro e w' ⟨rfl, rfl⟩; simp only [hi, if_true, ndPtr, HN.out])
  go_region
  go_wp2_with fail
  have hB := h.B
  obtain ⟨hR1, hK1⟩ := h.setField hi HN.out.symm 5 (.int .i64 ((k : Int) + 1)) (x := { S.nd i with blocks := (k : Int) + 1 }) rfl rfl rfl rfl
  have hbN1 := ((Blk.new' (w := w.setCell ⟨N, 5, none⟩ (.int .i64 ((k : Int) + 1))) (n := w.heap.size) (by simp) #[.string name] 9).alloc (.cells #[.pointer (some ⟨N, 0, none⟩)] 107)).drew
  have hbD1 := (Blk.new' (w := (w.setCell ⟨N, 5, none⟩ (.int .i64 ((k : Int) + 1))).alloc (.cells #[.string name] 9)) (n := w.heap.size + 1) (by simp) #[.pointer (some ⟨N, 0, none⟩)] 107).drew
  have hR2 := ((hR1.alloc (.cells #[.string name] 9)).alloc (.cells #[.pointer (some ⟨N, 0, none⟩)] 107)).drew
  have hK2 := ((hK1.alloc (.cells #[.string name] 9)).alloc (.cells #[.pointer (some ⟨N, 0, none⟩)] 107)).drew
  refine (back_rep hR2 204 _ (by show S.us.length ≤ _; omega)).mono ?_
  rintro e w3 ⟨rfl, u3, hR3, hK3⟩
  have hbN3 := hbN1.keeps hK3 (hR2.off hB hbN1 (by decide))
  have hbD3 := hbD1.keeps hK3 (hR2.off (Nat.le_succ_of_le hB) hbD1 (by decide))
  have hK03 : Keeps S.foot w w3 := hK2.then hK3
  clear hK1 hK2 hR1 hR2 hbN1 hbD1 hK3
  have hi3 : i ∈ ((S.put i { S.nd i with blocks := (k : Int) + 1 }).undo u3 (.func (.func 204) #[] #[.pointer (some ⟨w.heap.size + 1, 0, none⟩)])).keys := hi
  have hnd3 := hR3.nds i hi3
  have e3 : ((S.put i { S.nd i with blocks := (k : Int) + 1 }).undo u3 (.func (.func 204) #[] #[.pointer (some ⟨w.heap.size + 1, 0, none⟩)])).nd i = { S.nd i with blocks := (k : Int) + 1 } := St.put_at S i _
  generalize hS3 : (S.put i { S.nd i with blocks := (k : Int) + 1 }).undo u3 (.func (.func 204) #[] #[.pointer (some ⟨w.heap.size + 1, 0, none⟩)]) = S3 at *
  have hcN : w3.cell? ⟨N, 5, none⟩ = some (.int .i64 ((k : Int) + 1)) := by
    have := hnd3.blk
    rw [e3] at this
    rw [← HN.out]
    exact this.cell 5
  have hcD : w3.cell? ⟨w.heap.size + 1, 0, none⟩ = some (.pointer (some ⟨N, 0, none⟩)) := hbD3.cell 0
  have HS3 := Lib.hid hS3
  have hF3 : S3.F = S.F := by rw [← hS3]; rfl
  have hB3 : S3.B = S.B := by rw [← hS3]; rfl
  have hu3 : S3.us.length = S.us.length + 1 := by rw [← hS3]; simp [St.undo, St.put]
  have hfoot : S3.own = S.own := by rw [← hS3]; rfl
  have hrs := resize_rep hR3.drew hi3 (((k : Int) + 1) * 512) N (by rw [e3]; exact HN.out.symm) _ rfl (by omega)
  rw [hF3] at hrs
  have HRS := Lib.hid hrs
  have HE3 := Lib.hid e3
  have HU3 := Lib.hid hu3
  have HF3 := Lib.hid hF3
  have HB3 := Lib.hid hB3
  have HO3 := Lib.hid hfoot
  clear hrs e3 hu3 hF3 hB3 hS3 hfoot
  go_wp2_with fail
  go_still_tail 7, (by kernel_rfl)
  change wpList _ _ _ _ _ w3.drew
  go_wp2_with fail
  refine HRS.out.mono ?_
  rintro e w4 ⟨rfl, u4, cN4, cB4, hR4, hK4, _⟩
  clear hcN hcD
  have hfr4 : Fr S.own S.B w3 w4 := by have := Fr.of hR3.drew hK4; rw [HO3.out, HB3.out] at this; exact ((Fr.refl _ _ w3).drew).trans this
  have hfr : Fr S.own S.B w w4 := (Fr.of h hK03).trans hfr4
  have hbN4 := hfr4.blk hbN3 (by decide) (h.free hB)
  have hbD4 := hfr4.blk hbD3 (by decide) (h.free (Nat.le_succ_of_le hB))
  have hB4 := hR4.B
  generalize hS4 : (S3.put i { S3.nd i with size := ((k : Int) + 1) * 512 }).undo u4 (.func (.func 237) #[] #[.pointer (some ⟨cB4, 0, none⟩), .pointer (some ⟨cN4, 0, none⟩)]) = S4 at *
  have hi4 : i ∈ S4.keys := by rw [← hS4]; exact hi3
  have e4 : S4.nd i = { S.nd i with blocks := (k : Int) + 1, size := ((k : Int) + 1) * 512 } := by
    rw [← hS4]; show (S3.put i _).nd i = _; rw [St.put_at, HE3.out]
  have hp4 : (S4.nd i).nms = some (b, L) := by rw [e4]; exact Hp.out
  have hm4 := (hR4.nds i hi4).nms b L hp4
  have hcN : w4.cell? ⟨w.heap.size, 0, none⟩ = some (.string name) := hbN4.cell 0
  have hcD : w4.cell? ⟨w.heap.size + 1, 0, none⟩ = some (.pointer (some ⟨N, 0, none⟩)) := hbD4.cell 0
  have hcM : w4.cell? ⟨N, 4, none⟩ = some (.map (some b)) := by
    have := (hR4.nds i hi4).blk
    rw [e4] at this
    rw [← HN.out]
    have h4 := this.cell 4
    rw [h4]
    simp [Nd.cells, Hp.out]
  obtain ⟨o, hupd⟩ := hm4.1.update kStr (t := 108) Tryz.underlying108 name (.int .i64 n)
  have hrun : ∀ W, ob W b = ob w4 b → (Instr.mapUpdate 108 (.map (some b)) (.string name) (.int .i64 n)).run Tryz.prog W = .ok () (setBlock W b o) := fun W hW => (hupd W hW).1
  have Hupd := Lib.hid hupd
  have HS4 := Lib.hid hS4
  have HE4 := Lib.hid e4
  have Hp4 := Lib.hid hp4
  have hus4 : S4.us.length ≤ 1000000 := by rw [← hS4]; have := HU3.out; simp [St.undo, St.put]; omega
  have hF4 : S4.F = S.F := by rw [← hS4]; exact HF3.out
  have HF4 := Lib.hid hF4
  have hm4l := hm4.1.lt
  clear hupd hS4 e4 hp4 hF4 hm4 hlen
  go_wp2_with fail
  go_region
  go_wp2_with fail
  have hmk := (Hupd.out w4.drew rfl).2
  rw [← upd_map] at hmk
  obtain ⟨hR5, hK5⟩ := hR4.drew.setNms hi4 Hp4.out hmk
  have hbk := back_rep hR5 206 #[.pointer (some ⟨w.heap.size + 1, 0, none⟩), .pointer (some ⟨w.heap.size, 0, none⟩)] hus4
  rw [show (S4.put i { S4.nd i with nms := some (b, upd name n L) }).F = S.F from HF4.out] at hbk
  refine hbk.mono ?_
  rintro e w6 ⟨rfl, u6, hR6, hK6⟩
  go_wp2
  go_end0
  have hown4 : S4.own = S.own := by rw [← HS4.out]; exact HO3.out
  have hB4 : S4.B = S.B := by rw [← HS4.out]; exact HB3.out
  refine ⟨rfl, u6, [.func (.func 204) #[] #[.pointer (some ⟨w.heap.size + 1, 0, none⟩)], .func (.func 237) #[] #[.pointer (some ⟨cB4, 0, none⟩), .pointer (some ⟨cN4, 0, none⟩)], .func (.func 206) #[] #[.pointer (some ⟨w.heap.size + 1, 0, none⟩), .pointer (some ⟨w.heap.size, 0, none⟩)]], ?_, rfl, ?_⟩
  · have e : (S4.put i { S4.nd i with nms := some (b, upd name n L) }).undo u6 (.func (.func 206) #[] #[.pointer (some ⟨w.heap.size + 1, 0, none⟩), .pointer (some ⟨w.heap.size, 0, none⟩)]) =
        (S.put i { S.nd i with blocks := (k : Int) + 1, size := ((k : Int) + 1) * 512, nms := some (b, upd name n L) }).undos u6 [.func (.func 204) #[] #[.pointer (some ⟨w.heap.size + 1, 0, none⟩)], .func (.func 237) #[] #[.pointer (some ⟨cB4, 0, none⟩), .pointer (some ⟨cN4, 0, none⟩)], .func (.func 206) #[] #[.pointer (some ⟨w.heap.size + 1, 0, none⟩), .pointer (some ⟨w.heap.size, 0, none⟩)]] := by
      rw [HE4.out, ← HS4.out, HE3.out, ← HS3.out]
      simp only [St.undo, St.undos, St.put, List.append_assoc, List.cons_append, List.nil_append]
      congr 1
      funext j
      split <;> rfl
    rw [e] at hR6
    rw [← HN.out]
    exact hR6
  · have f1 := Fr.of hR4.drew hK5
    have f2 := Fr.of hR5 hK6
    rw [hown4, hB4] at f1
    rw [show (S4.put i { S4.nd i with nms := some (b, upd name n L) }).own = S.own from hown4, show (S4.put i { S4.nd i with nms := some (b, upd name n L) }).B = S.B from hB4] at f2
    exact (hfr.drew).trans (f1.trans f2)

/-- A name comes into a directory. -/
theorem put_any {w : World} {S : St} (h : Rep w S) {i : Int} (hi : i ∈ S.keys) {b : Nat} {L : List (ByteArray × Int)} (hp : (S.nd i).nms = some (b, L)) (name : ByteArray) (n : Int) (h0 : 0 ≤ (S.nd i).blocks) (h1 : (S.nd i).blocks ≤ 1000000) (hL : (L.length : Int) ≤ (S.nd i).blocks * 16) (hn : S.us.length ≤ 900000) :
    Calls Tryz.prog 142 #[.pointer (some ⟨S.F, 0, none⟩), .int .i64 i, .string name, .int .i64 n] w fun e w' => e = .returned (.tuple #[]) ∧
      ∃ u' cls, Rep w' ((S.put i ((S.nd i).grown name n)).undos u' cls) ∧ cls.length ≤ 3 ∧ cls ≠ [] ∧ Fr S.own S.B w w' := by
  obtain ⟨k, hk⟩ : ∃ k : Nat, (S.nd i).blocks = k := ⟨_, (Int.toNat_of_nonneg h0).symm⟩
  by_cases hg : (L.length : Int) = (S.nd i).blocks * 16
  · refine (put_grow h hi hp name n L.length k _ rfl rfl hk (by omega) (by omega) hn).mono ?_
    rintro e w' ⟨he, u', cls, hR, hl, hF⟩
    have hgr : (S.nd i).grown name n = { S.nd i with blocks := (S.nd i).blocks + 1, size := ((S.nd i).blocks + 1) * 512, nms := some (b, upd name n L) } := by simp only [Nd.grown, hp, if_pos hg]
    exact ⟨he, u', cls, by rw [hgr]; exact hR, by omega, by rintro rfl; simp at hl, hF⟩
  · refine (put_room h hi hp name n L.length k _ rfl rfl hk (by omega) (by omega) (by omega)).mono ?_
    rintro e w' ⟨he, u', bD, bN, hR, hF, _⟩
    have hgr : (S.nd i).grown name n = { S.nd i with nms := some (b, upd name n L) } := by simp only [Nd.grown, hp, if_neg hg]
    exact ⟨he, u', [_], by rw [hgr]; exact hR, by simp, by simp, Fr.of h hF⟩
end Go.Proofs.YtdafneilalompaaGreatDoor
