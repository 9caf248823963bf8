/- Reading a file's bytes. Conditions: those that each theorem names. What is read of a file, byte by byte; the pieces that are not all zeros. Plain lists. readPath: read of a path. Conditions: those that each theorem names. -/
import Derived.Test.YtdafneilalompaaGreatDoorBld0
namespace Go.Proofs.YtdafneilalompaaGreatDoor
section
open Go Go.RowKit
open Go.ChangeMaps (setBlock)

/-- A file's bytes from a place on up to another. -/
def readB (L : List (Int × List UInt8)) (at_ end_ : Nat) : List UInt8 :=
  if h : at_ < end_ then
    (((L.lookup ((at_ / 512 : Nat) : Int)).getD zpiece).drop (at_ % 512)).take (min (512 - at_ % 512) (end_ - at_)) ++ readB L (at_ + min (512 - at_ % 512) (end_ - at_)) end_
  else []
termination_by end_ - at_
decreasing_by
  have : at_ % 512 < 512 := Nat.mod_lt _ (by omega)
  omega
theorem slice244b (b f m : Nat) (hf : f < 512) (hm : f + m ≤ 512) (W : World) : (Instr.sliceAt 244 (.pointer (some ⟨b, 0, none⟩)) (some (.int .i64 f)) (some (.int .i64 ((f : Int) + m))) none).run Tryz.prog W = .ok (.slice (some ⟨b, f, none⟩) m (512 - f)) W := by
  have hz : (Go.sizeOf 5).run Tryz.prog W = .ok 1 W := by kernel_rfl
  have ha : Tryz.prog.arrayLen 244 = 512 := by kernel_rfl
  have he : Tryz.prog.elem 244 = 5 := by kernel_rfl
  rw [run_sliceAt_array_lh (t := 244) (ht := by rw [ha, he]; exact Tryz.underlying244) (h0 := by omega) (h1 := by omega) (h2 := by rw [ha]; omega), he, hz]
  simp only [Result.andThen, slicedAt, ha, Int.toNat_natCast, Nat.mul_one]
  rw [if_neg (by omega), Addr.add_mid, Nat.zero_add, show ((f : Int) + m).toNat = f + m by omega, Nat.add_sub_cancel_left]
theorem BuilderAt.keeps {w w' : World} {T e B b : Nat} {p : Value} {bs : List Value} (h : Lib.BuilderAt T e B b p bs w) (k : Keeps (fun _ => False) w w') : Lib.BuilderAt T e B b p bs w' := by
  obtain ⟨h1, v, h2, h3, h4⟩ := h
  exact ⟨h1, v, (k.block b (Array.getElem?_eq_some_iff.1 h2).1 (fun x => x)).trans h2, ownsRow_keep h3 (fun g hg => k.block g (h3.lt g hg).2 (fun x => x)), h4⟩
theorem IsBuilder.keeps {w w' : World} {T e B b : Nat} {bs : List Value} (h : Lib.IsBuilder T e B b bs w) (k : Keeps (fun _ => False) w w') : Lib.IsBuilder T e B b bs w' := h.imp (fun h => BuilderAt.keeps h k) (fun h => BuilderAt.keeps h k)
theorem IsBuilder.lt' {w : World} {T e B b : Nat} {bs : List Value} (h : Lib.IsBuilder T e B b bs w) : b < w.heap.size := h.elim (fun h => h.lt) (fun h => h.lt)
/-- What read answers. -/
def readR (L : List (Int × List UInt8)) (sz off size : Nat) : List UInt8 := if sz ≤ off then [] else readB L off (off + min size (sz - off))
theorem readB_end (L : List (Int × List UInt8)) (a e : Nat) (h : ¬ a < e) : readB L a e = [] := by rw [readB, dif_neg h]
set_option maxRecDepth 100000 in
set_option maxHeartbeats 2000000 in
theorem read_any {w : World} {own : Nat → Option (Nat × Int)} {i : Int} {x : Nd} (h : NdAt w own i x) {b : Nat} {L : List (Int × List UInt8)} (hp : x.pcs = some (b, L)) (hL : ∀ q ∈ L, q.2.length = 512) (N : Nat) (hN : x.blk = N) (sz : Nat) (hsz : x.size = sz) (hsz2 : sz ≤ 8459264) (off size : Nat) (ho : off ≤ 9000000) (hs : size ≤ 16384) :
    Calls Tryz.prog 122 #[.pointer (some ⟨N, 0, none⟩), .int .i64 off, .int .i64 size] w fun e w' => e = .returned (.string ⟨(readR L sz off size).toArray⟩) ∧ Keeps (fun _ => False) w w' := by
  have hblk := h.blk
  have hc2 : w.cell? ⟨N, 2, none⟩ = some (.int .i64 sz) := by rw [← hN, hblk.cell]; simp [Nd.cells, hsz]
  have hNl : N < w.heap.size := hN ▸ hblk.lt
  have HN := Lib.hid hN
  have HP := Lib.hid hp
  have HLL := Lib.hid hL
  clear hN hp hsz hL hblk
  by_cases hge : sz ≤ off
  · have hR := Lib.hid (show readR L sz off size = [] by rw [readR, if_pos hge])
    go_enter Tryz.func122, Tryz.ntmps122
    go_wp2_with fail
    go_ret
    rw [hR.out]
    exact ⟨rfl, Keeps.refl _ _⟩
  · obtain ⟨s2, hs2⟩ : ∃ s2, min size (sz - off) = s2 := ⟨_, rfl⟩
    have hR := Lib.hid (show readR L sz off size = readB L off (off + s2) by rw [readR, if_neg hge, hs2])
    have hs3 : (min (size : Int) ((sz : Int) - (off : Int))) = (s2 : Int) := by omega
    have hs4 : s2 ≤ 16384 := by omega
    clear hs2
    go_enter Tryz.func122, Tryz.ntmps122
    go_wp2_with fail
    go_loopg [8] s2 (fun k p8 wr => ∃ (at_ : Nat) (acc : List UInt8), p8 = .int .i64 at_ ∧ off ≤ at_ ∧ at_ ≤ off + s2 ∧ k = off + s2 - at_ ∧ Lib.IsBuilder 139 5 w.heap.size w.heap.size (Lib.byteCells acc) wr ∧ acc.length = at_ - off ∧ Keeps (fun _ => False) w wr ∧ acc ++ readB L at_ (off + s2) = readB L off (off + s2))
    case atStart => exact ⟨off, [], rfl, Nat.le_refl _, by omega, by omega, Lib.fresh_isBuilder 139 5 w, by simp, (Keeps.refl _ _).alloc _, rfl⟩
    case round =>
      obtain ⟨at_, acc, rfl, ha0, ha1, hgk, hbld, hacc, hK, hw⟩ := hrel
      have HA := Lib.hid hgk
      have HW := Lib.hid hw
      have hacc2 : acc.length ≤ 20000 := by omega
      have HACC := Lib.hid hacc
      clear hgk hw hacc
      have hnd := h.keeps hK (fun _ _ x => x)
      have hblk := hnd.blk
      have hc3 : wr.cell? ⟨N, 3, none⟩ = some (.map (some b)) := by rw [← HN.out, hblk.cell]; simp [Nd.cells, HP.out]
      have hNl2 : N < wr.heap.size := HN.out ▸ hblk.lt
      clear hblk
      by_cases hlt : at_ < off + s2
      · obtain ⟨kk, hkk⟩ : ∃ kk, at_ / 512 = kk := ⟨_, rfl⟩
        obtain ⟨ff, hff⟩ : ∃ ff, at_ % 512 = ff := ⟨_, rfl⟩
        have hff1 : ff < 512 := by rw [← hff]; exact Nat.mod_lt _ (by omega)
        have hkk1 : kk ≤ 20000 := by omega
        obtain ⟨mm, hmm⟩ : ∃ mm, min (512 - ff) (off + s2 - at_) = mm := ⟨_, rfl⟩
        have hmm2 : ff + mm ≤ 512 := by omega
        have hmm3 : 1 ≤ mm := by omega
        have hmm4 : at_ + mm ≤ off + s2 := by omega
        have hmin : min ((512 : Int) - ff) ((off : Int) + s2 - at_) = mm := by omega
        have hlk := pieces_one hnd HP.out (kk : Int)
        have hpl : ((L.lookup (kk : Int)).getD zpiece).length = 512 := by
          cases hl : L.lookup (kk : Int) with
          | none => simp [zpiece]
          | some v => exact HLL.out _ (lookup_mem hl)
        change ∀ W, ob W b = ob wr b → (Instr.lookup 109 (.map (some b)) (.int .i64 kk) false).run Tryz.prog W = .ok (.agg (pcs8 ((L.lookup (kk : Int)).getD zpiece))) W at hlk
        obtain ⟨p, hp⟩ : ∃ p, (L.lookup (kk : Int)).getD zpiece = p := ⟨_, rfl⟩
        rw [hp] at hlk hpl
        obtain ⟨cp, hcp⟩ : ∃ cp, pcs8 p = cp := ⟨_, rfl⟩
        rw [hcp] at hlk
        have hsp : cp.size = 512 := by rw [← hcp, pcs8_size, hpl]
        have hop : cp.all (·.oneCell') = true := by rw [← hcp]; exact pcs8_one _
        have hst := storeCells244 (b := wr.heap.size) (cs := Tryz.zeroCells244) rfl hsp hop
        have hq : ((at_ : Int)).tdiv 512 = (kk : Int) := by rw [← hkk, Int.tdiv_eq_ediv_of_nonneg (by omega)]; omega
        have hq2 : ((at_ : Int)).tmod 512 = (ff : Int) := by rw [← hff, Int.tmod_eq_emod_of_nonneg (by omega)]; omega
        have hbl := (hnd.pcs b L HP.out).1.lt
        have hbk : ∀ j, b < wr.heap.size + j := fun j => by omega
        have hsl := slice244b wr.heap.size ff mm hff1 hmm2
        have HX := Lib.hid (And.intro hkk (And.intro hff (And.intro hp (And.intro hcp (And.intro hpl hmm)))))
        clear hkk hff hp hcp hop hpl hmm
        go_wp2_with fail
        have hK7 : Keeps (fun _ => False) wr (setBlock (wr.alloc (.cells Tryz.zeroCells244 244)) wr.heap.size (.cells cp 244)) := ((Keeps.refl _ _).alloc _).setBlock (Or.inr (Nat.le_refl _)) _
        have hB7 : Blk (setBlock (wr.alloc (.cells Tryz.zeroCells244 244)) wr.heap.size (.cells cp 244)) wr.heap.size cp 244 := Blk.setSame (by simp) _ _
        generalize setBlock (wr.alloc (.cells Tryz.zeroCells244 244)) wr.heap.size (.cells cp 244) = w7 at hK7 hB7 ⊢
        obtain ⟨hkk, hff, hp, hcp, hpl, hmm⟩ := HX.out
        have hb7 := IsBuilder.keeps hbld hK7
        have hlen7 : (p.drop ff).length = 512 - ff := by rw [List.length_drop, hpl]
        refine (Builder_Write hb7 (by have := hK.size; have := hK7.size; omega) wr.heap.size ff mm (512 - ff) (((p.drop ff).take mm).map fun x => Value.int .u8 x.toNat) (by rw [List.length_map, List.length_take, hlen7]; omega) cp 244 hB7 (by have := IsBuilder.lt' hbld; omega) ?_ ?_ (by simp only [Lib.byteCells, List.length_map]; omega)).mono ?_
        · intro j u hu
          simp only [List.getElem?_map, Option.map_eq_some_iff, List.getElem?_take] at hu
          obtain ⟨x, hx, rfl⟩ := hu
          split at hx
          · rw [List.getElem?_drop] at hx
            rw [← hcp]
            simp [pcs8, hx]
          · cases hx
        · intro u hu
          obtain ⟨x, _, rfl⟩ := List.mem_map.1 hu
          rfl
        rintro e w8 ⟨rfl, hb8, hf8⟩
        have hK8 : Keeps (fun _ => False) w w8 := (hK.then hK7).trans hf8 (fun _ _ x => x) (fun k hk e => by
          rcases e with e | ⟨e, _⟩ <;> omega)
        have HX2 := Lib.hid (And.intro hkk (And.intro hff (And.intro hp (And.intro hcp (And.intro hpl hmm)))))
        clear hkk hff hp hcp hpl hmm hst hsl hlk hc3
        go_wp2_with fail
        go_roundg (off + s2 - (at_ + mm))
        case measure => rw [HA.out]; omega
        case rel =>
          obtain ⟨hkk, hff, hp, hcp, hpl, hmm⟩ := HX2.out
          refine ⟨at_ + mm, acc ++ (p.drop ff).take mm, by simp, by omega, hmm4, rfl, Or.inr ?_, ?_, hK8, ?_⟩
          · simp only [Lib.byteCells, List.map_append] at hb8 ⊢
            exact hb8
          · rw [List.length_append, List.length_take, hlen7, HACC.out]; omega
          · rw [← HW.out]
            conv => rhs; rw [readB]
            rw [dif_pos hlt, hkk, hff, hp, hmm, List.append_assoc]
      · have hfin : acc = readB L off (off + s2) := by
          have := HW.out
          rw [readB_end L at_ (off + s2) hlt, List.append_nil] at this
          exact this
        have HFin := Lib.hid hfin
        clear hfin
        go_wp2_with fail
        refine (Tryz.Builder_String_any w.heap.size w.heap.size acc wr hbld hK.size).mono ?_
        rintro e w8 ⟨rfl, hbel⟩
        have hK8 : Keeps (fun _ => False) w w8 := hK.trans (Keeps.mono (X := fun k => w.heap.size ≤ k) (Y := fun k => w.heap.size ≤ k) ⟨hbel.os, hbel.tape, hbel.output, hbel.size, fun k _ hn => hbel.block k (by omega)⟩ (fun _ _ x => x)) (fun _ _ x => x) (fun k hk e => by omega)
        go_wp2_with fail
        go_ret
        rw [hR.out, ← HFin.out]
        exact ⟨rfl, hK8⟩
end
section
open Go

/-- A file's byte. -/
def byteAt (L : List (Int × List UInt8)) (j : Nat) : UInt8 := ((L.lookup ((j / 512 : Nat) : Int)).getD zpiece).getD (j % 512) 0
theorem lookup_len {L : List (Int × List UInt8)} (hL : ∀ q ∈ L, q.2.length = 512) (k : Int) : ((L.lookup k).getD zpiece).length = 512 := by
  cases hl : L.lookup k with
  | none => exact List.length_replicate
  | some v => exact hL _ (lookup_mem hl)
theorem readB_eq {L : List (Int × List UInt8)} (hL : ∀ q ∈ L, q.2.length = 512) : ∀ (n a e : Nat), e - a ≤ n → readB L a e = (List.range' a (e - a)).map (byteAt L)
  | 0, a, e, h => by
    rw [readB, dif_neg (by omega), show e - a = 0 by omega]; rfl
  | n + 1, a, e, h => by
    rw [readB]
    by_cases hlt : a < e
    · rw [dif_pos hlt]
      have hm : a % 512 < 512 := Nat.mod_lt _ (by omega)
      rw [readB_eq hL n (a + min (512 - a % 512) (e - a)) e (by omega)]
      have hsp : List.range' a (e - a) = List.range' a (min (512 - a % 512) (e - a)) ++ List.range' (a + min (512 - a % 512) (e - a)) (e - (a + min (512 - a % 512) (e - a))) := by
        have := List.range'_append (s := a) (m := min (512 - a % 512) (e - a)) (n := e - (a + min (512 - a % 512) (e - a))) (step := 1)
        rw [Nat.one_mul] at this
        rw [this]; congr 1; omega
      rw [hsp, List.map_append]
      congr 1
      have hp := lookup_len hL ((a / 512 : Nat) : Int)
      apply List.ext_getElem?
      intro i
      rw [List.getElem?_take, List.getElem?_map, List.getElem?_drop]
      by_cases hi : i < min (512 - a % 512) (e - a)
      · rw [if_pos hi, List.getElem?_range' hi]
        simp only [Option.map_some, byteAt, Nat.one_mul]
        have h1 : (a + i) / 512 = a / 512 := by omega
        have h2 : (a + i) % 512 = a % 512 + i := by omega
        rw [h1, h2, List.getD_eq_getElem?_getD, List.getElem?_eq_getElem (by omega)]
        rfl
      · rw [if_neg hi, List.getElem?_eq_none (by simpa using hi)]; rfl
    · rw [dif_neg hlt, show e - a = 0 by omega]; rfl
theorem readB_range {L : List (Int × List UInt8)} (hL : ∀ q ∈ L, q.2.length = 512) (a e : Nat) : readB L a e = (List.range' a (e - a)).map (byteAt L) := readB_eq hL _ a e (Nat.le_refl _)
theorem readR_range {L : List (Int × List UInt8)} (hL : ∀ q ∈ L, q.2.length = 512) (sz off size : Nat) : readR L sz off size = (List.range' off (min size (sz - off))).map (byteAt L) := by
  unfold readR
  split
  · rename_i h; rw [show min size (sz - off) = 0 by omega]; rfl
  · rw [readB_range hL]; congr 2; omega
theorem range'_slice (a n k m : Nat) : ((List.range' a n).drop k).take m = List.range' (a + k) (min m (n - k)) := by
  apply List.ext_getElem?
  intro i
  rw [List.getElem?_take, List.getElem?_drop]
  by_cases hi : i < min m (n - k)
  · rw [if_pos (by omega), List.getElem?_range' (by omega), List.getElem?_range' hi]; congr 1; omega
  · rw [List.getElem?_eq_none (l := List.range' (a + k) _) (by simpa using hi)]
    split
    · rw [List.getElem?_eq_none (by simp; omega)]
    · rfl
/-- A piece of what was read is what is read there. -/
theorem readR_slice {L : List (Int × List UInt8)} (hL : ∀ q ∈ L, q.2.length = 512) (sz off size k m : Nat) (hk : k + m ≤ size) : ((readR L sz off size).drop k).take m = readR L sz (off + k) m := by
  rw [readR_range hL, readR_range hL, ← List.map_drop, ← List.map_take, range'_slice]
  congr 2; omega
theorem readR_length {L : List (Int × List UInt8)} (hL : ∀ q ∈ L, q.2.length = 512) (sz off size : Nat) : (readR L sz off size).length = min size (sz - off) := by
  rw [readR_range hL]; simp

/-- A piece's bytes, as far as the file goes. -/
def pieceR (L : List (Int × List UInt8)) (sz q : Nat) : List UInt8 := readR L sz (512 * q) 512
def allZero (l : List UInt8) : Bool := l.all (· == 0)
/-- The first pieces that are not all zeros. -/
def fillTo (L : List (Int × List UInt8)) (sz : Nat) : Nat → List (Nat × List UInt8)
  | 0 => []
  | q + 1 => if allZero (pieceR L sz q) = true then fillTo L sz q else fillTo L sz q ++ [(q, pieceR L sz q)]
theorem fillTo_len (L : List (Int × List UInt8)) (sz : Nat) : ∀ q, (fillTo L sz q).length ≤ q
  | 0 => Nat.le_refl _
  | q + 1 => by
    have := fillTo_len L sz q
    rw [fillTo]; split
    · omega
    · simp; omega
def fillN (sz : Nat) : Nat := (sz + 511) / 512
def pcsOf (l : List (Nat × List UInt8)) : List Int := l.map fun q => (q.1 : Int)
def dataOf (l : List (Nat × List UInt8)) : List UInt8 := l.flatMap (·.2)
theorem dataOf_snoc (l : List (Nat × List UInt8)) (q : Nat × List UInt8) : dataOf (l ++ [q]) = dataOf l ++ q.2 := by simp [dataOf]
theorem pcsOf_snoc (l : List (Nat × List UInt8)) (q : Nat × List UInt8) : pcsOf (l ++ [q]) = pcsOf l ++ [(q.1 : Int)] := by simp [pcsOf]
theorem dataOf_len {L : List (Int × List UInt8)} (hL : ∀ q ∈ L, q.2.length = 512) (sz : Nat) : ∀ q, (dataOf (fillTo L sz q)).length ≤ 512 * q
  | 0 => Nat.le_refl _
  | q + 1 => by
    have := dataOf_len hL sz q
    rw [fillTo]; split
    · omega
    · rw [dataOf_snoc, List.length_append]
      have h2 : (pieceR L sz q).length ≤ 512 := by rw [pieceR, readR_length hL]; omega
      show _ + (pieceR L sz q).length ≤ _
      omega
end
section
open Go Go.RowKit
open Go.ChangeMaps (setBlock)

set_option maxRecDepth 100000 in
set_option maxHeartbeats 2000000 in
theorem readPath_ok {w : World} {S : St} (h : Rep w S) (hw : S.Wf) (kind : Int) (path other : ByteArray) (off size : Nat) (data : ByteArray) (hp0 : path.size ≤ 9000000000000000000) {i : Int} (hF : fileR S path = (i, 0)) (hi : i ∈ S.keys)
    {b : Nat} {L : List (Int × List UInt8)} (hp : (S.nd i).pcs = some (b, L)) (sz : Nat) (hsz : (S.nd i).size = sz) (ho : off ≤ 9000000) (hs : size ≤ 16384) :
    Calls Tryz.prog 74 #[.pointer (some ⟨S.F, 0, none⟩), callV kind path other off size data] w fun e w' => e = .returned (.tuple #[.string ⟨(readR L sz off size).toArray⟩, .int .i64 0]) ∧ Keeps (fun _ => False) w w' := by
  have hsz2 : sz ≤ 8459264 := by have := (hw.sizes i hi).2; omega
  have HL := Lib.hid (hw.whole i hi b L hp)
  have HA := Lib.hid (And.intro hF (And.intro hp hsz))
  clear hF hp hsz
  unfold callV
  go_enter Tryz.func74, Tryz.ntmps74
  go_wp2_with fail
  obtain ⟨hF, hp, hsz⟩ := HA.out
  have hK1 : Keeps (fun _ => False) w (w.alloc (.cells #[.int .i64 kind, .string path, .string other, .int .i64 off, .int .i64 size, .string data] 52)) := (Keeps.refl _ _).alloc _
  have hb1 := Blk.new w #[.int .i64 kind, .string path, .string other, .int .i64 off, .int .i64 size, .string data] 52
  generalize w.alloc (.cells #[.int .i64 kind, .string path, .string other, .int .i64 off, .int .i64 size, .string data] 52) = w1 at *
  refine (file_any (h.keeps hK1 (fun _ _ x => x)) hw path hp0 _ hF).mono ?_
  rintro e w2 ⟨rfl, hk2⟩
  have hK2 := hK1.then hk2
  have hb2 := hb1.keeps hk2 (fun x => x)
  have c3 : w2.cell? ⟨w.heap.size, 3, none⟩ = some (.int .i64 off) := hb2.cell 3
  have c4 : w2.cell? ⟨w.heap.size, 4, none⟩ = some (.int .i64 size) := hb2.cell 4
  have hR2 := h.keeps hK2 (fun _ _ x => x)
  have hnd := (hR2.nds i hi)
  obtain ⟨N, hN⟩ : ∃ N, (S.nd i).blk = N := ⟨_, rfl⟩
  have HK := Lib.hid hK2
  have hat : ∀ W, (W.cell? ⟨w.heap.size, 3, none⟩ = some (.int .i64 off) ∧ W.cell? ⟨w.heap.size, 4, none⟩ = some (.int .i64 size) ∧ Keeps (fun _ => False) w W ∧ Blk W w.heap.size #[.int .i64 kind, .string path, .string other, .int .i64 off, .int .i64 size, .string data] 52) → Calls Tryz.prog 121 #[.pointer (some ⟨S.F, 0, none⟩), .int .i64 i] W fun e w' => e = .returned (.pointer (some ⟨N, 0, none⟩)) ∧ W = w' := by
    intro W hW
    refine (at_any (h.keeps hW.2.2.1 (fun _ _ x => x)) i).mono ?_
    rintro e w' ⟨rfl, rfl⟩
    rw [if_pos hi, ndPtr, hN]
    exact ⟨rfl, rfl⟩
  have hrd : ∀ W, (W.cell? ⟨w.heap.size, 3, none⟩ = some (.int .i64 off) ∧ W.cell? ⟨w.heap.size, 4, none⟩ = some (.int .i64 size) ∧ Keeps (fun _ => False) w W ∧ Blk W w.heap.size #[.int .i64 kind, .string path, .string other, .int .i64 off, .int .i64 size, .string data] 52) → Calls Tryz.prog 122 #[.pointer (some ⟨N, 0, none⟩), .int .i64 off, .int .i64 size] W fun e w' => e = .returned (.string ⟨(readR L sz off size).toArray⟩) ∧ (w'.cell? ⟨w.heap.size, 3, none⟩ = some (.int .i64 off) ∧ w'.cell? ⟨w.heap.size, 4, none⟩ = some (.int .i64 size) ∧ Keeps (fun _ => False) w w' ∧ Blk w' w.heap.size #[.int .i64 kind, .string path, .string other, .int .i64 off, .int .i64 size, .string data] 52) := by
    intro W hW
    refine (read_any ((h.keeps hW.2.2.1 (fun _ _ x => x)).nds i hi) hp HL.out N hN sz hsz hsz2 off size ho hs).mono ?_
    rintro e w' ⟨rfl, hk⟩
    have hb3 := hW.2.2.2.keeps hk (fun x => x)
    exact ⟨rfl, hb3.cell 3, hb3.cell 4, hW.2.2.1.then hk, hb3⟩
  have HAt := Lib.hid hat
  have HRd := Lib.hid hrd
  have HS0 := Lib.hid (show w2.drew.cell? ⟨w.heap.size, 3, none⟩ = some (.int .i64 off) ∧ w2.drew.cell? ⟨w.heap.size, 4, none⟩ = some (.int .i64 size) ∧ Keeps (fun _ => False) w w2.drew ∧ Blk w2.drew w.heap.size #[.int .i64 kind, .string path, .string other, .int .i64 off, .int .i64 size, .string data] 52 from ⟨hb2.cell 3, hb2.cell 4, hK2.drew, hb2.drew⟩)
  clear hF hp hsz hk2 hat hrd hK2 hb2 hR2 hnd hb1 hK1 hN
  go_wp2_with fail
  go_region_held3 (fun W => W.cell? ⟨w.heap.size, 3, none⟩ = some (.int .i64 off) ∧ W.cell? ⟨w.heap.size, 4, none⟩ = some (.int .i64 size) ∧ Keeps (fun _ => False) w W ∧ Blk W w.heap.size #[.int .i64 kind, .string path, .string other, .int .i64 off, .int .i64 size, .string data] 52)
    (first | exact HS0.out | assumption)
    (first | (go_at_call 121; refine (HAt.out _ (by assumption)).mono ?_; rintro e w' ⟨rfl, rfl⟩) | (go_at_call 122; refine (HRd.out _ (by assumption)).mono ?_; rintro e w3 ⟨rfl, hS3⟩))
  go_wp2_with fail
  go_ret2
  exact ⟨rfl, hS3.2.2.1⟩
end
end Go.Proofs.YtdafneilalompaaGreatDoor
