/- tell: stat, lstat, readlink of what a path leads to. Conditions: those that each theorem names. -/
import Derived.Test.YtdafneilalompaaGreatDoorReadA
import Derived.Test.YtdafneilalompaaGreatDoorKeys0
namespace Go.Proofs.YtdafneilalompaaGreatDoor
open Go Go.RowKit
open Go.ChangeMaps (setBlock)

set_option maxRecDepth 100000 in
set_option maxHeartbeats 2000000 in
theorem tell_lstat {w : World} {S : St} (h : Rep w S) (hw : S.Wf) (path other : ByteArray) (off size : Int) (data : ByteArray) (hp0 : path.size ≤ 9000000000000000000) (R : (List Int × ByteArray × Int) × Int) (hR : toR S path false = R) (hR2 : R.2 = 0) (n : Int) (hn : R.1.2.2 = n) (x : Nd) (hx : S.nd n = x) :
    Calls Tryz.prog 81 #[.pointer (some ⟨S.F, 0, none⟩), callV 13 path other off size data] w fun e w' => e = .returned (answV 0 0 ⟨#[]⟩ n x.kind x.links x.size x.takes (.slice none 0 0)) ∧ Keeps (fun _ => False) w w' := by
  have hin : n ∈ S.keys := by have := (toR_ok hw path false (by rw [hR]; exact hR2)).2; rw [hR, hn] at this; exact this
  have HA := Lib.hid (And.intro hR (And.intro hR2 (And.intro hn hx)))
  clear hR hR2 hn hx
  unfold callV
  go_enter Tryz.func81, Tryz.ntmps81
  go_wp2_with fail
  obtain ⟨hR, hR2, hn, hx⟩ := HA.out
  have hK1 : Keeps (fun _ => False) w ((w.alloc (.cells #[.int .i64 13, .string path, .string other, .int .i64 off, .int .i64 size, .string data] 52)).alloc (.cells (answC 0 0 ⟨#[]⟩ 0 0 0 0 0 (.slice none 0 0)) 49)) := ((Keeps.refl _ _).alloc _).alloc _
  have hc1 := (Blk.new w #[.int .i64 13, .string path, .string other, .int .i64 off, .int .i64 size, .string data] 52).alloc (.cells (answC 0 0 ⟨#[]⟩ 0 0 0 0 0 (.slice none 0 0)) 49)
  have ha1 := Blk.new' (w := w.alloc (.cells #[.int .i64 13, .string path, .string other, .int .i64 off, .int .i64 size, .string data] 52)) (n := w.heap.size + 1) (by simp) (answC 0 0 ⟨#[]⟩ 0 0 0 0 0 (.slice none 0 0)) 49
  refine (to_any (h.keeps hK1 (fun _ _ x => x)) hw path hp0 false R hR).mono ?_
  rintro e w2 ⟨v, rfl, ⟨cv, rfl, hrow⟩, hk2⟩
  obtain ⟨a, c, rfl⟩ := ownsRow_form hrow
  rw [hR2, hn]
  have hK3 := (hK1.then hk2).alloc (.cells #[.slice a R.1.1.length c, .string R.1.2.1, .int .i64 n] 201)
  have hc3 := (hc1.keeps hk2 (fun x => x)).alloc (.cells #[.slice a R.1.1.length c, .string R.1.2.1, .int .i64 n] 201)
  have ha3 := (ha1.keeps hk2 (fun x => x)).alloc (.cells #[.slice a R.1.1.length c, .string R.1.2.1, .int .i64 n] 201)
  have hsz := hk2.size
  have hS3 := h.keeps hK3 (fun _ _ x => x)
  have hnd := hS3.nds n hin
  rw [hx] at hnd
  have hxw := hw.nds n hin
  rw [hx] at hxw
  have hc := hc3.cell 0
  have HX := Lib.hid (And.intro hx (And.intro hc3 (And.intro ha3 hK3)))
  clear hR hR2 hn hx hrow hc1 ha1 hK1 hK3 hk2 hc3 ha3
  go_wp2_with (first | (go_at_call 121; refine (at_any hS3 n).mono ?_; rintro e w' ⟨rfl, rfl⟩; rw [if_pos hin, HX.out.1]; simp only [ndPtr]) | fail)
  obtain ⟨hx, hc3, ha3, hK3⟩ := HX.out
  refine (stat_any hnd hxw n).mono ?_
  rintro e w3 ⟨rfl, hk4⟩
  have ha4 : Blk w3 (w.heap.size + 1) _ 49 := ha3.keeps hk4 (fun x => x)
  have hK4 := hK3.then hk4
  have hca := ha4.cell
  have hfa := ha4.frz
  have hla := ha4.lt
  have HX2 := Lib.hid (And.intro ha4 hK4)
  unfold answC at hca
  unfold statV
  clear hx hc3 ha3 hK3 ha4 hK4 hk4 hS3 hnd hxw hc
  go_wp2_with fail
  obtain ⟨ha4, hK4⟩ := HX2.out
  have hb5 : Blk (((((w3.setCell ⟨w.heap.size + 1, 3, none⟩ (.int .i64 n)).setCell ⟨w.heap.size + 1, 4, none⟩ (.int .i64 x.kind)).setCell ⟨w.heap.size + 1, 5, none⟩ (.int .i64 x.links)).setCell ⟨w.heap.size + 1, 6, none⟩ (.int .i64 x.size)).setCell ⟨w.heap.size + 1, 7, none⟩ (.int .i64 x.takes)) (w.heap.size + 1) (answC 0 0 ⟨#[]⟩ n x.kind x.links x.size x.takes (.slice none 0 0)) 49 := ((((ha4.set 3 _).set 4 _).set 5 _).set 6 _).set 7 _
  refine answ_end rfl (w.heap.size + 1) 0 0 ⟨#[]⟩ n x.kind x.links x.size x.takes (.slice none 0 0) hb5 _ rfl ⟨rfl, ?_⟩
  exact ((((hK4.setCell (p := ⟨w.heap.size + 1, 3, none⟩) (Or.inr (Nat.le_succ _)) _).setCell (p := ⟨w.heap.size + 1, 4, none⟩) (Or.inr (Nat.le_succ _)) _).setCell (p := ⟨w.heap.size + 1, 5, none⟩) (Or.inr (Nat.le_succ _)) _).setCell (p := ⟨w.heap.size + 1, 6, none⟩) (Or.inr (Nat.le_succ _)) _).setCell (p := ⟨w.heap.size + 1, 7, none⟩) (Or.inr (Nat.le_succ _)) _
set_option maxRecDepth 100000 in
set_option maxHeartbeats 2000000 in
theorem tell_stat {w : World} {S : St} (h : Rep w S) (hw : S.Wf) (path other : ByteArray) (off size : Int) (data : ByteArray) (hp0 : path.size ≤ 9000000000000000000) (R : (List Int × ByteArray × Int) × Int) (hR : toR S path true = R) (hR2 : R.2 = 0) (n : Int) (hn : R.1.2.2 = n) (x : Nd) (hx : S.nd n = x) :
    Calls Tryz.prog 81 #[.pointer (some ⟨S.F, 0, none⟩), callV 12 path other off size data] w fun e w' => e = .returned (answV 0 0 ⟨#[]⟩ n x.kind x.links x.size x.takes (.slice none 0 0)) ∧ Keeps (fun _ => False) w w' := by
  have hin : n ∈ S.keys := by have := (toR_ok hw path true (by rw [hR]; exact hR2)).2; rw [hR, hn] at this; exact this
  have HA := Lib.hid (And.intro hR (And.intro hR2 (And.intro hn hx)))
  clear hR hR2 hn hx
  unfold callV
  go_enter Tryz.func81, Tryz.ntmps81
  go_wp2_with fail
  obtain ⟨hR, hR2, hn, hx⟩ := HA.out
  have hK1 : Keeps (fun _ => False) w ((w.alloc (.cells #[.int .i64 12, .string path, .string other, .int .i64 off, .int .i64 size, .string data] 52)).alloc (.cells (answC 0 0 ⟨#[]⟩ 0 0 0 0 0 (.slice none 0 0)) 49)) := ((Keeps.refl _ _).alloc _).alloc _
  have hc1 := (Blk.new w #[.int .i64 12, .string path, .string other, .int .i64 off, .int .i64 size, .string data] 52).alloc (.cells (answC 0 0 ⟨#[]⟩ 0 0 0 0 0 (.slice none 0 0)) 49)
  have ha1 := Blk.new' (w := w.alloc (.cells #[.int .i64 12, .string path, .string other, .int .i64 off, .int .i64 size, .string data] 52)) (n := w.heap.size + 1) (by simp) (answC 0 0 ⟨#[]⟩ 0 0 0 0 0 (.slice none 0 0)) 49
  refine (to_any (h.keeps hK1 (fun _ _ x => x)) hw path hp0 true R hR).mono ?_
  rintro e w2 ⟨v, rfl, ⟨cv, rfl, hrow⟩, hk2⟩
  obtain ⟨a, c, rfl⟩ := ownsRow_form hrow
  rw [hR2, hn]
  have hK3 := (hK1.then hk2).alloc (.cells #[.slice a R.1.1.length c, .string R.1.2.1, .int .i64 n] 201)
  have hc3 := (hc1.keeps hk2 (fun x => x)).alloc (.cells #[.slice a R.1.1.length c, .string R.1.2.1, .int .i64 n] 201)
  have ha3 := (ha1.keeps hk2 (fun x => x)).alloc (.cells #[.slice a R.1.1.length c, .string R.1.2.1, .int .i64 n] 201)
  have hsz := hk2.size
  have hS3 := h.keeps hK3 (fun _ _ x => x)
  have hnd := hS3.nds n hin
  rw [hx] at hnd
  have hxw := hw.nds n hin
  rw [hx] at hxw
  have hc := hc3.cell 0
  have HX := Lib.hid (And.intro hx (And.intro hc3 (And.intro ha3 hK3)))
  clear hR hR2 hn hx hrow hc1 ha1 hK1 hK3 hk2 hc3 ha3
  go_wp2_with (first | (go_at_call 121; refine (at_any hS3 n).mono ?_; rintro e w' ⟨rfl, rfl⟩; rw [if_pos hin, HX.out.1]; simp only [ndPtr]) | fail)
  obtain ⟨hx, hc3, ha3, hK3⟩ := HX.out
  refine (stat_any hnd hxw n).mono ?_
  rintro e w3 ⟨rfl, hk4⟩
  have ha4 : Blk w3 (w.heap.size + 1) _ 49 := ha3.keeps hk4 (fun x => x)
  have hK4 := hK3.then hk4
  have hca := ha4.cell
  have hfa := ha4.frz
  have hla := ha4.lt
  have HX2 := Lib.hid (And.intro ha4 hK4)
  unfold answC at hca
  unfold statV
  clear hx hc3 ha3 hK3 ha4 hK4 hk4 hS3 hnd hxw hc
  go_wp2_with fail
  obtain ⟨ha4, hK4⟩ := HX2.out
  have hb5 : Blk (((((w3.setCell ⟨w.heap.size + 1, 3, none⟩ (.int .i64 n)).setCell ⟨w.heap.size + 1, 4, none⟩ (.int .i64 x.kind)).setCell ⟨w.heap.size + 1, 5, none⟩ (.int .i64 x.links)).setCell ⟨w.heap.size + 1, 6, none⟩ (.int .i64 x.size)).setCell ⟨w.heap.size + 1, 7, none⟩ (.int .i64 x.takes)) (w.heap.size + 1) (answC 0 0 ⟨#[]⟩ n x.kind x.links x.size x.takes (.slice none 0 0)) 49 := ((((ha4.set 3 _).set 4 _).set 5 _).set 6 _).set 7 _
  refine answ_end rfl (w.heap.size + 1) 0 0 ⟨#[]⟩ n x.kind x.links x.size x.takes (.slice none 0 0) hb5 _ rfl ⟨rfl, ?_⟩
  exact ((((hK4.setCell (p := ⟨w.heap.size + 1, 3, none⟩) (Or.inr (Nat.le_succ _)) _).setCell (p := ⟨w.heap.size + 1, 4, none⟩) (Or.inr (Nat.le_succ _)) _).setCell (p := ⟨w.heap.size + 1, 5, none⟩) (Or.inr (Nat.le_succ _)) _).setCell (p := ⟨w.heap.size + 1, 6, none⟩) (Or.inr (Nat.le_succ _)) _).setCell (p := ⟨w.heap.size + 1, 7, none⟩) (Or.inr (Nat.le_succ _)) _
set_option maxRecDepth 100000 in
set_option maxHeartbeats 2000000 in
theorem tell_readlink {w : World} {S : St} (h : Rep w S) (hw : S.Wf) (path other : ByteArray) (off size : Int) (data : ByteArray) (hp0 : path.size ≤ 9000000000000000000) (R : (List Int × ByteArray × Int) × Int) (hR : toR S path false = R) (hR2 : R.2 = 0) (n : Int) (hn : R.1.2.2 = n) (x : Nd) (hx : S.nd n = x) (hk : x.kind = 3) :
    Calls Tryz.prog 81 #[.pointer (some ⟨S.F, 0, none⟩), callV 11 path other off size data] w fun e w' => e = .returned (answV 0 0 x.text 0 0 0 0 0 (.slice none 0 0)) ∧ Keeps (fun _ => False) w w' := by
  have hin : n ∈ S.keys := by have := (toR_ok hw path false (by rw [hR]; exact hR2)).2; rw [hR, hn] at this; exact this
  have HA := Lib.hid (And.intro hR (And.intro hR2 (And.intro hn (And.intro hx hk))))
  clear hR hR2 hn hx hk
  unfold callV
  go_enter Tryz.func81, Tryz.ntmps81
  go_wp2_with fail
  obtain ⟨hR, hR2, hn, hx, hk⟩ := HA.out
  have hK1 : Keeps (fun _ => False) w ((w.alloc (.cells #[.int .i64 11, .string path, .string other, .int .i64 off, .int .i64 size, .string data] 52)).alloc (.cells (answC 0 0 ⟨#[]⟩ 0 0 0 0 0 (.slice none 0 0)) 49)) := ((Keeps.refl _ _).alloc _).alloc _
  have hc1 := (Blk.new w #[.int .i64 11, .string path, .string other, .int .i64 off, .int .i64 size, .string data] 52).alloc (.cells (answC 0 0 ⟨#[]⟩ 0 0 0 0 0 (.slice none 0 0)) 49)
  have ha1 := Blk.new' (w := w.alloc (.cells #[.int .i64 11, .string path, .string other, .int .i64 off, .int .i64 size, .string data] 52)) (n := w.heap.size + 1) (by simp) (answC 0 0 ⟨#[]⟩ 0 0 0 0 0 (.slice none 0 0)) 49
  refine (to_any (h.keeps hK1 (fun _ _ x => x)) hw path hp0 false R hR).mono ?_
  rintro e w2 ⟨v, rfl, ⟨cv, rfl, hrow⟩, hk2⟩
  obtain ⟨a, c, rfl⟩ := ownsRow_form hrow
  rw [hR2, hn]
  have hK3 := (hK1.then hk2).alloc (.cells #[.slice a R.1.1.length c, .string R.1.2.1, .int .i64 n] 201)
  have hc3 := (hc1.keeps hk2 (fun x => x)).alloc (.cells #[.slice a R.1.1.length c, .string R.1.2.1, .int .i64 n] 201)
  have ha3 := (ha1.keeps hk2 (fun x => x)).alloc (.cells #[.slice a R.1.1.length c, .string R.1.2.1, .int .i64 n] 201)
  have hsz := hk2.size
  have hS3 := h.keeps hK3 (fun _ _ x => x)
  have hnd := hS3.nds n hin
  rw [hx] at hnd
  have hc0 : (w2.alloc (.cells #[.slice a R.1.1.length c, .string R.1.2.1, .int .i64 n] 201)).cell? ⟨x.blk, 0, none⟩ = some (.int .i64 3) := by rw [hnd.blk.cell]; simp [Nd.cells, hk]
  have hc6 : (w2.alloc (.cells #[.slice a R.1.1.length c, .string R.1.2.1, .int .i64 n] 201)).cell? ⟨x.blk, 6, none⟩ = some (.string x.text) := by rw [hnd.blk.cell]; simp [Nd.cells]
  have hc := hc3.cell 0
  have hca := ha3.cell
  have hfa := ha3.frz
  have hla := ha3.lt
  have HX := Lib.hid (And.intro hx (And.intro ha3 hK3))
  unfold answC at hca
  clear hR hR2 hn hx hk hrow hc1 ha1 hK1 hK3 hk2 hc3 ha3 hnd
  go_wp2_with (first | (go_at_call 121; refine (at_any hS3 n).mono ?_; rintro e w' ⟨rfl, rfl⟩; rw [if_pos hin, HX.out.1]; simp only [ndPtr]) | fail)
  obtain ⟨hx, ha3, hK3⟩ := HX.out
  refine answ_end rfl (w.heap.size + 1) 0 0 x.text 0 0 0 0 0 (.slice none 0 0) (ha3.set 2 (.string x.text)) _ rfl ⟨rfl, hK3.setCell (p := ⟨w.heap.size + 1, 2, none⟩) (Or.inr (Nat.le_succ _)) _⟩
set_option maxRecDepth 100000 in
set_option maxHeartbeats 2000000 in
theorem tell_readdir {w : World} {S : St} (h : Rep w S) (hw : S.Wf) (path other : ByteArray) (off size : Int) (data : ByteArray) (hp0 : path.size ≤ 9000000000000000000) (R : (List Int × ByteArray × Int) × Int) (hR : toR S path true = R) (hR2 : R.2 = 0) (n : Int) (hn : R.1.2.2 = n) (x : Nd) (hx : S.nd n = x) (hk : x.kind = 2) {b : Nat} {L : List (ByteArray × Int)} (hnm : x.nms = some (b, L)) (hns : ∀ p ∈ L, p.1.size ≤ 1000000) :
    Calls Tryz.prog 81 #[.pointer (some ⟨S.F, 0, none⟩), callV 14 path other off size data] w fun e w' => ∃ na c, e = .returned (answV 0 0 ⟨#[]⟩ 0 0 0 0 0 (.slice na L.length c)) ∧ NewStrs w w' (.slice na L.length c) (sortB (L.map (·.1))) ∧ Keeps (fun _ => False) w w' := by
  have hin : n ∈ S.keys := by have := (toR_ok hw path true (by rw [hR]; exact hR2)).2; rw [hR, hn] at this; exact this
  have HA := Lib.hid (And.intro hR (And.intro hR2 (And.intro hn (And.intro hx (And.intro hk hnm)))))
  have hLl : L.length ≤ 1000000 := by
    have h1 := hw.room n hin b L (by rw [hx]; exact hnm)
    have h2 := (hw.nds n hin).kind
    rw [hx] at h1 h2
    omega
  clear hR hR2 hn hx hk hnm
  unfold callV
  go_enter Tryz.func81, Tryz.ntmps81
  go_wp2_with fail
  obtain ⟨hR, hR2, hn, hx, hk, hnm⟩ := HA.out
  have hK1 : Keeps (fun _ => False) w ((w.alloc (.cells #[.int .i64 14, .string path, .string other, .int .i64 off, .int .i64 size, .string data] 52)).alloc (.cells (answC 0 0 ⟨#[]⟩ 0 0 0 0 0 (.slice none 0 0)) 49)) := ((Keeps.refl _ _).alloc _).alloc _
  have hc1 := (Blk.new w #[.int .i64 14, .string path, .string other, .int .i64 off, .int .i64 size, .string data] 52).alloc (.cells (answC 0 0 ⟨#[]⟩ 0 0 0 0 0 (.slice none 0 0)) 49)
  have ha1 := Blk.new' (w := w.alloc (.cells #[.int .i64 14, .string path, .string other, .int .i64 off, .int .i64 size, .string data] 52)) (n := w.heap.size + 1) (by simp) (answC 0 0 ⟨#[]⟩ 0 0 0 0 0 (.slice none 0 0)) 49
  refine (to_any (h.keeps hK1 (fun _ _ x => x)) hw path hp0 true R hR).mono ?_
  rintro e w2 ⟨v, rfl, ⟨cv, rfl, hrow⟩, hk2⟩
  obtain ⟨a, c, rfl⟩ := ownsRow_form hrow
  rw [hR2, hn]
  have hK3 := (hK1.then hk2).alloc (.cells #[.slice a R.1.1.length c, .string R.1.2.1, .int .i64 n] 201)
  have hc3 := (hc1.keeps hk2 (fun x => x)).alloc (.cells #[.slice a R.1.1.length c, .string R.1.2.1, .int .i64 n] 201)
  have ha3 := (ha1.keeps hk2 (fun x => x)).alloc (.cells #[.slice a R.1.1.length c, .string R.1.2.1, .int .i64 n] 201)
  have hsz := hk2.size
  have hS3 := h.keeps hK3 (fun _ _ x => x)
  have hnd := hS3.nds n hin
  rw [hx] at hnd
  have hmp := (hnd.nms b L hnm).1
  have hc0 := hnd.blk.cell 0
  have hk2' : x.cells[0]? = some (.int .i64 2) := by simp [Nd.cells, hk]
  have hc4 : (w2.alloc (.cells #[.slice a R.1.1.length c, .string R.1.2.1, .int .i64 n] 201)).cell? ⟨x.blk, 4, none⟩ = some (.map (some b)) := by rw [hnd.blk.cell]; simp [Nd.cells, hnm]
  rw [hk2'] at hc0
  have hc := hc3.cell 0
  have hK1s := (hK1.then hk2).size
  have HMP := Lib.hid hmp
  have HX := Lib.hid (And.intro hx (And.intro ha3 hK3))
  clear hR hR2 hn hx hk hnm hrow hc1 ha1 hK1 hK3 hk2 hc3 ha3 hnd hk2' hmp
  go_wp2_with (first | (go_at_call 121; refine (at_any hS3 n).mono ?_; rintro e w' ⟨rfl, rfl⟩; rw [if_pos hin, HX.out.1]; simp only [ndPtr]) | (go_at_call 129; refine (isDir_any _ _ _ hc0).mono ?_; rintro e w' ⟨rfl, rfl⟩) | (go_at_call 144; refine (keys_any _ _).mono ?_; rintro e w' ⟨rfl, rfl⟩) | fail)
  have hso := sorted_any HMP.out (fun p hp => by obtain ⟨q, hq, rfl⟩ := List.mem_map.1 hp; have := hns q hq; unfold maxLen; show q.1.size ≤ _; omega) (by rw [List.length_map]; exact hLl)
  simp only [World.size_alloc, List.length_map, List.map_map] at hso
  refine hso.mono ?_
  rintro e w4 ⟨v, rfl, hrow, _, hk4⟩
  obtain ⟨na, c5, rfl⟩ := ownsRow_form hrow
  obtain ⟨hx, ha3, hK3⟩ := HX.out
  have ha4 : Blk w4 (w.heap.size + 1) _ 49 := ha3.keeps hk4 (fun x => x)
  have hK4 := hK3.then hk4
  have hca := ha4.cell
  have hfa := ha4.frz
  have hla := ha4.lt
  have hsz4 := hk4.size
  have hns2 : NewStrs w w4 (.slice na L.length c5) (sortB (L.map (·.1))) := by
    unfold NewStrs
    rw [sortB_length, List.length_map]
    refine ownsRow_rebase hrow (fun g hg => ?_)
    have := (ownsRow_base hrow hg).1
    have := hK1s
    omega
  have HX2 := Lib.hid (And.intro ha4 (And.intro hK4 hns2))
  unfold answC at hca
  clear hx ha3 hK3 hk4 ha4 hK4 hrow hns2 hso
  go_wp2_with fail
  obtain ⟨ha4, hK4, hns2⟩ := HX2.out
  have hne := ownsRow_type hns2 ha4 (by decide)
  refine answ_end rfl (w.heap.size + 1) 0 0 ⟨#[]⟩ 0 0 0 0 0 (.slice na L.length c5) (ha4.set 8 _) _ rfl ⟨na, c5, rfl, ?_, hK4.setCell (p := ⟨w.heap.size + 1, 8, none⟩) (Or.inr (Nat.le_succ _)) _⟩
  exact ownsRow_keep hns2 (fun g hg => Below.heap_setCell _ _ _ _ (fun (e : g = w.heap.size + 1) => hne (e ▸ hg)))
end Go.Proofs.YtdafneilalompaaGreatDoor
