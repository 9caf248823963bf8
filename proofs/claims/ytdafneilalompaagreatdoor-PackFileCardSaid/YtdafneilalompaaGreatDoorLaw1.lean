/- The law's made, of the case that PackFile takes. Conditions: those that each theorem names. -/
import Derived.Test.YtdafneilalompaaGreatDoorPlain2
namespace Go.Proofs.YtdafneilalompaaGreatDoor
open Go Go.RowKit
open Go.ChangeMaps (setBlock)

set_option maxRecDepth 100000 in
set_option maxHeartbeats 4000000 in
theorem made_ok (w : World) : Calls Tryz.prog 7 #[.agg #[.int .i64 79, .slice none 0 0]] w fun e w' => ∃ F M bR bN B, e = .returned (.pointer (some ⟨F, 0, none⟩)) ∧ w.heap.size ≤ F ∧ w.heap.size ≤ M ∧ w.heap.size ≤ bR ∧ w.heap.size ≤ bN ∧ Rep w' (newSt F M bR bN 207 3 B) ∧ Keeps (fun _ => False) w w' := by
  go_enter Tryz.func7, Tryz.ntmps7
  go_wp2_with fail
  have k1 : Keeps (fun _ => False) w (w.alloc (.cells #[.int .i64 79, .slice none 0 0] 24)) := (Keeps.refl _ _).alloc _
  have b1 := Blk.new w #[.int .i64 79, .slice none 0 0] 24
  have z1 : w.heap.size ≤ (w.alloc (.cells #[.int .i64 79, .slice none 0 0] 24)).heap.size := k1.size
  generalize w.alloc (.cells #[.int .i64 79, .slice none 0 0] 24) = w1 at k1 b1 z1 ⊢
  refine (New_ok w1 207 3 (by decide) (by decide) (by decide)).mono ?_
  rintro e w2 ⟨F, M, bR, bN, rfl, hF, hM, hR, hN, hrep, k2⟩
  have b2 := b1.keeps k2 (fun x => x)
  have hw := new_wf F M bR bN w2.heap.size
  have hdd := do_readdir hrep hw pR ⟨#[]⟩ ⟨#[]⟩ (by decide) 0 0 _ rfl (by rw [to_root]) 1 (by rw [to_root]) _ rfl rfl (b := bN) (L := []) rfl (fun p hp => by cases hp)
  unfold callV at hdd
  have HDD := Lib.hid hdd
  have HX := Lib.hid (And.intro (Nat.le_trans z1 hF) (And.intro (Nat.le_trans z1 hM) (And.intro (Nat.le_trans z1 hR) (And.intro (Nat.le_trans z1 hN) (And.intro hrep (And.intro (k1.then k2) b2))))))
  clear hdd hF hM hR hN hrep k1 k2 b1 b2
  go_wp2_with fail
  refine HDD.out.mono ?_
  rintro e w3 ⟨na, nn, nc, rfl, ht⟩
  have hnn : nn = 0 := by
    have hrow := ht.row
    unfold NewStrs at hrow
    obtain ⟨a, c, e⟩ := ownsRow_form hrow
    simp [sortB_length] at e
    exact e.2.1
  subst hnn
  obtain ⟨hF, hM, hR, hN, hrep, k2, b2⟩ := HX.out
  have hrep3 := (hrep.keeps ht.keeps (fun _ _ x => x)).alloc (.cells (answC 0 0 ⟨#[]⟩ 0 0 0 0 0 (.slice na 0 nc)) 49)
  have k3 := (k2.then ht.keeps).alloc (.cells (answC 0 0 ⟨#[]⟩ 0 0 0 0 0 (.slice na 0 nc)) 49)
  have b3 := (b2.keeps ht.keeps (fun x => x)).alloc (.cells (answC 0 0 ⟨#[]⟩ 0 0 0 0 0 (.slice na 0 nc)) 49)
  have a3 := Blk.new w3 (answC 0 0 ⟨#[]⟩ 0 0 0 0 0 (.slice na 0 nc)) 49
  have hds := do_stat hrep3 hw pR ⟨#[]⟩ ⟨#[]⟩ (by decide) 0 0 _ rfl (by rw [to_root]) 1 (by rw [to_root]) _ rfl
  unfold callV at hds
  have HDS := Lib.hid hds
  have HY := Lib.hid (And.intro hrep3 (And.intro k3 (And.intro b3 a3)))
  clear hF hM hR hN hrep k2 b2 hrep3 k3 b3 a3 hds ht
  unfold answV answC
  go_wp2_with fail
  refine HDS.out.mono ?_
  rintro e w4 ⟨na4, nn4, nc4, rfl, ht4⟩
  obtain ⟨hrep3, k3, b3, a3⟩ := HY.out
  have hrep4 := hrep3.keeps ht4.keeps (fun _ _ x => x)
  have k4 := k3.then ht4.keeps
  have b4 := b3.keeps ht4.keeps (fun x => x)
  have a4 := a3.keeps ht4.keeps (fun x => x)
  have hca := a4.cell
  have hla := a4.lt
  have hcb : w4.cell? ⟨w.heap.size, 1, none⟩ = some (.slice none 0 0) := b4.cell 1
  have hlb := b4.lt
  have hzl := k4.size
  have HZ := Lib.hid (And.intro hrep4 (And.intro k4 b4))
  unfold answC at hca
  clear hrep3 k3 b3 a3 hrep4 k4 b4 a4 ht4
  unfold answV answC
  go_wp2_with fail
  clear hca hcb
  go_loopg [8] 0 (fun k p wr => p = .int .i64 0 ∧ Rep wr (newSt F M bR bN 207 3 w2.heap.size) ∧ Keeps (fun _ => False) w wr ∧ Blk wr w.heap.size #[.int .i64 79, .slice none 0 0] 24)
  case atStart => exact ⟨rfl, HZ.out.1.alloc _, HZ.out.2.1.alloc _, HZ.out.2.2.alloc _⟩
  case round =>
    obtain ⟨rfl, hrep, hk, hb⟩ := hrel
    have hc : wr.cell? ⟨w.heap.size, 1, none⟩ = some (.slice none 0 0) := hb.cell 1
    have HW := Lib.hid (And.intro hrep hk)
    clear hrep hk hb
    go_wp2_with fail
    go_ret
    obtain ⟨hF, hM, hR, hN, _⟩ := HX.out
    exact ⟨F, M, bR, bN, w2.heap.size, rfl, hF, hM, hR, hN, HW.out.1, HW.out.2⟩
end Go.Proofs.YtdafneilalompaaGreatDoor
