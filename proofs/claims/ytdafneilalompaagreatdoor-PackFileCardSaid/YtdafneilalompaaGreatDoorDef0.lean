/- What Tree defers: recover, where nothing panicked. Conditions: those that each theorem names. -/
import Derived.Test.YtdafneilalompaaGreatDoorPack4
import Derived.Recover
import Derived.Orders
namespace Go.Proofs.YtdafneilalompaaGreatDoor
open Go Go.RowKit
open Go.ChangeMaps (setBlock)

/-- All orders that a region's edges allow. -/
def allOrders (md : Region.Mode) (ops : Array Oper) : Nat → Array Bool → List (List Nat)
  | 0, _ => [[]]
  | fuel + 1, listed => if (Region.ready md ops listed).isEmpty then [[]] else (Region.ready md ops listed).flatMap fun i => (allOrders md ops fuel (listed.setIfInBounds i true)).map (i :: ·)
theorem linearise_mem (md : Region.Mode) (ops : Array Oper) : ∀ (fuel t : Nat) (listed : Array Bool), Region.linearise.go md ops fuel t listed [] ∈ allOrders md ops fuel listed := by
  intro fuel
  induction fuel with
  | zero => intro t listed; simp [Region.linearise.go, allOrders]
  | succ fuel ih =>
    intro t listed
    simp only [Region.linearise.go, allOrders]
    change (match (Region.ready md ops listed)[t % (Region.ready md ops listed).length]? with
      | some i => Region.linearise.go md ops fuel (t / (Region.ready md ops listed).length) (listed.setIfInBounds i true) [i]
      | none => [].reverse) ∈ _
    cases hi : (Region.ready md ops listed)[t % (Region.ready md ops listed).length]? with
    | none =>
      have hnil : Region.ready md ops listed = [] := by
        cases hr : Region.ready md ops listed with
        | nil => rfl
        | cons x xs =>
          rw [hr] at hi
          have hlt : t % (x :: xs).length < (x :: xs).length := Nat.mod_lt _ (by simp)
          simp at hi
          simp at hlt
          omega
      simp [hnil]
    | some i =>
      simp only []
      rw [linearise_go_acc, List.reverse_singleton, List.singleton_append]
      have hm := List.mem_of_getElem? hi
      have hne : (Region.ready md ops listed).isEmpty = false := by
        cases hr : Region.ready md ops listed with
        | nil => rw [hr] at hm; cases hm
        | cons x xs => rfl
      rw [hne]
      simp only [Bool.false_eq_true, if_false, List.mem_flatMap, List.mem_map]
      exact ⟨i, hm, _, ih _ _, rfl⟩
section
variable {P : Program} {Q : Exit → Act → List Frame → World → Prop} {a : Act} {cs : List Frame} {w : World} {id : Nat} {ops : Array Oper}
theorem wpS_region_draw (h : ∀ t, wpOpsS P ops Q (Region.schedule (P.follows .mixedOrders) ops t) a cs { w with drawn := w.drawn + 1 }) : (Code.region id ops true).wpS P Q a cs w := fun b k hb hr =>
  let ⟨e, a', cs', w', q, r⟩ := wp_opsS _ a cs _ (h _) b k hb hr
  ⟨e, a', cs', w', q, .of_steps (.one step_region_draw) r⟩
theorem wpS_region_two {l1 l2 : List Nat} (hm : P.follows .mixedOrders = true) (hall : allOrders .any ops ops.size (Array.replicate ops.size false) = [l1, l2]) (h1 : wpOpsS P ops Q l1 a cs w.drew) (h2 : wpOpsS P ops Q l2 a cs w.drew) : (Code.region id ops true).wpS P Q a cs w := by
  refine wpS_region_draw fun t => ?_
  have hmem : Region.schedule (P.follows .mixedOrders) ops t ∈ allOrders .any ops ops.size (Array.replicate ops.size false) := by
    simp only [Region.schedule, hm, Bool.true_or, if_true]
    exact linearise_mem .any ops ops.size t _
  rw [hall] at hmem
  simp only [List.mem_cons, List.not_mem_nil, or_false] at hmem
  rcases hmem with e | e <;> rw [e]
  · exact h1
  · exact h2
end

set_option maxRecDepth 100000 in
set_option maxHeartbeats 1000000 in
theorem caught_none (w : World) (e : Int) : Calls Tryz.prog 32 #[.nilIface, .int .i64 e] w fun e' w' => e' = .returned (.int .i64 e) ∧ w = w' := by
  have hnil : ∀ w, (binOp .eql 20 .nilIface .nilIface).run Tryz.prog w = .ok (.bool true) w := fun _ => by kernel_rfl
  go_enter Tryz.func32, Tryz.ntmps32
  go_wp2_with fail
  go_ret
  exact ⟨rfl, rfl⟩

set_option maxRecDepth 100000 in
set_option maxHeartbeats 1000000 in
theorem tree2_idle (b : Nat) (x : Int) (w : World) (hc : w.cell? ⟨b, 0, none⟩ = some (.int .i64 x)) (hz : w.frozen? ⟨b, 0, none⟩ = false) :
    CallsD Tryz.prog 31 #[.pointer (some ⟨b, 0, none⟩)] .returning w fun e u' w' => e = .returned (.tuple #[]) ∧ u' = .returning ∧ w' = w.drew.setCell ⟨b, 0, none⟩ (.int .i64 x) := by
  refine callsD_of_wpS Tryz.func31 rfl fun c₀ cs hu => ?_
  refine wpS_region_two (l1 := [0, 1, 2, 3]) (l2 := [1, 0, 2, 3]) (by kernel_rfl) (by kernel_rfl) ?_ ?_
  all_goals
    simp [wpOpsS, go_sem, recoverD, hu, Tryz.ntmps31, hc, hz]
    refine (caught_none _ _).mono ?_
    rintro e w' ⟨rfl, rfl⟩
    have hc2 : w.drew.cell? ⟨b, 0, none⟩ = some (.int .i64 x) := hc
    have hz2 : w.drew.frozen? ⟨b, 0, none⟩ = false := hz
    simp [wpOpsS, go_sem, hz2, hz, hc, hc2, bodyPostS, results]
    rw [← hu]

set_option maxRecDepth 100000 in
set_option maxHeartbeats 1000000 in
theorem tree1_idle (b c : Nat) (w : World) (hc : w.cell? ⟨b, 0, none⟩ = some (.int .i64 0)) :
    CallsD Tryz.prog 30 #[.pointer (some ⟨b, 0, none⟩), .pointer (some ⟨c, 0, none⟩)] .returning w fun e u' w' => u' = .returning ∧ (e = .returned (.tuple #[]) ∧ w' = w) := by
  go_enter_d Tryz.func30, Tryz.ntmps30
  go_wp2_with fail
  go_end0
  exact ⟨rfl, rfl⟩
end Go.Proofs.YtdafneilalompaaGreatDoor
