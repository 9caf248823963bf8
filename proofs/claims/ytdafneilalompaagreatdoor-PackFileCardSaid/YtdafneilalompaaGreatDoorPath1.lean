/- The iterator over the pieces of a path: its contract. Conditions: those that each theorem names. -/
import Derived.Test.YtdafneilalompaaGreatDoorPath0
import Derived.RangeFuncFrom
import Derived.RangeFuncLeaves
import Derived.Shelf.Abstract
import Derived.OwnWalkIn
import Derived.TacticsInMore
import Derived.LoopNIn
import Derived.LoopIn
import Derived.Sort.LoopGhostIn
namespace Go.Proofs.YtdafneilalompaaGreatDoor
open Go Go.RowKit Go.Shelf

attribute [local go_sem] Oper.semAt_some

/-- The text's box stays. -/
def KeepBox (bS : Nat) (A B : World) : Prop := ob B bS = ob A bS

set_option maxRecDepth 100000 in
set_option maxHeartbeats 1000000 in
theorem pieces1_in (n : Nat) (hn : 1 ≤ n) (l bS : Nat) (s : ByteArray) (hs : s.size ≤ 9000000000000000000) (J Jx : List ByteArray → World → Prop)
    (hY : ∀ pre x W, J pre W → pre.length < (piecesOf s).length → YieldAt Fence.wide (n - 1) Tryz.prog l #[.string x] W fun e W' =>
      (e = .returned (.bool true) ∧ J (pre ++ [x]) W' ∧ KeepBox bS W W') ∨ (e = .returned (.bool false) ∧ Jx (pre ++ [x]) W'))
    (W : World) (hc : W.cell? ⟨bS, 0, none⟩ = some (.string s)) (h0 : J [] W) :
    CallsIn Fence.wide n Tryz.prog 232 #[.func (.yield l) #[] #[], .pointer (some ⟨bS, 0, none⟩)] W fun e W' => (∃ v, e = .returned v) ∧
      ((∃ ys, ys = piecesOf s ∧ J ys W') ∨ (∃ pre, pre <+: piecesOf s ∧ Jx pre W')) := by
  refine callsIn_of_wp Tryz.func232 rfl trivial ?_ rfl
  simp only [Tryz.ntmps232, List.size_toArray, List.length_cons, List.length_nil, Nat.reduceAdd, Nat.reduceSub, Array.replicate_succ, Array.replicate_zero, List.push_toArray, List.append_toArray, List.nil_append, List.cons_append]
  gi_wp2
  gi_loopg [3] (s.size + 1) (fun k p wr => ∃ (pre : List ByteArray) (a : Nat), p = .int .i64 a ∧ a ≤ s.size ∧ k = s.size + 1 - a ∧ piecesOf s = pre ++ rest s a ∧ J pre wr ∧ ob wr bS = ob W bS)
  case atStart => exact ⟨[], 0, rfl, by omega, rfl, rfl, h0, rfl⟩
  case round =>
    obtain ⟨pre, a, rfl, ha, hgk, hx, hJ, hob⟩ := hrel
    have hcr : wr.cell? ⟨bS, 0, none⟩ = some (.string s) := (World.cell?_of_block (w := W) (show wr.heap[bS]? = W.heap[bS]? from hob)).trans hc
    have HA := Lib.hid hgk
    have HX := Lib.hid hx
    have HO := Lib.hid hob
    clear hgk hx hob
    by_cases has : a < s.size
    · by_cases hch : isCh s a = true
      · have h47 : ((s[a].toNat : Int) == 47) = false := by
          rw [isCh_int has] at hch
          simpa using hch
        have HC := Lib.hid hch
        clear hch
        gi_wp2
        gi_loopg [4] (s.size + 1 - a) (fun k q w2 => ∃ e : Nat, q = .int .i64 e ∧ a ≤ e ∧ e ≤ s.size ∧ k = s.size + 1 - e ∧ Hid (endAt s (s.size - e) e = endAt s (s.size - a) a) ∧ w2 = wr)
        case atStart => exact ⟨a, rfl, by omega, by omega, rfl, Lib.hid rfl, rfl⟩
        case round =>
          obtain ⟨e, rfl, hae, hes, hgk, HE, rfl⟩ := hrel
          have HB := Lib.hid hgk
          clear hgk
          by_cases hce : isCh s e = true
          · have hes2 : e < s.size := by simp [isCh] at hce; exact hce.1
            have h47e : ((s[e].toNat : Int) != 47) = true := by rw [isCh_int hes2] at hce; exact hce
            have hE2 := Lib.hid ((endAt_step s (s.size - e) e (by omega) hce).symm.trans HE.out)
            clear hce
            gi_wp2
            gi_roundg (s.size + 1 - (e + 1))
            case measure => rw [HB.out]; omega
            case rel => exact ⟨e + 1, by go_num, by omega, by omega, rfl, Lib.hid (by rw [← hE2.out]; congr 1), rfl⟩
          · have HEe : Hid (e = endAt s (s.size - a) a) := Lib.hid (by
              rw [← HE.out]
              cases hn : s.size - e with
              | zero => rfl
              | succ m => rw [endAt, if_neg hce])
            have hgt : a < e := by
              have h1 : a < endAt s (s.size - a) a := by
                cases hn : s.size - a with
                | zero => omega
                | succ j => exact endAt_gt s HC.out
              have h2 := HEe.out
              omega
            obtain ⟨fn, tmps, assign, body, hy, hR⟩ := hY pre (s.extract a e) wr hJ (by rw [HX.out, rest_piece has HC.out]; simp)
            by_cases hes2 : e < s.size
            · have h47e : ((s[e].toNat : Int) != 47) = false := by rw [isCh_int hes2] at hce; simpa using hce
              clear hce
              gi_wp2
              refine hR.mono ?_
              rintro e' W3 (⟨rfl, hJ3, hk3⟩ | ⟨rfl, hJx3⟩)
              · gi_wp2
                gi_roundg (s.size + 1 - e)
                case measure => rw [HA.out]; omega
                case rel => exact ⟨pre ++ [s.extract a e], e, rfl, hes, rfl, by rw [HX.out, rest_piece has HC.out, ← HEe.out]; simp, hJ3, (show ob W3 bS = ob wr bS from hk3).trans HO.out⟩
              · gi_wp2
                refine bodyPost_ret (results_none rfl _ _ _) rfl ?_
                exact ⟨⟨_, rfl⟩, .inr ⟨pre ++ [s.extract a e], ⟨rest s e, by rw [HX.out, rest_piece has HC.out, ← HEe.out]; simp⟩, hJx3⟩⟩
            · have hee : ¬ ((e : Int) < (s.size : Int)) := by omega
              clear hce
              gi_wp2
              refine hR.mono ?_
              rintro e' W3 (⟨rfl, hJ3, hk3⟩ | ⟨rfl, hJx3⟩)
              · gi_wp2
                gi_roundg (s.size + 1 - e)
                case measure => rw [HA.out]; omega
                case rel => exact ⟨pre ++ [s.extract a e], e, rfl, hes, rfl, by rw [HX.out, rest_piece has HC.out, ← HEe.out]; simp, hJ3, (show ob W3 bS = ob wr bS from hk3).trans HO.out⟩
              · gi_wp2
                refine bodyPost_ret (results_none rfl _ _ _) rfl ?_
                exact ⟨⟨_, rfl⟩, .inr ⟨pre ++ [s.extract a e], ⟨rest s e, by rw [HX.out, rest_piece has HC.out, ← HEe.out]; simp⟩, hJx3⟩⟩
      · have h47 : ((s[a].toNat : Int) == 47) = true := by
          rw [isCh_int has] at hch
          simpa using hch
        have HC := Lib.hid hch
        clear hch
        gi_wp2
        gi_roundg (s.size + 1 - (a + 1))
        case measure => rw [HA.out]; omega
        case rel => exact ⟨pre, a + 1, by go_num, by omega, rfl, by rw [HX.out, rest_slash has (by simpa using HC.out)], hJ, HO.out⟩
    · have hae : a = s.size := by omega
      gi_wp2
      go_end0
      exact ⟨⟨_, rfl⟩, .inl ⟨pre, by rw [HX.out, rest_end (by omega)]; simp, hJ⟩⟩

theorem pieces_stops (n : Nat) (hn : 1 ≤ n) (bS : Nat) (s : ByteArray) (hs : s.size ≤ 9000000000000000000) (w : World) (hb : bS < w.heap.size) (hc : w.cell? ⟨bS, 0, none⟩ = some (.string s)) :
    SeqStopsK Fence.wide n Tryz.prog 232 #[.pointer (some ⟨bS, 0, none⟩)] (fun x : ByteArray => #[Value.string x]) (KeepBox bS) (fun ys => ys = piecesOf s) (fun pre => pre <+: piecesOf s) (piecesOf s).length w := fun l J Jx W hW _ _ hY h0 =>
  pieces1_in n hn l bS s hs J Jx hY W ((hW.cell (p := ⟨bS, 0, none⟩) hb).trans hc) h0

set_option maxHeartbeats 1000000 in
theorem pieces_in (n : Nat) (s : ByteArray) (w : World) :
    CallsIn Fence.wide n Tryz.prog 199 #[.string s] w fun e w' => e = .returned (.func (.func 232) #[] #[.pointer (some ⟨w.heap.size, 0, none⟩)]) ∧ w' = w.alloc (.cells #[.string s] 9) := by
  refine callsIn_of_wp Tryz.func199 rfl trivial ?_ rfl
  simp only [Tryz.ntmps199, List.size_toArray, List.length_cons, List.length_nil, Nat.reduceAdd, Nat.reduceSub, Array.replicate_succ, Array.replicate_zero, List.push_toArray, List.append_toArray, List.nil_append, List.cons_append]
  gi_wp2
  go_ret
  exact ⟨rfl, rfl⟩
end Go.Proofs.YtdafneilalompaaGreatDoor
