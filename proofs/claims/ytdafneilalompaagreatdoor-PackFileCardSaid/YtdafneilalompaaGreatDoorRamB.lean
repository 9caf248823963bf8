/- How many blocks a file takes: Takes; the indices of a node; what all nodes take. Conditions: those that each theorem names. The indices of a node; what all nodes take. Conditions: those that each theorem names. -/
import Derived.Test.YtdafneilalompaaGreatDoorRam2
namespace Go.Proofs.YtdafneilalompaaGreatDoor
section
open Go Go.RowKit Go.MapKept
open Go.ChangeMaps (setBlock)

/-- A list with a number in it. -/
def with1 (l : List Int) (k : Int) : List Int := if k ∈ l then l else l ++ [k]
def tab1 (t : List Int) (k : Int) : List Int :=
  if 138 ≤ k then with1 (with1 t (-1)) ((k - 138) / 128) else if 10 ≤ k then with1 t (-2) else t
def takes (ks : List Int) : Int := ((ks.foldl with1 []).length : Int) + ((ks.foldl tab1 []).length : Int)
/-- A map of counts, by its keys alone. -/
def Counts (o : Obj) (ks : List Int) : Prop := ∃ L : List (Int × Int), MapO kInt o (L.map fun p => (p.1, Value.int .i64 p.2)) ∧ L.map (·.1) = ks
theorem upd_keys {β : Type} (x : Int) (v : β) : ∀ L : List (Int × β), (upd x v L).map (·.1) = with1 (L.map (·.1)) x
  | [] => rfl
  | p :: r => by
    simp only [upd, List.map_cons, with1]
    by_cases h : x = p.1
    · subst h; simp
    · have h1 : (x == p.1) = false := by simpa using h
      simp only [h1, Bool.false_eq_true, if_false, List.map_cons, upd_keys x v r, with1, List.mem_cons, h, false_or]
      split <;> simp
theorem with1_len (l : List Int) (k : Int) : (with1 l k).length ≤ l.length + 1 := by unfold with1; split <;> simp
theorem fold_with1_len : ∀ (ks l : List Int), (ks.foldl with1 l).length ≤ l.length + ks.length
  | [], l => by simp
  | k :: ks, l => by have h1 := fold_with1_len ks (with1 l k); have h2 := with1_len l k; simp only [List.foldl_cons, List.length_cons]; omega
theorem fold_tab1_len : ∀ (ks l : List Int), (ks.foldl tab1 l).length ≤ l.length + 2 * ks.length
  | [], l => by simp
  | k :: ks, l => by
    have h1 := fold_tab1_len ks (tab1 l k)
    have h2 : (tab1 l k).length ≤ l.length + 2 := by
      unfold tab1
      have h3 := with1_len (with1 l (-1)) ((k - 138) / 128)
      have h4 := with1_len l (-1)
      have h5 := with1_len l (-2)
      split
      · omega
      · split <;> omega
    simp only [List.foldl_cons, List.length_cons]; omega
theorem zero3 (w : World) : (zeroValue 3).run Tryz.prog w = .ok (.int .i64 0) w := by kernel_rfl
theorem Counts.look {o : Obj} {ks : List Int} (h : Counts o ks) (b : Nat) (x : Int) : ∃ v : Int, (∀ W, ob W b = some o → (Instr.lookup 81 (.map (some b)) (.int .i64 x) false).run Tryz.prog W = .ok (.int .i64 v) W) ∧
    ∀ v' : Int, ∃ o', Counts o' (with1 ks x) ∧ ∀ W, ob W b = some o → (Instr.mapUpdate 81 (.map (some b)) (.int .i64 x) (.int .i64 v')).run Tryz.prog W = .ok () (setBlock W b o') := by
  obtain ⟨L, hL, hk⟩ := h
  refine ⟨((L.lookup x).getD 0), fun W hW => ?_, fun v' => ?_⟩
  · have := hL.lookup_one kInt (t := 81) Tryz.underlying81 zero3 b x W hW
    rw [lookup_map] at this
    cases hl : L.lookup x with
    | none => rw [hl] at this; exact this
    | some v => rw [hl] at this; exact this
  · obtain ⟨o', ho, hr⟩ := hL.update kInt (t := 81) Tryz.underlying81 b x (.int .i64 v')
    rw [← upd_map] at ho
    exact ⟨o', ⟨_, ho, by rw [upd_keys, hk]⟩, hr⟩

theorem ownsRow_cells {w : World} {B t n s : Nat} {v : Value} {xs : List Value} (h : w.ownsRow B t s v n xs) (hn : 0 < n) : ∃ g c, v = .slice (some ⟨g, 0, none⟩) n c ∧ B ≤ g ∧ g < w.heap.size ∧ ∀ i, i < xs.length → w.cell? ⟨g, i, none⟩ = xs[i]? := by
  rcases h.2 with ⟨_, h0⟩ | ⟨g, c, cur, hv, hB, hh, hnc, _, hcs, hx⟩
  · omega
  · refine ⟨g, c, hv, hB, (Array.getElem?_eq_some_iff.1 hh).1, fun i hi => ?_⟩
    subst hx
    simp only [World.cell?, hh]
    simp only [List.length_take] at hi
    simp [List.getElem?_take, show i < n * s by omega]

/-- A slice of ints that is known. -/
structure Ints (w : World) (v : Value) (ks : List Int) : Prop where
  mk ::
  ok : ∃ a c, v = .slice a ks.length c ∧ ∀ i k, ks[i]? = some k → ∃ g, a = some ⟨g, 0, none⟩ ∧ w.cell? ⟨g, i, none⟩ = some (.int .i64 k)

set_option maxRecDepth 100000 in
set_option maxHeartbeats 1000000 in
theorem Takes_any (w : World) (a : Option Addr) (c : Nat) (ks : List Int) (n : Nat) (hks : ks.length = n) (hn : n ≤ 1000000)
    (hcell : ∀ i k, ks[i]? = some k → ∃ g, a = some ⟨g, 0, none⟩ ∧ w.cell? ⟨g, i, none⟩ = some (.int .i64 k)) (hr : ∀ k ∈ ks, 0 ≤ k ∧ k < 16522) :
    Calls Tryz.prog 210 #[.slice a n c] w fun e w' => e = .returned (.tuple #[.int .i64 (takes ks), .int .i64 0]) ∧ Keeps (fun _ => False) w w' := by
  have hmm := @run_makeMap Tryz.prog
  have Hks := Lib.hid hks
  have Hcell := Lib.hid hcell
  have Hr := Lib.hid hr
  clear hks hcell hr
  go_enter Tryz.func210, Tryz.ntmps210
  go_wp2_with fail
  go_loopg [13] n (fun k p wr => ∃ (j : Nat) (oM oT : Obj), p = .int .i64 j ∧ j ≤ n ∧ k = n - j ∧ ob wr w.heap.size = some oM ∧ ob wr (w.heap.size + 1) = some oT ∧ w.heap.size + 2 ≤ wr.heap.size ∧
    Counts oM ((ks.take j).foldl with1 []) ∧ Counts oT ((ks.take j).foldl tab1 []) ∧ Keeps (fun _ => False) w wr)
  case atStart =>
    refine ⟨0, .map #[] 0, .map #[] 0, rfl, by omega, rfl, by simp, by simp, by simp, ⟨[], MapO.empty kInt, rfl⟩, ⟨[], MapO.empty kInt, rfl⟩, ((Keeps.refl _ _).alloc _).alloc _⟩
  case round =>
    obtain ⟨j, oM, oT, rfl, hj, hgk, hoM, hoT, hsz, hM, hT, hK⟩ := hrel
    have HA := Lib.hid hgk
    clear hgk
    by_cases hjn : j < n
    · have hjl : j < ks.length := by rw [Hks.out]; exact hjn
      obtain ⟨k0, hk0⟩ : ∃ k0, ks[j]? = some k0 := ⟨ks[j], by simp [hjl]⟩
      obtain ⟨g, hga, hcg⟩ := Hcell.out j k0 hk0
      have hgr : wr.cell? ⟨g, j, none⟩ = some (.int .i64 k0) := by
        have hgl := World.block_lt_of_cell? _ _ hcg
        exact (World.cell?_of_block (w := w) (hK.block g hgl (fun x => x))).trans hcg
      have hb := Hr.out k0 (List.mem_of_getElem? hk0)
      obtain ⟨hb1, hb2⟩ := hb
      have htk : (ks.take (j + 1)) = ks.take j ++ [k0] := by rw [List.take_add_one, hk0]; rfl
      obtain ⟨vM, hlM, huM⟩ := hM.look w.heap.size k0
      obtain ⟨oM', hM', hrM⟩ := huM (wrap64 (vM + 1))
      have Htk := Lib.hid htk
      subst hga
      clear htk huM hcg hk0 hjl
      have hsz1 : w.heap.size + 1 < wr.heap.size := by omega
      have hsz0 : w.heap.size < wr.heap.size := by omega
      have e1 : IntKind.i64.wrap ((j : Int) + 1) = (j : Int) + 1 := IntWalk.i64_in _ (by omega)
      by_cases h138 : 138 ≤ k0
      · obtain ⟨v1, hl1, hu1⟩ := hT.look (w.heap.size + 1) (-1)
        obtain ⟨oT1, hT1, hr1⟩ := hu1 (wrap64 (v1 + 1))
        obtain ⟨v2, hl2, hu2⟩ := hT1.look (w.heap.size + 1) ((k0 - 138) / 128)
        obtain ⟨oT2, hT2, hr2⟩ := hu2 (wrap64 (v2 + 1))
        clear hu1 hu2
        go_wp2_with fail
        go_roundg (n - (j + 1))
        case measure => rw [HA.out]; omega
        case rel => exact ⟨j + 1, oM', oT2, by go_num, by omega, rfl, by simp [hsz0, hsz1], by simp [hsz0, hsz1], by simp; omega, by rw [Htk.out, List.foldl_append]; exact hM', by rw [Htk.out, List.foldl_append]; simp only [List.foldl_cons, List.foldl_nil, tab1, h138, if_true]; exact hT2, ((hK.setBlock (Or.inr (Nat.le_refl _)) _).setBlock (Or.inr (by omega)) _).setBlock (Or.inr (by omega)) _⟩
      · by_cases h10 : 10 ≤ k0
        · obtain ⟨v1, hl1, hu1⟩ := hT.look (w.heap.size + 1) (-2)
          obtain ⟨oT1, hT1, hr1⟩ := hu1 (wrap64 (v1 + 1))
          clear hu1
          go_wp2_with fail
          go_roundg (n - (j + 1))
          case measure => rw [HA.out]; omega
          case rel => exact ⟨j + 1, oM', oT1, by go_num, by omega, rfl, by simp [hsz0, hsz1], by simp [hsz0, hsz1], by simp; omega, by rw [Htk.out, List.foldl_append]; exact hM', by rw [Htk.out, List.foldl_append]; show Counts oT1 (tab1 _ k0); simp only [tab1]; rw [if_neg (by omega), if_pos (by omega)]; exact hT1, (hK.setBlock (Or.inr (Nat.le_refl _)) _).setBlock (Or.inr (by omega)) _⟩
        · go_wp2_with fail
          go_roundg (n - (j + 1))
          case measure => rw [HA.out]; omega
          case rel => exact ⟨j + 1, oM', oT, by go_num, by omega, rfl, by simp [hsz0, hsz1], by simp [hoT], by simp; omega, by rw [Htk.out, List.foldl_append]; exact hM', by rw [Htk.out, List.foldl_append]; show Counts oT (tab1 _ k0); simp only [tab1]; rw [if_neg (by omega), if_neg (by omega)]; exact hT, hK.setBlock (Or.inr (Nat.le_refl _)) _⟩
    · have hje : j = n := by omega
      subst hje
      have hM' := hM
      have hT' := hT
      obtain ⟨LM, hLM, hkM⟩ := hM
      obtain ⟨LT, hLT, hkT⟩ := hT
      have htk : ks.take j = ks := List.take_of_length_le (by rw [Hks.out]; exact Nat.le_refl _)
      have hn1 := fold_with1_len ks []
      have hn2 := fold_tab1_len ks []
      rw [htk] at hkM hkT
      have hm1 : LM.length = (ks.foldl with1 []).length := by rw [← hkM]; simp
      have hm2 : LT.length = (ks.foldl tab1 []).length := by rw [← hkT]; simp
      have hb1 : LM.length ≤ 1000000 := by have := Hks.out; rw [hm1]; simp only [List.length_nil] at hn1; omega
      have hb2 : LT.length ≤ 2000000 := by have := Hks.out; rw [hm2]; simp only [List.length_nil] at hn2; omega
      have hl1 := hLM.len kInt (t := 81) (ty := 3) Tryz.underlying81 w.heap.size
      have hl2 := hLT.len kInt (t := 81) (ty := 3) Tryz.underlying81 (w.heap.size + 1)
      rw [List.length_map] at hl1 hl2
      have Hfin := Lib.hid (show takes ks = (LM.length : Int) + (LT.length : Int) by rw [takes, hm1, hm2])
      clear hm1 hm2 hkM hkT hn1 hn2 htk hM' hT'
      go_wp2_with fail
      go_ret2
      exact ⟨by rw [Hfin.out]; rfl, hK⟩
end
section
open Go Go.RowKit Go.MapKept
open Go.ChangeMaps (setBlock)
theorem Tryz.info3 : (Tryz.prog.info? 3).map (fun i => (i.zero, i.size, i.bytes)) = some (some (.int .i64 0), 1, 8) := by kernel_rfl

theorem ints_one (ks : List Int) : ∀ u ∈ ks.map (Value.int .i64), u.oneCell' = true := by
  intro u hu
  obtain ⟨k, _, rfl⟩ := List.mem_map.1 hu
  rfl

set_option maxRecDepth 100000 in
set_option maxHeartbeats 1000000 in
theorem indices_file (w : World) (N pb : Nat) (L : List (Int × Value)) (h0 : w.cell? ⟨N, 0, none⟩ = some (.int .i64 1)) (h3 : w.cell? ⟨N, 3, none⟩ = some (.map (some pb))) (hm : MapK kInt w pb L) (hL : L.length ≤ 1000000) :
    Calls Tryz.prog 211 #[.pointer (some ⟨N, 0, none⟩)] w fun e w' => ∃ (ks : List Int) (v : Value), e = .returned v ∧ ks.Perm (L.map (·.1)) ∧ w'.ownsRow w.heap.size 3 1 v ks.length (ks.map (Value.int .i64)) ∧ Keeps (fun _ => False) w w' := by
  obtain ⟨i0, hi, hz0, hz1, hz2⟩ := info_parts Tryz.info3
  have hNl := World.block_lt_of_cell? _ _ h0
  obtain ⟨w1, hrun, hrg, hK1, hs1⟩ := hm.range kInt (t := 109) Tryz.underlying109
  go_enter Tryz.func211, Tryz.ntmps211
  go_wp2_with fail
  go_loopg [3] L.length (fun k p wr => ∃ (done : List Int) (left : List (Int × Value)), Ranging kInt wr pb w.heap.size L left ∧ k = left.length ∧ wr.ownsRow w.heap.size 3 1 p done.length (done.map (Value.int .i64)) ∧ (done ++ left.map (·.1)).Perm (L.map (·.1)) ∧ Keeps (fun _ => False) w wr)
  case atStart => exact ⟨[], L, hrg, rfl, ⟨rfl, Or.inl ⟨rfl, rfl⟩⟩, List.Perm.refl _, hK1⟩
  case round =>
    obtain ⟨done, left, hR, hgk, hown, hperm, hK⟩ := hrel
    have HA := Lib.hid hgk
    have HP := Lib.hid hperm
    clear hgk hperm
    rcases hR.next kInt 0 with ⟨hnil, hnext⟩ | ⟨l1, q, l2, w2, hsplit, hnext, hR2, hK2, hs2, hent⟩
    · have HN := Lib.hid hnil
      clear hnil
      go_wp2_with fail
      go_ret
      refine ⟨done, u3, rfl, ?_, hown, hK⟩
      have := HP.out
      rw [HN.out] at this
      simpa using this
    · have HS := Lib.hid hsplit
      clear hsplit hs2
      change (Instr.next (.pointer (some ⟨w.heap.size, 0, none⟩)) false 0).run Tryz.prog wr = Result.ok (Value.tuple #[.bool true, .int .i64 q.1, q.2]) w2 at hnext
      change (Instr.entry (.pointer (some ⟨w.heap.size, 0, none⟩))).run Tryz.prog w2 = Result.ok (Value.tuple #[.int .i64 q.1, q.2]) w2 at hent
      have hown2 : w2.ownsRow w.heap.size 3 1 u3 done.length (done.map (Value.int .i64)) := ownsRow_keep hown (fun g hg => by
        obtain ⟨_, cur, hc⟩ := ownsRow_base hown hg
        exact hK2.block g (Array.getElem?_eq_some_iff.1 hc).1 (hR.off kInt hc).1)
      have hsz : w.heap.size ≤ w2.heap.size := Nat.le_trans hK.size hK2.size
      have hlen : done.length ≤ 1000000 := by
        have := HP.out.length_eq
        simp only [List.length_append, List.length_map] at this
        omega
      have hgr : ∀ k, u3.ownBlock = some k → False ∨ w.heap.size ≤ k := fun k e => Or.inr (ownsRow_base hown e).1
      go_wp2_with (first | (at_builtin; refine wpList_append_own _ rfl _ _ 53 rfl w.heap.size 3 i0 (.int .i64 0) 1 8 Tryz.underlying53 hi hz0 hz1 hz2 rfl (by decide) _ _ _ rfl (hown2.alloc _) ⟨w2.heap.size, 0, none⟩ 1 1 [.int .i64 q.1] rfl rfl ?c1 ?c2 ?c3 ?c4 ?c5 ?_) | fail)
      case c2 => simp [Value.oneCell']
      case c3 => simp only [maxLen]; omega
      case c4 => omega
      case c5 => first | omega | (simp; omega)
      intro v' w3 hown3 hg3 _
      have hK3 : Keeps (fun _ => False) w w3 := ((hK.trans hK2 (fun _ _ x => x) (fun k hk e => by subst e; exact absurd hk (Nat.lt_irrefl _))).alloc _).grown hg3 hgr
      have hR3 : Ranging kInt w3 pb w.heap.size L (l1 ++ l2) := by
        have hb := hR2.map.lt
        have hr := hR2.lt kInt
        have hpb : ¬ some pb = u3.ownBlock := fun e => by
          obtain ⟨_, cur, hc⟩ := ownsRow_base hown e.symm
          exact (hR.off kInt hc).2 rfl
        have hpr : ¬ some w.heap.size = u3.ownBlock := fun e => by
          obtain ⟨_, cur, hc⟩ := ownsRow_base hown e.symm
          exact (hR.off kInt hc).1 rfl
        exact hR2.of kInt ((hg3.block pb (by simp; omega) hpb).trans (Below.heap_alloc _ _ _ hb)) ((hg3.block _ (by simp; omega) hpr).trans (Below.heap_alloc _ _ _ hr))
      have hmap : (done ++ [q.1]).map (Value.int .i64) = done.map (Value.int .i64) ++ [.int .i64 q.1] := by simp
      go_wp2_with fail
      go_roundg (l1 ++ l2).length
      case measure => rw [HA.out, HS.out]; simp
      case rel =>
        refine ⟨done ++ [q.1], l1 ++ l2, hR3, rfl, by rw [hmap]; simpa using hown3, ?_, hK3⟩
        refine List.Perm.trans ?_ HP.out
        rw [HS.out, List.append_assoc]
        refine List.Perm.append_left _ ?_
        simp only [List.map_append, List.map_cons, List.cons_append, List.nil_append]
        exact List.perm_middle.symm
/-- 0, 1, .., n - 1. -/
def upTo (n : Nat) : List Int := (List.range n).map Int.ofNat
theorem upTo_succ (n : Nat) : upTo (n + 1) = upTo n ++ [(n : Int)] := by simp [upTo, List.range_succ]
theorem upTo_len (n : Nat) : (upTo n).length = n := by simp [upTo]

set_option maxRecDepth 100000 in
set_option maxHeartbeats 1000000 in
theorem indices_dir (w : World) (N n : Nat) (h0 : w.cell? ⟨N, 0, none⟩ = some (.int .i64 2)) (h5 : w.cell? ⟨N, 5, none⟩ = some (.int .i64 n)) (hn : n ≤ 1000000) :
    Calls Tryz.prog 211 #[.pointer (some ⟨N, 0, none⟩)] w fun e w' => ∃ (v : Value), e = .returned v ∧ w'.ownsRow w.heap.size 3 1 v n ((upTo n).map (Value.int .i64)) ∧ Keeps (fun _ => False) w w' := by
  obtain ⟨i0, hi, hz0, hz1, hz2⟩ := info_parts Tryz.info3
  go_enter Tryz.func211, Tryz.ntmps211
  go_wp2_with fail
  go_loopg [3, 32] n (fun k p c wr => ∃ j : Nat, c = .int .i64 j ∧ j ≤ n ∧ k = n - j ∧ wr.ownsRow w.heap.size 3 1 p j ((upTo j).map (Value.int .i64)) ∧ Keeps (fun _ => False) w wr)
  case atStart => exact ⟨0, rfl, by omega, rfl, ⟨rfl, Or.inl ⟨rfl, rfl⟩⟩, Keeps.refl _ _⟩
  case round =>
    obtain ⟨j, rfl, hj, hgk, hown, hK⟩ := hrel
    have HA := Lib.hid hgk
    clear hgk
    by_cases hjn : j < n
    · have hsz : w.heap.size ≤ wr.heap.size := hK.size
      have hgr : ∀ k, u3.ownBlock = some k → False ∨ w.heap.size ≤ k := fun k e => Or.inr (ownsRow_base hown e).1
      have e1 : IntKind.i64.wrap ((j : Int) + 1) = (j : Int) + 1 := IntWalk.i64_in _ (by omega)
      go_wp2_with (first | (at_builtin; refine wpList_append_own _ rfl _ _ 53 rfl w.heap.size 3 i0 (.int .i64 0) 1 8 Tryz.underlying53 hi hz0 hz1 hz2 rfl (by decide) _ _ _ rfl (hown.alloc _) ⟨wr.heap.size, 0, none⟩ 1 1 [.int .i64 j] rfl rfl ?c1 ?c2 ?c3 ?c4 ?c5 ?_) | fail)
      case c1 => exact cell_one_new _ _ _
      case c2 => simp [Value.oneCell']
      case c3 => simp only [maxLen]; omega
      case c4 => omega
      case c5 => first | omega | (simp; omega)
      intro v' w3 hown3 hg3 _
      have hK3 : Keeps (fun _ => False) w w3 := (hK.alloc _).grown hg3 hgr
      have hmap : (upTo (j + 1)).map (Value.int .i64) = (upTo j).map (Value.int .i64) ++ [.int .i64 j] := by rw [upTo_succ]; simp
      go_wp2_with fail
      go_roundg (n - (j + 1))
      case measure => rw [HA.out]; omega
      case rel => exact ⟨j + 1, by go_num, by omega, rfl, by rw [hmap]; exact hown3, hK3⟩
    · have hje : j = n := by omega
      subst hje
      go_wp2_with fail
      go_ret
      exact ⟨u3, rfl, hown, hK⟩

set_option maxRecDepth 100000 in
set_option maxHeartbeats 1000000 in
theorem indices_link (w : World) (N n : Nat) (t : ByteArray) (h0 : w.cell? ⟨N, 0, none⟩ = some (.int .i64 3)) (h6 : w.cell? ⟨N, 6, none⟩ = some (.string t)) (hn : n ≤ 1000000) (hn1 : t.size ≤ 512 * n) (hn2 : 512 * n < t.size + 512) :
    Calls Tryz.prog 211 #[.pointer (some ⟨N, 0, none⟩)] w fun e w' => ∃ (v : Value), e = .returned v ∧ w'.ownsRow w.heap.size 3 1 v n ((upTo n).map (Value.int .i64)) ∧ Keeps (fun _ => False) w w' := by
  obtain ⟨i0, hi, hz0, hz1, hz2⟩ := info_parts Tryz.info3
  have hNl := World.block_lt_of_cell? _ _ h0
  go_enter Tryz.func211, Tryz.ntmps211
  go_wp2_with fail
  go_loopg [3, 6] n (fun k p c wr => ∃ j : Nat, c = .int .i64 j ∧ j ≤ n ∧ k = n - j ∧ wr.ownsRow w.heap.size 3 1 p j ((upTo j).map (Value.int .i64)) ∧ Keeps (fun _ => False) w wr)
  case atStart => exact ⟨0, rfl, by omega, rfl, ⟨rfl, Or.inl ⟨rfl, rfl⟩⟩, Keeps.refl _ _⟩
  case round =>
    obtain ⟨j, rfl, hj, hgk, hown, hK⟩ := hrel
    have HA := Lib.hid hgk
    clear hgk
    have h6' : wr.cell? ⟨N, 6, none⟩ = some (.string t) := (World.cell?_of_block (w := w) (hK.block N hNl (fun x => x))).trans h6
    have e2 : IntKind.i64.wrap ((j : Int) * 512) = (j : Int) * 512 := IntWalk.i64_in _ (by omega)
    by_cases hjn : j < n
    · have hsz : w.heap.size ≤ wr.heap.size := hK.size
      have ht : decide ((j : Int) * 512 < (t.size : Int)) = true := by simp; omega
      have hgr : ∀ k, u3.ownBlock = some k → False ∨ w.heap.size ≤ k := fun k e => Or.inr (ownsRow_base hown e).1
      have e1 : IntKind.i64.wrap ((j : Int) + 1) = (j : Int) + 1 := IntWalk.i64_in _ (by omega)
      go_wp2_with (first | (at_builtin; refine wpList_append_own _ rfl _ _ 53 rfl w.heap.size 3 i0 (.int .i64 0) 1 8 Tryz.underlying53 hi hz0 hz1 hz2 rfl (by decide) _ _ _ rfl (hown.alloc _) ⟨wr.heap.size, 0, none⟩ 1 1 [.int .i64 j] rfl rfl ?c1 ?c2 ?c3 ?c4 ?c5 ?_) | fail)
      case c1 => exact cell_one_new _ _ _
      case c2 => simp [Value.oneCell']
      case c3 => simp only [maxLen]; omega
      case c4 => omega
      case c5 => first | omega | (simp; omega)
      intro v' w3 hown3 hg3 _
      have hK3 : Keeps (fun _ => False) w w3 := (hK.alloc _).grown hg3 hgr
      have hmap : (upTo (j + 1)).map (Value.int .i64) = (upTo j).map (Value.int .i64) ++ [.int .i64 j] := by rw [upTo_succ]; simp
      go_wp2_with fail
      go_roundg (n - (j + 1))
      case measure => rw [HA.out]; omega
      case rel => exact ⟨j + 1, by go_num, by omega, rfl, by rw [hmap]; exact hown3, hK3⟩
    · have hje : j = n := by omega
      subst hje
      have ht : decide ((j : Int) * 512 < (t.size : Int)) = false := by simp; omega
      go_wp2_with fail
      go_ret
      exact ⟨u3, rfl, hown, hK⟩
end
end Go.Proofs.YtdafneilalompaaGreatDoor
