/- Parse, Text and Make of a path. Conditions: those that each theorem names. -/
import Derived.Test.YtdafneilalompaaGreatDoorPath3
import Derived.Sort.BigQuietIn
namespace Go.Proofs.YtdafneilalompaaGreatDoor
open Go Go.RowKit Go.Shelf
open Go.ChangeMaps (setBlock)

/-- A slice of texts that is new memory. -/
def NewStrs (w w' : World) (v : Value) (l : List ByteArray) : Prop := w'.ownsRow w.heap.size 9 1 v l.length (l.map Value.string)
/-- A slice of texts that is known: its block is one of texts. -/
def PS (w : World) (v : Value) (l : List ByteArray) : Prop :=
  ∃ a c, v = .slice a l.length c ∧ l.length ≤ c ∧ c ≤ maxLen ∧ (l ≠ [] → ∃ g off cur, a = some ⟨g, off, none⟩ ∧ w.heap[g]? = some (.cells cur 9 (0, 0)) ∧ ∀ i x, l[i]? = some x → cur[off + i]? = some (.string x))
theorem PS.nil (w : World) : PS w (.slice none 0 0) [] := ⟨none, 0, rfl, Nat.le_refl _, Nat.zero_le _, fun h => absurd rfl h⟩
theorem PS.of {w w' : World} {v : Value} {l : List ByteArray} (h : PS w v l) (hk : ∀ (g : Nat) (cur : Array Value), w.heap[g]? = some (Obj.cells cur 9 (0, 0)) → w'.heap[g]? = some (Obj.cells cur 9 (0, 0))) : PS w' v l := by
  obtain ⟨a, c, h1, h2, h3, h4⟩ := h
  refine ⟨a, c, h1, h2, h3, fun hl => ?_⟩
  obtain ⟨g, off, cur, e1, e2, e3⟩ := h4 hl
  exact ⟨g, off, cur, e1, hk g cur e2, e3⟩
theorem PS.keeps {w w' : World} {v : Value} {l : List ByteArray} (h : PS w v l) {X : Nat → Prop} (k : Keeps X w w') (hX : ∀ (g : Nat) (cur : Array Value), w.heap[g]? = some (Obj.cells cur 9 (0, 0)) → ¬ X g) : PS w' v l :=
  h.of fun g cur hg => (k.block g (Array.getElem?_eq_some_iff.1 hg).1 (hX g cur hg)).trans hg
theorem NewStrs.ps {w w' : World} {v : Value} {l : List ByteArray} (h : NewStrs w w' v l) : PS w' v l := by
  have h' : w'.ownsRow w.heap.size 9 1 v l.length (l.map Value.string) := h
  rcases h'.2 with ⟨hv, h0⟩ | ⟨g, c, cur, hv, hB, hh, hnc, hcm, hcs, hx⟩
  · exact ⟨none, 0, by rw [hv, h0], by omega, Nat.zero_le _, fun hl => absurd (List.eq_nil_of_length_eq_zero h0) hl⟩
  · refine ⟨_, c, hv, hnc, hcm, fun _ => ⟨g, 0, cur, rfl, hh, fun i x hi => ?_⟩⟩
    have hlt := (List.getElem?_eq_some_iff.1 hi).1
    have h1 : (cur.toList.take (l.length * 1))[i]? = some (.string x) := by rw [hx]; simp [hi]
    rw [List.getElem?_take, if_pos (by omega)] at h1
    simpa using h1
/-- What components answers. -/
def compsR (s : ByteArray) (most : Int) : List ByteArray × Int := match compsOf s most with | some l => (l, 0) | none => ([], 130)
theorem components_any (s : ByteArray) (hs : s.size ≤ 9000000000000000000) (most : Int) (w : World) :
    Calls Tryz.prog 186 #[.string s, .int .i64 most] w fun e w' => ∃ v, e = .returned (.tuple #[v, .int .i64 (compsR s most).2]) ∧ NewStrs w w' v (compsR s most).1 ∧ Keeps (fun _ => False) w w' := by
  refine (callsIn_wide.1 (components_in 3 (by omega) s hs most w)).mono ?_
  rintro e w' ⟨hk, ⟨l, v, hl, rfl, hrow⟩ | ⟨hl, rfl⟩⟩
  · have : compsR s most = (l, 0) := by simp [compsR, hl]
    rw [this]; exact ⟨v, rfl, hrow, hk⟩
  · have : compsR s most = ([], 130) := by simp [compsR, hl]
    rw [this]; exact ⟨_, rfl, ⟨rfl, Or.inl ⟨rfl, rfl⟩⟩, hk⟩
def parseR (s : ByteArray) : List ByteArray × Int := if wrongB s true = true then ([], 1) else compsR s 1024

set_option maxRecDepth 100000 in
set_option maxHeartbeats 1000000 in
theorem Parse_any (s : ByteArray) (hs : s.size ≤ 9000000000000000000) (w : World) :
    Calls Tryz.prog 140 #[.string s] w fun e w' => ∃ v, e = .returned (.tuple #[v, .int .i64 (parseR s).2]) ∧ NewStrs w w' v (parseR s).1 ∧ Keeps (fun _ => False) w w' := by
  cases hw : wrongB s true with
  | true =>
    have hr := Lib.hid (show parseR s = ([], 1) by simp [parseR, hw])
    go_enter Tryz.func140, Tryz.ntmps140
    go_wp2_with (first | (go_at_call 185; refine (wrong_any s true _).mono ?_; rintro e w' ⟨rfl, rfl⟩; rw [hw]) | fail)
    go_ret2
    rw [hr.out]
    exact ⟨_, rfl, ⟨rfl, Or.inl ⟨rfl, rfl⟩⟩, Keeps.refl _ _⟩
  | false =>
    have hr := Lib.hid (show parseR s = compsR s 1024 by simp [parseR, hw])
    go_enter Tryz.func140, Tryz.ntmps140
    go_wp2_with (first | (go_at_call 185; refine (wrong_any s true _).mono ?_; rintro e w' ⟨rfl, rfl⟩; rw [hw]) | (go_at_call 186; refine (components_any s hs 1024 _).mono ?_; rintro e w' ⟨v, rfl, hrow, hk⟩) | fail)
    go_ret2
    rw [hr.out]
    exact ⟨v, rfl, hrow, hk⟩

/-- A text's components, whether it begins at the root, what is wrong with it. -/
def textR (s : ByteArray) : List ByteArray × Bool × Int :=
  if wrongB s false = true then ([], false, 1) else if (compsR s 1024).2 = 0 then ((compsR s 1024).1, s.data.toList.headD 0 == 47, 0) else ([], false, (compsR s 1024).2)

set_option maxRecDepth 100000 in
set_option maxHeartbeats 1000000 in
theorem Text_any (s : ByteArray) (hs : s.size ≤ 9000000000000000000) (w : World) :
    Calls Tryz.prog 119 #[.string s] w fun e w' => ∃ v, e = .returned (.tuple #[v, .bool (textR s).2.1, .int .i64 (textR s).2.2]) ∧ NewStrs w w' v (textR s).1 ∧ Keeps (fun _ => False) w w' := by
  cases hw : wrongB s false with
  | true =>
    have hr := Lib.hid (show textR s = ([], false, 1) by simp [textR, hw])
    go_enter Tryz.func119, Tryz.ntmps119
    go_wp2_with (first | (go_at_call 185; refine (wrong_any s false _).mono ?_; rintro e w' ⟨rfl, rfl⟩; rw [hw]) | fail)
    go_ret3
    rw [hr.out]
    exact ⟨_, rfl, ⟨rfl, Or.inl ⟨rfl, rfl⟩⟩, Keeps.refl _ _⟩
  | false =>
    have he : s.toList.isEmpty = false := by
      simp only [wrongB, Bool.or_eq_false_iff] at hw
      exact hw.1
    have hpos : 0 < s.size := by
      rw [ByteArray.toList_eq] at he
      have : s.data.toList ≠ [] := by simpa using he
      have h2 : 0 < s.data.toList.length := List.length_pos_iff.2 this
      simpa using h2
    have hhd : (s.data.toList.headD 0 == 47) = ((s[0].toNat : Int) == 47) := by
      have e1 : s.data.toList.headD 0 = s.data.toList.getD 0 0 := by cases s.data.toList <;> rfl
      have h2 : 0 < s.data.size := hpos
      rw [e1]
      simp only [List.getD, Array.getElem?_toList, Array.getElem?_eq_getElem h2, Option.getD_some]
      have h3 : (s[0] != 47) = ((s[0].toNat : Int) != 47) := by rw [← isCh_get hpos, isCh_int hpos]
      simp only [bne] at h3
      have h4 : (s[0] == 47) = ((s[0].toNat : Int) == 47) := by
        cases h5 : (s[0] == 47) <;> cases h6 : ((s[0].toNat : Int) == 47) <;> simp_all
      exact h4
    have HH := Lib.hid hhd
    clear he hhd
    by_cases hc : (compsR s 1024).2 = 0
    · have hr := Lib.hid (show textR s = ((compsR s 1024).1, s.data.toList.headD 0 == 47, 0) by simp [textR, hw, hc])
      have HC := Lib.hid hc
      clear hc
      go_enter Tryz.func119, Tryz.ntmps119
      go_wp2_with (first | (go_at_call 185; refine (wrong_any s false _).mono ?_; rintro e w' ⟨rfl, rfl⟩; rw [hw]) | (go_at_call 186; refine (components_any s hs 1024 _).mono ?_; rintro e w' ⟨v, rfl, hrow, hk⟩; rw [HC.out]) | fail)
      go_region
      go_wp2_with fail
      go_ret3
      rw [hr.out]
      exact ⟨v, by rw [HH.out]; rfl, hrow, hk.drew⟩
    · have h130 : (compsR s 1024).2 = 130 := by
        unfold compsR at hc ⊢
        cases h : compsOf s 1024 with
        | none => rfl
        | some l => rw [h] at hc; exact absurd rfl hc
      have hr := Lib.hid (show textR s = ([], false, 130) by simp [textR, hw, h130])
      have HC := Lib.hid h130
      clear hc h130
      go_enter Tryz.func119, Tryz.ntmps119
      go_wp2_with (first | (go_at_call 185; refine (wrong_any s false _).mono ?_; rintro e w' ⟨rfl, rfl⟩; rw [hw]) | (go_at_call 186; refine (components_any s hs 1024 _).mono ?_; rintro e w' ⟨v, rfl, hrow, hk⟩; rw [HC.out]) | fail)
      go_ret3
      rw [hr.out]
      exact ⟨_, rfl, ⟨rfl, Or.inl ⟨rfl, rfl⟩⟩, hk⟩

/-- The last piece, or "". -/
def lastP (s : ByteArray) : ByteArray := (piecesOf s).getLastD ⟨#[]⟩
/-- A path's components but the last one, that one, what is wrong with it. -/
def makeR (s : ByteArray) : List ByteArray × ByteArray × Int :=
  if wrongB s true = true then ([], ⟨#[]⟩, 1) else if dotsB (lastP s) = true then ([], ⟨#[]⟩, 1) else
  if (compsR s 1024).2 = 0 then ((compsR s 1024).1.dropLast, (compsR s 1024).1.getLastD ⟨#[]⟩, 0) else ([], ⟨#[]⟩, 130)

attribute [local go_sem] Oper.semAt_some
set_option maxRecDepth 100000 in
set_option maxHeartbeats 2000000 in
theorem Make_in (n : Nat) (hn : 5 ≤ n) (s : ByteArray) (hs : s.size ≤ 9000000000000000000) (w : World) :
    CallsIn Fence.wide n Tryz.prog 137 #[.string s] w fun e w' => ∃ v, e = .returned (.tuple #[v, .string (makeR s).2.1, .int .i64 (makeR s).2.2]) ∧ Keeps (fun _ => False) w w' ∧ PS w' v (makeR s).1 := by
  have h1 : 1 ≤ n := by omega
  refine callsIn_of_wp_marks Tryz.func137 rfl trivial ?_ rfl
  simp only [Tryz.ntmps137, List.size_toArray, List.length_cons, List.length_nil, Nat.reduceAdd, Nat.reduceSub, Array.replicate_succ, Array.replicate_zero, List.push_toArray, List.append_toArray, List.nil_append, List.cons_append]
  cases hw : wrongB s true with
  | true =>
    have hr := Lib.hid (show makeR s = ([], ⟨#[]⟩, 1) by simp [makeR, hw])
    gi_wp2_with (first | (gi_at_call 185; refine (callsIn_wide.2 (wrong_any s true _)).mono ?_; rintro e w' ⟨rfl, rfl⟩; rw [hw]) | fail)
    rw [hr.out]
    exact ⟨_, by simp [results, Tryz.results137, go_sem], _, rfl, Keeps.refl _ _, PS.nil _⟩
  | false =>
    gi_wp2_with (first | (gi_at_call 185; refine (callsIn_wide.2 (wrong_any s true _)).mono ?_; rintro e w' ⟨rfl, rfl⟩; rw [hw]) | (gi_at_call 199; refine (pieces_in (n - 1) _ _).mono ?_; rintro e w' ⟨rfl, rfl⟩) | fail)
    have hb5 := (Blk.new w #[.string ⟨#[]⟩] 9).alloc (.cells #[.string s] 9)
    have hbS := Blk.new' (w := w.alloc (.cells #[.string ⟨#[]⟩] 9)) (n := w.heap.size + 1) (by simp) #[.string s] 9
    have hK4 : Keeps (fun _ => False) w _ := ((Keeps.refl (fun _ => False) w).alloc (.cells #[.string ⟨#[]⟩] 9)).alloc (.cells #[.string s] 9)
    generalize hw4 : ((w.alloc (.cells #[.string ⟨#[]⟩] 9)).alloc (.cells #[.string s] 9)) = w4 at *
    have hsz4 : w.heap.size + 1 < w4.heap.size := hbS.lt
    clear hw4
    refine wpIn_rangeFunc_ownF rfl h1 (gf := 232) (lb := #[.pointer (some ⟨w.heap.size + 1, 0, none⟩)]) rfl trivial (enters_of Tryz.func232 (by kernel_rfl) rfl)
      (pieces_stops (n - 1) (by omega) (w.heap.size + 1) s hs w4 hsz4 (hbS.cell 0)) (fun {A B C} h k => Eq.trans k h) ?kb (Below.refl _ _) (fun _ => rfl)
      (fun pre W => Blk W w.heap.size #[.string (pre.getLastD ⟨#[]⟩)] 9 ∧ w4.heap.size ≤ W.heap.size ∧ Keeps (fun _ => False) w W)
      (fun _ _ _ => False)
      ?ownI ?ownX ?start
      (fun x => { tmps := #[.string s, undef, .slice none 0 0, .string ⟨#[]⟩, .int .i64 0, .pointer (some ⟨w.heap.size, 0, none⟩), .string x, undef, undef, undef, undef, .string s, .bool false, .string s,
        .func (.func 232) #[] #[.pointer (some ⟨w.heap.size + 1, 0, none⟩)], .string x, undef, undef, undef, undef, undef, undef, undef, undef, undef, undef, undef, undef, undef, undef, undef, undef, undef, undef, undef, undef, undef, undef, undef, undef, undef, undef, undef, undef, undef, undef, undef, undef, undef, undef], defers := [] }) ?assign ?body ?done ?stop
    case kb =>
      intro W l o o' hl hW ho _
      have : W.putObj l o' = setBlock W l o' := rfl
      rw [this]
      exact ob_setBlock (by omega)
    case ownI =>
      rintro pre W W' row ⟨h1, h2, h3⟩ hg hr
      have m := Mild.of hg hr
      exact ⟨m.blk h1, Nat.le_trans h2 m.size, m.keeps h3 (by omega)⟩
    case ownX => rintro c pre W W' row h _ _; exact h
    case start => exact ⟨hb5, Nat.le_refl _, hK4⟩
    case assign =>
      intro l x W K hK
      gi_wp2
      exact hK
    case body =>
      rintro l pre x W ⟨hb, hsz, hK⟩ _
      have hc5 : W.cell? ⟨w.heap.size, 0, none⟩ = some (.string (pre.getLastD ⟨#[]⟩)) := hb.cell 0
      have hf5 : W.frozen? ⟨w.heap.size, 0, none⟩ = false := hb.frz 0
      have hl : (pre ++ [x]).getLastD ⟨#[]⟩ = x := by simp
      have HL := Lib.hid hl
      clear hl
      gi_wp2_with fail
      exact ⟨KeepsOthers.setCell _ _ _, ob_setCell (by omega), by rw [HL.out]; exact hb.set 0 _, by simpa using hsz, hK.setCell (p := ⟨w.heap.size, 0, none⟩) (Or.inr (Nat.le_refl _)) _⟩
    case stop => rintro D c pre W hD hpre h hDd; exact h.elim
    case done =>
      rintro D ys W hD hys ⟨hb, hsz, hK⟩ hDd
      have hys' : ys.getLastD ⟨#[]⟩ = lastP s := by rw [hys, lastP]
      rw [hys'] at hb
      have hc5 : W.cell? ⟨w.heap.size, 0, none⟩ = some (.string (lastP s)) := hb.cell 0
      clear hys hys'
      have mD : ∀ W', W'.heap[D]? = some (.deferred (some [])) → Mild w4.heap.size W' (World.putObj W' D (.deferred none)) := fun W' h => Mild.of (grownBy_putObj' _ D (.deferred none)) (fun r e => by cases e; exact ⟨hD, _, h, rfl⟩)
      have HMD := Lib.hid mD
      clear mD
      have hDl : D < W.heap.size := (Array.getElem?_eq_some_iff.1 hDd).1
      have HDd := Lib.hid hDd
      clear hDd
      cases hd : dotsB (lastP s) with
      | true =>
        have hr := Lib.hid (show makeR s = ([], ⟨#[]⟩, 1) by simp [makeR, hw, hd])
        gi_wp2_with (first | (gi_at_call 200; refine (callsIn_wide.2 (does_any (lastP s) _)).mono ?_; rintro e w' ⟨f, rfl, hk2⟩; rw [hd]) | fail)
        rw [hr.out]
        have kD := (hk2.block D hDl (fun x => x)).trans HDd.out
        refine ⟨by simp, .inl ⟨_, _, rfl, run_takeDeferred kD, ?_⟩⟩
        exact ⟨_, by simp [results, Tryz.results137, go_sem], _, rfl, (HMD.out _ kD).keeps (hK.then hk2) (by omega), PS.nil _⟩
      | false =>
        gi_wp2_with (first | (gi_at_call 200; refine (callsIn_wide.2 (does_any (lastP s) _)).mono ?_; rintro e w' ⟨f, rfl, hk2⟩; rw [hd]) | fail)
        refine (callsIn_wide.2 (components_any s hs 1024 _)).mono ?_
        rintro e w3 ⟨v, rfl, hrow, hk3⟩
        have kD := ((hk2.then hk3).block D hDl (fun x => x)).trans HDd.out
        have hK3 := (hK.then hk2).then hk3
        have HK := Lib.hid (And.intro kD hK3)
        obtain ⟨a0, c0, hv⟩ : ∃ a c, v = .slice a (compsR s 1024).1.length c := by
          rcases hrow.2 with ⟨hv, h0⟩ | ⟨g, c, cur, hv, _⟩
          · exact ⟨none, 0, by rw [hv, h0]⟩
          · exact ⟨_, _, hv⟩
        clear kD hK3 hb hc5
        by_cases hc : (compsR s 1024).2 = 0
        · by_cases hl0 : (compsR s 1024).1.length = 0
          · have hr := Lib.hid (show makeR s = ([], ⟨#[]⟩, 0) by
              have : (compsR s 1024).1 = [] := List.eq_nil_of_length_eq_zero hl0
              simp [makeR, hw, hd, hc, this])
            rw [hv, hc, hl0]
            clear hv hc hl0 hrow
            gi_wp2_with fail
            rw [hr.out]
            obtain ⟨kD, hK3⟩ := HK.out
            refine ⟨by simp, .inl ⟨_, _, rfl, run_takeDeferred kD, ?_⟩⟩
            exact ⟨_, by simp [results, Tryz.results137, go_sem], _, rfl, (HMD.out _ kD).keeps hK3 (by omega), PS.nil _⟩
          · obtain ⟨g, c1, hv1, hg, hgl, hnc, hcm, hcells⟩ := ownsRow_cells2 hrow (by omega)
            have hr := Lib.hid (show makeR s = ((compsR s 1024).1.dropLast, (compsR s 1024).1.getLastD ⟨#[]⟩, 0) by simp [makeR, hw, hd, hc])
            obtain ⟨k, hk⟩ : ∃ k, (compsR s 1024).1.length = k + 1 := ⟨(compsR s 1024).1.length - 1, by omega⟩
            have hlast : w3.cell? ⟨g, k, none⟩ = some (.string ((compsR s 1024).1.getLastD ⟨#[]⟩)) := by
              rw [hcells k (by simp; omega)]
              rw [List.getLastD_eq_getLast?, List.getLast?_eq_getElem?, hk]
              have : k < (compsR s 1024).1.length := by omega
              simp [this]
            have hlen : (compsR s 1024).1.dropLast.length = k := by simp [hk]
            have hps : PS w3 (.slice (some ⟨g, 0, none⟩) k k) (compsR s 1024).1.dropLast := by
              obtain ⟨a1, c2, e1, e2, e3, e4⟩ := hrow.ps
              obtain ⟨g', off, cur, e5, e6, e7⟩ := e4 (fun e => hl0 (by rw [e]; rfl))
              rw [hv1] at e1
              rw [e5] at e1
              simp only [Value.slice.injEq, Option.some.injEq, Addr.mk.injEq, and_true] at e1
              obtain ⟨⟨rfl, rfl⟩, _, _⟩ := e1
              refine ⟨_, k, by rw [hlen], by omega, by omega, fun _ => ⟨g, 0, cur, rfl, e6, fun i x hx => ?_⟩⟩
              rw [List.getElem?_dropLast] at hx
              split at hx
              · exact e7 i x hx
              · cases hx
            have HF := Lib.hid hps
            rw [hv1, hc, hk]
            rw [hk] at hnc
            have hcm' : c1 ≤ 9223372036854775807 := by unfold maxLen at hcm; exact hcm
            clear hv hv1 hc hk hlen hps hrow hcells hcm hg
            gi_wp2_with fail
            gi_big_quiet_th (fail)
            gi_wp2_with fail
            rw [hr.out]
            obtain ⟨kD, hK3⟩ := HK.out
            have kD' : (w3.drewN nq).heap[D]? = some (.deferred (some [])) := kD
            refine ⟨by simp, .inl ⟨_, _, rfl, run_takeDeferred kD', ?_⟩⟩
            refine ⟨.tuple #[.slice (some ⟨g, 0, none⟩) k k, .string ((compsR s 1024).1.getLast?.getD ⟨#[]⟩), .int .i64 0], by simp [results, Tryz.results137, go_sem], _, by rw [List.getLastD_eq_getLast?], (HMD.out _ kD').keeps (hK3.drewN nq) (by omega), ?_⟩
            have h3 : PS (w3.drewN nq) (.slice (some ⟨g, 0, none⟩) k k) (compsR s 1024).1.dropLast := HF.out
            exact h3.of fun g cur hg => ((HMD.out _ kD').block g (Array.getElem?_eq_some_iff.1 hg).1 (Or.inr ⟨_, _, _, hg⟩)).trans hg
        · have h130 : (compsR s 1024).2 = 130 := by
            unfold compsR at hc ⊢
            cases h : compsOf s 1024 with
            | none => rfl
            | some l => rw [h] at hc; exact absurd rfl hc
          have hr := Lib.hid (show makeR s = ([], ⟨#[]⟩, 130) by simp [makeR, hw, hd, h130])
          rw [hv, h130]
          clear hv hc h130 hrow
          gi_wp2_with fail
          rw [hr.out]
          obtain ⟨kD, hK3⟩ := HK.out
          refine ⟨by simp, .inl ⟨_, _, rfl, run_takeDeferred kD, ?_⟩⟩
          exact ⟨_, by simp [results, Tryz.results137, go_sem], _, rfl, (HMD.out _ kD).keeps hK3 (by omega), PS.nil _⟩

theorem Make_any (s : ByteArray) (hs : s.size ≤ 9000000000000000000) (w : World) :
    Calls Tryz.prog 137 #[.string s] w fun e w' => ∃ v, e = .returned (.tuple #[v, .string (makeR s).2.1, .int .i64 (makeR s).2.2]) ∧ Keeps (fun _ => False) w w' ∧ PS w' v (makeR s).1 :=
  callsIn_wide.1 (Make_in 5 (by omega) s hs w)
end Go.Proofs.YtdafneilalompaaGreatDoor
