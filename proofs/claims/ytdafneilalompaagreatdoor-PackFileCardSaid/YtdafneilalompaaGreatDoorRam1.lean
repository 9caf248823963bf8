/- The helpers of a call of ram.FS that change one thing and note how it is undone: back, links, resize. Conditions: those that each theorem names. -/
import Derived.Test.YtdafneilalompaaGreatDoorRam0
namespace Go.Proofs.YtdafneilalompaaGreatDoor
open Go Go.RowKit Go.MapKept
open Go.ChangeMaps (setBlock)
theorem Tryz.info1 : (Tryz.prog.info? 1).map (fun i => (i.zero, i.size, i.bytes)) = some (some .nilFunc, 1, 8) := by kernel_rfl
theorem run_makeFunc_any (fn : Fn) (first cap : Array Value) (w : World) : (Instr.makeFunc fn first cap).run Tryz.prog w = .ok (.func fn first cap) w := rfl

set_option maxRecDepth 100000 in
set_option maxHeartbeats 400000 in
theorem back_any (w : World) (F B f : Nat) (u : Value) (cap : Array Value) (xs : List Value)
    (h6 : w.cell? ⟨F, 6, none⟩ = some u) (hz : w.frozen? ⟨F, 6, none⟩ = false) (hown : w.ownsRow B 1 1 u xs.length xs) (hFB : F < B) (hB : B ≤ w.heap.size) (hn : xs.length ≤ 1000000) :
    Calls Tryz.prog 195 #[.pointer (some ⟨F, 0, none⟩), .func (.func f) #[] cap] w fun e w' => e = .returned (.tuple #[]) ∧
      ∃ u' w1, w1.ownsRow B 1 1 u' (xs.length + 1) (xs ++ [.func (.func f) #[] cap]) ∧ w.grownBy w1 u.ownBlock ∧ w' = w1.setCell ⟨F, 6, none⟩ u' := by
  obtain ⟨i0, hi, hz0, hz1, hz2⟩ := info_parts Tryz.info1
  have hF : F < w.heap.size := by omega
  have hne : ¬ u.ownBlock = some F := by
    intro e
    rcases hown.2 with ⟨hu, _⟩ | ⟨g, c, cur, hu, hg, _⟩
    · rw [hu] at e; simp [Value.ownBlock] at e
    · rw [hu] at e; simp [Value.ownBlock] at e; omega
  go_enter Tryz.func195, Tryz.ntmps195
  go_wp2_with (first | (at_builtin; refine wpList_append_own _ rfl _ _ 113 rfl B 1 i0 .nilFunc 1 8 Tryz.underlying113 hi hz0 hz1 hz2 rfl (by decide) _ _ _ rfl (hown.alloc _) ⟨w.heap.size, 0, none⟩ 1 1 [.func (.func f) #[] cap] rfl rfl ?c1 ?c2 ?c3 ?c4 ?c5 ?_) | fail)
  case c1 => exact cell_one_new _ _ _
  case c2 => simp [Value.oneCell']
  case c3 => simp only [maxLen]; omega
  case c4 => omega
  case c5 => simp; omega
  intro v' w1 hown1 hg1 _
  have hg0 : w.grownBy w1 u.ownBlock := (World.grownBy_alloc w _ u.ownBlock).andThen hg1 (fun _ e => Or.inr e)
  have h61 : w1.cell? ⟨F, 6, none⟩ = some u := (World.cell?_of_block (hg0.block F hF (fun e => hne e.symm))).trans h6
  have hz1' : w1.frozen? ⟨F, 6, none⟩ = false := (World.frozen?_of_block (hg0.block F hF (fun e => hne e.symm))).trans hz
  obtain ⟨a', c', hv'⟩ : ∃ a c, v' = .slice a (xs.length + 1) c := by
    rcases hown1.2 with ⟨h, _⟩ | ⟨g, c, _, h, _⟩
    · exact absurd h ‹_›
    · exact ⟨_, _, h⟩
  rw [hv']
  rw [hv'] at hown1
  clear hv'
  go_wp2
  go_end0
  exact ⟨rfl, _, w1, hown1, hg0, rfl⟩

theorem back_rep {w : World} {S : St} (h : Rep w S) (f : Nat) (cap : Array Value) (hn : S.us.length ≤ 1000000) :
    Calls Tryz.prog 195 #[.pointer (some ⟨S.F, 0, none⟩), .func (.func f) #[] cap] w fun e w' => e = .returned (.tuple #[]) ∧ ∃ u', Rep w' (S.undo u' (.func (.func f) #[] cap)) ∧ Keeps S.foot w w' := by
  refine (back_any w S.F S.B f S.u cap S.us (h.F.cell 6) (h.F.frz 6) h.row h.Flt h.B hn).mono ?_
  rintro e w' ⟨rfl, u', w1, h1, h2, rfl⟩
  exact ⟨rfl, u', h.back h1 h2⟩

set_option maxRecDepth 100000 in
set_option maxHeartbeats 400000 in
theorem links_rep {w : World} {S : St} (h : Rep w S) {i : Int} (hi : i ∈ S.keys) (l by_ : Int) (N : Nat) (hN : N = (S.nd i).blk) (hl : (S.nd i).links = l) (h1 : -1 ≤ by_) (h2 : by_ ≤ 1) (h3 : 0 ≤ l) (h4 : l ≤ 1000000) (hn : S.us.length ≤ 1000000) :
    Calls Tryz.prog 134 #[.pointer (some ⟨S.F, 0, none⟩), .pointer (some ⟨N, 0, none⟩), .int .i64 by_] w fun e w' => e = .returned (.tuple #[]) ∧
      ∃ u' bN bB, Rep w' ((S.put i { S.nd i with links := l + by_ }).undo u' (.func (.func 197) #[] #[.pointer (some ⟨bN, 0, none⟩), .pointer (some ⟨bB, 0, none⟩)])) ∧ Keeps S.foot w w' ∧
        w.heap.size ≤ bN ∧ w.heap.size ≤ bB ∧ Blk w' bN #[.pointer (some ⟨N, 0, none⟩)] 107 ∧ Blk w' bB #[.int .i64 by_] 3 := by
  have hmf := run_makeFunc_any
  have hb := (h.nds i hi).blk
  rw [← hN] at hb
  have hc : w.cell? ⟨N, 1, none⟩ = some (.int .i64 l) := by rw [hb.cell, ← hl]; rfl
  have hz := hb.frz 1
  have hNl := hb.lt
  have hNk := hb.ltk
  have HS := Lib.hid (h.setField hi hN 1 (.int .i64 (l + by_)) (x := { S.nd i with links := l + by_ }) rfl rfl rfl rfl)
  have HE : Hid (N = (S.nd i).blk ∧ (S.nd i).links = l) := ⟨hN, hl⟩
  clear hN hl hb
  go_enter Tryz.func134, Tryz.ntmps134
  go_wp2_with fail
  go_region
  go_wp2_with fail
  obtain ⟨hR, hK⟩ := HS.out
  have hB := h.B
  have hbN := ((Blk.new' (w := w.setCell ⟨N, 1, none⟩ (.int .i64 (l + by_))) (n := w.heap.size) (by simp) #[.pointer (some ⟨N, 0, none⟩)] 107).alloc (.cells #[.int .i64 by_] 3)).drew
  have hbB := (Blk.new' (w := (w.setCell ⟨N, 1, none⟩ (.int .i64 (l + by_))).alloc (.cells #[.pointer (some ⟨N, 0, none⟩)] 107)) (n := w.heap.size + 1) (by simp) #[.int .i64 by_] 3).drew
  have hR1 := ((hR.alloc (.cells #[.pointer (some ⟨N, 0, none⟩)] 107)).alloc (.cells #[.int .i64 by_] 3)).drew
  refine (back_rep hR1 197 _ hn).mono ?_
  rintro e w' ⟨rfl, u', hR', hK'⟩
  go_wp2
  go_end0
  exact ⟨rfl, u', w.heap.size, w.heap.size + 1, hR', ((hK.alloc _).alloc _).drew.then hK', Nat.le_refl _, Nat.le_succ _,
    hbN.keeps hK' (hR1.off hB hbN (by decide)), hbB.keeps hK' (hR1.off (Nat.le_succ_of_le hB) hbB (by decide))⟩
set_option maxRecDepth 100000 in
set_option maxHeartbeats 400000 in
theorem resize_rep {w : World} {S : St} (h : Rep w S) {i : Int} (hi : i ∈ S.keys) (z : Int) (N : Nat) (hN : N = (S.nd i).blk) (l : Int) (hl : (S.nd i).size = l) (hn : S.us.length ≤ 1000000) :
    Calls Tryz.prog 205 #[.pointer (some ⟨S.F, 0, none⟩), .pointer (some ⟨N, 0, none⟩), .int .i64 z] w fun e w' => e = .returned (.tuple #[]) ∧
      ∃ u' bN bB, Rep w' ((S.put i { S.nd i with size := z }).undo u' (.func (.func 237) #[] #[.pointer (some ⟨bB, 0, none⟩), .pointer (some ⟨bN, 0, none⟩)])) ∧ Keeps S.foot w w' ∧
        w.heap.size ≤ bN ∧ w.heap.size ≤ bB ∧ Blk w' bN #[.pointer (some ⟨N, 0, none⟩)] 107 ∧ Blk w' bB #[.int .i64 l] 3 := by
  have hmf := run_makeFunc_any
  have hb := (h.nds i hi).blk
  rw [← hN] at hb
  have hc : w.cell? ⟨N, 2, none⟩ = some (.int .i64 l) := by rw [hb.cell, ← hl]; rfl
  have hz := hb.frz 2
  have hNl := hb.lt
  have hNk := hb.ltk
  have HS := Lib.hid (h.setField hi hN 2 (.int .i64 z) (x := { S.nd i with size := z }) rfl rfl rfl rfl)
  clear hN hl hb
  go_enter Tryz.func205, Tryz.ntmps205
  go_wp2_with fail
  obtain ⟨hR, hK⟩ := HS.out
  have hB := h.B
  have hbN := ((Blk.new' (w := w.setCell ⟨N, 2, none⟩ (.int .i64 z)) (n := w.heap.size) (by simp) #[.pointer (some ⟨N, 0, none⟩)] 107).alloc (.cells #[.int .i64 l] 3))
  have hbB := (Blk.new' (w := (w.setCell ⟨N, 2, none⟩ (.int .i64 z)).alloc (.cells #[.pointer (some ⟨N, 0, none⟩)] 107)) (n := w.heap.size + 1) (by simp) #[.int .i64 l] 3)
  have hR1 := ((hR.alloc (.cells #[.pointer (some ⟨N, 0, none⟩)] 107)).alloc (.cells #[.int .i64 l] 3))
  refine (back_rep hR1 237 _ hn).mono ?_
  rintro e w' ⟨rfl, u', hR', hK'⟩
  go_wp2
  go_end0
  exact ⟨rfl, u', w.heap.size, w.heap.size + 1, hR', ((hK.alloc _).alloc _).then hK', Nat.le_refl _, Nat.le_succ _,
    hbN.keeps hK' (hR1.off hB hbN (by decide)), hbB.keeps hK' (hR1.off (Nat.le_succ_of_le hB) hbB (by decide))⟩

set_option maxRecDepth 100000 in
set_option maxHeartbeats 400000 in
theorem at_any {w : World} {S : St} (h : Rep w S) (i : Int) :
    Calls Tryz.prog 121 #[.pointer (some ⟨S.F, 0, none⟩), .int .i64 i] w fun e w' => e = .returned (if i ∈ S.keys then ndPtr (S.nd i) else .pointer none) ∧ w = w' := by
  have h5 : w.cell? ⟨S.F, 5, none⟩ = some (.map (some S.M)) := h.F.cell 5
  have hf := h.find i w rfl
  by_cases hm : i ∈ S.keys
  · simp only [hm, if_true] at hf ⊢
    go_enter Tryz.func121, Tryz.ntmps121
    go_wp2
    go_ret
    exact ⟨rfl, rfl⟩
  · simp only [hm, if_false] at hf ⊢
    go_enter Tryz.func121, Tryz.ntmps121
    go_wp2
    go_ret
    exact ⟨rfl, rfl⟩

set_option maxRecDepth 100000 in
set_option maxHeartbeats 400000 in
theorem isDir_any (w : World) (b : Nat) (k : Int) (h : w.cell? ⟨b, 0, none⟩ = some (.int .i64 k)) :
    Calls Tryz.prog 129 #[.pointer (some ⟨b, 0, none⟩)] w fun e w' => e = .returned (.bool (k == 2)) ∧ w = w' := by
  go_enter Tryz.func129, Tryz.ntmps129
  go_wp2
  go_ret
  exact ⟨rfl, rfl⟩

set_option maxRecDepth 100000 in
set_option maxHeartbeats 400000 in
theorem has_any {w : World} {S : St} (h : Rep w S) (i : Int) :
    Calls Tryz.prog 229 #[.pointer (some ⟨S.F, 0, none⟩), .int .i64 i] w fun e w' => e = .returned (.tuple (if i ∈ S.keys then #[ndPtr (S.nd i), .int .i64 0] else #[.pointer none, .int .i64 110])) ∧ w = w' := by
  have h5 : w.cell? ⟨S.F, 5, none⟩ = some (.map (some S.M)) := h.F.cell 5
  have hf := h.findOk i w rfl
  by_cases hm : i ∈ S.keys
  · simp only [hm, if_true, decide_true] at hf ⊢
    go_enter Tryz.func229, Tryz.ntmps229
    go_wp2
    go_ret2
    exact ⟨rfl, rfl⟩
  · simp only [hm, if_false, decide_false] at hf ⊢
    go_enter Tryz.func229, Tryz.ntmps229
    go_wp2
    go_ret2
    exact ⟨rfl, rfl⟩

set_option maxRecDepth 100000 in
set_option maxHeartbeats 400000 in
theorem isRoot_any (w : World) (c : Value) (s : ByteArray) (i : Value) (hc : c.oneCell' = true) (hi : i.oneCell' = true) :
    Calls Tryz.prog 128 #[.agg #[c, .string s, i]] w fun e w' => e = .returned (.bool s.toList.isEmpty) ∧ w' = w.alloc (.cells #[c, .string s, i] 201) := by
  go_enter Tryz.func128, Tryz.ntmps128
  go_wp2
  go_ret
  exact ⟨rfl, rfl⟩

set_option maxRecDepth 100000 in
set_option maxHeartbeats 400000 in
theorem dir_any (w : World) (c s i : Value) (b n cap : Nat) (d : Int) (hs : s.oneCell' = true) (hi : i.oneCell' = true) (hn : n + 1 ≤ 1000000) (hd : w.cell? ⟨b, n, none⟩ = some (.int .i64 d)) :
    Calls Tryz.prog 131 #[.agg #[.slice (some ⟨b, 0, none⟩) (n + 1) cap, s, i]] w fun e w' => e = .returned (.int .i64 d) ∧ w' = w.alloc (.cells #[.slice (some ⟨b, 0, none⟩) (n + 1) cap, s, i] 201) := by
  have hlt := World.block_lt_of_cell? _ _ hd
  go_enter Tryz.func131, Tryz.ntmps131
  go_wp2
  go_ret
  exact ⟨rfl, rfl⟩

set_option maxRecDepth 100000 in
set_option maxHeartbeats 400000 in
/-- A name comes into a directory that has room for it. -/
theorem put_room {w : World} {S : St} (h : Rep w S) {i : Int} (hi : i ∈ S.keys) {b : Nat} {L : List (ByteArray × Int)} (hp : (S.nd i).nms = some (b, L)) (name : ByteArray) (n : Int) (l k : Nat) (bl : Int) (hL : L.length = l) (hbl : (S.nd i).blocks = bl) (hk : bl = k) (hroom : l < 16 * k) (hk2 : k ≤ 1000000) (hn : S.us.length ≤ 1000000) :
    Calls Tryz.prog 142 #[.pointer (some ⟨S.F, 0, none⟩), .int .i64 i, .string name, .int .i64 n] w fun e w' => e = .returned (.tuple #[]) ∧
      ∃ u' bD bN, Rep w' ((S.put i { S.nd i with nms := some (b, upd name n L) }).undo u' (.func (.func 206) #[] #[.pointer (some ⟨bD, 0, none⟩), .pointer (some ⟨bN, 0, none⟩)])) ∧ Keeps S.foot w w' ∧
        w.heap.size ≤ bD ∧ w.heap.size ≤ bN ∧ Blk w' bD #[ndPtr (S.nd i)] 107 ∧ Blk w' bN #[.string name] 9 := by
  have hmf := run_makeFunc_any
  obtain ⟨N, hN⟩ : ∃ N, (S.nd i).blk = N := ⟨_, rfl⟩
  have hat := at_any h i
  simp only [hi, if_true, ndPtr, hN] at hat ⊢
  have hb := (h.nds i hi).blk
  have hm := (h.nds i hi).nms b L hp
  rw [hN] at hb
  have hc4 : w.cell? ⟨N, 4, none⟩ = some (.map (some b)) := by rw [hb.cell]; simp [Nd.cells, hp]
  have hc5 : w.cell? ⟨N, 5, none⟩ = some (.int .i64 bl) := by rw [hb.cell]; simp [Nd.cells, hbl]
  have hNl := hb.lt
  have hNk := hb.ltk
  have hbl' := hm.1.lt
  have hbk : ∀ k, b < w.heap.size + k := fun k => by omega
  have hlen : ∀ W, ob W b = ob w b → (Builtin.len_ #[108] 3 #[.map (some b)]).run Tryz.prog W = .ok (.int .i64 l) W := fun W hW => by
    have := hm.1.len kStr (t := 108) (ty := 3) Tryz.underlying108 W hW
    rw [List.length_map, hL] at this
    exact this
  obtain ⟨o, hupd⟩ := hm.1.update kStr (t := 108) Tryz.underlying108 name (.int .i64 n)
  have hrun : ∀ W, ob W b = ob w b → (Instr.mapUpdate 108 (.map (some b)) (.string name) (.int .i64 n)).run Tryz.prog W = .ok () (setBlock W b o) := fun W hW => (hupd W hW).1
  have Hupd := Lib.hid hupd
  clear hupd
  subst hk
  have ht1 : ((l : Int) == (k : Int) * 16) = false := by simp; omega
  have HL := Lib.hid hL
  have HN := Lib.hid hN
  have Hp := Lib.hid hp
  have Hat := Lib.hid hat
  have Hbl := Lib.hid hbl
  clear hL hN hp hat hbl
  go_enter Tryz.func142, Tryz.ntmps142
  go_wp2_with (go_at_call 121; refine (at_any (h.alloc _) i).mono ?_; rintro e w' ⟨rfl, rfl⟩; simp only [hi, if_true, ndPtr, HN.out])
  go_region
  go_wp2_with fail
  go_region
  go_wp2_with fail
  have hR5 := (((h.alloc (.cells #[.string name] 9)).alloc (.cells #[.pointer (some ⟨N, 0, none⟩)] 107)).drew).drew
  have hbN := (((Blk.new' (w := w) rfl #[.string name] 9).alloc (.cells #[.pointer (some ⟨N, 0, none⟩)] 107)).drew).drew
  have hbD := ((Blk.new' (w := w.alloc (.cells #[.string name] 9)) (n := w.heap.size + 1) (by simp) #[.pointer (some ⟨N, 0, none⟩)] 107).drew).drew
  have hK5 : Keeps S.foot w _ := ((((Keeps.refl S.foot w).alloc (.cells #[.string name] 9)).alloc (.cells #[.pointer (some ⟨N, 0, none⟩)] 107)).drew).drew
  have hB := h.B
  have hmk := (Hupd.out _ (show ob (((w.alloc (.cells #[.string name] 9)).alloc (.cells #[.pointer (some ⟨N, 0, none⟩)] 107)).drew).drew b = ob w b by simp [hbl', hbk])).2
  rw [← upd_map] at hmk
  obtain ⟨hR6, hK6⟩ := hR5.setNms hi Hp.out hmk
  have hcN := hbN.keeps hK6 (hR5.off hB hbN (by decide))
  have hcD := hbD.keeps hK6 (hR5.off (Nat.le_succ_of_le hB) hbD (by decide))
  refine (back_rep hR6 206 _ hn).mono ?_
  rintro e w' ⟨rfl, u', hR', hK'⟩
  go_wp2
  go_end0
  rw [HN.out] at hR'
  exact ⟨rfl, u', w.heap.size + 1, w.heap.size, hR', (hK5.then hK6).then hK', Nat.le_succ _, Nat.le_refl _,
    hcD.keeps hK' (hR6.off (Nat.le_succ_of_le hB) hcD (by decide)), hcN.keeps hK' (hR6.off hB hcN (by decide))⟩
end Go.Proofs.YtdafneilalompaaGreatDoor
