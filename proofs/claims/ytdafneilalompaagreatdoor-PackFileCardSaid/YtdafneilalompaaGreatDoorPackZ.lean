/- pack's visit of anything; Tree. Conditions: those that each theorem names. pack.Tree, where nothing is refused. Conditions: those that each theorem names. -/
import Derived.Test.YtdafneilalompaaGreatDoorDef0
import Derived.Laws.EntriesVeiled
namespace Go.Proofs.YtdafneilalompaaGreatDoor
section
open Go Go.RowKit
open Go.ChangeMaps (setBlock)

/-- What a visit adds: items, and what was met; n: how deep it may go. None: it is not told here (it is refused, or too great). -/
def visitR (S : St) (s : ByteArray) : Nat → ByteArray → Trd → Option Trd
  | 0, _, _ => none
  | n + 1, p, st =>
    if 1000000000000 ≤ st.1.length then none else
    if (toR S (atR s p) false).2 ≠ 0 then none else
    match st.2.lookup (toR S (atR s p) false).1.2.2 with
    | some k => some (st.1 ++ [⟨p, (S.nd (toR S (atR s p) false).1.2.2).kind, 0, ⟨#[]⟩, [], k⟩], st.2)
    | none =>
      if (S.nd (toR S (atR s p) false).1.2.2).kind = 1 then
        match (S.nd (toR S (atR s p) false).1.2.2).pcs with
        | some (_, L) =>
          if fileR S (atR s p) = ((toR S (atR s p) false).1.2.2, 0) then
            some (st.1 ++ [⟨p, 1, (S.nd (toR S (atR s p) false).1.2.2).size, ⟨(dataOf (fillTo L (S.nd (toR S (atR s p) false).1.2.2).size.toNat (fillN (S.nd (toR S (atR s p) false).1.2.2).size.toNat))).toArray⟩, pcsOf (fillTo L (S.nd (toR S (atR s p) false).1.2.2).size.toNat (fillN (S.nd (toR S (atR s p) false).1.2.2).size.toNat)), -1⟩], upd (toR S (atR s p) false).1.2.2 (st.1.length : Int) st.2)
          else none
        | none => none
      else if (S.nd (toR S (atR s p) false).1.2.2).kind = 3 then
        some (st.1 ++ [⟨p, 3, (S.nd (toR S (atR s p) false).1.2.2).text.size, (S.nd (toR S (atR s p) false).1.2.2).text, [], -1⟩], upd (toR S (atR s p) false).1.2.2 (st.1.length : Int) st.2)
      else if (S.nd (toR S (atR s p) false).1.2.2).kind = 2 then
        match (S.nd (toR S (atR s p) false).1.2.2).nms with
        | some (_, L) =>
          if (toR S (atR s p) true).2 = 0 ∧ (toR S (atR s p) true).1.2.2 = (toR S (atR s p) false).1.2.2 then
            (sortB (L.map (·.1))).foldlM (fun st nm => visitR S s n (subR p nm) st) (st.1 ++ [⟨p, 2, 0, ⟨#[]⟩, [], -1⟩], st.2)
          else none
        | none => none
      else none
theorem subR_size (p nm : ByteArray) : (subR p nm).size ≤ p.size + 1 + nm.size := by
  have h1 : p.size = p.data.toList.length := Lib.size_eq p
  have h2 : nm.size = nm.data.toList.length := Lib.size_eq nm
  have : (Lib.trimPrefix (p.data.toList ++ 47 :: nm.data.toList) [47]).length ≤ p.size + 1 + nm.size := by
    unfold Lib.trimPrefix
    split
    · rw [List.length_drop, List.length_append, List.length_cons]; omega
    · rw [List.length_append, List.length_cons]; omega
  show (Lib.trimPrefix (p.data.toList ++ 47 :: nm.data.toList) [47]).toArray.size ≤ _
  simpa using this

theorem visit_ok {w0 : World} {S : St} (h : Rep w0 S) (hS : S.u = .slice none 0 0) (hw : S.Wf) (hnames : ∀ i ∈ S.keys, ∀ b L, (S.nd i).nms = some (b, L) → ∀ q ∈ L, q.1.size ≤ 1000000) {T : TV} (hTF : T.F = S.F) (hs : T.s.size ≤ 1000000) :
    ∀ (n : Nat) (p : ByteArray) (st st' : Trd), visitR S T.s n p st = some st' → p.size + 1000001 * n ≤ 1000000000 → ∀ w, TM w0 T w st.1 st.2 →
      Calls Tryz.prog 33 #[.string p, .pointer (some ⟨T.bs, 0, none⟩), .pointer (some ⟨T.bf, 0, none⟩), .pointer (some ⟨T.bm, 0, none⟩), .pointer (some ⟨T.bl, 0, none⟩), .pointer (some ⟨T.bv, 0, none⟩)] w fun e w' =>
        e = .returned (.tuple #[]) ∧ TM w0 T w' st'.1 st'.2 ∧ Keeps (T.X w0 w) w w'
  | 0, p, st, st', hv, _, _, _ => by simp [visitR] at hv
  | n + 1, p, st, st', hv, hp, w, hm => by
    have hp2 : p.size ≤ 1000000000 := by omega
    rw [visitR] at hv
    by_cases hl : 1000000000000 ≤ st.1.length
    · rw [if_pos hl] at hv; cases hv
    rw [if_neg hl] at hv
    have hl2 : st.1.length < 1000000000000 := by omega
    by_cases hR2 : (toR S (atR T.s p) false).2 ≠ 0
    · rw [if_pos hR2] at hv; cases hv
    rw [if_neg hR2] at hv
    have hR3 : (toR S (atR T.s p) false).2 = 0 := by simpa using hR2
    have hin := (toR_ok hw (atR T.s p) false hR3).2
    cases hlk : st.2.lookup (toR S (atR T.s p) false).1.2.2 with
    | some k =>
      rw [hlk] at hv
      simp only [Option.some.injEq] at hv
      subst hv
      exact visit_met h hS hw hTF hm p hs hp2 _ rfl _ rfl hR3 _ rfl _ rfl k hlk hl2
    | none =>
      rw [hlk] at hv
      simp only at hv
      by_cases hk1 : (S.nd (toR S (atR T.s p) false).1.2.2).kind = 1
      · rw [if_pos hk1] at hv
        cases hpc : (S.nd (toR S (atR T.s p) false).1.2.2).pcs with
        | none => rw [hpc] at hv; cases hv
        | some q =>
          obtain ⟨b, L⟩ := q
          rw [hpc] at hv
          simp only at hv
          by_cases hF : fileR S (atR T.s p) = ((toR S (atR T.s p) false).1.2.2, 0)
          · rw [if_pos hF] at hv
            simp only [Option.some.injEq] at hv
            subst hv
            have hz := (hw.sizes _ hin).1
            have hsz : (S.nd (toR S (atR T.s p) false).1.2.2).size = ((S.nd (toR S (atR T.s p) false).1.2.2).size.toNat : Nat) := by omega
            have := visit_file h hS hw hTF hm p hs hp2 _ rfl _ rfl hR3 _ rfl _ rfl hk1 hlk hl2 hpc _ hsz hF hin
            rw [← hsz] at this
            exact this
          · rw [if_neg hF] at hv; cases hv
      · rw [if_neg hk1] at hv
        by_cases hk3 : (S.nd (toR S (atR T.s p) false).1.2.2).kind = 3
        · rw [if_pos hk3] at hv
          simp only [Option.some.injEq] at hv
          subst hv
          exact visit_link h hS hw hTF hm p hs hp2 _ rfl _ rfl hR3 _ rfl _ rfl hk3 hlk hl2
        · rw [if_neg hk3] at hv
          by_cases hk2 : (S.nd (toR S (atR T.s p) false).1.2.2).kind = 2
          · rw [if_pos hk2] at hv
            cases hnm : (S.nd (toR S (atR T.s p) false).1.2.2).nms with
            | none => rw [hnm] at hv; cases hv
            | some q =>
              obtain ⟨b, L⟩ := q
              rw [hnm] at hv
              simp only at hv
              by_cases hT : (toR S (atR T.s p) true).2 = 0 ∧ (toR S (atR T.s p) true).1.2.2 = (toR S (atR T.s p) false).1.2.2
              · rw [if_pos hT] at hv
                have hns := hnames _ hin b L hnm
                refine visit_dir h hS hw hTF hm p hs hp2 _ rfl _ rfl hR3 _ rfl _ rfl hk2 hlk hl2 hnm hns hT.1 hT.2 (fun nm st => visitR S T.s n (subR p nm) st) st' ?_ hv
                intro nm hnmem st1 st2 hst W hW
                refine visit_ok h hS hw hnames hTF hs n (subR p nm) st1 st2 hst ?_ W hW
                rw [sortB_mem] at hnmem
                obtain ⟨q, hq, rfl⟩ := List.mem_map.1 hnmem
                have h1 := hns q hq
                have h2 := subR_size p q.1
                omega
              · rw [if_neg hT] at hv; cases hv
          · rw [if_neg hk2] at hv; cases hv
end
section
open Go Go.RowKit
open Go.ChangeMaps (setBlock)

def treeT (w : World) (F : Nat) (s : ByteArray) : TV := { bs := w.heap.size + 1, bf := w.heap.size, bm := w.heap.size + 1 + 1 + 1 + 1 + 1, bl := w.heap.size + 1 + 1, bv := w.heap.size + 1 + 1 + 1 + 1 + 1 + 1, mm := w.heap.size + 1 + 1 + 1 + 1, s := s, F := F }
def treeW (w : World) (F : Nat) (s : ByteArray) : World :=
  ((((((w.alloc (.cells #[.iface 25 (.pointer (some ⟨F, 0, none⟩))] 79)).alloc (.cells #[.string s] 9)).alloc (.cells #[.slice none 0 0] 34)).alloc (.cells #[.int .i64 0] 31)).alloc (.map #[] 0)).alloc (.cells #[.map (some (w.heap.size + 1 + 1 + 1 + 1))] 81)).alloc
    (.cells #[.func (.func 33) #[] #[.pointer (some ⟨w.heap.size + 1, 0, none⟩), .pointer (some ⟨w.heap.size, 0, none⟩), .pointer (some ⟨w.heap.size + 1 + 1 + 1 + 1 + 1, 0, none⟩), .pointer (some ⟨w.heap.size + 1 + 1, 0, none⟩), .pointer (some ⟨w.heap.size + 1 + 1 + 1 + 1 + 1 + 1, 0, none⟩)]] 82)
theorem MapB.new' {w : World} {n : Nat} (hn : n = w.heap.size) : MapB (w.alloc (.map #[] 0)) n [] := hn ▸ MapB.new w
theorem treeW_ok (w : World) (F : Nat) (s : ByteArray) : TM w (treeT w F s) (treeW w F s) [] [] ∧ Blk (treeW w F s) (w.heap.size + 1 + 1 + 1) #[.int .i64 0] 31 := by
  have k : Keeps (fun _ => False) w (treeW w F s) := ((((((((Keeps.refl _ w).alloc _).alloc _).alloc _).alloc _).alloc _).alloc _).alloc _)
  refine ⟨⟨?_, ?_, ?_, ?_, ⟨.slice none 0 0, [], ?_, rfl, ⟨rfl, Or.inl ⟨rfl, rfl⟩⟩, fun q hq => by cases hq⟩, ?_, k.mono (fun _ _ x => x.elim), by simp [treeT]; omega⟩, ?_⟩
  · exact (((((Blk.new' (by simp [treeT]) _ _).alloc _).alloc _).alloc _).alloc _).alloc _
  · exact ((((((Blk.new' (by simp [treeT]) _ _).alloc _).alloc _).alloc _).alloc _).alloc _).alloc _
  · exact (Blk.new' (by simp [treeT]) _ _).alloc _
  · exact Blk.new' (by simp [treeT]) _ _
  · exact ((((Blk.new' (by simp [treeT]) _ _).alloc _).alloc _).alloc _).alloc _
  · exact MapB.alloc (MapB.alloc (MapB.new' (by simp [treeT])) _) _
  · exact (((Blk.new' (by simp) _ _).alloc _).alloc _).alloc _

set_option maxRecDepth 100000 in
set_option maxHeartbeats 4000000 in
theorem Tree_ok {w : World} {S : St} (h : Rep w S) (hS : S.u = .slice none 0 0) (hw : S.Wf) (hnames : ∀ i ∈ S.keys, ∀ b L, (S.nd i).nms = some (b, L) → ∀ q ∈ L, q.1.size ≤ 1000000) (s : ByteArray) (hs : s.size ≤ 1000000) (n : Nat) (hn : n ≤ 900) (st' : Trd) (hv : visitR S s n ⟨#[]⟩ ([], []) = some st') :
    Calls Tryz.prog 11 #[ifc S.F, .string s] w fun e w' => ∃ v L, e = .returned (.tuple #[v, .int .i64 0]) ∧ ItemsAt w' w.heap.size v st'.1 L ∧ Keeps (fun _ => False) w w' := by
  have hmf := run_makeFunc_any
  have hmm := @run_makeMap Tryz.prog
  have HA := Lib.hid (And.intro h (And.intro hS hv))
  clear h hS hv
  unfold ifc
  go_enter_defers Tryz.func11, Tryz.ntmps11
  go_upto_region 6 with fail
  change Code.wp _ _ _ _ (treeW w S.F s)
  obtain ⟨h, hS, hv⟩ := HA.out
  obtain ⟨hm, hE⟩ := treeW_ok w S.F s
  have hvis : Calls Tryz.prog 33 #[.string ⟨#[]⟩, .pointer (some ⟨w.heap.size + 1, 0, none⟩), .pointer (some ⟨w.heap.size, 0, none⟩), .pointer (some ⟨w.heap.size + 1 + 1 + 1 + 1 + 1, 0, none⟩), .pointer (some ⟨w.heap.size + 1 + 1, 0, none⟩), .pointer (some ⟨w.heap.size + 1 + 1 + 1 + 1 + 1 + 1, 0, none⟩)] (treeW w S.F s) fun e w' =>
      e = .returned (.tuple #[]) ∧ TM w (treeT w S.F s) w' st'.1 st'.2 ∧ Keeps ((treeT w S.F s).X w (treeW w S.F s)) (treeW w S.F s) w' :=
    visit_ok h hS hw hnames (T := treeT w S.F s) rfl hs n ⟨#[]⟩ ([], []) st' hv (by show 0 + 1000001 * n ≤ _; omega) _ hm
  have cv : (treeW w S.F s).cell? ⟨w.heap.size + 1 + 1 + 1 + 1 + 1 + 1, 0, none⟩ = some (.func (.func 33) #[] #[.pointer (some ⟨w.heap.size + 1, 0, none⟩), .pointer (some ⟨w.heap.size, 0, none⟩), .pointer (some ⟨w.heap.size + 1 + 1 + 1 + 1 + 1, 0, none⟩), .pointer (some ⟨w.heap.size + 1 + 1, 0, none⟩), .pointer (some ⟨w.heap.size + 1 + 1 + 1 + 1 + 1 + 1, 0, none⟩)]) := hm.v.cell 0
  have HV := Lib.hid (And.intro hvis hE)
  clear h hS hv hvis hE hm
  generalize treeW w S.F s = W at HV cv ⊢
  go_wp2_with fail
  refine HV.out.1.mono ?_
  rintro e w1 ⟨rfl, hm1, hk1⟩
  obtain ⟨v, L, hbl, hit⟩ := hm1.l
  have hE1 : Blk w1 (w.heap.size + 1 + 1 + 1) #[.int .i64 0] 31 := by
    refine HV.out.2.keeps hk1 ?_
    rintro (e | e | ⟨_, cs, f, e⟩)
    · simp [treeT] at e
    · simp [treeT] at e
    · rw [show W.heap[_]? = _ from HV.out.2] at e; cases e
  obtain ⟨va, vc, rfl⟩ := ownsRow_form hit.row
  have cl : w1.cell? ⟨w.heap.size + 1 + 1, 0, none⟩ = some (.slice va st'.1.length vc) := hbl.cell 0
  have fl : w1.frozen? ⟨w.heap.size + 1 + 1, 0, none⟩ = false := hbl.frz 0
  have ce : w1.cell? ⟨w.heap.size + 1 + 1 + 1, 0, none⟩ = some (.int .i64 0) := hE1.cell 0
  have fe : w1.frozen? ⟨w.heap.size + 1 + 1 + 1, 0, none⟩ = false := hE1.frz 0
  have HX := Lib.hid (And.intro hm1 (And.intro hbl (And.intro hit hE1)))
  clear hm1 hbl hit hE1 hk1 cv
  go_wp2_with fail
  obtain ⟨hm1, hbl, hit, hE1⟩ := HX.out
  have es1 : w1.setCell ⟨w.heap.size + 1 + 1, 0, none⟩ (.slice va st'.1.length vc) = w1 := setCell_same hbl 0 _ rfl
  have es2 : w1.setCell ⟨w.heap.size + 1 + 1 + 1, 0, none⟩ (.int .i64 0) = w1 := setCell_same hE1 0 _ rfl
  rw [es1, es2]
  refine leaves_cons (f := 31) (args := #[.pointer (some ⟨w.heap.size + 1 + 1 + 1, 0, none⟩)]) (by simp) (by simp [go_sem]) ?_
  refine (tree2_idle _ 0 w1 ce fe).mono ?_
  rintro e u' w'' ⟨rfl, rfl, rfl⟩
  have es3 : w1.drew.setCell ⟨w.heap.size + 1 + 1 + 1, 0, none⟩ (.int .i64 0) = w1.drew := setCell_same hE1.drew 0 _ rfl
  rw [es3]
  refine leaves_cons (f := 30) (args := #[.pointer (some ⟨w.heap.size + 1 + 1 + 1, 0, none⟩), .pointer (some ⟨w.heap.size + 1 + 1, 0, none⟩)]) (by simp [settle]) (by simp [go_sem]) ?_
  refine (tree1_idle _ _ w1.drew (hE1.drew.cell 0)).mono ?_
  rintro e u' w'' ⟨rfl, rfl, rfl⟩
  refine ⟨.tuple #[.slice va st'.1.length vc, .int .i64 0], results_cells rfl _ _ _ rfl rfl (run_loadVar_one Tryz.underlying34 rfl (hbl.drew.cell 0)) (run_loadVar_one Tryz.underlying31 rfl (hE1.drew.cell 0)), .slice va st'.1.length vc, L, rfl, ?_, ?_⟩
  · exact hit.after (Keeps.refl (fun _ => False) w1).drew (fun _ _ _ _ x => x.elim)
  · exact (hm1.keeps.drew).mono (fun c hc e => by omega)
end
end Go.Proofs.YtdafneilalompaaGreatDoor
