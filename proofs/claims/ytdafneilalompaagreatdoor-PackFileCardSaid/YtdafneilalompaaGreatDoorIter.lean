/- slices.Sorted of maps.Keys, at a map of strings: the kit's contracts laid at this dump in plain words (lay-iter, lay-plain). -/
import Derived.Shelf.SlIter.Nil
import Derived.Shelf.SortM.Plain
import Derived.Shelf.SortM.SortNone
import Derived.Ground.GgzProg
import Derived.Ground.SlgmProg
import Derived.Test.YtdafneilalompaaGreatDoorProg
namespace Go.Proofs
open Go.Shelf
def Tryz.keys144_ren : Go.Shelf.Ren := ⟨fun | 7 => 144 | 10 => 209 | n => n, fun | 23 => 108 | 26 => 9 | 3 => 3 | 28 => 215 | 0 => 0 | 27 => 214 | 33 => 77 | 4 => 4 | n => n, fun | n => n⟩
theorem Tryz.keys144 : Go.Proofs.SlLaysZ.n7 Tryz.prog Tryz.keys144_ren := {
  mixed := by kernel_rfl
  f7 := ⟨Tryz.f144.name, by decide, Tryz.func144.trans (congrArg some (by kernel_rfl))⟩
  f10 := ⟨Tryz.f209.name, by decide, Tryz.func209.trans (congrArg some (by kernel_rfl))⟩
  t0 := Tryz.underlying0
  a0 := Tryz.isAgg0
  z0 := Tryz.sizeOf0
  v0 := Tryz.zeroValue0
  t4 := Tryz.underlying4
  a4 := Tryz.isAgg4
  z4 := Tryz.sizeOf4
  v4 := Tryz.zeroValue4
  t23 := Tryz.underlying108
  a23 := Tryz.isAgg108
  z23 := Tryz.sizeOf108
  v23 := Tryz.zeroValue108
  t26 := Tryz.underlying9
  a26 := Tryz.isAgg9
  z26 := Tryz.sizeOf9
  v26 := Tryz.zeroValue9
  t27 := Tryz.underlying214
  a27 := Tryz.isAgg214
  z27 := Tryz.sizeOf214
  v27 := Tryz.zeroValue214
  t28 := Tryz.underlying215
  a28 := Tryz.isAgg215
  z28 := Tryz.sizeOf215
  v28 := Tryz.zeroValue215
  t33 := Tryz.underlying77
  a33 := Tryz.isAgg77
  z33 := Tryz.sizeOf77
  v33 := Tryz.zeroValue77 }
def Tryz.sorted143_ren : Go.Shelf.Ren := ⟨fun | 6 => 143 | 8 => 207 | 9 => 208 | 11 => 238 | 13 => 240 | 12 => 239 | 23 => 260 | 24 => 261 | 14 => 251 | 15 => 252 | 16 => 253 | 17 => 254 | 18 => 255 | 19 => 256 | 20 => 257 | 21 => 258 | 22 => 259 | 25 => 271 | 26 => 272 | 27 => 273 | 28 => 274 | 29 => 275 | 30 => 242 | 31 => 279 | n => n, fun | 26 => 9 | 28 => 215 | 24 => 45 | 0 => 0 | 3 => 3 | 37 => 224 | 48 => 96 | 50 => 160 | 4 => 4 | 40 => 287 | 39 => 286 | 45 => 85 | 5 => 5 | 9 => 9 | 51 => 301 | 55 => 305 | 57 => 308 | 58 => 309 | 33 => 77 | n => n, fun | n => n⟩
theorem Tryz.sorted143 : Go.Proofs.SlLaysZ.n6 Tryz.prog Tryz.sorted143_ren := {
  mixed := by kernel_rfl
  f6 := ⟨Tryz.f143.name, by decide, Tryz.func143.trans (congrArg some (by kernel_rfl))⟩
  f8 := ⟨Tryz.f207.name, by decide, Tryz.func207.trans (congrArg some (by kernel_rfl))⟩
  f11 := ⟨Tryz.f238.name, by decide, Tryz.func238.trans (congrArg some (by kernel_rfl))⟩
  t0 := Tryz.underlying0
  a0 := Tryz.isAgg0
  z0 := Tryz.sizeOf0
  v0 := Tryz.zeroValue0
  t24 := Tryz.underlying45
  a24 := Tryz.isAgg45
  z24 := Tryz.sizeOf45
  v24 := Tryz.zeroValue45
  t26 := Tryz.underlying9
  a26 := Tryz.isAgg9
  z26 := Tryz.sizeOf9
  v26 := Tryz.zeroValue9
  t28 := Tryz.underlying215
  a28 := Tryz.isAgg215
  z28 := Tryz.sizeOf215
  v28 := Tryz.zeroValue215
  i26 := by kernel_rfl }
def Tryz.sort208_ren : Go.Shelf.Ren := ⟨fun | 6 => 208 | 8 => 240 | 9 => 239 | 19 => 260 | 20 => 261 | 21 => 251 | 22 => 252 | 23 => 253 | 24 => 254 | 25 => 255 | 26 => 256 | 27 => 257 | 28 => 258 | 29 => 259 | 36 => 271 | 31 => 272 | 32 => 273 | 37 => 274 | 38 => 275 | 39 => 242 | 41 => 279 | n => n, fun | 27 => 45 | 29 => 9 | 3 => 3 | 32 => 224 | 26 => 45 | 0 => 0 | 44 => 96 | 46 => 160 | 4 => 4 | 36 => 287 | 35 => 286 | 41 => 85 | 5 => 5 | 9 => 9 | 53 => 301 | 57 => 305 | 63 => 308 | 64 => 309 | n => n, fun | n => n⟩
theorem Tryz.sort208 : Go.Proofs.SlLaysM.n6 Tryz.prog Tryz.sort208_ren := {
  mixed := by kernel_rfl
  f6 := ⟨Tryz.f208.name, by decide, Tryz.func208.trans (congrArg some (by kernel_rfl))⟩
  f8 := Tryz.func240.trans (congrArg some (by kernel_rfl))
  f9 := ⟨Tryz.f239.name, by decide, Tryz.func239.trans (congrArg some (by kernel_rfl))⟩
  f19 := Tryz.func260.trans (congrArg some (by kernel_rfl))
  f20 := Tryz.func261.trans (congrArg some (by kernel_rfl))
  f21 := ⟨Tryz.f251.name, by decide, Tryz.func251.trans (congrArg some (by kernel_rfl))⟩
  f22 := ⟨Tryz.f252.name, by decide, Tryz.func252.trans (congrArg some (by kernel_rfl))⟩
  f23 := ⟨Tryz.f253.name, by decide, Tryz.func253.trans (congrArg some (by kernel_rfl))⟩
  f24 := ⟨Tryz.f254.name, by decide, Tryz.func254.trans (congrArg some (by kernel_rfl))⟩
  f25 := ⟨Tryz.f255.name, by decide, Tryz.func255.trans (congrArg some (by kernel_rfl))⟩
  f26 := ⟨Tryz.f256.name, by decide, Tryz.func256.trans (congrArg some (by kernel_rfl))⟩
  f27 := ⟨Tryz.f257.name, by decide, Tryz.func257.trans (congrArg some (by kernel_rfl))⟩
  f28 := ⟨Tryz.f258.name, by decide, Tryz.func258.trans (congrArg some (by kernel_rfl))⟩
  f29 := ⟨Tryz.f259.name, by decide, Tryz.func259.trans (congrArg some (by kernel_rfl))⟩
  f31 := Tryz.func272.trans (congrArg some (by kernel_rfl))
  f32 := Tryz.func273.trans (congrArg some (by kernel_rfl))
  f36 := ⟨Tryz.f271.name, by decide, Tryz.func271.trans (congrArg some (by kernel_rfl))⟩
  f37 := ⟨Tryz.f274.name, by decide, Tryz.func274.trans (congrArg some (by kernel_rfl))⟩
  f38 := ⟨Tryz.f275.name, by decide, Tryz.func275.trans (congrArg some (by kernel_rfl))⟩
  f39 := ⟨Tryz.f242.name, by decide, Tryz.func242.trans (congrArg some (by kernel_rfl))⟩
  f41 := ⟨Tryz.f279.name, by decide, Tryz.func279.trans (congrArg some (by kernel_rfl))⟩
  t0 := Tryz.underlying0
  a0 := Tryz.isAgg0
  z0 := Tryz.sizeOf0
  v0 := Tryz.zeroValue0
  t3 := Tryz.underlying3
  a3 := Tryz.isAgg3
  z3 := Tryz.sizeOf3
  v3 := Tryz.zeroValue3
  t4 := Tryz.underlying4
  a4 := Tryz.isAgg4
  z4 := Tryz.sizeOf4
  v4 := Tryz.zeroValue4
  t5 := Tryz.underlying5
  a5 := Tryz.isAgg5
  z5 := Tryz.sizeOf5
  v5 := Tryz.zeroValue5
  t9 := Tryz.underlying9
  a9 := Tryz.isAgg9
  z9 := Tryz.sizeOf9
  v9 := Tryz.zeroValue9
  t26 := Tryz.underlying45
  a26 := Tryz.isAgg45
  z26 := Tryz.sizeOf45
  v26 := Tryz.zeroValue45
  t27 := Tryz.underlying45
  a27 := Tryz.isAgg45
  z27 := Tryz.sizeOf45
  v27 := Tryz.zeroValue45
  t29 := Tryz.underlying9
  a29 := Tryz.isAgg9
  z29 := Tryz.sizeOf9
  v29 := Tryz.zeroValue9
  t32 := Tryz.underlying224
  a32 := Tryz.isAgg224
  z32 := Tryz.sizeOf224
  v32 := Tryz.zeroValue224
  t35 := Tryz.underlying286
  a35 := Tryz.isAgg286
  z35 := Tryz.sizeOf286
  v35 := Tryz.zeroValue286
  t36 := Tryz.underlying287
  a36 := Tryz.isAgg287
  z36 := Tryz.sizeOf287
  v36 := Tryz.zeroValue287
  t41 := Tryz.underlying85
  a41 := Tryz.isAgg85
  z41 := Tryz.sizeOf85
  v41 := Tryz.zeroValue85
  t44 := Tryz.underlying96
  a44 := Tryz.isAgg96
  z44 := Tryz.sizeOf96
  v44 := Tryz.zeroValue96
  t46 := Tryz.underlying160
  a46 := Tryz.isAgg160
  z46 := Tryz.sizeOf160
  v46 := Tryz.zeroValue160
  t53 := Tryz.underlying301
  a53 := Tryz.isAgg301
  z53 := Tryz.sizeOf301
  v53 := Tryz.zeroValue301
  t57 := Tryz.underlying305
  a57 := Tryz.isAgg305
  z57 := Tryz.sizeOf305
  v57 := Tryz.zeroValue305
  t63 := Tryz.underlying308
  a63 := Tryz.isAgg308
  z63 := Tryz.sizeOf308
  v63 := Tryz.zeroValue308
  t64 := Tryz.underlying309
  a64 := Tryz.isAgg309
  z64 := Tryz.sizeOf309
  v64 := Tryz.zeroValue309 }
open Go.RowKit Go.Maps Go.Sort
theorem Tryz.sorts143 (m : Nat) : AnyZ.SortsIn Tryz.prog Tryz.sorted143_ren Fence.wide m :=
  ⟨fun blk off cap ss W hH hblk hsz => callsIn_wide.2 (AnyM.slices_Sort_string Tryz.sort208 blk off cap ss W hH hblk hsz),
   fun p cap W => callsIn_wide.2 (AnyM.slices_Sort_string_none Tryz.sort208 p cap W)⟩

theorem Tryz.maps_Keys_144 (mb : Option Nat) (W : World) : CallsIn Fence.wide 5 Tryz.prog 144 #[.map mb] W fun e w' => e = .returned (.func (.func 209) #[] #[.pointer (some ⟨W.heap.size, 0, none⟩)]) ∧ w' = W.alloc (.cells #[.map mb] 108) :=
  AnyZ.keys_in Tryz.keys144 Fence.wide 5 trivial rfl mb W

set_option maxHeartbeats 1000000 in
theorem Tryz.slices_Sorted_keys_143_144 {H : Type} (b nn : Nat) (D0 : DataW H) (R : Value → Option (DataW H × List MemPlace)) (w : World) (hown : w.ownsMap Tryz.prog 9 R b nn D0) (hmax : Maps.size D0 ≤ maxLen) (hbytes : Maps.size D0 * 16 ≤ 140737488355328) :
    CallsIn Fence.wide 5 Tryz.prog 143 #[.func (.func 209) #[] #[.pointer (some ⟨w.heap.size, 0, none⟩)]] (w.alloc (.cells #[.map (some b)] 108)) fun e w' => ∃ (v : Value) (ss : List (List UInt8)), e = .returned v ∧ ss.Perm (strKeys D0) ∧
      w'.ownsRow (w.alloc (.cells #[.map (some b)] 108)).heap.size 9 1 v ss.length ((ss.mergeSort (fun x y => decide (x ≤ y))).map encStr) ∧ (v = .slice none 0 0 ↔ ss = []) ∧ Below (w.alloc (.cells #[.map (some b)] 108)).heap.size (w.alloc (.cells #[.map (some b)] 108)) w' := by
  have hbl := hown.lt
  have hseq : SeqGives Fence.wide 2 Tryz.prog 209 #[.pointer (some ⟨w.heap.size, 0, none⟩)] encStr (fun ss => ss.Perm (strKeys D0)) (Maps.size D0) (w.alloc (.cells #[.map (some b)] 108)) :=
    AnyZ.keys_gives (ρ := Tryz.keys144_ren) { Tryz.keys144 with } Fence.wide _ trivial rfl (by omega) w.heap.size b nn D0 _ (by simp) (by simp) (by
      obtain ⟨es, clock, hb, Ft, hs, hD⟩ := hown
      exact ⟨es, clock, (Below.heap_alloc _ _ b hbl).trans hb, Ft, hs, hD⟩)
  exact AnyZ.sorted_in Tryz.sorted143 Fence.wide 5 trivial trivial trivial trivial rfl (by omega) (Tryz.sorts143 _) (enters_of Tryz.func208 (by kernel_rfl) rfl) 209 #[.pointer (some ⟨w.heap.size, 0, none⟩)] trivial (enters_of Tryz.func209 (by kernel_rfl) rfl) _ _ hmax hbytes _ hseq

set_option maxHeartbeats 1000000 in
theorem Tryz.slices_Sorted_keys_nil_143_144 (w : World) :
    CallsIn Fence.wide 5 Tryz.prog 143 #[.func (.func 209) #[] #[.pointer (some ⟨w.heap.size, 0, none⟩)]] (w.alloc (.cells #[.map none] 108)) fun e w' => ∃ (v : Value) (ss : List (List UInt8)), e = .returned v ∧ ss = [] ∧
      w'.ownsRow (w.alloc (.cells #[.map none] 108)).heap.size 9 1 v ss.length ((ss.mergeSort (fun x y => decide (x ≤ y))).map encStr) ∧ (v = .slice none 0 0 ↔ ss = []) ∧ Below (w.alloc (.cells #[.map none] 108)).heap.size (w.alloc (.cells #[.map none] 108)) w' := by
  have hseq : SeqGives Fence.wide 2 Tryz.prog 209 #[.pointer (some ⟨w.heap.size, 0, none⟩)] encStr (fun ss : List (List UInt8) => ss = []) 0 (w.alloc (.cells #[.map none] 108)) :=
    AnyZ.keys_gives_nil (ρ := Tryz.keys144_ren) { Tryz.keys144 with } Fence.wide _ trivial rfl w.heap.size _ (by simp) (by simp)
  exact AnyZ.sorted_in Tryz.sorted143 Fence.wide 5 trivial trivial trivial trivial rfl (by omega) (Tryz.sorts143 _) (enters_of Tryz.func208 (by kernel_rfl) rfl) 209 #[.pointer (some ⟨w.heap.size, 0, none⟩)] trivial (enters_of Tryz.func209 (by kernel_rfl) rfl) _ 0 (Nat.zero_le _) (by omega) _ hseq

end Go.Proofs
