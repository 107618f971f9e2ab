/- Contracts of the Go library at this dump, laid by the kit in plain declarations: sorted keys of a map, copies of slices and maps. Conditions: each contract's own premises. -/
import Derived.Shelf.SlIter.Nil
import Derived.Shelf.SortM.Plain
import Derived.Shelf.SortM.SortNone
import Derived.Ground.GgzProg
import Derived.Ground.SlgmProg
import Derived.Shelf.Strings.Split
import Derived.Shelf.Strings.Prefix
import Derived.Shelf.SlicesE.DeleteFunc
import Derived.Ground.NamesProg
import Derived.Ground.SlgfProg
import Derived.Test.YthikjdpnlahkfaaDoorProg
namespace Go.Proofs
open Go.Shelf
def Tryd.keys54_ren : Go.Shelf.Ren := ⟨fun | 7 => 54 | 10 => 62 | n => n, fun | 23 => 70 | 26 => 9 | 3 => 67 | 28 => 101 | 0 => 0 | 27 => 100 | 33 => 110 | 4 => 4 | n => n, fun | n => n⟩
theorem Tryd.keys54 : Go.Proofs.SlLaysZ.n7 Tryd.prog Tryd.keys54_ren := {
  mixed := by kernel_rfl
  f7 := ⟨Tryd.f54.name, by decide, Tryd.func54.trans (congrArg some (by kernel_rfl))⟩
  f10 := ⟨Tryd.f62.name, by decide, Tryd.func62.trans (congrArg some (by kernel_rfl))⟩
  t0 := Tryd.underlying0
  a0 := Tryd.isAgg0
  z0 := Tryd.sizeOf0
  v0 := Tryd.zeroValue0
  t4 := Tryd.underlying4
  a4 := Tryd.isAgg4
  z4 := Tryd.sizeOf4
  v4 := Tryd.zeroValue4
  t23 := Tryd.underlying70
  a23 := Tryd.isAgg70
  z23 := Tryd.sizeOf70
  v23 := Tryd.zeroValue70
  t26 := Tryd.underlying9
  a26 := Tryd.isAgg9
  z26 := Tryd.sizeOf9
  v26 := Tryd.zeroValue9
  t27 := Tryd.underlying100
  a27 := Tryd.isAgg100
  z27 := Tryd.sizeOf100
  v27 := Tryd.zeroValue100
  t28 := Tryd.underlying101
  a28 := Tryd.isAgg101
  z28 := Tryd.sizeOf101
  v28 := Tryd.zeroValue101
  t33 := Tryd.underlying110
  a33 := Tryd.isAgg110
  z33 := Tryd.sizeOf110
  v33 := Tryd.zeroValue110 }
def Tryd.sorted53_ren : Go.Shelf.Ren := ⟨fun | 6 => 53 | 8 => 60 | 9 => 61 | 11 => 67 | 13 => 69 | 12 => 68 | 23 => 82 | 24 => 83 | 14 => 73 | 15 => 74 | 16 => 75 | 17 => 76 | 18 => 77 | 19 => 78 | 20 => 79 | 21 => 80 | 22 => 81 | 25 => 87 | 26 => 88 | 27 => 89 | 28 => 90 | 29 => 91 | 30 => 92 | 31 => 97 | n => n, fun | 26 => 9 | 28 => 101 | 24 => 79 | 0 => 0 | 3 => 3 | 37 => 103 | 48 => 128 | 50 => 130 | 4 => 4 | 40 => 121 | 39 => 120 | 45 => 125 | 5 => 5 | 9 => 9 | 51 => 133 | 55 => 137 | 57 => 143 | 58 => 144 | 33 => 110 | n => n, fun | n => n⟩
theorem Tryd.sorted53 : Go.Proofs.SlLaysZ.n6 Tryd.prog Tryd.sorted53_ren := {
  mixed := by kernel_rfl
  f6 := ⟨Tryd.f53.name, by decide, Tryd.func53.trans (congrArg some (by kernel_rfl))⟩
  f8 := ⟨Tryd.f60.name, by decide, Tryd.func60.trans (congrArg some (by kernel_rfl))⟩
  f11 := ⟨Tryd.f67.name, by decide, Tryd.func67.trans (congrArg some (by kernel_rfl))⟩
  t0 := Tryd.underlying0
  a0 := Tryd.isAgg0
  z0 := Tryd.sizeOf0
  v0 := Tryd.zeroValue0
  t24 := Tryd.underlying79
  a24 := Tryd.isAgg79
  z24 := Tryd.sizeOf79
  v24 := Tryd.zeroValue79
  t26 := Tryd.underlying9
  a26 := Tryd.isAgg9
  z26 := Tryd.sizeOf9
  v26 := Tryd.zeroValue9
  t28 := Tryd.underlying101
  a28 := Tryd.isAgg101
  z28 := Tryd.sizeOf101
  v28 := Tryd.zeroValue101
  i26 := by kernel_rfl }
def Tryd.sort61_ren : Go.Shelf.Ren := ⟨fun | 6 => 61 | 8 => 69 | 9 => 68 | 19 => 82 | 20 => 83 | 21 => 73 | 22 => 74 | 23 => 75 | 24 => 76 | 25 => 77 | 26 => 78 | 27 => 79 | 28 => 80 | 29 => 81 | 36 => 87 | 31 => 88 | 32 => 89 | 37 => 90 | 38 => 91 | 39 => 92 | 41 => 97 | n => n, fun | 27 => 79 | 29 => 9 | 3 => 3 | 32 => 103 | 26 => 79 | 0 => 0 | 44 => 128 | 46 => 130 | 4 => 4 | 36 => 121 | 35 => 120 | 41 => 125 | 5 => 5 | 9 => 9 | 53 => 133 | 57 => 137 | 63 => 143 | 64 => 144 | n => n, fun | n => n⟩
theorem Tryd.sort61 : Go.Proofs.SlLaysM.n6 Tryd.prog Tryd.sort61_ren := {
  mixed := by kernel_rfl
  f6 := ⟨Tryd.f61.name, by decide, Tryd.func61.trans (congrArg some (by kernel_rfl))⟩
  f8 := Tryd.func69.trans (congrArg some (by kernel_rfl))
  f9 := ⟨Tryd.f68.name, by decide, Tryd.func68.trans (congrArg some (by kernel_rfl))⟩
  f19 := Tryd.func82.trans (congrArg some (by kernel_rfl))
  f20 := Tryd.func83.trans (congrArg some (by kernel_rfl))
  f21 := ⟨Tryd.f73.name, by decide, Tryd.func73.trans (congrArg some (by kernel_rfl))⟩
  f22 := ⟨Tryd.f74.name, by decide, Tryd.func74.trans (congrArg some (by kernel_rfl))⟩
  f23 := ⟨Tryd.f75.name, by decide, Tryd.func75.trans (congrArg some (by kernel_rfl))⟩
  f24 := ⟨Tryd.f76.name, by decide, Tryd.func76.trans (congrArg some (by kernel_rfl))⟩
  f25 := ⟨Tryd.f77.name, by decide, Tryd.func77.trans (congrArg some (by kernel_rfl))⟩
  f26 := ⟨Tryd.f78.name, by decide, Tryd.func78.trans (congrArg some (by kernel_rfl))⟩
  f27 := ⟨Tryd.f79.name, by decide, Tryd.func79.trans (congrArg some (by kernel_rfl))⟩
  f28 := ⟨Tryd.f80.name, by decide, Tryd.func80.trans (congrArg some (by kernel_rfl))⟩
  f29 := ⟨Tryd.f81.name, by decide, Tryd.func81.trans (congrArg some (by kernel_rfl))⟩
  f31 := Tryd.func88.trans (congrArg some (by kernel_rfl))
  f32 := Tryd.func89.trans (congrArg some (by kernel_rfl))
  f36 := ⟨Tryd.f87.name, by decide, Tryd.func87.trans (congrArg some (by kernel_rfl))⟩
  f37 := ⟨Tryd.f90.name, by decide, Tryd.func90.trans (congrArg some (by kernel_rfl))⟩
  f38 := ⟨Tryd.f91.name, by decide, Tryd.func91.trans (congrArg some (by kernel_rfl))⟩
  f39 := ⟨Tryd.f92.name, by decide, Tryd.func92.trans (congrArg some (by kernel_rfl))⟩
  f41 := ⟨Tryd.f97.name, by decide, Tryd.func97.trans (congrArg some (by kernel_rfl))⟩
  t0 := Tryd.underlying0
  a0 := Tryd.isAgg0
  z0 := Tryd.sizeOf0
  v0 := Tryd.zeroValue0
  t3 := Tryd.underlying3
  a3 := Tryd.isAgg3
  z3 := Tryd.sizeOf3
  v3 := Tryd.zeroValue3
  t4 := Tryd.underlying4
  a4 := Tryd.isAgg4
  z4 := Tryd.sizeOf4
  v4 := Tryd.zeroValue4
  t5 := Tryd.underlying5
  a5 := Tryd.isAgg5
  z5 := Tryd.sizeOf5
  v5 := Tryd.zeroValue5
  t9 := Tryd.underlying9
  a9 := Tryd.isAgg9
  z9 := Tryd.sizeOf9
  v9 := Tryd.zeroValue9
  t26 := Tryd.underlying79
  a26 := Tryd.isAgg79
  z26 := Tryd.sizeOf79
  v26 := Tryd.zeroValue79
  t27 := Tryd.underlying79
  a27 := Tryd.isAgg79
  z27 := Tryd.sizeOf79
  v27 := Tryd.zeroValue79
  t29 := Tryd.underlying9
  a29 := Tryd.isAgg9
  z29 := Tryd.sizeOf9
  v29 := Tryd.zeroValue9
  t32 := Tryd.underlying103
  a32 := Tryd.isAgg103
  z32 := Tryd.sizeOf103
  v32 := Tryd.zeroValue103
  t35 := Tryd.underlying120
  a35 := Tryd.isAgg120
  z35 := Tryd.sizeOf120
  v35 := Tryd.zeroValue120
  t36 := Tryd.underlying121
  a36 := Tryd.isAgg121
  z36 := Tryd.sizeOf121
  v36 := Tryd.zeroValue121
  t41 := Tryd.underlying125
  a41 := Tryd.isAgg125
  z41 := Tryd.sizeOf125
  v41 := Tryd.zeroValue125
  t44 := Tryd.underlying128
  a44 := Tryd.isAgg128
  z44 := Tryd.sizeOf128
  v44 := Tryd.zeroValue128
  t46 := Tryd.underlying130
  a46 := Tryd.isAgg130
  z46 := Tryd.sizeOf130
  v46 := Tryd.zeroValue130
  t53 := Tryd.underlying133
  a53 := Tryd.isAgg133
  z53 := Tryd.sizeOf133
  v53 := Tryd.zeroValue133
  t57 := Tryd.underlying137
  a57 := Tryd.isAgg137
  z57 := Tryd.sizeOf137
  v57 := Tryd.zeroValue137
  t63 := Tryd.underlying143
  a63 := Tryd.isAgg143
  z63 := Tryd.sizeOf143
  v63 := Tryd.zeroValue143
  t64 := Tryd.underlying144
  a64 := Tryd.isAgg144
  z64 := Tryd.sizeOf144
  v64 := Tryd.zeroValue144 }
def Tryd.laysSplit_ren : Go.Shelf.Ren := ⟨fun | 146 => 64 | 221 => 71 | 268 => 84 | 138 => 85 | 143 => 86 | 195 => 93 | 197 => 94 | 218 => 95 | 219 => 96 | 260 => 98 | 217 => 99 | 225 => 100 | 224 => 101 | 267 => 102 | 266 => 103 | 314 => 104 | n => n, fun | 9 => 9 | 31 => 79 | 3 => 3 | 4 => 4 | 0 => 0 | 105 => 140 | 21 => 21 | 5 => 5 | 46 => 103 | 119 => 147 | 139 => 150 | 138 => 149 | 146 => 151 | 51 => 128 | n => n, fun | 1 => 0 | 3 => 1 | 4 => 2 | n => n⟩
theorem Tryd.laysSplit : Go.Proofs.Lays.n146 Tryd.prog Tryd.laysSplit_ren := {
  mixed := by kernel_rfl
  f138 := Tryd.func85.trans (congrArg some (by kernel_rfl))
  f143 := Tryd.func86.trans (congrArg some (by kernel_rfl))
  f146 := Tryd.func64.trans (congrArg some (by kernel_rfl))
  f195 := Tryd.func93.trans (congrArg some (by kernel_rfl))
  f197 := Tryd.func94.trans (congrArg some (by kernel_rfl))
  f217 := Tryd.func99.trans (congrArg some (by kernel_rfl))
  f218 := Tryd.func95.trans (congrArg some (by kernel_rfl))
  f219 := Tryd.func96.trans (congrArg some (by kernel_rfl))
  f221 := Tryd.func71.trans (congrArg some (by kernel_rfl))
  f224 := Tryd.func101.trans (congrArg some (by kernel_rfl))
  f225 := Tryd.func100.trans (congrArg some (by kernel_rfl))
  f260 := Tryd.func98.trans (congrArg some (by kernel_rfl))
  f266 := Tryd.func103.trans (congrArg some (by kernel_rfl))
  f267 := Tryd.func102.trans (congrArg some (by kernel_rfl))
  f268 := Tryd.func84.trans (congrArg some (by kernel_rfl))
  f314 := Tryd.func104.trans (congrArg some (by kernel_rfl))
  t0 := Tryd.underlying0
  a0 := Tryd.isAgg0
  z0 := Tryd.sizeOf0
  v0 := Tryd.zeroValue0
  t3 := Tryd.underlying3
  a3 := Tryd.isAgg3
  z3 := Tryd.sizeOf3
  v3 := Tryd.zeroValue3
  t4 := Tryd.underlying4
  a4 := Tryd.isAgg4
  z4 := Tryd.sizeOf4
  v4 := Tryd.zeroValue4
  t5 := Tryd.underlying5
  a5 := Tryd.isAgg5
  z5 := Tryd.sizeOf5
  v5 := Tryd.zeroValue5
  t9 := Tryd.underlying9
  a9 := Tryd.isAgg9
  z9 := Tryd.sizeOf9
  v9 := Tryd.zeroValue9
  t21 := Tryd.underlying21
  a21 := Tryd.isAgg21
  z21 := Tryd.sizeOf21
  v21 := Tryd.zeroValue21
  t31 := Tryd.underlying79
  a31 := Tryd.isAgg79
  z31 := Tryd.sizeOf79
  v31 := Tryd.zeroValue79
  t46 := Tryd.underlying103
  a46 := Tryd.isAgg103
  z46 := Tryd.sizeOf103
  v46 := Tryd.zeroValue103
  t51 := Tryd.underlying128
  a51 := Tryd.isAgg128
  z51 := Tryd.sizeOf128
  v51 := Tryd.zeroValue128
  t105 := Tryd.underlying140
  a105 := Tryd.isAgg140
  z105 := Tryd.sizeOf140
  v105 := Tryd.zeroValue140
  t119 := Tryd.underlying147
  a119 := Tryd.isAgg147
  z119 := Tryd.sizeOf147
  t138 := Tryd.underlying149
  a138 := Tryd.isAgg149
  z138 := Tryd.sizeOf149
  v138 := Tryd.zeroValue149
  t139 := Tryd.underlying150
  a139 := Tryd.isAgg150
  z139 := Tryd.sizeOf150
  v139 := Tryd.zeroValue150
  t146 := Tryd.underlying151
  a146 := Tryd.isAgg151
  z146 := Tryd.sizeOf151
  v146 := Tryd.zeroValue151
  g1 := by kernel_rfl
  g3 := by kernel_rfl
  g4 := by kernel_rfl }
def Tryd.laysSuffix_ren : Go.Shelf.Ren := ⟨fun | 100 => 66 | 207 => 72 | n => n, fun | 9 => 9 | 4 => 4 | 3 => 3 | n => n, fun | n => n⟩
theorem Tryd.laysSuffix : Go.Proofs.Lays.n100 Tryd.prog Tryd.laysSuffix_ren := {
  mixed := by kernel_rfl
  f100 := Tryd.func66.trans (congrArg some (by kernel_rfl))
  f207 := Tryd.func72.trans (congrArg some (by kernel_rfl))
  t3 := Tryd.underlying3
  a3 := Tryd.isAgg3
  z3 := Tryd.sizeOf3
  v3 := Tryd.zeroValue3
  t4 := Tryd.underlying4
  a4 := Tryd.isAgg4
  z4 := Tryd.sizeOf4
  v4 := Tryd.zeroValue4
  t9 := Tryd.underlying9
  a9 := Tryd.isAgg9
  z9 := Tryd.sizeOf9
  v9 := Tryd.zeroValue9 }
def Tryd.laysDel_ren : Go.Shelf.Ren := ⟨fun | 10 => 63 | 6 => 70 | n => n, fun | 22 => 79 | 23 => 9 | 25 => 110 | 3 => 3 | 4 => 4 | 0 => 0 | n => n, fun | n => n⟩
theorem Tryd.laysDel : Go.Proofs.SlLaysH.n10 Tryd.prog Tryd.laysDel_ren := {
  mixed := by kernel_rfl
  f6 := ⟨Tryd.f70.name, by decide, Tryd.func70.trans (congrArg some (by kernel_rfl))⟩
  f10 := ⟨Tryd.f63.name, by decide, Tryd.func63.trans (congrArg some (by kernel_rfl))⟩
  t0 := Tryd.underlying0
  a0 := Tryd.isAgg0
  z0 := Tryd.sizeOf0
  v0 := Tryd.zeroValue0
  t3 := Tryd.underlying3
  a3 := Tryd.isAgg3
  z3 := Tryd.sizeOf3
  v3 := Tryd.zeroValue3
  t4 := Tryd.underlying4
  a4 := Tryd.isAgg4
  z4 := Tryd.sizeOf4
  v4 := Tryd.zeroValue4
  t22 := Tryd.underlying79
  a22 := Tryd.isAgg79
  z22 := Tryd.sizeOf79
  v22 := Tryd.zeroValue79
  a23 := Tryd.isAgg9
  z23 := Tryd.sizeOf9
  t25 := Tryd.underlying110
  a25 := Tryd.isAgg110
  z25 := Tryd.sizeOf110
  v25 := Tryd.zeroValue110 }
section
open Go.RowKit Go.Maps Go.Sort Go.Shelf
theorem Tryd.sorts53 (m : Nat) : AnyZ.SortsIn Tryd.prog Tryd.sorted53_ren Fence.wide m :=
  ⟨fun blk off cap ss W hH hblk hsz => callsIn_wide.2 (AnyM.slices_Sort_string Tryd.sort61 blk off cap ss W hH hblk hsz),
   fun p cap W => callsIn_wide.2 (AnyM.slices_Sort_string_none Tryd.sort61 p cap W)⟩

theorem Tryd.maps_Keys_54 (mb : Option Nat) (W : World) : CallsIn Fence.wide 5 Tryd.prog 54 #[.map mb] W fun e w' => e = .returned (.func (.func 62) #[] #[.pointer (some ⟨W.heap.size, 0, none⟩)]) ∧ w' = W.alloc (.cells #[.map mb] 70) :=
  AnyZ.keys_in Tryd.keys54 Fence.wide 5 trivial rfl mb W

set_option maxHeartbeats 1000000 in
theorem Tryd.slices_Sorted_keys_53_54 {H : Type} (b nn : Nat) (D0 : DataW H) (R : Value → Option (DataW H × List MemPlace)) (w : World) (hown : w.ownsMap Tryd.prog 9 R b nn D0) (hmax : Maps.size D0 ≤ maxLen) (hbytes : Maps.size D0 * 16 ≤ 140737488355328) :
    CallsIn Fence.wide 5 Tryd.prog 53 #[.func (.func 62) #[] #[.pointer (some ⟨w.heap.size, 0, none⟩)]] (w.alloc (.cells #[.map (some b)] 70)) fun e w' => ∃ (v : Value) (ss : List (List UInt8)), e = .returned v ∧ ss.Perm (strKeys D0) ∧
      w'.ownsRow (w.alloc (.cells #[.map (some b)] 70)).heap.size 9 1 v ss.length ((ss.mergeSort (fun x y => decide (x ≤ y))).map encStr) ∧ (v = .slice none 0 0 ↔ ss = []) ∧ Below (w.alloc (.cells #[.map (some b)] 70)).heap.size (w.alloc (.cells #[.map (some b)] 70)) w' := by
  have hbl := hown.lt
  have hseq : SeqGives Fence.wide 2 Tryd.prog 62 #[.pointer (some ⟨w.heap.size, 0, none⟩)] encStr (fun ss => ss.Perm (strKeys D0)) (Maps.size D0) (w.alloc (.cells #[.map (some b)] 70)) :=
    AnyZ.keys_gives (ρ := Tryd.keys54_ren) { Tryd.keys54 with } Fence.wide _ trivial rfl (by omega) w.heap.size b nn D0 _ (by simp) (by simp) (by
      obtain ⟨es, clock, hb, Ft, hs, hD⟩ := hown
      exact ⟨es, clock, (Below.heap_alloc _ _ b hbl).trans hb, Ft, hs, hD⟩)
  exact AnyZ.sorted_in Tryd.sorted53 Fence.wide 5 trivial trivial trivial trivial rfl (by omega) (Tryd.sorts53 _) (enters_of Tryd.func61 (by kernel_rfl) rfl) 62 #[.pointer (some ⟨w.heap.size, 0, none⟩)] trivial (enters_of Tryd.func62 (by kernel_rfl) rfl) _ _ hmax hbytes _ hseq

set_option maxHeartbeats 1000000 in
theorem Tryd.slices_Sorted_keys_nil_53_54 (w : World) :
    CallsIn Fence.wide 5 Tryd.prog 53 #[.func (.func 62) #[] #[.pointer (some ⟨w.heap.size, 0, none⟩)]] (w.alloc (.cells #[.map none] 70)) fun e w' => ∃ (v : Value) (ss : List (List UInt8)), e = .returned v ∧ ss = [] ∧
      w'.ownsRow (w.alloc (.cells #[.map none] 70)).heap.size 9 1 v ss.length ((ss.mergeSort (fun x y => decide (x ≤ y))).map encStr) ∧ (v = .slice none 0 0 ↔ ss = []) ∧ Below (w.alloc (.cells #[.map none] 70)).heap.size (w.alloc (.cells #[.map none] 70)) w' := by
  have hseq : SeqGives Fence.wide 2 Tryd.prog 62 #[.pointer (some ⟨w.heap.size, 0, none⟩)] encStr (fun ss : List (List UInt8) => ss = []) 0 (w.alloc (.cells #[.map none] 70)) :=
    AnyZ.keys_gives_nil (ρ := Tryd.keys54_ren) { Tryd.keys54 with } Fence.wide _ trivial rfl w.heap.size _ (by simp) (by simp)
  exact AnyZ.sorted_in Tryd.sorted53 Fence.wide 5 trivial trivial trivial trivial rfl (by omega) (Tryd.sorts53 _) (enters_of Tryd.func61 (by kernel_rfl) rfl) 62 #[.pointer (some ⟨w.heap.size, 0, none⟩)] trivial (enters_of Tryd.func62 (by kernel_rfl) rfl) _ 0 (Nat.zero_le _) (by omega) _ hseq
end
end Go.Proofs
