/- Contracts of the Go library at this dump, laid by the kit in plain declarations: sorted keys of a map, copies of slices and maps. Conditions: each contract's own premises. -/
import Derived.Shelf.SlIter.Nil
import Derived.Shelf.SortM.Plain
import Derived.Shelf.SortM.SortNone
import Derived.Ground.GgzProg
import Derived.Ground.SlgmProg
import Derived.Shelf.Strings.Split
import Derived.Shelf.Strings.Prefix
import Derived.Shelf.SlicesE.DeleteFunc
import Derived.Ground.NamesProg
import Derived.Ground.SlgfProg
import Derived.Test.YthikjdpnlahkfaaGreatDoorProg
namespace Go.Proofs
open Go.Shelf
def Tryz.keys69_ren : Go.Shelf.Ren := ⟨fun | 7 => 69 | 10 => 93 | n => n, fun | 23 => 55 | 26 => 9 | 3 => 52 | 28 => 120 | 0 => 0 | 27 => 119 | 33 => 124 | 4 => 4 | n => n, fun | n => n⟩
theorem Tryz.keys69 : Go.Proofs.SlLaysZ.n7 Tryz.prog Tryz.keys69_ren := {
  mixed := by kernel_rfl
  f7 := ⟨Tryz.f69.name, by decide, Tryz.func69.trans (congrArg some (by kernel_rfl))⟩
  f10 := ⟨Tryz.f93.name, by decide, Tryz.func93.trans (congrArg some (by kernel_rfl))⟩
  t0 := Tryz.underlying0
  a0 := Tryz.isAgg0
  z0 := Tryz.sizeOf0
  v0 := Tryz.zeroValue0
  t4 := Tryz.underlying4
  a4 := Tryz.isAgg4
  z4 := Tryz.sizeOf4
  v4 := Tryz.zeroValue4
  t23 := Tryz.underlying55
  a23 := Tryz.isAgg55
  z23 := Tryz.sizeOf55
  v23 := Tryz.zeroValue55
  t26 := Tryz.underlying9
  a26 := Tryz.isAgg9
  z26 := Tryz.sizeOf9
  v26 := Tryz.zeroValue9
  t27 := Tryz.underlying119
  a27 := Tryz.isAgg119
  z27 := Tryz.sizeOf119
  v27 := Tryz.zeroValue119
  t28 := Tryz.underlying120
  a28 := Tryz.isAgg120
  z28 := Tryz.sizeOf120
  v28 := Tryz.zeroValue120
  t33 := Tryz.underlying124
  a33 := Tryz.isAgg124
  z33 := Tryz.sizeOf124
  v33 := Tryz.zeroValue124 }
def Tryz.sorted68_ren : Go.Shelf.Ren := ⟨fun | 6 => 68 | 8 => 91 | 9 => 92 | 11 => 100 | 13 => 102 | 12 => 101 | 23 => 115 | 24 => 116 | 14 => 106 | 15 => 107 | 16 => 108 | 17 => 109 | 18 => 110 | 19 => 111 | 20 => 112 | 21 => 113 | 22 => 114 | 25 => 120 | 26 => 121 | 27 => 122 | 28 => 123 | 29 => 124 | 30 => 125 | 31 => 130 | n => n, fun | 26 => 9 | 28 => 120 | 24 => 60 | 0 => 0 | 3 => 3 | 37 => 132 | 48 => 159 | 50 => 161 | 4 => 4 | 40 => 152 | 39 => 151 | 45 => 156 | 5 => 5 | 9 => 9 | 51 => 164 | 55 => 168 | 57 => 174 | 58 => 79 | 33 => 124 | n => n, fun | n => n⟩
theorem Tryz.sorted68 : Go.Proofs.SlLaysZ.n6 Tryz.prog Tryz.sorted68_ren := {
  mixed := by kernel_rfl
  f6 := ⟨Tryz.f68.name, by decide, Tryz.func68.trans (congrArg some (by kernel_rfl))⟩
  f8 := ⟨Tryz.f91.name, by decide, Tryz.func91.trans (congrArg some (by kernel_rfl))⟩
  f11 := ⟨Tryz.f100.name, by decide, Tryz.func100.trans (congrArg some (by kernel_rfl))⟩
  t0 := Tryz.underlying0
  a0 := Tryz.isAgg0
  z0 := Tryz.sizeOf0
  v0 := Tryz.zeroValue0
  t24 := Tryz.underlying60
  a24 := Tryz.isAgg60
  z24 := Tryz.sizeOf60
  v24 := Tryz.zeroValue60
  t26 := Tryz.underlying9
  a26 := Tryz.isAgg9
  z26 := Tryz.sizeOf9
  v26 := Tryz.zeroValue9
  t28 := Tryz.underlying120
  a28 := Tryz.isAgg120
  z28 := Tryz.sizeOf120
  v28 := Tryz.zeroValue120
  i26 := by kernel_rfl }
def Tryz.sort92_ren : Go.Shelf.Ren := ⟨fun | 6 => 92 | 8 => 102 | 9 => 101 | 19 => 115 | 20 => 116 | 21 => 106 | 22 => 107 | 23 => 108 | 24 => 109 | 25 => 110 | 26 => 111 | 27 => 112 | 28 => 113 | 29 => 114 | 36 => 120 | 31 => 121 | 32 => 122 | 37 => 123 | 38 => 124 | 39 => 125 | 41 => 130 | n => n, fun | 27 => 60 | 29 => 9 | 3 => 3 | 32 => 132 | 26 => 60 | 0 => 0 | 44 => 159 | 46 => 161 | 4 => 4 | 36 => 152 | 35 => 151 | 41 => 156 | 5 => 5 | 9 => 9 | 53 => 164 | 57 => 168 | 63 => 174 | 64 => 79 | n => n, fun | n => n⟩
theorem Tryz.sort92 : Go.Proofs.SlLaysM.n6 Tryz.prog Tryz.sort92_ren := {
  mixed := by kernel_rfl
  f6 := ⟨Tryz.f92.name, by decide, Tryz.func92.trans (congrArg some (by kernel_rfl))⟩
  f8 := Tryz.func102.trans (congrArg some (by kernel_rfl))
  f9 := ⟨Tryz.f101.name, by decide, Tryz.func101.trans (congrArg some (by kernel_rfl))⟩
  f19 := Tryz.func115.trans (congrArg some (by kernel_rfl))
  f20 := Tryz.func116.trans (congrArg some (by kernel_rfl))
  f21 := ⟨Tryz.f106.name, by decide, Tryz.func106.trans (congrArg some (by kernel_rfl))⟩
  f22 := ⟨Tryz.f107.name, by decide, Tryz.func107.trans (congrArg some (by kernel_rfl))⟩
  f23 := ⟨Tryz.f108.name, by decide, Tryz.func108.trans (congrArg some (by kernel_rfl))⟩
  f24 := ⟨Tryz.f109.name, by decide, Tryz.func109.trans (congrArg some (by kernel_rfl))⟩
  f25 := ⟨Tryz.f110.name, by decide, Tryz.func110.trans (congrArg some (by kernel_rfl))⟩
  f26 := ⟨Tryz.f111.name, by decide, Tryz.func111.trans (congrArg some (by kernel_rfl))⟩
  f27 := ⟨Tryz.f112.name, by decide, Tryz.func112.trans (congrArg some (by kernel_rfl))⟩
  f28 := ⟨Tryz.f113.name, by decide, Tryz.func113.trans (congrArg some (by kernel_rfl))⟩
  f29 := ⟨Tryz.f114.name, by decide, Tryz.func114.trans (congrArg some (by kernel_rfl))⟩
  f31 := Tryz.func121.trans (congrArg some (by kernel_rfl))
  f32 := Tryz.func122.trans (congrArg some (by kernel_rfl))
  f36 := ⟨Tryz.f120.name, by decide, Tryz.func120.trans (congrArg some (by kernel_rfl))⟩
  f37 := ⟨Tryz.f123.name, by decide, Tryz.func123.trans (congrArg some (by kernel_rfl))⟩
  f38 := ⟨Tryz.f124.name, by decide, Tryz.func124.trans (congrArg some (by kernel_rfl))⟩
  f39 := ⟨Tryz.f125.name, by decide, Tryz.func125.trans (congrArg some (by kernel_rfl))⟩
  f41 := ⟨Tryz.f130.name, by decide, Tryz.func130.trans (congrArg some (by kernel_rfl))⟩
  t0 := Tryz.underlying0
  a0 := Tryz.isAgg0
  z0 := Tryz.sizeOf0
  v0 := Tryz.zeroValue0
  t3 := Tryz.underlying3
  a3 := Tryz.isAgg3
  z3 := Tryz.sizeOf3
  v3 := Tryz.zeroValue3
  t4 := Tryz.underlying4
  a4 := Tryz.isAgg4
  z4 := Tryz.sizeOf4
  v4 := Tryz.zeroValue4
  t5 := Tryz.underlying5
  a5 := Tryz.isAgg5
  z5 := Tryz.sizeOf5
  v5 := Tryz.zeroValue5
  t9 := Tryz.underlying9
  a9 := Tryz.isAgg9
  z9 := Tryz.sizeOf9
  v9 := Tryz.zeroValue9
  t26 := Tryz.underlying60
  a26 := Tryz.isAgg60
  z26 := Tryz.sizeOf60
  v26 := Tryz.zeroValue60
  t27 := Tryz.underlying60
  a27 := Tryz.isAgg60
  z27 := Tryz.sizeOf60
  v27 := Tryz.zeroValue60
  t29 := Tryz.underlying9
  a29 := Tryz.isAgg9
  z29 := Tryz.sizeOf9
  v29 := Tryz.zeroValue9
  t32 := Tryz.underlying132
  a32 := Tryz.isAgg132
  z32 := Tryz.sizeOf132
  v32 := Tryz.zeroValue132
  t35 := Tryz.underlying151
  a35 := Tryz.isAgg151
  z35 := Tryz.sizeOf151
  v35 := Tryz.zeroValue151
  t36 := Tryz.underlying152
  a36 := Tryz.isAgg152
  z36 := Tryz.sizeOf152
  v36 := Tryz.zeroValue152
  t41 := Tryz.underlying156
  a41 := Tryz.isAgg156
  z41 := Tryz.sizeOf156
  v41 := Tryz.zeroValue156
  t44 := Tryz.underlying159
  a44 := Tryz.isAgg159
  z44 := Tryz.sizeOf159
  v44 := Tryz.zeroValue159
  t46 := Tryz.underlying161
  a46 := Tryz.isAgg161
  z46 := Tryz.sizeOf161
  v46 := Tryz.zeroValue161
  t53 := Tryz.underlying164
  a53 := Tryz.isAgg164
  z53 := Tryz.sizeOf164
  v53 := Tryz.zeroValue164
  t57 := Tryz.underlying168
  a57 := Tryz.isAgg168
  z57 := Tryz.sizeOf168
  v57 := Tryz.zeroValue168
  t63 := Tryz.underlying174
  a63 := Tryz.isAgg174
  z63 := Tryz.sizeOf174
  v63 := Tryz.zeroValue174
  t64 := Tryz.underlying79
  a64 := Tryz.isAgg79
  z64 := Tryz.sizeOf79
  v64 := Tryz.zeroValue79 }
def Tryz.laysSplit_ren : Go.Shelf.Ren := ⟨fun | 146 => 97 | 221 => 104 | 268 => 117 | 138 => 118 | 143 => 119 | 195 => 126 | 197 => 127 | 218 => 128 | 219 => 129 | 260 => 131 | 217 => 132 | 225 => 133 | 224 => 134 | 267 => 135 | 266 => 136 | 314 => 137 | n => n, fun | 9 => 9 | 31 => 60 | 3 => 3 | 4 => 4 | 0 => 0 | 105 => 171 | 21 => 21 | 5 => 5 | 46 => 132 | 119 => 176 | 139 => 179 | 138 => 178 | 146 => 180 | 51 => 159 | n => n, fun | 1 => 0 | 3 => 1 | 4 => 2 | n => n⟩
theorem Tryz.laysSplit : Go.Proofs.Lays.n146 Tryz.prog Tryz.laysSplit_ren := {
  mixed := by kernel_rfl
  f138 := Tryz.func118.trans (congrArg some (by kernel_rfl))
  f143 := Tryz.func119.trans (congrArg some (by kernel_rfl))
  f146 := Tryz.func97.trans (congrArg some (by kernel_rfl))
  f195 := Tryz.func126.trans (congrArg some (by kernel_rfl))
  f197 := Tryz.func127.trans (congrArg some (by kernel_rfl))
  f217 := Tryz.func132.trans (congrArg some (by kernel_rfl))
  f218 := Tryz.func128.trans (congrArg some (by kernel_rfl))
  f219 := Tryz.func129.trans (congrArg some (by kernel_rfl))
  f221 := Tryz.func104.trans (congrArg some (by kernel_rfl))
  f224 := Tryz.func134.trans (congrArg some (by kernel_rfl))
  f225 := Tryz.func133.trans (congrArg some (by kernel_rfl))
  f260 := Tryz.func131.trans (congrArg some (by kernel_rfl))
  f266 := Tryz.func136.trans (congrArg some (by kernel_rfl))
  f267 := Tryz.func135.trans (congrArg some (by kernel_rfl))
  f268 := Tryz.func117.trans (congrArg some (by kernel_rfl))
  f314 := Tryz.func137.trans (congrArg some (by kernel_rfl))
  t0 := Tryz.underlying0
  a0 := Tryz.isAgg0
  z0 := Tryz.sizeOf0
  v0 := Tryz.zeroValue0
  t3 := Tryz.underlying3
  a3 := Tryz.isAgg3
  z3 := Tryz.sizeOf3
  v3 := Tryz.zeroValue3
  t4 := Tryz.underlying4
  a4 := Tryz.isAgg4
  z4 := Tryz.sizeOf4
  v4 := Tryz.zeroValue4
  t5 := Tryz.underlying5
  a5 := Tryz.isAgg5
  z5 := Tryz.sizeOf5
  v5 := Tryz.zeroValue5
  t9 := Tryz.underlying9
  a9 := Tryz.isAgg9
  z9 := Tryz.sizeOf9
  v9 := Tryz.zeroValue9
  t21 := Tryz.underlying21
  a21 := Tryz.isAgg21
  z21 := Tryz.sizeOf21
  v21 := Tryz.zeroValue21
  t31 := Tryz.underlying60
  a31 := Tryz.isAgg60
  z31 := Tryz.sizeOf60
  v31 := Tryz.zeroValue60
  t46 := Tryz.underlying132
  a46 := Tryz.isAgg132
  z46 := Tryz.sizeOf132
  v46 := Tryz.zeroValue132
  t51 := Tryz.underlying159
  a51 := Tryz.isAgg159
  z51 := Tryz.sizeOf159
  v51 := Tryz.zeroValue159
  t105 := Tryz.underlying171
  a105 := Tryz.isAgg171
  z105 := Tryz.sizeOf171
  v105 := Tryz.zeroValue171
  t119 := Tryz.underlying176
  a119 := Tryz.isAgg176
  z119 := Tryz.sizeOf176
  t138 := Tryz.underlying178
  a138 := Tryz.isAgg178
  z138 := Tryz.sizeOf178
  v138 := Tryz.zeroValue178
  t139 := Tryz.underlying179
  a139 := Tryz.isAgg179
  z139 := Tryz.sizeOf179
  v139 := Tryz.zeroValue179
  t146 := Tryz.underlying180
  a146 := Tryz.isAgg180
  z146 := Tryz.sizeOf180
  v146 := Tryz.zeroValue180
  g1 := by kernel_rfl
  g3 := by kernel_rfl
  g4 := by kernel_rfl }
def Tryz.laysSuffix_ren : Go.Shelf.Ren := ⟨fun | 100 => 99 | 207 => 105 | n => n, fun | 9 => 9 | 4 => 4 | 3 => 3 | n => n, fun | n => n⟩
theorem Tryz.laysSuffix : Go.Proofs.Lays.n100 Tryz.prog Tryz.laysSuffix_ren := {
  mixed := by kernel_rfl
  f100 := Tryz.func99.trans (congrArg some (by kernel_rfl))
  f207 := Tryz.func105.trans (congrArg some (by kernel_rfl))
  t3 := Tryz.underlying3
  a3 := Tryz.isAgg3
  z3 := Tryz.sizeOf3
  v3 := Tryz.zeroValue3
  t4 := Tryz.underlying4
  a4 := Tryz.isAgg4
  z4 := Tryz.sizeOf4
  v4 := Tryz.zeroValue4
  t9 := Tryz.underlying9
  a9 := Tryz.isAgg9
  z9 := Tryz.sizeOf9
  v9 := Tryz.zeroValue9 }
def Tryz.laysDel_ren : Go.Shelf.Ren := ⟨fun | 10 => 96 | 6 => 103 | n => n, fun | 22 => 60 | 23 => 9 | 25 => 124 | 3 => 3 | 4 => 4 | 0 => 0 | n => n, fun | n => n⟩
theorem Tryz.laysDel : Go.Proofs.SlLaysH.n10 Tryz.prog Tryz.laysDel_ren := {
  mixed := by kernel_rfl
  f6 := ⟨Tryz.f103.name, by decide, Tryz.func103.trans (congrArg some (by kernel_rfl))⟩
  f10 := ⟨Tryz.f96.name, by decide, Tryz.func96.trans (congrArg some (by kernel_rfl))⟩
  t0 := Tryz.underlying0
  a0 := Tryz.isAgg0
  z0 := Tryz.sizeOf0
  v0 := Tryz.zeroValue0
  t3 := Tryz.underlying3
  a3 := Tryz.isAgg3
  z3 := Tryz.sizeOf3
  v3 := Tryz.zeroValue3
  t4 := Tryz.underlying4
  a4 := Tryz.isAgg4
  z4 := Tryz.sizeOf4
  v4 := Tryz.zeroValue4
  t22 := Tryz.underlying60
  a22 := Tryz.isAgg60
  z22 := Tryz.sizeOf60
  v22 := Tryz.zeroValue60
  a23 := Tryz.isAgg9
  z23 := Tryz.sizeOf9
  t25 := Tryz.underlying124
  a25 := Tryz.isAgg124
  z25 := Tryz.sizeOf124
  v25 := Tryz.zeroValue124 }
section
open Go.RowKit Go.Maps Go.Sort Go.Shelf
theorem Tryz.sorts68 (m : Nat) : AnyZ.SortsIn Tryz.prog Tryz.sorted68_ren Fence.wide m :=
  ⟨fun blk off cap ss W hH hblk hsz => callsIn_wide.2 (AnyM.slices_Sort_string Tryz.sort92 blk off cap ss W hH hblk hsz),
   fun p cap W => callsIn_wide.2 (AnyM.slices_Sort_string_none Tryz.sort92 p cap W)⟩

theorem Tryz.maps_Keys_69 (mb : Option Nat) (W : World) : CallsIn Fence.wide 5 Tryz.prog 69 #[.map mb] W fun e w' => e = .returned (.func (.func 93) #[] #[.pointer (some ⟨W.heap.size, 0, none⟩)]) ∧ w' = W.alloc (.cells #[.map mb] 55) :=
  AnyZ.keys_in Tryz.keys69 Fence.wide 5 trivial rfl mb W

set_option maxHeartbeats 1000000 in
theorem Tryz.slices_Sorted_keys_68_69 {H : Type} (b nn : Nat) (D0 : DataW H) (R : Value → Option (DataW H × List MemPlace)) (w : World) (hown : w.ownsMap Tryz.prog 9 R b nn D0) (hmax : Maps.size D0 ≤ maxLen) (hbytes : Maps.size D0 * 16 ≤ 140737488355328) :
    CallsIn Fence.wide 5 Tryz.prog 68 #[.func (.func 93) #[] #[.pointer (some ⟨w.heap.size, 0, none⟩)]] (w.alloc (.cells #[.map (some b)] 55)) fun e w' => ∃ (v : Value) (ss : List (List UInt8)), e = .returned v ∧ ss.Perm (strKeys D0) ∧
      w'.ownsRow (w.alloc (.cells #[.map (some b)] 55)).heap.size 9 1 v ss.length ((ss.mergeSort (fun x y => decide (x ≤ y))).map encStr) ∧ (v = .slice none 0 0 ↔ ss = []) ∧ Below (w.alloc (.cells #[.map (some b)] 55)).heap.size (w.alloc (.cells #[.map (some b)] 55)) w' := by
  have hbl := hown.lt
  have hseq : SeqGives Fence.wide 2 Tryz.prog 93 #[.pointer (some ⟨w.heap.size, 0, none⟩)] encStr (fun ss => ss.Perm (strKeys D0)) (Maps.size D0) (w.alloc (.cells #[.map (some b)] 55)) :=
    AnyZ.keys_gives (ρ := Tryz.keys69_ren) { Tryz.keys69 with } Fence.wide _ trivial rfl (by omega) w.heap.size b nn D0 _ (by simp) (by simp) (by
      obtain ⟨es, clock, hb, Ft, hs, hD⟩ := hown
      exact ⟨es, clock, (Below.heap_alloc _ _ b hbl).trans hb, Ft, hs, hD⟩)
  exact AnyZ.sorted_in Tryz.sorted68 Fence.wide 5 trivial trivial trivial trivial rfl (by omega) (Tryz.sorts68 _) (enters_of Tryz.func92 (by kernel_rfl) rfl) 93 #[.pointer (some ⟨w.heap.size, 0, none⟩)] trivial (enters_of Tryz.func93 (by kernel_rfl) rfl) _ _ hmax hbytes _ hseq

set_option maxHeartbeats 1000000 in
theorem Tryz.slices_Sorted_keys_nil_68_69 (w : World) :
    CallsIn Fence.wide 5 Tryz.prog 68 #[.func (.func 93) #[] #[.pointer (some ⟨w.heap.size, 0, none⟩)]] (w.alloc (.cells #[.map none] 55)) fun e w' => ∃ (v : Value) (ss : List (List UInt8)), e = .returned v ∧ ss = [] ∧
      w'.ownsRow (w.alloc (.cells #[.map none] 55)).heap.size 9 1 v ss.length ((ss.mergeSort (fun x y => decide (x ≤ y))).map encStr) ∧ (v = .slice none 0 0 ↔ ss = []) ∧ Below (w.alloc (.cells #[.map none] 55)).heap.size (w.alloc (.cells #[.map none] 55)) w' := by
  have hseq : SeqGives Fence.wide 2 Tryz.prog 93 #[.pointer (some ⟨w.heap.size, 0, none⟩)] encStr (fun ss : List (List UInt8) => ss = []) 0 (w.alloc (.cells #[.map none] 55)) :=
    AnyZ.keys_gives_nil (ρ := Tryz.keys69_ren) { Tryz.keys69 with } Fence.wide _ trivial rfl w.heap.size _ (by simp) (by simp)
  exact AnyZ.sorted_in Tryz.sorted68 Fence.wide 5 trivial trivial trivial trivial rfl (by omega) (Tryz.sorts68 _) (enters_of Tryz.func92 (by kernel_rfl) rfl) 93 #[.pointer (some ⟨w.heap.size, 0, none⟩)] trivial (enters_of Tryz.func93 (by kernel_rfl) rfl) _ 0 (Nat.zero_le _) (by omega) _ hseq
end
end Go.Proofs
