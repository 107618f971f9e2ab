/- Contracts of the Go library at this dump, laid by the kit in plain declarations: sorted keys of a map, copies of slices and maps. Conditions: each contract's own premises. -/
import Derived.Shelf.SlIter.Nil
import Derived.Shelf.SortM.Plain
import Derived.Shelf.SortM.SortNone
import Derived.Ground.GgzProg
import Derived.Ground.SlgmProg
import Derived.Shelf.SlicesE.Clone
import Derived.Ground.SlgnProg
import Derived.Shelf.SlMaps.Clone
import Derived.Ground.SlmcProg
import Derived.Test.YtcojeojmodjmdaaProg
namespace Go.Proofs
open Go.Shelf
def Try.keys46_ren : Go.Shelf.Ren := ⟨fun | 7 => 46 | 10 => 49 | n => n, fun | 23 => 62 | 26 => 9 | 3 => 67 | 28 => 83 | 0 => 0 | 27 => 82 | 33 => 65 | 4 => 4 | n => n, fun | n => n⟩
theorem Try.keys46 : Go.Proofs.SlLaysZ.n7 Try.prog Try.keys46_ren := {
  mixed := by kernel_rfl
  f7 := ⟨Try.f46.name, by decide, Try.func46.trans (congrArg some (by kernel_rfl))⟩
  f10 := ⟨Try.f49.name, by decide, Try.func49.trans (congrArg some (by kernel_rfl))⟩
  t0 := Try.underlying0
  a0 := Try.isAgg0
  z0 := Try.sizeOf0
  v0 := Try.zeroValue0
  t4 := Try.underlying4
  a4 := Try.isAgg4
  z4 := Try.sizeOf4
  v4 := Try.zeroValue4
  t23 := Try.underlying62
  a23 := Try.isAgg62
  z23 := Try.sizeOf62
  v23 := Try.zeroValue62
  t26 := Try.underlying9
  a26 := Try.isAgg9
  z26 := Try.sizeOf9
  v26 := Try.zeroValue9
  t27 := Try.underlying82
  a27 := Try.isAgg82
  z27 := Try.sizeOf82
  v27 := Try.zeroValue82
  t28 := Try.underlying83
  a28 := Try.isAgg83
  z28 := Try.sizeOf83
  v28 := Try.zeroValue83
  t33 := Try.underlying65
  a33 := Try.isAgg65
  z33 := Try.sizeOf65
  v33 := Try.zeroValue65 }
def Try.sorted45_ren : Go.Shelf.Ren := ⟨fun | 6 => 45 | 8 => 47 | 9 => 48 | 11 => 50 | 13 => 52 | 12 => 51 | 23 => 62 | 24 => 63 | 14 => 53 | 15 => 54 | 16 => 55 | 17 => 56 | 18 => 57 | 19 => 58 | 20 => 59 | 21 => 60 | 22 => 61 | 25 => 64 | 26 => 65 | 27 => 66 | 28 => 67 | 29 => 68 | 30 => 69 | 31 => 70 | n => n, fun | 26 => 9 | 28 => 83 | 24 => 22 | 0 => 0 | 3 => 3 | 37 => 89 | 48 => 99 | 50 => 101 | 4 => 4 | 40 => 92 | 39 => 91 | 45 => 96 | 5 => 5 | 9 => 9 | 51 => 102 | 55 => 106 | 57 => 108 | 58 => 109 | 33 => 65 | n => n, fun | n => n⟩
theorem Try.sorted45 : Go.Proofs.SlLaysZ.n6 Try.prog Try.sorted45_ren := {
  mixed := by kernel_rfl
  f6 := ⟨Try.f45.name, by decide, Try.func45.trans (congrArg some (by kernel_rfl))⟩
  f8 := ⟨Try.f47.name, by decide, Try.func47.trans (congrArg some (by kernel_rfl))⟩
  f11 := ⟨Try.f50.name, by decide, Try.func50.trans (congrArg some (by kernel_rfl))⟩
  t0 := Try.underlying0
  a0 := Try.isAgg0
  z0 := Try.sizeOf0
  v0 := Try.zeroValue0
  t24 := Try.underlying22
  a24 := Try.isAgg22
  z24 := Try.sizeOf22
  v24 := Try.zeroValue22
  t26 := Try.underlying9
  a26 := Try.isAgg9
  z26 := Try.sizeOf9
  v26 := Try.zeroValue9
  t28 := Try.underlying83
  a28 := Try.isAgg83
  z28 := Try.sizeOf83
  v28 := Try.zeroValue83
  i26 := by kernel_rfl }
def Try.sort48_ren : Go.Shelf.Ren := ⟨fun | 6 => 48 | 8 => 52 | 9 => 51 | 19 => 62 | 20 => 63 | 21 => 53 | 22 => 54 | 23 => 55 | 24 => 56 | 25 => 57 | 26 => 58 | 27 => 59 | 28 => 60 | 29 => 61 | 36 => 64 | 31 => 65 | 32 => 66 | 37 => 67 | 38 => 68 | 39 => 69 | 41 => 70 | n => n, fun | 27 => 22 | 29 => 9 | 3 => 3 | 32 => 89 | 26 => 22 | 0 => 0 | 44 => 99 | 46 => 101 | 4 => 4 | 36 => 92 | 35 => 91 | 41 => 96 | 5 => 5 | 9 => 9 | 53 => 102 | 57 => 106 | 63 => 108 | 64 => 109 | n => n, fun | n => n⟩
theorem Try.sort48 : Go.Proofs.SlLaysM.n6 Try.prog Try.sort48_ren := {
  mixed := by kernel_rfl
  f6 := ⟨Try.f48.name, by decide, Try.func48.trans (congrArg some (by kernel_rfl))⟩
  f8 := Try.func52.trans (congrArg some (by kernel_rfl))
  f9 := ⟨Try.f51.name, by decide, Try.func51.trans (congrArg some (by kernel_rfl))⟩
  f19 := Try.func62.trans (congrArg some (by kernel_rfl))
  f20 := Try.func63.trans (congrArg some (by kernel_rfl))
  f21 := ⟨Try.f53.name, by decide, Try.func53.trans (congrArg some (by kernel_rfl))⟩
  f22 := ⟨Try.f54.name, by decide, Try.func54.trans (congrArg some (by kernel_rfl))⟩
  f23 := ⟨Try.f55.name, by decide, Try.func55.trans (congrArg some (by kernel_rfl))⟩
  f24 := ⟨Try.f56.name, by decide, Try.func56.trans (congrArg some (by kernel_rfl))⟩
  f25 := ⟨Try.f57.name, by decide, Try.func57.trans (congrArg some (by kernel_rfl))⟩
  f26 := ⟨Try.f58.name, by decide, Try.func58.trans (congrArg some (by kernel_rfl))⟩
  f27 := ⟨Try.f59.name, by decide, Try.func59.trans (congrArg some (by kernel_rfl))⟩
  f28 := ⟨Try.f60.name, by decide, Try.func60.trans (congrArg some (by kernel_rfl))⟩
  f29 := ⟨Try.f61.name, by decide, Try.func61.trans (congrArg some (by kernel_rfl))⟩
  f31 := Try.func65.trans (congrArg some (by kernel_rfl))
  f32 := Try.func66.trans (congrArg some (by kernel_rfl))
  f36 := ⟨Try.f64.name, by decide, Try.func64.trans (congrArg some (by kernel_rfl))⟩
  f37 := ⟨Try.f67.name, by decide, Try.func67.trans (congrArg some (by kernel_rfl))⟩
  f38 := ⟨Try.f68.name, by decide, Try.func68.trans (congrArg some (by kernel_rfl))⟩
  f39 := ⟨Try.f69.name, by decide, Try.func69.trans (congrArg some (by kernel_rfl))⟩
  f41 := ⟨Try.f70.name, by decide, Try.func70.trans (congrArg some (by kernel_rfl))⟩
  t0 := Try.underlying0
  a0 := Try.isAgg0
  z0 := Try.sizeOf0
  v0 := Try.zeroValue0
  t3 := Try.underlying3
  a3 := Try.isAgg3
  z3 := Try.sizeOf3
  v3 := Try.zeroValue3
  t4 := Try.underlying4
  a4 := Try.isAgg4
  z4 := Try.sizeOf4
  v4 := Try.zeroValue4
  t5 := Try.underlying5
  a5 := Try.isAgg5
  z5 := Try.sizeOf5
  v5 := Try.zeroValue5
  t9 := Try.underlying9
  a9 := Try.isAgg9
  z9 := Try.sizeOf9
  v9 := Try.zeroValue9
  t26 := Try.underlying22
  a26 := Try.isAgg22
  z26 := Try.sizeOf22
  v26 := Try.zeroValue22
  t27 := Try.underlying22
  a27 := Try.isAgg22
  z27 := Try.sizeOf22
  v27 := Try.zeroValue22
  t29 := Try.underlying9
  a29 := Try.isAgg9
  z29 := Try.sizeOf9
  v29 := Try.zeroValue9
  t32 := Try.underlying89
  a32 := Try.isAgg89
  z32 := Try.sizeOf89
  v32 := Try.zeroValue89
  t35 := Try.underlying91
  a35 := Try.isAgg91
  z35 := Try.sizeOf91
  v35 := Try.zeroValue91
  t36 := Try.underlying92
  a36 := Try.isAgg92
  z36 := Try.sizeOf92
  v36 := Try.zeroValue92
  t41 := Try.underlying96
  a41 := Try.isAgg96
  z41 := Try.sizeOf96
  v41 := Try.zeroValue96
  t44 := Try.underlying99
  a44 := Try.isAgg99
  z44 := Try.sizeOf99
  v44 := Try.zeroValue99
  t46 := Try.underlying101
  a46 := Try.isAgg101
  z46 := Try.sizeOf101
  v46 := Try.zeroValue101
  t53 := Try.underlying102
  a53 := Try.isAgg102
  z53 := Try.sizeOf102
  v53 := Try.zeroValue102
  t57 := Try.underlying106
  a57 := Try.isAgg106
  z57 := Try.sizeOf106
  v57 := Try.zeroValue106
  t63 := Try.underlying108
  a63 := Try.isAgg108
  z63 := Try.sizeOf108
  v63 := Try.zeroValue108
  t64 := Try.underlying109
  a64 := Try.isAgg109
  z64 := Try.sizeOf109
  v64 := Try.zeroValue109 }
def Try.clone31_ren : Go.Shelf.Ren := ⟨fun | 41 => 31 | n => n, fun | 22 => 22 | 23 => 9 | 4 => 4 | n => n, fun | n => n⟩
theorem Try.clone31 : Go.Proofs.SlLaysE0.n41 Try.prog Try.clone31_ren := {
  mixed := by kernel_rfl
  f41 := ⟨Try.f31.name, by decide, Try.func31.trans (congrArg some (by kernel_rfl))⟩
  t4 := Try.underlying4
  a4 := Try.isAgg4
  z4 := Try.sizeOf4
  v4 := Try.zeroValue4
  t22 := Try.underlying22
  a22 := Try.isAgg22
  z22 := Try.sizeOf22
  v22 := Try.zeroValue22 }
def Try.mclone32_ren : Go.Shelf.Ren := ⟨fun | 5 => 32 | 7 => 41 | n => n, fun | 23 => 62 | 25 => 9 | 3 => 67 | 4 => 4 | 20 => 20 | n => n, fun | n => n⟩
theorem Try.mclone32 : Go.Proofs.SlLaysW.n5 Try.prog Try.mclone32_ren := {
  mixed := by kernel_rfl
  f5 := ⟨Try.f32.name, by decide, Try.func32.trans (congrArg some (by kernel_rfl))⟩
  f7 := Try.func41.trans (congrArg some (by kernel_rfl))
  t4 := Try.underlying4
  a4 := Try.isAgg4
  z4 := Try.sizeOf4
  v4 := Try.zeroValue4
  t20 := Try.underlying20
  a20 := Try.isAgg20
  z20 := Try.sizeOf20
  v20 := Try.zeroValue20
  t23 := Try.underlying62
  a23 := Try.isAgg62
  z23 := Try.sizeOf62
  v23 := Try.zeroValue62 }
section
open Go.RowKit Go.Maps Go.Sort Go.Shelf
theorem Try.sorts45 (m : Nat) : AnyZ.SortsIn Try.prog Try.sorted45_ren Fence.wide m :=
  ⟨fun blk off cap ss W hH hblk hsz => callsIn_wide.2 (AnyM.slices_Sort_string Try.sort48 blk off cap ss W hH hblk hsz),
   fun p cap W => callsIn_wide.2 (AnyM.slices_Sort_string_none Try.sort48 p cap W)⟩

theorem Try.maps_Keys_46 (mb : Option Nat) (W : World) : CallsIn Fence.wide 5 Try.prog 46 #[.map mb] W fun e w' => e = .returned (.func (.func 49) #[] #[.pointer (some ⟨W.heap.size, 0, none⟩)]) ∧ w' = W.alloc (.cells #[.map mb] 62) :=
  AnyZ.keys_in Try.keys46 Fence.wide 5 trivial rfl mb W

set_option maxHeartbeats 1000000 in
theorem Try.slices_Sorted_keys_45_46 {H : Type} (b nn : Nat) (D0 : DataW H) (R : Value → Option (DataW H × List MemPlace)) (w : World) (hown : w.ownsMap Try.prog 9 R b nn D0) (hmax : Maps.size D0 ≤ maxLen) (hbytes : Maps.size D0 * 16 ≤ 140737488355328) :
    CallsIn Fence.wide 5 Try.prog 45 #[.func (.func 49) #[] #[.pointer (some ⟨w.heap.size, 0, none⟩)]] (w.alloc (.cells #[.map (some b)] 62)) fun e w' => ∃ (v : Value) (ss : List (List UInt8)), e = .returned v ∧ ss.Perm (strKeys D0) ∧
      w'.ownsRow (w.alloc (.cells #[.map (some b)] 62)).heap.size 9 1 v ss.length ((ss.mergeSort (fun x y => decide (x ≤ y))).map encStr) ∧ (v = .slice none 0 0 ↔ ss = []) ∧ Below (w.alloc (.cells #[.map (some b)] 62)).heap.size (w.alloc (.cells #[.map (some b)] 62)) w' := by
  have hbl := hown.lt
  have hseq : SeqGives Fence.wide 2 Try.prog 49 #[.pointer (some ⟨w.heap.size, 0, none⟩)] encStr (fun ss => ss.Perm (strKeys D0)) (Maps.size D0) (w.alloc (.cells #[.map (some b)] 62)) :=
    AnyZ.keys_gives (ρ := Try.keys46_ren) { Try.keys46 with } Fence.wide _ trivial rfl (by omega) w.heap.size b nn D0 _ (by simp) (by simp) (by
      obtain ⟨es, clock, hb, Ft, hs, hD⟩ := hown
      exact ⟨es, clock, (Below.heap_alloc _ _ b hbl).trans hb, Ft, hs, hD⟩)
  exact AnyZ.sorted_in Try.sorted45 Fence.wide 5 trivial trivial trivial trivial rfl (by omega) (Try.sorts45 _) (enters_of Try.func48 (by kernel_rfl) rfl) 49 #[.pointer (some ⟨w.heap.size, 0, none⟩)] trivial (enters_of Try.func49 (by kernel_rfl) rfl) _ _ hmax hbytes _ hseq

set_option maxHeartbeats 1000000 in
theorem Try.slices_Sorted_keys_nil_45_46 (w : World) :
    CallsIn Fence.wide 5 Try.prog 45 #[.func (.func 49) #[] #[.pointer (some ⟨w.heap.size, 0, none⟩)]] (w.alloc (.cells #[.map none] 62)) fun e w' => ∃ (v : Value) (ss : List (List UInt8)), e = .returned v ∧ ss = [] ∧
      w'.ownsRow (w.alloc (.cells #[.map none] 62)).heap.size 9 1 v ss.length ((ss.mergeSort (fun x y => decide (x ≤ y))).map encStr) ∧ (v = .slice none 0 0 ↔ ss = []) ∧ Below (w.alloc (.cells #[.map none] 62)).heap.size (w.alloc (.cells #[.map none] 62)) w' := by
  have hseq : SeqGives Fence.wide 2 Try.prog 49 #[.pointer (some ⟨w.heap.size, 0, none⟩)] encStr (fun ss : List (List UInt8) => ss = []) 0 (w.alloc (.cells #[.map none] 62)) :=
    AnyZ.keys_gives_nil (ρ := Try.keys46_ren) { Try.keys46 with } Fence.wide _ trivial rfl w.heap.size _ (by simp) (by simp)
  exact AnyZ.sorted_in Try.sorted45 Fence.wide 5 trivial trivial trivial trivial rfl (by omega) (Try.sorts45 _) (enters_of Try.func48 (by kernel_rfl) rfl) 49 #[.pointer (some ⟨w.heap.size, 0, none⟩)] trivial (enters_of Try.func49 (by kernel_rfl) rfl) _ 0 (Nat.zero_le _) (by omega) _ hseq
end
end Go.Proofs
