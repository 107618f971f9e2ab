/- Contracts of the Go library at this dump, laid by the kit in plain declarations: sorted keys of a map, copies of slices and maps. Conditions: each contract's own premises. -/
import Derived.Shelf.SlIter.Nil
import Derived.Shelf.SortM.Plain
import Derived.Shelf.SortM.SortNone
import Derived.Ground.GgzProg
import Derived.Ground.SlgmProg
import Derived.Shelf.Strings.Split
import Derived.Shelf.Strings.Prefix
import Derived.Shelf.SlicesE.DeleteFunc
import Derived.Ground.NamesProg
import Derived.Ground.SlgfProg
import Derived.Shelf.Small.Strs
import Derived.Shelf.SlicesQ.IndexFunc
import Derived.Shelf.Slices.CompactS
import Derived.Shelf.Sort.Plain
import Derived.Shelf.Strings.BuilderK
import Derived.Shelf.Strings.Builder1
import Derived.Shelf.SlIterI.Nil
import Derived.Shelf.SlIterI.Sorted
import Derived.Test.YtffekmjoenppaaaGreatDoorProg
namespace Go.Proofs
open Go.Shelf
def Tryz.keys97_ren : Go.Shelf.Ren := ⟨fun | 7 => 97 | 10 => 110 | n => n, fun | 23 => 87 | 26 => 9 | 3 => 84 | 28 => 187 | 0 => 0 | 27 => 186 | 33 => 203 | 4 => 4 | n => n, fun | n => n⟩
theorem Tryz.keys97 : Go.Proofs.SlLaysZ.n7 Tryz.prog Tryz.keys97_ren := {
  mixed := by kernel_rfl
  f7 := ⟨Tryz.f97.name, by decide, Tryz.func97.trans (congrArg some (by kernel_rfl))⟩
  f10 := ⟨Tryz.f110.name, by decide, Tryz.func110.trans (congrArg some (by kernel_rfl))⟩
  t0 := Tryz.underlying0
  a0 := Tryz.isAgg0
  z0 := Tryz.sizeOf0
  v0 := Tryz.zeroValue0
  t4 := Tryz.underlying4
  a4 := Tryz.isAgg4
  z4 := Tryz.sizeOf4
  v4 := Tryz.zeroValue4
  t23 := Tryz.underlying87
  a23 := Tryz.isAgg87
  z23 := Tryz.sizeOf87
  v23 := Tryz.zeroValue87
  t26 := Tryz.underlying9
  a26 := Tryz.isAgg9
  z26 := Tryz.sizeOf9
  v26 := Tryz.zeroValue9
  t27 := Tryz.underlying186
  a27 := Tryz.isAgg186
  z27 := Tryz.sizeOf186
  v27 := Tryz.zeroValue186
  t28 := Tryz.underlying187
  a28 := Tryz.isAgg187
  z28 := Tryz.sizeOf187
  v28 := Tryz.zeroValue187
  t33 := Tryz.underlying203
  a33 := Tryz.isAgg203
  z33 := Tryz.sizeOf203
  v33 := Tryz.zeroValue203 }
def Tryz.sorted96_ren : Go.Shelf.Ren := ⟨fun | 6 => 96 | 8 => 108 | 9 => 109 | 11 => 127 | 13 => 126 | 12 => 128 | 23 => 147 | 24 => 148 | 14 => 149 | 15 => 150 | 16 => 151 | 17 => 152 | 18 => 153 | 19 => 154 | 20 => 155 | 21 => 156 | 22 => 157 | 25 => 172 | 26 => 167 | 27 => 168 | 28 => 173 | 29 => 174 | 30 => 175 | 31 => 183 | n => n, fun | 26 => 9 | 28 => 187 | 24 => 26 | 0 => 0 | 3 => 3 | 37 => 106 | 48 => 160 | 50 => 163 | 4 => 4 | 40 => 233 | 39 => 232 | 45 => 237 | 5 => 5 | 9 => 9 | 51 => 251 | 55 => 182 | 57 => 264 | 58 => 179 | 33 => 203 | n => n, fun | n => n⟩
theorem Tryz.sorted96 : Go.Proofs.SlLaysZ.n6 Tryz.prog Tryz.sorted96_ren := {
  mixed := by kernel_rfl
  f6 := ⟨Tryz.f96.name, by decide, Tryz.func96.trans (congrArg some (by kernel_rfl))⟩
  f8 := ⟨Tryz.f108.name, by decide, Tryz.func108.trans (congrArg some (by kernel_rfl))⟩
  f11 := ⟨Tryz.f127.name, by decide, Tryz.func127.trans (congrArg some (by kernel_rfl))⟩
  t0 := Tryz.underlying0
  a0 := Tryz.isAgg0
  z0 := Tryz.sizeOf0
  v0 := Tryz.zeroValue0
  t24 := Tryz.underlying26
  a24 := Tryz.isAgg26
  z24 := Tryz.sizeOf26
  v24 := Tryz.zeroValue26
  t26 := Tryz.underlying9
  a26 := Tryz.isAgg9
  z26 := Tryz.sizeOf9
  v26 := Tryz.zeroValue9
  t28 := Tryz.underlying187
  a28 := Tryz.isAgg187
  z28 := Tryz.sizeOf187
  v28 := Tryz.zeroValue187
  i26 := by kernel_rfl }
def Tryz.sort109_ren : Go.Shelf.Ren := ⟨fun | 6 => 109 | 8 => 126 | 9 => 128 | 19 => 147 | 20 => 148 | 21 => 149 | 22 => 150 | 23 => 151 | 24 => 152 | 25 => 153 | 26 => 154 | 27 => 155 | 28 => 156 | 29 => 157 | 36 => 172 | 31 => 167 | 32 => 168 | 37 => 173 | 38 => 174 | 39 => 175 | 41 => 183 | n => n, fun | 27 => 26 | 29 => 9 | 3 => 3 | 32 => 106 | 26 => 26 | 0 => 0 | 44 => 160 | 46 => 163 | 4 => 4 | 36 => 233 | 35 => 232 | 41 => 237 | 5 => 5 | 9 => 9 | 53 => 251 | 57 => 182 | 63 => 264 | 64 => 179 | n => n, fun | n => n⟩
theorem Tryz.sort109 : Go.Proofs.SlLaysM.n6 Tryz.prog Tryz.sort109_ren := {
  mixed := by kernel_rfl
  f6 := ⟨Tryz.f109.name, by decide, Tryz.func109.trans (congrArg some (by kernel_rfl))⟩
  f8 := Tryz.func126.trans (congrArg some (by kernel_rfl))
  f9 := ⟨Tryz.f128.name, by decide, Tryz.func128.trans (congrArg some (by kernel_rfl))⟩
  f19 := Tryz.func147.trans (congrArg some (by kernel_rfl))
  f20 := Tryz.func148.trans (congrArg some (by kernel_rfl))
  f21 := ⟨Tryz.f149.name, by decide, Tryz.func149.trans (congrArg some (by kernel_rfl))⟩
  f22 := ⟨Tryz.f150.name, by decide, Tryz.func150.trans (congrArg some (by kernel_rfl))⟩
  f23 := ⟨Tryz.f151.name, by decide, Tryz.func151.trans (congrArg some (by kernel_rfl))⟩
  f24 := ⟨Tryz.f152.name, by decide, Tryz.func152.trans (congrArg some (by kernel_rfl))⟩
  f25 := ⟨Tryz.f153.name, by decide, Tryz.func153.trans (congrArg some (by kernel_rfl))⟩
  f26 := ⟨Tryz.f154.name, by decide, Tryz.func154.trans (congrArg some (by kernel_rfl))⟩
  f27 := ⟨Tryz.f155.name, by decide, Tryz.func155.trans (congrArg some (by kernel_rfl))⟩
  f28 := ⟨Tryz.f156.name, by decide, Tryz.func156.trans (congrArg some (by kernel_rfl))⟩
  f29 := ⟨Tryz.f157.name, by decide, Tryz.func157.trans (congrArg some (by kernel_rfl))⟩
  f31 := Tryz.func167.trans (congrArg some (by kernel_rfl))
  f32 := Tryz.func168.trans (congrArg some (by kernel_rfl))
  f36 := ⟨Tryz.f172.name, by decide, Tryz.func172.trans (congrArg some (by kernel_rfl))⟩
  f37 := ⟨Tryz.f173.name, by decide, Tryz.func173.trans (congrArg some (by kernel_rfl))⟩
  f38 := ⟨Tryz.f174.name, by decide, Tryz.func174.trans (congrArg some (by kernel_rfl))⟩
  f39 := ⟨Tryz.f175.name, by decide, Tryz.func175.trans (congrArg some (by kernel_rfl))⟩
  f41 := ⟨Tryz.f183.name, by decide, Tryz.func183.trans (congrArg some (by kernel_rfl))⟩
  t0 := Tryz.underlying0
  a0 := Tryz.isAgg0
  z0 := Tryz.sizeOf0
  v0 := Tryz.zeroValue0
  t3 := Tryz.underlying3
  a3 := Tryz.isAgg3
  z3 := Tryz.sizeOf3
  v3 := Tryz.zeroValue3
  t4 := Tryz.underlying4
  a4 := Tryz.isAgg4
  z4 := Tryz.sizeOf4
  v4 := Tryz.zeroValue4
  t5 := Tryz.underlying5
  a5 := Tryz.isAgg5
  z5 := Tryz.sizeOf5
  v5 := Tryz.zeroValue5
  t9 := Tryz.underlying9
  a9 := Tryz.isAgg9
  z9 := Tryz.sizeOf9
  v9 := Tryz.zeroValue9
  t26 := Tryz.underlying26
  a26 := Tryz.isAgg26
  z26 := Tryz.sizeOf26
  v26 := Tryz.zeroValue26
  t27 := Tryz.underlying26
  a27 := Tryz.isAgg26
  z27 := Tryz.sizeOf26
  v27 := Tryz.zeroValue26
  t29 := Tryz.underlying9
  a29 := Tryz.isAgg9
  z29 := Tryz.sizeOf9
  v29 := Tryz.zeroValue9
  t32 := Tryz.underlying106
  a32 := Tryz.isAgg106
  z32 := Tryz.sizeOf106
  v32 := Tryz.zeroValue106
  t35 := Tryz.underlying232
  a35 := Tryz.isAgg232
  z35 := Tryz.sizeOf232
  v35 := Tryz.zeroValue232
  t36 := Tryz.underlying233
  a36 := Tryz.isAgg233
  z36 := Tryz.sizeOf233
  v36 := Tryz.zeroValue233
  t41 := Tryz.underlying237
  a41 := Tryz.isAgg237
  z41 := Tryz.sizeOf237
  v41 := Tryz.zeroValue237
  t44 := Tryz.underlying160
  a44 := Tryz.isAgg160
  z44 := Tryz.sizeOf160
  v44 := Tryz.zeroValue160
  t46 := Tryz.underlying163
  a46 := Tryz.isAgg163
  z46 := Tryz.sizeOf163
  v46 := Tryz.zeroValue163
  t53 := Tryz.underlying251
  a53 := Tryz.isAgg251
  z53 := Tryz.sizeOf251
  v53 := Tryz.zeroValue251
  t57 := Tryz.underlying182
  a57 := Tryz.isAgg182
  z57 := Tryz.sizeOf182
  v57 := Tryz.zeroValue182
  t63 := Tryz.underlying264
  a63 := Tryz.isAgg264
  z63 := Tryz.sizeOf264
  v63 := Tryz.zeroValue264
  t64 := Tryz.underlying179
  a64 := Tryz.isAgg179
  z64 := Tryz.sizeOf179
  v64 := Tryz.zeroValue179 }
def Tryz.laysSplit_ren : Go.Shelf.Ren := ⟨fun | 146 => 112 | 221 => 130 | 268 => 158 | 138 => 159 | 143 => 160 | 195 => 176 | 197 => 177 | 218 => 178 | 219 => 179 | 260 => 184 | 217 => 132 | 225 => 185 | 224 => 186 | 267 => 187 | 266 => 161 | 314 => 190 | n => n, fun | 9 => 9 | 31 => 26 | 3 => 3 | 4 => 4 | 0 => 0 | 105 => 258 | 21 => 21 | 5 => 5 | 46 => 106 | 119 => 274 | 139 => 277 | 138 => 276 | 146 => 161 | 51 => 160 | n => n, fun | 1 => 0 | 3 => 1 | 4 => 2 | n => n⟩
theorem Tryz.laysSplit : Go.Proofs.Lays.n146 Tryz.prog Tryz.laysSplit_ren := {
  mixed := by kernel_rfl
  f138 := Tryz.func159.trans (congrArg some (by kernel_rfl))
  f143 := Tryz.func160.trans (congrArg some (by kernel_rfl))
  f146 := Tryz.func112.trans (congrArg some (by kernel_rfl))
  f195 := Tryz.func176.trans (congrArg some (by kernel_rfl))
  f197 := Tryz.func177.trans (congrArg some (by kernel_rfl))
  f217 := Tryz.func132.trans (congrArg some (by kernel_rfl))
  f218 := Tryz.func178.trans (congrArg some (by kernel_rfl))
  f219 := Tryz.func179.trans (congrArg some (by kernel_rfl))
  f221 := Tryz.func130.trans (congrArg some (by kernel_rfl))
  f224 := Tryz.func186.trans (congrArg some (by kernel_rfl))
  f225 := Tryz.func185.trans (congrArg some (by kernel_rfl))
  f260 := Tryz.func184.trans (congrArg some (by kernel_rfl))
  f266 := Tryz.func161.trans (congrArg some (by kernel_rfl))
  f267 := Tryz.func187.trans (congrArg some (by kernel_rfl))
  f268 := Tryz.func158.trans (congrArg some (by kernel_rfl))
  f314 := Tryz.func190.trans (congrArg some (by kernel_rfl))
  t0 := Tryz.underlying0
  a0 := Tryz.isAgg0
  z0 := Tryz.sizeOf0
  v0 := Tryz.zeroValue0
  t3 := Tryz.underlying3
  a3 := Tryz.isAgg3
  z3 := Tryz.sizeOf3
  v3 := Tryz.zeroValue3
  t4 := Tryz.underlying4
  a4 := Tryz.isAgg4
  z4 := Tryz.sizeOf4
  v4 := Tryz.zeroValue4
  t5 := Tryz.underlying5
  a5 := Tryz.isAgg5
  z5 := Tryz.sizeOf5
  v5 := Tryz.zeroValue5
  t9 := Tryz.underlying9
  a9 := Tryz.isAgg9
  z9 := Tryz.sizeOf9
  v9 := Tryz.zeroValue9
  t21 := Tryz.underlying21
  a21 := Tryz.isAgg21
  z21 := Tryz.sizeOf21
  v21 := Tryz.zeroValue21
  t31 := Tryz.underlying26
  a31 := Tryz.isAgg26
  z31 := Tryz.sizeOf26
  v31 := Tryz.zeroValue26
  t46 := Tryz.underlying106
  a46 := Tryz.isAgg106
  z46 := Tryz.sizeOf106
  v46 := Tryz.zeroValue106
  t51 := Tryz.underlying160
  a51 := Tryz.isAgg160
  z51 := Tryz.sizeOf160
  v51 := Tryz.zeroValue160
  t105 := Tryz.underlying258
  a105 := Tryz.isAgg258
  z105 := Tryz.sizeOf258
  v105 := Tryz.zeroValue258
  t119 := Tryz.underlying274
  a119 := Tryz.isAgg274
  z119 := Tryz.sizeOf274
  t138 := Tryz.underlying276
  a138 := Tryz.isAgg276
  z138 := Tryz.sizeOf276
  v138 := Tryz.zeroValue276
  t139 := Tryz.underlying277
  a139 := Tryz.isAgg277
  z139 := Tryz.sizeOf277
  v139 := Tryz.zeroValue277
  t146 := Tryz.underlying161
  a146 := Tryz.isAgg161
  z146 := Tryz.sizeOf161
  v146 := Tryz.zeroValue161
  g1 := by kernel_rfl
  g3 := by kernel_rfl
  g4 := by kernel_rfl }
def Tryz.laysSuffix_ren : Go.Shelf.Ren := ⟨fun | 100 => 114 | 207 => 131 | n => n, fun | 9 => 9 | 4 => 4 | 3 => 3 | n => n, fun | n => n⟩
theorem Tryz.laysSuffix : Go.Proofs.Lays.n100 Tryz.prog Tryz.laysSuffix_ren := {
  mixed := by kernel_rfl
  f100 := Tryz.func114.trans (congrArg some (by kernel_rfl))
  f207 := Tryz.func131.trans (congrArg some (by kernel_rfl))
  t3 := Tryz.underlying3
  a3 := Tryz.isAgg3
  z3 := Tryz.sizeOf3
  v3 := Tryz.zeroValue3
  t4 := Tryz.underlying4
  a4 := Tryz.isAgg4
  z4 := Tryz.sizeOf4
  v4 := Tryz.zeroValue4
  t9 := Tryz.underlying9
  a9 := Tryz.isAgg9
  z9 := Tryz.sizeOf9
  v9 := Tryz.zeroValue9 }
def Tryz.laysDel_ren : Go.Shelf.Ren := ⟨fun | 10 => 111 | 6 => 129 | n => n, fun | 22 => 26 | 23 => 9 | 25 => 203 | 3 => 3 | 4 => 4 | 0 => 0 | n => n, fun | n => n⟩
theorem Tryz.laysDel : Go.Proofs.SlLaysH.n10 Tryz.prog Tryz.laysDel_ren := {
  mixed := by kernel_rfl
  f6 := ⟨Tryz.f129.name, by decide, Tryz.func129.trans (congrArg some (by kernel_rfl))⟩
  f10 := ⟨Tryz.f111.name, by decide, Tryz.func111.trans (congrArg some (by kernel_rfl))⟩
  t0 := Tryz.underlying0
  a0 := Tryz.isAgg0
  z0 := Tryz.sizeOf0
  v0 := Tryz.zeroValue0
  t3 := Tryz.underlying3
  a3 := Tryz.isAgg3
  z3 := Tryz.sizeOf3
  v3 := Tryz.zeroValue3
  t4 := Tryz.underlying4
  a4 := Tryz.isAgg4
  z4 := Tryz.sizeOf4
  v4 := Tryz.zeroValue4
  t22 := Tryz.underlying26
  a22 := Tryz.isAgg26
  z22 := Tryz.sizeOf26
  v22 := Tryz.zeroValue26
  a23 := Tryz.isAgg9
  z23 := Tryz.sizeOf9
  t25 := Tryz.underlying203
  a25 := Tryz.isAgg203
  z25 := Tryz.sizeOf203
  v25 := Tryz.zeroValue203 }
def Tryz.laysIdxByte_ren : Go.Shelf.Ren := ⟨fun | 137 => 117 | 217 => 132 | 266 => 161 | n => n, fun | 9 => 9 | 5 => 5 | 3 => 3 | n => n, fun | n => n⟩
theorem Tryz.laysIdxByte : Go.Proofs.Lays.n137 Tryz.prog Tryz.laysIdxByte_ren := {
  mixed := by kernel_rfl
  f137 := Tryz.func117.trans (congrArg some (by kernel_rfl))
  f217 := Tryz.func132.trans (congrArg some (by kernel_rfl))
  f266 := Tryz.func161.trans (congrArg some (by kernel_rfl))
  t3 := Tryz.underlying3
  a3 := Tryz.isAgg3
  z3 := Tryz.sizeOf3
  v3 := Tryz.zeroValue3
  t5 := Tryz.underlying5
  a5 := Tryz.isAgg5
  z5 := Tryz.sizeOf5
  v5 := Tryz.zeroValue5
  t9 := Tryz.underlying9
  a9 := Tryz.isAgg9
  z9 := Tryz.sizeOf9
  v9 := Tryz.zeroValue9 }
def Tryz.laysHasPre_ren : Go.Shelf.Ren := ⟨fun | 99 => 134 | 206 => 162 | n => n, fun | 9 => 9 | 4 => 4 | 3 => 3 | n => n, fun | n => n⟩
theorem Tryz.laysHasPre : Go.Proofs.Lays.n99 Tryz.prog Tryz.laysHasPre_ren := {
  mixed := by kernel_rfl
  f99 := Tryz.func134.trans (congrArg some (by kernel_rfl))
  f206 := Tryz.func162.trans (congrArg some (by kernel_rfl))
  t3 := Tryz.underlying3
  a3 := Tryz.isAgg3
  z3 := Tryz.sizeOf3
  v3 := Tryz.zeroValue3
  t4 := Tryz.underlying4
  a4 := Tryz.isAgg4
  z4 := Tryz.sizeOf4
  v4 := Tryz.zeroValue4
  t9 := Tryz.underlying9
  a9 := Tryz.isAgg9
  z9 := Tryz.sizeOf9
  v9 := Tryz.zeroValue9 }
def Tryz.laysBStr_ren : Go.Shelf.Ren := ⟨fun | 169 => 137 | n => n, fun | 70 => 224 | 9 => 9 | 0 => 0 | 72 => 226 | 37 => 88 | 127 => 250 | 3 => 3 | 5 => 5 | n => n, fun | n => n⟩
theorem Tryz.laysBStr : Go.Proofs.Lays.n169 Tryz.prog Tryz.laysBStr_ren := {
  mixed := by kernel_rfl
  f169 := Tryz.func137.trans (congrArg some (by kernel_rfl))
  t0 := Tryz.underlying0
  a0 := Tryz.isAgg0
  z0 := Tryz.sizeOf0
  v0 := Tryz.zeroValue0
  t3 := Tryz.underlying3
  a3 := Tryz.isAgg3
  z3 := Tryz.sizeOf3
  v3 := Tryz.zeroValue3
  t9 := Tryz.underlying9
  a9 := Tryz.isAgg9
  z9 := Tryz.sizeOf9
  v9 := Tryz.zeroValue9
  t37 := Tryz.underlying88
  a37 := Tryz.isAgg88
  z37 := Tryz.sizeOf88
  v37 := Tryz.zeroValue88
  t70 := Tryz.underlying224
  a70 := Tryz.isAgg224
  z70 := Tryz.sizeOf224
  v70 := Tryz.zeroValue224
  t72 := Tryz.underlying226
  a72 := Tryz.isAgg226
  z72 := Tryz.sizeOf226
  v72 := Tryz.zeroValue226
  t127 := Tryz.underlying250
  a127 := Tryz.isAgg250
  z127 := Tryz.sizeOf250
  v127 := Tryz.zeroValue250 }
def Tryz.laysSort_ren : Go.Shelf.Ren := ⟨fun | 190 => 109 | 125 => 126 | 258 => 128 | 128 => 147 | 129 => 148 | 302 => 149 | 303 => 150 | 304 => 151 | 305 => 152 | 306 => 153 | 307 => 154 | 308 => 155 | 309 => 156 | 310 => 157 | 333 => 172 | 329 => 167 | 330 => 168 | 334 => 173 | 335 => 174 | 336 => 175 | 344 => 183 | n => n, fun | 31 => 26 | 9 => 9 | 3 => 3 | 46 => 106 | 0 => 0 | 51 => 160 | 53 => 163 | 4 => 4 | 183 => 233 | 182 => 232 | 131 => 237 | 5 => 5 | 218 => 251 | 222 => 182 | 228 => 264 | 229 => 179 | n => n, fun | n => n⟩
theorem Tryz.laysSort : Go.Proofs.Lays.n190 Tryz.prog Tryz.laysSort_ren := {
  mixed := by kernel_rfl
  f125 := Tryz.func126.trans (congrArg some (by kernel_rfl))
  f128 := Tryz.func147.trans (congrArg some (by kernel_rfl))
  f129 := Tryz.func148.trans (congrArg some (by kernel_rfl))
  f190 := Tryz.func109.trans (congrArg some (by kernel_rfl))
  f258 := Tryz.func128.trans (congrArg some (by kernel_rfl))
  f302 := Tryz.func149.trans (congrArg some (by kernel_rfl))
  f303 := Tryz.func150.trans (congrArg some (by kernel_rfl))
  f304 := Tryz.func151.trans (congrArg some (by kernel_rfl))
  f305 := Tryz.func152.trans (congrArg some (by kernel_rfl))
  f306 := Tryz.func153.trans (congrArg some (by kernel_rfl))
  f307 := Tryz.func154.trans (congrArg some (by kernel_rfl))
  f308 := Tryz.func155.trans (congrArg some (by kernel_rfl))
  f309 := Tryz.func156.trans (congrArg some (by kernel_rfl))
  f310 := Tryz.func157.trans (congrArg some (by kernel_rfl))
  f329 := Tryz.func167.trans (congrArg some (by kernel_rfl))
  f330 := Tryz.func168.trans (congrArg some (by kernel_rfl))
  f333 := Tryz.func172.trans (congrArg some (by kernel_rfl))
  f334 := Tryz.func173.trans (congrArg some (by kernel_rfl))
  f335 := Tryz.func174.trans (congrArg some (by kernel_rfl))
  f336 := Tryz.func175.trans (congrArg some (by kernel_rfl))
  f344 := Tryz.func183.trans (congrArg some (by kernel_rfl))
  t0 := Tryz.underlying0
  a0 := Tryz.isAgg0
  z0 := Tryz.sizeOf0
  v0 := Tryz.zeroValue0
  t3 := Tryz.underlying3
  a3 := Tryz.isAgg3
  z3 := Tryz.sizeOf3
  v3 := Tryz.zeroValue3
  t4 := Tryz.underlying4
  a4 := Tryz.isAgg4
  z4 := Tryz.sizeOf4
  v4 := Tryz.zeroValue4
  t5 := Tryz.underlying5
  a5 := Tryz.isAgg5
  z5 := Tryz.sizeOf5
  v5 := Tryz.zeroValue5
  t9 := Tryz.underlying9
  a9 := Tryz.isAgg9
  z9 := Tryz.sizeOf9
  v9 := Tryz.zeroValue9
  t31 := Tryz.underlying26
  a31 := Tryz.isAgg26
  z31 := Tryz.sizeOf26
  v31 := Tryz.zeroValue26
  t46 := Tryz.underlying106
  a46 := Tryz.isAgg106
  z46 := Tryz.sizeOf106
  v46 := Tryz.zeroValue106
  t51 := Tryz.underlying160
  a51 := Tryz.isAgg160
  z51 := Tryz.sizeOf160
  v51 := Tryz.zeroValue160
  t53 := Tryz.underlying163
  a53 := Tryz.isAgg163
  z53 := Tryz.sizeOf163
  v53 := Tryz.zeroValue163
  t131 := Tryz.underlying237
  a131 := Tryz.isAgg237
  z131 := Tryz.sizeOf237
  v131 := Tryz.zeroValue237
  t182 := Tryz.underlying232
  a182 := Tryz.isAgg232
  z182 := Tryz.sizeOf232
  v182 := Tryz.zeroValue232
  t183 := Tryz.underlying233
  a183 := Tryz.isAgg233
  z183 := Tryz.sizeOf233
  v183 := Tryz.zeroValue233
  t218 := Tryz.underlying251
  a218 := Tryz.isAgg251
  z218 := Tryz.sizeOf251
  v218 := Tryz.zeroValue251
  t222 := Tryz.underlying182
  a222 := Tryz.isAgg182
  z222 := Tryz.sizeOf182
  v222 := Tryz.zeroValue182
  t228 := Tryz.underlying264
  a228 := Tryz.isAgg264
  z228 := Tryz.sizeOf264
  v228 := Tryz.zeroValue264
  t229 := Tryz.underlying179
  a229 := Tryz.isAgg179
  z229 := Tryz.sizeOf179
  v229 := Tryz.zeroValue179 }
def Tryz.laysCompact_ren : Go.Shelf.Ren := ⟨fun | 194 => 102 | n => n, fun | 31 => 26 | 9 => 9 | 3 => 3 | 4 => 4 | 0 => 0 | n => n, fun | n => n⟩
theorem Tryz.laysCompact : Go.Proofs.Lays.n194 Tryz.prog Tryz.laysCompact_ren := {
  mixed := by kernel_rfl
  f194 := Tryz.func102.trans (congrArg some (by kernel_rfl))
  t0 := Tryz.underlying0
  a0 := Tryz.isAgg0
  z0 := Tryz.sizeOf0
  v0 := Tryz.zeroValue0
  t3 := Tryz.underlying3
  a3 := Tryz.isAgg3
  z3 := Tryz.sizeOf3
  v3 := Tryz.zeroValue3
  t4 := Tryz.underlying4
  a4 := Tryz.isAgg4
  z4 := Tryz.sizeOf4
  v4 := Tryz.zeroValue4
  t9 := Tryz.underlying9
  a9 := Tryz.isAgg9
  z9 := Tryz.sizeOf9
  v9 := Tryz.zeroValue9
  t31 := Tryz.underlying26
  a31 := Tryz.isAgg26
  z31 := Tryz.sizeOf26
  v31 := Tryz.zeroValue26 }
def Tryz.laysIdxF_ren : Go.Shelf.Ren := ⟨fun | 6 => 119 | n => n, fun | 22 => 34 | 23 => 210 | 25 => 212 | 3 => 3 | 0 => 0 | 4 => 4 | n => n, fun | n => n⟩
theorem Tryz.laysIdxF : Go.Proofs.SlLaysH0.n6 Tryz.prog Tryz.laysIdxF_ren := {
  mixed := by kernel_rfl
  f6 := ⟨Tryz.f119.name, by decide, Tryz.func119.trans (congrArg some (by kernel_rfl))⟩
  t0 := Tryz.underlying0
  a0 := Tryz.isAgg0
  z0 := Tryz.sizeOf0
  v0 := Tryz.zeroValue0
  t3 := Tryz.underlying3
  a3 := Tryz.isAgg3
  z3 := Tryz.sizeOf3
  v3 := Tryz.zeroValue3
  t4 := Tryz.underlying4
  a4 := Tryz.isAgg4
  z4 := Tryz.sizeOf4
  v4 := Tryz.zeroValue4
  t22 := Tryz.underlying34
  a22 := Tryz.isAgg34
  z22 := Tryz.sizeOf34
  v22 := Tryz.zeroValue34
  t25 := Tryz.underlying212
  a25 := Tryz.isAgg212
  z25 := Tryz.sizeOf212
  v25 := Tryz.zeroValue212 }
def Tryz.laysContF_ren : Go.Shelf.Ren := ⟨fun | 8 => 115 | 6 => 119 | n => n, fun | 22 => 34 | 23 => 210 | 25 => 212 | 4 => 4 | 3 => 3 | 0 => 0 | n => n, fun | n => n⟩
theorem Tryz.laysContF : Go.Proofs.SlLaysH0.n8 Tryz.prog Tryz.laysContF_ren := {
  mixed := by kernel_rfl
  f6 := ⟨Tryz.f119.name, by decide, Tryz.func119.trans (congrArg some (by kernel_rfl))⟩
  f8 := ⟨Tryz.f115.name, by decide, Tryz.func115.trans (congrArg some (by kernel_rfl))⟩
  t0 := Tryz.underlying0
  a0 := Tryz.isAgg0
  z0 := Tryz.sizeOf0
  v0 := Tryz.zeroValue0
  t3 := Tryz.underlying3
  a3 := Tryz.isAgg3
  z3 := Tryz.sizeOf3
  v3 := Tryz.zeroValue3
  t4 := Tryz.underlying4
  a4 := Tryz.isAgg4
  z4 := Tryz.sizeOf4
  v4 := Tryz.zeroValue4
  t22 := Tryz.underlying34
  a22 := Tryz.isAgg34
  z22 := Tryz.sizeOf34
  v22 := Tryz.zeroValue34
  t25 := Tryz.underlying212
  a25 := Tryz.isAgg212
  z25 := Tryz.sizeOf212
  v25 := Tryz.zeroValue212 }
def Tryz.keys91_ren : Go.Shelf.Ren := ⟨fun | 7 => 91 | 10 => 106 | n => n, fun | 23 => 51 | 26 => 3 | 3 => 57 | 28 => 177 | 0 => 0 | 27 => 176 | 33 => 116 | 4 => 4 | n => n, fun | n => n⟩
theorem Tryz.keys91 : Go.Proofs.SlLaysZI.n7 Tryz.prog Tryz.keys91_ren := {
  mixed := by kernel_rfl
  f7 := ⟨Tryz.f91.name, by decide, Tryz.func91.trans (congrArg some (by kernel_rfl))⟩
  f10 := ⟨Tryz.f106.name, by decide, Tryz.func106.trans (congrArg some (by kernel_rfl))⟩
  t0 := Tryz.underlying0
  a0 := Tryz.isAgg0
  z0 := Tryz.sizeOf0
  v0 := Tryz.zeroValue0
  t4 := Tryz.underlying4
  a4 := Tryz.isAgg4
  z4 := Tryz.sizeOf4
  v4 := Tryz.zeroValue4
  t23 := Tryz.underlying51
  a23 := Tryz.isAgg51
  z23 := Tryz.sizeOf51
  v23 := Tryz.zeroValue51
  t26 := Tryz.underlying3
  a26 := Tryz.isAgg3
  z26 := Tryz.sizeOf3
  v26 := Tryz.zeroValue3
  t27 := Tryz.underlying176
  a27 := Tryz.isAgg176
  z27 := Tryz.sizeOf176
  v27 := Tryz.zeroValue176
  t28 := Tryz.underlying177
  a28 := Tryz.isAgg177
  z28 := Tryz.sizeOf177
  v28 := Tryz.zeroValue177
  t33 := Tryz.underlying116
  a33 := Tryz.isAgg116
  z33 := Tryz.sizeOf116
  v33 := Tryz.zeroValue116 }
def Tryz.sorted90_ren : Go.Shelf.Ren := ⟨fun | 6 => 90 | 8 => 104 | 9 => 105 | 11 => 124 | 13 => 126 | 12 => 125 | 23 => 147 | 24 => 148 | 14 => 138 | 15 => 139 | 16 => 140 | 17 => 141 | 18 => 142 | 19 => 143 | 20 => 144 | 21 => 145 | 22 => 146 | 25 => 166 | 26 => 167 | 27 => 168 | 28 => 169 | 29 => 170 | 30 => 171 | 31 => 182 | n => n, fun | 26 => 3 | 28 => 177 | 24 => 22 | 0 => 0 | 3 => 3 | 37 => 106 | 48 => 160 | 50 => 163 | 4 => 4 | 40 => 233 | 39 => 232 | 45 => 237 | 5 => 5 | 9 => 9 | 51 => 251 | 55 => 182 | 57 => 264 | 58 => 179 | 33 => 116 | n => n, fun | n => n⟩
theorem Tryz.sorted90 : Go.Proofs.SlLaysZI.n6 Tryz.prog Tryz.sorted90_ren := {
  mixed := by kernel_rfl
  f6 := ⟨Tryz.f90.name, by decide, Tryz.func90.trans (congrArg some (by kernel_rfl))⟩
  f8 := ⟨Tryz.f104.name, by decide, Tryz.func104.trans (congrArg some (by kernel_rfl))⟩
  f11 := ⟨Tryz.f124.name, by decide, Tryz.func124.trans (congrArg some (by kernel_rfl))⟩
  t0 := Tryz.underlying0
  a0 := Tryz.isAgg0
  z0 := Tryz.sizeOf0
  v0 := Tryz.zeroValue0
  t24 := Tryz.underlying22
  a24 := Tryz.isAgg22
  z24 := Tryz.sizeOf22
  v24 := Tryz.zeroValue22
  t26 := Tryz.underlying3
  a26 := Tryz.isAgg3
  z26 := Tryz.sizeOf3
  v26 := Tryz.zeroValue3
  t28 := Tryz.underlying177
  a28 := Tryz.isAgg177
  z28 := Tryz.sizeOf177
  v28 := Tryz.zeroValue177
  i26 := by kernel_rfl }
def Tryz.sort105_ren : Go.Shelf.Ren := ⟨fun | 5 => 105 | 8 => 126 | 7 => 125 | 19 => 147 | 20 => 148 | 10 => 138 | 11 => 139 | 12 => 140 | 13 => 141 | 14 => 142 | 15 => 143 | 16 => 144 | 17 => 145 | 18 => 146 | 30 => 166 | 31 => 167 | 32 => 168 | 33 => 169 | 34 => 170 | 35 => 171 | 40 => 182 | n => n, fun | 23 => 22 | 25 => 3 | 3 => 3 | 32 => 106 | 22 => 22 | 0 => 0 | 44 => 160 | 46 => 163 | 4 => 4 | 36 => 233 | 35 => 232 | 41 => 237 | 5 => 5 | 9 => 9 | 53 => 251 | 57 => 182 | 63 => 264 | 64 => 179 | n => n, fun | n => n⟩
theorem Tryz.sort105 : Go.Proofs.SlLaysM.n5 Tryz.prog Tryz.sort105_ren := {
  mixed := by kernel_rfl
  f5 := ⟨Tryz.f105.name, by decide, Tryz.func105.trans (congrArg some (by kernel_rfl))⟩
  f7 := ⟨Tryz.f125.name, by decide, Tryz.func125.trans (congrArg some (by kernel_rfl))⟩
  f8 := Tryz.func126.trans (congrArg some (by kernel_rfl))
  f10 := ⟨Tryz.f138.name, by decide, Tryz.func138.trans (congrArg some (by kernel_rfl))⟩
  f11 := ⟨Tryz.f139.name, by decide, Tryz.func139.trans (congrArg some (by kernel_rfl))⟩
  f12 := ⟨Tryz.f140.name, by decide, Tryz.func140.trans (congrArg some (by kernel_rfl))⟩
  f13 := ⟨Tryz.f141.name, by decide, Tryz.func141.trans (congrArg some (by kernel_rfl))⟩
  f14 := ⟨Tryz.f142.name, by decide, Tryz.func142.trans (congrArg some (by kernel_rfl))⟩
  f15 := ⟨Tryz.f143.name, by decide, Tryz.func143.trans (congrArg some (by kernel_rfl))⟩
  f16 := ⟨Tryz.f144.name, by decide, Tryz.func144.trans (congrArg some (by kernel_rfl))⟩
  f17 := ⟨Tryz.f145.name, by decide, Tryz.func145.trans (congrArg some (by kernel_rfl))⟩
  f18 := ⟨Tryz.f146.name, by decide, Tryz.func146.trans (congrArg some (by kernel_rfl))⟩
  f19 := Tryz.func147.trans (congrArg some (by kernel_rfl))
  f20 := Tryz.func148.trans (congrArg some (by kernel_rfl))
  f30 := ⟨Tryz.f166.name, by decide, Tryz.func166.trans (congrArg some (by kernel_rfl))⟩
  f31 := Tryz.func167.trans (congrArg some (by kernel_rfl))
  f32 := Tryz.func168.trans (congrArg some (by kernel_rfl))
  f33 := ⟨Tryz.f169.name, by decide, Tryz.func169.trans (congrArg some (by kernel_rfl))⟩
  f34 := ⟨Tryz.f170.name, by decide, Tryz.func170.trans (congrArg some (by kernel_rfl))⟩
  f35 := ⟨Tryz.f171.name, by decide, Tryz.func171.trans (congrArg some (by kernel_rfl))⟩
  f40 := ⟨Tryz.f182.name, by decide, Tryz.func182.trans (congrArg some (by kernel_rfl))⟩
  t0 := Tryz.underlying0
  a0 := Tryz.isAgg0
  z0 := Tryz.sizeOf0
  v0 := Tryz.zeroValue0
  t3 := Tryz.underlying3
  a3 := Tryz.isAgg3
  z3 := Tryz.sizeOf3
  v3 := Tryz.zeroValue3
  t4 := Tryz.underlying4
  a4 := Tryz.isAgg4
  z4 := Tryz.sizeOf4
  v4 := Tryz.zeroValue4
  t5 := Tryz.underlying5
  a5 := Tryz.isAgg5
  z5 := Tryz.sizeOf5
  v5 := Tryz.zeroValue5
  t9 := Tryz.underlying9
  a9 := Tryz.isAgg9
  z9 := Tryz.sizeOf9
  v9 := Tryz.zeroValue9
  t22 := Tryz.underlying22
  a22 := Tryz.isAgg22
  z22 := Tryz.sizeOf22
  v22 := Tryz.zeroValue22
  t23 := Tryz.underlying22
  a23 := Tryz.isAgg22
  z23 := Tryz.sizeOf22
  v23 := Tryz.zeroValue22
  t25 := Tryz.underlying3
  a25 := Tryz.isAgg3
  z25 := Tryz.sizeOf3
  v25 := Tryz.zeroValue3
  t32 := Tryz.underlying106
  a32 := Tryz.isAgg106
  z32 := Tryz.sizeOf106
  v32 := Tryz.zeroValue106
  t35 := Tryz.underlying232
  a35 := Tryz.isAgg232
  z35 := Tryz.sizeOf232
  v35 := Tryz.zeroValue232
  t36 := Tryz.underlying233
  a36 := Tryz.isAgg233
  z36 := Tryz.sizeOf233
  v36 := Tryz.zeroValue233
  t41 := Tryz.underlying237
  a41 := Tryz.isAgg237
  z41 := Tryz.sizeOf237
  v41 := Tryz.zeroValue237
  t44 := Tryz.underlying160
  a44 := Tryz.isAgg160
  z44 := Tryz.sizeOf160
  v44 := Tryz.zeroValue160
  t46 := Tryz.underlying163
  a46 := Tryz.isAgg163
  z46 := Tryz.sizeOf163
  v46 := Tryz.zeroValue163
  t53 := Tryz.underlying251
  a53 := Tryz.isAgg251
  z53 := Tryz.sizeOf251
  v53 := Tryz.zeroValue251
  t57 := Tryz.underlying182
  a57 := Tryz.isAgg182
  z57 := Tryz.sizeOf182
  v57 := Tryz.zeroValue182
  t63 := Tryz.underlying264
  a63 := Tryz.isAgg264
  z63 := Tryz.sizeOf264
  v63 := Tryz.zeroValue264
  t64 := Tryz.underlying179
  a64 := Tryz.isAgg179
  z64 := Tryz.sizeOf179
  v64 := Tryz.zeroValue179 }
section
open Go.RowKit Go.Maps Go.Sort Go.Shelf
theorem Tryz.sorts96 (m : Nat) : AnyZ.SortsIn Tryz.prog Tryz.sorted96_ren Fence.wide m :=
  ⟨fun blk off cap ss W hH hblk hsz => callsIn_wide.2 (AnyM.slices_Sort_string Tryz.sort109 blk off cap ss W hH hblk hsz),
   fun p cap W => callsIn_wide.2 (AnyM.slices_Sort_string_none Tryz.sort109 p cap W)⟩

theorem Tryz.maps_Keys_97 (mb : Option Nat) (W : World) : CallsIn Fence.wide 5 Tryz.prog 97 #[.map mb] W fun e w' => e = .returned (.func (.func 110) #[] #[.pointer (some ⟨W.heap.size, 0, none⟩)]) ∧ w' = W.alloc (.cells #[.map mb] 87) :=
  AnyZ.keys_in Tryz.keys97 Fence.wide 5 trivial rfl mb W

set_option maxHeartbeats 1000000 in
theorem Tryz.slices_Sorted_keys_96_97 {H : Type} (b nn : Nat) (D0 : DataW H) (R : Value → Option (DataW H × List MemPlace)) (w : World) (hown : w.ownsMap Tryz.prog 9 R b nn D0) (hmax : Maps.size D0 ≤ maxLen) (hbytes : Maps.size D0 * 16 ≤ 140737488355328) :
    CallsIn Fence.wide 5 Tryz.prog 96 #[.func (.func 110) #[] #[.pointer (some ⟨w.heap.size, 0, none⟩)]] (w.alloc (.cells #[.map (some b)] 87)) fun e w' => ∃ (v : Value) (ss : List (List UInt8)), e = .returned v ∧ ss.Perm (strKeys D0) ∧
      w'.ownsRow (w.alloc (.cells #[.map (some b)] 87)).heap.size 9 1 v ss.length ((ss.mergeSort (fun x y => decide (x ≤ y))).map encStr) ∧ (v = .slice none 0 0 ↔ ss = []) ∧ Below (w.alloc (.cells #[.map (some b)] 87)).heap.size (w.alloc (.cells #[.map (some b)] 87)) w' := by
  have hbl := hown.lt
  have hseq : SeqGives Fence.wide 2 Tryz.prog 110 #[.pointer (some ⟨w.heap.size, 0, none⟩)] encStr (fun ss => ss.Perm (strKeys D0)) (Maps.size D0) (w.alloc (.cells #[.map (some b)] 87)) :=
    AnyZ.keys_gives (ρ := Tryz.keys97_ren) { Tryz.keys97 with } Fence.wide _ trivial rfl (by omega) w.heap.size b nn D0 _ (by simp) (by simp) (by
      obtain ⟨es, clock, hb, Ft, hs, hD⟩ := hown
      exact ⟨es, clock, (Below.heap_alloc _ _ b hbl).trans hb, Ft, hs, hD⟩)
  exact AnyZ.sorted_in Tryz.sorted96 Fence.wide 5 trivial trivial trivial trivial rfl (by omega) (Tryz.sorts96 _) (enters_of Tryz.func109 (by kernel_rfl) rfl) 110 #[.pointer (some ⟨w.heap.size, 0, none⟩)] trivial (enters_of Tryz.func110 (by kernel_rfl) rfl) _ _ hmax hbytes _ hseq

set_option maxHeartbeats 1000000 in
theorem Tryz.slices_Sorted_keys_nil_96_97 (w : World) :
    CallsIn Fence.wide 5 Tryz.prog 96 #[.func (.func 110) #[] #[.pointer (some ⟨w.heap.size, 0, none⟩)]] (w.alloc (.cells #[.map none] 87)) fun e w' => ∃ (v : Value) (ss : List (List UInt8)), e = .returned v ∧ ss = [] ∧
      w'.ownsRow (w.alloc (.cells #[.map none] 87)).heap.size 9 1 v ss.length ((ss.mergeSort (fun x y => decide (x ≤ y))).map encStr) ∧ (v = .slice none 0 0 ↔ ss = []) ∧ Below (w.alloc (.cells #[.map none] 87)).heap.size (w.alloc (.cells #[.map none] 87)) w' := by
  have hseq : SeqGives Fence.wide 2 Tryz.prog 110 #[.pointer (some ⟨w.heap.size, 0, none⟩)] encStr (fun ss : List (List UInt8) => ss = []) 0 (w.alloc (.cells #[.map none] 87)) :=
    AnyZ.keys_gives_nil (ρ := Tryz.keys97_ren) { Tryz.keys97 with } Fence.wide _ trivial rfl w.heap.size _ (by simp) (by simp)
  exact AnyZ.sorted_in Tryz.sorted96 Fence.wide 5 trivial trivial trivial trivial rfl (by omega) (Tryz.sorts96 _) (enters_of Tryz.func109 (by kernel_rfl) rfl) 110 #[.pointer (some ⟨w.heap.size, 0, none⟩)] trivial (enters_of Tryz.func110 (by kernel_rfl) rfl) _ 0 (Nat.zero_le _) (by omega) _ hseq
end
section
open Go.RowKit Go.Maps Go.Sort Go.Shelf
theorem Tryz.sorts90 (m : Nat) : AnyZI.SortsIn Tryz.prog Tryz.sorted90_ren Fence.wide m :=
  ⟨fun blk off cap ss W hH hblk hsz => callsIn_wide.2 (AnyM.slices_Sort_int Tryz.sort105 blk off cap ss W hH hblk hsz),
   fun p cap W => callsIn_wide.2 (AnyM.slices_Sort_int_none Tryz.sort105 p cap W)⟩
end
section
open Go.RowKit Go.Maps Go.Sort Go.Shelf
theorem Tryz.maps_Keys_91 (mb : Option Nat) (W : World) : CallsIn Fence.wide 5 Tryz.prog 91 #[.map mb] W fun e w' => e = .returned (.func (.func 106) #[] #[.pointer (some ⟨W.heap.size, 0, none⟩)]) ∧ w' = W.alloc (.cells #[.map mb] 51) :=
  AnyZI.keys_in Tryz.keys91 Fence.wide 5 trivial rfl mb W
set_option maxHeartbeats 1000000 in
theorem Tryz.slices_Sorted_keys_90_91 {H : Type} (b nn : Nat) (D0 : DataW H) (R : Value → Option (DataW H × List MemPlace)) (w : World) (hown : w.ownsMap Tryz.prog 3 R b nn D0) (hmax : Maps.size D0 ≤ maxLen) (hbytes : Maps.size D0 * 8 ≤ 140737488355328) :
    CallsIn Fence.wide 5 Tryz.prog 90 #[.func (.func 106) #[] #[.pointer (some ⟨w.heap.size, 0, none⟩)]] (w.alloc (.cells #[.map (some b)] 51)) fun e w' => ∃ (v : Value) (ss : List Int), e = .returned v ∧ ss.Perm (intKeys D0) ∧
      w'.ownsRow (w.alloc (.cells #[.map (some b)] 51)).heap.size 3 1 v ss.length ((ss.mergeSort (fun x y => decide (x ≤ y))).map encZ) ∧ (v = .slice none 0 0 ↔ ss = []) ∧ Below (w.alloc (.cells #[.map (some b)] 51)).heap.size (w.alloc (.cells #[.map (some b)] 51)) w' := by
  have hbl := hown.lt
  have hseq : SeqGives Fence.wide 2 Tryz.prog 106 #[.pointer (some ⟨w.heap.size, 0, none⟩)] encZ (fun ss => ss.Perm (intKeys D0)) (Maps.size D0) (w.alloc (.cells #[.map (some b)] 51)) :=
    AnyZI.keys_gives (ρ := Tryz.keys91_ren) { Tryz.keys91 with } Fence.wide _ trivial rfl (by omega) w.heap.size b nn D0 _ (by simp) (by simp) (by
      obtain ⟨es, clock, hb, Ft, hs, hD⟩ := hown
      exact ⟨es, clock, (Below.heap_alloc _ _ b hbl).trans hb, Ft, hs, hD⟩)
  exact AnyZI.sorted_in Tryz.sorted90 Fence.wide 5 trivial trivial trivial trivial rfl (by omega) (Tryz.sorts90 _) (enters_of Tryz.func105 (by kernel_rfl) rfl) 106 #[.pointer (some ⟨w.heap.size, 0, none⟩)] trivial (enters_of Tryz.func106 (by kernel_rfl) rfl) _ _ hmax hbytes _ hseq
set_option maxHeartbeats 1000000 in
theorem Tryz.slices_Sorted_keys_nil_90_91 (w : World) :
    CallsIn Fence.wide 5 Tryz.prog 90 #[.func (.func 106) #[] #[.pointer (some ⟨w.heap.size, 0, none⟩)]] (w.alloc (.cells #[.map none] 51)) fun e w' => ∃ (v : Value) (ss : List Int), e = .returned v ∧ ss = [] ∧
      w'.ownsRow (w.alloc (.cells #[.map none] 51)).heap.size 3 1 v ss.length ((ss.mergeSort (fun x y => decide (x ≤ y))).map encZ) ∧ (v = .slice none 0 0 ↔ ss = []) ∧ Below (w.alloc (.cells #[.map none] 51)).heap.size (w.alloc (.cells #[.map none] 51)) w' := by
  have hseq : SeqGives Fence.wide 2 Tryz.prog 106 #[.pointer (some ⟨w.heap.size, 0, none⟩)] encZ (fun ss : List Int => ss = []) 0 (w.alloc (.cells #[.map none] 51)) :=
    AnyZI.keys_gives_nil (ρ := Tryz.keys91_ren) { Tryz.keys91 with } Fence.wide _ trivial rfl w.heap.size _ (by simp) (by simp)
  exact AnyZI.sorted_in Tryz.sorted90 Fence.wide 5 trivial trivial trivial trivial rfl (by omega) (Tryz.sorts90 _) (enters_of Tryz.func105 (by kernel_rfl) rfl) 106 #[.pointer (some ⟨w.heap.size, 0, none⟩)] trivial (enters_of Tryz.func106 (by kernel_rfl) rfl) _ 0 (Nat.zero_le _) (by omega) _ hseq
end
end Go.Proofs
