/- What the kit's tool lays of the library's contracts beyond the first text. -/
import Derived.Shelf.SlGeneric
import Derived.Shelf.SlIterI.Nil
import Derived.Shelf.SortM.Plain
import Derived.Shelf.SortM.SortNone
import Derived.Ground.GgzProg
import Derived.Ground.SlgmProg
import Derived.Shelf.Small.Bits
import Derived.Shelf.Small.Wraps
import Derived.Shelf.Strconv.Itoa0
import Derived.Shelf.Sort.Plain
import Derived.Shelf.Strings.Fields
import Derived.Shelf.LaysM
import Derived.Shelf.Strings.SplitShaped
import Derived.Shelf.Unicode.Latin
import Derived.Shelf.Unicode.Is16White
import Derived.Shelf.Unicode.IsSpaceAny
import Derived.Shelf.Unicode.Is16WhiteD
import Derived.Shelf.Unicode.IsSpaceAnyD
import Derived.Shelf.Strings.FieldsAny
import Derived.Shelf.Strings.FieldsFuncAny
import Derived.Shelf.Unicode.Is16Any
import Derived.Shelf.Unicode.Is32Any
import Derived.Shelf.Unicode.ExclAny
import Derived.Shelf.Strings.FieldsFuncGrows
import Derived.Shelf.Slices.Turned
import Derived.Ground.Names2Prog
import Derived.Shelf.Slices.SearchI
import Derived.Shelf.Slices.In.SortNone
import Derived.Test.YtaeeblceedklnaaGreatDoorShelf
import Derived.Test.YtaeeblceedklnaaGreatDoorProg
namespace Go.Proofs
open Go.Shelf
def Tryz.lays215_ren : Go.Shelf.Ren := ⟨fun | 215 => 171 | n => n, fun | 3 => 3 | 4 => 4 | n => n, fun | n => n⟩
theorem Tryz.lays215 : Go.Proofs.Lays.n215 Tryz.prog Tryz.lays215_ren := {
  mixed := by kernel_rfl
  f215 := Tryz.func171.trans (congrArg some (by kernel_rfl))
  t3 := Tryz.underlying3
  a3 := Tryz.isAgg3
  z3 := Tryz.sizeOf3
  v3 := Tryz.zeroValue3
  t4 := Tryz.underlying4
  a4 := Tryz.isAgg4
  z4 := Tryz.sizeOf4
  v4 := Tryz.zeroValue4 }
open Go.RowKit in
/-- cmp.isNaN at int: 'x != x': false. (LAID: no walk: one application.) -/
theorem Tryz.cmp_isNaN_int (x : Int) (w : World) :
    Calls Tryz.prog 171 #[.int .i64 x] w fun e w' => e = .returned (.bool false) ∧ w' = w := Any.cmp_isNaN_int Tryz.lays215 x w
def Tryz.lays189_ren : Go.Shelf.Ren := ⟨fun | 189 => 127 | 125 => 147 | 257 => 146 | 128 => 163 | 129 => 164 | 294 => 154 | 295 => 155 | 296 => 156 | 297 => 157 | 298 => 158 | 299 => 159 | 216 => 160 | 300 => 161 | 301 => 162 | 328 => 166 | 329 => 167 | 330 => 168 | 331 => 169 | 332 => 170 | 215 => 171 | 343 => 174 | n => n, fun | 28 => 36 | 3 => 3 | 46 => 147 | 0 => 0 | 51 => 164 | 53 => 166 | 4 => 4 | 183 => 156 | 182 => 155 | 131 => 161 | 5 => 5 | 9 => 9 | 218 => 172 | 222 => 176 | 228 => 189 | 229 => 190 | n => n, fun | n => n⟩
theorem Tryz.lays189 : Go.Proofs.Lays.n189 Tryz.prog Tryz.lays189_ren := {
  mixed := by kernel_rfl
  f125 := Tryz.func147.trans (congrArg some (by kernel_rfl))
  f128 := Tryz.func163.trans (congrArg some (by kernel_rfl))
  f129 := Tryz.func164.trans (congrArg some (by kernel_rfl))
  f189 := Tryz.func127.trans (congrArg some (by kernel_rfl))
  f215 := Tryz.func171.trans (congrArg some (by kernel_rfl))
  f216 := Tryz.func160.trans (congrArg some (by kernel_rfl))
  f257 := Tryz.func146.trans (congrArg some (by kernel_rfl))
  f294 := Tryz.func154.trans (congrArg some (by kernel_rfl))
  f295 := Tryz.func155.trans (congrArg some (by kernel_rfl))
  f296 := Tryz.func156.trans (congrArg some (by kernel_rfl))
  f297 := Tryz.func157.trans (congrArg some (by kernel_rfl))
  f298 := Tryz.func158.trans (congrArg some (by kernel_rfl))
  f299 := Tryz.func159.trans (congrArg some (by kernel_rfl))
  f300 := Tryz.func161.trans (congrArg some (by kernel_rfl))
  f301 := Tryz.func162.trans (congrArg some (by kernel_rfl))
  f328 := Tryz.func166.trans (congrArg some (by kernel_rfl))
  f329 := Tryz.func167.trans (congrArg some (by kernel_rfl))
  f330 := Tryz.func168.trans (congrArg some (by kernel_rfl))
  f331 := Tryz.func169.trans (congrArg some (by kernel_rfl))
  f332 := Tryz.func170.trans (congrArg some (by kernel_rfl))
  f343 := Tryz.func174.trans (congrArg some (by kernel_rfl))
  t0 := Tryz.underlying0
  a0 := Tryz.isAgg0
  z0 := Tryz.sizeOf0
  v0 := Tryz.zeroValue0
  t3 := Tryz.underlying3
  a3 := Tryz.isAgg3
  z3 := Tryz.sizeOf3
  v3 := Tryz.zeroValue3
  t4 := Tryz.underlying4
  a4 := Tryz.isAgg4
  z4 := Tryz.sizeOf4
  v4 := Tryz.zeroValue4
  t5 := Tryz.underlying5
  a5 := Tryz.isAgg5
  z5 := Tryz.sizeOf5
  v5 := Tryz.zeroValue5
  t9 := Tryz.underlying9
  a9 := Tryz.isAgg9
  z9 := Tryz.sizeOf9
  v9 := Tryz.zeroValue9
  t28 := Tryz.underlying36
  a28 := Tryz.isAgg36
  z28 := Tryz.sizeOf36
  v28 := Tryz.zeroValue36
  t46 := Tryz.underlying147
  a46 := Tryz.isAgg147
  z46 := Tryz.sizeOf147
  v46 := Tryz.zeroValue147
  t51 := Tryz.underlying164
  a51 := Tryz.isAgg164
  z51 := Tryz.sizeOf164
  v51 := Tryz.zeroValue164
  t53 := Tryz.underlying166
  a53 := Tryz.isAgg166
  z53 := Tryz.sizeOf166
  v53 := Tryz.zeroValue166
  t131 := Tryz.underlying161
  a131 := Tryz.isAgg161
  z131 := Tryz.sizeOf161
  v131 := Tryz.zeroValue161
  t182 := Tryz.underlying155
  a182 := Tryz.isAgg155
  z182 := Tryz.sizeOf155
  v182 := Tryz.zeroValue155
  t183 := Tryz.underlying156
  a183 := Tryz.isAgg156
  z183 := Tryz.sizeOf156
  v183 := Tryz.zeroValue156
  t218 := Tryz.underlying172
  a218 := Tryz.isAgg172
  z218 := Tryz.sizeOf172
  v218 := Tryz.zeroValue172
  t222 := Tryz.underlying176
  a222 := Tryz.isAgg176
  z222 := Tryz.sizeOf176
  v222 := Tryz.zeroValue176
  t228 := Tryz.underlying189
  a228 := Tryz.isAgg189
  z228 := Tryz.sizeOf189
  v228 := Tryz.zeroValue189
  t229 := Tryz.underlying190
  a229 := Tryz.isAgg190
  z229 := Tryz.sizeOf190
  v229 := Tryz.zeroValue190 }
open Go.Sort Go.RowKit in
theorem Tryz.slices_Sort_int (blk off cap : Nat) (zs : List Int) (w : World) (hH : Holds (Value.int .i64) w blk off zs.toArray) (hblk : blk < w.heap.size) (hsz : zs.length < 4611686018427387904) :
    Calls Tryz.prog 127 #[.slice (some ⟨blk, off, none⟩) zs.length cap] w fun e w' =>
      e = .returned (.tuple #[]) ∧ ∃ n os, w' = grow (putRow (Value.int .i64) (Sort.ahead w n) blk off (zs.mergeSort fun x y => decide (x ≤ y)).toArray) os := Any.slices_Sort_int Tryz.lays189 blk off cap zs w hH hblk hsz
def Tryz.laysM157_ren : Go.Shelf.Ren := ⟨fun | 157 => 131 | 229 => 150 | 199 => 151 | 261 => 165 | 311 => 172 | 312 => 173 | n => n, fun | 9 => 9 | 31 => 60 | 3 => 3 | 5 => 5 | 4 => 4 | 119 => 149 | 0 => 0 | 40 => 151 | 152 => 167 | 21 => 21 | 154 => 169 | 51 => 164 | 141 => 171 | 196 => 181 | 193 => 178 | 198 => 184 | 49 => 182 | 194 => 179 | 201 => 187 | 226 => 192 | 46 => 147 | 227 => 193 | n => n, fun | 0 => 0 | 6 => 1 | n => n⟩
theorem Tryz.laysM157 : Go.Proofs.LaysM.n157 Tryz.prog Tryz.laysM157_ren := {
  mixed := by kernel_rfl
  f157 := Tryz.func131.trans (congrArg some (by kernel_rfl))
  f199 := Tryz.func151.trans (congrArg some (by kernel_rfl))
  f229 := Tryz.func150.trans (congrArg some (by kernel_rfl))
  f261 := Tryz.func165.trans (congrArg some (by kernel_rfl))
  f311 := Tryz.func172.trans (congrArg some (by kernel_rfl))
  f312 := Tryz.func173.trans (congrArg some (by kernel_rfl))
  t0 := Tryz.underlying0
  a0 := Tryz.isAgg0
  z0 := Tryz.sizeOf0
  v0 := Tryz.zeroValue0
  t3 := Tryz.underlying3
  a3 := Tryz.isAgg3
  z3 := Tryz.sizeOf3
  v3 := Tryz.zeroValue3
  t4 := Tryz.underlying4
  a4 := Tryz.isAgg4
  z4 := Tryz.sizeOf4
  v4 := Tryz.zeroValue4
  t5 := Tryz.underlying5
  a5 := Tryz.isAgg5
  z5 := Tryz.sizeOf5
  v5 := Tryz.zeroValue5
  t9 := Tryz.underlying9
  a9 := Tryz.isAgg9
  z9 := Tryz.sizeOf9
  v9 := Tryz.zeroValue9
  t21 := Tryz.underlying21
  a21 := Tryz.isAgg21
  z21 := Tryz.sizeOf21
  v21 := Tryz.zeroValue21
  t31 := Tryz.underlying60
  a31 := Tryz.isAgg60
  z31 := Tryz.sizeOf60
  v31 := Tryz.zeroValue60
  t40 := Tryz.underlying151
  a40 := Tryz.isAgg151
  z40 := Tryz.sizeOf151
  v40 := Tryz.zeroValue151
  t46 := Tryz.underlying147
  a46 := Tryz.isAgg147
  z46 := Tryz.sizeOf147
  v46 := Tryz.zeroValue147
  t49 := Tryz.underlying182
  a49 := Tryz.isAgg182
  z49 := Tryz.sizeOf182
  v49 := Tryz.zeroValue182
  t51 := Tryz.underlying164
  a51 := Tryz.isAgg164
  z51 := Tryz.sizeOf164
  v51 := Tryz.zeroValue164
  t119 := Tryz.underlying149
  a119 := Tryz.isAgg149
  z119 := Tryz.sizeOf149
  t141 := Tryz.underlying171
  a141 := Tryz.isAgg171
  z141 := Tryz.sizeOf171
  v141 := Tryz.zeroValue171
  t152 := Tryz.underlying167
  a152 := Tryz.isAgg167
  z152 := Tryz.sizeOf167
  v152 := Tryz.zeroValue167
  t154 := Tryz.underlying169
  a154 := Tryz.isAgg169
  z154 := Tryz.sizeOf169
  v154 := Tryz.zeroValue169
  t193 := Tryz.underlying178
  a193 := Tryz.isAgg178
  z193 := Tryz.sizeOf178
  v193 := Tryz.zeroValue178
  t194 := Tryz.underlying179
  a194 := Tryz.isAgg179
  z194 := Tryz.sizeOf179
  v194 := Tryz.zeroValue179
  t196 := Tryz.underlying181
  a196 := Tryz.isAgg181
  z196 := Tryz.sizeOf181
  v196 := Tryz.zeroValue181
  t198 := Tryz.underlying184
  a198 := Tryz.isAgg184
  z198 := Tryz.sizeOf184
  v198 := Tryz.zeroValue184
  t201 := Tryz.underlying187
  a201 := Tryz.isAgg187
  z201 := Tryz.sizeOf187
  v201 := Tryz.zeroValue187
  t226 := Tryz.underlying192
  a226 := Tryz.isAgg192
  z226 := Tryz.sizeOf192
  v226 := Tryz.zeroValue192
  t227 := Tryz.underlying193
  a227 := Tryz.isAgg193
  z227 := Tryz.sizeOf193
  v227 := Tryz.zeroValue193
  g0 := by kernel_rfl
  g6 := by kernel_rfl
  i0 := by kernel_rfl
  i3 := by kernel_rfl
  i4 := by kernel_rfl
  i5 := by kernel_rfl
  i9 := by kernel_rfl
  i21 := by kernel_rfl
  i31 := by kernel_rfl
  i40 := by kernel_rfl
  i46 := by kernel_rfl
  i49 := by kernel_rfl
  i51 := by kernel_rfl
  i141 := by kernel_rfl
  i152 := by kernel_rfl
  i154 := by kernel_rfl
  i193 := by kernel_rfl
  i194 := by kernel_rfl
  i196 := by kernel_rfl
  i198 := by kernel_rfl
  i201 := by kernel_rfl
  i226 := by kernel_rfl
  i227 := by kernel_rfl
  m0 := by kernel_rfl
  m6 := by kernel_rfl }
open Go.RowKit Go.Lib in
/-- strings.Fields on ASCII bytes. (The table: 'Lib.TabIs', as strings.TrimSpace's contract asks it.) (LAID: no walk: one application.) -/
theorem Tryz.strings_Fields_laid (s : ByteArray) (w : World) (hs : s.size < 4294967281) (hascii : ∀ (j : Nat) b, s.data.toList[j]? = some b → b.toNat < 128) (htab : Lib.TabIs Tryz.prog w "strings.asciiSpace" .u8 Lib.asciiSpaceTab) :
    Calls Tryz.prog 131 #[.string s] w fun e w' =>
      e = .returned (.slice (some ⟨w.heap.size, 0, none⟩) (Lib.fields s.data.toList).length (Lib.fields s.data.toList).length) ∧ w' = w.alloc (.cells ((Lib.fields s.data.toList).map fun l => Value.string ⟨l.toArray⟩).toArray 9) := Any.strings_Fields_laid Tryz.laysM157 s w hs hascii htab
open Go.RowKit Go.Lib in
theorem Tryz.strings_FieldsFunc_grows (g : Nat) (lb : Array Value) (eg : ∀ args w, (callFunc g args).run Tryz.prog w = .ok (.enter g args) w) (p : Nat → Bool) (s : ByteArray) (w : World) (hs : s.size ≤ 4294967296) (hp : PredGrows Tryz.prog g lb p w) :
    Calls Tryz.prog 150 #[.string s, .func (.func g) #[] lb] w fun e w' => ∃ A, e = .returned (.slice (some ⟨A, 0, none⟩) (Lib.goFieldsP p s).length (Lib.goFieldsP p s).length) ∧ w.heap.size ≤ A ∧
      w'.ownsRow w.heap.size 9 1 (.slice (some ⟨A, 0, none⟩) (Lib.goFieldsP p s).length (Lib.goFieldsP p s).length) (Lib.goFieldsP p s).length ((Lib.goFieldsP p s).map Value.string) ∧ Below w.heap.size w w' := Any.strings_FieldsFunc_grows Tryz.lays229 g lb eg p s w hs hp (by kernel_rfl) (by kernel_rfl)
def Tryz.laysNm237_ren : Go.Shelf.Ren := ⟨fun | 37 => 171 | n => n, fun | 3 => 3 | 4 => 4 | n => n, fun | n => n⟩
theorem Tryz.laysNm237 : Go.Proofs.Lays2.n37 Tryz.prog Tryz.laysNm237_ren := {
  mixed := by kernel_rfl
  f37 := Tryz.func171.trans (congrArg some (by kernel_rfl))
  t3 := Tryz.underlying3
  a3 := Tryz.isAgg3
  z3 := Tryz.sizeOf3
  v3 := Tryz.zeroValue3
  t4 := Tryz.underlying4
  a4 := Tryz.isAgg4
  z4 := Tryz.sizeOf4
  v4 := Tryz.zeroValue4 }
open Go.RowKit Go.Lib in
/-- cmp.isNaN[int]: 'x != x': false. (LAID: no walk: one application.) -/
theorem Tryz.cmp_isNaN_int2 (x : Int) (w : World) :
    Calls Tryz.prog 171 #[.int .i64 x] w fun e w' => e = .returned (.bool false) ∧ w' = w := Any.cmp_isNaN_int2 Tryz.laysNm237 x w
def Tryz.laysNm231_ren : Go.Shelf.Ren := ⟨fun | 31 => 160 | 37 => 171 | n => n, fun | 3 => 3 | 4 => 4 | n => n, fun | n => n⟩
theorem Tryz.laysNm231 : Go.Proofs.Lays2.n31 Tryz.prog Tryz.laysNm231_ren := {
  mixed := by kernel_rfl
  f31 := Tryz.func160.trans (congrArg some (by kernel_rfl))
  f37 := Tryz.func171.trans (congrArg some (by kernel_rfl))
  t3 := Tryz.underlying3
  a3 := Tryz.isAgg3
  z3 := Tryz.sizeOf3
  v3 := Tryz.zeroValue3
  t4 := Tryz.underlying4
  a4 := Tryz.isAgg4
  z4 := Tryz.sizeOf4
  v4 := Tryz.zeroValue4 }
open Go.RowKit Go.Lib in
/-- cmp.Less[int]: "Less reports whether x is less than y.": 'x < y'; the world is as it was. (LAID: no walk: one application.) -/
theorem Tryz.cmp_Less_int2 (x y : Int) (w : World) :
    Calls Tryz.prog 160 #[.int .i64 x, .int .i64 y] w fun e w' => e = .returned (.bool (decide (x < y))) ∧ w' = w := Any.cmp_Less_int2 Tryz.laysNm231 x y w
open Go.RowKit Go.Sort in
/-- .. and plain. (LAID: no walk: one application.) -/
theorem Tryz.slices_Sort_int_none (p : Option Addr) (cap : Nat) (w : World) :
    Calls Tryz.prog 127 #[.slice p 0 cap] w fun e w' => e = .returned (.tuple #[]) ∧ w' = w := Any.slices_Sort_int_none Tryz.lays189 p cap w
def Tryz.keysA_ren : Go.Shelf.Ren := ⟨fun | 7 => 79 | 10 => 128 | n => n, fun | 23 => 94 | 26 => 3 | 3 => 4 | 28 => 97 | 0 => 0 | 27 => 96 | 33 => 131 | 4 => 4 | n => n, fun | n => n⟩
theorem Tryz.keysA : Go.Proofs.SlLaysZI.n7 Tryz.prog Tryz.keysA_ren := {
  mixed := by kernel_rfl
  f7 := ⟨Tryz.f79.name, by decide, Tryz.func79.trans (congrArg some (by kernel_rfl))⟩
  f10 := ⟨Tryz.f128.name, by decide, Tryz.func128.trans (congrArg some (by kernel_rfl))⟩
  t0 := Tryz.underlying0
  a0 := Tryz.isAgg0
  z0 := Tryz.sizeOf0
  v0 := Tryz.zeroValue0
  t4 := Tryz.underlying4
  a4 := Tryz.isAgg4
  z4 := Tryz.sizeOf4
  v4 := Tryz.zeroValue4
  t23 := Tryz.underlying94
  a23 := Tryz.isAgg94
  z23 := Tryz.sizeOf94
  v23 := Tryz.zeroValue94
  t26 := Tryz.underlying3
  a26 := Tryz.isAgg3
  z26 := Tryz.sizeOf3
  v26 := Tryz.zeroValue3
  t27 := Tryz.underlying96
  a27 := Tryz.isAgg96
  z27 := Tryz.sizeOf96
  v27 := Tryz.zeroValue96
  t28 := Tryz.underlying97
  a28 := Tryz.isAgg97
  z28 := Tryz.sizeOf97
  v28 := Tryz.zeroValue97
  t33 := Tryz.underlying131
  a33 := Tryz.isAgg131
  z33 := Tryz.sizeOf131
  v33 := Tryz.zeroValue131 }
def Tryz.sortedA_ren : Go.Shelf.Ren := ⟨fun | 6 => 78 | 8 => 126 | 9 => 127 | 11 => 145 | 13 => 147 | 12 => 146 | 23 => 163 | 24 => 164 | 14 => 154 | 15 => 155 | 16 => 156 | 17 => 157 | 18 => 158 | 19 => 159 | 20 => 160 | 21 => 161 | 22 => 162 | 25 => 166 | 26 => 167 | 27 => 168 | 28 => 169 | 29 => 170 | 30 => 171 | 31 => 174 | n => n, fun | 26 => 3 | 28 => 97 | 24 => 36 | 0 => 0 | 3 => 3 | 37 => 147 | 48 => 164 | 50 => 166 | 4 => 4 | 40 => 156 | 39 => 155 | 45 => 161 | 5 => 5 | 9 => 9 | 51 => 172 | 55 => 176 | 57 => 189 | 58 => 190 | 33 => 131 | n => n, fun | n => n⟩
theorem Tryz.sortedA : Go.Proofs.SlLaysZI.n6 Tryz.prog Tryz.sortedA_ren := {
  mixed := by kernel_rfl
  f6 := ⟨Tryz.f78.name, by decide, Tryz.func78.trans (congrArg some (by kernel_rfl))⟩
  f8 := ⟨Tryz.f126.name, by decide, Tryz.func126.trans (congrArg some (by kernel_rfl))⟩
  f11 := ⟨Tryz.f145.name, by decide, Tryz.func145.trans (congrArg some (by kernel_rfl))⟩
  t0 := Tryz.underlying0
  a0 := Tryz.isAgg0
  z0 := Tryz.sizeOf0
  v0 := Tryz.zeroValue0
  t24 := Tryz.underlying36
  a24 := Tryz.isAgg36
  z24 := Tryz.sizeOf36
  v24 := Tryz.zeroValue36
  t26 := Tryz.underlying3
  a26 := Tryz.isAgg3
  z26 := Tryz.sizeOf3
  v26 := Tryz.zeroValue3
  t28 := Tryz.underlying97
  a28 := Tryz.isAgg97
  z28 := Tryz.sizeOf97
  v28 := Tryz.zeroValue97
  i26 := by kernel_rfl }
def Tryz.sortA_ren : Go.Shelf.Ren := ⟨fun | 5 => 127 | 8 => 147 | 7 => 146 | 19 => 163 | 20 => 164 | 10 => 154 | 11 => 155 | 12 => 156 | 13 => 157 | 14 => 158 | 15 => 159 | 16 => 160 | 17 => 161 | 18 => 162 | 30 => 166 | 31 => 167 | 32 => 168 | 33 => 169 | 34 => 170 | 35 => 171 | 40 => 174 | n => n, fun | 23 => 36 | 25 => 3 | 3 => 3 | 32 => 147 | 22 => 36 | 0 => 0 | 44 => 164 | 46 => 166 | 4 => 4 | 36 => 156 | 35 => 155 | 41 => 161 | 5 => 5 | 9 => 9 | 53 => 172 | 57 => 176 | 63 => 189 | 64 => 190 | n => n, fun | n => n⟩
theorem Tryz.sortA : Go.Proofs.SlLaysM.n5 Tryz.prog Tryz.sortA_ren := {
  mixed := by kernel_rfl
  f5 := ⟨Tryz.f127.name, by decide, Tryz.func127.trans (congrArg some (by kernel_rfl))⟩
  f7 := ⟨Tryz.f146.name, by decide, Tryz.func146.trans (congrArg some (by kernel_rfl))⟩
  f8 := Tryz.func147.trans (congrArg some (by kernel_rfl))
  f10 := ⟨Tryz.f154.name, by decide, Tryz.func154.trans (congrArg some (by kernel_rfl))⟩
  f11 := ⟨Tryz.f155.name, by decide, Tryz.func155.trans (congrArg some (by kernel_rfl))⟩
  f12 := ⟨Tryz.f156.name, by decide, Tryz.func156.trans (congrArg some (by kernel_rfl))⟩
  f13 := ⟨Tryz.f157.name, by decide, Tryz.func157.trans (congrArg some (by kernel_rfl))⟩
  f14 := ⟨Tryz.f158.name, by decide, Tryz.func158.trans (congrArg some (by kernel_rfl))⟩
  f15 := ⟨Tryz.f159.name, by decide, Tryz.func159.trans (congrArg some (by kernel_rfl))⟩
  f16 := ⟨Tryz.f160.name, by decide, Tryz.func160.trans (congrArg some (by kernel_rfl))⟩
  f17 := ⟨Tryz.f161.name, by decide, Tryz.func161.trans (congrArg some (by kernel_rfl))⟩
  f18 := ⟨Tryz.f162.name, by decide, Tryz.func162.trans (congrArg some (by kernel_rfl))⟩
  f19 := Tryz.func163.trans (congrArg some (by kernel_rfl))
  f20 := Tryz.func164.trans (congrArg some (by kernel_rfl))
  f30 := ⟨Tryz.f166.name, by decide, Tryz.func166.trans (congrArg some (by kernel_rfl))⟩
  f31 := Tryz.func167.trans (congrArg some (by kernel_rfl))
  f32 := Tryz.func168.trans (congrArg some (by kernel_rfl))
  f33 := ⟨Tryz.f169.name, by decide, Tryz.func169.trans (congrArg some (by kernel_rfl))⟩
  f34 := ⟨Tryz.f170.name, by decide, Tryz.func170.trans (congrArg some (by kernel_rfl))⟩
  f35 := ⟨Tryz.f171.name, by decide, Tryz.func171.trans (congrArg some (by kernel_rfl))⟩
  f40 := ⟨Tryz.f174.name, by decide, Tryz.func174.trans (congrArg some (by kernel_rfl))⟩
  t0 := Tryz.underlying0
  a0 := Tryz.isAgg0
  z0 := Tryz.sizeOf0
  v0 := Tryz.zeroValue0
  t3 := Tryz.underlying3
  a3 := Tryz.isAgg3
  z3 := Tryz.sizeOf3
  v3 := Tryz.zeroValue3
  t4 := Tryz.underlying4
  a4 := Tryz.isAgg4
  z4 := Tryz.sizeOf4
  v4 := Tryz.zeroValue4
  t5 := Tryz.underlying5
  a5 := Tryz.isAgg5
  z5 := Tryz.sizeOf5
  v5 := Tryz.zeroValue5
  t9 := Tryz.underlying9
  a9 := Tryz.isAgg9
  z9 := Tryz.sizeOf9
  v9 := Tryz.zeroValue9
  t22 := Tryz.underlying36
  a22 := Tryz.isAgg36
  z22 := Tryz.sizeOf36
  v22 := Tryz.zeroValue36
  t23 := Tryz.underlying36
  a23 := Tryz.isAgg36
  z23 := Tryz.sizeOf36
  v23 := Tryz.zeroValue36
  t25 := Tryz.underlying3
  a25 := Tryz.isAgg3
  z25 := Tryz.sizeOf3
  v25 := Tryz.zeroValue3
  t32 := Tryz.underlying147
  a32 := Tryz.isAgg147
  z32 := Tryz.sizeOf147
  v32 := Tryz.zeroValue147
  t35 := Tryz.underlying155
  a35 := Tryz.isAgg155
  z35 := Tryz.sizeOf155
  v35 := Tryz.zeroValue155
  t36 := Tryz.underlying156
  a36 := Tryz.isAgg156
  z36 := Tryz.sizeOf156
  v36 := Tryz.zeroValue156
  t41 := Tryz.underlying161
  a41 := Tryz.isAgg161
  z41 := Tryz.sizeOf161
  v41 := Tryz.zeroValue161
  t44 := Tryz.underlying164
  a44 := Tryz.isAgg164
  z44 := Tryz.sizeOf164
  v44 := Tryz.zeroValue164
  t46 := Tryz.underlying166
  a46 := Tryz.isAgg166
  z46 := Tryz.sizeOf166
  v46 := Tryz.zeroValue166
  t53 := Tryz.underlying172
  a53 := Tryz.isAgg172
  z53 := Tryz.sizeOf172
  v53 := Tryz.zeroValue172
  t57 := Tryz.underlying176
  a57 := Tryz.isAgg176
  z57 := Tryz.sizeOf176
  v57 := Tryz.zeroValue176
  t63 := Tryz.underlying189
  a63 := Tryz.isAgg189
  z63 := Tryz.sizeOf189
  v63 := Tryz.zeroValue189
  t64 := Tryz.underlying190
  a64 := Tryz.isAgg190
  z64 := Tryz.sizeOf190
  v64 := Tryz.zeroValue190 }
end Go.Proofs

