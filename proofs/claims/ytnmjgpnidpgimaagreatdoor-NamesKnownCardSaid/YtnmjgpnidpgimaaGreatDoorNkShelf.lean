/- Contracts of the library, laid at this program. -/
import Derived.Shelf.Strings.Fields
import Derived.Shelf.Small.Strs
import Derived.Test.YtnmjgpnidpgimaaGreatDoorProg
namespace Go.Proofs
open Go.Shelf
def Tryz.lays106_ren : Go.Shelf.Ren := ⟨fun | 106 => 53 | 213 => 97 | 265 => 151 | n => n, fun | 9 => 9 | 3 => 3 | n => n, fun | n => n⟩
theorem Tryz.lays106 : Go.Proofs.Lays.n106 Tryz.prog Tryz.lays106_ren := {
  mixed := by kernel_rfl
  f106 := Tryz.func53.trans (congrArg some (by kernel_rfl))
  f213 := Tryz.func97.trans (congrArg some (by kernel_rfl))
  f265 := Tryz.func151.trans (congrArg some (by kernel_rfl))
  t3 := Tryz.underlying3
  a3 := Tryz.isAgg3
  z3 := Tryz.sizeOf3
  v3 := Tryz.zeroValue3
  t9 := Tryz.underlying9
  a9 := Tryz.isAgg9
  z9 := Tryz.sizeOf9
  v9 := Tryz.zeroValue9 }
open Go.RowKit in
/-- strings.Compare: "Compare returns an integer comparing two strings lexicographically. The result will be 0 if a == b, -1 if a < b, and +1 if a > b.": IT RETURNS 'Lib.compareBytes a b'; the world is as it was. (LAID: no walk: one application.) -/
theorem Tryz.strings_Compare (a b : ByteArray) (w : World) :
    Calls Tryz.prog 53 #[.string a, .string b] w fun e w' => e = .returned (.int .i64 (Lib.compareBytes a.data.toList b.data.toList)) ∧ w' = w := Any.strings_Compare Tryz.lays106 a b w
def Tryz.lays157_ren : Go.Shelf.Ren := ⟨fun | 157 => 154 | 229 => 197 | 199 => 198 | 261 => 217 | 311 => 247 | 312 => 248 | n => n, fun | 9 => 9 | 31 => 33 | 3 => 3 | 5 => 5 | 4 => 4 | 119 => 301 | 0 => 0 | 40 => 253 | 152 => 314 | 21 => 21 | 154 => 316 | 51 => 250 | 141 => 318 | 196 => 340 | 193 => 337 | 198 => 343 | 49 => 341 | 194 => 338 | 201 => 346 | 226 => 364 | 46 => 172 | 227 => 365 | n => n, fun | 0 => 2 | 6 => 3 | n => n⟩
theorem Tryz.lays157 : Go.Proofs.Lays.n157 Tryz.prog Tryz.lays157_ren := {
  mixed := by kernel_rfl
  f157 := Tryz.func154.trans (congrArg some (by kernel_rfl))
  f199 := Tryz.func198.trans (congrArg some (by kernel_rfl))
  f229 := Tryz.func197.trans (congrArg some (by kernel_rfl))
  f261 := Tryz.func217.trans (congrArg some (by kernel_rfl))
  f311 := Tryz.func247.trans (congrArg some (by kernel_rfl))
  f312 := Tryz.func248.trans (congrArg some (by kernel_rfl))
  t0 := Tryz.underlying0
  a0 := Tryz.isAgg0
  z0 := Tryz.sizeOf0
  v0 := Tryz.zeroValue0
  t3 := Tryz.underlying3
  a3 := Tryz.isAgg3
  z3 := Tryz.sizeOf3
  v3 := Tryz.zeroValue3
  t4 := Tryz.underlying4
  a4 := Tryz.isAgg4
  z4 := Tryz.sizeOf4
  v4 := Tryz.zeroValue4
  t5 := Tryz.underlying5
  a5 := Tryz.isAgg5
  z5 := Tryz.sizeOf5
  v5 := Tryz.zeroValue5
  t9 := Tryz.underlying9
  a9 := Tryz.isAgg9
  z9 := Tryz.sizeOf9
  v9 := Tryz.zeroValue9
  t21 := Tryz.underlying21
  a21 := Tryz.isAgg21
  z21 := Tryz.sizeOf21
  v21 := Tryz.zeroValue21
  t31 := Tryz.underlying33
  a31 := Tryz.isAgg33
  z31 := Tryz.sizeOf33
  v31 := Tryz.zeroValue33
  t40 := Tryz.underlying253
  a40 := Tryz.isAgg253
  z40 := Tryz.sizeOf253
  v40 := Tryz.zeroValue253
  t46 := Tryz.underlying172
  a46 := Tryz.isAgg172
  z46 := Tryz.sizeOf172
  v46 := Tryz.zeroValue172
  t49 := Tryz.underlying341
  a49 := Tryz.isAgg341
  z49 := Tryz.sizeOf341
  v49 := Tryz.zeroValue341
  t51 := Tryz.underlying250
  a51 := Tryz.isAgg250
  z51 := Tryz.sizeOf250
  v51 := Tryz.zeroValue250
  t119 := Tryz.underlying301
  a119 := Tryz.isAgg301
  z119 := Tryz.sizeOf301
  t141 := Tryz.underlying318
  a141 := Tryz.isAgg318
  z141 := Tryz.sizeOf318
  v141 := Tryz.zeroValue318
  t152 := Tryz.underlying314
  a152 := Tryz.isAgg314
  z152 := Tryz.sizeOf314
  v152 := Tryz.zeroValue314
  t154 := Tryz.underlying316
  a154 := Tryz.isAgg316
  z154 := Tryz.sizeOf316
  v154 := Tryz.zeroValue316
  t193 := Tryz.underlying337
  a193 := Tryz.isAgg337
  z193 := Tryz.sizeOf337
  v193 := Tryz.zeroValue337
  t194 := Tryz.underlying338
  a194 := Tryz.isAgg338
  z194 := Tryz.sizeOf338
  v194 := Tryz.zeroValue338
  t196 := Tryz.underlying340
  a196 := Tryz.isAgg340
  z196 := Tryz.sizeOf340
  v196 := Tryz.zeroValue340
  t198 := Tryz.underlying343
  a198 := Tryz.isAgg343
  z198 := Tryz.sizeOf343
  v198 := Tryz.zeroValue343
  t201 := Tryz.underlying346
  a201 := Tryz.isAgg346
  z201 := Tryz.sizeOf346
  v201 := Tryz.zeroValue346
  t226 := Tryz.underlying364
  a226 := Tryz.isAgg364
  z226 := Tryz.sizeOf364
  v226 := Tryz.zeroValue364
  t227 := Tryz.underlying365
  a227 := Tryz.isAgg365
  z227 := Tryz.sizeOf365
  v227 := Tryz.zeroValue365
  g0 := by kernel_rfl
  g6 := by kernel_rfl }
open Go.RowKit Go.Lib in
/-- strings.Fields, the table by 'Lib.TabIs' (as strings.TrimSpace's contract). 'hg': the table's number, by its name: at a dump 'by kernel_rfl'. (LAID: no walk: one application.) -/
theorem Tryz.strings_Fields (s : ByteArray) (w : World) (hs : s.size < 4294967281) (hascii : ∀ (j : Nat) b, s.data.toList[j]? = some b → b.toNat < 128) (htab : Lib.TabIs Tryz.prog w "strings.asciiSpace" .u8 Lib.asciiSpaceTab) :
    Calls Tryz.prog 154 #[.string s] w fun e w' =>
      e = .returned (.slice (some ⟨w.heap.size, 0, none⟩) (Lib.fields s.data.toList).length (Lib.fields s.data.toList).length) ∧ w' = w.alloc (.cells ((Lib.fields s.data.toList).map fun l => Value.string ⟨l.toArray⟩).toArray 9) := Any.strings_Fields Tryz.lays157 (by kernel_rfl) (by kernel_rfl) s w hs hascii htab
end Go.Proofs
