/- The library's contracts on cutting a text at its blanks and on a fresh copy, at this program (laid by the kit's tool, cut). -/
import Derived.Shelf.Strings.Fields
import Derived.Shelf.Strconv.Clone
import Derived.Test.YtpfpfpeockbbpaaGreatDoorProg
namespace Go.Proofs
open Go.Shelf
def Tryz.lays157_ren : Go.Shelf.Ren := ⟨fun | 157 => 111 | 229 => 163 | 199 => 164 | 261 => 199 | 311 => 221 | 312 => 222 | n => n, fun | 9 => 9 | 31 => 218 | 3 => 3 | 5 => 5 | 4 => 4 | 119 => 251 | 0 => 0 | 40 => 166 | 152 => 273 | 21 => 21 | 154 => 275 | 51 => 260 | 141 => 277 | 196 => 298 | 193 => 295 | 198 => 301 | 49 => 299 | 194 => 296 | 201 => 304 | 226 => 316 | 46 => 208 | 227 => 317 | n => n, fun | 0 => 2 | 6 => 3 | n => n⟩
theorem Tryz.lays157 : Go.Proofs.Lays.n157 Tryz.prog Tryz.lays157_ren := {
  mixed := by kernel_rfl
  f157 := Tryz.func111.trans (congrArg some (by kernel_rfl))
  f199 := Tryz.func164.trans (congrArg some (by kernel_rfl))
  f229 := Tryz.func163.trans (congrArg some (by kernel_rfl))
  f261 := Tryz.func199.trans (congrArg some (by kernel_rfl))
  f311 := Tryz.func221.trans (congrArg some (by kernel_rfl))
  f312 := Tryz.func222.trans (congrArg some (by kernel_rfl))
  t0 := Tryz.underlying0
  a0 := Tryz.isAgg0
  z0 := Tryz.sizeOf0
  v0 := Tryz.zeroValue0
  t3 := Tryz.underlying3
  a3 := Tryz.isAgg3
  z3 := Tryz.sizeOf3
  v3 := Tryz.zeroValue3
  t4 := Tryz.underlying4
  a4 := Tryz.isAgg4
  z4 := Tryz.sizeOf4
  v4 := Tryz.zeroValue4
  t5 := Tryz.underlying5
  a5 := Tryz.isAgg5
  z5 := Tryz.sizeOf5
  v5 := Tryz.zeroValue5
  t9 := Tryz.underlying9
  a9 := Tryz.isAgg9
  z9 := Tryz.sizeOf9
  v9 := Tryz.zeroValue9
  t21 := Tryz.underlying21
  a21 := Tryz.isAgg21
  z21 := Tryz.sizeOf21
  v21 := Tryz.zeroValue21
  t31 := Tryz.underlying218
  a31 := Tryz.isAgg218
  z31 := Tryz.sizeOf218
  v31 := Tryz.zeroValue218
  t40 := Tryz.underlying166
  a40 := Tryz.isAgg166
  z40 := Tryz.sizeOf166
  v40 := Tryz.zeroValue166
  t46 := Tryz.underlying208
  a46 := Tryz.isAgg208
  z46 := Tryz.sizeOf208
  v46 := Tryz.zeroValue208
  t49 := Tryz.underlying299
  a49 := Tryz.isAgg299
  z49 := Tryz.sizeOf299
  v49 := Tryz.zeroValue299
  t51 := Tryz.underlying260
  a51 := Tryz.isAgg260
  z51 := Tryz.sizeOf260
  v51 := Tryz.zeroValue260
  t119 := Tryz.underlying251
  a119 := Tryz.isAgg251
  z119 := Tryz.sizeOf251
  t141 := Tryz.underlying277
  a141 := Tryz.isAgg277
  z141 := Tryz.sizeOf277
  v141 := Tryz.zeroValue277
  t152 := Tryz.underlying273
  a152 := Tryz.isAgg273
  z152 := Tryz.sizeOf273
  v152 := Tryz.zeroValue273
  t154 := Tryz.underlying275
  a154 := Tryz.isAgg275
  z154 := Tryz.sizeOf275
  v154 := Tryz.zeroValue275
  t193 := Tryz.underlying295
  a193 := Tryz.isAgg295
  z193 := Tryz.sizeOf295
  v193 := Tryz.zeroValue295
  t194 := Tryz.underlying296
  a194 := Tryz.isAgg296
  z194 := Tryz.sizeOf296
  v194 := Tryz.zeroValue296
  t196 := Tryz.underlying298
  a196 := Tryz.isAgg298
  z196 := Tryz.sizeOf298
  v196 := Tryz.zeroValue298
  t198 := Tryz.underlying301
  a198 := Tryz.isAgg301
  z198 := Tryz.sizeOf301
  v198 := Tryz.zeroValue301
  t201 := Tryz.underlying304
  a201 := Tryz.isAgg304
  z201 := Tryz.sizeOf304
  v201 := Tryz.zeroValue304
  t226 := Tryz.underlying316
  a226 := Tryz.isAgg316
  z226 := Tryz.sizeOf316
  v226 := Tryz.zeroValue316
  t227 := Tryz.underlying317
  a227 := Tryz.isAgg317
  z227 := Tryz.sizeOf317
  v227 := Tryz.zeroValue317
  g0 := by kernel_rfl
  g6 := by kernel_rfl }
theorem Tryz.fieldsCore (s : ByteArray) (w : World) (hs : s.size < 4294967281) (hascii : ∀ (j : Nat) b, s.data.toList[j]? = some b → b.toNat < 128) (hT : ∀ c : Nat, c < 256 → w.cell? ⟨2, c, none⟩ = some (.int .u8 (if Lib.isSp (UInt8.ofNat c) then 1 else 0))) :
    Calls Tryz.prog 111 #[.string s] w fun e w' =>
      e = .returned (.slice (some ⟨w.heap.size, 0, none⟩) (Lib.fields s.data.toList).length (Lib.fields s.data.toList).length) ∧ w' = w.alloc (.cells ((Lib.fields s.data.toList).map fun l => Value.string ⟨l.toArray⟩).toArray 9) := Any.strings_Fields_core Tryz.lays157 (by kernel_rfl) s w hs hascii hT
def Tryz.laysM316_ren : Go.Shelf.Ren := ⟨fun | 316 => 246 | n => n, fun | 9 => 9 | 3 => 3 | 4 => 4 | 37 => 36 | 0 => 0 | 127 => 184 | 5 => 5 | n => n, fun | n => n⟩
theorem Tryz.laysM316 : Go.Proofs.LaysM.n316 Tryz.prog Tryz.laysM316_ren := {
  mixed := by kernel_rfl
  f316 := Tryz.func246.trans (congrArg some (by kernel_rfl))
  t0 := Tryz.underlying0
  a0 := Tryz.isAgg0
  z0 := Tryz.sizeOf0
  v0 := Tryz.zeroValue0
  t3 := Tryz.underlying3
  a3 := Tryz.isAgg3
  z3 := Tryz.sizeOf3
  v3 := Tryz.zeroValue3
  t4 := Tryz.underlying4
  a4 := Tryz.isAgg4
  z4 := Tryz.sizeOf4
  v4 := Tryz.zeroValue4
  t9 := Tryz.underlying9
  a9 := Tryz.isAgg9
  z9 := Tryz.sizeOf9
  v9 := Tryz.zeroValue9
  t37 := Tryz.underlying36
  a37 := Tryz.isAgg36
  z37 := Tryz.sizeOf36
  v37 := Tryz.zeroValue36
  t127 := Tryz.underlying184
  a127 := Tryz.isAgg184
  z127 := Tryz.sizeOf184
  v127 := Tryz.zeroValue184
  t5 := Tryz.underlying5
  a5 := Tryz.isAgg5
  z5 := Tryz.sizeOf5
  v5 := Tryz.zeroValue5
  i0 := by kernel_rfl
  i3 := by kernel_rfl
  i4 := by kernel_rfl
  i5 := by kernel_rfl
  i9 := by kernel_rfl
  i37 := by kernel_rfl
  i127 := by kernel_rfl }
open Go.RowKit in
/-- internal/stringslite.Clone (what strings.Clone calls): "Clone returns a fresh copy of s.": THE SAME BYTES. Of what was there nothing has turned (a new row is laid, and frozen, where s is not empty). (LAID: no walk: one application.) -/
theorem Tryz.stringslite_Clone (s : ByteArray) (w : World) (hlim : s.size ≤ 281474976710656) :
    Calls Tryz.prog 246 #[.string s] w fun e w' => e = .returned (.string s) ∧ Below w.heap.size w w' := Any.stringslite_Clone Tryz.laysM316 s w hlim
end Go.Proofs

