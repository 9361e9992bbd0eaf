/- The library's contracts on cutting a text at its blanks and on a fresh copy, at this program (laid by the kit's tool, cut). -/
import Derived.Shelf.Strings.Fields
import Derived.Shelf.Strconv.Clone
import Derived.Test.YtdgggkncehffnaaGreatDoorProg
namespace Go.Proofs
open Go.Shelf
def Tryz.lays157_ren : Go.Shelf.Ren := ⟨fun | 157 => 71 | 229 => 114 | 199 => 115 | 261 => 138 | 311 => 151 | 312 => 152 | n => n, fun | 9 => 9 | 31 => 124 | 3 => 3 | 5 => 5 | 4 => 4 | 119 => 140 | 0 => 0 | 40 => 130 | 152 => 159 | 21 => 21 | 154 => 161 | 51 => 132 | 141 => 163 | 196 => 178 | 193 => 175 | 198 => 181 | 49 => 179 | 194 => 176 | 201 => 184 | 226 => 191 | 46 => 101 | 227 => 192 | n => n, fun | 0 => 2 | 6 => 4 | n => n⟩
theorem Tryz.lays157 : Go.Proofs.Lays.n157 Tryz.prog Tryz.lays157_ren := {
  mixed := by kernel_rfl
  f157 := Tryz.func71.trans (congrArg some (by kernel_rfl))
  f199 := Tryz.func115.trans (congrArg some (by kernel_rfl))
  f229 := Tryz.func114.trans (congrArg some (by kernel_rfl))
  f261 := Tryz.func138.trans (congrArg some (by kernel_rfl))
  f311 := Tryz.func151.trans (congrArg some (by kernel_rfl))
  f312 := Tryz.func152.trans (congrArg some (by kernel_rfl))
  t0 := Tryz.underlying0
  a0 := Tryz.isAgg0
  z0 := Tryz.sizeOf0
  v0 := Tryz.zeroValue0
  t3 := Tryz.underlying3
  a3 := Tryz.isAgg3
  z3 := Tryz.sizeOf3
  v3 := Tryz.zeroValue3
  t4 := Tryz.underlying4
  a4 := Tryz.isAgg4
  z4 := Tryz.sizeOf4
  v4 := Tryz.zeroValue4
  t5 := Tryz.underlying5
  a5 := Tryz.isAgg5
  z5 := Tryz.sizeOf5
  v5 := Tryz.zeroValue5
  t9 := Tryz.underlying9
  a9 := Tryz.isAgg9
  z9 := Tryz.sizeOf9
  v9 := Tryz.zeroValue9
  t21 := Tryz.underlying21
  a21 := Tryz.isAgg21
  z21 := Tryz.sizeOf21
  v21 := Tryz.zeroValue21
  t31 := Tryz.underlying124
  a31 := Tryz.isAgg124
  z31 := Tryz.sizeOf124
  v31 := Tryz.zeroValue124
  t40 := Tryz.underlying130
  a40 := Tryz.isAgg130
  z40 := Tryz.sizeOf130
  v40 := Tryz.zeroValue130
  t46 := Tryz.underlying101
  a46 := Tryz.isAgg101
  z46 := Tryz.sizeOf101
  v46 := Tryz.zeroValue101
  t49 := Tryz.underlying179
  a49 := Tryz.isAgg179
  z49 := Tryz.sizeOf179
  v49 := Tryz.zeroValue179
  t51 := Tryz.underlying132
  a51 := Tryz.isAgg132
  z51 := Tryz.sizeOf132
  v51 := Tryz.zeroValue132
  t119 := Tryz.underlying140
  a119 := Tryz.isAgg140
  z119 := Tryz.sizeOf140
  t141 := Tryz.underlying163
  a141 := Tryz.isAgg163
  z141 := Tryz.sizeOf163
  v141 := Tryz.zeroValue163
  t152 := Tryz.underlying159
  a152 := Tryz.isAgg159
  z152 := Tryz.sizeOf159
  v152 := Tryz.zeroValue159
  t154 := Tryz.underlying161
  a154 := Tryz.isAgg161
  z154 := Tryz.sizeOf161
  v154 := Tryz.zeroValue161
  t193 := Tryz.underlying175
  a193 := Tryz.isAgg175
  z193 := Tryz.sizeOf175
  v193 := Tryz.zeroValue175
  t194 := Tryz.underlying176
  a194 := Tryz.isAgg176
  z194 := Tryz.sizeOf176
  v194 := Tryz.zeroValue176
  t196 := Tryz.underlying178
  a196 := Tryz.isAgg178
  z196 := Tryz.sizeOf178
  v196 := Tryz.zeroValue178
  t198 := Tryz.underlying181
  a198 := Tryz.isAgg181
  z198 := Tryz.sizeOf181
  v198 := Tryz.zeroValue181
  t201 := Tryz.underlying184
  a201 := Tryz.isAgg184
  z201 := Tryz.sizeOf184
  v201 := Tryz.zeroValue184
  t226 := Tryz.underlying191
  a226 := Tryz.isAgg191
  z226 := Tryz.sizeOf191
  v226 := Tryz.zeroValue191
  t227 := Tryz.underlying192
  a227 := Tryz.isAgg192
  z227 := Tryz.sizeOf192
  v227 := Tryz.zeroValue192
  g0 := by kernel_rfl
  g6 := by kernel_rfl }
theorem Tryz.fieldsCore (s : ByteArray) (w : World) (hs : s.size < 4294967281) (hascii : ∀ (j : Nat) b, s.data.toList[j]? = some b → b.toNat < 128) (hT : ∀ c : Nat, c < 256 → w.cell? ⟨2, c, none⟩ = some (.int .u8 (if Lib.isSp (UInt8.ofNat c) then 1 else 0))) :
    Calls Tryz.prog 71 #[.string s] w fun e w' =>
      e = .returned (.slice (some ⟨w.heap.size, 0, none⟩) (Lib.fields s.data.toList).length (Lib.fields s.data.toList).length) ∧ w' = w.alloc (.cells ((Lib.fields s.data.toList).map fun l => Value.string ⟨l.toArray⟩).toArray 9) := Any.strings_Fields_core Tryz.lays157 (by kernel_rfl) s w hs hascii hT
def Tryz.laysM316_ren : Go.Shelf.Ren := ⟨fun | 316 => 175 | n => n, fun | 9 => 9 | 3 => 3 | 4 => 4 | 37 => 34 | 0 => 0 | 127 => 137 | 5 => 5 | n => n, fun | n => n⟩
theorem Tryz.laysM316 : Go.Proofs.LaysM.n316 Tryz.prog Tryz.laysM316_ren := {
  mixed := by kernel_rfl
  f316 := Tryz.func175.trans (congrArg some (by kernel_rfl))
  t0 := Tryz.underlying0
  a0 := Tryz.isAgg0
  z0 := Tryz.sizeOf0
  v0 := Tryz.zeroValue0
  t3 := Tryz.underlying3
  a3 := Tryz.isAgg3
  z3 := Tryz.sizeOf3
  v3 := Tryz.zeroValue3
  t4 := Tryz.underlying4
  a4 := Tryz.isAgg4
  z4 := Tryz.sizeOf4
  v4 := Tryz.zeroValue4
  t9 := Tryz.underlying9
  a9 := Tryz.isAgg9
  z9 := Tryz.sizeOf9
  v9 := Tryz.zeroValue9
  t37 := Tryz.underlying34
  a37 := Tryz.isAgg34
  z37 := Tryz.sizeOf34
  v37 := Tryz.zeroValue34
  t127 := Tryz.underlying137
  a127 := Tryz.isAgg137
  z127 := Tryz.sizeOf137
  v127 := Tryz.zeroValue137
  t5 := Tryz.underlying5
  a5 := Tryz.isAgg5
  z5 := Tryz.sizeOf5
  v5 := Tryz.zeroValue5
  i0 := by kernel_rfl
  i3 := by kernel_rfl
  i4 := by kernel_rfl
  i5 := by kernel_rfl
  i9 := by kernel_rfl
  i37 := by kernel_rfl
  i127 := by kernel_rfl }
open Go.RowKit in
/-- internal/stringslite.Clone (what strings.Clone calls): "Clone returns a fresh copy of s.": THE SAME BYTES. Of what was there nothing has turned (a new row is laid, and frozen, where s is not empty). (LAID: no walk: one application.) -/
theorem Tryz.stringslite_Clone (s : ByteArray) (w : World) (hlim : s.size ≤ 281474976710656) :
    Calls Tryz.prog 175 #[.string s] w fun e w' => e = .returned (.string s) ∧ Below w.heap.size w w' := Any.stringslite_Clone Tryz.laysM316 s w hlim
end Go.Proofs

