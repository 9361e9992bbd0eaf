/- The library's contracts on cutting a text at its blanks and on a fresh copy, at this program (laid by the kit's tool, cut). -/
import Derived.Shelf.Strings.Fields
import Derived.Shelf.Strconv.Clone
import Derived.Test.YtmliebodadgpbaaGreatDoorProg
namespace Go.Proofs
open Go.Shelf
def Tryz.lays157_ren : Go.Shelf.Ren := ⟨fun | 157 => 90 | 229 => 109 | 199 => 110 | 261 => 119 | 311 => 129 | 312 => 130 | n => n, fun | 9 => 9 | 31 => 47 | 3 => 3 | 5 => 5 | 4 => 4 | 119 => 127 | 0 => 0 | 40 => 109 | 152 => 132 | 21 => 21 | 154 => 134 | 51 => 112 | 141 => 136 | 196 => 144 | 193 => 141 | 198 => 147 | 49 => 145 | 194 => 142 | 201 => 150 | 226 => 156 | 46 => 101 | 227 => 157 | n => n, fun | 0 => 2 | 6 => 3 | n => n⟩
theorem Tryz.lays157 : Go.Proofs.Lays.n157 Tryz.prog Tryz.lays157_ren := {
  mixed := by kernel_rfl
  f157 := Tryz.func90.trans (congrArg some (by kernel_rfl))
  f199 := Tryz.func110.trans (congrArg some (by kernel_rfl))
  f229 := Tryz.func109.trans (congrArg some (by kernel_rfl))
  f261 := Tryz.func119.trans (congrArg some (by kernel_rfl))
  f311 := Tryz.func129.trans (congrArg some (by kernel_rfl))
  f312 := Tryz.func130.trans (congrArg some (by kernel_rfl))
  t0 := Tryz.underlying0
  a0 := Tryz.isAgg0
  z0 := Tryz.sizeOf0
  v0 := Tryz.zeroValue0
  t3 := Tryz.underlying3
  a3 := Tryz.isAgg3
  z3 := Tryz.sizeOf3
  v3 := Tryz.zeroValue3
  t4 := Tryz.underlying4
  a4 := Tryz.isAgg4
  z4 := Tryz.sizeOf4
  v4 := Tryz.zeroValue4
  t5 := Tryz.underlying5
  a5 := Tryz.isAgg5
  z5 := Tryz.sizeOf5
  v5 := Tryz.zeroValue5
  t9 := Tryz.underlying9
  a9 := Tryz.isAgg9
  z9 := Tryz.sizeOf9
  v9 := Tryz.zeroValue9
  t21 := Tryz.underlying21
  a21 := Tryz.isAgg21
  z21 := Tryz.sizeOf21
  v21 := Tryz.zeroValue21
  t31 := Tryz.underlying47
  a31 := Tryz.isAgg47
  z31 := Tryz.sizeOf47
  v31 := Tryz.zeroValue47
  t40 := Tryz.underlying109
  a40 := Tryz.isAgg109
  z40 := Tryz.sizeOf109
  v40 := Tryz.zeroValue109
  t46 := Tryz.underlying101
  a46 := Tryz.isAgg101
  z46 := Tryz.sizeOf101
  v46 := Tryz.zeroValue101
  t49 := Tryz.underlying145
  a49 := Tryz.isAgg145
  z49 := Tryz.sizeOf145
  v49 := Tryz.zeroValue145
  t51 := Tryz.underlying112
  a51 := Tryz.isAgg112
  z51 := Tryz.sizeOf112
  v51 := Tryz.zeroValue112
  t119 := Tryz.underlying127
  a119 := Tryz.isAgg127
  z119 := Tryz.sizeOf127
  t141 := Tryz.underlying136
  a141 := Tryz.isAgg136
  z141 := Tryz.sizeOf136
  v141 := Tryz.zeroValue136
  t152 := Tryz.underlying132
  a152 := Tryz.isAgg132
  z152 := Tryz.sizeOf132
  v152 := Tryz.zeroValue132
  t154 := Tryz.underlying134
  a154 := Tryz.isAgg134
  z154 := Tryz.sizeOf134
  v154 := Tryz.zeroValue134
  t193 := Tryz.underlying141
  a193 := Tryz.isAgg141
  z193 := Tryz.sizeOf141
  v193 := Tryz.zeroValue141
  t194 := Tryz.underlying142
  a194 := Tryz.isAgg142
  z194 := Tryz.sizeOf142
  v194 := Tryz.zeroValue142
  t196 := Tryz.underlying144
  a196 := Tryz.isAgg144
  z196 := Tryz.sizeOf144
  v196 := Tryz.zeroValue144
  t198 := Tryz.underlying147
  a198 := Tryz.isAgg147
  z198 := Tryz.sizeOf147
  v198 := Tryz.zeroValue147
  t201 := Tryz.underlying150
  a201 := Tryz.isAgg150
  z201 := Tryz.sizeOf150
  v201 := Tryz.zeroValue150
  t226 := Tryz.underlying156
  a226 := Tryz.isAgg156
  z226 := Tryz.sizeOf156
  v226 := Tryz.zeroValue156
  t227 := Tryz.underlying157
  a227 := Tryz.isAgg157
  z227 := Tryz.sizeOf157
  v227 := Tryz.zeroValue157
  g0 := by kernel_rfl
  g6 := by kernel_rfl }
theorem Tryz.fieldsCore (s : ByteArray) (w : World) (hs : s.size < 4294967281) (hascii : ∀ (j : Nat) b, s.data.toList[j]? = some b → b.toNat < 128) (hT : ∀ c : Nat, c < 256 → w.cell? ⟨2, c, none⟩ = some (.int .u8 (if Lib.isSp (UInt8.ofNat c) then 1 else 0))) :
    Calls Tryz.prog 90 #[.string s] w fun e w' =>
      e = .returned (.slice (some ⟨w.heap.size, 0, none⟩) (Lib.fields s.data.toList).length (Lib.fields s.data.toList).length) ∧ w' = w.alloc (.cells ((Lib.fields s.data.toList).map fun l => Value.string ⟨l.toArray⟩).toArray 9) := Any.strings_Fields_core Tryz.lays157 (by kernel_rfl) s w hs hascii hT
def Tryz.laysM316_ren : Go.Shelf.Ren := ⟨fun | 316 => 131 | n => n, fun | 9 => 9 | 3 => 3 | 4 => 4 | 37 => 34 | 0 => 0 | 127 => 158 | 5 => 5 | n => n, fun | n => n⟩
theorem Tryz.laysM316 : Go.Proofs.LaysM.n316 Tryz.prog Tryz.laysM316_ren := {
  mixed := by kernel_rfl
  f316 := Tryz.func131.trans (congrArg some (by kernel_rfl))
  t0 := Tryz.underlying0
  a0 := Tryz.isAgg0
  z0 := Tryz.sizeOf0
  v0 := Tryz.zeroValue0
  t3 := Tryz.underlying3
  a3 := Tryz.isAgg3
  z3 := Tryz.sizeOf3
  v3 := Tryz.zeroValue3
  t4 := Tryz.underlying4
  a4 := Tryz.isAgg4
  z4 := Tryz.sizeOf4
  v4 := Tryz.zeroValue4
  t9 := Tryz.underlying9
  a9 := Tryz.isAgg9
  z9 := Tryz.sizeOf9
  v9 := Tryz.zeroValue9
  t37 := Tryz.underlying34
  a37 := Tryz.isAgg34
  z37 := Tryz.sizeOf34
  v37 := Tryz.zeroValue34
  t127 := Tryz.underlying158
  a127 := Tryz.isAgg158
  z127 := Tryz.sizeOf158
  v127 := Tryz.zeroValue158
  t5 := Tryz.underlying5
  a5 := Tryz.isAgg5
  z5 := Tryz.sizeOf5
  v5 := Tryz.zeroValue5
  i0 := by kernel_rfl
  i3 := by kernel_rfl
  i4 := by kernel_rfl
  i5 := by kernel_rfl
  i9 := by kernel_rfl
  i37 := by kernel_rfl
  i127 := by kernel_rfl }
open Go.RowKit in
/-- internal/stringslite.Clone (what strings.Clone calls): "Clone returns a fresh copy of s.": THE SAME BYTES. Of what was there nothing has turned (a new row is laid, and frozen, where s is not empty). (LAID: no walk: one application.) -/
theorem Tryz.stringslite_Clone (s : ByteArray) (w : World) (hlim : s.size ≤ 281474976710656) :
    Calls Tryz.prog 131 #[.string s] w fun e w' => e = .returned (.string s) ∧ Below w.heap.size w w' := Any.stringslite_Clone Tryz.laysM316 s w hlim
end Go.Proofs

