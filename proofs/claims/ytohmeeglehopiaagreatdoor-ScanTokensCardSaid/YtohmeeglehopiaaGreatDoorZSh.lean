/- The library's contracts on cutting a text at its blanks and on a fresh copy, at this program (laid by the kit's tool, cut). -/
import Derived.Shelf.Strings.Fields
import Derived.Shelf.Strconv.Clone
import Derived.Test.YtohmeeglehopiaaGreatDoorProg
namespace Go.Proofs
open Go.Shelf
def Tryz.lays157_ren : Go.Shelf.Ren := ⟨fun | 157 => 35 | 229 => 56 | 199 => 57 | 261 => 72 | 311 => 91 | 312 => 92 | n => n, fun | 9 => 9 | 31 => 70 | 3 => 3 | 5 => 5 | 4 => 4 | 119 => 88 | 0 => 0 | 40 => 75 | 152 => 107 | 21 => 21 | 154 => 109 | 51 => 110 | 141 => 112 | 196 => 133 | 193 => 130 | 198 => 136 | 49 => 134 | 194 => 131 | 201 => 139 | 226 => 148 | 46 => 68 | 227 => 149 | n => n, fun | 0 => 0 | 6 => 4 | n => n⟩
theorem Tryz.lays157 : Go.Proofs.Lays.n157 Tryz.prog Tryz.lays157_ren := {
  mixed := by kernel_rfl
  f157 := Tryz.func35.trans (congrArg some (by kernel_rfl))
  f199 := Tryz.func57.trans (congrArg some (by kernel_rfl))
  f229 := Tryz.func56.trans (congrArg some (by kernel_rfl))
  f261 := Tryz.func72.trans (congrArg some (by kernel_rfl))
  f311 := Tryz.func91.trans (congrArg some (by kernel_rfl))
  f312 := Tryz.func92.trans (congrArg some (by kernel_rfl))
  t0 := Tryz.underlying0
  a0 := Tryz.isAgg0
  z0 := Tryz.sizeOf0
  v0 := Tryz.zeroValue0
  t3 := Tryz.underlying3
  a3 := Tryz.isAgg3
  z3 := Tryz.sizeOf3
  v3 := Tryz.zeroValue3
  t4 := Tryz.underlying4
  a4 := Tryz.isAgg4
  z4 := Tryz.sizeOf4
  v4 := Tryz.zeroValue4
  t5 := Tryz.underlying5
  a5 := Tryz.isAgg5
  z5 := Tryz.sizeOf5
  v5 := Tryz.zeroValue5
  t9 := Tryz.underlying9
  a9 := Tryz.isAgg9
  z9 := Tryz.sizeOf9
  v9 := Tryz.zeroValue9
  t21 := Tryz.underlying21
  a21 := Tryz.isAgg21
  z21 := Tryz.sizeOf21
  v21 := Tryz.zeroValue21
  t31 := Tryz.underlying70
  a31 := Tryz.isAgg70
  z31 := Tryz.sizeOf70
  v31 := Tryz.zeroValue70
  t40 := Tryz.underlying75
  a40 := Tryz.isAgg75
  z40 := Tryz.sizeOf75
  v40 := Tryz.zeroValue75
  t46 := Tryz.underlying68
  a46 := Tryz.isAgg68
  z46 := Tryz.sizeOf68
  v46 := Tryz.zeroValue68
  t49 := Tryz.underlying134
  a49 := Tryz.isAgg134
  z49 := Tryz.sizeOf134
  v49 := Tryz.zeroValue134
  t51 := Tryz.underlying110
  a51 := Tryz.isAgg110
  z51 := Tryz.sizeOf110
  v51 := Tryz.zeroValue110
  t119 := Tryz.underlying88
  a119 := Tryz.isAgg88
  z119 := Tryz.sizeOf88
  t141 := Tryz.underlying112
  a141 := Tryz.isAgg112
  z141 := Tryz.sizeOf112
  v141 := Tryz.zeroValue112
  t152 := Tryz.underlying107
  a152 := Tryz.isAgg107
  z152 := Tryz.sizeOf107
  v152 := Tryz.zeroValue107
  t154 := Tryz.underlying109
  a154 := Tryz.isAgg109
  z154 := Tryz.sizeOf109
  v154 := Tryz.zeroValue109
  t193 := Tryz.underlying130
  a193 := Tryz.isAgg130
  z193 := Tryz.sizeOf130
  v193 := Tryz.zeroValue130
  t194 := Tryz.underlying131
  a194 := Tryz.isAgg131
  z194 := Tryz.sizeOf131
  v194 := Tryz.zeroValue131
  t196 := Tryz.underlying133
  a196 := Tryz.isAgg133
  z196 := Tryz.sizeOf133
  v196 := Tryz.zeroValue133
  t198 := Tryz.underlying136
  a198 := Tryz.isAgg136
  z198 := Tryz.sizeOf136
  v198 := Tryz.zeroValue136
  t201 := Tryz.underlying139
  a201 := Tryz.isAgg139
  z201 := Tryz.sizeOf139
  v201 := Tryz.zeroValue139
  t226 := Tryz.underlying148
  a226 := Tryz.isAgg148
  z226 := Tryz.sizeOf148
  v226 := Tryz.zeroValue148
  t227 := Tryz.underlying149
  a227 := Tryz.isAgg149
  z227 := Tryz.sizeOf149
  v227 := Tryz.zeroValue149
  g0 := by kernel_rfl
  g6 := by kernel_rfl }
theorem Tryz.fieldsCore (s : ByteArray) (w : World) (hs : s.size < 4294967281) (hascii : ∀ (j : Nat) b, s.data.toList[j]? = some b → b.toNat < 128) (hT : ∀ c : Nat, c < 256 → w.cell? ⟨0, c, none⟩ = some (.int .u8 (if Lib.isSp (UInt8.ofNat c) then 1 else 0))) :
    Calls Tryz.prog 35 #[.string s] w fun e w' =>
      e = .returned (.slice (some ⟨w.heap.size, 0, none⟩) (Lib.fields s.data.toList).length (Lib.fields s.data.toList).length) ∧ w' = w.alloc (.cells ((Lib.fields s.data.toList).map fun l => Value.string ⟨l.toArray⟩).toArray 9) := Any.strings_Fields_core Tryz.lays157 (by kernel_rfl) s w hs hascii hT
def Tryz.laysM316_ren : Go.Shelf.Ren := ⟨fun | 316 => 97 | n => n, fun | 9 => 9 | 3 => 3 | 4 => 4 | 37 => 22 | 0 => 0 | 127 => 150 | 5 => 5 | n => n, fun | n => n⟩
theorem Tryz.laysM316 : Go.Proofs.LaysM.n316 Tryz.prog Tryz.laysM316_ren := {
  mixed := by kernel_rfl
  f316 := Tryz.func97.trans (congrArg some (by kernel_rfl))
  t0 := Tryz.underlying0
  a0 := Tryz.isAgg0
  z0 := Tryz.sizeOf0
  v0 := Tryz.zeroValue0
  t3 := Tryz.underlying3
  a3 := Tryz.isAgg3
  z3 := Tryz.sizeOf3
  v3 := Tryz.zeroValue3
  t4 := Tryz.underlying4
  a4 := Tryz.isAgg4
  z4 := Tryz.sizeOf4
  v4 := Tryz.zeroValue4
  t9 := Tryz.underlying9
  a9 := Tryz.isAgg9
  z9 := Tryz.sizeOf9
  v9 := Tryz.zeroValue9
  t37 := Tryz.underlying22
  a37 := Tryz.isAgg22
  z37 := Tryz.sizeOf22
  v37 := Tryz.zeroValue22
  t127 := Tryz.underlying150
  a127 := Tryz.isAgg150
  z127 := Tryz.sizeOf150
  v127 := Tryz.zeroValue150
  t5 := Tryz.underlying5
  a5 := Tryz.isAgg5
  z5 := Tryz.sizeOf5
  v5 := Tryz.zeroValue5
  i0 := by kernel_rfl
  i3 := by kernel_rfl
  i4 := by kernel_rfl
  i5 := by kernel_rfl
  i9 := by kernel_rfl
  i37 := by kernel_rfl
  i127 := by kernel_rfl }
open Go.RowKit in
/-- internal/stringslite.Clone (what strings.Clone calls): "Clone returns a fresh copy of s.": THE SAME BYTES. Of what was there nothing has turned (a new row is laid, and frozen, where s is not empty). (LAID: no walk: one application.) -/
theorem Tryz.stringslite_Clone (s : ByteArray) (w : World) (hlim : s.size ≤ 281474976710656) :
    Calls Tryz.prog 97 #[.string s] w fun e w' => e = .returned (.string s) ∧ Below w.heap.size w w' := Any.stringslite_Clone Tryz.laysM316 s w hlim
end Go.Proofs

