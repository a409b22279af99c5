/-
  strings.Fields at this dump, by the shelf's contract (laid by the kit's lay-shelf and lay-plain; one laying of it).
-/
import Derived.Shelf.Strings.Fields
import Derived.Shelf.LaysM
import Derived.Test.YtedncpnkbpbchaaDoorProg
namespace Go.Proofs
open Go.Shelf
def Tryd.lays157_ren : Go.Shelf.Ren := ⟨fun | 157 => 57 | 229 => 70 | 199 => 71 | 261 => 74 | 311 => 76 | 312 => 77 | n => n, fun | 9 => 9 | 31 => 82 | 3 => 3 | 5 => 5 | 4 => 4 | 119 => 94 | 0 => 0 | 40 => 96 | 152 => 97 | 21 => 21 | 154 => 99 | 51 => 60 | 141 => 101 | 196 => 109 | 193 => 106 | 198 => 112 | 49 => 110 | 194 => 107 | 201 => 115 | 226 => 117 | 46 => 86 | 227 => 118 | n => n, fun | 0 => 0 | 6 => 2 | n => n⟩
theorem Tryd.lays157 : Go.Proofs.Lays.n157 Tryd.prog Tryd.lays157_ren := {
  mixed := by kernel_rfl
  f157 := Tryd.func57.trans (congrArg some (by kernel_rfl))
  f199 := Tryd.func71.trans (congrArg some (by kernel_rfl))
  f229 := Tryd.func70.trans (congrArg some (by kernel_rfl))
  f261 := Tryd.func74.trans (congrArg some (by kernel_rfl))
  f311 := Tryd.func76.trans (congrArg some (by kernel_rfl))
  f312 := Tryd.func77.trans (congrArg some (by kernel_rfl))
  t0 := Tryd.underlying0
  a0 := Tryd.isAgg0
  z0 := Tryd.sizeOf0
  v0 := Tryd.zeroValue0
  t3 := Tryd.underlying3
  a3 := Tryd.isAgg3
  z3 := Tryd.sizeOf3
  v3 := Tryd.zeroValue3
  t4 := Tryd.underlying4
  a4 := Tryd.isAgg4
  z4 := Tryd.sizeOf4
  v4 := Tryd.zeroValue4
  t5 := Tryd.underlying5
  a5 := Tryd.isAgg5
  z5 := Tryd.sizeOf5
  v5 := Tryd.zeroValue5
  t9 := Tryd.underlying9
  a9 := Tryd.isAgg9
  z9 := Tryd.sizeOf9
  v9 := Tryd.zeroValue9
  t21 := Tryd.underlying21
  a21 := Tryd.isAgg21
  z21 := Tryd.sizeOf21
  v21 := Tryd.zeroValue21
  t31 := Tryd.underlying82
  a31 := Tryd.isAgg82
  z31 := Tryd.sizeOf82
  v31 := Tryd.zeroValue82
  t40 := Tryd.underlying96
  a40 := Tryd.isAgg96
  z40 := Tryd.sizeOf96
  v40 := Tryd.zeroValue96
  t46 := Tryd.underlying86
  a46 := Tryd.isAgg86
  z46 := Tryd.sizeOf86
  v46 := Tryd.zeroValue86
  t49 := Tryd.underlying110
  a49 := Tryd.isAgg110
  z49 := Tryd.sizeOf110
  v49 := Tryd.zeroValue110
  t51 := Tryd.underlying60
  a51 := Tryd.isAgg60
  z51 := Tryd.sizeOf60
  v51 := Tryd.zeroValue60
  t119 := Tryd.underlying94
  a119 := Tryd.isAgg94
  z119 := Tryd.sizeOf94
  t141 := Tryd.underlying101
  a141 := Tryd.isAgg101
  z141 := Tryd.sizeOf101
  v141 := Tryd.zeroValue101
  t152 := Tryd.underlying97
  a152 := Tryd.isAgg97
  z152 := Tryd.sizeOf97
  v152 := Tryd.zeroValue97
  t154 := Tryd.underlying99
  a154 := Tryd.isAgg99
  z154 := Tryd.sizeOf99
  v154 := Tryd.zeroValue99
  t193 := Tryd.underlying106
  a193 := Tryd.isAgg106
  z193 := Tryd.sizeOf106
  v193 := Tryd.zeroValue106
  t194 := Tryd.underlying107
  a194 := Tryd.isAgg107
  z194 := Tryd.sizeOf107
  v194 := Tryd.zeroValue107
  t196 := Tryd.underlying109
  a196 := Tryd.isAgg109
  z196 := Tryd.sizeOf109
  v196 := Tryd.zeroValue109
  t198 := Tryd.underlying112
  a198 := Tryd.isAgg112
  z198 := Tryd.sizeOf112
  v198 := Tryd.zeroValue112
  t201 := Tryd.underlying115
  a201 := Tryd.isAgg115
  z201 := Tryd.sizeOf115
  v201 := Tryd.zeroValue115
  t226 := Tryd.underlying117
  a226 := Tryd.isAgg117
  z226 := Tryd.sizeOf117
  v226 := Tryd.zeroValue117
  t227 := Tryd.underlying118
  a227 := Tryd.isAgg118
  z227 := Tryd.sizeOf118
  v227 := Tryd.zeroValue118
  g0 := by kernel_rfl
  g6 := by kernel_rfl }
open Go.RowKit Go.Lib in
theorem Tryd.fields_core (s : ByteArray) (w : World) (hs : s.size < 4294967281) (hascii : ∀ (j : Nat) b, s.data.toList[j]? = some b → b.toNat < 128)
    (hT : ∀ c : Nat, c < 256 → w.cell? ⟨0, c, none⟩ = some (.int .u8 (if Lib.isSp (UInt8.ofNat c) then 1 else 0))) :
    Calls Tryd.prog 57 #[.string s] w fun e w' =>
      e = .returned (.slice (some ⟨w.heap.size, 0, none⟩) (Lib.fields s.data.toList).length (Lib.fields s.data.toList).length) ∧ w' = w.alloc (.cells ((Lib.fields s.data.toList).map fun l => Value.string ⟨l.toArray⟩).toArray 9) := Any.strings_Fields_core Tryd.lays157 (by kernel_rfl) s w hs hascii hT
end Go.Proofs
