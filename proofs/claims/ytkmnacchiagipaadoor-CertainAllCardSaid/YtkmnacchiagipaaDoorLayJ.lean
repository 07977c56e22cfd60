/- Contracts of Go's library over this translation: the layings (printed by a tool of the kit). -/
import Derived.Shelf.Strings.OnBuilder
import Derived.Test.YtkmnacchiagipaaDoorProg
namespace Go.Proofs.YtkmnacchiagipaaDoor
open Go.Shelf
def Tryd.lays156_ren : Go.Shelf.Ren := ⟨fun | 156 => 83 | 165 => 117 | 166 => 38 | 169 => 39 | 240 => 78 | 241 => 153 | 276 => 113 | 277 => 182 | n => n, fun | 31 => 168 | 9 => 9 | 3 => 3 | 4 => 4 | 0 => 0 | 20 => 20 | 72 => 108 | 76 => 84 | 70 => 106 | 37 => 86 | 75 => 83 | 127 => 165 | 164 => 211 | 5 => 5 | 80 => 109 | n => n, fun | n => n⟩
theorem Tryd.lays156 : Go.Proofs.Lays.n156 Tryd.prog Tryd.lays156_ren := {
  mixed := by kernel_rfl
  f156 := Tryd.func83.trans (congrArg some (by kernel_rfl))
  f165 := Tryd.func117.trans (congrArg some (by kernel_rfl))
  f166 := Tryd.func38.trans (congrArg some (by kernel_rfl))
  f169 := Tryd.func39.trans (congrArg some (by kernel_rfl))
  f240 := Tryd.func78.trans (congrArg some (by kernel_rfl))
  f241 := Tryd.func153.trans (congrArg some (by kernel_rfl))
  f276 := Tryd.func113.trans (congrArg some (by kernel_rfl))
  f277 := Tryd.func182.trans (congrArg some (by kernel_rfl))
  t0 := Tryd.underlying0
  a0 := Tryd.isAgg0
  z0 := Tryd.sizeOf0
  v0 := Tryd.zeroValue0
  t3 := Tryd.underlying3
  a3 := Tryd.isAgg3
  z3 := Tryd.sizeOf3
  v3 := Tryd.zeroValue3
  t4 := Tryd.underlying4
  a4 := Tryd.isAgg4
  z4 := Tryd.sizeOf4
  v4 := Tryd.zeroValue4
  t9 := Tryd.underlying9
  a9 := Tryd.isAgg9
  z9 := Tryd.sizeOf9
  v9 := Tryd.zeroValue9
  t20 := Tryd.underlying20
  a20 := Tryd.isAgg20
  z20 := Tryd.sizeOf20
  v20 := Tryd.zeroValue20
  t31 := Tryd.underlying168
  a31 := Tryd.isAgg168
  z31 := Tryd.sizeOf168
  v31 := Tryd.zeroValue168
  t37 := Tryd.underlying86
  a37 := Tryd.isAgg86
  z37 := Tryd.sizeOf86
  v37 := Tryd.zeroValue86
  t70 := Tryd.underlying106
  a70 := Tryd.isAgg106
  z70 := Tryd.sizeOf106
  v70 := Tryd.zeroValue106
  t72 := Tryd.underlying108
  a72 := Tryd.isAgg108
  z72 := Tryd.sizeOf108
  v72 := Tryd.zeroValue108
  t75 := Tryd.underlying83
  a75 := Tryd.isAgg83
  z75 := Tryd.sizeOf83
  v75 := Tryd.zeroValue83
  t76 := Tryd.underlying84
  a76 := Tryd.isAgg84
  z76 := Tryd.sizeOf84
  v76 := Tryd.zeroValue84
  t127 := Tryd.underlying165
  a127 := Tryd.isAgg165
  z127 := Tryd.sizeOf165
  v127 := Tryd.zeroValue165
  t164 := Tryd.underlying211
  a164 := Tryd.isAgg211
  z164 := Tryd.sizeOf211
  v164 := Tryd.zeroValue211 }
end Go.Proofs.YtkmnacchiagipaaDoor
