/- strings.Builder's WriteString at this dump, laid (printed by gl.py out of the laying of strings.Join). -/
import Derived.Test.YteoiadfcchalfaaShelf
namespace Go.Proofs
open Go.Shelf
theorem Try.lays166 : Go.Proofs.Lays.n166 Try.prog Try.lays156_ren := {
  mixed := by kernel_rfl
  f166 := Try.func95.trans (congrArg some (by kernel_rfl))
  f240 := Try.func109.trans (congrArg some (by kernel_rfl))
  f276 := Try.func114.trans (congrArg some (by kernel_rfl))
  t0 := Try.underlying0
  a0 := Try.isAgg0
  z0 := Try.sizeOf0
  v0 := Try.zeroValue0
  t3 := Try.underlying3
  a3 := Try.isAgg3
  z3 := Try.sizeOf3
  v3 := Try.zeroValue3
  t4 := Try.underlying4
  a4 := Try.isAgg4
  z4 := Try.sizeOf4
  v4 := Try.zeroValue4
  t9 := Try.underlying9
  a9 := Try.isAgg9
  z9 := Try.sizeOf9
  v9 := Try.zeroValue9
  t20 := Try.underlying20
  a20 := Try.isAgg20
  z20 := Try.sizeOf20
  v20 := Try.zeroValue20
  t37 := Try.underlying62
  a37 := Try.isAgg62
  z37 := Try.sizeOf62
  v37 := Try.zeroValue62
  t70 := Try.underlying142
  a70 := Try.isAgg142
  z70 := Try.sizeOf142
  v70 := Try.zeroValue142
  t72 := Try.underlying144
  a72 := Try.isAgg144
  z72 := Try.sizeOf144
  v72 := Try.zeroValue144
  t75 := Try.underlying147
  a75 := Try.isAgg147
  z75 := Try.sizeOf147
  v75 := Try.zeroValue147
  t164 := Try.underlying170
  a164 := Try.isAgg170
  z164 := Try.sizeOf170
  v164 := Try.zeroValue170 }
end Go.Proofs
