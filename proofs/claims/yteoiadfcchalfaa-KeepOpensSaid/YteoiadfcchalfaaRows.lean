/-
  No cell of these rows narrows 'for every input' (looked for: loops, veiled, ifaces, maps, wideKeys, modest, calm, conditions, laid).
  DERIVED. THE GIVEN ROWS OF THIS SEAT. 16 by the template 'for every input the law returns true; each argument reads behind the call as it read before'; 0 by the template 'total and deterministic' (their statements: YteoiadfcchalfaaTotals.lean).
  GIVEN WITH THE SEED: the statements are not yours to turn. If you find one false, say at which input.
  Laid BY PROGRAM, IN A SANDBOX (cutbox-rows.mjs): the forced cells as the released guide's own fill.sh prints them over the translation 768c0567ab642c0b… (all of the seat's roots in one cut). By AI agents, Wed Nov 11 2026. No macro, syntax, notation, axiom, sorry.
-/
import Derived.Test.YteoiadfcchalfaaChecked
import GoSem.Claim
import GoSem.ClaimJoined
import GoSem.ClaimMapViews
import Derived.JoinedTies
import Derived.KernelRfl
namespace Go.Proofs.Yteoiadfcchalfaa
/- THE CELL 'sum', in the pinned program and in every row, IS THE sha256 OF THE DUMP (.gsa) THAT YteoiadfcchalfaaProg.lean LOADS. Nothing in Lean hashes anything: it is a label: what it is worth is what the hold of that sum in a sandbox is worth. -/
noncomputable def Try.pinned : Pinned := { name := "yteoiadfcchalfaa", sum := "768c0567ab642c0b3d6cd796b6c8e5009a2cd7f7b2d9b489a024e7df07ce188b", checked := Try.checked }
namespace Rows
def none {H : Type} : Left H := { results := [], args := [] }

/-- 'caddislaw19.SlotReads': WHATEVER THE INPUT: true; the input reads as it did. -/
def slotReadsSpec : ChangeSpec := { name := "slotReads", fn := fun _ => fun
  | [d] => { results := [.lit (.bool true)], args := [d] }
  | _ => none }
def slotReadsRow : OpenClaim := { program := "yteoiadfcchalfaa", sum := "768c0567ab642c0b3d6cd796b6c8e5009a2cd7f7b2d9b489a024e7df07ce188b", func := "caddis/caddislaw19.SlotReads", spec := "slotReads", inPlace := ["internal/abi.NoEscape", "internal/bytealg.MakeNoZero"], unfollowed := true, recurses := true, apart := false }
def SlotReadsSaid : Prop := slotReadsRow.holds Try.pinned (OpenSpec.ofChange slotReadsSpec)

/-- ITS FALSE NEIGHBOUR: 'it returns false'. Refute it at one input. -/
def slotReadsWrong : ChangeSpec := { name := "slotReads", fn := fun _ => fun
  | [d] => { results := [.lit (.bool false)], args := [d] }
  | _ => none }
def SlotReadsWrongFalsely : Prop := slotReadsRow.holds Try.pinned (OpenSpec.ofChange slotReadsWrong)

/-- 'caddislaw19.SlotFew': WHATEVER THE INPUT: true; the input reads as it did. -/
def slotFewSpec : ChangeSpec := { name := "slotFew", fn := fun _ => fun
  | [d1, d2] => { results := [.lit (.bool true)], args := [d1, d2] }
  | _ => none }
def slotFewRow : OpenClaim := { program := "yteoiadfcchalfaa", sum := "768c0567ab642c0b3d6cd796b6c8e5009a2cd7f7b2d9b489a024e7df07ce188b", func := "caddis/caddislaw19.SlotFew", spec := "slotFew", inPlace := ["internal/abi.NoEscape", "internal/bytealg.MakeNoZero"], unfollowed := true, recurses := true, apart := false }
def SlotFewSaid : Prop := slotFewRow.holds Try.pinned (OpenSpec.ofChange slotFewSpec)

/-- ITS FALSE NEIGHBOUR: 'it returns false'. Refute it at one input. -/
def slotFewWrong : ChangeSpec := { name := "slotFew", fn := fun _ => fun
  | [d1, d2] => { results := [.lit (.bool false)], args := [d1, d2] }
  | _ => none }
def SlotFewWrongFalsely : Prop := slotFewRow.holds Try.pinned (OpenSpec.ofChange slotFewWrong)

/-- 'caddislaw19.SlotPages': WHATEVER THE INPUT: true; the input reads as it did. -/
def slotPagesSpec : ChangeSpec := { name := "slotPages", fn := fun _ => fun
  | [d] => { results := [.lit (.bool true)], args := [d] }
  | _ => none }
def slotPagesRow : OpenClaim := { program := "yteoiadfcchalfaa", sum := "768c0567ab642c0b3d6cd796b6c8e5009a2cd7f7b2d9b489a024e7df07ce188b", func := "caddis/caddislaw19.SlotPages", spec := "slotPages", inPlace := ["internal/abi.NoEscape", "internal/bytealg.MakeNoZero"], unfollowed := true, recurses := true, apart := false }
def SlotPagesSaid : Prop := slotPagesRow.holds Try.pinned (OpenSpec.ofChange slotPagesSpec)

/-- ITS FALSE NEIGHBOUR: 'it returns false'. Refute it at one input. -/
def slotPagesWrong : ChangeSpec := { name := "slotPages", fn := fun _ => fun
  | [d] => { results := [.lit (.bool false)], args := [d] }
  | _ => none }
def SlotPagesWrongFalsely : Prop := slotPagesRow.holds Try.pinned (OpenSpec.ofChange slotPagesWrong)

/-- 'caddislaw19.SlotFree': WHATEVER THE INPUT: true; the input reads as it did. -/
def slotFreeSpec : ChangeSpec := { name := "slotFree", fn := fun _ => fun
  | [d1, d2, d3] => { results := [.lit (.bool true)], args := [d1, d2, d3] }
  | _ => none }
def slotFreeRow : OpenClaim := { program := "yteoiadfcchalfaa", sum := "768c0567ab642c0b3d6cd796b6c8e5009a2cd7f7b2d9b489a024e7df07ce188b", func := "caddis/caddislaw19.SlotFree", spec := "slotFree", inPlace := ["internal/abi.NoEscape", "internal/bytealg.MakeNoZero"], unfollowed := true, recurses := true, apart := false }
def SlotFreeSaid : Prop := slotFreeRow.holds Try.pinned (OpenSpec.ofChange slotFreeSpec)

/-- ITS FALSE NEIGHBOUR: 'it returns false'. Refute it at one input. -/
def slotFreeWrong : ChangeSpec := { name := "slotFree", fn := fun _ => fun
  | [d1, d2, d3] => { results := [.lit (.bool false)], args := [d1, d2, d3] }
  | _ => none }
def SlotFreeWrongFalsely : Prop := slotFreeRow.holds Try.pinned (OpenSpec.ofChange slotFreeWrong)

/-- 'caddislaw17.DiskKeeps': WHATEVER THE INPUT: true; the input reads as it did. -/
def diskKeepsSpec : ChangeSpec := { name := "diskKeeps", fn := fun _ => fun
  | [d1, d2, d3] => { results := [.lit (.bool true)], args := [d1, d2, d3] }
  | _ => none }
def diskKeepsRow : OpenClaim := { program := "yteoiadfcchalfaa", sum := "768c0567ab642c0b3d6cd796b6c8e5009a2cd7f7b2d9b489a024e7df07ce188b", func := "caddis/caddislaw17.DiskKeeps", spec := "diskKeeps", inPlace := ["internal/abi.NoEscape", "internal/bytealg.MakeNoZero"], unfollowed := true, recurses := true, apart := false }
def DiskKeepsSaid : Prop := diskKeepsRow.holds Try.pinned (OpenSpec.ofChange diskKeepsSpec)

/-- ITS FALSE NEIGHBOUR: 'it returns false'. Refute it at one input. -/
def diskKeepsWrong : ChangeSpec := { name := "diskKeeps", fn := fun _ => fun
  | [d1, d2, d3] => { results := [.lit (.bool false)], args := [d1, d2, d3] }
  | _ => none }
def DiskKeepsWrongFalsely : Prop := diskKeepsRow.holds Try.pinned (OpenSpec.ofChange diskKeepsWrong)

/-- 'caddislaw17.DiskBudgets': WHATEVER THE INPUT: true; the input reads as it did. -/
def diskBudgetsSpec : ChangeSpec := { name := "diskBudgets", fn := fun _ => fun
  | [d1, d2] => { results := [.lit (.bool true)], args := [d1, d2] }
  | _ => none }
def diskBudgetsRow : OpenClaim := { program := "yteoiadfcchalfaa", sum := "768c0567ab642c0b3d6cd796b6c8e5009a2cd7f7b2d9b489a024e7df07ce188b", func := "caddis/caddislaw17.DiskBudgets", spec := "diskBudgets", inPlace := ["internal/abi.NoEscape", "internal/bytealg.MakeNoZero"], unfollowed := true, recurses := true, apart := false }
def DiskBudgetsSaid : Prop := diskBudgetsRow.holds Try.pinned (OpenSpec.ofChange diskBudgetsSpec)

/-- ITS FALSE NEIGHBOUR: 'it returns false'. Refute it at one input. -/
def diskBudgetsWrong : ChangeSpec := { name := "diskBudgets", fn := fun _ => fun
  | [d1, d2] => { results := [.lit (.bool false)], args := [d1, d2] }
  | _ => none }
def DiskBudgetsWrongFalsely : Prop := diskBudgetsRow.holds Try.pinned (OpenSpec.ofChange diskBudgetsWrong)

/-- 'caddislaw18.LogForged': WHATEVER THE INPUT: true; the input reads as it did. -/
def logForgedSpec : ChangeSpec := { name := "logForged", fn := fun _ => fun
  | [d1, d2] => { results := [.lit (.bool true)], args := [d1, d2] }
  | _ => none }
def logForgedRow : OpenClaim := { program := "yteoiadfcchalfaa", sum := "768c0567ab642c0b3d6cd796b6c8e5009a2cd7f7b2d9b489a024e7df07ce188b", func := "caddis/caddislaw18.LogForged", spec := "logForged", inPlace := ["internal/abi.NoEscape", "internal/bytealg.MakeNoZero"], unfollowed := true, recurses := true, apart := false }
def LogForgedSaid : Prop := logForgedRow.holds Try.pinned (OpenSpec.ofChange logForgedSpec)

/-- ITS FALSE NEIGHBOUR: 'it returns false'. Refute it at one input. -/
def logForgedWrong : ChangeSpec := { name := "logForged", fn := fun _ => fun
  | [d1, d2] => { results := [.lit (.bool false)], args := [d1, d2] }
  | _ => none }
def LogForgedWrongFalsely : Prop := logForgedRow.holds Try.pinned (OpenSpec.ofChange logForgedWrong)

/-- 'caddislaw18.LogSectors': WHATEVER THE INPUT: true; the input reads as it did. -/
def logSectorsSpec : ChangeSpec := { name := "logSectors", fn := fun _ => fun
  | [d1, d2, d3] => { results := [.lit (.bool true)], args := [d1, d2, d3] }
  | _ => none }
def logSectorsRow : OpenClaim := { program := "yteoiadfcchalfaa", sum := "768c0567ab642c0b3d6cd796b6c8e5009a2cd7f7b2d9b489a024e7df07ce188b", func := "caddis/caddislaw18.LogSectors", spec := "logSectors", inPlace := ["internal/abi.NoEscape", "internal/bytealg.MakeNoZero"], unfollowed := true, recurses := true, apart := false }
def LogSectorsSaid : Prop := logSectorsRow.holds Try.pinned (OpenSpec.ofChange logSectorsSpec)

/-- ITS FALSE NEIGHBOUR: 'it returns false'. Refute it at one input. -/
def logSectorsWrong : ChangeSpec := { name := "logSectors", fn := fun _ => fun
  | [d1, d2, d3] => { results := [.lit (.bool false)], args := [d1, d2, d3] }
  | _ => none }
def LogSectorsWrongFalsely : Prop := logSectorsRow.holds Try.pinned (OpenSpec.ofChange logSectorsWrong)

/-- 'caddislaw18.LogNumbers': WHATEVER THE INPUT: true; the input reads as it did. -/
def logNumbersSpec : ChangeSpec := { name := "logNumbers", fn := fun _ => fun
  | [d1, d2, d3] => { results := [.lit (.bool true)], args := [d1, d2, d3] }
  | _ => none }
def logNumbersRow : OpenClaim := { program := "yteoiadfcchalfaa", sum := "768c0567ab642c0b3d6cd796b6c8e5009a2cd7f7b2d9b489a024e7df07ce188b", func := "caddis/caddislaw18.LogNumbers", spec := "logNumbers", inPlace := ["internal/abi.NoEscape", "internal/bytealg.MakeNoZero"], unfollowed := true, recurses := true, apart := false }
def LogNumbersSaid : Prop := logNumbersRow.holds Try.pinned (OpenSpec.ofChange logNumbersSpec)

/-- ITS FALSE NEIGHBOUR: 'it returns false'. Refute it at one input. -/
def logNumbersWrong : ChangeSpec := { name := "logNumbers", fn := fun _ => fun
  | [d1, d2, d3] => { results := [.lit (.bool false)], args := [d1, d2, d3] }
  | _ => none }
def LogNumbersWrongFalsely : Prop := logNumbersRow.holds Try.pinned (OpenSpec.ofChange logNumbersWrong)

/-- 'caddislaw18.LogBack': WHATEVER THE INPUT: true; the input reads as it did. -/
def logBackSpec : ChangeSpec := { name := "logBack", fn := fun _ => fun
  | [d1, d2] => { results := [.lit (.bool true)], args := [d1, d2] }
  | _ => none }
def logBackRow : OpenClaim := { program := "yteoiadfcchalfaa", sum := "768c0567ab642c0b3d6cd796b6c8e5009a2cd7f7b2d9b489a024e7df07ce188b", func := "caddis/caddislaw18.LogBack", spec := "logBack", inPlace := ["internal/abi.NoEscape", "internal/bytealg.MakeNoZero"], unfollowed := true, recurses := true, apart := false }
def LogBackSaid : Prop := logBackRow.holds Try.pinned (OpenSpec.ofChange logBackSpec)

/-- ITS FALSE NEIGHBOUR: 'it returns false'. Refute it at one input. -/
def logBackWrong : ChangeSpec := { name := "logBack", fn := fun _ => fun
  | [d1, d2] => { results := [.lit (.bool false)], args := [d1, d2] }
  | _ => none }
def LogBackWrongFalsely : Prop := logBackRow.holds Try.pinned (OpenSpec.ofChange logBackWrong)

/-- 'caddislaw18.LogCuts': WHATEVER THE INPUT: true; the input reads as it did. -/
def logCutsSpec : ChangeSpec := { name := "logCuts", fn := fun _ => fun
  | [d1, d2, d3] => { results := [.lit (.bool true)], args := [d1, d2, d3] }
  | _ => none }
def logCutsRow : OpenClaim := { program := "yteoiadfcchalfaa", sum := "768c0567ab642c0b3d6cd796b6c8e5009a2cd7f7b2d9b489a024e7df07ce188b", func := "caddis/caddislaw18.LogCuts", spec := "logCuts", inPlace := ["internal/abi.NoEscape", "internal/bytealg.MakeNoZero"], unfollowed := true, recurses := true, apart := false }
def LogCutsSaid : Prop := logCutsRow.holds Try.pinned (OpenSpec.ofChange logCutsSpec)

/-- ITS FALSE NEIGHBOUR: 'it returns false'. Refute it at one input. -/
def logCutsWrong : ChangeSpec := { name := "logCuts", fn := fun _ => fun
  | [d1, d2, d3] => { results := [.lit (.bool false)], args := [d1, d2, d3] }
  | _ => none }
def LogCutsWrongFalsely : Prop := logCutsRow.holds Try.pinned (OpenSpec.ofChange logCutsWrong)

/-- 'caddislaw21.KeepPlays': WHATEVER THE INPUT: true; the input reads as it did. -/
def keepPlaysSpec : ChangeSpec := { name := "keepPlays", fn := fun _ => fun
  | [d1, d2, d3] => { results := [.lit (.bool true)], args := [d1, d2, d3] }
  | _ => none }
def keepPlaysRow : OpenClaim := { program := "yteoiadfcchalfaa", sum := "768c0567ab642c0b3d6cd796b6c8e5009a2cd7f7b2d9b489a024e7df07ce188b", func := "caddis/caddislaw21.KeepPlays", spec := "keepPlays", inPlace := ["internal/abi.NoEscape", "internal/bytealg.MakeNoZero"], unfollowed := true, recurses := true, apart := false }
def KeepPlaysSaid : Prop := keepPlaysRow.holds Try.pinned (OpenSpec.ofChange keepPlaysSpec)

/-- ITS FALSE NEIGHBOUR: 'it returns false'. Refute it at one input. -/
def keepPlaysWrong : ChangeSpec := { name := "keepPlays", fn := fun _ => fun
  | [d1, d2, d3] => { results := [.lit (.bool false)], args := [d1, d2, d3] }
  | _ => none }
def KeepPlaysWrongFalsely : Prop := keepPlaysRow.holds Try.pinned (OpenSpec.ofChange keepPlaysWrong)

/-- 'caddislaw21.KeepOpens': WHATEVER THE INPUT: true; the input reads as it did. -/
def keepOpensSpec : ChangeSpec := { name := "keepOpens", fn := fun _ => fun
  | [d1, d2, d3] => { results := [.lit (.bool true)], args := [d1, d2, d3] }
  | _ => none }
def keepOpensRow : OpenClaim := { program := "yteoiadfcchalfaa", sum := "768c0567ab642c0b3d6cd796b6c8e5009a2cd7f7b2d9b489a024e7df07ce188b", func := "caddis/caddislaw21.KeepOpens", spec := "keepOpens", inPlace := ["internal/abi.NoEscape", "internal/bytealg.MakeNoZero"], unfollowed := true, recurses := true, apart := false }
def KeepOpensSaid : Prop := keepOpensRow.holds Try.pinned (OpenSpec.ofChange keepOpensSpec)

/-- ITS FALSE NEIGHBOUR: 'it returns false'. Refute it at one input. -/
def keepOpensWrong : ChangeSpec := { name := "keepOpens", fn := fun _ => fun
  | [d1, d2, d3] => { results := [.lit (.bool false)], args := [d1, d2, d3] }
  | _ => none }
def KeepOpensWrongFalsely : Prop := keepOpensRow.holds Try.pinned (OpenSpec.ofChange keepOpensWrong)

/-- 'caddislaw21.KeepLikewise': WHATEVER THE INPUT: true; the input reads as it did. -/
def keepLikewiseSpec : ChangeSpec := { name := "keepLikewise", fn := fun _ => fun
  | [d1, d2, d3] => { results := [.lit (.bool true)], args := [d1, d2, d3] }
  | _ => none }
def keepLikewiseRow : OpenClaim := { program := "yteoiadfcchalfaa", sum := "768c0567ab642c0b3d6cd796b6c8e5009a2cd7f7b2d9b489a024e7df07ce188b", func := "caddis/caddislaw21.KeepLikewise", spec := "keepLikewise", inPlace := ["internal/abi.NoEscape", "internal/bytealg.MakeNoZero"], unfollowed := true, recurses := true, apart := false }
def KeepLikewiseSaid : Prop := keepLikewiseRow.holds Try.pinned (OpenSpec.ofChange keepLikewiseSpec)

/-- ITS FALSE NEIGHBOUR: 'it returns false'. Refute it at one input. -/
def keepLikewiseWrong : ChangeSpec := { name := "keepLikewise", fn := fun _ => fun
  | [d1, d2, d3] => { results := [.lit (.bool false)], args := [d1, d2, d3] }
  | _ => none }
def KeepLikewiseWrongFalsely : Prop := keepLikewiseRow.holds Try.pinned (OpenSpec.ofChange keepLikewiseWrong)

/-- 'caddislaw21.KeepTexts': WHATEVER THE INPUT: true; the input reads as it did. -/
def keepTextsSpec : ChangeSpec := { name := "keepTexts", fn := fun _ => fun
  | [d1, d2, d3] => { results := [.lit (.bool true)], args := [d1, d2, d3] }
  | _ => none }
def keepTextsRow : OpenClaim := { program := "yteoiadfcchalfaa", sum := "768c0567ab642c0b3d6cd796b6c8e5009a2cd7f7b2d9b489a024e7df07ce188b", func := "caddis/caddislaw21.KeepTexts", spec := "keepTexts", inPlace := ["internal/abi.NoEscape", "internal/bytealg.MakeNoZero"], unfollowed := true, recurses := true, apart := false }
def KeepTextsSaid : Prop := keepTextsRow.holds Try.pinned (OpenSpec.ofChange keepTextsSpec)

/-- ITS FALSE NEIGHBOUR: 'it returns false'. Refute it at one input. -/
def keepTextsWrong : ChangeSpec := { name := "keepTexts", fn := fun _ => fun
  | [d1, d2, d3] => { results := [.lit (.bool false)], args := [d1, d2, d3] }
  | _ => none }
def KeepTextsWrongFalsely : Prop := keepTextsRow.holds Try.pinned (OpenSpec.ofChange keepTextsWrong)

/-- 'caddislaw21.KeepCuts': WHATEVER THE INPUT: true; the input reads as it did. -/
def keepCutsSpec : ChangeSpec := { name := "keepCuts", fn := fun _ => fun
  | [d1, d2, d3] => { results := [.lit (.bool true)], args := [d1, d2, d3] }
  | _ => none }
def keepCutsRow : OpenClaim := { program := "yteoiadfcchalfaa", sum := "768c0567ab642c0b3d6cd796b6c8e5009a2cd7f7b2d9b489a024e7df07ce188b", func := "caddis/caddislaw21.KeepCuts", spec := "keepCuts", inPlace := ["internal/abi.NoEscape", "internal/bytealg.MakeNoZero"], unfollowed := true, recurses := true, apart := false }
def KeepCutsSaid : Prop := keepCutsRow.holds Try.pinned (OpenSpec.ofChange keepCutsSpec)

/-- ITS FALSE NEIGHBOUR: 'it returns false'. Refute it at one input. -/
def keepCutsWrong : ChangeSpec := { name := "keepCuts", fn := fun _ => fun
  | [d1, d2, d3] => { results := [.lit (.bool false)], args := [d1, d2, d3] }
  | _ => none }
def KeepCutsWrongFalsely : Prop := keepCutsRow.holds Try.pinned (OpenSpec.ofChange keepCutsWrong)

/- THE SECOND FORM. 'bulk': how many values and letters a reading holds, each counted each time it is reached (what is shared counts as often as it is met; a slice's spare places count too). A statement '..UptoSaid' is the law's where the arguments, and the package variables that the reading takes, are together of bulk at most 1048576: NARROWER than '..Said'. Prove '..Said' where nothing that the law and all that it calls make is longer than what came in: it says more and counts as full. Else prove '..UptoSaid'. A law counts once. -/
mutual
def uptoBulk {H : Type} : DataW H → Nat
  | .lit (.string bytes) => bytes.length + 1
  | .lit _ => 1
  | .nil => 1
  | .ptr d => uptoBulk d + 1
  | .slice elems spare => uptoBulkAll elems + uptoBulkAll spare + 1
  | .agg parts => uptoBulkAll parts + 1
  | .iface _ d => uptoBulk d + 1
  | .map entries => uptoBulkEntries entries + 1
  | .held _ => 1
def uptoBulkAll {H : Type} : List (DataW H) → Nat
  | [] => 0
  | d :: r => uptoBulk d + uptoBulkAll r
def uptoBulkEntries {H : Type} : List (Lit × DataW H) → Nat
  | [] => 0
  | x :: r => uptoBulkEntry x + uptoBulkEntries r
def uptoBulkEntry {H : Type} : Lit × DataW H → Nat
  | (.string bytes, d) => bytes.length + uptoBulk d + 1
  | (_, d) => uptoBulk d + 1
 end
def uptoSmall : (H : Type) → List (DataW H) → Bool := fun _ ds => decide (uptoBulkAll ds ≤ 1048576)
def OpenSpec.upto (s : _root_.Go.ChangeSpec) : _root_.Go.OpenSpec := { _root_.Go.OpenSpec.ofChange s with cond := some uptoSmall }

/-- 'caddislaw19.SlotReads', WHERE WHAT IT READS IS OF BULK AT MOST 1048576: true; the input reads as it did. -/
def slotReadsUptoRow : OpenClaim := { program := "yteoiadfcchalfaa", sum := "768c0567ab642c0b3d6cd796b6c8e5009a2cd7f7b2d9b489a024e7df07ce188b", func := "caddis/caddislaw19.SlotReads", spec := "slotReads", inPlace := ["internal/abi.NoEscape", "internal/bytealg.MakeNoZero"], unfollowed := true, recurses := true, apart := false, narrowed := true }
def SlotReadsUptoSaid : Prop := slotReadsUptoRow.holds Try.pinned (OpenSpec.upto slotReadsSpec)

/-- 'caddislaw19.SlotFew', WHERE WHAT IT READS IS OF BULK AT MOST 1048576: true; the input reads as it did. -/
def slotFewUptoRow : OpenClaim := { program := "yteoiadfcchalfaa", sum := "768c0567ab642c0b3d6cd796b6c8e5009a2cd7f7b2d9b489a024e7df07ce188b", func := "caddis/caddislaw19.SlotFew", spec := "slotFew", inPlace := ["internal/abi.NoEscape", "internal/bytealg.MakeNoZero"], unfollowed := true, recurses := true, apart := false, narrowed := true }
def SlotFewUptoSaid : Prop := slotFewUptoRow.holds Try.pinned (OpenSpec.upto slotFewSpec)

/-- 'caddislaw19.SlotPages', WHERE WHAT IT READS IS OF BULK AT MOST 1048576: true; the input reads as it did. -/
def slotPagesUptoRow : OpenClaim := { program := "yteoiadfcchalfaa", sum := "768c0567ab642c0b3d6cd796b6c8e5009a2cd7f7b2d9b489a024e7df07ce188b", func := "caddis/caddislaw19.SlotPages", spec := "slotPages", inPlace := ["internal/abi.NoEscape", "internal/bytealg.MakeNoZero"], unfollowed := true, recurses := true, apart := false, narrowed := true }
def SlotPagesUptoSaid : Prop := slotPagesUptoRow.holds Try.pinned (OpenSpec.upto slotPagesSpec)

/-- 'caddislaw19.SlotFree', WHERE WHAT IT READS IS OF BULK AT MOST 1048576: true; the input reads as it did. -/
def slotFreeUptoRow : OpenClaim := { program := "yteoiadfcchalfaa", sum := "768c0567ab642c0b3d6cd796b6c8e5009a2cd7f7b2d9b489a024e7df07ce188b", func := "caddis/caddislaw19.SlotFree", spec := "slotFree", inPlace := ["internal/abi.NoEscape", "internal/bytealg.MakeNoZero"], unfollowed := true, recurses := true, apart := false, narrowed := true }
def SlotFreeUptoSaid : Prop := slotFreeUptoRow.holds Try.pinned (OpenSpec.upto slotFreeSpec)

/-- 'caddislaw17.DiskKeeps', WHERE WHAT IT READS IS OF BULK AT MOST 1048576: true; the input reads as it did. -/
def diskKeepsUptoRow : OpenClaim := { program := "yteoiadfcchalfaa", sum := "768c0567ab642c0b3d6cd796b6c8e5009a2cd7f7b2d9b489a024e7df07ce188b", func := "caddis/caddislaw17.DiskKeeps", spec := "diskKeeps", inPlace := ["internal/abi.NoEscape", "internal/bytealg.MakeNoZero"], unfollowed := true, recurses := true, apart := false, narrowed := true }
def DiskKeepsUptoSaid : Prop := diskKeepsUptoRow.holds Try.pinned (OpenSpec.upto diskKeepsSpec)

/-- 'caddislaw17.DiskBudgets', WHERE WHAT IT READS IS OF BULK AT MOST 1048576: true; the input reads as it did. -/
def diskBudgetsUptoRow : OpenClaim := { program := "yteoiadfcchalfaa", sum := "768c0567ab642c0b3d6cd796b6c8e5009a2cd7f7b2d9b489a024e7df07ce188b", func := "caddis/caddislaw17.DiskBudgets", spec := "diskBudgets", inPlace := ["internal/abi.NoEscape", "internal/bytealg.MakeNoZero"], unfollowed := true, recurses := true, apart := false, narrowed := true }
def DiskBudgetsUptoSaid : Prop := diskBudgetsUptoRow.holds Try.pinned (OpenSpec.upto diskBudgetsSpec)

/-- 'caddislaw18.LogForged', WHERE WHAT IT READS IS OF BULK AT MOST 1048576: true; the input reads as it did. -/
def logForgedUptoRow : OpenClaim := { program := "yteoiadfcchalfaa", sum := "768c0567ab642c0b3d6cd796b6c8e5009a2cd7f7b2d9b489a024e7df07ce188b", func := "caddis/caddislaw18.LogForged", spec := "logForged", inPlace := ["internal/abi.NoEscape", "internal/bytealg.MakeNoZero"], unfollowed := true, recurses := true, apart := false, narrowed := true }
def LogForgedUptoSaid : Prop := logForgedUptoRow.holds Try.pinned (OpenSpec.upto logForgedSpec)

/-- 'caddislaw18.LogSectors', WHERE WHAT IT READS IS OF BULK AT MOST 1048576: true; the input reads as it did. -/
def logSectorsUptoRow : OpenClaim := { program := "yteoiadfcchalfaa", sum := "768c0567ab642c0b3d6cd796b6c8e5009a2cd7f7b2d9b489a024e7df07ce188b", func := "caddis/caddislaw18.LogSectors", spec := "logSectors", inPlace := ["internal/abi.NoEscape", "internal/bytealg.MakeNoZero"], unfollowed := true, recurses := true, apart := false, narrowed := true }
def LogSectorsUptoSaid : Prop := logSectorsUptoRow.holds Try.pinned (OpenSpec.upto logSectorsSpec)

/-- 'caddislaw18.LogNumbers', WHERE WHAT IT READS IS OF BULK AT MOST 1048576: true; the input reads as it did. -/
def logNumbersUptoRow : OpenClaim := { program := "yteoiadfcchalfaa", sum := "768c0567ab642c0b3d6cd796b6c8e5009a2cd7f7b2d9b489a024e7df07ce188b", func := "caddis/caddislaw18.LogNumbers", spec := "logNumbers", inPlace := ["internal/abi.NoEscape", "internal/bytealg.MakeNoZero"], unfollowed := true, recurses := true, apart := false, narrowed := true }
def LogNumbersUptoSaid : Prop := logNumbersUptoRow.holds Try.pinned (OpenSpec.upto logNumbersSpec)

/-- 'caddislaw18.LogBack', WHERE WHAT IT READS IS OF BULK AT MOST 1048576: true; the input reads as it did. -/
def logBackUptoRow : OpenClaim := { program := "yteoiadfcchalfaa", sum := "768c0567ab642c0b3d6cd796b6c8e5009a2cd7f7b2d9b489a024e7df07ce188b", func := "caddis/caddislaw18.LogBack", spec := "logBack", inPlace := ["internal/abi.NoEscape", "internal/bytealg.MakeNoZero"], unfollowed := true, recurses := true, apart := false, narrowed := true }
def LogBackUptoSaid : Prop := logBackUptoRow.holds Try.pinned (OpenSpec.upto logBackSpec)

/-- 'caddislaw18.LogCuts', WHERE WHAT IT READS IS OF BULK AT MOST 1048576: true; the input reads as it did. -/
def logCutsUptoRow : OpenClaim := { program := "yteoiadfcchalfaa", sum := "768c0567ab642c0b3d6cd796b6c8e5009a2cd7f7b2d9b489a024e7df07ce188b", func := "caddis/caddislaw18.LogCuts", spec := "logCuts", inPlace := ["internal/abi.NoEscape", "internal/bytealg.MakeNoZero"], unfollowed := true, recurses := true, apart := false, narrowed := true }
def LogCutsUptoSaid : Prop := logCutsUptoRow.holds Try.pinned (OpenSpec.upto logCutsSpec)

/-- 'caddislaw21.KeepPlays', WHERE WHAT IT READS IS OF BULK AT MOST 1048576: true; the input reads as it did. -/
def keepPlaysUptoRow : OpenClaim := { program := "yteoiadfcchalfaa", sum := "768c0567ab642c0b3d6cd796b6c8e5009a2cd7f7b2d9b489a024e7df07ce188b", func := "caddis/caddislaw21.KeepPlays", spec := "keepPlays", inPlace := ["internal/abi.NoEscape", "internal/bytealg.MakeNoZero"], unfollowed := true, recurses := true, apart := false, narrowed := true }
def KeepPlaysUptoSaid : Prop := keepPlaysUptoRow.holds Try.pinned (OpenSpec.upto keepPlaysSpec)

/-- 'caddislaw21.KeepOpens', WHERE WHAT IT READS IS OF BULK AT MOST 1048576: true; the input reads as it did. -/
def keepOpensUptoRow : OpenClaim := { program := "yteoiadfcchalfaa", sum := "768c0567ab642c0b3d6cd796b6c8e5009a2cd7f7b2d9b489a024e7df07ce188b", func := "caddis/caddislaw21.KeepOpens", spec := "keepOpens", inPlace := ["internal/abi.NoEscape", "internal/bytealg.MakeNoZero"], unfollowed := true, recurses := true, apart := false, narrowed := true }
def KeepOpensUptoSaid : Prop := keepOpensUptoRow.holds Try.pinned (OpenSpec.upto keepOpensSpec)

/-- 'caddislaw21.KeepLikewise', WHERE WHAT IT READS IS OF BULK AT MOST 1048576: true; the input reads as it did. -/
def keepLikewiseUptoRow : OpenClaim := { program := "yteoiadfcchalfaa", sum := "768c0567ab642c0b3d6cd796b6c8e5009a2cd7f7b2d9b489a024e7df07ce188b", func := "caddis/caddislaw21.KeepLikewise", spec := "keepLikewise", inPlace := ["internal/abi.NoEscape", "internal/bytealg.MakeNoZero"], unfollowed := true, recurses := true, apart := false, narrowed := true }
def KeepLikewiseUptoSaid : Prop := keepLikewiseUptoRow.holds Try.pinned (OpenSpec.upto keepLikewiseSpec)

/-- 'caddislaw21.KeepTexts', WHERE WHAT IT READS IS OF BULK AT MOST 1048576: true; the input reads as it did. -/
def keepTextsUptoRow : OpenClaim := { program := "yteoiadfcchalfaa", sum := "768c0567ab642c0b3d6cd796b6c8e5009a2cd7f7b2d9b489a024e7df07ce188b", func := "caddis/caddislaw21.KeepTexts", spec := "keepTexts", inPlace := ["internal/abi.NoEscape", "internal/bytealg.MakeNoZero"], unfollowed := true, recurses := true, apart := false, narrowed := true }
def KeepTextsUptoSaid : Prop := keepTextsUptoRow.holds Try.pinned (OpenSpec.upto keepTextsSpec)

/-- 'caddislaw21.KeepCuts', WHERE WHAT IT READS IS OF BULK AT MOST 1048576: true; the input reads as it did. -/
def keepCutsUptoRow : OpenClaim := { program := "yteoiadfcchalfaa", sum := "768c0567ab642c0b3d6cd796b6c8e5009a2cd7f7b2d9b489a024e7df07ce188b", func := "caddis/caddislaw21.KeepCuts", spec := "keepCuts", inPlace := ["internal/abi.NoEscape", "internal/bytealg.MakeNoZero"], unfollowed := true, recurses := true, apart := false, narrowed := true }
def KeepCutsUptoSaid : Prop := keepCutsUptoRow.holds Try.pinned (OpenSpec.upto keepCutsSpec)

end Rows
end Go.Proofs.Yteoiadfcchalfaa
