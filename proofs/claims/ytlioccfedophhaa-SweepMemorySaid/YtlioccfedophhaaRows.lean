/-
  No cell of these rows narrows 'for every input' (looked for: loops, veiled, ifaces, maps, wideKeys, modest, calm, conditions, laid).
  DERIVED. THE GIVEN ROWS OF THIS SEAT. 7 by the template 'for every input the law returns true; each argument reads behind the call as it read before'; 0 by the template 'total and deterministic' (their statements: YtlioccfedophhaaTotals.lean).
  GIVEN WITH THE SEED: the statements are not yours to turn. If you find one false, say at which input.
  Laid BY PROGRAM, IN A SANDBOX (cutbox-rows.mjs): the forced cells as the released guide's own fill.sh prints them over the translation e67b51ee389104e7… (all of the seat's roots in one cut). By AI agents, Wed Nov 11 2026. No macro, syntax, notation, axiom, sorry.
-/
import Derived.Test.YtlioccfedophhaaChecked
import GoSem.Claim
import GoSem.ClaimJoined
import GoSem.ClaimMapViews
import Derived.JoinedTies
import Derived.KernelRfl
namespace Go.Proofs.Ytlioccfedophhaa
/- THE CELL 'sum', in the pinned program and in every row, IS THE sha256 OF THE DUMP (.gsa) THAT YtlioccfedophhaaProg.lean LOADS. Nothing in Lean hashes anything: it is a label: what it is worth is what the hold of that sum in a sandbox is worth. -/
noncomputable def Try.pinned : Pinned := { name := "ytlioccfedophhaa", sum := "e67b51ee389104e707aadd960f8f7f5e335993a96c65c7c0228109de3b7da2d6", checked := Try.checked }
namespace Rows
def none {H : Type} : Left H := { results := [], args := [] }

/-- 'proctorlaw16.SweepMemory': WHATEVER THE INPUT: true; the input reads as it did. -/
def sweepMemorySpec : ChangeSpec := { name := "sweepMemory", fn := fun _ => fun
  | [d] => { results := [.lit (.bool true)], args := [d] }
  | _ => none }
def sweepMemoryRow : OpenClaim := { program := "ytlioccfedophhaa", sum := "e67b51ee389104e707aadd960f8f7f5e335993a96c65c7c0228109de3b7da2d6", func := "proctor/proctorlaw16.SweepMemory", spec := "sweepMemory", unfollowed := true, recurses := true, apart := false }
def SweepMemorySaid : Prop := sweepMemoryRow.holds Try.pinned (OpenSpec.ofChange sweepMemorySpec)

/-- ITS FALSE NEIGHBOUR: 'it returns false'. Refute it at one input. -/
def sweepMemoryWrong : ChangeSpec := { name := "sweepMemory", fn := fun _ => fun
  | [d] => { results := [.lit (.bool false)], args := [d] }
  | _ => none }
def SweepMemoryWrongFalsely : Prop := sweepMemoryRow.holds Try.pinned (OpenSpec.ofChange sweepMemoryWrong)

/-- 'proctorlaw16.SweepWhole': WHATEVER THE INPUT: true; the input reads as it did. -/
def sweepWholeSpec : ChangeSpec := { name := "sweepWhole", fn := fun _ => fun
  | [d] => { results := [.lit (.bool true)], args := [d] }
  | _ => none }
def sweepWholeRow : OpenClaim := { program := "ytlioccfedophhaa", sum := "e67b51ee389104e707aadd960f8f7f5e335993a96c65c7c0228109de3b7da2d6", func := "proctor/proctorlaw16.SweepWhole", spec := "sweepWhole", unfollowed := true, recurses := true, apart := false }
def SweepWholeSaid : Prop := sweepWholeRow.holds Try.pinned (OpenSpec.ofChange sweepWholeSpec)

/-- ITS FALSE NEIGHBOUR: 'it returns false'. Refute it at one input. -/
def sweepWholeWrong : ChangeSpec := { name := "sweepWhole", fn := fun _ => fun
  | [d] => { results := [.lit (.bool false)], args := [d] }
  | _ => none }
def SweepWholeWrongFalsely : Prop := sweepWholeRow.holds Try.pinned (OpenSpec.ofChange sweepWholeWrong)

/-- 'proctorlaw16.SweepTrue': WHATEVER THE INPUT: true; the input reads as it did. -/
def sweepTrueSpec : ChangeSpec := { name := "sweepTrue", fn := fun _ => fun
  | [d] => { results := [.lit (.bool true)], args := [d] }
  | _ => none }
def sweepTrueRow : OpenClaim := { program := "ytlioccfedophhaa", sum := "e67b51ee389104e707aadd960f8f7f5e335993a96c65c7c0228109de3b7da2d6", func := "proctor/proctorlaw16.SweepTrue", spec := "sweepTrue", unfollowed := true, recurses := true, apart := false }
def SweepTrueSaid : Prop := sweepTrueRow.holds Try.pinned (OpenSpec.ofChange sweepTrueSpec)

/-- ITS FALSE NEIGHBOUR: 'it returns false'. Refute it at one input. -/
def sweepTrueWrong : ChangeSpec := { name := "sweepTrue", fn := fun _ => fun
  | [d] => { results := [.lit (.bool false)], args := [d] }
  | _ => none }
def SweepTrueWrongFalsely : Prop := sweepTrueRow.holds Try.pinned (OpenSpec.ofChange sweepTrueWrong)

/-- 'proctorlaw16.SweepConflicts': WHATEVER THE INPUT: true; the input reads as it did. -/
def sweepConflictsSpec : ChangeSpec := { name := "sweepConflicts", fn := fun _ => fun
  | [d] => { results := [.lit (.bool true)], args := [d] }
  | _ => none }
def sweepConflictsRow : OpenClaim := { program := "ytlioccfedophhaa", sum := "e67b51ee389104e707aadd960f8f7f5e335993a96c65c7c0228109de3b7da2d6", func := "proctor/proctorlaw16.SweepConflicts", spec := "sweepConflicts", unfollowed := true, recurses := true, apart := false }
def SweepConflictsSaid : Prop := sweepConflictsRow.holds Try.pinned (OpenSpec.ofChange sweepConflictsSpec)

/-- ITS FALSE NEIGHBOUR: 'it returns false'. Refute it at one input. -/
def sweepConflictsWrong : ChangeSpec := { name := "sweepConflicts", fn := fun _ => fun
  | [d] => { results := [.lit (.bool false)], args := [d] }
  | _ => none }
def SweepConflictsWrongFalsely : Prop := sweepConflictsRow.holds Try.pinned (OpenSpec.ofChange sweepConflictsWrong)

/-- 'proctorlaw16.SweepTurn': WHATEVER THE INPUT: true; the input reads as it did. -/
def sweepTurnSpec : ChangeSpec := { name := "sweepTurn", fn := fun _ => fun
  | [d1, d2] => { results := [.lit (.bool true)], args := [d1, d2] }
  | _ => none }
def sweepTurnRow : OpenClaim := { program := "ytlioccfedophhaa", sum := "e67b51ee389104e707aadd960f8f7f5e335993a96c65c7c0228109de3b7da2d6", func := "proctor/proctorlaw16.SweepTurn", spec := "sweepTurn", unfollowed := true, recurses := true, apart := false }
def SweepTurnSaid : Prop := sweepTurnRow.holds Try.pinned (OpenSpec.ofChange sweepTurnSpec)

/-- ITS FALSE NEIGHBOUR: 'it returns false'. Refute it at one input. -/
def sweepTurnWrong : ChangeSpec := { name := "sweepTurn", fn := fun _ => fun
  | [d1, d2] => { results := [.lit (.bool false)], args := [d1, d2] }
  | _ => none }
def SweepTurnWrongFalsely : Prop := sweepTurnRow.holds Try.pinned (OpenSpec.ofChange sweepTurnWrong)

/-- 'proctorlaw16.SweepState': WHATEVER THE INPUT: true; the input reads as it did. -/
def sweepStateSpec : ChangeSpec := { name := "sweepState", fn := fun _ => fun
  | [d] => { results := [.lit (.bool true)], args := [d] }
  | _ => none }
def sweepStateRow : OpenClaim := { program := "ytlioccfedophhaa", sum := "e67b51ee389104e707aadd960f8f7f5e335993a96c65c7c0228109de3b7da2d6", func := "proctor/proctorlaw16.SweepState", spec := "sweepState", unfollowed := true, recurses := true, apart := false }
def SweepStateSaid : Prop := sweepStateRow.holds Try.pinned (OpenSpec.ofChange sweepStateSpec)

/-- ITS FALSE NEIGHBOUR: 'it returns false'. Refute it at one input. -/
def sweepStateWrong : ChangeSpec := { name := "sweepState", fn := fun _ => fun
  | [d] => { results := [.lit (.bool false)], args := [d] }
  | _ => none }
def SweepStateWrongFalsely : Prop := sweepStateRow.holds Try.pinned (OpenSpec.ofChange sweepStateWrong)

/-- 'proctorlaw16.SweepPruned': WHATEVER THE INPUT: true; the input reads as it did. -/
def sweepPrunedSpec : ChangeSpec := { name := "sweepPruned", fn := fun _ => fun
  | [d] => { results := [.lit (.bool true)], args := [d] }
  | _ => none }
def sweepPrunedRow : OpenClaim := { program := "ytlioccfedophhaa", sum := "e67b51ee389104e707aadd960f8f7f5e335993a96c65c7c0228109de3b7da2d6", func := "proctor/proctorlaw16.SweepPruned", spec := "sweepPruned", unfollowed := true, recurses := true, apart := false }
def SweepPrunedSaid : Prop := sweepPrunedRow.holds Try.pinned (OpenSpec.ofChange sweepPrunedSpec)

/-- ITS FALSE NEIGHBOUR: 'it returns false'. Refute it at one input. -/
def sweepPrunedWrong : ChangeSpec := { name := "sweepPruned", fn := fun _ => fun
  | [d] => { results := [.lit (.bool false)], args := [d] }
  | _ => none }
def SweepPrunedWrongFalsely : Prop := sweepPrunedRow.holds Try.pinned (OpenSpec.ofChange sweepPrunedWrong)

/- THE SECOND FORM. 'bulk': how many values and letters a reading holds, each counted each time it is reached (what is shared counts as often as it is met; a slice's spare places count too). A statement '..UptoSaid' is the law's where the arguments, and the package variables that the reading takes, are together of bulk at most 1048576: NARROWER than '..Said'. Prove '..Said' where nothing that the law and all that it calls make is longer than what came in: it says more and counts as full. Else prove '..UptoSaid'. A law counts once. -/
mutual
def uptoBulk {H : Type} : DataW H → Nat
  | .lit (.string bytes) => bytes.length + 1
  | .lit _ => 1
  | .nil => 1
  | .ptr d => uptoBulk d + 1
  | .slice elems spare => uptoBulkAll elems + uptoBulkAll spare + 1
  | .agg parts => uptoBulkAll parts + 1
  | .iface _ d => uptoBulk d + 1
  | .map entries => uptoBulkEntries entries + 1
  | .held _ => 1
def uptoBulkAll {H : Type} : List (DataW H) → Nat
  | [] => 0
  | d :: r => uptoBulk d + uptoBulkAll r
def uptoBulkEntries {H : Type} : List (Lit × DataW H) → Nat
  | [] => 0
  | x :: r => uptoBulkEntry x + uptoBulkEntries r
def uptoBulkEntry {H : Type} : Lit × DataW H → Nat
  | (.string bytes, d) => bytes.length + uptoBulk d + 1
  | (_, d) => uptoBulk d + 1
 end
def uptoSmall : (H : Type) → List (DataW H) → Bool := fun _ ds => decide (uptoBulkAll ds ≤ 1048576)
def OpenSpec.upto (s : _root_.Go.ChangeSpec) : _root_.Go.OpenSpec := { _root_.Go.OpenSpec.ofChange s with cond := some uptoSmall }

/-- 'proctorlaw16.SweepMemory', WHERE WHAT IT READS IS OF BULK AT MOST 1048576: true; the input reads as it did. -/
def sweepMemoryUptoRow : OpenClaim := { program := "ytlioccfedophhaa", sum := "e67b51ee389104e707aadd960f8f7f5e335993a96c65c7c0228109de3b7da2d6", func := "proctor/proctorlaw16.SweepMemory", spec := "sweepMemory", unfollowed := true, recurses := true, apart := false, narrowed := true }
def SweepMemoryUptoSaid : Prop := sweepMemoryUptoRow.holds Try.pinned (OpenSpec.upto sweepMemorySpec)

/-- 'proctorlaw16.SweepWhole', WHERE WHAT IT READS IS OF BULK AT MOST 1048576: true; the input reads as it did. -/
def sweepWholeUptoRow : OpenClaim := { program := "ytlioccfedophhaa", sum := "e67b51ee389104e707aadd960f8f7f5e335993a96c65c7c0228109de3b7da2d6", func := "proctor/proctorlaw16.SweepWhole", spec := "sweepWhole", unfollowed := true, recurses := true, apart := false, narrowed := true }
def SweepWholeUptoSaid : Prop := sweepWholeUptoRow.holds Try.pinned (OpenSpec.upto sweepWholeSpec)

/-- 'proctorlaw16.SweepTrue', WHERE WHAT IT READS IS OF BULK AT MOST 1048576: true; the input reads as it did. -/
def sweepTrueUptoRow : OpenClaim := { program := "ytlioccfedophhaa", sum := "e67b51ee389104e707aadd960f8f7f5e335993a96c65c7c0228109de3b7da2d6", func := "proctor/proctorlaw16.SweepTrue", spec := "sweepTrue", unfollowed := true, recurses := true, apart := false, narrowed := true }
def SweepTrueUptoSaid : Prop := sweepTrueUptoRow.holds Try.pinned (OpenSpec.upto sweepTrueSpec)

/-- 'proctorlaw16.SweepConflicts', WHERE WHAT IT READS IS OF BULK AT MOST 1048576: true; the input reads as it did. -/
def sweepConflictsUptoRow : OpenClaim := { program := "ytlioccfedophhaa", sum := "e67b51ee389104e707aadd960f8f7f5e335993a96c65c7c0228109de3b7da2d6", func := "proctor/proctorlaw16.SweepConflicts", spec := "sweepConflicts", unfollowed := true, recurses := true, apart := false, narrowed := true }
def SweepConflictsUptoSaid : Prop := sweepConflictsUptoRow.holds Try.pinned (OpenSpec.upto sweepConflictsSpec)

/-- 'proctorlaw16.SweepTurn', WHERE WHAT IT READS IS OF BULK AT MOST 1048576: true; the input reads as it did. -/
def sweepTurnUptoRow : OpenClaim := { program := "ytlioccfedophhaa", sum := "e67b51ee389104e707aadd960f8f7f5e335993a96c65c7c0228109de3b7da2d6", func := "proctor/proctorlaw16.SweepTurn", spec := "sweepTurn", unfollowed := true, recurses := true, apart := false, narrowed := true }
def SweepTurnUptoSaid : Prop := sweepTurnUptoRow.holds Try.pinned (OpenSpec.upto sweepTurnSpec)

/-- 'proctorlaw16.SweepState', WHERE WHAT IT READS IS OF BULK AT MOST 1048576: true; the input reads as it did. -/
def sweepStateUptoRow : OpenClaim := { program := "ytlioccfedophhaa", sum := "e67b51ee389104e707aadd960f8f7f5e335993a96c65c7c0228109de3b7da2d6", func := "proctor/proctorlaw16.SweepState", spec := "sweepState", unfollowed := true, recurses := true, apart := false, narrowed := true }
def SweepStateUptoSaid : Prop := sweepStateUptoRow.holds Try.pinned (OpenSpec.upto sweepStateSpec)

/-- 'proctorlaw16.SweepPruned', WHERE WHAT IT READS IS OF BULK AT MOST 1048576: true; the input reads as it did. -/
def sweepPrunedUptoRow : OpenClaim := { program := "ytlioccfedophhaa", sum := "e67b51ee389104e707aadd960f8f7f5e335993a96c65c7c0228109de3b7da2d6", func := "proctor/proctorlaw16.SweepPruned", spec := "sweepPruned", unfollowed := true, recurses := true, apart := false, narrowed := true }
def SweepPrunedUptoSaid : Prop := sweepPrunedUptoRow.holds Try.pinned (OpenSpec.upto sweepPrunedSpec)

end Rows
end Go.Proofs.Ytlioccfedophhaa
