/-
  No cell of these rows narrows 'for every input' (looked for: loops, veiled, ifaces, maps, wideKeys, modest, calm, conditions, laid).
  DERIVED. THE GIVEN ROWS OF THIS SEAT. 7 by the template 'for every input the law returns true; each argument reads behind the call as it read before'; 0 by the template 'total and deterministic' (their statements: YtgidabcmbngcbaaTotals.lean).
  GIVEN WITH THE SEED: the statements are not yours to turn. If you find one false, say at which input.
  Laid BY PROGRAM, IN A SANDBOX (cutbox-rows.mjs): the forced cells as the released guide's own fill.sh prints them over the translation bcc51e4b99c18580… (all of the seat's roots in one cut). By AI agents, Wed Nov 11 2026. No macro, syntax, notation, axiom, sorry.
-/
import Derived.Test.YtgidabcmbngcbaaChecked
import GoSem.Claim
import GoSem.ClaimJoined
import GoSem.ClaimMapViews
import Derived.JoinedTies
import Derived.KernelRfl
namespace Go.Proofs.Ytgidabcmbngcbaa
/- THE CELL 'sum', in the pinned program and in every row, IS THE sha256 OF THE DUMP (.gsa) THAT YtgidabcmbngcbaaProg.lean LOADS. Nothing in Lean hashes anything: it is a label: what it is worth is what the hold of that sum in a sandbox is worth. -/
noncomputable def Try.pinned : Pinned := { name := "ytgidabcmbngcbaa", sum := "bcc51e4b99c185804fb802d65f63c80f42433083f34da6c82fff23676cb70b7b", checked := Try.checked }
namespace Rows
def none {H : Type} : Left H := { results := [], args := [] }

/-- 'proctorlaw17.RulesShape': WHATEVER THE INPUT: true; the input reads as it did. -/
def rulesShapeSpec : ChangeSpec := { name := "rulesShape", fn := fun _ => fun
  | [d1, d2, d3] => { results := [.lit (.bool true)], args := [d1, d2, d3] }
  | _ => none }
def rulesShapeRow : OpenClaim := { program := "ytgidabcmbngcbaa", sum := "bcc51e4b99c185804fb802d65f63c80f42433083f34da6c82fff23676cb70b7b", func := "proctor/proctorlaw17.RulesShape", spec := "rulesShape", apart := false }
def RulesShapeSaid : Prop := rulesShapeRow.holds Try.pinned (OpenSpec.ofChange rulesShapeSpec)

/-- ITS FALSE NEIGHBOUR: 'it returns false'. Refute it at one input. -/
def rulesShapeWrong : ChangeSpec := { name := "rulesShape", fn := fun _ => fun
  | [d1, d2, d3] => { results := [.lit (.bool false)], args := [d1, d2, d3] }
  | _ => none }
def RulesShapeWrongFalsely : Prop := rulesShapeRow.holds Try.pinned (OpenSpec.ofChange rulesShapeWrong)

/-- 'proctorlaw17.RulesSkew': WHATEVER THE INPUT: true; the input reads as it did. -/
def rulesSkewSpec : ChangeSpec := { name := "rulesSkew", fn := fun _ => fun
  | [d1, d2, d3, d4] => { results := [.lit (.bool true)], args := [d1, d2, d3, d4] }
  | _ => none }
def rulesSkewRow : OpenClaim := { program := "ytgidabcmbngcbaa", sum := "bcc51e4b99c185804fb802d65f63c80f42433083f34da6c82fff23676cb70b7b", func := "proctor/proctorlaw17.RulesSkew", spec := "rulesSkew", apart := false }
def RulesSkewSaid : Prop := rulesSkewRow.holds Try.pinned (OpenSpec.ofChange rulesSkewSpec)

/-- ITS FALSE NEIGHBOUR: 'it returns false'. Refute it at one input. -/
def rulesSkewWrong : ChangeSpec := { name := "rulesSkew", fn := fun _ => fun
  | [d1, d2, d3, d4] => { results := [.lit (.bool false)], args := [d1, d2, d3, d4] }
  | _ => none }
def RulesSkewWrongFalsely : Prop := rulesSkewRow.holds Try.pinned (OpenSpec.ofChange rulesSkewWrong)

/-- 'proctorlaw17.RulesWalk': WHATEVER THE INPUT: true; the input reads as it did. -/
def rulesWalkSpec : ChangeSpec := { name := "rulesWalk", fn := fun _ => fun
  | [d] => { results := [.lit (.bool true)], args := [d] }
  | _ => none }
def rulesWalkRow : OpenClaim := { program := "ytgidabcmbngcbaa", sum := "bcc51e4b99c185804fb802d65f63c80f42433083f34da6c82fff23676cb70b7b", func := "proctor/proctorlaw17.RulesWalk", spec := "rulesWalk", apart := false }
def RulesWalkSaid : Prop := rulesWalkRow.holds Try.pinned (OpenSpec.ofChange rulesWalkSpec)

/-- ITS FALSE NEIGHBOUR: 'it returns false'. Refute it at one input. -/
def rulesWalkWrong : ChangeSpec := { name := "rulesWalk", fn := fun _ => fun
  | [d] => { results := [.lit (.bool false)], args := [d] }
  | _ => none }
def RulesWalkWrongFalsely : Prop := rulesWalkRow.holds Try.pinned (OpenSpec.ofChange rulesWalkWrong)

/-- 'proctorlaw17.RulesRepeat': WHATEVER THE INPUT: true; the input reads as it did. -/
def rulesRepeatSpec : ChangeSpec := { name := "rulesRepeat", fn := fun _ => fun
  | [d] => { results := [.lit (.bool true)], args := [d] }
  | _ => none }
def rulesRepeatRow : OpenClaim := { program := "ytgidabcmbngcbaa", sum := "bcc51e4b99c185804fb802d65f63c80f42433083f34da6c82fff23676cb70b7b", func := "proctor/proctorlaw17.RulesRepeat", spec := "rulesRepeat", recurses := true, apart := false }
def RulesRepeatSaid : Prop := rulesRepeatRow.holds Try.pinned (OpenSpec.ofChange rulesRepeatSpec)

/-- ITS FALSE NEIGHBOUR: 'it returns false'. Refute it at one input. -/
def rulesRepeatWrong : ChangeSpec := { name := "rulesRepeat", fn := fun _ => fun
  | [d] => { results := [.lit (.bool false)], args := [d] }
  | _ => none }
def RulesRepeatWrongFalsely : Prop := rulesRepeatRow.holds Try.pinned (OpenSpec.ofChange rulesRepeatWrong)

/-- 'proctorlaw17.RulesMachine': WHATEVER THE INPUT: true; the input reads as it did. -/
def rulesMachineSpec : ChangeSpec := { name := "rulesMachine", fn := fun _ => fun
  | [d1, d2, d3, d4] => { results := [.lit (.bool true)], args := [d1, d2, d3, d4] }
  | _ => none }
def rulesMachineRow : OpenClaim := { program := "ytgidabcmbngcbaa", sum := "bcc51e4b99c185804fb802d65f63c80f42433083f34da6c82fff23676cb70b7b", func := "proctor/proctorlaw17.RulesMachine", spec := "rulesMachine", recurses := true, apart := false }
def RulesMachineSaid : Prop := rulesMachineRow.holds Try.pinned (OpenSpec.ofChange rulesMachineSpec)

/-- ITS FALSE NEIGHBOUR: 'it returns false'. Refute it at one input. -/
def rulesMachineWrong : ChangeSpec := { name := "rulesMachine", fn := fun _ => fun
  | [d1, d2, d3, d4] => { results := [.lit (.bool false)], args := [d1, d2, d3, d4] }
  | _ => none }
def RulesMachineWrongFalsely : Prop := rulesMachineRow.holds Try.pinned (OpenSpec.ofChange rulesMachineWrong)

/-- 'proctorlaw17.RulesMemory': WHATEVER THE INPUT: true; the input reads as it did. -/
def rulesMemorySpec : ChangeSpec := { name := "rulesMemory", fn := fun _ => fun
  | [d] => { results := [.lit (.bool true)], args := [d] }
  | _ => none }
def rulesMemoryRow : OpenClaim := { program := "ytgidabcmbngcbaa", sum := "bcc51e4b99c185804fb802d65f63c80f42433083f34da6c82fff23676cb70b7b", func := "proctor/proctorlaw17.RulesMemory", spec := "rulesMemory", apart := false }
def RulesMemorySaid : Prop := rulesMemoryRow.holds Try.pinned (OpenSpec.ofChange rulesMemorySpec)

/-- ITS FALSE NEIGHBOUR: 'it returns false'. Refute it at one input. -/
def rulesMemoryWrong : ChangeSpec := { name := "rulesMemory", fn := fun _ => fun
  | [d] => { results := [.lit (.bool false)], args := [d] }
  | _ => none }
def RulesMemoryWrongFalsely : Prop := rulesMemoryRow.holds Try.pinned (OpenSpec.ofChange rulesMemoryWrong)

/-- 'proctorlaw17.RulesRows': WHATEVER THE INPUT: true; the input reads as it did. -/
def rulesRowsSpec : ChangeSpec := { name := "rulesRows", fn := fun _ => fun
  | [d1, d2] => { results := [.lit (.bool true)], args := [d1, d2] }
  | _ => none }
def rulesRowsRow : OpenClaim := { program := "ytgidabcmbngcbaa", sum := "bcc51e4b99c185804fb802d65f63c80f42433083f34da6c82fff23676cb70b7b", func := "proctor/proctorlaw17.RulesRows", spec := "rulesRows", apart := false }
def RulesRowsSaid : Prop := rulesRowsRow.holds Try.pinned (OpenSpec.ofChange rulesRowsSpec)

/-- ITS FALSE NEIGHBOUR: 'it returns false'. Refute it at one input. -/
def rulesRowsWrong : ChangeSpec := { name := "rulesRows", fn := fun _ => fun
  | [d1, d2] => { results := [.lit (.bool false)], args := [d1, d2] }
  | _ => none }
def RulesRowsWrongFalsely : Prop := rulesRowsRow.holds Try.pinned (OpenSpec.ofChange rulesRowsWrong)

/- THE SECOND FORM. 'bulk': how many values and letters a reading holds, each counted each time it is reached (what is shared counts as often as it is met; a slice's spare places count too). A statement '..UptoSaid' is the law's where the arguments, and the package variables that the reading takes, are together of bulk at most 1048576: NARROWER than '..Said'. Prove '..Said' where nothing that the law and all that it calls make is longer than what came in: it says more and counts as full. Else prove '..UptoSaid'. A law counts once. -/
mutual
def uptoBulk {H : Type} : DataW H → Nat
  | .lit (.string bytes) => bytes.length + 1
  | .lit _ => 1
  | .nil => 1
  | .ptr d => uptoBulk d + 1
  | .slice elems spare => uptoBulkAll elems + uptoBulkAll spare + 1
  | .agg parts => uptoBulkAll parts + 1
  | .iface _ d => uptoBulk d + 1
  | .map entries => uptoBulkEntries entries + 1
  | .held _ => 1
def uptoBulkAll {H : Type} : List (DataW H) → Nat
  | [] => 0
  | d :: r => uptoBulk d + uptoBulkAll r
def uptoBulkEntries {H : Type} : List (Lit × DataW H) → Nat
  | [] => 0
  | x :: r => uptoBulkEntry x + uptoBulkEntries r
def uptoBulkEntry {H : Type} : Lit × DataW H → Nat
  | (.string bytes, d) => bytes.length + uptoBulk d + 1
  | (_, d) => uptoBulk d + 1
 end
def uptoSmall : (H : Type) → List (DataW H) → Bool := fun _ ds => decide (uptoBulkAll ds ≤ 1048576)
def OpenSpec.upto (s : _root_.Go.ChangeSpec) : _root_.Go.OpenSpec := { _root_.Go.OpenSpec.ofChange s with cond := some uptoSmall }

/-- 'proctorlaw17.RulesShape', WHERE WHAT IT READS IS OF BULK AT MOST 1048576: true; the input reads as it did. -/
def rulesShapeUptoRow : OpenClaim := { program := "ytgidabcmbngcbaa", sum := "bcc51e4b99c185804fb802d65f63c80f42433083f34da6c82fff23676cb70b7b", func := "proctor/proctorlaw17.RulesShape", spec := "rulesShape", apart := false, narrowed := true }
def RulesShapeUptoSaid : Prop := rulesShapeUptoRow.holds Try.pinned (OpenSpec.upto rulesShapeSpec)

/-- 'proctorlaw17.RulesSkew', WHERE WHAT IT READS IS OF BULK AT MOST 1048576: true; the input reads as it did. -/
def rulesSkewUptoRow : OpenClaim := { program := "ytgidabcmbngcbaa", sum := "bcc51e4b99c185804fb802d65f63c80f42433083f34da6c82fff23676cb70b7b", func := "proctor/proctorlaw17.RulesSkew", spec := "rulesSkew", apart := false, narrowed := true }
def RulesSkewUptoSaid : Prop := rulesSkewUptoRow.holds Try.pinned (OpenSpec.upto rulesSkewSpec)

/-- 'proctorlaw17.RulesWalk', WHERE WHAT IT READS IS OF BULK AT MOST 1048576: true; the input reads as it did. -/
def rulesWalkUptoRow : OpenClaim := { program := "ytgidabcmbngcbaa", sum := "bcc51e4b99c185804fb802d65f63c80f42433083f34da6c82fff23676cb70b7b", func := "proctor/proctorlaw17.RulesWalk", spec := "rulesWalk", apart := false, narrowed := true }
def RulesWalkUptoSaid : Prop := rulesWalkUptoRow.holds Try.pinned (OpenSpec.upto rulesWalkSpec)

/-- 'proctorlaw17.RulesRepeat', WHERE WHAT IT READS IS OF BULK AT MOST 1048576: true; the input reads as it did. -/
def rulesRepeatUptoRow : OpenClaim := { program := "ytgidabcmbngcbaa", sum := "bcc51e4b99c185804fb802d65f63c80f42433083f34da6c82fff23676cb70b7b", func := "proctor/proctorlaw17.RulesRepeat", spec := "rulesRepeat", recurses := true, apart := false, narrowed := true }
def RulesRepeatUptoSaid : Prop := rulesRepeatUptoRow.holds Try.pinned (OpenSpec.upto rulesRepeatSpec)

/-- 'proctorlaw17.RulesMachine', WHERE WHAT IT READS IS OF BULK AT MOST 1048576: true; the input reads as it did. -/
def rulesMachineUptoRow : OpenClaim := { program := "ytgidabcmbngcbaa", sum := "bcc51e4b99c185804fb802d65f63c80f42433083f34da6c82fff23676cb70b7b", func := "proctor/proctorlaw17.RulesMachine", spec := "rulesMachine", recurses := true, apart := false, narrowed := true }
def RulesMachineUptoSaid : Prop := rulesMachineUptoRow.holds Try.pinned (OpenSpec.upto rulesMachineSpec)

/-- 'proctorlaw17.RulesMemory', WHERE WHAT IT READS IS OF BULK AT MOST 1048576: true; the input reads as it did. -/
def rulesMemoryUptoRow : OpenClaim := { program := "ytgidabcmbngcbaa", sum := "bcc51e4b99c185804fb802d65f63c80f42433083f34da6c82fff23676cb70b7b", func := "proctor/proctorlaw17.RulesMemory", spec := "rulesMemory", apart := false, narrowed := true }
def RulesMemoryUptoSaid : Prop := rulesMemoryUptoRow.holds Try.pinned (OpenSpec.upto rulesMemorySpec)

/-- 'proctorlaw17.RulesRows', WHERE WHAT IT READS IS OF BULK AT MOST 1048576: true; the input reads as it did. -/
def rulesRowsUptoRow : OpenClaim := { program := "ytgidabcmbngcbaa", sum := "bcc51e4b99c185804fb802d65f63c80f42433083f34da6c82fff23676cb70b7b", func := "proctor/proctorlaw17.RulesRows", spec := "rulesRows", apart := false, narrowed := true }
def RulesRowsUptoSaid : Prop := rulesRowsUptoRow.holds Try.pinned (OpenSpec.upto rulesRowsSpec)

end Rows
end Go.Proofs.Ytgidabcmbngcbaa
