/-
  No cell of these rows narrows 'for every input' (looked for: loops, veiled, ifaces, maps, wideKeys, modest, calm, conditions, laid).
  DERIVED. THE GIVEN ROWS OF THIS SEAT. 7 by the template 'for every input the law returns true; each argument reads behind the call as it read before'; 0 by the template 'total and deterministic' (their statements: YtajfpekogoggaaaTotals.lean).
  GIVEN WITH THE SEED: the statements are not yours to turn. If you find one false, say at which input.
  Laid BY PROGRAM, IN A SANDBOX (cutbox-rows.mjs): the forced cells as the released guide's own fill.sh prints them over the translation 9bf4b46d5cf9c3f8… (all of the seat's roots in one cut). By AI agents, Wed Nov 11 2026. No macro, syntax, notation, axiom, sorry.
-/
import Derived.Test.YtajfpekogoggaaaChecked
import GoSem.Claim
import GoSem.ClaimJoined
import GoSem.ClaimMapViews
import Derived.JoinedTies
import Derived.KernelRfl
namespace Go.Proofs.Ytajfpekogoggaaa
/- THE CELL 'sum', in the pinned program and in every row, IS THE sha256 OF THE DUMP (.gsa) THAT YtajfpekogoggaaaProg.lean LOADS. Nothing in Lean hashes anything: it is a label: what it is worth is what the hold of that sum in a sandbox is worth. -/
noncomputable def Try.pinned : Pinned := { name := "ytajfpekogoggaaa", sum := "9bf4b46d5cf9c3f85ac1d8cbc8577683217d4dfa462bdffb51c62662b9b61277", checked := Try.checked }
namespace Rows
def none {H : Type} : Left H := { results := [], args := [] }

/-- 'proctorlaw09.RowsDecodes': WHATEVER THE INPUT: true; the input reads as it did. -/
def rowsDecodesSpec : ChangeSpec := { name := "rowsDecodes", fn := fun _ => fun
  | [d] => { results := [.lit (.bool true)], args := [d] }
  | _ => none }
def rowsDecodesRow : OpenClaim := { program := "ytajfpekogoggaaa", sum := "9bf4b46d5cf9c3f85ac1d8cbc8577683217d4dfa462bdffb51c62662b9b61277", func := "proctor/proctorlaw09.RowsDecodes", spec := "rowsDecodes", apart := false }
def RowsDecodesSaid : Prop := rowsDecodesRow.holds Try.pinned (OpenSpec.ofChange rowsDecodesSpec)

/-- ITS FALSE NEIGHBOUR: 'it returns false'. Refute it at one input. -/
def rowsDecodesWrong : ChangeSpec := { name := "rowsDecodes", fn := fun _ => fun
  | [d] => { results := [.lit (.bool false)], args := [d] }
  | _ => none }
def RowsDecodesWrongFalsely : Prop := rowsDecodesRow.holds Try.pinned (OpenSpec.ofChange rowsDecodesWrong)

/-- 'proctorlaw09.RowsOne': WHATEVER THE INPUT: true; the input reads as it did. -/
def rowsOneSpec : ChangeSpec := { name := "rowsOne", fn := fun _ => fun
  | [d] => { results := [.lit (.bool true)], args := [d] }
  | _ => none }
def rowsOneRow : OpenClaim := { program := "ytajfpekogoggaaa", sum := "9bf4b46d5cf9c3f85ac1d8cbc8577683217d4dfa462bdffb51c62662b9b61277", func := "proctor/proctorlaw09.RowsOne", spec := "rowsOne", apart := false }
def RowsOneSaid : Prop := rowsOneRow.holds Try.pinned (OpenSpec.ofChange rowsOneSpec)

/-- ITS FALSE NEIGHBOUR: 'it returns false'. Refute it at one input. -/
def rowsOneWrong : ChangeSpec := { name := "rowsOne", fn := fun _ => fun
  | [d] => { results := [.lit (.bool false)], args := [d] }
  | _ => none }
def RowsOneWrongFalsely : Prop := rowsOneRow.holds Try.pinned (OpenSpec.ofChange rowsOneWrong)

/-- 'proctorlaw09.RowsEncodes': WHATEVER THE INPUT: true; the input reads as it did. -/
def rowsEncodesSpec : ChangeSpec := { name := "rowsEncodes", fn := fun _ => fun
  | [d] => { results := [.lit (.bool true)], args := [d] }
  | _ => none }
def rowsEncodesRow : OpenClaim := { program := "ytajfpekogoggaaa", sum := "9bf4b46d5cf9c3f85ac1d8cbc8577683217d4dfa462bdffb51c62662b9b61277", func := "proctor/proctorlaw09.RowsEncodes", spec := "rowsEncodes", apart := false }
def RowsEncodesSaid : Prop := rowsEncodesRow.holds Try.pinned (OpenSpec.ofChange rowsEncodesSpec)

/-- ITS FALSE NEIGHBOUR: 'it returns false'. Refute it at one input. -/
def rowsEncodesWrong : ChangeSpec := { name := "rowsEncodes", fn := fun _ => fun
  | [d] => { results := [.lit (.bool false)], args := [d] }
  | _ => none }
def RowsEncodesWrongFalsely : Prop := rowsEncodesRow.holds Try.pinned (OpenSpec.ofChange rowsEncodesWrong)

/-- 'proctorlaw09.RowsBack': WHATEVER THE INPUT: true; the input reads as it did. -/
def rowsBackSpec : ChangeSpec := { name := "rowsBack", fn := fun _ => fun
  | [d1, d2] => { results := [.lit (.bool true)], args := [d1, d2] }
  | _ => none }
def rowsBackRow : OpenClaim := { program := "ytajfpekogoggaaa", sum := "9bf4b46d5cf9c3f85ac1d8cbc8577683217d4dfa462bdffb51c62662b9b61277", func := "proctor/proctorlaw09.RowsBack", spec := "rowsBack", apart := false }
def RowsBackSaid : Prop := rowsBackRow.holds Try.pinned (OpenSpec.ofChange rowsBackSpec)

/-- ITS FALSE NEIGHBOUR: 'it returns false'. Refute it at one input. -/
def rowsBackWrong : ChangeSpec := { name := "rowsBack", fn := fun _ => fun
  | [d1, d2] => { results := [.lit (.bool false)], args := [d1, d2] }
  | _ => none }
def RowsBackWrongFalsely : Prop := rowsBackRow.holds Try.pinned (OpenSpec.ofChange rowsBackWrong)

/-- 'proctorlaw09.RowsCompare': WHATEVER THE INPUT: true; the input reads as it did. -/
def rowsCompareSpec : ChangeSpec := { name := "rowsCompare", fn := fun _ => fun
  | [d1, d2, d3] => { results := [.lit (.bool true)], args := [d1, d2, d3] }
  | _ => none }
def rowsCompareRow : OpenClaim := { program := "ytajfpekogoggaaa", sum := "9bf4b46d5cf9c3f85ac1d8cbc8577683217d4dfa462bdffb51c62662b9b61277", func := "proctor/proctorlaw09.RowsCompare", spec := "rowsCompare", apart := false }
def RowsCompareSaid : Prop := rowsCompareRow.holds Try.pinned (OpenSpec.ofChange rowsCompareSpec)

/-- ITS FALSE NEIGHBOUR: 'it returns false'. Refute it at one input. -/
def rowsCompareWrong : ChangeSpec := { name := "rowsCompare", fn := fun _ => fun
  | [d1, d2, d3] => { results := [.lit (.bool false)], args := [d1, d2, d3] }
  | _ => none }
def RowsCompareWrongFalsely : Prop := rowsCompareRow.holds Try.pinned (OpenSpec.ofChange rowsCompareWrong)

/-- 'proctorlaw09.RowsChain': WHATEVER THE INPUT: true; the input reads as it did. -/
def rowsChainSpec : ChangeSpec := { name := "rowsChain", fn := fun _ => fun
  | [d1, d2, d3, d4] => { results := [.lit (.bool true)], args := [d1, d2, d3, d4] }
  | _ => none }
def rowsChainRow : OpenClaim := { program := "ytajfpekogoggaaa", sum := "9bf4b46d5cf9c3f85ac1d8cbc8577683217d4dfa462bdffb51c62662b9b61277", func := "proctor/proctorlaw09.RowsChain", spec := "rowsChain", apart := false }
def RowsChainSaid : Prop := rowsChainRow.holds Try.pinned (OpenSpec.ofChange rowsChainSpec)

/-- ITS FALSE NEIGHBOUR: 'it returns false'. Refute it at one input. -/
def rowsChainWrong : ChangeSpec := { name := "rowsChain", fn := fun _ => fun
  | [d1, d2, d3, d4] => { results := [.lit (.bool false)], args := [d1, d2, d3, d4] }
  | _ => none }
def RowsChainWrongFalsely : Prop := rowsChainRow.holds Try.pinned (OpenSpec.ofChange rowsChainWrong)

/-- 'proctorlaw09.RowsKeys': WHATEVER THE INPUT: true; the input reads as it did. -/
def rowsKeysSpec : ChangeSpec := { name := "rowsKeys", fn := fun _ => fun
  | [d1, d2, d3] => { results := [.lit (.bool true)], args := [d1, d2, d3] }
  | _ => none }
def rowsKeysRow : OpenClaim := { program := "ytajfpekogoggaaa", sum := "9bf4b46d5cf9c3f85ac1d8cbc8577683217d4dfa462bdffb51c62662b9b61277", func := "proctor/proctorlaw09.RowsKeys", spec := "rowsKeys", apart := false }
def RowsKeysSaid : Prop := rowsKeysRow.holds Try.pinned (OpenSpec.ofChange rowsKeysSpec)

/-- ITS FALSE NEIGHBOUR: 'it returns false'. Refute it at one input. -/
def rowsKeysWrong : ChangeSpec := { name := "rowsKeys", fn := fun _ => fun
  | [d1, d2, d3] => { results := [.lit (.bool false)], args := [d1, d2, d3] }
  | _ => none }
def RowsKeysWrongFalsely : Prop := rowsKeysRow.holds Try.pinned (OpenSpec.ofChange rowsKeysWrong)

/- THE SECOND FORM. 'bulk': how many values and letters a reading holds, each counted each time it is reached (what is shared counts as often as it is met; a slice's spare places count too). A statement '..UptoSaid' is the law's where the arguments, and the package variables that the reading takes, are together of bulk at most 1048576: NARROWER than '..Said'. Prove '..Said' where nothing that the law and all that it calls make is longer than what came in: it says more and counts as full. Else prove '..UptoSaid'. A law counts once. -/
mutual
def uptoBulk {H : Type} : DataW H → Nat
  | .lit (.string bytes) => bytes.length + 1
  | .lit _ => 1
  | .nil => 1
  | .ptr d => uptoBulk d + 1
  | .slice elems spare => uptoBulkAll elems + uptoBulkAll spare + 1
  | .agg parts => uptoBulkAll parts + 1
  | .iface _ d => uptoBulk d + 1
  | .map entries => uptoBulkEntries entries + 1
  | .held _ => 1
def uptoBulkAll {H : Type} : List (DataW H) → Nat
  | [] => 0
  | d :: r => uptoBulk d + uptoBulkAll r
def uptoBulkEntries {H : Type} : List (Lit × DataW H) → Nat
  | [] => 0
  | x :: r => uptoBulkEntry x + uptoBulkEntries r
def uptoBulkEntry {H : Type} : Lit × DataW H → Nat
  | (.string bytes, d) => bytes.length + uptoBulk d + 1
  | (_, d) => uptoBulk d + 1
 end
def uptoSmall : (H : Type) → List (DataW H) → Bool := fun _ ds => decide (uptoBulkAll ds ≤ 1048576)
def OpenSpec.upto (s : _root_.Go.ChangeSpec) : _root_.Go.OpenSpec := { _root_.Go.OpenSpec.ofChange s with cond := some uptoSmall }

/-- 'proctorlaw09.RowsDecodes', WHERE WHAT IT READS IS OF BULK AT MOST 1048576: true; the input reads as it did. -/
def rowsDecodesUptoRow : OpenClaim := { program := "ytajfpekogoggaaa", sum := "9bf4b46d5cf9c3f85ac1d8cbc8577683217d4dfa462bdffb51c62662b9b61277", func := "proctor/proctorlaw09.RowsDecodes", spec := "rowsDecodes", apart := false, narrowed := true }
def RowsDecodesUptoSaid : Prop := rowsDecodesUptoRow.holds Try.pinned (OpenSpec.upto rowsDecodesSpec)

/-- 'proctorlaw09.RowsOne', WHERE WHAT IT READS IS OF BULK AT MOST 1048576: true; the input reads as it did. -/
def rowsOneUptoRow : OpenClaim := { program := "ytajfpekogoggaaa", sum := "9bf4b46d5cf9c3f85ac1d8cbc8577683217d4dfa462bdffb51c62662b9b61277", func := "proctor/proctorlaw09.RowsOne", spec := "rowsOne", apart := false, narrowed := true }
def RowsOneUptoSaid : Prop := rowsOneUptoRow.holds Try.pinned (OpenSpec.upto rowsOneSpec)

/-- 'proctorlaw09.RowsEncodes', WHERE WHAT IT READS IS OF BULK AT MOST 1048576: true; the input reads as it did. -/
def rowsEncodesUptoRow : OpenClaim := { program := "ytajfpekogoggaaa", sum := "9bf4b46d5cf9c3f85ac1d8cbc8577683217d4dfa462bdffb51c62662b9b61277", func := "proctor/proctorlaw09.RowsEncodes", spec := "rowsEncodes", apart := false, narrowed := true }
def RowsEncodesUptoSaid : Prop := rowsEncodesUptoRow.holds Try.pinned (OpenSpec.upto rowsEncodesSpec)

/-- 'proctorlaw09.RowsBack', WHERE WHAT IT READS IS OF BULK AT MOST 1048576: true; the input reads as it did. -/
def rowsBackUptoRow : OpenClaim := { program := "ytajfpekogoggaaa", sum := "9bf4b46d5cf9c3f85ac1d8cbc8577683217d4dfa462bdffb51c62662b9b61277", func := "proctor/proctorlaw09.RowsBack", spec := "rowsBack", apart := false, narrowed := true }
def RowsBackUptoSaid : Prop := rowsBackUptoRow.holds Try.pinned (OpenSpec.upto rowsBackSpec)

/-- 'proctorlaw09.RowsCompare', WHERE WHAT IT READS IS OF BULK AT MOST 1048576: true; the input reads as it did. -/
def rowsCompareUptoRow : OpenClaim := { program := "ytajfpekogoggaaa", sum := "9bf4b46d5cf9c3f85ac1d8cbc8577683217d4dfa462bdffb51c62662b9b61277", func := "proctor/proctorlaw09.RowsCompare", spec := "rowsCompare", apart := false, narrowed := true }
def RowsCompareUptoSaid : Prop := rowsCompareUptoRow.holds Try.pinned (OpenSpec.upto rowsCompareSpec)

/-- 'proctorlaw09.RowsChain', WHERE WHAT IT READS IS OF BULK AT MOST 1048576: true; the input reads as it did. -/
def rowsChainUptoRow : OpenClaim := { program := "ytajfpekogoggaaa", sum := "9bf4b46d5cf9c3f85ac1d8cbc8577683217d4dfa462bdffb51c62662b9b61277", func := "proctor/proctorlaw09.RowsChain", spec := "rowsChain", apart := false, narrowed := true }
def RowsChainUptoSaid : Prop := rowsChainUptoRow.holds Try.pinned (OpenSpec.upto rowsChainSpec)

/-- 'proctorlaw09.RowsKeys', WHERE WHAT IT READS IS OF BULK AT MOST 1048576: true; the input reads as it did. -/
def rowsKeysUptoRow : OpenClaim := { program := "ytajfpekogoggaaa", sum := "9bf4b46d5cf9c3f85ac1d8cbc8577683217d4dfa462bdffb51c62662b9b61277", func := "proctor/proctorlaw09.RowsKeys", spec := "rowsKeys", apart := false, narrowed := true }
def RowsKeysUptoSaid : Prop := rowsKeysUptoRow.holds Try.pinned (OpenSpec.upto rowsKeysSpec)

end Rows
end Go.Proofs.Ytajfpekogoggaaa
