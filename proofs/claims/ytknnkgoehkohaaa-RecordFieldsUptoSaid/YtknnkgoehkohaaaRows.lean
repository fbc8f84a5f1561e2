/-
  No cell of these rows narrows 'for every input' (looked for: loops, veiled, ifaces, maps, wideKeys, modest, calm, conditions, laid).
  DERIVED. THE GIVEN ROWS OF THIS SEAT. 8 by the template 'for every input the law returns true; each argument reads behind the call as it read before'; 0 by the template 'total and deterministic' (their statements: YtknnkgoehkohaaaTotals.lean).
  GIVEN WITH THE SEED: the statements are not yours to turn. If you find one false, say at which input.
  Laid BY PROGRAM, IN A SANDBOX (cutbox-rows.mjs): the forced cells as the released guide's own fill.sh prints them over the translation 73b07eaf715cd9d3… (all of the seat's roots in one cut). By AI agents, Wed Nov 11 2026. No macro, syntax, notation, axiom, sorry.
-/
import Derived.Test.YtknnkgoehkohaaaChecked
import GoSem.Claim
import GoSem.ClaimJoined
import GoSem.ClaimMapViews
import Derived.JoinedTies
import Derived.KernelRfl
namespace Go.Proofs.Ytknnkgoehkohaaa
/- THE CELL 'sum', in the pinned program and in every row, IS THE sha256 OF THE DUMP (.gsa) THAT YtknnkgoehkohaaaProg.lean LOADS. Nothing in Lean hashes anything: it is a label: what it is worth is what the hold of that sum in a sandbox is worth. -/
noncomputable def Try.pinned : Pinned := { name := "ytknnkgoehkohaaa", sum := "73b07eaf715cd9d32ce11a91cc0073c5a498086e4991cf84d35570c414f131a9", checked := Try.checked }
namespace Rows
def none {H : Type} : Left H := { results := [], args := [] }

/-- 'proctorlaw06.RecordDecodes': WHATEVER THE INPUT: true; the input reads as it did. -/
def recordDecodesSpec : ChangeSpec := { name := "recordDecodes", fn := fun _ => fun
  | [d] => { results := [.lit (.bool true)], args := [d] }
  | _ => none }
def recordDecodesRow : OpenClaim := { program := "ytknnkgoehkohaaa", sum := "73b07eaf715cd9d32ce11a91cc0073c5a498086e4991cf84d35570c414f131a9", func := "proctor/proctorlaw06.RecordDecodes", spec := "recordDecodes", unfollowed := true, recurses := true, apart := false }
def RecordDecodesSaid : Prop := recordDecodesRow.holds Try.pinned (OpenSpec.ofChange recordDecodesSpec)

/-- ITS FALSE NEIGHBOUR: 'it returns false'. Refute it at one input. -/
def recordDecodesWrong : ChangeSpec := { name := "recordDecodes", fn := fun _ => fun
  | [d] => { results := [.lit (.bool false)], args := [d] }
  | _ => none }
def RecordDecodesWrongFalsely : Prop := recordDecodesRow.holds Try.pinned (OpenSpec.ofChange recordDecodesWrong)

/-- 'proctorlaw06.RecordBack': WHATEVER THE INPUT: true; the input reads as it did. -/
def recordBackSpec : ChangeSpec := { name := "recordBack", fn := fun _ => fun
  | [d] => { results := [.lit (.bool true)], args := [d] }
  | _ => none }
def recordBackRow : OpenClaim := { program := "ytknnkgoehkohaaa", sum := "73b07eaf715cd9d32ce11a91cc0073c5a498086e4991cf84d35570c414f131a9", func := "proctor/proctorlaw06.RecordBack", spec := "recordBack", unfollowed := true, recurses := true, apart := false }
def RecordBackSaid : Prop := recordBackRow.holds Try.pinned (OpenSpec.ofChange recordBackSpec)

/-- ITS FALSE NEIGHBOUR: 'it returns false'. Refute it at one input. -/
def recordBackWrong : ChangeSpec := { name := "recordBack", fn := fun _ => fun
  | [d] => { results := [.lit (.bool false)], args := [d] }
  | _ => none }
def RecordBackWrongFalsely : Prop := recordBackRow.holds Try.pinned (OpenSpec.ofChange recordBackWrong)

/-- 'proctorlaw06.RecordCut': WHATEVER THE INPUT: true; the input reads as it did. -/
def recordCutSpec : ChangeSpec := { name := "recordCut", fn := fun _ => fun
  | [d1, d2, d3] => { results := [.lit (.bool true)], args := [d1, d2, d3] }
  | _ => none }
def recordCutRow : OpenClaim := { program := "ytknnkgoehkohaaa", sum := "73b07eaf715cd9d32ce11a91cc0073c5a498086e4991cf84d35570c414f131a9", func := "proctor/proctorlaw06.RecordCut", spec := "recordCut", unfollowed := true, recurses := true, apart := false }
def RecordCutSaid : Prop := recordCutRow.holds Try.pinned (OpenSpec.ofChange recordCutSpec)

/-- ITS FALSE NEIGHBOUR: 'it returns false'. Refute it at one input. -/
def recordCutWrong : ChangeSpec := { name := "recordCut", fn := fun _ => fun
  | [d1, d2, d3] => { results := [.lit (.bool false)], args := [d1, d2, d3] }
  | _ => none }
def RecordCutWrongFalsely : Prop := recordCutRow.holds Try.pinned (OpenSpec.ofChange recordCutWrong)

/-- 'proctorlaw06.RecordPlace': WHATEVER THE INPUT: true; the input reads as it did. -/
def recordPlaceSpec : ChangeSpec := { name := "recordPlace", fn := fun _ => fun
  | [d1, d2] => { results := [.lit (.bool true)], args := [d1, d2] }
  | _ => none }
def recordPlaceRow : OpenClaim := { program := "ytknnkgoehkohaaa", sum := "73b07eaf715cd9d32ce11a91cc0073c5a498086e4991cf84d35570c414f131a9", func := "proctor/proctorlaw06.RecordPlace", spec := "recordPlace", unfollowed := true, recurses := true, apart := false }
def RecordPlaceSaid : Prop := recordPlaceRow.holds Try.pinned (OpenSpec.ofChange recordPlaceSpec)

/-- ITS FALSE NEIGHBOUR: 'it returns false'. Refute it at one input. -/
def recordPlaceWrong : ChangeSpec := { name := "recordPlace", fn := fun _ => fun
  | [d1, d2] => { results := [.lit (.bool false)], args := [d1, d2] }
  | _ => none }
def RecordPlaceWrongFalsely : Prop := recordPlaceRow.holds Try.pinned (OpenSpec.ofChange recordPlaceWrong)

/-- 'proctorlaw06.RecordFields': WHATEVER THE INPUT: true; the input reads as it did. -/
def recordFieldsSpec : ChangeSpec := { name := "recordFields", fn := fun _ => fun
  | [d1, d2] => { results := [.lit (.bool true)], args := [d1, d2] }
  | _ => none }
def recordFieldsRow : OpenClaim := { program := "ytknnkgoehkohaaa", sum := "73b07eaf715cd9d32ce11a91cc0073c5a498086e4991cf84d35570c414f131a9", func := "proctor/proctorlaw06.RecordFields", spec := "recordFields", unfollowed := true, recurses := true, apart := false }
def RecordFieldsSaid : Prop := recordFieldsRow.holds Try.pinned (OpenSpec.ofChange recordFieldsSpec)

/-- ITS FALSE NEIGHBOUR: 'it returns false'. Refute it at one input. -/
def recordFieldsWrong : ChangeSpec := { name := "recordFields", fn := fun _ => fun
  | [d1, d2] => { results := [.lit (.bool false)], args := [d1, d2] }
  | _ => none }
def RecordFieldsWrongFalsely : Prop := recordFieldsRow.holds Try.pinned (OpenSpec.ofChange recordFieldsWrong)

/-- 'proctorlaw06.RecordMemory': WHATEVER THE INPUT: true; the input reads as it did. -/
def recordMemorySpec : ChangeSpec := { name := "recordMemory", fn := fun _ => fun
  | [d] => { results := [.lit (.bool true)], args := [d] }
  | _ => none }
def recordMemoryRow : OpenClaim := { program := "ytknnkgoehkohaaa", sum := "73b07eaf715cd9d32ce11a91cc0073c5a498086e4991cf84d35570c414f131a9", func := "proctor/proctorlaw06.RecordMemory", spec := "recordMemory", unfollowed := true, recurses := true, apart := false }
def RecordMemorySaid : Prop := recordMemoryRow.holds Try.pinned (OpenSpec.ofChange recordMemorySpec)

/-- ITS FALSE NEIGHBOUR: 'it returns false'. Refute it at one input. -/
def recordMemoryWrong : ChangeSpec := { name := "recordMemory", fn := fun _ => fun
  | [d] => { results := [.lit (.bool false)], args := [d] }
  | _ => none }
def RecordMemoryWrongFalsely : Prop := recordMemoryRow.holds Try.pinned (OpenSpec.ofChange recordMemoryWrong)

/-- 'proctorlaw06.RecordEncodes': WHATEVER THE INPUT: true; the input reads as it did. -/
def recordEncodesSpec : ChangeSpec := { name := "recordEncodes", fn := fun _ => fun
  | [d] => { results := [.lit (.bool true)], args := [d] }
  | _ => none }
def recordEncodesRow : OpenClaim := { program := "ytknnkgoehkohaaa", sum := "73b07eaf715cd9d32ce11a91cc0073c5a498086e4991cf84d35570c414f131a9", func := "proctor/proctorlaw06.RecordEncodes", spec := "recordEncodes", unfollowed := true, recurses := true, apart := false }
def RecordEncodesSaid : Prop := recordEncodesRow.holds Try.pinned (OpenSpec.ofChange recordEncodesSpec)

/-- ITS FALSE NEIGHBOUR: 'it returns false'. Refute it at one input. -/
def recordEncodesWrong : ChangeSpec := { name := "recordEncodes", fn := fun _ => fun
  | [d] => { results := [.lit (.bool false)], args := [d] }
  | _ => none }
def RecordEncodesWrongFalsely : Prop := recordEncodesRow.holds Try.pinned (OpenSpec.ofChange recordEncodesWrong)

/-- 'proctorlaw06.RecordOne': WHATEVER THE INPUT: true; the input reads as it did. -/
def recordOneSpec : ChangeSpec := { name := "recordOne", fn := fun _ => fun
  | [d] => { results := [.lit (.bool true)], args := [d] }
  | _ => none }
def recordOneRow : OpenClaim := { program := "ytknnkgoehkohaaa", sum := "73b07eaf715cd9d32ce11a91cc0073c5a498086e4991cf84d35570c414f131a9", func := "proctor/proctorlaw06.RecordOne", spec := "recordOne", unfollowed := true, recurses := true, apart := false }
def RecordOneSaid : Prop := recordOneRow.holds Try.pinned (OpenSpec.ofChange recordOneSpec)

/-- ITS FALSE NEIGHBOUR: 'it returns false'. Refute it at one input. -/
def recordOneWrong : ChangeSpec := { name := "recordOne", fn := fun _ => fun
  | [d] => { results := [.lit (.bool false)], args := [d] }
  | _ => none }
def RecordOneWrongFalsely : Prop := recordOneRow.holds Try.pinned (OpenSpec.ofChange recordOneWrong)

/- THE SECOND FORM. 'bulk': how many values and letters a reading holds, each counted each time it is reached (what is shared counts as often as it is met; a slice's spare places count too). A statement '..UptoSaid' is the law's where the arguments, and the package variables that the reading takes, are together of bulk at most 1048576: NARROWER than '..Said'. Prove '..Said' where nothing that the law and all that it calls make is longer than what came in: it says more and counts as full. Else prove '..UptoSaid'. A law counts once. -/
mutual
def uptoBulk {H : Type} : DataW H → Nat
  | .lit (.string bytes) => bytes.length + 1
  | .lit _ => 1
  | .nil => 1
  | .ptr d => uptoBulk d + 1
  | .slice elems spare => uptoBulkAll elems + uptoBulkAll spare + 1
  | .agg parts => uptoBulkAll parts + 1
  | .iface _ d => uptoBulk d + 1
  | .map entries => uptoBulkEntries entries + 1
  | .held _ => 1
def uptoBulkAll {H : Type} : List (DataW H) → Nat
  | [] => 0
  | d :: r => uptoBulk d + uptoBulkAll r
def uptoBulkEntries {H : Type} : List (Lit × DataW H) → Nat
  | [] => 0
  | x :: r => uptoBulkEntry x + uptoBulkEntries r
def uptoBulkEntry {H : Type} : Lit × DataW H → Nat
  | (.string bytes, d) => bytes.length + uptoBulk d + 1
  | (_, d) => uptoBulk d + 1
 end
def uptoSmall : (H : Type) → List (DataW H) → Bool := fun _ ds => decide (uptoBulkAll ds ≤ 1048576)
def OpenSpec.upto (s : _root_.Go.ChangeSpec) : _root_.Go.OpenSpec := { _root_.Go.OpenSpec.ofChange s with cond := some uptoSmall }

/-- 'proctorlaw06.RecordDecodes', WHERE WHAT IT READS IS OF BULK AT MOST 1048576: true; the input reads as it did. -/
def recordDecodesUptoRow : OpenClaim := { program := "ytknnkgoehkohaaa", sum := "73b07eaf715cd9d32ce11a91cc0073c5a498086e4991cf84d35570c414f131a9", func := "proctor/proctorlaw06.RecordDecodes", spec := "recordDecodes", unfollowed := true, recurses := true, apart := false, narrowed := true }
def RecordDecodesUptoSaid : Prop := recordDecodesUptoRow.holds Try.pinned (OpenSpec.upto recordDecodesSpec)

/-- 'proctorlaw06.RecordBack', WHERE WHAT IT READS IS OF BULK AT MOST 1048576: true; the input reads as it did. -/
def recordBackUptoRow : OpenClaim := { program := "ytknnkgoehkohaaa", sum := "73b07eaf715cd9d32ce11a91cc0073c5a498086e4991cf84d35570c414f131a9", func := "proctor/proctorlaw06.RecordBack", spec := "recordBack", unfollowed := true, recurses := true, apart := false, narrowed := true }
def RecordBackUptoSaid : Prop := recordBackUptoRow.holds Try.pinned (OpenSpec.upto recordBackSpec)

/-- 'proctorlaw06.RecordCut', WHERE WHAT IT READS IS OF BULK AT MOST 1048576: true; the input reads as it did. -/
def recordCutUptoRow : OpenClaim := { program := "ytknnkgoehkohaaa", sum := "73b07eaf715cd9d32ce11a91cc0073c5a498086e4991cf84d35570c414f131a9", func := "proctor/proctorlaw06.RecordCut", spec := "recordCut", unfollowed := true, recurses := true, apart := false, narrowed := true }
def RecordCutUptoSaid : Prop := recordCutUptoRow.holds Try.pinned (OpenSpec.upto recordCutSpec)

/-- 'proctorlaw06.RecordPlace', WHERE WHAT IT READS IS OF BULK AT MOST 1048576: true; the input reads as it did. -/
def recordPlaceUptoRow : OpenClaim := { program := "ytknnkgoehkohaaa", sum := "73b07eaf715cd9d32ce11a91cc0073c5a498086e4991cf84d35570c414f131a9", func := "proctor/proctorlaw06.RecordPlace", spec := "recordPlace", unfollowed := true, recurses := true, apart := false, narrowed := true }
def RecordPlaceUptoSaid : Prop := recordPlaceUptoRow.holds Try.pinned (OpenSpec.upto recordPlaceSpec)

/-- 'proctorlaw06.RecordFields', WHERE WHAT IT READS IS OF BULK AT MOST 1048576: true; the input reads as it did. -/
def recordFieldsUptoRow : OpenClaim := { program := "ytknnkgoehkohaaa", sum := "73b07eaf715cd9d32ce11a91cc0073c5a498086e4991cf84d35570c414f131a9", func := "proctor/proctorlaw06.RecordFields", spec := "recordFields", unfollowed := true, recurses := true, apart := false, narrowed := true }
def RecordFieldsUptoSaid : Prop := recordFieldsUptoRow.holds Try.pinned (OpenSpec.upto recordFieldsSpec)

/-- 'proctorlaw06.RecordMemory', WHERE WHAT IT READS IS OF BULK AT MOST 1048576: true; the input reads as it did. -/
def recordMemoryUptoRow : OpenClaim := { program := "ytknnkgoehkohaaa", sum := "73b07eaf715cd9d32ce11a91cc0073c5a498086e4991cf84d35570c414f131a9", func := "proctor/proctorlaw06.RecordMemory", spec := "recordMemory", unfollowed := true, recurses := true, apart := false, narrowed := true }
def RecordMemoryUptoSaid : Prop := recordMemoryUptoRow.holds Try.pinned (OpenSpec.upto recordMemorySpec)

/-- 'proctorlaw06.RecordEncodes', WHERE WHAT IT READS IS OF BULK AT MOST 1048576: true; the input reads as it did. -/
def recordEncodesUptoRow : OpenClaim := { program := "ytknnkgoehkohaaa", sum := "73b07eaf715cd9d32ce11a91cc0073c5a498086e4991cf84d35570c414f131a9", func := "proctor/proctorlaw06.RecordEncodes", spec := "recordEncodes", unfollowed := true, recurses := true, apart := false, narrowed := true }
def RecordEncodesUptoSaid : Prop := recordEncodesUptoRow.holds Try.pinned (OpenSpec.upto recordEncodesSpec)

/-- 'proctorlaw06.RecordOne', WHERE WHAT IT READS IS OF BULK AT MOST 1048576: true; the input reads as it did. -/
def recordOneUptoRow : OpenClaim := { program := "ytknnkgoehkohaaa", sum := "73b07eaf715cd9d32ce11a91cc0073c5a498086e4991cf84d35570c414f131a9", func := "proctor/proctorlaw06.RecordOne", spec := "recordOne", unfollowed := true, recurses := true, apart := false, narrowed := true }
def RecordOneUptoSaid : Prop := recordOneUptoRow.holds Try.pinned (OpenSpec.upto recordOneSpec)

end Rows
end Go.Proofs.Ytknnkgoehkohaaa
