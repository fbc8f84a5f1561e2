/-
  No cell of these rows narrows 'for every input' (looked for: loops, veiled, ifaces, maps, wideKeys, modest, calm, conditions, laid).
  DERIVED. THE GIVEN ROWS OF THIS SEAT. 7 by the template 'for every input the law returns true; each argument reads behind the call as it read before'; 0 by the template 'total and deterministic' (their statements: YtjeghbachokljaaTotals.lean).
  GIVEN WITH THE SEED: the statements are not yours to turn. If you find one false, say at which input.
  Laid BY PROGRAM, IN A SANDBOX (cutbox-rows.mjs): the forced cells as the released guide's own fill.sh prints them over the translation 62ad2088d0492eca… (all of the seat's roots in one cut). By AI agents, Wed Nov 11 2026. No macro, syntax, notation, axiom, sorry.
-/
import Derived.Test.YtjeghbachokljaaChecked
import GoSem.Claim
import GoSem.ClaimJoined
import GoSem.ClaimMapViews
import Derived.JoinedTies
import Derived.KernelRfl
namespace Go.Proofs.Ytjeghbachokljaa
/- THE CELL 'sum', in the pinned program and in every row, IS THE sha256 OF THE DUMP (.gsa) THAT YtjeghbachokljaaProg.lean LOADS. Nothing in Lean hashes anything: it is a label: what it is worth is what the hold of that sum in a sandbox is worth. -/
noncomputable def Try.pinned : Pinned := { name := "ytjeghbachokljaa", sum := "62ad2088d0492eca2e089857e2eee561067468d12d8851a788579615f6603164", checked := Try.checked }
namespace Rows
def none {H : Type} : Left H := { results := [], args := [] }

/-- 'proctorlaw14.SpansMemory': WHATEVER THE INPUT: true; the input reads as it did. -/
def spansMemorySpec : ChangeSpec := { name := "spansMemory", fn := fun _ => fun
  | [d] => { results := [.lit (.bool true)], args := [d] }
  | _ => none }
def spansMemoryRow : OpenClaim := { program := "ytjeghbachokljaa", sum := "62ad2088d0492eca2e089857e2eee561067468d12d8851a788579615f6603164", func := "proctor/proctorlaw14.SpansMemory", spec := "spansMemory", unfollowed := true, recurses := true, apart := false }
def SpansMemorySaid : Prop := spansMemoryRow.holds Try.pinned (OpenSpec.ofChange spansMemorySpec)

/-- ITS FALSE NEIGHBOUR: 'it returns false'. Refute it at one input. -/
def spansMemoryWrong : ChangeSpec := { name := "spansMemory", fn := fun _ => fun
  | [d] => { results := [.lit (.bool false)], args := [d] }
  | _ => none }
def SpansMemoryWrongFalsely : Prop := spansMemoryRow.holds Try.pinned (OpenSpec.ofChange spansMemoryWrong)

/-- 'proctorlaw14.SpansHeight': WHATEVER THE INPUT: true; the input reads as it did. -/
def spansHeightSpec : ChangeSpec := { name := "spansHeight", fn := fun _ => fun
  | [d1, d2, d3] => { results := [.lit (.bool true)], args := [d1, d2, d3] }
  | _ => none }
def spansHeightRow : OpenClaim := { program := "ytjeghbachokljaa", sum := "62ad2088d0492eca2e089857e2eee561067468d12d8851a788579615f6603164", func := "proctor/proctorlaw14.SpansHeight", spec := "spansHeight", unfollowed := true, recurses := true, apart := false }
def SpansHeightSaid : Prop := spansHeightRow.holds Try.pinned (OpenSpec.ofChange spansHeightSpec)

/-- ITS FALSE NEIGHBOUR: 'it returns false'. Refute it at one input. -/
def spansHeightWrong : ChangeSpec := { name := "spansHeight", fn := fun _ => fun
  | [d1, d2, d3] => { results := [.lit (.bool false)], args := [d1, d2, d3] }
  | _ => none }
def SpansHeightWrongFalsely : Prop := spansHeightRow.holds Try.pinned (OpenSpec.ofChange spansHeightWrong)

/-- 'proctorlaw14.SpansBounds': WHATEVER THE INPUT: true; the input reads as it did. -/
def spansBoundsSpec : ChangeSpec := { name := "spansBounds", fn := fun _ => fun
  | [d1, d2] => { results := [.lit (.bool true)], args := [d1, d2] }
  | _ => none }
def spansBoundsRow : OpenClaim := { program := "ytjeghbachokljaa", sum := "62ad2088d0492eca2e089857e2eee561067468d12d8851a788579615f6603164", func := "proctor/proctorlaw14.SpansBounds", spec := "spansBounds", unfollowed := true, recurses := true, apart := false }
def SpansBoundsSaid : Prop := spansBoundsRow.holds Try.pinned (OpenSpec.ofChange spansBoundsSpec)

/-- ITS FALSE NEIGHBOUR: 'it returns false'. Refute it at one input. -/
def spansBoundsWrong : ChangeSpec := { name := "spansBounds", fn := fun _ => fun
  | [d1, d2] => { results := [.lit (.bool false)], args := [d1, d2] }
  | _ => none }
def SpansBoundsWrongFalsely : Prop := spansBoundsRow.holds Try.pinned (OpenSpec.ofChange spansBoundsWrong)

/-- 'proctorlaw14.SpansOverlap': WHATEVER THE INPUT: true; the input reads as it did. -/
def spansOverlapSpec : ChangeSpec := { name := "spansOverlap", fn := fun _ => fun
  | [d1, d2, d3] => { results := [.lit (.bool true)], args := [d1, d2, d3] }
  | _ => none }
def spansOverlapRow : OpenClaim := { program := "ytjeghbachokljaa", sum := "62ad2088d0492eca2e089857e2eee561067468d12d8851a788579615f6603164", func := "proctor/proctorlaw14.SpansOverlap", spec := "spansOverlap", unfollowed := true, recurses := true, apart := false }
def SpansOverlapSaid : Prop := spansOverlapRow.holds Try.pinned (OpenSpec.ofChange spansOverlapSpec)

/-- ITS FALSE NEIGHBOUR: 'it returns false'. Refute it at one input. -/
def spansOverlapWrong : ChangeSpec := { name := "spansOverlap", fn := fun _ => fun
  | [d1, d2, d3] => { results := [.lit (.bool false)], args := [d1, d2, d3] }
  | _ => none }
def SpansOverlapWrongFalsely : Prop := spansOverlapRow.holds Try.pinned (OpenSpec.ofChange spansOverlapWrong)

/-- 'proctorlaw14.SpansApart': WHATEVER THE INPUT: true; the input reads as it did. -/
def spansApartSpec : ChangeSpec := { name := "spansApart", fn := fun _ => fun
  | [d1, d2, d3, d4, d5] => { results := [.lit (.bool true)], args := [d1, d2, d3, d4, d5] }
  | _ => none }
def spansApartRow : OpenClaim := { program := "ytjeghbachokljaa", sum := "62ad2088d0492eca2e089857e2eee561067468d12d8851a788579615f6603164", func := "proctor/proctorlaw14.SpansApart", spec := "spansApart", unfollowed := true, recurses := true, apart := false }
def SpansApartSaid : Prop := spansApartRow.holds Try.pinned (OpenSpec.ofChange spansApartSpec)

/-- ITS FALSE NEIGHBOUR: 'it returns false'. Refute it at one input. -/
def spansApartWrong : ChangeSpec := { name := "spansApart", fn := fun _ => fun
  | [d1, d2, d3, d4, d5] => { results := [.lit (.bool false)], args := [d1, d2, d3, d4, d5] }
  | _ => none }
def SpansApartWrongFalsely : Prop := spansApartRow.holds Try.pinned (OpenSpec.ofChange spansApartWrong)

/-- 'proctorlaw14.SpansPlays': WHATEVER THE INPUT: true; the input reads as it did. -/
def spansPlaysSpec : ChangeSpec := { name := "spansPlays", fn := fun _ => fun
  | [d] => { results := [.lit (.bool true)], args := [d] }
  | _ => none }
def spansPlaysRow : OpenClaim := { program := "ytjeghbachokljaa", sum := "62ad2088d0492eca2e089857e2eee561067468d12d8851a788579615f6603164", func := "proctor/proctorlaw14.SpansPlays", spec := "spansPlays", unfollowed := true, recurses := true, apart := false }
def SpansPlaysSaid : Prop := spansPlaysRow.holds Try.pinned (OpenSpec.ofChange spansPlaysSpec)

/-- ITS FALSE NEIGHBOUR: 'it returns false'. Refute it at one input. -/
def spansPlaysWrong : ChangeSpec := { name := "spansPlays", fn := fun _ => fun
  | [d] => { results := [.lit (.bool false)], args := [d] }
  | _ => none }
def SpansPlaysWrongFalsely : Prop := spansPlaysRow.holds Try.pinned (OpenSpec.ofChange spansPlaysWrong)

/-- 'proctorlaw14.SpansDrop': WHATEVER THE INPUT: true; the input reads as it did. -/
def spansDropSpec : ChangeSpec := { name := "spansDrop", fn := fun _ => fun
  | [d1, d2, d3] => { results := [.lit (.bool true)], args := [d1, d2, d3] }
  | _ => none }
def spansDropRow : OpenClaim := { program := "ytjeghbachokljaa", sum := "62ad2088d0492eca2e089857e2eee561067468d12d8851a788579615f6603164", func := "proctor/proctorlaw14.SpansDrop", spec := "spansDrop", unfollowed := true, recurses := true, apart := false }
def SpansDropSaid : Prop := spansDropRow.holds Try.pinned (OpenSpec.ofChange spansDropSpec)

/-- ITS FALSE NEIGHBOUR: 'it returns false'. Refute it at one input. -/
def spansDropWrong : ChangeSpec := { name := "spansDrop", fn := fun _ => fun
  | [d1, d2, d3] => { results := [.lit (.bool false)], args := [d1, d2, d3] }
  | _ => none }
def SpansDropWrongFalsely : Prop := spansDropRow.holds Try.pinned (OpenSpec.ofChange spansDropWrong)

/- THE SECOND FORM. 'bulk': how many values and letters a reading holds, each counted each time it is reached (what is shared counts as often as it is met; a slice's spare places count too). A statement '..UptoSaid' is the law's where the arguments, and the package variables that the reading takes, are together of bulk at most 1048576: NARROWER than '..Said'. Prove '..Said' where nothing that the law and all that it calls make is longer than what came in: it says more and counts as full. Else prove '..UptoSaid'. A law counts once. -/
mutual
def uptoBulk {H : Type} : DataW H → Nat
  | .lit (.string bytes) => bytes.length + 1
  | .lit _ => 1
  | .nil => 1
  | .ptr d => uptoBulk d + 1
  | .slice elems spare => uptoBulkAll elems + uptoBulkAll spare + 1
  | .agg parts => uptoBulkAll parts + 1
  | .iface _ d => uptoBulk d + 1
  | .map entries => uptoBulkEntries entries + 1
  | .held _ => 1
def uptoBulkAll {H : Type} : List (DataW H) → Nat
  | [] => 0
  | d :: r => uptoBulk d + uptoBulkAll r
def uptoBulkEntries {H : Type} : List (Lit × DataW H) → Nat
  | [] => 0
  | x :: r => uptoBulkEntry x + uptoBulkEntries r
def uptoBulkEntry {H : Type} : Lit × DataW H → Nat
  | (.string bytes, d) => bytes.length + uptoBulk d + 1
  | (_, d) => uptoBulk d + 1
 end
def uptoSmall : (H : Type) → List (DataW H) → Bool := fun _ ds => decide (uptoBulkAll ds ≤ 1048576)
def OpenSpec.upto (s : _root_.Go.ChangeSpec) : _root_.Go.OpenSpec := { _root_.Go.OpenSpec.ofChange s with cond := some uptoSmall }

/-- 'proctorlaw14.SpansMemory', WHERE WHAT IT READS IS OF BULK AT MOST 1048576: true; the input reads as it did. -/
def spansMemoryUptoRow : OpenClaim := { program := "ytjeghbachokljaa", sum := "62ad2088d0492eca2e089857e2eee561067468d12d8851a788579615f6603164", func := "proctor/proctorlaw14.SpansMemory", spec := "spansMemory", unfollowed := true, recurses := true, apart := false, narrowed := true }
def SpansMemoryUptoSaid : Prop := spansMemoryUptoRow.holds Try.pinned (OpenSpec.upto spansMemorySpec)

/-- 'proctorlaw14.SpansHeight', WHERE WHAT IT READS IS OF BULK AT MOST 1048576: true; the input reads as it did. -/
def spansHeightUptoRow : OpenClaim := { program := "ytjeghbachokljaa", sum := "62ad2088d0492eca2e089857e2eee561067468d12d8851a788579615f6603164", func := "proctor/proctorlaw14.SpansHeight", spec := "spansHeight", unfollowed := true, recurses := true, apart := false, narrowed := true }
def SpansHeightUptoSaid : Prop := spansHeightUptoRow.holds Try.pinned (OpenSpec.upto spansHeightSpec)

/-- 'proctorlaw14.SpansBounds', WHERE WHAT IT READS IS OF BULK AT MOST 1048576: true; the input reads as it did. -/
def spansBoundsUptoRow : OpenClaim := { program := "ytjeghbachokljaa", sum := "62ad2088d0492eca2e089857e2eee561067468d12d8851a788579615f6603164", func := "proctor/proctorlaw14.SpansBounds", spec := "spansBounds", unfollowed := true, recurses := true, apart := false, narrowed := true }
def SpansBoundsUptoSaid : Prop := spansBoundsUptoRow.holds Try.pinned (OpenSpec.upto spansBoundsSpec)

/-- 'proctorlaw14.SpansOverlap', WHERE WHAT IT READS IS OF BULK AT MOST 1048576: true; the input reads as it did. -/
def spansOverlapUptoRow : OpenClaim := { program := "ytjeghbachokljaa", sum := "62ad2088d0492eca2e089857e2eee561067468d12d8851a788579615f6603164", func := "proctor/proctorlaw14.SpansOverlap", spec := "spansOverlap", unfollowed := true, recurses := true, apart := false, narrowed := true }
def SpansOverlapUptoSaid : Prop := spansOverlapUptoRow.holds Try.pinned (OpenSpec.upto spansOverlapSpec)

/-- 'proctorlaw14.SpansApart', WHERE WHAT IT READS IS OF BULK AT MOST 1048576: true; the input reads as it did. -/
def spansApartUptoRow : OpenClaim := { program := "ytjeghbachokljaa", sum := "62ad2088d0492eca2e089857e2eee561067468d12d8851a788579615f6603164", func := "proctor/proctorlaw14.SpansApart", spec := "spansApart", unfollowed := true, recurses := true, apart := false, narrowed := true }
def SpansApartUptoSaid : Prop := spansApartUptoRow.holds Try.pinned (OpenSpec.upto spansApartSpec)

/-- 'proctorlaw14.SpansPlays', WHERE WHAT IT READS IS OF BULK AT MOST 1048576: true; the input reads as it did. -/
def spansPlaysUptoRow : OpenClaim := { program := "ytjeghbachokljaa", sum := "62ad2088d0492eca2e089857e2eee561067468d12d8851a788579615f6603164", func := "proctor/proctorlaw14.SpansPlays", spec := "spansPlays", unfollowed := true, recurses := true, apart := false, narrowed := true }
def SpansPlaysUptoSaid : Prop := spansPlaysUptoRow.holds Try.pinned (OpenSpec.upto spansPlaysSpec)

/-- 'proctorlaw14.SpansDrop', WHERE WHAT IT READS IS OF BULK AT MOST 1048576: true; the input reads as it did. -/
def spansDropUptoRow : OpenClaim := { program := "ytjeghbachokljaa", sum := "62ad2088d0492eca2e089857e2eee561067468d12d8851a788579615f6603164", func := "proctor/proctorlaw14.SpansDrop", spec := "spansDrop", unfollowed := true, recurses := true, apart := false, narrowed := true }
def SpansDropUptoSaid : Prop := spansDropUptoRow.holds Try.pinned (OpenSpec.upto spansDropSpec)

end Rows
end Go.Proofs.Ytjeghbachokljaa
