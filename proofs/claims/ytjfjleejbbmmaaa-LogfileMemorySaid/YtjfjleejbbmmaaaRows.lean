/-
  No cell of these rows narrows 'for every input' (looked for: loops, veiled, ifaces, maps, wideKeys, modest, calm, conditions, laid).
  DERIVED. THE GIVEN ROWS OF THIS SEAT. 10 by the template 'for every input the law returns true; each argument reads behind the call as it read before'; 0 by the template 'total and deterministic' (their statements: YtjfjleejbbmmaaaTotals.lean).
  GIVEN WITH THE SEED: the statements are not yours to turn. If you find one false, say at which input.
  Laid BY PROGRAM, IN A SANDBOX (cutbox-rows.mjs): the forced cells as the released guide's own fill.sh prints them over the translation 9d69d64305ea97c6… (all of the seat's roots in one cut). By AI agents, Wed Nov 11 2026. No macro, syntax, notation, axiom, sorry.
-/
import Derived.Test.YtjfjleejbbmmaaaChecked
import GoSem.Claim
import GoSem.ClaimJoined
import GoSem.ClaimMapViews
import Derived.JoinedTies
import Derived.KernelRfl
namespace Go.Proofs.Ytjfjleejbbmmaaa
/- THE CELL 'sum', in the pinned program and in every row, IS THE sha256 OF THE DUMP (.gsa) THAT YtjfjleejbbmmaaaProg.lean LOADS. Nothing in Lean hashes anything: it is a label: what it is worth is what the hold of that sum in a sandbox is worth. -/
noncomputable def Try.pinned : Pinned := { name := "ytjfjleejbbmmaaa", sum := "9d69d64305ea97c663d0d8461aab39d92a06faa77134978f2da1c818e7545e21", checked := Try.checked }
namespace Rows
def none {H : Type} : Left H := { results := [], args := [] }

/-- 'proctorlaw07.LogfileDecodes': WHATEVER THE INPUT: true; the input reads as it did. -/
def logfileDecodesSpec : ChangeSpec := { name := "logfileDecodes", fn := fun _ => fun
  | [d] => { results := [.lit (.bool true)], args := [d] }
  | _ => none }
def logfileDecodesRow : OpenClaim := { program := "ytjfjleejbbmmaaa", sum := "9d69d64305ea97c663d0d8461aab39d92a06faa77134978f2da1c818e7545e21", func := "proctor/proctorlaw07.LogfileDecodes", spec := "logfileDecodes", unfollowed := true, recurses := true, apart := false }
def LogfileDecodesSaid : Prop := logfileDecodesRow.holds Try.pinned (OpenSpec.ofChange logfileDecodesSpec)

/-- ITS FALSE NEIGHBOUR: 'it returns false'. Refute it at one input. -/
def logfileDecodesWrong : ChangeSpec := { name := "logfileDecodes", fn := fun _ => fun
  | [d] => { results := [.lit (.bool false)], args := [d] }
  | _ => none }
def LogfileDecodesWrongFalsely : Prop := logfileDecodesRow.holds Try.pinned (OpenSpec.ofChange logfileDecodesWrong)

/-- 'proctorlaw07.LogfileEncodes': WHATEVER THE INPUT: true; the input reads as it did. -/
def logfileEncodesSpec : ChangeSpec := { name := "logfileEncodes", fn := fun _ => fun
  | [d] => { results := [.lit (.bool true)], args := [d] }
  | _ => none }
def logfileEncodesRow : OpenClaim := { program := "ytjfjleejbbmmaaa", sum := "9d69d64305ea97c663d0d8461aab39d92a06faa77134978f2da1c818e7545e21", func := "proctor/proctorlaw07.LogfileEncodes", spec := "logfileEncodes", unfollowed := true, recurses := true, apart := false }
def LogfileEncodesSaid : Prop := logfileEncodesRow.holds Try.pinned (OpenSpec.ofChange logfileEncodesSpec)

/-- ITS FALSE NEIGHBOUR: 'it returns false'. Refute it at one input. -/
def logfileEncodesWrong : ChangeSpec := { name := "logfileEncodes", fn := fun _ => fun
  | [d] => { results := [.lit (.bool false)], args := [d] }
  | _ => none }
def LogfileEncodesWrongFalsely : Prop := logfileEncodesRow.holds Try.pinned (OpenSpec.ofChange logfileEncodesWrong)

/-- 'proctorlaw07.LogfileBack': WHATEVER THE INPUT: true; the input reads as it did. -/
def logfileBackSpec : ChangeSpec := { name := "logfileBack", fn := fun _ => fun
  | [d] => { results := [.lit (.bool true)], args := [d] }
  | _ => none }
def logfileBackRow : OpenClaim := { program := "ytjfjleejbbmmaaa", sum := "9d69d64305ea97c663d0d8461aab39d92a06faa77134978f2da1c818e7545e21", func := "proctor/proctorlaw07.LogfileBack", spec := "logfileBack", unfollowed := true, recurses := true, apart := false }
def LogfileBackSaid : Prop := logfileBackRow.holds Try.pinned (OpenSpec.ofChange logfileBackSpec)

/-- ITS FALSE NEIGHBOUR: 'it returns false'. Refute it at one input. -/
def logfileBackWrong : ChangeSpec := { name := "logfileBack", fn := fun _ => fun
  | [d] => { results := [.lit (.bool false)], args := [d] }
  | _ => none }
def LogfileBackWrongFalsely : Prop := logfileBackRow.holds Try.pinned (OpenSpec.ofChange logfileBackWrong)

/-- 'proctorlaw07.LogfileOne': WHATEVER THE INPUT: true; the input reads as it did. -/
def logfileOneSpec : ChangeSpec := { name := "logfileOne", fn := fun _ => fun
  | [d] => { results := [.lit (.bool true)], args := [d] }
  | _ => none }
def logfileOneRow : OpenClaim := { program := "ytjfjleejbbmmaaa", sum := "9d69d64305ea97c663d0d8461aab39d92a06faa77134978f2da1c818e7545e21", func := "proctor/proctorlaw07.LogfileOne", spec := "logfileOne", unfollowed := true, recurses := true, apart := false }
def LogfileOneSaid : Prop := logfileOneRow.holds Try.pinned (OpenSpec.ofChange logfileOneSpec)

/-- ITS FALSE NEIGHBOUR: 'it returns false'. Refute it at one input. -/
def logfileOneWrong : ChangeSpec := { name := "logfileOne", fn := fun _ => fun
  | [d] => { results := [.lit (.bool false)], args := [d] }
  | _ => none }
def LogfileOneWrongFalsely : Prop := logfileOneRow.holds Try.pinned (OpenSpec.ofChange logfileOneWrong)

/-- 'proctorlaw07.LogfileCut': WHATEVER THE INPUT: true; the input reads as it did. -/
def logfileCutSpec : ChangeSpec := { name := "logfileCut", fn := fun _ => fun
  | [d1, d2, d3] => { results := [.lit (.bool true)], args := [d1, d2, d3] }
  | _ => none }
def logfileCutRow : OpenClaim := { program := "ytjfjleejbbmmaaa", sum := "9d69d64305ea97c663d0d8461aab39d92a06faa77134978f2da1c818e7545e21", func := "proctor/proctorlaw07.LogfileCut", spec := "logfileCut", unfollowed := true, recurses := true, apart := false }
def LogfileCutSaid : Prop := logfileCutRow.holds Try.pinned (OpenSpec.ofChange logfileCutSpec)

/-- ITS FALSE NEIGHBOUR: 'it returns false'. Refute it at one input. -/
def logfileCutWrong : ChangeSpec := { name := "logfileCut", fn := fun _ => fun
  | [d1, d2, d3] => { results := [.lit (.bool false)], args := [d1, d2, d3] }
  | _ => none }
def LogfileCutWrongFalsely : Prop := logfileCutRow.holds Try.pinned (OpenSpec.ofChange logfileCutWrong)

/-- 'proctorlaw07.LogfileEarly': WHATEVER THE INPUT: true; the input reads as it did. -/
def logfileEarlySpec : ChangeSpec := { name := "logfileEarly", fn := fun _ => fun
  | [d1, d2] => { results := [.lit (.bool true)], args := [d1, d2] }
  | _ => none }
def logfileEarlyRow : OpenClaim := { program := "ytjfjleejbbmmaaa", sum := "9d69d64305ea97c663d0d8461aab39d92a06faa77134978f2da1c818e7545e21", func := "proctor/proctorlaw07.LogfileEarly", spec := "logfileEarly", unfollowed := true, recurses := true, apart := false }
def LogfileEarlySaid : Prop := logfileEarlyRow.holds Try.pinned (OpenSpec.ofChange logfileEarlySpec)

/-- ITS FALSE NEIGHBOUR: 'it returns false'. Refute it at one input. -/
def logfileEarlyWrong : ChangeSpec := { name := "logfileEarly", fn := fun _ => fun
  | [d1, d2] => { results := [.lit (.bool false)], args := [d1, d2] }
  | _ => none }
def LogfileEarlyWrongFalsely : Prop := logfileEarlyRow.holds Try.pinned (OpenSpec.ofChange logfileEarlyWrong)

/-- 'proctorlaw07.LogfileMany': WHATEVER THE INPUT: true; the input reads as it did. -/
def logfileManySpec : ChangeSpec := { name := "logfileMany", fn := fun _ => fun
  | [d] => { results := [.lit (.bool true)], args := [d] }
  | _ => none }
def logfileManyRow : OpenClaim := { program := "ytjfjleejbbmmaaa", sum := "9d69d64305ea97c663d0d8461aab39d92a06faa77134978f2da1c818e7545e21", func := "proctor/proctorlaw07.LogfileMany", spec := "logfileMany", unfollowed := true, recurses := true, apart := false }
def LogfileManySaid : Prop := logfileManyRow.holds Try.pinned (OpenSpec.ofChange logfileManySpec)

/-- ITS FALSE NEIGHBOUR: 'it returns false'. Refute it at one input. -/
def logfileManyWrong : ChangeSpec := { name := "logfileMany", fn := fun _ => fun
  | [d] => { results := [.lit (.bool false)], args := [d] }
  | _ => none }
def LogfileManyWrongFalsely : Prop := logfileManyRow.holds Try.pinned (OpenSpec.ofChange logfileManyWrong)

/-- 'proctorlaw07.LogfileMemory': WHATEVER THE INPUT: true; the input reads as it did. -/
def logfileMemorySpec : ChangeSpec := { name := "logfileMemory", fn := fun _ => fun
  | [d] => { results := [.lit (.bool true)], args := [d] }
  | _ => none }
def logfileMemoryRow : OpenClaim := { program := "ytjfjleejbbmmaaa", sum := "9d69d64305ea97c663d0d8461aab39d92a06faa77134978f2da1c818e7545e21", func := "proctor/proctorlaw07.LogfileMemory", spec := "logfileMemory", unfollowed := true, recurses := true, apart := false }
def LogfileMemorySaid : Prop := logfileMemoryRow.holds Try.pinned (OpenSpec.ofChange logfileMemorySpec)

/-- ITS FALSE NEIGHBOUR: 'it returns false'. Refute it at one input. -/
def logfileMemoryWrong : ChangeSpec := { name := "logfileMemory", fn := fun _ => fun
  | [d] => { results := [.lit (.bool false)], args := [d] }
  | _ => none }
def LogfileMemoryWrongFalsely : Prop := logfileMemoryRow.holds Try.pinned (OpenSpec.ofChange logfileMemoryWrong)

/-- 'proctorlaw07.LogfileScans': WHATEVER THE INPUT: true; the input reads as it did. -/
def logfileScansSpec : ChangeSpec := { name := "logfileScans", fn := fun _ => fun
  | [d] => { results := [.lit (.bool true)], args := [d] }
  | _ => none }
def logfileScansRow : OpenClaim := { program := "ytjfjleejbbmmaaa", sum := "9d69d64305ea97c663d0d8461aab39d92a06faa77134978f2da1c818e7545e21", func := "proctor/proctorlaw07.LogfileScans", spec := "logfileScans", unfollowed := true, recurses := true, apart := false }
def LogfileScansSaid : Prop := logfileScansRow.holds Try.pinned (OpenSpec.ofChange logfileScansSpec)

/-- ITS FALSE NEIGHBOUR: 'it returns false'. Refute it at one input. -/
def logfileScansWrong : ChangeSpec := { name := "logfileScans", fn := fun _ => fun
  | [d] => { results := [.lit (.bool false)], args := [d] }
  | _ => none }
def LogfileScansWrongFalsely : Prop := logfileScansRow.holds Try.pinned (OpenSpec.ofChange logfileScansWrong)

/-- 'proctorlaw07.LogfilePieces': WHATEVER THE INPUT: true; the input reads as it did. -/
def logfilePiecesSpec : ChangeSpec := { name := "logfilePieces", fn := fun _ => fun
  | [d1, d2] => { results := [.lit (.bool true)], args := [d1, d2] }
  | _ => none }
def logfilePiecesRow : OpenClaim := { program := "ytjfjleejbbmmaaa", sum := "9d69d64305ea97c663d0d8461aab39d92a06faa77134978f2da1c818e7545e21", func := "proctor/proctorlaw07.LogfilePieces", spec := "logfilePieces", unfollowed := true, recurses := true, apart := false }
def LogfilePiecesSaid : Prop := logfilePiecesRow.holds Try.pinned (OpenSpec.ofChange logfilePiecesSpec)

/-- ITS FALSE NEIGHBOUR: 'it returns false'. Refute it at one input. -/
def logfilePiecesWrong : ChangeSpec := { name := "logfilePieces", fn := fun _ => fun
  | [d1, d2] => { results := [.lit (.bool false)], args := [d1, d2] }
  | _ => none }
def LogfilePiecesWrongFalsely : Prop := logfilePiecesRow.holds Try.pinned (OpenSpec.ofChange logfilePiecesWrong)

/- THE SECOND FORM. 'bulk': how many values and letters a reading holds, each counted each time it is reached (what is shared counts as often as it is met; a slice's spare places count too). A statement '..UptoSaid' is the law's where the arguments, and the package variables that the reading takes, are together of bulk at most 1048576: NARROWER than '..Said'. Prove '..Said' where nothing that the law and all that it calls make is longer than what came in: it says more and counts as full. Else prove '..UptoSaid'. A law counts once. -/
mutual
def uptoBulk {H : Type} : DataW H → Nat
  | .lit (.string bytes) => bytes.length + 1
  | .lit _ => 1
  | .nil => 1
  | .ptr d => uptoBulk d + 1
  | .slice elems spare => uptoBulkAll elems + uptoBulkAll spare + 1
  | .agg parts => uptoBulkAll parts + 1
  | .iface _ d => uptoBulk d + 1
  | .map entries => uptoBulkEntries entries + 1
  | .held _ => 1
def uptoBulkAll {H : Type} : List (DataW H) → Nat
  | [] => 0
  | d :: r => uptoBulk d + uptoBulkAll r
def uptoBulkEntries {H : Type} : List (Lit × DataW H) → Nat
  | [] => 0
  | x :: r => uptoBulkEntry x + uptoBulkEntries r
def uptoBulkEntry {H : Type} : Lit × DataW H → Nat
  | (.string bytes, d) => bytes.length + uptoBulk d + 1
  | (_, d) => uptoBulk d + 1
 end
def uptoSmall : (H : Type) → List (DataW H) → Bool := fun _ ds => decide (uptoBulkAll ds ≤ 1048576)
def OpenSpec.upto (s : _root_.Go.ChangeSpec) : _root_.Go.OpenSpec := { _root_.Go.OpenSpec.ofChange s with cond := some uptoSmall }

/-- 'proctorlaw07.LogfileDecodes', WHERE WHAT IT READS IS OF BULK AT MOST 1048576: true; the input reads as it did. -/
def logfileDecodesUptoRow : OpenClaim := { program := "ytjfjleejbbmmaaa", sum := "9d69d64305ea97c663d0d8461aab39d92a06faa77134978f2da1c818e7545e21", func := "proctor/proctorlaw07.LogfileDecodes", spec := "logfileDecodes", unfollowed := true, recurses := true, apart := false, narrowed := true }
def LogfileDecodesUptoSaid : Prop := logfileDecodesUptoRow.holds Try.pinned (OpenSpec.upto logfileDecodesSpec)

/-- 'proctorlaw07.LogfileEncodes', WHERE WHAT IT READS IS OF BULK AT MOST 1048576: true; the input reads as it did. -/
def logfileEncodesUptoRow : OpenClaim := { program := "ytjfjleejbbmmaaa", sum := "9d69d64305ea97c663d0d8461aab39d92a06faa77134978f2da1c818e7545e21", func := "proctor/proctorlaw07.LogfileEncodes", spec := "logfileEncodes", unfollowed := true, recurses := true, apart := false, narrowed := true }
def LogfileEncodesUptoSaid : Prop := logfileEncodesUptoRow.holds Try.pinned (OpenSpec.upto logfileEncodesSpec)

/-- 'proctorlaw07.LogfileBack', WHERE WHAT IT READS IS OF BULK AT MOST 1048576: true; the input reads as it did. -/
def logfileBackUptoRow : OpenClaim := { program := "ytjfjleejbbmmaaa", sum := "9d69d64305ea97c663d0d8461aab39d92a06faa77134978f2da1c818e7545e21", func := "proctor/proctorlaw07.LogfileBack", spec := "logfileBack", unfollowed := true, recurses := true, apart := false, narrowed := true }
def LogfileBackUptoSaid : Prop := logfileBackUptoRow.holds Try.pinned (OpenSpec.upto logfileBackSpec)

/-- 'proctorlaw07.LogfileOne', WHERE WHAT IT READS IS OF BULK AT MOST 1048576: true; the input reads as it did. -/
def logfileOneUptoRow : OpenClaim := { program := "ytjfjleejbbmmaaa", sum := "9d69d64305ea97c663d0d8461aab39d92a06faa77134978f2da1c818e7545e21", func := "proctor/proctorlaw07.LogfileOne", spec := "logfileOne", unfollowed := true, recurses := true, apart := false, narrowed := true }
def LogfileOneUptoSaid : Prop := logfileOneUptoRow.holds Try.pinned (OpenSpec.upto logfileOneSpec)

/-- 'proctorlaw07.LogfileCut', WHERE WHAT IT READS IS OF BULK AT MOST 1048576: true; the input reads as it did. -/
def logfileCutUptoRow : OpenClaim := { program := "ytjfjleejbbmmaaa", sum := "9d69d64305ea97c663d0d8461aab39d92a06faa77134978f2da1c818e7545e21", func := "proctor/proctorlaw07.LogfileCut", spec := "logfileCut", unfollowed := true, recurses := true, apart := false, narrowed := true }
def LogfileCutUptoSaid : Prop := logfileCutUptoRow.holds Try.pinned (OpenSpec.upto logfileCutSpec)

/-- 'proctorlaw07.LogfileEarly', WHERE WHAT IT READS IS OF BULK AT MOST 1048576: true; the input reads as it did. -/
def logfileEarlyUptoRow : OpenClaim := { program := "ytjfjleejbbmmaaa", sum := "9d69d64305ea97c663d0d8461aab39d92a06faa77134978f2da1c818e7545e21", func := "proctor/proctorlaw07.LogfileEarly", spec := "logfileEarly", unfollowed := true, recurses := true, apart := false, narrowed := true }
def LogfileEarlyUptoSaid : Prop := logfileEarlyUptoRow.holds Try.pinned (OpenSpec.upto logfileEarlySpec)

/-- 'proctorlaw07.LogfileMany', WHERE WHAT IT READS IS OF BULK AT MOST 1048576: true; the input reads as it did. -/
def logfileManyUptoRow : OpenClaim := { program := "ytjfjleejbbmmaaa", sum := "9d69d64305ea97c663d0d8461aab39d92a06faa77134978f2da1c818e7545e21", func := "proctor/proctorlaw07.LogfileMany", spec := "logfileMany", unfollowed := true, recurses := true, apart := false, narrowed := true }
def LogfileManyUptoSaid : Prop := logfileManyUptoRow.holds Try.pinned (OpenSpec.upto logfileManySpec)

/-- 'proctorlaw07.LogfileMemory', WHERE WHAT IT READS IS OF BULK AT MOST 1048576: true; the input reads as it did. -/
def logfileMemoryUptoRow : OpenClaim := { program := "ytjfjleejbbmmaaa", sum := "9d69d64305ea97c663d0d8461aab39d92a06faa77134978f2da1c818e7545e21", func := "proctor/proctorlaw07.LogfileMemory", spec := "logfileMemory", unfollowed := true, recurses := true, apart := false, narrowed := true }
def LogfileMemoryUptoSaid : Prop := logfileMemoryUptoRow.holds Try.pinned (OpenSpec.upto logfileMemorySpec)

/-- 'proctorlaw07.LogfileScans', WHERE WHAT IT READS IS OF BULK AT MOST 1048576: true; the input reads as it did. -/
def logfileScansUptoRow : OpenClaim := { program := "ytjfjleejbbmmaaa", sum := "9d69d64305ea97c663d0d8461aab39d92a06faa77134978f2da1c818e7545e21", func := "proctor/proctorlaw07.LogfileScans", spec := "logfileScans", unfollowed := true, recurses := true, apart := false, narrowed := true }
def LogfileScansUptoSaid : Prop := logfileScansUptoRow.holds Try.pinned (OpenSpec.upto logfileScansSpec)

/-- 'proctorlaw07.LogfilePieces', WHERE WHAT IT READS IS OF BULK AT MOST 1048576: true; the input reads as it did. -/
def logfilePiecesUptoRow : OpenClaim := { program := "ytjfjleejbbmmaaa", sum := "9d69d64305ea97c663d0d8461aab39d92a06faa77134978f2da1c818e7545e21", func := "proctor/proctorlaw07.LogfilePieces", spec := "logfilePieces", unfollowed := true, recurses := true, apart := false, narrowed := true }
def LogfilePiecesUptoSaid : Prop := logfilePiecesUptoRow.holds Try.pinned (OpenSpec.upto logfilePiecesSpec)

end Rows
end Go.Proofs.Ytjfjleejbbmmaaa
