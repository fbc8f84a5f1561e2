/-
  No cell of these rows narrows 'for every input' (looked for: loops, veiled, ifaces, maps, wideKeys, modest, calm, conditions, laid).
  DERIVED. THE GIVEN ROWS OF THIS SEAT. 7 by the template 'for every input the law returns true; each argument reads behind the call as it read before'; 0 by the template 'total and deterministic' (their statements: YtfdkdcopjajklaaTotals.lean).
  GIVEN WITH THE SEED: the statements are not yours to turn. If you find one false, say at which input.
  Laid BY PROGRAM, IN A SANDBOX (cutbox-rows.mjs): the forced cells as the released guide's own fill.sh prints them over the translation 8177789739b51368… (all of the seat's roots in one cut). By AI agents, Wed Nov 11 2026. No macro, syntax, notation, axiom, sorry.
-/
import Derived.Test.YtfdkdcopjajklaaChecked
import GoSem.Claim
import GoSem.ClaimJoined
import GoSem.ClaimMapViews
import Derived.JoinedTies
import Derived.KernelRfl
namespace Go.Proofs.Ytfdkdcopjajklaa
/- THE CELL 'sum', in the pinned program and in every row, IS THE sha256 OF THE DUMP (.gsa) THAT YtfdkdcopjajklaaProg.lean LOADS. Nothing in Lean hashes anything: it is a label: what it is worth is what the hold of that sum in a sandbox is worth. -/
noncomputable def Try.pinned : Pinned := { name := "ytfdkdcopjajklaa", sum := "8177789739b513689493b77742b430c9d3c1107c2979e7811e05fe6a7a10cd5f", checked := Try.checked }
namespace Rows
def none {H : Type} : Left H := { results := [], args := [] }

/-- 'proctorlaw03.DeviceNth': WHATEVER THE INPUT: true; the input reads as it did. -/
def deviceNthSpec : ChangeSpec := { name := "deviceNth", fn := fun _ => fun
  | [d1, d2, d3] => { results := [.lit (.bool true)], args := [d1, d2, d3] }
  | _ => none }
def deviceNthRow : OpenClaim := { program := "ytfdkdcopjajklaa", sum := "8177789739b513689493b77742b430c9d3c1107c2979e7811e05fe6a7a10cd5f", func := "proctor/proctorlaw03.DeviceNth", spec := "deviceNth", plainKeys := false, apart := false }
def DeviceNthSaid : Prop := deviceNthRow.holds Try.pinned (OpenSpec.ofChange deviceNthSpec)

/-- ITS FALSE NEIGHBOUR: 'it returns false'. Refute it at one input. -/
def deviceNthWrong : ChangeSpec := { name := "deviceNth", fn := fun _ => fun
  | [d1, d2, d3] => { results := [.lit (.bool false)], args := [d1, d2, d3] }
  | _ => none }
def DeviceNthWrongFalsely : Prop := deviceNthRow.holds Try.pinned (OpenSpec.ofChange deviceNthWrong)

/-- 'proctorlaw03.DeviceInput': WHATEVER THE INPUT: true; the input reads as it did. -/
def deviceInputSpec : ChangeSpec := { name := "deviceInput", fn := fun _ => fun
  | [d1, d2] => { results := [.lit (.bool true)], args := [d1, d2] }
  | _ => none }
def deviceInputRow : OpenClaim := { program := "ytfdkdcopjajklaa", sum := "8177789739b513689493b77742b430c9d3c1107c2979e7811e05fe6a7a10cd5f", func := "proctor/proctorlaw03.DeviceInput", spec := "deviceInput", plainKeys := false, apart := false }
def DeviceInputSaid : Prop := deviceInputRow.holds Try.pinned (OpenSpec.ofChange deviceInputSpec)

/-- ITS FALSE NEIGHBOUR: 'it returns false'. Refute it at one input. -/
def deviceInputWrong : ChangeSpec := { name := "deviceInput", fn := fun _ => fun
  | [d1, d2] => { results := [.lit (.bool false)], args := [d1, d2] }
  | _ => none }
def DeviceInputWrongFalsely : Prop := deviceInputRow.holds Try.pinned (OpenSpec.ofChange deviceInputWrong)

/-- 'proctorlaw03.DeviceKeeps': WHATEVER THE INPUT: true; the input reads as it did. -/
def deviceKeepsSpec : ChangeSpec := { name := "deviceKeeps", fn := fun _ => fun
  | [d1, d2, d3] => { results := [.lit (.bool true)], args := [d1, d2, d3] }
  | _ => none }
def deviceKeepsRow : OpenClaim := { program := "ytfdkdcopjajklaa", sum := "8177789739b513689493b77742b430c9d3c1107c2979e7811e05fe6a7a10cd5f", func := "proctor/proctorlaw03.DeviceKeeps", spec := "deviceKeeps", plainKeys := false, apart := false }
def DeviceKeepsSaid : Prop := deviceKeepsRow.holds Try.pinned (OpenSpec.ofChange deviceKeepsSpec)

/-- ITS FALSE NEIGHBOUR: 'it returns false'. Refute it at one input. -/
def deviceKeepsWrong : ChangeSpec := { name := "deviceKeeps", fn := fun _ => fun
  | [d1, d2, d3] => { results := [.lit (.bool false)], args := [d1, d2, d3] }
  | _ => none }
def DeviceKeepsWrongFalsely : Prop := deviceKeepsRow.holds Try.pinned (OpenSpec.ofChange deviceKeepsWrong)

/-- 'proctorlaw03.DeviceMemory': WHATEVER THE INPUT: true; the input reads as it did. -/
def deviceMemorySpec : ChangeSpec := { name := "deviceMemory", fn := fun _ => fun
  | [d1, d2] => { results := [.lit (.bool true)], args := [d1, d2] }
  | _ => none }
def deviceMemoryRow : OpenClaim := { program := "ytfdkdcopjajklaa", sum := "8177789739b513689493b77742b430c9d3c1107c2979e7811e05fe6a7a10cd5f", func := "proctor/proctorlaw03.DeviceMemory", spec := "deviceMemory", plainKeys := false, apart := false }
def DeviceMemorySaid : Prop := deviceMemoryRow.holds Try.pinned (OpenSpec.ofChange deviceMemorySpec)

/-- ITS FALSE NEIGHBOUR: 'it returns false'. Refute it at one input. -/
def deviceMemoryWrong : ChangeSpec := { name := "deviceMemory", fn := fun _ => fun
  | [d1, d2] => { results := [.lit (.bool false)], args := [d1, d2] }
  | _ => none }
def DeviceMemoryWrongFalsely : Prop := deviceMemoryRow.holds Try.pinned (OpenSpec.ofChange deviceMemoryWrong)

/-- 'proctorlaw03.DeviceTorn': WHATEVER THE INPUT: true; the input reads as it did. -/
def deviceTornSpec : ChangeSpec := { name := "deviceTorn", fn := fun _ => fun
  | [d1, d2, d3] => { results := [.lit (.bool true)], args := [d1, d2, d3] }
  | _ => none }
def deviceTornRow : OpenClaim := { program := "ytfdkdcopjajklaa", sum := "8177789739b513689493b77742b430c9d3c1107c2979e7811e05fe6a7a10cd5f", func := "proctor/proctorlaw03.DeviceTorn", spec := "deviceTorn", plainKeys := false, apart := false }
def DeviceTornSaid : Prop := deviceTornRow.holds Try.pinned (OpenSpec.ofChange deviceTornSpec)

/-- ITS FALSE NEIGHBOUR: 'it returns false'. Refute it at one input. -/
def deviceTornWrong : ChangeSpec := { name := "deviceTorn", fn := fun _ => fun
  | [d1, d2, d3] => { results := [.lit (.bool false)], args := [d1, d2, d3] }
  | _ => none }
def DeviceTornWrongFalsely : Prop := deviceTornRow.holds Try.pinned (OpenSpec.ofChange deviceTornWrong)

/-- 'proctorlaw03.DevicePlays': WHATEVER THE INPUT: true; the input reads as it did. -/
def devicePlaysSpec : ChangeSpec := { name := "devicePlays", fn := fun _ => fun
  | [d1, d2] => { results := [.lit (.bool true)], args := [d1, d2] }
  | _ => none }
def devicePlaysRow : OpenClaim := { program := "ytfdkdcopjajklaa", sum := "8177789739b513689493b77742b430c9d3c1107c2979e7811e05fe6a7a10cd5f", func := "proctor/proctorlaw03.DevicePlays", spec := "devicePlays", plainKeys := false, apart := false }
def DevicePlaysSaid : Prop := devicePlaysRow.holds Try.pinned (OpenSpec.ofChange devicePlaysSpec)

/-- ITS FALSE NEIGHBOUR: 'it returns false'. Refute it at one input. -/
def devicePlaysWrong : ChangeSpec := { name := "devicePlays", fn := fun _ => fun
  | [d1, d2] => { results := [.lit (.bool false)], args := [d1, d2] }
  | _ => none }
def DevicePlaysWrongFalsely : Prop := devicePlaysRow.holds Try.pinned (OpenSpec.ofChange devicePlaysWrong)

/-- 'proctorlaw03.DeviceRestart': WHATEVER THE INPUT: true; the input reads as it did. -/
def deviceRestartSpec : ChangeSpec := { name := "deviceRestart", fn := fun _ => fun
  | [d1, d2, d3] => { results := [.lit (.bool true)], args := [d1, d2, d3] }
  | _ => none }
def deviceRestartRow : OpenClaim := { program := "ytfdkdcopjajklaa", sum := "8177789739b513689493b77742b430c9d3c1107c2979e7811e05fe6a7a10cd5f", func := "proctor/proctorlaw03.DeviceRestart", spec := "deviceRestart", plainKeys := false, apart := false }
def DeviceRestartSaid : Prop := deviceRestartRow.holds Try.pinned (OpenSpec.ofChange deviceRestartSpec)

/-- ITS FALSE NEIGHBOUR: 'it returns false'. Refute it at one input. -/
def deviceRestartWrong : ChangeSpec := { name := "deviceRestart", fn := fun _ => fun
  | [d1, d2, d3] => { results := [.lit (.bool false)], args := [d1, d2, d3] }
  | _ => none }
def DeviceRestartWrongFalsely : Prop := deviceRestartRow.holds Try.pinned (OpenSpec.ofChange deviceRestartWrong)

/- THE SECOND FORM. 'bulk': how many values and letters a reading holds, each counted each time it is reached (what is shared counts as often as it is met; a slice's spare places count too). A statement '..UptoSaid' is the law's where the arguments, and the package variables that the reading takes, are together of bulk at most 1048576: NARROWER than '..Said'. Prove '..Said' where nothing that the law and all that it calls make is longer than what came in: it says more and counts as full. Else prove '..UptoSaid'. A law counts once. -/
mutual
def uptoBulk {H : Type} : DataW H → Nat
  | .lit (.string bytes) => bytes.length + 1
  | .lit _ => 1
  | .nil => 1
  | .ptr d => uptoBulk d + 1
  | .slice elems spare => uptoBulkAll elems + uptoBulkAll spare + 1
  | .agg parts => uptoBulkAll parts + 1
  | .iface _ d => uptoBulk d + 1
  | .map entries => uptoBulkEntries entries + 1
  | .held _ => 1
def uptoBulkAll {H : Type} : List (DataW H) → Nat
  | [] => 0
  | d :: r => uptoBulk d + uptoBulkAll r
def uptoBulkEntries {H : Type} : List (Lit × DataW H) → Nat
  | [] => 0
  | x :: r => uptoBulkEntry x + uptoBulkEntries r
def uptoBulkEntry {H : Type} : Lit × DataW H → Nat
  | (.string bytes, d) => bytes.length + uptoBulk d + 1
  | (_, d) => uptoBulk d + 1
 end
def uptoSmall : (H : Type) → List (DataW H) → Bool := fun _ ds => decide (uptoBulkAll ds ≤ 1048576)
def OpenSpec.upto (s : _root_.Go.ChangeSpec) : _root_.Go.OpenSpec := { _root_.Go.OpenSpec.ofChange s with cond := some uptoSmall }

/-- 'proctorlaw03.DeviceNth', WHERE WHAT IT READS IS OF BULK AT MOST 1048576: true; the input reads as it did. -/
def deviceNthUptoRow : OpenClaim := { program := "ytfdkdcopjajklaa", sum := "8177789739b513689493b77742b430c9d3c1107c2979e7811e05fe6a7a10cd5f", func := "proctor/proctorlaw03.DeviceNth", spec := "deviceNth", plainKeys := false, apart := false, narrowed := true }
def DeviceNthUptoSaid : Prop := deviceNthUptoRow.holds Try.pinned (OpenSpec.upto deviceNthSpec)

/-- 'proctorlaw03.DeviceInput', WHERE WHAT IT READS IS OF BULK AT MOST 1048576: true; the input reads as it did. -/
def deviceInputUptoRow : OpenClaim := { program := "ytfdkdcopjajklaa", sum := "8177789739b513689493b77742b430c9d3c1107c2979e7811e05fe6a7a10cd5f", func := "proctor/proctorlaw03.DeviceInput", spec := "deviceInput", plainKeys := false, apart := false, narrowed := true }
def DeviceInputUptoSaid : Prop := deviceInputUptoRow.holds Try.pinned (OpenSpec.upto deviceInputSpec)

/-- 'proctorlaw03.DeviceKeeps', WHERE WHAT IT READS IS OF BULK AT MOST 1048576: true; the input reads as it did. -/
def deviceKeepsUptoRow : OpenClaim := { program := "ytfdkdcopjajklaa", sum := "8177789739b513689493b77742b430c9d3c1107c2979e7811e05fe6a7a10cd5f", func := "proctor/proctorlaw03.DeviceKeeps", spec := "deviceKeeps", plainKeys := false, apart := false, narrowed := true }
def DeviceKeepsUptoSaid : Prop := deviceKeepsUptoRow.holds Try.pinned (OpenSpec.upto deviceKeepsSpec)

/-- 'proctorlaw03.DeviceMemory', WHERE WHAT IT READS IS OF BULK AT MOST 1048576: true; the input reads as it did. -/
def deviceMemoryUptoRow : OpenClaim := { program := "ytfdkdcopjajklaa", sum := "8177789739b513689493b77742b430c9d3c1107c2979e7811e05fe6a7a10cd5f", func := "proctor/proctorlaw03.DeviceMemory", spec := "deviceMemory", plainKeys := false, apart := false, narrowed := true }
def DeviceMemoryUptoSaid : Prop := deviceMemoryUptoRow.holds Try.pinned (OpenSpec.upto deviceMemorySpec)

/-- 'proctorlaw03.DeviceTorn', WHERE WHAT IT READS IS OF BULK AT MOST 1048576: true; the input reads as it did. -/
def deviceTornUptoRow : OpenClaim := { program := "ytfdkdcopjajklaa", sum := "8177789739b513689493b77742b430c9d3c1107c2979e7811e05fe6a7a10cd5f", func := "proctor/proctorlaw03.DeviceTorn", spec := "deviceTorn", plainKeys := false, apart := false, narrowed := true }
def DeviceTornUptoSaid : Prop := deviceTornUptoRow.holds Try.pinned (OpenSpec.upto deviceTornSpec)

/-- 'proctorlaw03.DevicePlays', WHERE WHAT IT READS IS OF BULK AT MOST 1048576: true; the input reads as it did. -/
def devicePlaysUptoRow : OpenClaim := { program := "ytfdkdcopjajklaa", sum := "8177789739b513689493b77742b430c9d3c1107c2979e7811e05fe6a7a10cd5f", func := "proctor/proctorlaw03.DevicePlays", spec := "devicePlays", plainKeys := false, apart := false, narrowed := true }
def DevicePlaysUptoSaid : Prop := devicePlaysUptoRow.holds Try.pinned (OpenSpec.upto devicePlaysSpec)

/-- 'proctorlaw03.DeviceRestart', WHERE WHAT IT READS IS OF BULK AT MOST 1048576: true; the input reads as it did. -/
def deviceRestartUptoRow : OpenClaim := { program := "ytfdkdcopjajklaa", sum := "8177789739b513689493b77742b430c9d3c1107c2979e7811e05fe6a7a10cd5f", func := "proctor/proctorlaw03.DeviceRestart", spec := "deviceRestart", plainKeys := false, apart := false, narrowed := true }
def DeviceRestartUptoSaid : Prop := deviceRestartUptoRow.holds Try.pinned (OpenSpec.upto deviceRestartSpec)

end Rows
end Go.Proofs.Ytfdkdcopjajklaa
