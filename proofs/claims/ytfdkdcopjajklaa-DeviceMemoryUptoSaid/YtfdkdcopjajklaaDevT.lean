/- What the form tells of devices' setups, scripts and lists of numbers. -/
import Derived.Test.YtfdkdcopjajklaaDev1
import Derived.Test.YtfdkdcopjajklaaKitV
set_option linter.unusedVariables false
set_option linter.unusedSimpArgs false
namespace Go.Proofs.Ytfdkdcopjajklaa
open Go
variable {H : Type} {enc : TypeId × Value → H} {W : World} {base : Nat} {spare : Nat → Bool} {held : Bool}
theorem nts_flat (l : List Int) : l.flatMap (fun n => [Value.int .i64 n]) = nts l := by
  induction l with
  | nil => rfl
  | cons x r ih => rw [List.flatMap_cons, ih]; rfl
theorem bys_flat (l : List UInt8) : l.flatMap (fun b => [Value.int .u8 b.toNat]) = bys l := by
  induction l with
  | nil => rfl
  | cons x r ih => rw [List.flatMap_cons, ih]; rfl
theorem tells_ints : Tells H enc Try.prog W base spare held 22 (LstV.cells (α := Int)) (LstV.ok W (fun n => [.int .i64 n]) (fun n => (Lit.int .i64 n).wf = true)) (LstV.size (fun _ => 1)) :=
  tells_list Try.underlying22 (k := 1) (by kernel_rfl) (by decide) (fun _ => rfl) (tells_int Try.underlying3)
theorem tells_bytes : Tells H enc Try.prog W base spare held 33 (LstV.cells (α := UInt8)) (LstV.ok W (fun b => [.int .u8 b.toNat]) (fun _ => True)) (LstV.size (fun _ => 1)) :=
  tells_list Try.underlying33 (k := 1) (by kernel_rfl) (by decide) (fun _ => rfl) (tells_byte Try.underlying5)
theorem tells_fault : Tells H enc Try.prog W base spare held 25 FaultW.cells (fun _ => True) (fun _ => 4) :=
  (tells_struct Try.underlying25 (tot := 4) (by kernel_rfl)
    (tells_field (k := 1) rfl (by kernel_rfl) (tells_int Try.underlying3) (tells_field (k := 1) rfl (by kernel_rfl) (tells_int Try.underlying3) (tells_field (k := 1) rfl (by kernel_rfl) (tells_int Try.underlying3) (tells_field (k := 1) rfl (by kernel_rfl) (tells_int Try.underlying3) tells_none))))).map
    (fun x => ⟨x.1, x.2.1, x.2.2.1, x.2.2.2.1⟩) (fun _ => rfl) (fun _ _ => trivial) (fun x => by (try dsimp only); omega)
theorem tells_faults : Tells H enc Try.prog W base spare held 26 (LstV.cells (α := FaultW)) (LstV.ok W FaultW.cells (fun _ => True)) (LstV.size (fun _ => 4)) :=
  tells_list Try.underlying26 (k := 4) (by kernel_rfl) (by decide) (fun _ => rfl) tells_fault
/-- what New is given -/
structure SetW where
  blk : Int
  sc : Int
  inp : LstV UInt8
  img : LstV UInt8
  fl : LstV FaultW
def SetW.cells (s : SetW) : List Value := [.int .i64 s.blk, .int .i64 s.sc, .slice s.inp.A s.inp.xs.length s.inp.c, .slice s.img.A s.img.xs.length s.img.c, .slice s.fl.A s.fl.xs.length s.fl.c]
def SetW.Ok (W : World) (s : SetW) : Prop := LstV.ok W (fun b : UInt8 => [Value.int .u8 b.toNat]) (fun _ => True) s.inp ∧ LstV.ok W (fun b : UInt8 => [Value.int .u8 b.toNat]) (fun _ => True) s.img ∧ LstV.ok W FaultW.cells (fun _ => True) s.fl
def SetW.sz (s : SetW) : Nat := s.inp.xs.length + s.img.xs.length + s.fl.xs.length
theorem sum_one {α : Type} {k : Nat} (hk : 1 ≤ k) : ∀ l : List α, l.length ≤ (l.map (fun _ => k)).sum
  | [] => by simp
  | x :: r => by
    have := sum_one hk r
    simp only [List.length_cons, List.map_cons, List.sum_cons]; omega
theorem tells_setup : Tells H enc Try.prog W base spare held 41 SetW.cells (SetW.Ok W) SetW.sz :=
  (tells_struct Try.underlying41 (tot := 5) (by kernel_rfl)
    (tells_field (k := 1) rfl (by kernel_rfl) (tells_int Try.underlying3) (tells_field (k := 1) rfl (by kernel_rfl) (tells_int Try.underlying3) (tells_field (k := 1) rfl (by kernel_rfl) tells_bytes (tells_field (k := 1) rfl (by kernel_rfl) tells_bytes (tells_field (k := 1) rfl (by kernel_rfl) tells_faults tells_none)))))).map
    (fun x => ⟨x.1, x.2.1, x.2.2.1, x.2.2.2.1, x.2.2.2.2.1⟩) (fun _ => rfl) (fun _ h => ⟨h.2.2.1, h.2.2.2.1, h.2.2.2.2.1⟩) (fun x => by
      have h1 := sum_one (k := 1) (by decide) x.2.2.1.xs
      have h2 := sum_one (k := 1) (by decide) x.2.2.2.1.xs
      have h3 := sum_one (k := 4) (by decide) x.2.2.2.2.1.xs
      simp only [SetW.sz, LstV.size] at h1 h2 h3 ⊢; omega)
/-- a step of a script -/
structure StpW where
  kind : Int
  at_ : Int
  data : LstV UInt8
def StpW.cells (s : StpW) : List Value := [.int .i64 s.kind, .int .i64 s.at_, .slice s.data.A s.data.xs.length s.data.c]
def StpW.Ok (W : World) (s : StpW) : Prop := LstV.ok W (fun b : UInt8 => [Value.int .u8 b.toNat]) (fun _ => True) s.data
def StpW.sz (s : StpW) : Nat := s.data.xs.length + 3
theorem tells_stp : Tells H enc Try.prog W base spare held 44 StpW.cells (StpW.Ok W) StpW.sz :=
  (tells_struct Try.underlying44 (tot := 3) (by kernel_rfl)
    (tells_field (k := 1) rfl (by kernel_rfl) (tells_int Try.underlying3) (tells_field (k := 1) rfl (by kernel_rfl) (tells_int Try.underlying3) (tells_field (k := 1) rfl (by kernel_rfl) tells_bytes tells_none)))).map
    (fun x => ⟨x.1, x.2.1, x.2.2.1⟩) (fun _ => rfl) (fun _ h => h.2.2.1) (fun x => by
      have h1 := sum_one (k := 1) (by decide) x.2.2.1.xs
      simp only [StpW.sz, LstV.size] at h1 ⊢; omega)
theorem tells_stps : Tells H enc Try.prog W base spare held 42 (LstV.cells (α := StpW)) (LstV.ok W StpW.cells (StpW.Ok W)) (LstV.size StpW.sz) :=
  tells_list Try.underlying42 (k := 3) (by kernel_rfl) (by decide) (fun _ => rfl) tells_stp
end Go.Proofs.Ytfdkdcopjajklaa
