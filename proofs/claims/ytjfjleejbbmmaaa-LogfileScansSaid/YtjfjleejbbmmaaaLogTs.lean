/- What the form tells of scripts of a scanner. -/
import Derived.Test.YtjfjleejbbmmaaaLogSc
import Derived.Test.YtjfjleejbbmmaaaKit3
set_option linter.unusedVariables false
set_option linter.unusedSimpArgs false
namespace Go.Proofs.Ytjfjleejbbmmaaa
open Go
variable {H : Type} {enc : TypeId × Value → H} {W : World} {base : Nat} {spare : Nat → Bool} {held : Bool}
theorem tells_bytesL : Tells H enc Try.prog W base spare held 22 (LstV.cells (α := UInt8)) (LstV.ok W (fun b : UInt8 => [Value.int .u8 b.toNat]) (fun _ => True)) (LstV.size (fun _ : UInt8 => 1)) :=
  tells_list Try.underlying22 (k := 1) (by kernel_rfl) (by decide) (fun _ => rfl) (tells_byte Try.underlying5)
def LopW.Ok (W : World) (s : LopW) : Prop := LstV.ok W (fun b : UInt8 => [Value.int .u8 b.toNat]) (fun _ => True) s.data
def LopW.sz (s : LopW) : Nat := s.data.xs.length + 2
theorem sum_ones : ∀ l : List UInt8, (l.map (fun _ => 1)).sum = l.length
  | [] => rfl
  | x :: r => by rw [List.map_cons, List.sum_cons, sum_ones r, List.length_cons]; omega
theorem tells_lop : Tells H enc Try.prog W base spare held 61 LopW.cells (LopW.Ok W) LopW.sz :=
  (tells_struct Try.underlying61 (tot := 2) (by kernel_rfl)
    (tells_field (k := 1) rfl (by kernel_rfl) (tells_int Try.underlying3) (tells_field (k := 1) rfl (by kernel_rfl) tells_bytesL tells_none))).map
    (fun x => ⟨x.1, x.2.1⟩) (fun _ => rfl) (fun _ h => h.2.1) (fun x => by
      have h1 := sum_ones x.2.1.xs
      simp only [LopW.sz, LstV.size] at h1 ⊢; omega)
theorem tells_lops : Tells H enc Try.prog W base spare held 56 (LstV.cells (α := LopW)) (LstV.ok W LopW.cells (LopW.Ok W)) (LstV.size LopW.sz) :=
  tells_list Try.underlying56 (k := 2) (by kernel_rfl) (by decide) (fun _ => rfl) tells_lop
theorem bys_flatL (l : List UInt8) : l.flatMap (fun b : UInt8 => [Value.int .u8 b.toNat]) = bys l := by
  induction l with
  | nil => rfl
  | cons x r ih => rw [List.flatMap_cons, ih]; rfl
theorem lops_reads {l : List LopW} (h : ∀ o ∈ l, LopW.Ok W o) : ∀ o ∈ l, Vw [] W o.data.A (bys o.data.xs) := fun o ho => bys_flatL _ ▸ (h o ho).2.2.1
theorem lops_small {l : LstV LopW} {n : Nat} (h : LstV.size LopW.sz l ≤ n) : lopSum l.xs ≤ n := by
  have key : ∀ l : List LopW, lopSum l ≤ (l.map LopW.sz).sum := fun l => by
    induction l with
    | nil => exact Nat.zero_le _
    | cons x r ih =>
      simp only [lopSum, LopW.sz, List.map_cons, List.sum_cons] at ih ⊢
      omega
  have := key l.xs
  simp only [LstV.size] at h
  omega
end Go.Proofs.Ytjfjleejbbmmaaa
