/- Parts of the proof: RecT, LogTe. -/
import Derived.Test.YtlioccfedophhaaM2
/- What the form tells of transactions. -/
set_option linter.unusedVariables false
set_option linter.unusedSimpArgs false
namespace Go.Proofs.Ytlioccfedophhaa
open Go
variable {H : Type} {enc : TypeId × Value → H} {W : World} {base : Nat} {spare : Nat → Bool} {held : Bool}
def OpW.sz (o : OpW) : Nat := o.key.size + o.value.size + 5
theorem tells_opW : Tells H enc Try.prog W base spare held 49 OpW.cells (fun _ => True) OpW.sz :=
  (tells_struct Try.underlying49 (tot := 4) (by kernel_rfl)
    (tells_field (k := 1) rfl (by kernel_rfl) (tells_int Try.underlying3) (tells_field (k := 1) rfl (by kernel_rfl) (tells_string Try.underlying9) (tells_field (k := 1) rfl (by kernel_rfl) (tells_bool Try.underlying4) (tells_field (k := 1) rfl (by kernel_rfl) (tells_string Try.underlying9) tells_none))))).map
    (fun x => ⟨x.1, x.2.1, x.2.2.1, x.2.2.2.1⟩) (fun _ => rfl) (fun _ _ => trivial) (fun x => by simp only [OpW.sz]; omega)
theorem tells_opsW : Tells H enc Try.prog W base spare held 45 (LstV.cells (α := OpW)) (LstV.ok W OpW.cells (fun _ => True)) (LstV.size OpW.sz) :=
  tells_list Try.underlying45 (k := 4) (by kernel_rfl) (by decide) (fun _ => rfl) tells_opW
def TxnW.sz (t : TxnW) : Nat := LstV.size OpW.sz t.ops + 8
theorem tells_txn : Tells H enc Try.prog W base spare held 47 TxnW.cells (fun t => LstV.ok W OpW.cells (fun _ => True) t.ops) TxnW.sz :=
  (tells_struct Try.underlying47 (tot := 8) (by kernel_rfl)
    (tells_field (k := 1) rfl (by kernel_rfl) (tells_int Try.underlying3) (tells_field (k := 1) rfl (by kernel_rfl) (tells_int Try.underlying3) (tells_field (k := 1) rfl (by kernel_rfl) (tells_int Try.underlying3) (tells_field (k := 1) rfl (by kernel_rfl) (tells_int Try.underlying3)
    (tells_field (k := 1) rfl (by kernel_rfl) (tells_int Try.underlying3) (tells_field (k := 1) rfl (by kernel_rfl) (tells_int Try.underlying3) (tells_field (k := 1) rfl (by kernel_rfl) (tells_int Try.underlying3) (tells_field (k := 1) rfl (by kernel_rfl) tells_opsW tells_none))))))))).map
    (fun x => ⟨x.1, x.2.1, x.2.2.1, x.2.2.2.1, x.2.2.2.2.1, x.2.2.2.2.2.1, x.2.2.2.2.2.2.1, x.2.2.2.2.2.2.2.1⟩) (fun _ => rfl) (fun _ h => h.2.2.2.2.2.2.2.1) (fun x => by simp only [TxnW.sz]; omega)
theorem sum_len {α : Type} (f : α → Nat) (h : ∀ a, 1 ≤ f a) : ∀ l : List α, l.length ≤ (l.map f).sum
  | [] => by simp
  | x :: r => by
    have := sum_len f h r
    have := h x
    simp only [List.length_cons, List.map_cons, List.sum_cons]; omega
theorem TxnW.len {t : TxnW} : t.ops.xs.length ≤ t.sz := by
  have := sum_len OpW.sz (fun o => by unfold OpW.sz; omega) t.ops.xs
  simp only [TxnW.sz, LstV.size]; omega
end Go.Proofs.Ytlioccfedophhaa
/- What the form tells of lists of transactions. -/
set_option linter.unusedVariables false
set_option linter.unusedSimpArgs false
namespace Go.Proofs.Ytlioccfedophhaa
open Go
variable {H : Type} {enc : TypeId × Value → H} {W : World} {base : Nat} {spare : Nat → Bool} {held : Bool}
theorem tells_txns : Tells H enc Try.prog W base spare held 22 (LstV.cells (α := TxnW)) (LstV.ok W TxnW.cells (fun t => LstV.ok W OpW.cells (fun _ => True) t.ops)) (LstV.size TxnW.sz) :=
  tells_list Try.underlying22 (k := 8) (by kernel_rfl) (by decide) (fun _ => rfl) tells_txn
theorem sum_mem {α : Type} (f : α → Nat) : ∀ {l : List α} {a : α}, a ∈ l → f a ≤ (l.map f).sum
  | x :: r, a, h => by
    rw [List.map_cons, List.sum_cons]
    rcases List.mem_cons.1 h with rfl | h
    · omega
    · have := sum_mem f h
      omega
theorem txns_small {l : LstV TxnW} {n : Nat} (h : LstV.size TxnW.sz l ≤ n) : ∀ t ∈ l.xs, t.ops.xs.length ≤ n := fun t ht => by
  have h1 := sum_mem TxnW.sz ht
  have h2 := TxnW.len (t := t)
  simp only [LstV.size] at h
  omega
theorem txns_reads {l : List TxnW} (h : ∀ t ∈ l, LstV.ok W OpW.cells (fun _ => True) t.ops) : ∀ t ∈ l, t.Reads W := fun t ht => (h t ht).2.2.1
end Go.Proofs.Ytlioccfedophhaa
