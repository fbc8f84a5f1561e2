/- What the form tells of lists of transactions. -/
import Derived.Test.YtjfjleejbbmmaaaRecT
set_option linter.unusedVariables false
set_option linter.unusedSimpArgs false
namespace Go.Proofs.Ytjfjleejbbmmaaa
open Go
variable {H : Type} {enc : TypeId × Value → H} {W : World} {base : Nat} {spare : Nat → Bool} {held : Bool}
theorem tells_txns : Tells H enc Try.prog W base spare held 24 (LstV.cells (α := TxnW)) (LstV.ok W TxnW.cells (fun t => LstV.ok W OpW.cells (fun _ => True) t.ops)) (LstV.size TxnW.sz) :=
  tells_list Try.underlying24 (k := 8) (by kernel_rfl) (by decide) (fun _ => rfl) tells_txn
theorem sum_mem {α : Type} (f : α → Nat) : ∀ {l : List α} {a : α}, a ∈ l → f a ≤ (l.map f).sum
  | x :: r, a, h => by
    rw [List.map_cons, List.sum_cons]
    rcases List.mem_cons.1 h with rfl | h
    · omega
    · have := sum_mem f h
      omega
theorem txns_small {l : LstV TxnW} {n : Nat} (h : LstV.size TxnW.sz l ≤ n) : ∀ t ∈ l.xs, t.ops.xs.length ≤ n := fun t ht => by
  have h1 := sum_mem TxnW.sz ht
  have h2 := TxnW.len (t := t)
  simp only [LstV.size] at h
  omega
theorem txns_reads {l : List TxnW} (h : ∀ t ∈ l, LstV.ok W OpW.cells (fun _ => True) t.ops) : ∀ t ∈ l, t.Reads W := fun t ht => (h t ht).2.2.1
end Go.Proofs.Ytjfjleejbbmmaaa
