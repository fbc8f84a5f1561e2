/- What the bound of the second form gives: lengths of slices and strings. -/
import Derived.Test.YtknnkgoehkohaaaRows
import Derived.JoinedCond
import Derived.WalkKit
import Derived.ProofKit
import Derived.OpenShut
import Derived.ShutString
set_option linter.unusedVariables false
set_option linter.unusedSimpArgs false
namespace Go.Proofs.Ytknnkgoehkohaaa
open Go
theorem bulk_pos {H : Type} (d : DataW H) : 1 ≤ Rows.uptoBulk d := by
  cases d with
  | lit l => cases l <;> simp [Rows.uptoBulk]
  | _ => simp [Rows.uptoBulk]
theorem bulk_len {H : Type} : ∀ l : List (DataW H), l.length ≤ Rows.uptoBulkAll l
  | [] => by simp [Rows.uptoBulkAll]
  | x :: r => by
    have h1 := bulk_pos x
    have h2 := bulk_len r
    simp only [Rows.uptoBulkAll, List.length_cons]; omega
theorem bulk_at {H : Type} : ∀ {l : List (DataW H)} {j : Nat} {d : DataW H}, l[j]? = some d → Rows.uptoBulk d ≤ Rows.uptoBulkAll l
  | [], j, d, h => by simp at h
  | x :: r, 0, d, h => by
    simp only [List.getElem?_cons_zero, Option.some.injEq] at h
    subst h
    simp only [Rows.uptoBulkAll]; omega
  | x :: r, j + 1, d, h => by
    have := bulk_at (l := r) (by simpa using h)
    simp only [Rows.uptoBulkAll]; omega
theorem small_bound {H : Type} {l : List (DataW H)} (hk : Rows.uptoSmall H l = true) : Rows.uptoBulkAll l ≤ 1048576 := of_decide_eq_true hk
theorem small_slice {H : Type} {l : List (DataW H)} (hk : Rows.uptoSmall H l = true) {j n : Nat} {d : DataW H} (hj : l[j]? = some d) (h : (d = .nil ∧ n = 0) ∨ ∃ elems sp, d = .slice elems sp ∧ elems.length = n) : n ≤ 1048576 := by
  have h1 := small_bound hk
  have h2 := bulk_at hj
  rcases h with ⟨_, rfl⟩ | ⟨elems, sp, rfl, rfl⟩
  · omega
  · have h3 := bulk_len elems
    simp only [Rows.uptoBulk] at h2
    omega
theorem small_string {H : Type} {l : List (DataW H)} (hk : Rows.uptoSmall H l = true) {j : Nat} {s : ByteArray} (hj : l[j]? = some (.lit (.string s.data.toList))) : s.size ≤ 1048576 := by
  have h1 := small_bound hk
  have h2 := bulk_at hj
  simp only [Rows.uptoBulk] at h2
  have e : s.data.toList.length = s.size := by rw [Array.length_toList]; rfl
  omega
end Go.Proofs.Ytknnkgoehkohaaa
