/- Sorted sessions: the plain law. -/
import Derived.Test.YtgidabcmbngcbaaSort3
set_option linter.unusedVariables false
set_option linter.unusedSimpArgs false
namespace Go.Proofs.Ytgidabcmbngcbaa
open Go
theorem mergeR_perm (k : Int) : ∀ a b : List RowW, (mergeR k a b).Perm (a ++ b) := by
  intro a b
  induction a, b using mergeR.induct (k := k) with
  | case1 b => simp [mergeR]
  | case2 x a => simp [mergeR]
  | case3 x a y b h ih =>
    rw [mergeR, if_pos h]
    exact (ih.cons y).trans (List.perm_middle.symm)
  | case4 x a y b h ih =>
    rw [mergeR, if_neg h]
    exact ih.cons x
theorem sortR_perm (k : Int) : ∀ n (l : List RowW), l.length = n → (sortR k l).Perm l := by
  intro n
  induction n using Nat.strongRecOn with
  | _ n ih =>
    intro l hl
    rw [sortR]
    split
    · exact List.Perm.refl _
    · have h1 := ih _ (by simp; omega) (l.take (l.length / 2)) rfl
      have h2 := ih _ (by simp; omega) (l.drop (l.length / 2)) rfl
      refine (mergeR_perm k _ _).trans ((h1.append h2).trans ?_)
      rw [List.take_append_drop]
/-- not behind -/
def rowLe (x y : RowW) : Prop := ¬ rowBefore 2 y x
theorem rowLe_trans {x y z : RowW} (h1 : rowLe x y) (h2 : rowLe y z) : rowLe x z := by
  unfold rowLe rowBefore at *; omega
theorem rowLe_of {x y : RowW} (h : rowBefore 2 x y) : rowLe x y := by
  unfold rowLe rowBefore at *; omega
theorem mergeR_sorted : ∀ a b : List RowW, a.Pairwise rowLe → b.Pairwise rowLe → (mergeR 2 a b).Pairwise rowLe := by
  intro a b
  induction a, b using mergeR.induct (k := 2) with
  | case1 b => intro _ h; rw [mergeR]; exact h
  | case2 x a => intro h _; rw [mergeR]; exact h
  | case3 x a y b h ih =>
    intro ha hb
    rw [mergeR, if_pos h]
    rw [List.pairwise_cons] at hb ⊢
    refine ⟨fun z hz => ?_, ih ha hb.2⟩
    have hz' := (mergeR_perm 2 _ _).mem_iff.1 hz
    rcases List.mem_append.1 hz' with h1 | h1
    · rcases List.mem_cons.1 h1 with rfl | h1
      · exact rowLe_of h
      · exact rowLe_trans (rowLe_of h) ((List.pairwise_cons.1 ha).1 z h1)
    · exact hb.1 z h1
  | case4 x a y b h ih =>
    intro ha hb
    rw [mergeR, if_neg h]
    rw [List.pairwise_cons] at ha ⊢
    refine ⟨fun z hz => ?_, ih ha.2 hb⟩
    have hz' := (mergeR_perm 2 _ _).mem_iff.1 hz
    rcases List.mem_append.1 hz' with h1 | h1
    · exact ha.1 z h1
    · rcases List.mem_cons.1 h1 with rfl | h1
      · exact h
      · exact rowLe_trans h ((List.pairwise_cons.1 hb).1 z h1)
theorem sortR_sorted : ∀ n (l : List RowW), l.length = n → (sortR 2 l).Pairwise rowLe := by
  intro n
  induction n using Nat.strongRecOn with
  | _ n ih =>
    intro l hl
    rw [sortR]
    split
    · rename_i h
      match l, h with
      | [], _ => exact List.Pairwise.nil
      | [x], _ => exact List.pairwise_singleton _ _
    · exact mergeR_sorted _ _ (ih _ (by simp; omega) (l.take (l.length / 2)) rfl) (ih _ (by simp; omega) (l.drop (l.length / 2)) rfl)
theorem sessU_mem {l : List TxnW} : ∀ {n : Nat} {r : RowW}, r ∈ sessU l n → ∃ i t, i < n ∧ l[i]? = some t ∧ r = sessR (i : Nat) t
  | 0, r, h => by simp [sessU] at h
  | n + 1, r, h => by
    rw [sessU] at h
    rcases List.mem_append.1 h with h | h
    · obtain ⟨i, t, h1, h2, h3⟩ := sessU_mem h
      exact ⟨i, t, by omega, h2, h3⟩
    · split at h
      · rename_i t ht
        obtain rfl : r = _ := by simpa using h
        exact ⟨n, t, by omega, ht, rfl⟩
      · simp at h
theorem sessU_apart {l : List TxnW} : ∀ n, (sessU l n).Pairwise (fun x y => x.index ≠ y.index)
  | 0 => List.Pairwise.nil
  | n + 1 => by
    rw [sessU, List.pairwise_append]
    refine ⟨sessU_apart n, ?_, fun x hx y hy => ?_⟩
    · split
      · exact List.pairwise_singleton _ _
      · exact List.Pairwise.nil
    · split at hy
      · rename_i t ht
        obtain rfl : y = _ := by simpa using hy
        obtain ⟨i, t', h1, _, rfl⟩ := sessU_mem hx
        show ((i : Nat) : Int) ≠ (n : Nat)
        omega
      · simp at hy
theorem sessS_mem {l : List TxnW} {r : RowW} (h : r ∈ sessS l) : ∃ i t, i < l.length ∧ l[i]? = some t ∧ r = sessR (i : Nat) t := sessU_mem ((sortR_perm 2 _ _ rfl).mem_iff.1 h)
theorem pairwise_get {α : Type} {R : α → α → Prop} : ∀ {l : List α}, l.Pairwise R → ∀ {n : Nat} {x y : α}, l[n]? = some x → l[n + 1]? = some y → R x y
  | [], _, n, x, y, hx, _ => by simp at hx
  | a :: r, h, 0, x, y, hx, hy => by
    obtain rfl : a = x := by simpa using hx
    exact (List.pairwise_cons.1 h).1 y (List.mem_of_getElem? (by simpa using hy))
  | a :: r, h, n + 1, x, y, hx, hy => pairwise_get (List.pairwise_cons.1 h).2 (n := n) (by simpa using hx) (by simpa using hy)
theorem sessS_before (l : List TxnW) : ∀ (n : Nat) (p r : RowW), (sessS l)[n]? = some p → (sessS l)[n + 1]? = some r → rowBefore 2 p r := by
  intro n p r hp hr
  have h1 := pairwise_get (sortR_sorted _ (sessU l l.length) rfl) hp hr
  have h2 : (sessS l).Pairwise (fun x y => x.index ≠ y.index) := ((sortR_perm 2 _ (sessU l l.length) rfl).pairwise_iff (fun {x y} h => h.symm)).2 (sessU_apart _)
  have h3 := pairwise_get h2 hp hr
  unfold rowLe rowBefore at h1
  unfold rowBefore
  omega
theorem sessS_right {l : List TxnW} (hl : l.length ≤ 4096) (hv : ∀ t ∈ l, t.err = 0) : ∀ r ∈ sessS l, r.Right ∧ r.kind = 3 := by
  intro r hr
  obtain ⟨i, t, hi, ht, rfl⟩ := sessS_mem hr
  refine ⟨?_, rfl⟩
  rcases err_cases t with h0 | h0 | h0 | ⟨_, hf, _, _⟩
  · have := hv t (List.mem_of_getElem? ht); omega
  · have := hv t (List.mem_of_getElem? ht); omega
  · have := hv t (List.mem_of_getElem? ht); omega
  have h00 : ByteArray.empty.size = 0 := rfl
  simp only [TxnW.FieldsOk] at hf
  unfold RowW.Right sessR
  dsimp only
  omega
end Go.Proofs.Ytgidabcmbngcbaa
