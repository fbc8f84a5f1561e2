/- The orders of rows: plain facts. -/
import Derived.Test.YtajfpekogoggaaaRowsA
import Derived.Test.YtajfpekogoggaaaKitO
set_option linter.unusedVariables false
set_option linter.unusedSimpArgs false
namespace Go.Proofs.Ytajfpekogoggaaa
open Go
set_option maxRecDepth 20000
set_option maxHeartbeats 4000000
attribute [local irreducible] WX WC WQ Val VCall
theorem cmpI_neg (a b : Int) : cmpI b a = -cmpI a b := by
  rcases cmpI_cases a b with ⟨h, e⟩ | ⟨h, e⟩ | ⟨h, e⟩ <;> rcases cmpI_cases b a with ⟨h2, e2⟩ | ⟨h2, e2⟩ | ⟨h2, e2⟩ <;> rw [e, e2] <;> omega
theorem first3 (x y z x' y' z' : Int) (hx : x' = -x) (hy : y' = -y) (hz : z' = -z) : firstNZ [x', y', z'] = -firstNZ [x, y, z] := by
  subst hx; subst hy; subst hz
  simp only [firstNZ]
  by_cases h1 : x = 0 <;> by_cases h2 : y = 0 <;> by_cases h3 : z = 0 <;> simp [h1, h2, h3]
theorem rowCmp_neg (k : Int) (a b : RowW) : rowCmp k b a = -rowCmp k a b := by
  unfold rowCmp
  split
  · exact first3 _ _ _ _ _ _ (cmpI_neg _ _) (cmpI_neg _ _) (cmpI_neg _ _)
  · split
    · exact first3 _ _ _ _ _ _ (cmpI_neg _ _) (cmpI_neg _ _) (cmpI_neg _ _)
    · rfl
theorem cmpI_abs (a b : Int) : -1 ≤ cmpI a b ∧ cmpI a b ≤ 1 := by
  rcases cmpI_cases a b with ⟨h, e⟩ | ⟨h, e⟩ | ⟨h, e⟩ <;> rw [e] <;> decide
theorem first_abs : ∀ l : List Int, (∀ x ∈ l, -1 ≤ x ∧ x ≤ 1) → -1 ≤ firstNZ l ∧ firstNZ l ≤ 1
  | [], _ => by simp [firstNZ]
  | x :: r, h => by
    rw [firstNZ]
    split
    · exact h x (by simp)
    · exact first_abs r (fun y hy => h y (by simp [hy]))
theorem rowCmp_abs (k : Int) (a b : RowW) : -1 ≤ rowCmp k a b ∧ rowCmp k a b ≤ 1 := by
  unfold rowCmp
  split
  · exact first_abs _ (fun x hx => by simp at hx; rcases hx with rfl | rfl | rfl <;> exact cmpI_abs _ _)
  · split
    · exact first_abs _ (fun x hx => by simp at hx; rcases hx with rfl | rfl | rfl <;> exact cmpI_abs _ _)
    · simp
theorem rowCmp_self (k : Int) (a : RowW) : rowCmp k a a = 0 := by have := rowCmp_neg k a a; omega
theorem cmp_after (k : Int) (a b : RowW) : 0 < rowCmp k a b ↔ rowBefore k b a := by
  rw [← cmp_before, rowCmp_neg k a b]; omega
theorem rowCmp_want (k : Int) (a b : RowW) : rowCmp k a b = if rowBefore k b a then 1 else if rowBefore k a b then -1 else 0 := by
  have h1 := cmp_before k a b
  have h2 := cmp_after k a b
  have h3 := rowCmp_abs k a b
  split
  · rename_i h; have := h2.2 h; omega
  · rename_i h
    split
    · rename_i h'; have := h1.2 h'; omega
    · rename_i h'
      have a1 : ¬ rowCmp k a b < 0 := fun x => h' (h1.1 x)
      have a2 : ¬ 0 < rowCmp k a b := fun x => h (h2.1 x)
      omega
theorem cmp49 : rowCmp 2 ⟨0, 0, 4, 0, 0, 0, ⟨#[]⟩⟩ ⟨0, 0, 9, 0, 0, 0, ⟨#[]⟩⟩ = -1 := by decide +kernel
theorem cmp21 : rowCmp 1 ⟨2, 0, 0, 4, 0, 0, ⟨#[]⟩⟩ ⟨1, 0, 0, 9, 0, 0, ⟨#[]⟩⟩ = 1 := by decide +kernel
end Go.Proofs.Ytajfpekogoggaaa
