/- Of overlapping spans the one that ends first; what a forest's list is like. -/
import Derived.Test.YtjeghbachokljaaSpV
set_option linter.unusedVariables false
set_option linter.unusedSimpArgs false
namespace Go.Proofs.Ytjeghbachokljaa
open Go
set_option maxRecDepth 20000
set_option maxHeartbeats 1000000
def lexF (s b : Sp) : Prop := s.b < b.b ∨ (s.b = b.b ∧ (s.c < b.c ∨ (s.c = b.c ∧ s.a < b.a)))
theorem cmpI_c (a b : Int) : (cmpI a b = -1 ∧ a < b) ∨ (cmpI a b = 1 ∧ b < a) ∨ (cmpI a b = 0 ∧ a = b) := by
  unfold cmpI
  by_cases h : a < b
  · rw [if_pos h]; omega
  · rw [if_neg h]
    by_cases h2 : b < a
    · rw [if_pos h2]; omega
    · rw [if_neg h2]; omega
theorem cmpF_lt (s b : Sp) : cmpF s b < 0 ↔ lexF s b := by
  have h1 := cmpI_c s.b b.b
  have h2 := cmpI_c s.c b.c
  have h3 := cmpI_c s.a b.a
  unfold cmpF lexF
  rcases h1 with h1 | h1 | h1
  · simp [orL, h1.1]; omega
  · simp [orL, h1.1]; omega
  · rcases h2 with h2 | h2 | h2
    · simp [orL, h1.1, h2.1]; omega
    · simp [orL, h1.1, h2.1]; omega
    · rcases h3 with h3 | h3 | h3
      · simp [orL, h1.1, h2.1, h3.1]; omega
      · simp [orL, h1.1, h2.1, h3.1]; omega
      · simp [orL, h1.1, h2.1, h3.1]; omega
theorem fold_first : ∀ (l : List Sp) (b : Sp), ∃ f, l.foldl stepF (some b) = some f ∧ f ∈ b :: l ∧ ∀ x ∈ b :: l, ¬ lexF x f
  | [], b => ⟨b, rfl, List.mem_cons_self .., fun x hx => by
    rw [List.mem_singleton.1 hx]
    unfold lexF
    omega⟩
  | s :: r, b => by
    rw [List.foldl_cons]
    by_cases h : lexF s b
    · obtain ⟨f, h1, h2, h3⟩ := fold_first r s
      refine ⟨f, by rw [stepF, if_pos ((cmpF_lt s b).2 h)]; exact h1, List.mem_cons_of_mem _ h2, fun x hx => ?_⟩
      rcases List.mem_cons.1 hx with rfl | hx
      · have := h3 s (List.mem_cons_self ..)
        unfold lexF at *
        omega
      · exact h3 x hx
    · obtain ⟨f, h1, h2, h3⟩ := fold_first r b
      refine ⟨f, by rw [stepF, if_neg (fun e => h ((cmpF_lt s b).1 e))]; exact h1, ?_, fun x hx => ?_⟩
      · rcases List.mem_cons.1 h2 with rfl | h2
        · exact List.mem_cons_self ..
        · exact List.mem_cons_of_mem _ (List.mem_cons_of_mem _ h2)
      · rcases List.mem_cons.1 hx with rfl | hx
        · exact h3 x (List.mem_cons_self ..)
        · rcases List.mem_cons.1 hx with rfl | hx
          · have := h3 b (List.mem_cons_self ..)
            unfold lexF at *
            omega
          · exact h3 x (List.mem_cons_of_mem _ hx)
theorem firstS_spec (l : List Sp) : (l = [] ∧ firstS l = none) ∨ (0 < l.length ∧ ∃ f, firstS l = some f ∧ f ∈ l ∧ ∀ x ∈ l, ¬ lexF x f) := by
  cases l with
  | nil => exact .inl ⟨rfl, rfl⟩
  | cons b r =>
    refine .inr ⟨by simp, ?_⟩
    obtain ⟨f, h1, h2, h3⟩ := fold_first r b
    exact ⟨f, h1, h2, h3⟩
/-- all that a forest holds is right -/
def Rgt (A : Ks) : Prop := ∀ x ∈ A, insCode x.1 x.2 true = 141
theorem Rgt.nil : Rgt [] := fun x hx => by cases hx
theorem code_two {k : ByteArray} {s : Sp} (h : insCode k s false = 0) : insCode k s true = 141 := by
  unfold insCode at h ⊢
  split at h
  · exact absurd h (by decide)
  · rename_i hx
    rw [if_neg hx]
    split at h
    · exact absurd h (by decide)
    · rename_i hy
      rw [if_neg hy]
      rfl
theorem code_zero {k : ByteArray} {s : Sp} {b : Bool} (h : insCode k s b = 0) : b = false := by
  cases b with
  | false => rfl
  | true =>
    unfold insCode at h
    split at h
    · exact absurd h (by decide)
    · split at h
      · exact absurd h (by decide)
      · exact absurd h (by decide)
theorem Rgt.put {A : Ks} (h : Rgt A) (k : ByteArray) (s : Sp) : Rgt (insN k s A) := by
  unfold insN
  split
  · rename_i hc
    intro x hx
    rcases List.mem_cons.1 ((insAll_perm _ A).mem_iff.1 hx) with rfl | hx
    · have e := code_zero hc
      rw [e] at hc
      exact code_two hc
    · exact h x hx
  · exact h
theorem Rgt.del {A : Ks} (h : Rgt A) (e : ByteArray × Sp) : Rgt (delAll e A) := fun x hx => h x (List.mem_filter.1 hx).1
theorem Rgt.two {A : Ks} (h : Rgt A) {k : ByteArray} {s : Sp} (hm : (k, s) ∈ A) : insCode k s (hasA (k, s) A) = 141 ∧ insN k s A = A := by
  have e : insCode k s (hasA (k, s) A) = 141 := by rw [hasA_iff.2 hm]; exact h _ hm
  exact ⟨e, if_neg (by rw [e]; decide)⟩
theorem ovK_mem {k : ByteArray} {lo hi : Int} {A : Ks} {s : Sp} : s ∈ ovK k lo hi A ↔ (k, s) ∈ A ∧ s.a < hi ∧ lo < s.b := by
  unfold ovK ovQ
  rw [List.mem_filter, mem_ofK, decide_eq_true_iff]
theorem ovK_ins {k : ByteArray} {lo hi : Int} {A : Ks} {s : Sp} : (ovK k lo hi (insAll (k, s) A)).length = (ovK k lo hi A).length + (if s.a < hi ∧ lo < s.b then 1 else 0) := by
  have h : (ovK k lo hi (insAll (k, s) A)).Perm (ovK k lo hi ((k, s) :: A)) := (((insAll_perm (k, s) A).filter _).map _).filter _
  rw [h.length_eq]
  unfold ovK
  rw [ofK_cons, if_pos rfl]
  unfold ovQ
  by_cases hc : s.a < hi ∧ lo < s.b
  · rw [if_pos hc]
    rw [show ((k, s) : ByteArray × Sp).2 = s from rfl, List.filter_cons_of_pos (by simpa using hc)]
    rfl
  · rw [if_neg hc]
    rw [show ((k, s) : ByteArray × Sp).2 = s from rfl, List.filter_cons_of_neg (by simpa using hc)]
    rfl
theorem ovK_len {k : ByteArray} {lo hi : Int} {A : Ks} : (ovK k lo hi A).length ≤ A.length := Nat.le_trans (List.length_filter_le _ _) (ofK_len k A)
theorem ovK_srt {k : ByteArray} {lo hi : Int} {A : Ks} (h : AOk A) : (ovK k lo hi A).Pairwise ltS := (h.srtK k).filter _
end Go.Proofs.Ytjeghbachokljaa
