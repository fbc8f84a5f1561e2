/- A log cut anywhere; a fault told early. -/
import Derived.Test.YtjfjleejbbmmaaaLogD
set_option linter.unusedVariables false
set_option linter.unusedSimpArgs false
namespace Go.Proofs.Ytjfjleejbbmmaaa
open Go
theorem entry_ok {D : Dsc} (hp : D.place ≤ D.data.length) (hc : D.count ≤ 4096) (h : D.entry.1.2.1 = true) : D.entry.1.2.2 = 0 ∧ D.entry.2.data = D.data ∧ D.entry.2.ended = D.ended ∧ D.entry.2.fault = D.fault ∧ D.entry.2.place ≤ D.data.length ∧ D.entry.2.count ≤ 4096 := by
  have hE := entry_cases D hp hc
  generalize D.entry = X at h hE
  cases hE with
  | txn t r e ht hlt =>
    have hlen := congrArg List.length e
    rw [List.length_drop, List.length_append] at hlen
    exact ⟨rfl, rfl, rfl, rfl, by dsimp only; omega, by dsimp only; omega⟩
  | foot e => cases h
  | more e => cases h
  | bad D' e he hf' h1 h2 => cases h
theorem next_ok {D : Dsc} (hf : D.fault = 0) (hp : D.place ≤ D.data.length) (hc : D.count ≤ 4096) (h : D.next.1.2.1 = true) : D.next.1.2.2 = 0 ∧ D.next.2.data = D.data ∧ D.next.2.ended = D.ended ∧ D.next.2.fault = 0 ∧ D.next.2.place ≤ D.data.length ∧ D.next.2.count ≤ 4096 := by
  unfold Dsc.next at h ⊢
  rw [if_neg (by simp [hf])] at h ⊢
  by_cases h0 : D.place = 0
  · rw [if_pos h0] at h ⊢
    cases hh : headAt magicB D.data 0 with
    | none =>
      rw [hh] at h
      obtain ⟨a1, a2, a3, a4, a5, a6⟩ := entry_ok (D := { D with place := 4 }) (headAt_none _ _ _ hh) hc h
      exact ⟨a1, a2, a3, a4.trans hf, a5, a6⟩
    | some r =>
      obtain ⟨i, c⟩ := r
      rw [hh] at h
      cases c <;> cases h
  · rw [if_neg h0] at h ⊢
    by_cases hfo : D.foot = true
    · rw [if_pos hfo] at h
      split at h <;> cases h
    · rw [if_neg hfo] at h ⊢
      obtain ⟨a1, a2, a3, a4, a5, a6⟩ := entry_ok hp hc h
      exact ⟨a1, a2, a3, a4.trans hf, a5, a6⟩
theorem next_bad {D : Dsc} (hf : D.fault = 0) (hp : D.place ≤ D.data.length) (hc : D.count ≤ 4096) (h : D.next.1.2.2 ≠ 0) : D.next.2.place ≤ D.data.length := by
  have key : ∀ D : Dsc, D.place ≤ D.data.length → D.count ≤ 4096 → D.entry.1.2.2 ≠ 0 → D.entry.2.place ≤ D.data.length := fun D hp hc h => by
    have hE := entry_cases D hp hc
    generalize D.entry = X at h hE
    cases hE with
    | txn t r e ht hlt => exact absurd rfl h
    | foot e => exact absurd rfl h
    | more e => exact absurd rfl h
    | bad D' e he hf' h1 h2 => exact h2
  unfold Dsc.next at h ⊢
  rw [if_neg (by simp [hf])] at h ⊢
  by_cases h0 : D.place = 0
  · rw [if_pos h0] at h ⊢
    cases hh : headAt magicB D.data 0 with
    | none =>
      rw [hh] at h
      exact key { D with place := 4 } (headAt_none _ _ _ hh) hc h
    | some r =>
      obtain ⟨i, c⟩ := r
      have hi := headAt_some _ _ _ _ _ hh
      rw [Nat.zero_add] at hi
      cases c
      · exact hi.2
      · dsimp only
        unfold Dsc.miss
        split
        · exact hi.2
        · exact hp
  · rw [if_neg h0] at h ⊢
    by_cases hfo : D.foot = true
    · rw [if_pos hfo]
      split
      · exact hp
      · exact hp
    · rw [if_neg hfo] at h ⊢
      exact key D hp hc h
theorem next_end {D : Dsc} (hen : D.ended = false) (hf : D.fault = 0) (hp : D.place ≤ D.data.length) (h1 : D.next.1.2.1 = false) (h2 : D.next.1.2.2 = 0) :
    (D.more [] true).next.1.2 = (false, 0) ∨ (∃ q, q ≤ D.data.length ∧ (D.more [] true).next.1.2.2 = 51 ∧ (D.more [] true).next.2.place = q) := by
  have key : ∀ D : Dsc, D.ended = false → D.place ≤ D.data.length → D.entry.1.2.1 = false → D.entry.1.2.2 = 0 → (D.more [] true).entry.1.2 = (false, 0) ∨ (∃ q, q ≤ D.data.length ∧ (D.more [] true).entry.1.2.2 = 51 ∧ (D.more [] true).entry.2.place = q) := fun D hen hp h1 h2 => by
    rcases entry_end hen hp h1 h2 with ⟨f1, f2, f3⟩ | ⟨f1, q, f2, f3, f4⟩
    · left
      rw [f3]
      exact Prod.ext h1 h2
    · right
      rw [f4]
      exact ⟨q, f3, rfl, rfl⟩
  have k1 := key D hen hp
  have k4 := fun h4 => key { D with place := 4 } hen h4
  obtain ⟨d, en, p, c, fo, fa⟩ := D
  dsimp only at hen hp hf k1 k4
  subst hen
  subst hf
  unfold Dsc.next at *
  rw [show (Dsc.more ⟨d, false, p, c, fo, 0⟩ [] true).data = d from List.append_nil d, show (Dsc.more ⟨d, false, p, c, fo, 0⟩ [] true).place = p from rfl, show (Dsc.more ⟨d, false, p, c, fo, 0⟩ [] true).fault = 0 from rfl, show (Dsc.more ⟨d, false, p, c, fo, 0⟩ [] true).foot = fo from rfl]
  dsimp only at h1 h2 ⊢
  simp only [ne_eq, not_true_eq_false, if_false] at h1 h2 ⊢
  by_cases h0 : p = 0
  · rw [if_pos h0] at h1 h2 ⊢
    cases hh : headAt magicB d 0 with
    | none =>
      rw [hh] at h1 h2
      have k5 := k4 (headAt_none _ _ _ hh) h1 h2
      rw [show (Dsc.mk d false 4 c fo 0).more [] true = ⟨d, true, 4, c, fo, 0⟩ by unfold Dsc.more; simp] at k5
      exact k5
    | some r =>
      obtain ⟨i, b⟩ := r
      have hi := headAt_some _ _ _ _ _ hh
      rw [Nat.zero_add] at hi
      rw [hh] at h1 h2
      cases b
      · have h' : (70 : Int) = 0 := h2
        cases h'
      · exact .inr ⟨i, hi.2, rfl, rfl⟩
  · rw [if_neg h0] at h1 h2 ⊢
    by_cases hfo : fo = true
    · rw [if_pos hfo] at h1 h2 ⊢
      by_cases hl : p < d.length
      · rw [if_pos hl] at h2
        have h' : (61 : Int) = 0 := h2
        cases h'
      · rw [if_neg hl]
        exact .inl rfl
    · rw [if_neg hfo] at h1 h2 ⊢
      exact k1 h1 h2
/-- bytes that are not all there: a log, an end, or a fault that stands whatever follows -/
theorem all_three : ∀ (k : Nat) {U : Dsc} (got : List TxnP), U.ended = false → U.fault = 0 → U.place ≤ U.data.length → U.count ≤ 4096 →
    (∃ L a, (U.more [] true).all k got = (L, a, 0)) ∨ (∃ q, q ≤ U.data.length ∧ (U.more [] true).all k got = ([], q, 51)) ∨ (∃ (q : Nat) (e : Int), e ≠ 0 ∧ q ≤ U.data.length ∧ ∀ s b, (U.more s b).all k got = ([], q, e))
  | 0, U, got, _, _, _, _ => .inl ⟨got, 0, rfl⟩
  | k + 1, U, got, hen, hf, hp, hc => by
    by_cases he : U.next.1.2.2 = 0
    · cases hok : U.next.1.2.1 with
      | true =>
        obtain ⟨a1, a2, a3, a4, a5, a6⟩ := next_ok hf hp hc hok
        have step : ∀ s b, (U.more s b).all (k + 1) got = (U.next.2.more s b).all k (got ++ [U.next.1.1]) := fun s b => by
          have hn := next_app hen hf hp s b (.inl hok)
          rw [Dsc.all, hn]
          dsimp only
          rw [if_neg (by rw [he]; simp), if_neg (by rw [hok]; simp)]
        rcases all_three k (U := U.next.2) (got ++ [U.next.1.1]) (a3.trans hen) a4 (by rw [a2]; exact a5) a6 with ⟨L, a, h⟩ | ⟨q, h1, h2⟩ | ⟨q, e, h1, h2, h3⟩
        · exact .inl ⟨L, a, by rw [step]; exact h⟩
        · exact .inr (.inl ⟨q, by rw [a2] at h1; exact h1, by rw [step]; exact h2⟩)
        · exact .inr (.inr ⟨q, e, h1, by rw [a2] at h2; exact h2, fun s b => by rw [step]; exact h3 s b⟩)
      | false =>
        rcases next_end hen hf hp hok he with h | ⟨q, h1, h2, h3⟩
        · left
          refine ⟨got, 0, ?_⟩
          rw [Dsc.all, h]
          simp
        · right; left
          refine ⟨q, h1, ?_⟩
          rw [Dsc.all, h2, h3]
          simp
    · right; right
      refine ⟨U.next.2.place, U.next.1.2.2, he, next_bad hf hp hc he, fun s b => ?_⟩
      have hn := next_app hen hf hp s b (.inr he)
      rw [Dsc.all, hn]
      dsimp only
      rw [if_pos he]
      rfl
/-- a right log cut anywhere ends -/
theorem log_cut {l : List TxnP} (hl : ∀ t ∈ l, t.Right) (hc : l.length ≤ 4096) {k : Nat} (hk : k < (logB l).length) : ∃ q, q ≤ k ∧ (⟨(logB l).take k, true, 0, 0, false, 0⟩ : Dsc).all 4097 [] = ([], q, 51) := by
  have hs : (logB l).drop k ≠ [] := by
    intro e
    have := congrArg List.length e
    simp at this
    omega
  have hlen : ((logB l).take k).length = k := by rw [List.length_take]; omega
  have hw : ∀ s b, (Dsc.mk ((logB l).take k) false 0 0 false 0).more s b = ⟨(logB l).take k ++ s, b, 0, 0, false, 0⟩ := fun s b => rfl
  rcases all_three 4097 (U := ⟨(logB l).take k, false, 0, 0, false, 0⟩) [] rfl rfl (Nat.zero_le _) (Nat.zero_le _) with ⟨L, a, h⟩ | ⟨q, h1, h2⟩ | ⟨q, e, h1, h2, h3⟩
  · rw [hw, List.append_nil] at h
    obtain ⟨g1, g2, g3, g4⟩ := log_inv h
    have h5 := log_at g2 g3 ((logB l).drop k) true
    rw [← g1, List.take_append_drop, if_neg hs] at h5
    have h6 := log_at hl hc [] true
    rw [List.append_nil, if_pos rfl, h5] at h6
    have h7 : (61 : Int) = 0 := congrArg (fun x => x.2.2) h6
    cases h7
  · rw [hw, List.append_nil] at h2
    dsimp only at h1
    rw [hlen] at h1
    exact ⟨q, h1, h2⟩
  · have h4 := h3 ((logB l).drop k) true
    rw [hw, List.take_append_drop] at h4
    have h6 := log_at hl hc [] true
    rw [List.append_nil, if_pos rfl, h4] at h6
    exact absurd (congrArg (fun x => x.2.2) h6) h1
end Go.Proofs.Ytjfjleejbbmmaaa
