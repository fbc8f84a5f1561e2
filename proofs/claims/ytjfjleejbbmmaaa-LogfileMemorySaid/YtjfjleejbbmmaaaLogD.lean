/- Readings of logs of which not all bytes are there. -/
import Derived.Test.YtjfjleejbbmmaaaLogC
set_option linter.unusedVariables false
set_option linter.unusedSimpArgs false
namespace Go.Proofs.Ytjfjleejbbmmaaa
open Go
/-- the same with more bytes behind, and all there or not -/
def Dsc.more (D : Dsc) (s : List UInt8) (b : Bool) : Dsc := { D with data := D.data ++ s, ended := b }
theorem headAt_app : ∀ (m l s : List UInt8) (i : Nat) (r : Option (Nat × Bool)), headAt m l i = r → (∀ j, r ≠ some (j, true)) → headAt m (l ++ s) i = r
  | [], _, _, _, _, h, _ => h
  | _ :: _, [], s, i, r, h, hn => absurd h.symm (hn i)
  | m :: q, x :: l, s, i, r, h, hn => by
    simp only [headAt, List.cons_append] at h ⊢
    split
    · rename_i e
      rw [if_pos e] at h
      exact headAt_app q l s (i + 1) r h hn
    · rename_i e
      rw [if_neg e] at h
      exact h
theorem footer_app {D : Dsc} (hen : D.ended = false) (hp : D.place + 1 ≤ D.data.length) (s : List UInt8) (b : Bool) (h : D.footer.1 ≠ 0) : (D.more s b).footer = (D.footer.1, D.footer.2.more s b) := by
  obtain ⟨d, en, p, c, fo, fa⟩ := D
  dsimp only at hen hp
  subst hen
  unfold Dsc.footer Dsc.more at *
  dsimp only at *
  cases hm : numP d (p + 1) 4096 with
  | error e =>
    rw [hm] at h
    dsimp only at h
    by_cases h51 : e.2 = 51
    · rw [if_pos h51] at h
      exact absurd rfl h
    · rw [(good_num 4096).errApp s hp hm h51]
      dsimp only
      rw [if_neg h51, if_neg h51]
      rfl
  | ok y =>
    obtain ⟨m, z⟩ := y
    rw [hm] at h
    rw [(good_num 4096).okApp s hp hm]
    dsimp only at h ⊢
    by_cases hmc : m ≠ c
    · rw [if_pos hmc, if_pos hmc]
      rfl
    · rw [if_neg hmc] at h ⊢
      rw [if_neg hmc]
      by_cases hz : z < d.length
      · rw [if_pos hz, if_pos (show z < (d ++ s).length by rw [List.length_append]; omega)]
      · rw [if_neg hz] at h
        exact absurd rfl h
theorem entry_app {D : Dsc} (hen : D.ended = false) (hp : D.place ≤ D.data.length) (s : List UInt8) (b : Bool) (h : D.entry.1.2.1 = true ∨ D.entry.1.2.2 ≠ 0) : (D.more s b).entry = (D.entry.1, D.entry.2.more s b) := by
  have hfa := fun hp1 => footer_app (D := D) hen hp1 s b
  obtain ⟨d, en, p, c, fo, fa⟩ := D
  dsimp only at hen hp hfa
  subst hen
  unfold Dsc.entry at *
  rw [show (Dsc.more ⟨d, false, p, c, fo, fa⟩ s b).data = d ++ s from rfl, show (Dsc.more ⟨d, false, p, c, fo, fa⟩ s b).place = p from rfl, show (Dsc.more ⟨d, false, p, c, fo, fa⟩ s b).count = c from rfl]
  dsimp only at h ⊢
  cases hn : numP d p 512 with
  | error e =>
    rw [hn] at h
    dsimp only at h
    by_cases h51 : e.2 = 51
    · rw [if_pos h51] at h
      rcases h with h | h
      · cases h
      · exact absurd rfl h
    · rw [(good_num 512).errApp s hp hn h51]
      dsimp only
      rw [if_neg h51, if_neg h51]
      rfl
  | ok x =>
    obtain ⟨n, q⟩ := x
    obtain ⟨q1, q2, q3⟩ := numP_le hp hn
    rw [hn] at h
    rw [(good_num 512).okApp s hp hn]
    dsimp only at h ⊢
    by_cases hz : n = 0
    · rw [if_pos hz] at h ⊢
      rw [if_pos hz]
      have hf : (Dsc.mk d false p c fo fa).footer.1 ≠ 0 := by
        rcases h with h | h
        · cases h
        · exact h
      rw [hfa (by omega) hf]
    rw [if_neg hz] at h ⊢
    rw [if_neg hz]
    by_cases hc : 4096 ≤ c
    · rw [if_pos hc, if_pos hc]
      rfl
    rw [if_neg hc] at h ⊢
    rw [if_neg hc]
    by_cases hl : d.length < q + n
    · rw [if_pos hl] at h
      rcases h with h | h
      · cases h
      · exact absurd rfl h
    rw [if_neg hl, if_neg (show ¬ (d ++ s).length < q + n by rw [List.length_append]; omega)]
    rw [List.drop_append_of_le_length q1, List.take_append_of_le_length (by rw [List.length_drop]; omega)]
    split <;> rfl
theorem next_app {D : Dsc} (hen : D.ended = false) (hf : D.fault = 0) (hp : D.place ≤ D.data.length) (s : List UInt8) (b : Bool) (h : D.next.1.2.1 = true ∨ D.next.1.2.2 ≠ 0) : (D.more s b).next = (D.next.1, D.next.2.more s b) := by
  have hea := entry_app (D := D) hen hp s b
  have he4 := fun h4 => entry_app (D := { D with place := 4 }) hen h4 s b
  obtain ⟨d, en, p, c, fo, fa⟩ := D
  dsimp only at hen hp hf hea he4
  subst hen
  subst hf
  unfold Dsc.next at *
  rw [show (Dsc.more ⟨d, false, p, c, fo, 0⟩ s b).data = d ++ s from rfl, show (Dsc.more ⟨d, false, p, c, fo, 0⟩ s b).place = p from rfl, show (Dsc.more ⟨d, false, p, c, fo, 0⟩ s b).fault = 0 from rfl, show (Dsc.more ⟨d, false, p, c, fo, 0⟩ s b).foot = fo from rfl]
  dsimp only at h ⊢
  simp only [ne_eq, not_true_eq_false, if_false] at h ⊢
  by_cases h0 : p = 0
  · rw [if_pos h0] at h ⊢
    rw [if_pos h0]
    cases hh : headAt magicB d 0 with
    | none =>
      rw [hh] at h
      rw [headAt_app _ _ s _ _ hh (fun j e => by cases e)]
      dsimp only at h ⊢
      exact he4 (headAt_none _ _ _ hh) h
    | some r =>
      obtain ⟨i, c⟩ := r
      rw [hh] at h
      cases c
      · rw [headAt_app _ _ s _ _ hh (fun j e => by cases e)]
        rfl
      · rcases h with h | h
        · cases h
        · exact absurd rfl h
  · rw [if_neg h0] at h ⊢
    rw [if_neg h0]
    by_cases hfo : fo = true
    · rw [if_pos hfo] at h ⊢
      rw [if_pos hfo]
      by_cases hl : p < d.length
      · rw [if_pos hl, if_pos (show p < (d ++ s).length by rw [List.length_append]; omega)]
        rfl
      · rw [if_neg hl] at h
        rcases h with h | h
        · cases h
        · exact absurd rfl h
    · rw [if_neg hfo] at h ⊢
      rw [if_neg hfo]
      exact hea h
/-- a reading that waits is at an end when there is no more -/
theorem footer_end {D : Dsc} (hen : D.ended = false) (hp : D.place + 1 ≤ D.data.length) (h : D.footer.1 = 0) : (D.footer.2.foot = true ∧ D.footer.2.place = D.data.length ∧ (D.more [] true).footer = (0, D.footer.2.more [] true)) ∨
    (D.footer.2 = D ∧ ∃ q, D.place ≤ q ∧ q ≤ D.data.length ∧ (D.more [] true).footer = (51, (D.more [] true).fail q 51)) := by
  obtain ⟨d, en, p, c, fo, fa⟩ := D
  dsimp only at hen hp
  subst hen
  unfold Dsc.footer Dsc.more at *
  dsimp only at *
  rw [List.append_nil]
  cases hm : numP d (p + 1) 4096 with
  | error e =>
    rw [hm] at h
    obtain ⟨e1, e2⟩ := numP_err hm
    dsimp only at h ⊢
    by_cases h51 : e.2 = 51
    · rw [if_pos h51, if_pos h51]
      exact .inr ⟨rfl, p + 1, by omega, hp, rfl⟩
    · rw [if_neg h51] at h
      exact absurd h e2
  | ok y =>
    obtain ⟨m, z⟩ := y
    obtain ⟨z1, z2, z3⟩ := numP_le hp hm
    rw [hm] at h
    dsimp only at h ⊢
    by_cases hmc : m ≠ c
    · rw [if_pos hmc] at h
      have h' : (72 : Int) = 0 := h
      cases h'
    · rw [if_neg hmc] at h ⊢
      rw [if_neg hmc]
      by_cases hz : z < d.length
      · rw [if_pos hz] at h
        have h' : (61 : Int) = 0 := h
        cases h'
      · rw [if_neg hz, if_neg hz]
        have hz' : z = d.length := by omega
        left
        refine ⟨rfl, hz', ?_⟩
        simp
theorem entry_end {D : Dsc} (hen : D.ended = false) (hp : D.place ≤ D.data.length) (h1 : D.entry.1.2.1 = false) (h2 : D.entry.1.2.2 = 0) : (D.entry.2.foot = true ∧ D.entry.2.place = D.data.length ∧ (D.more [] true).entry = (D.entry.1, D.entry.2.more [] true)) ∨
    (D.entry.2 = D ∧ ∃ q, D.place ≤ q ∧ q ≤ D.data.length ∧ (D.more [] true).entry = ((TxnP.zero, false, 51), (D.more [] true).fail q 51)) := by
  have hfa := fun hp1 => footer_end (D := D) hen hp1
  obtain ⟨d, en, p, c, fo, fa⟩ := D
  dsimp only at hen hp hfa
  subst hen
  unfold Dsc.entry at *
  rw [show (Dsc.more ⟨d, false, p, c, fo, fa⟩ [] true).data = d from List.append_nil d, show (Dsc.more ⟨d, false, p, c, fo, fa⟩ [] true).place = p from rfl, show (Dsc.more ⟨d, false, p, c, fo, fa⟩ [] true).count = c from rfl]
  dsimp only at h1 h2 ⊢
  cases hn : numP d p 512 with
  | error e =>
    rw [hn] at h1 h2
    obtain ⟨e1, e2⟩ := numP_err hn
    dsimp only at h1 h2 ⊢
    by_cases h51 : e.2 = 51
    · rw [if_pos h51, if_pos h51]
      exact .inr ⟨rfl, p, Nat.le_refl _, hp, rfl⟩
    · rw [if_neg h51] at h2
      exact absurd h2 e2
  | ok x =>
    obtain ⟨n, q⟩ := x
    obtain ⟨q1, q2, q3⟩ := numP_le hp hn
    rw [hn] at h1 h2
    dsimp only at h1 h2 ⊢
    by_cases hz : n = 0
    · rw [if_pos hz] at h2 ⊢
      rw [if_pos hz]
      rcases hfa (by omega) h2 with ⟨f1, f2, f3⟩ | ⟨f1, q, f2, f3, f4⟩
      · left
        rw [f3]
        have h2' : (Dsc.mk d false p c fo fa).footer.1 = 0 := h2
        exact ⟨f1, f2, by dsimp only; rw [h2']⟩
      · right
        rw [f4]
        exact ⟨f1, q, f2, f3, rfl⟩
    rw [if_neg hz] at h1 h2 ⊢
    rw [if_neg hz]
    by_cases hc : 4096 ≤ c
    · rw [if_pos hc] at h2
      have h' : (71 : Int) = 0 := h2
      cases h'
    rw [if_neg hc] at h1 h2 ⊢
    rw [if_neg hc]
    by_cases hl : d.length < q + n
    · rw [if_pos hl, if_pos hl]
      exact .inr ⟨rfl, p, Nat.le_refl _, hp, rfl⟩
    rw [if_neg hl] at h1 h2
    by_cases hr : (decR ((d.drop q).take n)).2.2 ≠ 0
    · rw [if_pos hr] at h2
      exact absurd h2 hr
    · rw [if_neg hr] at h1
      cases h1
end Go.Proofs.Ytjfjleejbbmmaaa
