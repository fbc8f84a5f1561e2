/- Numbers and texts in bytes: plain facts: what is written is read, what is read was written, what is cut is an end. -/
import Derived.Test.YtajfpekogoggaaaWire4
set_option linter.unusedVariables false
set_option linter.unusedSimpArgs false
namespace Go.Proofs.Ytajfpekogoggaaa
open Go
theorem scanL_form : ∀ (l : List UInt8) (i acc n size : Nat), scanL i acc l = (n, size, 0) → ∃ m, n = acc + m * 128 ^ i ∧ l.take (size - i) = formN m ∧ size = i + (formN m).length ∧ size ≤ 8 ∧ (0 < i → 0 < m)
  | [], i, acc, n, size, h => by simp only [scanL] at h; split at h <;> simp at h
  | b :: r, i, acc, n, size, h => by
    have hb := b.toNat_lt
    simp only [scanL] at h
    split at h
    · simp at h
    · rename_i h8
      split at h
      · rename_i h1
        split at h
        · simp at h
        · rename_i h2
          simp only [Prod.mk.injEq] at h
          obtain ⟨rfl, rfl, _⟩ := h
          refine ⟨b.toNat, rfl, ?_, ?_, by omega, by omega⟩
          · rw [formN_lt h1, show i + 1 - i = 1 by omega]; simp
          · rw [formN_lt h1]; rfl
      · rename_i h1
        obtain ⟨m, h2, h3, h4, h5, h6⟩ := scanL_form r _ _ _ _ h
        have hm : 0 < m := h6 (by omega)
        have hge := formN_ge (n := b.toNat % 128 + 128 * m) (by omega)
        rw [show (b.toNat % 128 + 128 * m) / 128 = m by omega, show (b.toNat % 128 + 128 * m) % 128 + 128 = b.toNat by omega] at hge
        refine ⟨b.toNat % 128 + 128 * m, ?_, ?_, ?_, h5, by omega⟩
        · rw [h2, Nat.pow_succ, Nat.add_mul, Nat.add_assoc]
          congr 2
          rw [Nat.mul_comm (128 ^ i) 128, ← Nat.mul_assoc, Nat.mul_comm m 128]
        · have : size - i = (size - (i + 1)) + 1 := by omega
          rw [this, List.take_succ_cons, h3, hge]
          simp
        · rw [hge, List.length_cons]; omega

theorem scanL_app (r : List UInt8) : ∀ (n i acc : Nat), i + (formN n).length ≤ 8 → (0 < i → 0 < n) → scanL i acc (formN n ++ r) = (acc + n * 128 ^ i, i + (formN n).length, 0) := by
  intro n
  induction n using Nat.strongRecOn with
  | _ n ih =>
    intro i acc hi h0
    by_cases hn : n < 128
    · rw [formN_lt hn] at hi ⊢
      have hb : (UInt8.ofNat n).toNat = n := by simp; omega
      simp only [List.cons_append, List.nil_append, scanL, hb, List.length_cons, List.length_nil] at hi ⊢
      rw [if_neg (by omega), if_pos hn, if_neg (by omega)]
    · rw [formN_ge (by omega)] at hi ⊢
      have hb : (UInt8.ofNat (n % 128 + 128)).toNat = n % 128 + 128 := by simp; omega
      simp only [List.cons_append, scanL, hb, List.length_cons] at hi ⊢
      rw [if_neg (by omega), if_neg (by omega), ih (n / 128) (by omega) (i + 1) _ (by omega) (by omega)]
      have h1 : (n % 128 + 128) % 128 = n % 128 := by omega
      rw [h1]
      have h2 : n % 128 * 128 ^ i + n / 128 * 128 ^ (i + 1) = n * 128 ^ i := by
        rw [Nat.pow_succ, Nat.mul_comm (128 ^ i) 128, ← Nat.mul_assoc, ← Nat.add_mul]
        congr 1; omega
      refine Prod.ext ?_ (Prod.ext ?_ rfl)
      · dsimp only; omega
      · dsimp only; omega
theorem scanL_cut (i acc n k : Nat) (hi : i + k < 8) (hk : k < (formN n).length) : scanL i acc ((formN n).take k) = (0, 0, 51) := by
  induction k generalizing i acc n with
  | zero => simp only [List.take_zero, scanL]; rw [if_neg (by omega)]
  | succ k ih =>
    by_cases h : n < 128
    · rw [formN_lt h] at hk; simp at hk
    · rw [formN_ge (by omega)] at hk ⊢
      simp only [List.length_cons] at hk
      have hb : (UInt8.ofNat (n % 128 + 128)).toNat = n % 128 + 128 := by simp; omega
      simp only [List.take_succ_cons, scanL]
      rw [if_neg (by omega), hb, if_neg (by omega)]
      exact ih _ _ _ (by omega) (by omega)

theorem cNumber_at {d r : List UInt8} {p n : Nat} {most : Int} (hn : n ≤ 72057594037927935) (hm : (n : Int) ≤ most) (h : d.drop p = formN n ++ r) : cNumber d p 0 most = ((n : Int), 0, p + (formN n).length, 0) := by
  have h8 := formN_len8 hn
  have hs := scanL_app r n 0 0 (by omega) (by omega)
  unfold cNumber
  rw [h, hs]
  simp only [Nat.zero_add, Nat.pow_zero, Nat.mul_one, ne_eq, not_true_eq_false, if_false]
  rw [if_neg (by omega)]
theorem cNumber_far {d r : List UInt8} {p n : Nat} {most : Int} (hn : n ≤ 72057594037927935) (hm : most < (n : Int)) (h : d.drop p = formN n ++ r) : cNumber d p 0 most = (0, 53, p, 53) := by
  have h8 := formN_len8 hn
  have hs := scanL_app r n 0 0 (by omega) (by omega)
  unfold cNumber
  rw [h, hs]
  simp only [Nat.zero_add, Nat.pow_zero, Nat.mul_one, ne_eq, not_true_eq_false, if_false]
  rw [if_pos (by omega)]
theorem drop_drop_app {d a r : List UInt8} {p : Nat} (h : d.drop p = a ++ r) : d.drop (p + a.length) = r := by
  rw [← List.drop_drop, h, List.drop_left]
theorem cText_at {d r : List UInt8} {p : Nat} {s : ByteArray} {least most : Int} (hn : s.size ≤ 1048576) (h1 : least ≤ s.size) (h2 : (s.size : Int) ≤ most) (h : d.drop p = textB s ++ r) : cText d p 0 least most = (s.data.toList, 0, p + (textB s).length, 0) := by
  have h8 := formN_len8 (n := s.size) (by omega)
  have h0 := formN_pos s.size
  have hs := scanL_app (s.data.toList ++ r) s.size 0 0 (by omega) (by omega)
  rw [textB, List.append_assoc] at h
  have e : s.data.size = s.size := rfl
  have hl := congrArg List.length h
  simp only [List.length_drop, List.length_append, Array.length_toList, e] at hl
  have hd : d.drop (p + (formN s.size).length) = s.data.toList ++ r := drop_drop_app h
  unfold cText
  rw [h, hs]
  simp only [Nat.zero_add, Nat.pow_zero, Nat.mul_one, ne_eq, not_true_eq_false, if_false]
  rw [if_neg (by omega), if_neg (by omega), hd, List.take_left' (by simp [e])]
  simp only [textB, List.length_append, Array.length_toList, e, Nat.add_assoc]
theorem scan_form {d : List UInt8} {p n s : Nat} (hp : p ≤ d.length) (h : scanL 0 0 (d.drop p) = (n, s, 0)) : d.drop p = formN n ++ d.drop (p + s) ∧ s = (formN n).length ∧ p + s ≤ d.length ∧ 0 < s ∧ s ≤ 8 := by
  obtain ⟨m, h1, h2, h3, h4, _⟩ := scanL_form _ _ _ _ _ h
  have hz := scanL_size (d.drop p) 0 0
  rw [h] at hz
  have hz := hz rfl
  simp only [List.length_drop] at hz
  simp only [Nat.zero_add, Nat.pow_zero, Nat.mul_one, Nat.sub_zero] at h1 h2 h3
  subst h1
  refine ⟨?_, h3, by omega, by omega, h4⟩
  rw [← h2, ← List.drop_drop, List.take_append_drop]
theorem cNumber_form {d : List UInt8} {p q : Nat} {v f most : Int} (hp : p ≤ d.length) (h : cNumber d p 0 most = (v, 0, q, f)) :
    ∃ n : Nat, v = n ∧ (n : Int) ≤ most ∧ d.drop p = formN n ++ d.drop q ∧ q = p + (formN n).length ∧ q ≤ d.length ∧ f = 0 ∧ n < 128 ^ 8 := by
  unfold cNumber at h
  rw [if_neg (by omega)] at h
  have hv := scanL_val (d.drop p) 0 0 (by omega) (by omega)
  generalize hs : scanL 0 0 (d.drop p) = sc at h hv
  obtain ⟨n, s, e⟩ := sc
  dsimp only at h hv
  split at h
  · rename_i h1
    simp only [Prod.mk.injEq] at h
    exact absurd h.2.1 h1
  · rename_i h1
    obtain rfl : e = 0 := Decidable.not_not.1 h1
    split at h
    · simp at h
    · rename_i h2
      simp only [Prod.mk.injEq] at h
      obtain ⟨rfl, _, rfl, rfl⟩ := h
      obtain ⟨a1, a2, a3, a4, a5⟩ := scan_form hp hs
      exact ⟨n, rfl, by omega, a1, by omega, a3, rfl, hv⟩
theorem cText_form {d l : List UInt8} {p q : Nat} {f least most : Int} (hp : p ≤ d.length) (h : cText d p 0 least most = (l, 0, q, f)) :
    least ≤ l.length ∧ (l.length : Int) ≤ most ∧ d.drop p = formN l.length ++ l ++ d.drop q ∧ q = p + (formN l.length).length + l.length ∧ q ≤ d.length ∧ f = 0 := by
  unfold cText at h
  rw [if_neg (by omega)] at h
  generalize hs : scanL 0 0 (d.drop p) = sc at h
  obtain ⟨n, s, e⟩ := sc
  dsimp only at h
  split at h
  · rename_i h1
    simp only [Prod.mk.injEq] at h
    exact absurd h.2.1 h1
  · rename_i h1
    obtain rfl : e = 0 := Decidable.not_not.1 h1
    split at h
    · simp at h
    · rename_i h2
      split at h
      · simp at h
      · rename_i h3
        simp only [Prod.mk.injEq] at h
        obtain ⟨rfl, _, rfl, rfl⟩ := h
        obtain ⟨a1, a2, a3, a4, a5⟩ := scan_form hp hs
        have hl : ((d.drop (p + s)).take n).length = n := by simp; omega
        rw [hl]
        refine ⟨by omega, by omega, ?_, by omega, by omega, rfl⟩
        rw [a1, List.append_assoc]
        congr 1
        rw [show d.drop (p + s + n) = (d.drop (p + s)).drop n by rw [List.drop_drop], List.take_append_drop]
end Go.Proofs.Ytajfpekogoggaaa
