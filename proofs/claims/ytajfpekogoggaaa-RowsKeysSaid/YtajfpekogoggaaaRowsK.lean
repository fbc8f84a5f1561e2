/- The keys of rows: what they are. -/
import Derived.Test.YtajfpekogoggaaaRowsCP
set_option linter.unusedVariables false
set_option linter.unusedSimpArgs false
namespace Go.Proofs.Ytajfpekogoggaaa
open Go
/-- a number in k bytes, the highest first -/
def bigB (n : Nat) : Nat → List UInt8
  | 0 => []
  | k + 1 => UInt8.ofNat (n / 256 ^ k % 256) :: bigB n k
theorem bigB_len (n : Nat) : ∀ k, (bigB n k).length = k
  | 0 => rfl
  | k + 1 => by rw [bigB, List.length_cons, bigB_len n k]
theorem bigB_mod : ∀ (k n : Nat), bigB (n % 256 ^ k) k = bigB n k
  | 0, n => rfl
  | k + 1, n => by
    have h1 : n % 256 ^ (k + 1) / 256 ^ k % 256 = n / 256 ^ k % 256 := by
      rw [Nat.pow_succ, Nat.mod_mul_right_div_self, Nat.mod_mod]
    have h2 : n % 256 ^ (k + 1) % 256 ^ k = n % 256 ^ k := Nat.mod_mod_of_dvd _ (Nat.pow_dvd_pow 256 (Nat.le_succ k))
    rw [bigB, bigB, h1, ← bigB_mod k (n % 256 ^ (k + 1)), h2, bigB_mod k n]
/-- two lists of bytes of one length compared -/
def lexC : List UInt8 → List UInt8 → Int
  | x :: p, y :: q => if x ≠ y then (if x < y then -1 else 1) else lexC p q
  | _, _ => 0
theorem lex_big : ∀ (k n m : Nat) (u v : List UInt8), n < 256 ^ k → m < 256 ^ k → lexC (bigB n k ++ u) (bigB m k ++ v) = if n < m then -1 else if m < n then 1 else lexC u v
  | 0, n, m, u, v, h1, h2 => by
    simp only [Nat.pow_zero] at h1 h2
    rw [if_neg (by omega), if_neg (by omega)]; rfl
  | k + 1, n, m, u, v, h1, h2 => by
    have hp : 0 < 256 ^ k := Nat.pow_pos (by decide)
    rw [Nat.pow_succ, Nat.mul_comm] at h1 h2
    have a1 : n / 256 ^ k < 256 := (Nat.div_lt_iff_lt_mul hp).2 h1
    have a2 : m / 256 ^ k < 256 := (Nat.div_lt_iff_lt_mul hp).2 h2
    have e1 := Nat.div_add_mod n (256 ^ k)
    have e2 := Nat.div_add_mod m (256 ^ k)
    have r1 := Nat.mod_lt n hp
    have r2 := Nat.mod_lt m hp
    have ih := lex_big k (n % 256 ^ k) (m % 256 ^ k) u v r1 r2
    rw [bigB_mod, bigB_mod] at ih
    rw [bigB, bigB, Nat.mod_eq_of_lt a1, Nat.mod_eq_of_lt a2, List.cons_append, List.cons_append, lexC, ih]
    generalize hx : n / 256 ^ k = x at *
    generalize hy : m / 256 ^ k = y at *
    generalize hz : 256 ^ k = z at *
    have t1 : (UInt8.ofNat x).toNat = x := by simp; omega
    have t2 : (UInt8.ofNat y).toNat = y := by simp; omega
    rcases Nat.lt_trichotomy x y with h | h | h
    · have hne : UInt8.ofNat x ≠ UInt8.ofNat y := fun e => by rw [e] at t1; omega
      have hlt : UInt8.ofNat x < UInt8.ofNat y := UInt8.lt_iff_toNat_lt.2 (by omega)
      have hm : z * (x + 1) ≤ z * y := Nat.mul_le_mul_left z h
      rw [Nat.mul_add, Nat.mul_one] at hm
      rw [if_pos hne, if_pos hlt, if_pos (by omega)]
    · subst h
      rw [if_neg (by simp)]
      by_cases c1 : n % z < m % z
      · rw [if_pos c1, if_pos (by omega)]
      · rw [if_neg c1]
        by_cases c2 : m % z < n % z
        · rw [if_pos c2, if_neg (by omega), if_pos (by omega)]
        · rw [if_neg c2, if_neg (by omega), if_neg (by omega)]
    · have hne : UInt8.ofNat x ≠ UInt8.ofNat y := fun e => by rw [e] at t1; omega
      have hlt : ¬ UInt8.ofNat x < UInt8.ofNat y := fun e => by have := UInt8.lt_iff_toNat_lt.1 e; omega
      have hm : z * (y + 1) ≤ z * x := Nat.mul_le_mul_left z h
      rw [Nat.mul_add, Nat.mul_one] at hm
      rw [if_pos hne, if_neg hlt, if_neg (by omega), if_pos (by omega)]
def keyB (k : Int) (r : RowW) : List UInt8 := bigB r.time.toNat 8 ++ (if k = 1 then bigB r.kind.toNat 1 else bigB r.seq.toNat 4) ++ bigB r.index.toNat 4
theorem lex_self : ∀ l : List UInt8, lexC l l = 0
  | [] => rfl
  | x :: r => by rw [lexC, if_neg (by simp), lex_self r]
theorem key_cmp {k : Int} (hk : k = 1 ∨ k = 2) {a b : RowW} (ha : a.Right) (hb : b.Right) : lexC (keyB k a) (keyB k b) = rowCmp k a b := by
  unfold RowW.Right at ha hb
  have l0 : lexC [] [] = 0 := rfl
  have key : ∀ (x y z x' y' z' : Int) (m : Nat), 0 ≤ x → 0 ≤ y → 0 ≤ z → 0 ≤ x' → 0 ≤ y' → 0 ≤ z' → x < 256 ^ 8 → x' < 256 ^ 8 → y.toNat < 256 ^ m → y'.toNat < 256 ^ m → z < 256 ^ 4 → z' < 256 ^ 4 →
      lexC (bigB x.toNat 8 ++ bigB y.toNat m ++ bigB z.toNat 4) (bigB x'.toNat 8 ++ bigB y'.toNat m ++ bigB z'.toNat 4) = firstNZ [cmpI x x', cmpI y y', cmpI z z'] := by
    intro x y z x' y' z' m h1 h2 h3 h4 h5 h6 b1 b2 b3 b4 b5 b6
    rw [List.append_assoc, List.append_assoc, lex_big _ _ _ _ _ (by omega) (by omega), lex_big _ _ _ _ _ b3 b4]
    have e := lex_big 4 z.toNat z'.toNat [] [] (by omega) (by omega)
    rw [List.append_nil, List.append_nil, l0] at e
    rw [e]
    simp only [firstNZ]
    rcases cmpI_cases x x' with ⟨h, e⟩ | ⟨h, e⟩ | ⟨h, e⟩ <;> rw [e]
    · rw [if_pos (by omega)]; rfl
    · rw [if_neg (by omega), if_pos (by omega)]; rfl
    · rw [if_neg (by omega), if_neg (by omega)]
      simp only [ne_eq, not_true_eq_false, if_false]
      rcases cmpI_cases y y' with ⟨h, e⟩ | ⟨h, e⟩ | ⟨h, e⟩ <;> rw [e]
      · rw [if_pos (by omega)]; rfl
      · rw [if_neg (by omega), if_pos (by omega)]; rfl
      · rw [if_neg (by omega), if_neg (by omega)]
        simp only [ne_eq, not_true_eq_false, if_false]
        rcases cmpI_cases z z' with ⟨h, e⟩ | ⟨h, e⟩ | ⟨h, e⟩ <;> rw [e]
        · rw [if_pos (by omega)]; rfl
        · rw [if_neg (by omega), if_pos (by omega)]; rfl
        · rw [if_neg (by omega), if_neg (by omega)]; rfl
  rcases hk with rfl | rfl
  · simp only [keyB, rowCmp, if_true]
    exact key _ _ _ _ _ _ 1 (by omega) (by omega) (by omega) (by omega) (by omega) (by omega) (by omega) (by omega) (by omega) (by omega) (by omega) (by omega)
  · have h21 : ¬ ((2 : Int) = 1) := by decide
    simp only [keyB, rowCmp, if_neg h21, if_true]
    exact key _ _ _ _ _ _ 4 (by omega) (by omega) (by omega) (by omega) (by omega) (by omega) (by omega) (by omega) (by omega) (by omega) (by omega) (by omega)
end Go.Proofs.Ytajfpekogoggaaa
