/- Repeats counted: the plain law. -/
import Derived.Test.YtgidabcmbngcbaaSort4
set_option linter.unusedVariables false
set_option linter.unusedSimpArgs false
namespace Go.Proofs.Ytgidabcmbngcbaa
open Go
def dupT : List (Int × Int) → Nat
  | [] => 0
  | k :: r => dupT r + (if k ∈ r then 1 else 0)
theorem dupT_perm {a b : List (Int × Int)} (h : a.Perm b) : dupT a = dupT b := by
  induction h with
  | nil => rfl
  | cons x h ih => simp only [dupT, ih, h.mem_iff]
  | swap x y l =>
    simp only [dupT, List.mem_cons]
    by_cases e : x = y
    · subst e; rfl
    · have e' : ¬ y = x := fun h => e h.symm
      simp only [e, e', false_or]; omega
  | trans _ _ h1 h2 => exact h1.trans h2
theorem dupT_snoc (ks : List (Int × Int)) (k : Int × Int) : dupT (ks ++ [k]) = dupT ks + (if k ∈ ks then 1 else 0) :=
  (dupT_perm (List.perm_append_comm (l₁ := ks) (l₂ := [k]))).trans (by simp [dupT])
def keyR (r : RowW) : Int × Int := (r.time, r.seq)
def keyT (t : TxnW) : Int × Int := (t.session, t.seq)
def cnt9 (L : List ViolW) : Nat := (L.filter (fun v => decide (v.kind = 9))).length
theorem cnt9_append (a b : List ViolW) : cnt9 (a ++ b) = cnt9 a + cnt9 b := by simp [cnt9]
theorem pairsU_cons (x : RowW) (R : List RowW) : ∀ n, pairsU (x :: R) (n + 1) = (match R[0]? with | some y => pairL x y | none => []) ++ pairsU R n
  | 0 => by
    simp only [pairsU, List.nil_append, List.getElem?_cons_zero, List.getElem?_cons_succ, List.append_nil]
    cases R <;> rfl
  | n + 1 => by
    rw [pairsU, pairsU_cons x R n, List.append_assoc]
    congr 1
theorem cnt9_pair (x y : RowW) : cnt9 (pairL x y) = if keyR x = keyR y then 1 else 0 := by
  unfold pairL pairK keyR
  by_cases h : x.time = y.time ∧ x.seq = y.seq
  · obtain ⟨h1, h2⟩ := h
    simp [h1, h2, cnt9, pairV]
  · have h' : ¬ ((x.time, x.seq) = (y.time, y.seq)) := fun e => h (by simpa using e)
    rw [if_neg h, if_neg h']
    by_cases h2 : x.time = y.time ∧ y.fro < x.to
    · simp [h2, cnt9, pairV]
    · simp [h2, cnt9]
theorem cnt_sorted : ∀ R : List RowW, R.Pairwise rowLe → cnt9 (pairsU R (R.length - 1)) = dupT (R.map keyR)
  | [], _ => rfl
  | [x], _ => rfl
  | x :: y :: r, h => by
    have ih := cnt_sorted (y :: r) (List.pairwise_cons.1 h).2
    have e : (x :: y :: r).length - 1 = (y :: r).length - 1 + 1 := rfl
    rw [e, pairsU_cons, cnt9_append, ih]
    simp only [List.getElem?_cons_zero, cnt9_pair, List.map_cons]
    rw [show dupT (keyR x :: keyR y :: r.map keyR) = dupT (keyR y :: r.map keyR) + (if keyR x ∈ keyR y :: r.map keyR then 1 else 0) from rfl]
    have hk : (keyR x ∈ keyR y :: r.map keyR) ↔ keyR x = keyR y := by
      rw [List.mem_cons]
      refine ⟨fun hm => ?_, .inl⟩
      rcases hm with hm | hm
      · exact hm
      · obtain ⟨z, hz, e2⟩ := List.mem_map.1 hm
        have h1 := (List.pairwise_cons.1 h).1 y (by simp)
        have h2 := (List.pairwise_cons.1 (List.pairwise_cons.1 h).2).1 z hz
        unfold rowLe rowBefore at h1 h2
        simp only [keyR, Prod.mk.injEq] at e2 ⊢
        omega
    simp only [hk]
    omega
theorem sessU_keys {l : List TxnW} : ∀ {n : Nat}, n ≤ l.length → (sessU l n).map keyR = (l.take n).map keyT
  | 0, _ => rfl
  | n + 1, h => by
    have ht := List.getElem?_eq_getElem (show n < l.length by omega)
    rw [sessU_step ht, List.map_append, sessU_keys (by omega), List.take_add_one, ht, List.map_append]
    rfl
theorem cnt_sess (l : List TxnW) : cnt9 (pairsU (sessS l) (l.length - 1)) = dupT (l.map keyT) := by
  have hsl : (sessS l).length = l.length := (sortR_len 2 _ _ rfl).trans (sessU_len (Nat.le_refl _))
  rw [← hsl, cnt_sorted (sessS l) (sortR_sorted _ _ rfl), show sessS l = sortR 2 (sessU l l.length) from rfl, dupT_perm ((sortR_perm 2 _ (sessU l l.length) rfl).map keyR), sessU_keys (Nat.le_refl _), List.take_length]
theorem pairK_time {p r : RowW} (h : ¬ pairK p r = 0) : p.time = r.time := by
  by_cases h1 : p.time = r.time
  · exact h1
  · exfalso; apply h
    unfold pairK
    rw [if_neg (fun h => h1 h.1), if_neg (fun h => h1 h.1)]
/-- what is told of a violation -/
theorem pairsU_mem {l : List TxnW} : ∀ {n : Nat} {v : ViolW}, v ∈ pairsU (sessS l) n → ∃ (i j : Nat) (t u : TxnW), l[i]? = some t ∧ l[j]? = some u ∧ v.txn = (i : Nat) ∧ v.witness = (j : Nat) ∧ t.session = u.session ∧ v.to = t.start ∧ v.fro = u.fin
  | 0, v, h => by simp [pairsU] at h
  | n + 1, v, h => by
    rw [pairsU] at h
    rcases List.mem_append.1 h with h | h
    · exact pairsU_mem h
    · split at h
      · rename_i p r hp hr
        obtain ⟨j, u, _, hu, rfl⟩ := sessS_mem (List.mem_of_getElem? hp)
        obtain ⟨i, t, _, ht, rfl⟩ := sessS_mem (List.mem_of_getElem? hr)
        unfold pairL at h
        split at h
        · simp at h
        · rename_i hne
          obtain rfl : v = _ := by simpa using h
          refine ⟨i, j, t, u, ht, hu, rfl, rfl, ?_, rfl, rfl⟩
          exact (pairK_time hne).symm
      · simp at h
end Go.Proofs.Ytgidabcmbngcbaa
