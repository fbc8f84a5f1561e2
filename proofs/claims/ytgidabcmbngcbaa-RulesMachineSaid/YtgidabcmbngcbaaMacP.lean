/- The document's machine: its log, in plain: every transaction is right, and no two of a session disagree. -/
import Derived.Test.YtgidabcmbngcbaaMac9
import Derived.Test.YtgidabcmbngcbaaSort5
set_option linter.unusedVariables false
set_option linter.unusedSimpArgs false
namespace Go.Proofs.Ytgidabcmbngcbaa
open Go
set_option maxRecDepth 20000
set_option maxHeartbeats 1000000
structure Good (t : TxnW) : Prop where
  err : t.err = 0
  sf : t.start < t.fin
  is : t.invoke < t.start
  rf : t.ret = t.fin
def Rel (t u : TxnW) : Prop := t.session = u.session → (t.seq < u.seq ∧ t.fin ≤ u.start) ∨ (u.seq < t.seq ∧ u.fin ≤ t.start)
def RelR (x y : RowW) : Prop := x.time = y.time → (x.seq < y.seq ∧ x.to ≤ y.fro) ∨ (y.seq < x.seq ∧ y.to ≤ x.fro)
theorem Rel.symm {t u : TxnW} (h : Rel t u) : Rel u t := fun e => (h e.symm).symm
theorem RelR.symm {t u : RowW} (h : RelR t u) : RelR u t := fun e => (h e.symm).symm
theorem sessU_rel {l : List TxnW} (h : l.Pairwise Rel) : ∀ n, (sessU l n).Pairwise RelR
  | 0 => List.Pairwise.nil
  | n + 1 => by
    rw [sessU, List.pairwise_append]
    refine ⟨sessU_rel h n, ?_, fun x hx y hy => ?_⟩
    · split
      · exact List.pairwise_singleton _ _
      · exact List.Pairwise.nil
    · obtain ⟨i, t, hi, ht, rfl⟩ := sessU_mem hx
      split at hy
      · rename_i u hu
        obtain rfl := List.mem_singleton.1 hy
        obtain ⟨h1, rfl⟩ := List.getElem?_eq_some_iff.1 ht
        obtain ⟨h2, rfl⟩ := List.getElem?_eq_some_iff.1 hu
        exact List.pairwise_iff_getElem.1 h i n h1 h2 hi
      · cases hy
theorem pairsU_nil {R : List RowW} (h : ∀ (n : Nat) (p r : RowW), R[n]? = some p → R[n + 1]? = some r → pairK p r = 0) : ∀ n, pairsU R n = []
  | 0 => rfl
  | n + 1 => by
    rw [pairsU, pairsU_nil h n]
    split
    · rename_i p r hp hr
      rw [pairL, if_pos (h n p r hp hr)]; rfl
    · rfl
theorem pairs_none {l : List TxnW} (h : l.Pairwise Rel) (n : Nat) : pairsU (sessS l) n = [] := by
  refine pairsU_nil (fun n p r hp hr => ?_) n
  have h1 := sessS_before l n p r hp hr
  have h2 := pairwise_get (((sortR_perm 2 _ (sessU l l.length) rfl).pairwise_iff (fun {x y} h => RelR.symm h)).2 (sessU_rel h _)) hp hr
  unfold rowBefore at h1
  unfold pairK
  by_cases ht : p.time = r.time
  · have := h2 ht
    rw [if_neg (by omega), if_neg (by omega)]
  · rw [if_neg (fun h => ht h.1), if_neg (fun h => ht h.1)]
theorem cntS_lt {s : Int} {L : List RunW} {i j : Nat} {r : RunW} (hij : i < j) (hi : L[i]? = some r) (hs : r.t.session = s) : cntS s (L.take i) < cntS s (L.take j) := by
  have h1 : L.take (i + 1) = L.take i ++ [r] := by
    rw [List.take_add_one, hi]; rfl
  have h2 : cntS s (L.take (i + 1)) = cntS s (L.take i) + 1 := by
    rw [h1, cntS_snoc, if_pos hs]
  have h3 : cntS s (L.take (i + 1)) ≤ cntS s (L.take j) := by
    have e : L.take j = L.take (i + 1) ++ (L.take j).drop (i + 1) := by
      have := (List.take_append_drop (i + 1) (L.take j)).symm
      rwa [List.take_take, Nat.min_eq_left (by omega)] at this
    rw [e]
    unfold cntS
    rw [List.filter_append, List.length_append]
    omega
  omega
theorem logL_mem {L : List RunW} {Z : List Nat} {t : TxnW} (h : t ∈ logL L Z) : ∃ z r, z ∈ Z ∧ L[z]? = some r ∧ t = r.t := by
  unfold logL at h
  obtain ⟨z, hz, h⟩ := List.mem_filterMap.1 h
  cases hr : L[z]? with
  | none => rw [hr] at h; cases h
  | some r =>
    rw [hr] at h
    exact ⟨z, r, hz, hr, by simpa using h.symm⟩
theorem logL_good {ses : Int} {st : MSt} (h : MOk ses st) {t : TxnW} (ht : t ∈ logL st.L st.Z) : Good t := by
  obtain ⟨z, r, hz, hr, rfl⟩ := logL_mem ht
  obtain ⟨r', hr', hst⟩ := h.inv.zok z hz
  rw [hr] at hr'
  obtain rfl : r = r' := by simpa using hr'
  have hm := List.mem_of_getElem? hr
  obtain ⟨h1, h2, h3⟩ := h.inv.run r hm
  obtain ⟨h4, h5, h6⟩ := h.runs.small r hm
  have hq := h.inv.seq z r hr
  have hc := cntS_le r.t.session (st.L.take z)
  rw [List.length_take] at hc
  have hl := h.inv.len
  have hs := h.inv.sesB
  have hk := h.inv.clk
  rcases h3 with h3 | h3
  · omega
  · refine ⟨err0 ?_ h4 h6, h3.2.1, h2.2.1, h3.2.2.1⟩
    obtain ⟨_, h31, h32, h33, h34⟩ := h3
    refine ⟨by omega, by omega, by omega, by omega, by omega, by omega, by omega⟩
theorem logL_rel {ses : Int} {st : MSt} (h : MOk ses st) : (logL st.L st.Z).Pairwise Rel := by
  unfold logL
  rw [List.pairwise_filterMap]
  have hone : ∀ (i j : Nat) (r u : RunW), i < j → st.L[i]? = some r → st.L[j]? = some u → r.t.session = u.t.session → r.t.seq < u.t.seq ∧ r.t.fin ≤ u.t.start := fun i j r u hij hi hj he => by
    have h1 := h.inv.seq i r hi
    have h2 := h.inv.seq j u hj
    have h3 := cntS_lt hij hi rfl
    rw [he] at h1 h3
    have h4 := (h.inv.ord i j r u hij hi hj he).2
    have h5 := (h.inv.run u (List.mem_of_getElem? hj)).iv
    rw [← he] at h2 h3
    rw [← he] at h1
    omega
  refine h.inv.znd.imp fun {a b} hab t ht u hu => ?_
  cases hr : st.L[a]? with
  | none => rw [hr] at ht; cases ht
  | some r =>
    cases hv : st.L[b]? with
    | none => rw [hv] at hu; cases hu
    | some v =>
      rw [hr] at ht
      rw [hv] at hu
      obtain rfl : r.t = t := by simpa using ht
      obtain rfl : v.t = u := by simpa using hu
      intro he
      rcases Nat.lt_or_gt_of_ne hab with h1 | h1
      · exact .inl (hone a b r v h1 hr hv he)
      · exact .inr (hone b a v r h1 hv hr he.symm)
def rot (k : Nat) (l : List TxnW) : List TxnW := l.drop k ++ l.take k
theorem rot_perm (k : Nat) (l : List TxnW) : (rot k l).Perm l := (List.perm_append_comm).trans (by rw [List.take_append_drop])
theorem rot_len (k : Nat) (l : List TxnW) : (rot k l).length = l.length := (rot_perm k l).length_eq
theorem rot_rel {k : Nat} {l : List TxnW} (h : l.Pairwise Rel) : (rot k l).Pairwise Rel := ((rot_perm k l).pairwise_iff (fun {x y} h => Rel.symm h)).2 h
theorem shape_good {t : TxnW} (h : Good t) {p : Int} (hp : 0 ≤ p ∧ p ≤ 4095) : shapeErr p t 0 = 0 ∧ shapeL p t 0 = [] := by
  obtain ⟨h1, h2, h3, h4⟩ := h
  obtain ⟨e1, e2⟩ := shapeGood (eps := 0) hp (by omega) h1
  refine ⟨e1, e2.trans ?_⟩
  show upto p t 0 4 = []
  simp only [upto, part]
  rw [p1, p2, p3, p4, if_neg (by omega), if_neg (by omega), if_neg (by omega), if_neg (by omega)]
  rfl
end Go.Proofs.Ytgidabcmbngcbaa
