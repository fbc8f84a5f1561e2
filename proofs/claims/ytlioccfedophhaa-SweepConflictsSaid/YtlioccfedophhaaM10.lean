/- Parts of the proof: SwCa. -/
import Derived.Test.YtlioccfedophhaaM9
/- The sweep: how many conflicts are told, in plain. -/
set_option linter.unusedVariables false
set_option linter.unusedSimpArgs false
namespace Go.Proofs.Ytlioccfedophhaa
open Go
set_option maxRecDepth 20000
set_option maxHeartbeats 1000000
def eight (v : ViolW) : Bool := decide (v.kind = 8)
/-- a committed transaction of place b that writes the key comes in between -/
def hitP (i : Nat) (t : TxnW) (k : ByteArray) (b : Nat) (u : TxnW) : Prop := b ≠ i ∧ u.status = 1 ∧ u.start < u.fin ∧ (u.fin < t.fin ∨ (u.fin = t.fin ∧ b < i)) ∧ t.start < u.fin ∧ 0 ≤ leftN k u.ops.xs u.ops.xs.length
instance hitDec (i : Nat) (t : TxnW) (k : ByteArray) (b : Nat) (u : TxnW) : Decidable (hitP i t k b u) := inferInstanceAs (Decidable (_ ∧ _))
def hitN (l : List TxnW) (i : Nat) (t : TxnW) (k : ByteArray) : Nat → Bool
  | 0 => false
  | n + 1 => hitN l i t k n || (match l[n]? with
    | some u => decide (hitP i t k n u)
    | none => false)
theorem hitN_step {l : List TxnW} {i : Nat} {t : TxnW} {k : ByteArray} {n : Nat} {u : TxnW} (h : l[n]? = some u) : hitN l i t k (n + 1) = (hitN l i t k n || decide (hitP i t k n u)) := by
  conv => lhs; unfold hitN
  rw [h]
theorem hitN_iff {l : List TxnW} {i : Nat} {t : TxnW} {k : ByteArray} : ∀ {n : Nat}, hitN l i t k n = true ↔ ∃ b u, b < n ∧ l[b]? = some u ∧ hitP i t k b u
  | 0 => ⟨fun h => (by cases h), fun ⟨b, u, h, _⟩ => (by omega)⟩
  | n + 1 => by
    have ih := hitN_iff (l := l) (i := i) (t := t) (k := k) (n := n)
    unfold hitN
    rw [Bool.or_eq_true, ih]
    constructor
    · rintro (⟨b, u, h1, h2⟩ | h)
      · exact ⟨b, u, by omega, h2⟩
      · split at h
        · rename_i u hu
          exact ⟨n, u, by omega, hu, of_decide_eq_true h⟩
        · cases h
    · rintro ⟨b, u, h1, h2, h3⟩
      by_cases e : b = n
      · subst e
        rw [h2]
        exact .inr (decide_eq_true h3)
      · exact .inl ⟨b, u, by omega, h2, h3⟩
/-- an operation that may be in conflict -/
def wrP (t : TxnW) (l : List OpW) (n : Nat) (o : OpW) : Prop := t.status = 1 ∧ t.start < t.fin ∧ o.kind ≠ 1 ∧ leftN o.key l n < 0
instance wrDec (t : TxnW) (l : List OpW) (n : Nat) (o : OpW) : Decidable (wrP t l n o) := inferInstanceAs (Decidable (_ ∧ _))
def cTj (l : List TxnW) (i : Nat) (t : TxnW) : Nat → Nat
  | 0 => 0
  | n + 1 => cTj l i t n + (match t.ops.xs[n]? with
    | some o => if wrP t t.ops.xs n o ∧ hitN l i t o.key l.length = true then 1 else 0
    | none => 0)
theorem cTj_step {l : List TxnW} {i : Nat} {t : TxnW} {n : Nat} {o : OpW} (h : t.ops.xs[n]? = some o) : cTj l i t (n + 1) = cTj l i t n + (if wrP t t.ops.xs n o ∧ hitN l i t o.key l.length = true then 1 else 0) := by
  conv => lhs; unfold cTj
  rw [h]
theorem cTj_le (l : List TxnW) (i : Nat) (t : TxnW) : ∀ n, cTj l i t n ≤ n
  | 0 => Nat.le_refl _
  | n + 1 => by
    have ih := cTj_le l i t n
    cases h : t.ops.xs[n]? with
    | none =>
      have e : cTj l i t (n + 1) = cTj l i t n := by
        conv => lhs; unfold cTj
        rw [h]
        try rfl
      omega
    | some o =>
      rw [cTj_step h]
      split <;> omega
def cN (l : List TxnW) : Nat → Nat
  | 0 => 0
  | n + 1 => cN l n + (match l[n]? with
    | some t => cTj l n t t.ops.xs.length
    | none => 0)
theorem cN_step {l : List TxnW} {n : Nat} {t : TxnW} (h : l[n]? = some t) : cN l (n + 1) = cN l n + cTj l n t t.ops.xs.length := by
  conv => lhs; unfold cN
  rw [h]
theorem cTj_zero {l : List TxnW} {i : Nat} {t : TxnW} (h : ¬ t.start < t.fin) : ∀ n, cTj l i t n = 0
  | 0 => rfl
  | n + 1 => by
    have ih := cTj_zero (l := l) (i := i) h n
    cases ho : t.ops.xs[n]? with
    | none =>
      have e : cTj l i t (n + 1) = cTj l i t n := by
        conv => lhs; unfold cTj
        rw [ho]
        try rfl
      omega
    | some o =>
      rw [cTj_step ho, if_neg (fun e => h e.1.2.1)]
      omega
theorem kinds_eight (f : Nat → OpW → Option ViolW) (l : List OpW) (k : Int) : ∀ n, ((kindsN f l k n).filter eight).length = if k = 8 then (kindsN f l k n).length else 0
  | 0 => by split <;> rfl
  | n + 1 => by
    have ih := kinds_eight f l k n
    unfold kindsN
    rw [List.filter_append, List.length_append, List.length_append, ih]
    cases l[n]? with
    | none =>
      dsimp only
      split <;> simp
    | some o =>
      dsimp only
      cases f n o with
      | none =>
        dsimp only
        split <;> simp
      | some v =>
        dsimp only
        by_cases hk : v.kind = k
        · rw [if_pos hk]
          by_cases h8 : k = 8
          · rw [if_pos h8, if_pos h8]
            have : eight v = true := decide_eq_true (hk.trans h8)
            simp [this]
          · rw [if_neg h8, if_neg h8]
            have : eight v = false := decide_eq_false (fun e => h8 (hk.symm.trans e))
            simp [this]
        · rw [if_neg hk]
          split <;> simp
theorem one_eight {fst : ByteArray → Option (Int × Int)} {see : ByteArray → Option VerW} {p : Int} {t : TxnP} {j : Nat} {o : OpW} : (match oneQ fst see p t j o with
    | some v => if v.kind = 8 then [v] else []
    | none => []).length = if o.kind ≠ 1 ∧ (fst o.key).isSome = true ∧ (lastN o.key t.ops j).isNone = true ∧ t.status = 1 then 1 else 0 := by
  unfold oneQ
  by_cases hk : o.kind ≠ 1
  · rw [if_pos hk]
    cases hf : fst o.key with
    | none =>
      dsimp only
      rw [if_neg (fun e => by have := e.2.1; cases this)]
      rfl
    | some x =>
      dsimp only
      by_cases hl : (lastN o.key t.ops j).isNone = true ∧ t.status = 1
      · rw [if_pos hl, if_pos ⟨hk, rfl, hl⟩]
        rfl
      · rw [if_neg hl, if_neg (fun e => hl e.2.2)]
        rfl
  · have hneg : ¬ (o.kind ≠ 1 ∧ (fst o.key).isSome = true ∧ (lastN o.key t.ops j).isNone = true ∧ t.status = 1) := fun e => hk e.1
    rw [if_neg hk, if_neg hneg]
    cases lastN o.key t.ops j with
    | some w =>
      dsimp only
      by_cases h : w.found ≠ o.found ∨ w.value ≠ o.value
      · rw [if_pos h]
        rfl
      · rw [if_neg h]
        rfl
    | none =>
      dsimp only
      by_cases h : ((see o.key).getD VerW.zero).found ≠ o.found ∨ ((see o.key).getD VerW.zero).value ≠ o.value
      · rw [if_pos h]
        rfl
      · rw [if_neg h]
        rfl
/-- a conflict is told of an operation just if a writer comes in between -/
theorem fst_hit {l : List TxnW} {n i : Nat} {t : TxnW} (hr : (evS l)[n]? = some (rE (i : Nat) t)) (k : ByteArray) : (fstD ((endN (evS l) l n).map DoneW.p) t.start k).isSome = true ↔ hitN l i t k l.length = true := by
  unfold fstD
  rw [Option.isSome_map, List.find?_isSome, hitN_iff]
  have hw : ∀ (p : Int) (u : TxnW), wroteD k ⟨p, u.p⟩ = true ↔ u.status = 1 ∧ 0 ≤ leftN k u.ops.xs u.ops.xs.length := fun p u => by
    unfold wroteD
    rw [Bool.and_eq_true, decide_eq_true_iff]
    exact and_congr Iff.rfl (lastN_iff k u.ops.xs u.ops.xs.length)
  constructor
  · rintro ⟨d, hd, hp⟩
    rw [Bool.and_eq_true, decide_eq_true_iff] at hp
    obtain ⟨x, hx, rfl⟩ := List.mem_map.1 hd
    obtain ⟨r, hr2, h1, h2, h3⟩ := endN_mem.1 hx
    obtain ⟨b, u, hu, hso, hrr⟩ := evS_mem.1 (List.mem_of_mem_take hr2)
    rcases hrr with rfl | rfl
    · have : (2 : Int) = 1 := h1
      omega
    · have e : l[b]? = some x.t := h3
      have e2 : u = x.t := Option.some.inj (hu.symm.trans e)
      have hb := before_one (ev_ahead hr hr2)
      have q1 : (rE (b : Nat) u).time = u.fin := rfl
      have q2 : (rE (i : Nat) t).time = t.fin := rfl
      have q3 : (rE (b : Nat) u).kind = 1 := rfl
      have q4 : (rE (i : Nat) t).kind = 1 := rfl
      have q5 : (rE (b : Nat) u).index = (b : Nat) := rfl
      have q6 : (rE (i : Nat) t).index = (i : Nat) := rfl
      rw [q1, q2, q3, q4, q5, q6] at hb
      have hw2 := (hw x.place x.t).1 hp.1
      rw [← e2] at hw2
      have hs : t.start < u.fin := by rw [e2]; exact hp.2
      refine ⟨b, u, (List.getElem?_eq_some_iff.1 hu).1, hu, ?_, hw2.1, hso, by omega, hs, hw2.2⟩
      rintro rfl
      have e3 : t.fin = u.fin := by
        obtain ⟨i2, t2, h5, _, h6⟩ := evS_mem.1 (List.mem_of_getElem? hr)
        rcases h6 with h6 | h6
        · have := congrArg RowW.kind h6
          have : (1 : Int) = 2 := this
          omega
        · have h7 := congrArg RowW.index h6
          have h7' : ((b : Nat) : Int) = (i2 : Nat) := h7
          obtain rfl : b = i2 := by omega
          rw [hu] at h5
          obtain rfl := Option.some.inj h5
          exact congrArg RowW.time h6
      omega
  · rintro ⟨b, u, hb, hu, h1, h2, h3, h4, h5, h6⟩
    refine ⟨⟨(b : Nat), u.p⟩, List.mem_map.2 ⟨⟨(b : Nat), u⟩, endN_mem.2 ⟨rE (b : Nat) u, ?_, rfl, rfl, hu⟩, rfl⟩, ?_⟩
    · refine ev_take hr (evS_mem.2 ⟨b, u, hu, h3, .inr rfl⟩) (.inl ⟨rfl, ?_⟩)
      show u.fin < t.fin ∨ (u.fin = t.fin ∧ ((1 : Int) < 1 ∨ ((1 : Int) = 1 ∧ ((b : Nat) : Int) < (i : Nat))))
      omega
    · rw [Bool.and_eq_true, decide_eq_true_iff]
      exact ⟨(hw _ u).2 ⟨h2, h6⟩, h5⟩
theorem kinds_conf {l : List TxnW} {n i : Nat} {t : TxnW} (hso : t.start < t.fin) (hr : (evS l)[n]? = some (rE (i : Nat) t)) (see : ByteArray → Option VerW) : ∀ m, (kindsN (oneQ (fstD ((endN (evS l) l n).map DoneW.p) t.start) see (i : Nat) t.p) t.ops.xs 8 m).length = cTj l i t m
  | 0 => rfl
  | m + 1 => by
    have ih := kinds_conf hso hr see m
    unfold kindsN
    rw [List.length_append, ih]
    cases ho : t.ops.xs[m]? with
    | none =>
      have e : cTj l i t (m + 1) = cTj l i t m := by
        conv => lhs; unfold cTj
        rw [ho]
        try rfl
      rw [e]
      rfl
    | some o =>
      dsimp only
      rw [cTj_step ho]
      refine congrArg (cTj l i t m + ·) (one_eight.trans ?_)
      have h1 := fst_hit hr o.key
      have h2 := lastN_iff o.key t.ops.xs m
      have h3 : (lastN o.key t.p.ops m).isNone = true ↔ leftN o.key t.ops.xs m < 0 := by
        show (lastN o.key t.ops.xs m).isNone = true ↔ _
        cases hq : lastN o.key t.ops.xs m with
        | none =>
          rw [hq] at h2
          refine ⟨fun _ => ?_, fun _ => rfl⟩
          have : ¬ 0 ≤ leftN o.key t.ops.xs m := fun h => by have := h2.2 h; cases this
          omega
        | some x =>
          rw [hq] at h2
          have := h2.1 rfl
          exact ⟨fun e => (by cases e), fun e => by omega⟩
      have hc : (o.kind ≠ 1 ∧ (fstD ((endN (evS l) l n).map DoneW.p) t.start o.key).isSome = true ∧ (lastN o.key t.p.ops m).isNone = true ∧ t.p.status = 1) ↔ (wrP t t.ops.xs m o ∧ hitN l i t o.key l.length = true) := by
        rw [h1, h3]
        exact ⟨fun ⟨a1, a2, a3, a4⟩ => ⟨⟨a4, hso, a1, a3⟩, a2⟩, fun ⟨⟨a4, _, a1, a3⟩, a2⟩ => ⟨a1, a2, a3, a4⟩⟩
      by_cases hq : wrP t t.ops.xs m o ∧ hitN l i t o.key l.length = true
      · rw [if_pos hq]
        exact if_pos (hc.2 hq)
      · rw [if_neg hq]
        exact if_neg (fun e => hq (hc.1 e))
theorem judge_eight {l : List TxnW} {n i : Nat} {t : TxnW} (hso : t.start < t.fin) (hr : (evS l)[n]? = some (rE (i : Nat) t)) : ((judgeD ((endN (evS l) l n).map DoneW.p) ⟨(i : Nat), t.p⟩).filter eight).length = cTj l i t t.ops.xs.length := by
  unfold judgeD judgeQ
  have h6 := kinds_eight (oneQ (fstD ((endN (evS l) l n).map DoneW.p) t.start) (seeD ((endN (evS l) l n).map DoneW.p) t.start) (i : Nat) t.p) t.ops.xs 6 t.ops.xs.length
  have h7 := kinds_eight (oneQ (fstD ((endN (evS l) l n).map DoneW.p) t.start) (seeD ((endN (evS l) l n).map DoneW.p) t.start) (i : Nat) t.p) t.ops.xs 7 t.ops.xs.length
  have h8 := kinds_eight (oneQ (fstD ((endN (evS l) l n).map DoneW.p) t.start) (seeD ((endN (evS l) l n).map DoneW.p) t.start) (i : Nat) t.p) t.ops.xs 8 t.ops.xs.length
  rw [if_neg (by decide)] at h6 h7
  rw [if_pos rfl, kinds_conf hso hr] at h8
  have ht : ∀ (tw : Option Int) (p : Int) (t : TxnP), ((twinL tw p t).filter eight).length = 0 := fun tw p t => by
    unfold twinL
    split
    · split <;> rfl
    · rfl
  rw [List.filter_append, List.filter_append, List.filter_append, List.length_append, List.length_append, List.length_append, ht]
  have e6 : ((kindsN (oneQ (fstD ((endN (evS l) l n).map DoneW.p) t.start) (seeD ((endN (evS l) l n).map DoneW.p) t.start) (i : Nat) t.p) t.ops.xs 6 t.ops.xs.length).filter eight).length = 0 := h6
  show 0 + ((kindsN (oneQ (fstD ((endN (evS l) l n).map DoneW.p) t.start) (seeD ((endN (evS l) l n).map DoneW.p) t.start) (i : Nat) t.p) t.ops.xs 6 t.ops.xs.length).filter eight).length + ((kindsN (oneQ (fstD ((endN (evS l) l n).map DoneW.p) t.start) (seeD ((endN (evS l) l n).map DoneW.p) t.start) (i : Nat) t.p) t.ops.xs 7 t.ops.xs.length).filter eight).length + ((kindsN (oneQ (fstD ((endN (evS l) l n).map DoneW.p) t.start) (seeD ((endN (evS l) l n).map DoneW.p) t.start) (i : Nat) t.p) t.ops.xs 8 t.ops.xs.length).filter eight).length = _
  rw [h6, h7, h8]
  omega
/-- the conflicts that a row tells -/
def rowC (l : List TxnW) (r : RowW) : Nat := if r.kind = 1 then (match l[r.index.toNat]? with
  | some t => cTj l r.index.toNat t t.ops.xs.length
  | none => 0) else 0
theorem conf_rows (l : List TxnW) : ∀ n, ((evU l n).map (rowC l)).sum = cN l n
  | 0 => rfl
  | n + 1 => by
    have ih := conf_rows l n
    unfold evU cN
    rw [List.map_append, List.sum_append, ih]
    congr 1
    cases ht : l[n]? with
    | none => rfl
    | some t =>
      dsimp only
      by_cases hc : t.start < t.fin
      · rw [if_pos hc]
        have e1 : rowC l (rS (n : Nat) t) = 0 := rfl
        have e2 : rowC l (rE (n : Nat) t) = cTj l n t t.ops.xs.length := by
          unfold rowC
          rw [if_pos (show (rE (n : Nat) t).kind = 1 from rfl), show l[(rE (n : Nat) t).index.toNat]? = some t from ht]
          rfl
        simp [e1, e2]
      · rw [if_neg hc, cTj_zero hc]
        rfl
theorem tell_eight {l : List TxnW} {n : Nat} {r : RowW} (hr : (evS l)[n]? = some r) : ((tellN (evS l) l n).filter eight).length = rowC l r := by
  obtain ⟨i, t, hti, hso, hrr⟩ := evS_mem.1 (List.mem_of_getElem? hr)
  unfold tellN rowC
  rw [hr]
  dsimp only
  rcases hrr with rfl | rfl
  · rw [if_neg (show ¬ (rS (i : Nat) t).kind = 1 by show ¬ (2 : Int) = 1; omega), if_neg (show ¬ (rS (i : Nat) t).kind = 1 by show ¬ (2 : Int) = 1; omega)]
    rfl
  · rw [if_pos (show (rE (i : Nat) t).kind = 1 from rfl), if_pos (show (rE (i : Nat) t).kind = 1 from rfl), show l[(rE (i : Nat) t).index.toNat]? = some t from hti]
    exact judge_eight hso hr
theorem out_eight (l : List TxnW) : ∀ n, n ≤ (evS l).length → ((outL (evS l) l n).filter eight).length = (((evS l).take n).map (rowC l)).sum
  | 0, _ => rfl
  | n + 1, hn => by
    have ih := out_eight l n (by omega)
    obtain ⟨r, hr⟩ : ∃ r, (evS l)[n]? = some r := ⟨(evS l)[n]'(by omega), List.getElem?_eq_getElem _⟩
    rw [outL_tell, List.filter_append, List.length_append, ih, tell_eight hr, List.take_add_one, hr, List.map_append, List.sum_append]
    simp
/-- as many conflicts are told as there are -/
theorem conf_all (l : List TxnW) : ((outL (evS l) l (evS l).length).filter eight).length = cN l l.length := by
  rw [out_eight l _ (Nat.le_refl _), List.take_length, ← conf_rows]
  exact ((sortR_perm 1 _ _ rfl).map _).sum_nat
theorem cN_small {l : List TxnW} (h : Fit l) : ∀ n, cN l n ≤ 16 * n
  | 0 => Nat.le_refl _
  | n + 1 => by
    have ih := cN_small h n
    cases ht : l[n]? with
    | none =>
      have e : cN l (n + 1) = cN l n := by
        conv => lhs; unfold cN
        rw [ht]
        try rfl
      omega
    | some t =>
      have h1 := (h.fields (List.mem_of_getElem? ht)).2.2.2
      have h2 := cTj_le l n t t.ops.xs.length
      rw [cN_step ht]
      omega
end Go.Proofs.Ytlioccfedophhaa
