/- The document's machine: what it keeps, in plain. -/
import Derived.Test.YtgidabcmbngcbaaMac4
set_option linter.unusedVariables false
set_option linter.unusedSimpArgs false
namespace Go.Proofs.Ytgidabcmbngcbaa
open Go
set_option maxRecDepth 20000
set_option maxHeartbeats 1000000
def cntS (s : Int) (L : List RunW) : Nat := (L.filter (fun r => decide (r.t.session = s))).length
theorem cntS_snoc (s : Int) (L : List RunW) (r : RunW) : cntS s (L ++ [r]) = cntS s L + (if r.t.session = s then 1 else 0) := by
  unfold cntS
  rw [List.filter_append, List.length_append]
  by_cases h : r.t.session = s
  · rw [if_pos h, List.filter_cons_of_pos (by simpa using h)]; rfl
  · rw [if_neg h, List.filter_cons_of_neg (by simpa using h)]; rfl
theorem cntS_le (s : Int) (L : List RunW) : cntS s L ≤ L.length := List.length_filter_le _ _
/-- a run of the machine's -/
structure RunOk (ses C : Int) (r : RunW) : Prop where
  se : 0 ≤ r.t.session ∧ r.t.session < ses
  iv : 0 ≤ r.t.invoke ∧ r.t.invoke < r.t.start ∧ r.t.start ≤ C
  st : (r.state = 0 ∧ r.t.fin = 0 ∧ r.t.ret = 0 ∧ r.t.status = 0) ∨ (r.state = 1 ∧ r.t.start < r.t.fin ∧ r.t.ret = r.t.fin ∧ r.t.fin ≤ C ∧ (r.t.status = 0 ∨ r.t.status = 1))
structure InvM (ses C : Int) (L : List RunW) (Z : List Nat) : Prop where
  len : L.length ≤ 4096
  sesB : 1 ≤ ses ∧ ses ≤ 64
  clk : 0 ≤ C ∧ C ≤ 1099511627776
  run : ∀ r ∈ L, RunOk ses C r
  seq : ∀ (i : Nat) (r : RunW), L[i]? = some r → r.t.seq = (cntS r.t.session (L.take i) : Nat)
  ord : ∀ (i j : Nat) (r r' : RunW), i < j → L[i]? = some r → L[j]? = some r' → r.t.session = r'.t.session → r.state = 1 ∧ r.t.fin ≤ r'.t.invoke
  znd : Z.Nodup
  zok : ∀ z ∈ Z, ∃ r, L[z]? = some r ∧ r.state = 1
theorem RunOk.up {ses C C' : Int} {r : RunW} (h : RunOk ses C r) (hc : C ≤ C') : RunOk ses C' r := by
  obtain ⟨h1, h2, h3⟩ := h
  exact ⟨h1, ⟨h2.1, h2.2.1, by omega⟩, by rcases h3 with h3 | h3; exact .inl h3; exact .inr ⟨h3.1, h3.2.1, h3.2.2.1, by omega, h3.2.2.2.2⟩⟩
theorem InvM.zlen {ses C : Int} {L : List RunW} {Z : List Nat} (h : InvM ses C L Z) : Z.length ≤ L.length := by
  have : ∀ (l : List Nat) (n : Nat), l.Nodup → (∀ x ∈ l, x < n) → l.length ≤ n := fun l n => by
    induction n generalizing l with
    | zero =>
      intro _ h
      cases l with
      | nil => exact Nat.le_refl _
      | cons a r => exact absurd (h a (List.mem_cons_self ..)) (by omega)
    | succ n ih =>
      intro hn hl
      by_cases hm : n ∈ l
      · obtain ⟨s, t, rfl⟩ := List.append_of_mem hm
        have hp : (s ++ n :: t).Perm (n :: (s ++ t)) := List.perm_middle
        have hn2 := List.nodup_cons.1 (hp.nodup_iff.1 hn)
        have := ih (s ++ t) hn2.2 fun x hx => by
          have h1 := hl x (hp.mem_iff.2 (List.mem_cons_of_mem _ hx))
          have h2 : x ≠ n := fun e => hn2.1 (e ▸ hx)
          omega
        rw [hp.length_eq]
        simp only [List.length_cons]
        omega
      · have := ih l hn fun x hx => by
          have h1 := hl x hx
          have h2 : x ≠ n := fun e => hm (e ▸ hx)
          omega
        omega
  refine this Z L.length h.znd fun x hx => ?_
  obtain ⟨r, hr, _⟩ := h.zok x hx
  exact (List.getElem?_eq_some_iff.1 hr).1
theorem InvM.begin {ses C C' : Int} {L : List RunW} {Z : List Nat} (h : InvM ses C L Z) (hl : L.length < 4096) (hc : C < C') (hc2 : C' ≤ 1099511627776) {s : Int} (hs : 0 ≤ s ∧ s < ses) (ha : actN s L L.length) {r : RunW}
    (h1 : r.t.session = s) (h2 : r.t.seq = (cntS s L : Nat)) (h3 : r.t.start = C') (h4 : r.t.invoke = C) (h5 : r.state = 0 ∧ r.t.fin = 0 ∧ r.t.ret = 0 ∧ r.t.status = 0) : InvM ses C' (L ++ [r]) Z := by
  have hc0 := h.clk
  refine ⟨by rw [List.length_append]; simp only [List.length_singleton]; omega, h.sesB, ⟨by omega, hc2⟩, fun x hx => ?_, fun i x hx => ?_, fun i j x x' hij hx hx' he => ?_, h.znd, fun z hz => ?_⟩
  · rcases List.mem_append.1 hx with hx | hx
    · exact (h.run x hx).up (by omega)
    · rw [List.mem_singleton.1 hx]
      exact ⟨by rw [h1]; exact hs, by omega, .inl h5⟩
  · by_cases hi : i < L.length
    · rw [List.getElem?_append_left hi] at hx
      rw [List.take_append_of_le_length (by omega)]
      exact h.seq i x hx
    · have hil := (List.getElem?_eq_some_iff.1 hx).1
      rw [List.length_append] at hil
      simp only [List.length_singleton] at hil
      have e : i = L.length := by omega
      subst e
      rw [List.getElem?_append_right (by omega), Nat.sub_self] at hx
      obtain rfl : r = x := by simpa using hx
      rw [List.take_append_of_le_length (by omega), List.take_length, h1]
      exact h2
  · have hil := (List.getElem?_eq_some_iff.1 hx').1
    rw [List.length_append] at hil
    simp only [List.length_singleton] at hil
    rw [List.getElem?_append_left (by omega)] at hx
    by_cases hj : j < L.length
    · rw [List.getElem?_append_left hj] at hx'
      exact h.ord i j x x' hij hx hx' he
    · have e : j = L.length := by omega
      subst e
      rw [List.getElem?_append_right (by omega), Nat.sub_self] at hx'
      obtain rfl : r = x' := by simpa using hx'
      have hm := List.mem_of_getElem? hx
      have hna := ha x (by rw [List.take_length]; exact hm)
      have hr := h.run x hm
      rcases hr.st with hst | hst
      · exact absurd ⟨hst.1, he.trans h1⟩ hna
      · exact ⟨hst.1, by omega⟩
  · obtain ⟨x, hx, hst⟩ := h.zok z hz
    exact ⟨x, by rw [List.getElem?_append_left (List.getElem?_eq_some_iff.1 hx).1]; exact hx, hst⟩
theorem cntS_set (s : Int) {r r' : RunW} (he : r'.t.session = r.t.session) : ∀ {L : List RunW} {i : Nat}, L[i]? = some r → cntS s (L.set i r') = cntS s L
  | [], i, h => by simp at h
  | x :: l, 0, h => by
    obtain rfl : x = r := by simpa using h
    unfold cntS
    rw [List.set_cons_zero]
    by_cases hs : x.t.session = s
    · rw [List.filter_cons_of_pos (by simpa [he] using hs), List.filter_cons_of_pos (by simpa using hs)]; rfl
    · rw [List.filter_cons_of_neg (by simpa [he] using hs), List.filter_cons_of_neg (by simpa using hs)]
  | x :: l, i + 1, h => by
    have ih := cntS_set s he (L := l) (i := i) (by simpa using h)
    unfold cntS at *
    rw [List.set_cons_succ]
    by_cases hs : x.t.session = s
    · rw [List.filter_cons_of_pos (by simpa using hs), List.filter_cons_of_pos (by simpa using hs)]
      simp only [List.length_cons, ih]
    · rw [List.filter_cons_of_neg (by simpa using hs), List.filter_cons_of_neg (by simpa using hs), ih]
/-- a run turned in place: nothing that its order hangs on -/
theorem InvM.turn {ses C C' : Int} {L : List RunW} {Z Z' : List Nat} (h : InvM ses C L Z) (hc : C ≤ C') (hc2 : C' ≤ 1099511627776) {i : Nat} {r r' : RunW} (hi : L[i]? = some r) (hst : r.state = 0) (h1 : r'.t.session = r.t.session) (h2 : r'.t.seq = r.t.seq) (h3 : r'.t.invoke = r.t.invoke) (h4 : RunOk ses C' r')
    (hz : Z'.Nodup) (hz2 : ∀ z ∈ Z', z ∈ Z ∨ (z = i ∧ r'.state = 1)) : InvM ses C' (L.set i r') Z' := by
  have hil := (List.getElem?_eq_some_iff.1 hi).1
  have get : ∀ (j : Nat) (x : RunW), (L.set i r')[j]? = some x → ∃ y, L[j]? = some y ∧ ((j = i ∧ x = r' ∧ y = r) ∨ (j ≠ i ∧ x = y)) := fun j x hx => by
    by_cases e : i = j
    · subst e
      rw [List.getElem?_set_self hil] at hx
      exact ⟨r, hi, .inl ⟨rfl, by simpa using hx.symm, rfl⟩⟩
    · rw [List.getElem?_set_ne e] at hx
      exact ⟨x, hx, .inr ⟨fun e2 => e e2.symm, rfl⟩⟩
  have hc0 := h.clk
  refine ⟨by rw [List.length_set]; exact h.len, h.sesB, ⟨by omega, hc2⟩, fun x hx => ?_, fun j x hx => ?_, fun a b x x' hab hx hx' he => ?_, hz, fun z hz3 => ?_⟩
  · rcases List.mem_or_eq_of_mem_set hx with hx | rfl
    · exact (h.run x hx).up hc
    · exact h4
  · obtain ⟨u, hu, hh⟩ := get j x hx
    have e1 := h.seq j u hu
    have e2 : cntS x.t.session ((L.set i r').take j) = cntS x.t.session (L.take j) := by
      rw [List.take_set]
      by_cases hij : i < j
      · exact cntS_set _ h1 (by rw [List.getElem?_take_of_lt hij]; exact hi)
      · rw [List.set_eq_of_length_le (by rw [List.length_take]; omega)]
    rw [e2]
    rcases hh with ⟨_, rfl, rfl⟩ | ⟨_, rfl⟩
    · rw [h1, h2]; exact e1
    · exact e1
  · obtain ⟨u, hu, hh⟩ := get a x hx
    obtain ⟨v, hv, hh'⟩ := get b x' hx'
    have es : u.t.session = v.t.session := by
      rcases hh with ⟨_, rfl, rfl⟩ | ⟨_, rfl⟩ <;> rcases hh' with ⟨_, rfl, rfl⟩ | ⟨_, rfl⟩
      · rfl
      · rw [← h1]; exact he
      · rw [← h1]; exact he
      · exact he
    have ho := h.ord a b u v hab hu hv es
    rcases hh with ⟨ha, rfl, rfl⟩ | ⟨_, rfl⟩
    · rw [hst] at ho
      exact absurd ho.1 (by decide)
    · rcases hh' with ⟨_, rfl, rfl⟩ | ⟨_, rfl⟩
      · rw [h3]; exact ho
      · exact ho
  · rcases hz2 z hz3 with hz4 | ⟨rfl, hs1⟩
    · obtain ⟨x, hx, hs1⟩ := h.zok z hz4
      have hne : i ≠ z := fun e => by
        subst e
        rw [hi] at hx
        injection hx with hx
        subst hx
        rw [hst] at hs1
        exact absurd hs1 (by decide)
      exact ⟨x, by rw [List.getElem?_set_ne hne]; exact hx, hs1⟩
    · exact ⟨r', List.getElem?_set_self hil, hs1⟩
theorem HangR.same : ∀ {L : List RunW} {S : Seg} {i : Nat} {r r' : RunW}, HangR L S → L[i]? = some r → r'.t.ops = r.t.ops → r'.at_ = r.at_ → HangR (L.set i r') S
  | [], S, i, r, r', h, hi, _, _ => by simp at hi
  | x :: L, S, 0, r, r', ⟨E1, E2, S', e, h1, h2, h3⟩, hi, ho, ha => by
    obtain rfl : x = r := by simpa using hi
    exact ⟨E1, E2, S', e, by rw [ho]; exact h1, by rw [ha]; exact h2, h3⟩
  | x :: L, S, i + 1, r, r', ⟨E1, E2, S', e, h1, h2, h3⟩, hi, ho, ha => ⟨E1, E2, S', e, h1, h2, h3.same (by simpa using hi) ho ha⟩
theorem HangR.one {r : RunW} {E1 E2 : Seg} (h1 : BufP r.t.ops E1) (h2 : BufN r.at_ E2) : HangR [r] (E1 ++ E2) := ⟨E1, E2, [], by simp, h1, h2, rfl⟩
/-- a run whose lists have grown -/
theorem HangR.grow {L : List RunW} {i : Nat} {r r' : RunW} {S1 E1 E2 S2 : Seg} (hi : L[i]? = some r) (h3 : HangR (L.take i) S1) (h4 : HangR (L.drop (i + 1)) S2) (h1 : BufP r'.t.ops E1) (h2 : BufN r'.at_ E2) : HangR (L.set i r') (S1 ++ (E1 ++ E2) ++ S2) := by
  have hil := (List.getElem?_eq_some_iff.1 hi).1
  have e : L.set i r' = L.take i ++ [r'] ++ L.drop (i + 1) := by
    rw [List.set_eq_take_append_cons_drop, if_pos hil]
    simp
  rw [e]
  exact (h3.app (HangR.one h1 h2)).app h4
end Go.Proofs.Ytgidabcmbngcbaa
