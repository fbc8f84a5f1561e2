/- A span put into and taken out of a balanced tree: the plain law. -/
import Derived.Test.YtjeghbachokljaaSpP
set_option linter.unusedVariables false
set_option linter.unusedSimpArgs false
namespace Go.Proofs.Ytjeghbachokljaa
open Go
set_option maxRecDepth 20000
set_option maxHeartbeats 1000000
def insL (s : Sp) : List Sp → List Sp
  | [] => [s]
  | x :: r => if cmpS s x < 0 then s :: x :: r else x :: insL s r
theorem insL_left {s y : Sp} (h : cmpS s y < 0) (r : List Sp) : ∀ l, insL s (l ++ y :: r) = insL s l ++ y :: r
  | [] => by simp [insL, h]
  | x :: l => by
    have ih := insL_left h r l
    simp only [List.cons_append, insL]
    by_cases hx : cmpS s x < 0
    · rw [if_pos hx, if_pos hx]; rfl
    · rw [if_neg hx, if_neg hx, ih]; rfl
theorem insL_right {s y : Sp} (h : ¬ cmpS s y < 0) (r : List Sp) : ∀ l : List Sp, (∀ x ∈ l, ¬ cmpS s x < 0) → insL s (l ++ y :: r) = l ++ y :: insL s r
  | [], _ => by simp [insL, h]
  | x :: l, hl => by
    have ih := insL_right h r l fun z hz => hl z (List.mem_cons_of_mem _ hz)
    simp only [List.cons_append, insL]
    rw [if_neg (hl x (List.mem_cons_self ..)), ih]
theorem balA_len (N : List Nd) (i : Nat) : (balA N i).2.length = N.length := by
  unfold balA
  dsimp only
  split
  · rw [turnA_len]
    split
    · rw [List.length_set, turnA_len, fixA_len]
    · rw [fixA_len]
  · split
    · rw [turnA_len]
      split
      · rw [List.length_set, turnA_len, fixA_len]
      · rw [fixA_len]
    · rw [fixA_len]
theorem lt_cmp {s t : Sp} (h : ltS s t) : cmpS s t < 0 := by
  rcases cmp_cases s t with h1 | h1 | h1
  · exact h1.1
  · exact absurd h (h1.2 ▸ ltS_irr _)
  · exact absurd h1.2 (fun h2 => ltS_asym h h2)
theorem cmp_lt {s t : Sp} (h : cmpS s t < 0) : ltS s t := by
  rcases cmp_cases s t with h1 | h1 | h1
  · exact h1.2
  · omega
  · omega
theorem leafN_at {N : List Nd} {sp : List Nat} {s : Sp} (hp : 0 < N.length) (hsp : ∀ j ∈ sp, 0 < j ∧ j < N.length) : 0 < newI N sp ∧ newI N sp < (leafN N sp s).length ∧ nd (leafN N sp s) (newI N sp) = lfN s ∧ (∀ j, j ≠ newI N sp → nd (leafN N sp s) j = nd N j) := by
  by_cases h : sp = []
  · subst h
    have e1 : newI N [] = N.length := rfl
    have e2 : leafN N [] s = N ++ [lfN s] := if_pos rfl
    rw [e1, e2]
    refine ⟨hp, by simp, by simp [nd, List.getD], fun j hj => ?_⟩
    simp only [nd, List.getD]
    by_cases hl : j < N.length
    · rw [List.getElem?_append_left hl]
    · rw [List.getElem?_eq_none (by simp; omega), List.getElem?_eq_none (by omega)]
  · obtain ⟨r, i, rfl⟩ := spare_last h
    have e1 : newI N (r ++ [i]) = i := by simp [newI]
    have hi := hsp i (by simp)
    have e2 : leafN N (r ++ [i]) s = N.set i (lfN s) := by
      unfold leafN
      rw [if_neg h, e1]
    rw [e1, e2]
    exact ⟨hi.1, by simpa using hi.2, nd_set_same hi.2, fun j hj => nd_set_other fun e => hj e.symm⟩
theorem ins_law (s : Sp) (N : List Nd) (sp : List Nat) (hsp : ∀ j ∈ sp, 0 < j ∧ j < N.length) (hp : 0 < N.length) (t : Tr) : nd N 0 = Nd.zero → At N t → Avl t → t.ids.Nodup → Srt t → newI N sp ∉ t.ids → t.size ≤ 999999999900 →
    ∃ t', (insA t N sp s).1 = t'.ix ∧ At (insA t N sp s).2.1 t' ∧ Avl t' ∧ toL t' = insL s (toL t) ∧ t'.ids.Perm (newI N sp :: t.ids) ∧ (t'.hh = t.hh ∨ t'.hh = t.hh + 1) ∧ (∀ j, j ∉ newI N sp :: t.ids → nd (insA t N sp s).2.1 j = nd N j) ∧ (insA t N sp s).2.2 = sp.dropLast ∧ (insA t N sp s).2.1.length = (leafN N sp s).length := by
  obtain ⟨hn0, hn1, hn2, hn3⟩ := leafN_at (s := s) hp hsp
  induction t with
  | nil =>
    intro hz _ _ _ _ _ _
    refine ⟨.node (newI N sp) .nil s .nil 1 s.b, rfl, ⟨hn0, hn1, hn2, trivial, trivial⟩, ⟨trivial, trivial, by decide, by decide, fun x hx => ?_⟩, rfl, List.Perm.refl _, .inr rfl, fun j hj => hn3 j fun e => hj (e ▸ List.mem_cons_self ..), rfl, rfl⟩
    obtain rfl : x = s := by simpa [toL] using hx
    exact Int.le_refl _
  | node i l s0 r hh ff ihl ihr =>
    rintro hz ⟨h1, h2, h3, h4, h5⟩ ⟨a1, a2, a3, a4, a5⟩ hnd hs hnew hsz
    have pl := a1.pos
    have pr := a2.pos
    obtain ⟨s1, s2, s3, s4⟩ := hs.node
    have hnd : (i :: (l.ids ++ r.ids)).Nodup := hnd
    have hsz : l.size + r.size + 1 ≤ 999999999900 := hsz
    unfold insA
    by_cases hc : cmpS s s0 < 0
    · rw [if_pos hc]
      dsimp only
      have hns : newI N sp ∉ (l).ids := fun hm => hnew (by simp [Tr.ids, hm])
      have ndT : (l).ids.Nodup := by first | exact (List.nodup_append.1 (List.nodup_cons.1 hnd).2).1 | exact (List.nodup_append.1 (List.nodup_cons.1 hnd).2).2.1
      obtain ⟨t1, q1, q2, q3, q4, q5, q6, q7, q8, q9⟩ := ihl hz (by assumption) (by assumption) ndT (by assumption) hns (by omega)
      generalize insA l N sp s = q at *
      obtain ⟨k', N', sp'⟩ := q
      dsimp only at q1 q2 q7 q8 q9 ⊢
      subst q1 q8
      have hlen := (leafN_len N sp s).1
      have hi2 : i ∉ newI N sp :: (l).ids := by
        intro hm
        rcases List.mem_cons.1 hm with e | hm
        · exact hnew (by simp [Tr.ids, e])
        · exact (List.nodup_cons.1 hnd).1 (by simp [hm])
      have e1 : nd N' i = nd N i := q7 i hi2
      have e2 : nd (N'.set i { nd N' i with l := t1.ix }) i = { nd N' i with l := t1.ix } := nd_set_same (by omega)
      have e3 : ∀ j, j ≠ i → nd (N'.set i { nd N' i with l := t1.ix }) j = nd N' j := fun j hj => nd_set_other fun e => hj e.symm
      have hl3 : (N'.set i { nd N' i with l := t1.ix }).length = N'.length := by simp
      have hbl := balA_len (N'.set i { nd N' i with l := t1.ix }) i
      generalize N'.set i { nd N' i with l := t1.ix } = N3 at *
      have hoth : ∀ j ∈ (r).ids, j ≠ i ∧ j ∉ newI N sp :: (l).ids := fun j hj => ⟨fun e => (List.nodup_cons.1 hnd).1 (by rw [← e]; simp [hj]), fun hm => by
        rcases List.mem_cons.1 hm with e | hm
        · exact hnew (by rw [← e]; simp [Tr.ids, hj])
        · have := (List.nodup_append.1 (List.nodup_cons.1 hnd).2).2.2
          first | exact this j hm j hj rfl | exact this j hj j hm rfl⟩
      have pp : (i :: ((t1).ids ++ (r).ids)).Perm (newI N sp :: i :: (l.ids ++ r.ids)) := by
        refine permC fun x => ?_
        have := q5.count_eq x
        simp only [List.count_cons, List.count_append] at this ⊢
        omega
      have hz3 : nd N3 0 = Nd.zero := by
        rw [e3 0 (by omega), q7 0 (fun hm => ?_)]
        · exact hz
        · rcases List.mem_cons.1 hm with e | hm
          · exact absurd hn0 (by omega)
          · have := At.lt h4 0 hm
            omega
      have es : (nd N3 i).s = s0 := by simp only [e2, e1, h3]
      have el : (nd N3 i).l = (t1).ix := by simp only [e2, e1, h3]
      have er : (nd N3 i).r = (r).ix := by simp only [e2, e1, h3]
      have A1 : At N3 t1 := q2.congr (by omega) fun j hj => e3 j fun e => hi2 (e ▸ q5.mem_iff.1 hj)
      have A2 : At N3 r := At.congr h5 (by omega) fun j hj => by rw [e3 j (hoth j hj).1, q7 j (hoth j hj).2]
      have S : Sg N3 i t1 s0 r := ⟨hz3, h1, by omega, es, el, er, by assumption, by assumption, pp.nodup_iff.2 (List.nodup_cons.2 ⟨hnew, hnd⟩)⟩
      obtain ⟨t2, b1, b2, b3, b4, b5, b6, b7⟩ := bal_law S (by assumption) (by assumption) (by omega) (by omega)
      have m1 := maxI_c l.hh r.hh
      have m2 := maxI_c (t1).hh (r).hh
      refine ⟨t2, b1, b2, b5, ?_, b4.trans pp, ?_, fun j hj => ?_, rfl, by rw [hbl, hl3, q9]⟩
      · rw [b3, q4]
        simp only [toL]
        exact (insL_left hc _ _).symm
      · rw [hh_node]
        clear pp S hoth
        omega
      · have hj1 : j ∉ i :: ((t1).ids ++ (r).ids) := fun hm => hj (pp.mem_iff.1 hm)
        have hj2 : j ≠ i := fun e => hj1 (by rw [e]; exact List.mem_cons_self ..)
        have hj3 : j ∉ newI N sp :: (l).ids := fun hm => hj (by
          rcases List.mem_cons.1 hm with e | hm
          · rw [e]; exact List.mem_cons_self ..
          · simp [Tr.ids, hm])
        rw [b7 j hj1, e3 j hj2, q7 j hj3]
    · rw [if_neg hc]
      dsimp only
      have hns : newI N sp ∉ (r).ids := fun hm => hnew (by simp [Tr.ids, hm])
      have ndT : (r).ids.Nodup := by first | exact (List.nodup_append.1 (List.nodup_cons.1 hnd).2).1 | exact (List.nodup_append.1 (List.nodup_cons.1 hnd).2).2.1
      obtain ⟨t1, q1, q2, q3, q4, q5, q6, q7, q8, q9⟩ := ihr hz (by assumption) (by assumption) ndT (by assumption) hns (by omega)
      generalize insA r N sp s = q at *
      obtain ⟨k', N', sp'⟩ := q
      dsimp only at q1 q2 q7 q8 q9 ⊢
      subst q1 q8
      have hlen := (leafN_len N sp s).1
      have hi2 : i ∉ newI N sp :: (r).ids := by
        intro hm
        rcases List.mem_cons.1 hm with e | hm
        · exact hnew (by simp [Tr.ids, e])
        · exact (List.nodup_cons.1 hnd).1 (by simp [hm])
      have e1 : nd N' i = nd N i := q7 i hi2
      have e2 : nd (N'.set i { nd N' i with r := t1.ix }) i = { nd N' i with r := t1.ix } := nd_set_same (by omega)
      have e3 : ∀ j, j ≠ i → nd (N'.set i { nd N' i with r := t1.ix }) j = nd N' j := fun j hj => nd_set_other fun e => hj e.symm
      have hl3 : (N'.set i { nd N' i with r := t1.ix }).length = N'.length := by simp
      have hbl := balA_len (N'.set i { nd N' i with r := t1.ix }) i
      generalize N'.set i { nd N' i with r := t1.ix } = N3 at *
      have hoth : ∀ j ∈ (l).ids, j ≠ i ∧ j ∉ newI N sp :: (r).ids := fun j hj => ⟨fun e => (List.nodup_cons.1 hnd).1 (by rw [← e]; simp [hj]), fun hm => by
        rcases List.mem_cons.1 hm with e | hm
        · exact hnew (by rw [← e]; simp [Tr.ids, hj])
        · have := (List.nodup_append.1 (List.nodup_cons.1 hnd).2).2.2
          first | exact this j hm j hj rfl | exact this j hj j hm rfl⟩
      have pp : (i :: ((l).ids ++ (t1).ids)).Perm (newI N sp :: i :: (l.ids ++ r.ids)) := by
        refine permC fun x => ?_
        have := q5.count_eq x
        simp only [List.count_cons, List.count_append] at this ⊢
        omega
      have hz3 : nd N3 0 = Nd.zero := by
        rw [e3 0 (by omega), q7 0 (fun hm => ?_)]
        · exact hz
        · rcases List.mem_cons.1 hm with e | hm
          · exact absurd hn0 (by omega)
          · have := At.lt h5 0 hm
            omega
      have es : (nd N3 i).s = s0 := by simp only [e2, e1, h3]
      have el : (nd N3 i).l = (l).ix := by simp only [e2, e1, h3]
      have er : (nd N3 i).r = (t1).ix := by simp only [e2, e1, h3]
      have A1 : At N3 t1 := q2.congr (by omega) fun j hj => e3 j fun e => hi2 (e ▸ q5.mem_iff.1 hj)
      have A2 : At N3 l := At.congr h4 (by omega) fun j hj => by rw [e3 j (hoth j hj).1, q7 j (hoth j hj).2]
      have S : Sg N3 i l s0 t1 := ⟨hz3, h1, by omega, es, el, er, by assumption, by assumption, pp.nodup_iff.2 (List.nodup_cons.2 ⟨hnew, hnd⟩)⟩
      obtain ⟨t2, b1, b2, b3, b4, b5, b6, b7⟩ := bal_law S (by assumption) (by assumption) (by omega) (by omega)
      have m1 := maxI_c l.hh r.hh
      have m2 := maxI_c (l).hh (t1).hh
      refine ⟨t2, b1, b2, b5, ?_, b4.trans pp, ?_, fun j hj => ?_, rfl, by rw [hbl, hl3, q9]⟩
      · rw [b3, q4]
        simp only [toL]
        exact (insL_right hc _ _ fun x hx h => hc (lt_cmp (ltS_trans (cmp_lt h) (s3 x hx)))).symm
      · rw [hh_node]
        clear pp S hoth
        omega
      · have hj1 : j ∉ i :: ((l).ids ++ (t1).ids) := fun hm => hj (pp.mem_iff.1 hm)
        have hj2 : j ≠ i := fun e => hj1 (by rw [e]; exact List.mem_cons_self ..)
        have hj3 : j ∉ newI N sp :: (r).ids := fun hm => hj (by
          rcases List.mem_cons.1 hm with e | hm
          · rw [e]; exact List.mem_cons_self ..
          · simp [Tr.ids, hm])
        rw [b7 j hj1, e3 j hj2, q7 j hj3]
theorem filter_ne {s : Sp} {l : List Sp} (h : s ∉ l) : l.filter (fun x => decide (x ≠ s)) = l :=
  List.filter_eq_self.2 fun x hx => by
    have : x ≠ s := fun e => h (e ▸ hx)
    simpa using this
theorem min_head {N : List Nd} : ∀ {t : Tr}, At N t → t ≠ .nil → ∃ rest, toL t = minT t :: rest
  | .nil, _, h => absurd rfl h
  | .node i l s r hh f, ha, _ => by
    unfold minT toL
    by_cases h0 : l.ix = 0
    · rw [if_pos h0, ix_zero ha.2.2.2.1 h0]
      exact ⟨_, rfl⟩
    · rw [if_neg h0]
      obtain ⟨rest, e⟩ := min_head ha.2.2.2.1 (ix_pos ha.2.2.2.1 h0)
      exact ⟨rest ++ s :: toL r, by rw [e]; rfl⟩
theorem Srt.head {s : Sp} {t : Tr} {rest : List Sp} (hs : Srt t) (e : toL t = s :: rest) : (toL t).filter (fun x => decide (x ≠ s)) = rest := by
  unfold Srt at hs
  rw [e] at hs ⊢
  obtain ⟨h1, h2⟩ := List.pairwise_cons.1 hs
  rw [List.filter_cons_of_neg (by simp)]
  exact filter_ne fun hm => ltS_irr _ (h1 s hm)
theorem rem_law (t : Tr) : ∀ {s : Sp} {N : List Nd} {sp : List Nat}, nd N 0 = Nd.zero → At N t → Avl t → t.ids.Nodup → Srt t → s ∈ toL t → t.size ≤ 999999999900 →
    ∃ t' p, (remA t N sp s).1 = t'.ix ∧ At (remA t N sp s).2.1 t' ∧ Avl t' ∧ toL t' = (toL t).filter (fun x => decide (x ≠ s)) ∧ t.ids.Perm (p :: t'.ids) ∧ (t'.hh = t.hh ∨ t'.hh = t.hh - 1) ∧ (∀ j, j ∉ t.ids → nd (remA t N sp s).2.1 j = nd N j) ∧ (remA t N sp s).2.2 = sp ++ [p] ∧ (remA t N sp s).2.1.length = N.length := by
  induction t with
  | nil => intro s N sp _ _ _ _ _ hm; cases hm
  | node i l s0 r hh ff ihl ihr =>
    rintro s N sp hz ⟨h1, h2, h3, h4, h5⟩ ⟨a1, a2, a3, a4, a5⟩ hnd hs hm hsz
    have pl := a1.pos
    have pr := a2.pos
    obtain ⟨s1, s2, s3, s4⟩ := hs.node
    have hnd : (i :: (l.ids ++ r.ids)).Nodup := hnd
    have hsz : l.size + r.size + 1 ≤ 999999999900 := hsz
    unfold remA
    by_cases hc : cmpS s s0 < 0
    · rw [if_pos hc]
      dsimp only
      have hml := mem_left hs hm hc
      have ndT : (l).ids.Nodup := by first | exact (List.nodup_append.1 (List.nodup_cons.1 hnd).2).1 | exact (List.nodup_append.1 (List.nodup_cons.1 hnd).2).2.1
      obtain ⟨t1, p, q1, q2, q3, q4, q5, q6, q7, q8, q9⟩ := ihl (s := s) hz h4 (by assumption) ndT (by assumption) hml (by omega)
      generalize remA l N sp s = q at *
      obtain ⟨k', N', sp'⟩ := q
      dsimp only at q1 q2 q7 q8 q9 ⊢
      subst q1 q8
      have hi2 : i ∉ (l).ids := fun hm => (List.nodup_cons.1 hnd).1 (by simp [hm])
      have e1 : nd N' i = nd N i := q7 i hi2
      have e2 : nd (N'.set i { nd N' i with l := t1.ix }) i = { nd N' i with l := t1.ix, s := s0 } := by
        have : i < N'.length := by omega
        first
          | (rw [nd_set_same this]; rw [e1, h3]; done)
          | (rw [nd_set_same (by simpa using this), nd_set_same this]; done)
      have e3 : ∀ j, j ≠ i → nd (N'.set i { nd N' i with l := t1.ix }) j = nd N' j := fun j hj => by
        first
          | (rw [nd_set_other fun e => hj e.symm]; done)
          | (rw [nd_set_other fun e => hj e.symm, nd_set_other fun e => hj e.symm]; done)
      have hl3 : (N'.set i { nd N' i with l := t1.ix }).length = N'.length := by simp
      have hbl := balA_len (N'.set i { nd N' i with l := t1.ix }) i
      generalize N'.set i { nd N' i with l := t1.ix } = N3 at *
      have hoth : ∀ j ∈ (r).ids, j ≠ i ∧ j ∉ (l).ids := fun j hj => ⟨fun e => (List.nodup_cons.1 hnd).1 (by rw [← e]; simp [hj]), fun hm => by
        have := (List.nodup_append.1 (List.nodup_cons.1 hnd).2).2.2
        first | exact this j hm j hj rfl | exact this j hj j hm rfl⟩
      have pp : (i :: (l.ids ++ r.ids)).Perm (p :: i :: ((t1).ids ++ (r).ids)) := by
        refine permC fun x => ?_
        have := q5.count_eq x
        simp only [List.count_cons, List.count_append] at this ⊢
        omega
      have hz3 : nd N3 0 = Nd.zero := by
        rw [e3 0 (by omega), q7 0 (fun hm => ?_)]
        · exact hz
        · have := At.lt h4 0 hm
          omega
      have es : (nd N3 i).s = s0 := by simp only [e2, e1, h3]
      have el : (nd N3 i).l = (t1).ix := by simp only [e2, e1, h3]
      have er : (nd N3 i).r = (r).ix := by simp only [e2, e1, h3]
      have hq5 : ∀ j ∈ t1.ids, j ∈ (l).ids := fun j hj => q5.mem_iff.2 (List.mem_cons_of_mem _ hj)
      have A1 : At N3 t1 := q2.congr (by omega) fun j hj => e3 j fun e => hi2 (e ▸ hq5 j hj)
      have A2 : At N3 r := At.congr h5 (by omega) fun j hj => by rw [e3 j (hoth j hj).1, q7 j (hoth j hj).2]
      have S : Sg N3 i t1 s0 r := ⟨hz3, h1, by omega, es, el, er, by assumption, by assumption, (List.nodup_cons.1 (pp.nodup_iff.1 hnd)).2⟩
      have pl1 := q3.pos
      obtain ⟨t2, b1, b2, b3, b4, b5, b6, b7⟩ := bal_law S (by assumption) (by assumption) (by omega) (by omega)
      have m1 := maxI_c l.hh r.hh
      have m2 := maxI_c (t1).hh (r).hh
      refine ⟨t2, p, b1, b2, b5, ?_, pp.trans (b4.symm.cons p), ?_, fun j hj => ?_, rfl, by rw [hbl, hl3, q9]⟩
      rotate_left
      · rw [hh_node]
        clear pp S hoth
        omega
      · have hj0 : j ≠ i ∧ j ∉ l.ids ∧ j ∉ r.ids := by
          have hj : ¬ (j ∈ i :: (l.ids ++ r.ids)) := hj
          simpa [not_or] using hj
        have hj1 : j ∉ i :: ((t1).ids ++ (r).ids) := fun hm => by
          have hm := List.mem_cons_of_mem p hm
          have hm := pp.mem_iff.2 hm
          exact hj hm
        have hj3 : j ∉ (l).ids := by first | exact hj0.2.1 | exact hj0.2.2
        rw [b7 j hj1, e3 j hj0.1, q7 j hj3]
      rw [b3, q4]
      try simp only [toL]
      rw [List.filter_append, List.filter_cons_of_pos (by simpa using fun e => ltS_irr _ (e ▸ s3 s hml)), filter_ne fun hm2 => ltS_irr _ (ltS_trans (s3 s hml) (s4 s hm2))]
    · rw [if_neg hc]
      by_cases hc2 : 0 < cmpS s s0
      · rw [if_pos hc2]
        dsimp only
        have hmr := mem_right hs hm hc2
        have ndT : (r).ids.Nodup := by first | exact (List.nodup_append.1 (List.nodup_cons.1 hnd).2).1 | exact (List.nodup_append.1 (List.nodup_cons.1 hnd).2).2.1
        obtain ⟨t1, p, q1, q2, q3, q4, q5, q6, q7, q8, q9⟩ := ihr (s := s) hz h5 (by assumption) ndT (by assumption) hmr (by omega)
        generalize remA r N sp s = q at *
        obtain ⟨k', N', sp'⟩ := q
        dsimp only at q1 q2 q7 q8 q9 ⊢
        subst q1 q8
        have hi2 : i ∉ (r).ids := fun hm => (List.nodup_cons.1 hnd).1 (by simp [hm])
        have e1 : nd N' i = nd N i := q7 i hi2
        have e2 : nd (N'.set i { nd N' i with r := t1.ix }) i = { nd N' i with r := t1.ix, s := s0 } := by
          have : i < N'.length := by omega
          first
            | (rw [nd_set_same this]; rw [e1, h3]; done)
            | (rw [nd_set_same (by simpa using this), nd_set_same this]; done)
        have e3 : ∀ j, j ≠ i → nd (N'.set i { nd N' i with r := t1.ix }) j = nd N' j := fun j hj => by
          first
            | (rw [nd_set_other fun e => hj e.symm]; done)
            | (rw [nd_set_other fun e => hj e.symm, nd_set_other fun e => hj e.symm]; done)
        have hl3 : (N'.set i { nd N' i with r := t1.ix }).length = N'.length := by simp
        have hbl := balA_len (N'.set i { nd N' i with r := t1.ix }) i
        generalize N'.set i { nd N' i with r := t1.ix } = N3 at *
        have hoth : ∀ j ∈ (l).ids, j ≠ i ∧ j ∉ (r).ids := fun j hj => ⟨fun e => (List.nodup_cons.1 hnd).1 (by rw [← e]; simp [hj]), fun hm => by
          have := (List.nodup_append.1 (List.nodup_cons.1 hnd).2).2.2
          first | exact this j hm j hj rfl | exact this j hj j hm rfl⟩
        have pp : (i :: (l.ids ++ r.ids)).Perm (p :: i :: ((l).ids ++ (t1).ids)) := by
          refine permC fun x => ?_
          have := q5.count_eq x
          simp only [List.count_cons, List.count_append] at this ⊢
          omega
        have hz3 : nd N3 0 = Nd.zero := by
          rw [e3 0 (by omega), q7 0 (fun hm => ?_)]
          · exact hz
          · have := At.lt h5 0 hm
            omega
        have es : (nd N3 i).s = s0 := by simp only [e2, e1, h3]
        have el : (nd N3 i).l = (l).ix := by simp only [e2, e1, h3]
        have er : (nd N3 i).r = (t1).ix := by simp only [e2, e1, h3]
        have hq5 : ∀ j ∈ t1.ids, j ∈ (r).ids := fun j hj => q5.mem_iff.2 (List.mem_cons_of_mem _ hj)
        have A1 : At N3 t1 := q2.congr (by omega) fun j hj => e3 j fun e => hi2 (e ▸ hq5 j hj)
        have A2 : At N3 l := At.congr h4 (by omega) fun j hj => by rw [e3 j (hoth j hj).1, q7 j (hoth j hj).2]
        have S : Sg N3 i l s0 t1 := ⟨hz3, h1, by omega, es, el, er, by assumption, by assumption, (List.nodup_cons.1 (pp.nodup_iff.1 hnd)).2⟩
        have pl1 := q3.pos
        obtain ⟨t2, b1, b2, b3, b4, b5, b6, b7⟩ := bal_law S (by assumption) (by assumption) (by omega) (by omega)
        have m1 := maxI_c l.hh r.hh
        have m2 := maxI_c (l).hh (t1).hh
        refine ⟨t2, p, b1, b2, b5, ?_, pp.trans (b4.symm.cons p), ?_, fun j hj => ?_, rfl, by rw [hbl, hl3, q9]⟩
        rotate_left
        · rw [hh_node]
          clear pp S hoth
          omega
        · have hj0 : j ≠ i ∧ j ∉ l.ids ∧ j ∉ r.ids := by
            have hj : ¬ (j ∈ i :: (l.ids ++ r.ids)) := hj
            simpa [not_or] using hj
          have hj1 : j ∉ i :: ((l).ids ++ (t1).ids) := fun hm => by
            have hm := List.mem_cons_of_mem p hm
            have hm := pp.mem_iff.2 hm
            exact hj hm
          have hj3 : j ∉ (r).ids := by first | exact hj0.2.1 | exact hj0.2.2
          rw [b7 j hj1, e3 j hj0.1, q7 j hj3]
        rw [b3, q4]
        try simp only [toL]
        rw [List.filter_append, List.filter_cons_of_pos (by simpa using fun e => ltS_irr _ (e ▸ s4 s hmr)), filter_ne fun hm2 => ltS_irr _ (ltS_trans (s3 s hm2) (s4 s hmr))]
      · rw [if_neg hc2]
        obtain rfl : s = s0 := by
          rcases cmp_cases s s0 with h | h | h
          · omega
          · exact h.2
          · omega
        have hfil : (toL (.node i l s r hh ff)).filter (fun x => decide (x ≠ s)) = toL l ++ toL r := by
          simp only [toL]
          rw [List.filter_append, List.filter_cons_of_neg (by simp), filter_ne fun hm2 => ltS_irr _ (s3 s hm2), filter_ne fun hm2 => ltS_irr _ (s4 s hm2)]
        rw [hfil]
        have m1 := maxI_c l.hh r.hh
        by_cases h0 : l.ix = 0 ∨ r.ix = 0
        · rw [if_pos h0]
          dsimp only
          by_cases hl0 : l.ix = 0
          · obtain rfl := ix_zero h4 hl0
            refine ⟨r, i, by simp [Tr.ix], h5, a2, rfl, List.Perm.refl _, ?_, fun j _ => rfl, rfl, rfl⟩
            rw [hh_node, a3]
            rw [hh_nil] at *
            omega
          · obtain rfl := ix_zero h5 (h0.resolve_left hl0)
            refine ⟨l, i, by simp [Tr.ix], h4, a1, by simp [toL], ?_, ?_, fun j _ => rfl, rfl, rfl⟩
            · show (i :: (l.ids ++ [])).Perm _
              rw [List.append_nil]
            · rw [hh_node, a3]
              rw [hh_nil] at *
              omega
        · rw [if_neg h0]
          dsimp only
          clear m1
          have hr0 : r ≠ .nil := ix_pos h5 fun e => h0 (.inr e)
          obtain ⟨rest, hrest⟩ := min_head h5 hr0
          have hmm := min_mem h5 hr0
          have ndT : (r).ids.Nodup := by first | exact (List.nodup_append.1 (List.nodup_cons.1 hnd).2).1 | exact (List.nodup_append.1 (List.nodup_cons.1 hnd).2).2.1
          obtain ⟨t1, p, q1, q2, q3, q4, q5, q6, q7, q8, q9⟩ := ihr (s := (minT r)) hz h5 (by assumption) ndT (by assumption) hmm (by omega)
          generalize remA r N sp (minT r) = q at *
          obtain ⟨k', N', sp'⟩ := q
          dsimp only at q1 q2 q7 q8 q9 ⊢
          subst q1 q8
          have hi2 : i ∉ (r).ids := fun hm => (List.nodup_cons.1 hnd).1 (by simp [hm])
          have e1 : nd N' i = nd N i := q7 i hi2
          have e2 : nd ((N'.set i { nd N' i with r := t1.ix }).set i { nd (N'.set i { nd N' i with r := t1.ix }) i with s := minT r }) i = { nd N' i with r := t1.ix, s := (minT r) } := by
            have : i < N'.length := by omega
            first
              | (rw [nd_set_same this]; rw [e1, h3]; done)
              | (rw [nd_set_same (by simpa using this), nd_set_same this]; done)
          have e3 : ∀ j, j ≠ i → nd ((N'.set i { nd N' i with r := t1.ix }).set i { nd (N'.set i { nd N' i with r := t1.ix }) i with s := minT r }) j = nd N' j := fun j hj => by
            first
              | (rw [nd_set_other fun e => hj e.symm]; done)
              | (rw [nd_set_other fun e => hj e.symm, nd_set_other fun e => hj e.symm]; done)
          have hl3 : ((N'.set i { nd N' i with r := t1.ix }).set i { nd (N'.set i { nd N' i with r := t1.ix }) i with s := minT r }).length = N'.length := by simp
          have hbl := balA_len ((N'.set i { nd N' i with r := t1.ix }).set i { nd (N'.set i { nd N' i with r := t1.ix }) i with s := minT r }) i
          generalize (N'.set i { nd N' i with r := t1.ix }).set i { nd (N'.set i { nd N' i with r := t1.ix }) i with s := minT r } = N3 at *
          have hoth : ∀ j ∈ (l).ids, j ≠ i ∧ j ∉ (r).ids := fun j hj => ⟨fun e => (List.nodup_cons.1 hnd).1 (by rw [← e]; simp [hj]), fun hm => by
            have := (List.nodup_append.1 (List.nodup_cons.1 hnd).2).2.2
            first | exact this j hm j hj rfl | exact this j hj j hm rfl⟩
          have pp : (i :: (l.ids ++ r.ids)).Perm (p :: i :: ((l).ids ++ (t1).ids)) := by
            refine permC fun x => ?_
            have := q5.count_eq x
            simp only [List.count_cons, List.count_append] at this ⊢
            omega
          have hz3 : nd N3 0 = Nd.zero := by
            rw [e3 0 (by omega), q7 0 (fun hm => ?_)]
            · exact hz
            · have := At.lt h5 0 hm
              omega
          have es : (nd N3 i).s = (minT r) := by simp only [e2, e1, h3]
          have el : (nd N3 i).l = (l).ix := by simp only [e2, e1, h3]
          have er : (nd N3 i).r = (t1).ix := by simp only [e2, e1, h3]
          have hq5 : ∀ j ∈ t1.ids, j ∈ (r).ids := fun j hj => q5.mem_iff.2 (List.mem_cons_of_mem _ hj)
          have A1 : At N3 t1 := q2.congr (by omega) fun j hj => e3 j fun e => hi2 (e ▸ hq5 j hj)
          have A2 : At N3 l := At.congr h4 (by omega) fun j hj => by rw [e3 j (hoth j hj).1, q7 j (hoth j hj).2]
          have S : Sg N3 i l (minT r) t1 := ⟨hz3, h1, by omega, es, el, er, by assumption, by assumption, (List.nodup_cons.1 (pp.nodup_iff.1 hnd)).2⟩
          have pl1 := q3.pos
          obtain ⟨t2, b1, b2, b3, b4, b5, b6, b7⟩ := bal_law S (by assumption) (by assumption) (by omega) (by omega)
          have m1 := maxI_c l.hh r.hh
          have m2 := maxI_c (l).hh (t1).hh
          refine ⟨t2, p, b1, b2, b5, ?_, pp.trans (b4.symm.cons p), ?_, fun j hj => ?_, rfl, by rw [hbl, hl3, q9]⟩
          rotate_left
          · rw [hh_node]
            clear pp S hoth
            omega
          · have hj0 : j ≠ i ∧ j ∉ l.ids ∧ j ∉ r.ids := by
              have hj : ¬ (j ∈ i :: (l.ids ++ r.ids)) := hj
              simpa [not_or] using hj
            have hj1 : j ∉ i :: ((l).ids ++ (t1).ids) := fun hm => by
              have hm := List.mem_cons_of_mem p hm
              have hm := pp.mem_iff.2 hm
              exact hj hm
            have hj3 : j ∉ (r).ids := by first | exact hj0.2.1 | exact hj0.2.2
            rw [b7 j hj1, e3 j hj0.1, q7 j hj3]
          rw [b3, q4]
          try simp only [toL]
          rw [s2.head hrest, ← hrest]
end Go.Proofs.Ytjeghbachokljaa
