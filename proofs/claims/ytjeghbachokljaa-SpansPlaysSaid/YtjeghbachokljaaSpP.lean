/- What mending, inserting and removing do to a balanced tree: the plain law. -/
import Derived.Test.YtjeghbachokljaaSpH
set_option linter.unusedVariables false
set_option linter.unusedSimpArgs false
namespace Go.Proofs.Ytjeghbachokljaa
open Go
set_option maxRecDepth 20000
set_option maxHeartbeats 2000000
def Tr.ids : Tr → List Nat
  | .nil => []
  | .node i l _ r _ _ => i :: (l.ids ++ r.ids)
def Tr.hh : Tr → Int
  | .nil => 0
  | .node _ _ _ _ h _ => h
def Tr.ff : Tr → Int
  | .nil => 0
  | .node _ _ _ _ _ f => f
theorem hh_node {i : Nat} {l r : Tr} {s : Sp} {h f : Int} : (Tr.node i l s r h f).hh = h := rfl
theorem hh_nil : Tr.nil.hh = 0 := rfl
def Far (t : Tr) : Prop := ∀ x ∈ toL t, x.b ≤ t.ff
/-- heights are right, no node leans by more than one, no end is greater than what is noted -/
def Avl : Tr → Prop
  | .nil => True
  | .node i l s r h f => Avl l ∧ Avl r ∧ h = 1 + maxI l.hh r.hh ∧ (-1 ≤ l.hh - r.hh ∧ l.hh - r.hh ≤ 1) ∧ Far (.node i l s r h f)
theorem maxI_c (a b : Int) : (maxI a b = a ∧ b ≤ a) ∨ (maxI a b = b ∧ a ≤ b) := by
  unfold maxI
  by_cases h : a < b
  · rw [if_pos h]; omega
  · rw [if_neg h]; omega
theorem Avl.pos : ∀ {t : Tr}, Avl t → 0 ≤ t.hh ∧ t.hh ≤ (t.size : Nat) ∧ (t.hh = 0 → t = .nil)
  | .nil, _ => ⟨by simp [Tr.hh], by simp [Tr.hh, Tr.size], fun _ => rfl⟩
  | .node i l s r h f, ha => by
    obtain ⟨h1, h2, h3, h4, h5⟩ := ha
    have i1 := h1.pos
    have i2 := h2.pos
    have := maxI_c l.hh r.hh
    have e1 : (Tr.node i l s r h f).hh = h := rfl
    have e2 : (Tr.node i l s r h f).size = l.size + r.size + 1 := rfl
    rw [e1, e2]
    exact ⟨by omega, by omega, fun e => absurd e (by omega)⟩
theorem Avl.far {t : Tr} (h : Avl t) : Far t := by
  cases t with
  | nil => intro x hx; cases hx
  | node i l s r hh f => exact h.2.2.2.2
theorem At.lt : ∀ {N : List Nd} {t : Tr}, At N t → ∀ j ∈ t.ids, 0 < j ∧ j < N.length
  | N, .nil, _, j, hj => by cases hj
  | N, .node i l s r h f, ha, j, hj => by
    obtain ⟨h1, h2, h3, h4, h5⟩ := ha
    rcases List.mem_cons.1 hj with rfl | hj
    · exact ⟨h1, h2⟩
    · rcases List.mem_append.1 hj with hj | hj
      · exact h4.lt j hj
      · exact h5.lt j hj
theorem At.congr : ∀ {N N' : List Nd} {t : Tr}, At N t → N.length ≤ N'.length → (∀ j ∈ t.ids, nd N' j = nd N j) → At N' t
  | N, N', .nil, _, _, _ => trivial
  | N, N', .node i l s r h f, ha, hn, hj => by
    obtain ⟨h1, h2, h3, h4, h5⟩ := ha
    exact ⟨h1, by omega, by rw [hj i (List.mem_cons_self ..)]; exact h3, h4.congr hn fun j hm => hj j (List.mem_cons_of_mem _ (List.mem_append.2 (.inl hm))), h5.congr hn fun j hm => hj j (List.mem_cons_of_mem _ (List.mem_append.2 (.inr hm)))⟩
theorem At.top {N : List Nd} {t : Tr} (h : At N t) (hz : nd N 0 = Nd.zero) : (nd N t.ix).h = t.hh ∧ (nd N t.ix).f = t.ff := by
  cases t with
  | nil => 
    show (nd N 0).h = 0 ∧ (nd N 0).f = 0
    rw [hz]
    exact ⟨rfl, rfl⟩
  | node i l s r hh f =>
    show (nd N i).h = hh ∧ (nd N i).f = f
    rw [h.2.2.1]
    exact ⟨rfl, rfl⟩
theorem ix_mem {t : Tr} (h : t ≠ .nil) : t.ix ∈ t.ids := by
  cases t with
  | nil => exact absurd rfl h
  | node i l s r hh f => exact List.mem_cons_self ..
theorem ids_size : ∀ t : Tr, t.ids.length = t.size
  | .nil => rfl
  | .node i l s r h f => by
    have := ids_size l
    have := ids_size r
    simp only [Tr.ids, Tr.size, List.length_cons, List.length_append]
    omega
theorem toL_size : ∀ t : Tr, (toL t).length = t.size
  | .nil => rfl
  | .node i l s r h f => by
    have := toL_size l
    have := toL_size r
    simp only [toL, Tr.size, List.length_cons, List.length_append]
    omega
/-- node i is to be mended over two trees -/
structure Sg (N : List Nd) (i : Nat) (l : Tr) (s : Sp) (r : Tr) : Prop where
  z : nd N 0 = Nd.zero
  i0 : 0 < i
  il : i < N.length
  es : (nd N i).s = s
  el : (nd N i).l = l.ix
  er : (nd N i).r = r.ix
  al : At N l
  ar : At N r
  nodup : (i :: (l.ids ++ r.ids)).Nodup
theorem Sg.nl {N : List Nd} {i : Nat} {l r : Tr} {s : Sp} (h : Sg N i l s r) : i ∉ l.ids := fun hm => (List.nodup_cons.1 h.nodup).1 (List.mem_append.2 (.inl hm))
theorem Sg.nr {N : List Nd} {i : Nat} {l r : Tr} {s : Sp} (h : Sg N i l s r) : i ∉ r.ids := fun hm => (List.nodup_cons.1 h.nodup).1 (List.mem_append.2 (.inr hm))
theorem w64_in {x : Int} (h : -1152921504606846976 ≤ x ∧ x ≤ 1152921504606846976) : w64 x = x := by
  unfold w64
  rw [wrap_in (by omega)]
theorem far_le {N : List Nd} {i : Nat} {l r : Tr} {s : Sp} (h : Sg N i l s r) : (∀ x ∈ toL l, x.b ≤ l.ff) → (∀ x ∈ toL r, x.b ≤ r.ff) → ∀ x ∈ toL l ++ s :: toL r, x.b ≤ farA N (nd N i) := by
  intro h1 h2 x hx
  have e1 := h.al.top h.z
  have e2 := h.ar.top h.z
  have hl : l.ix = 0 → toL l = [] := fun e => by rw [ix_zero h.al e]; rfl
  have hr : r.ix = 0 → toL r = [] := fun e => by rw [ix_zero h.ar e]; rfl
  unfold farA
  dsimp only
  rw [h.es, h.el, h.er, e1.2, e2.2]
  have m1 := maxI_c s.b l.ff
  have m2 := maxI_c s.b r.ff
  have m3 := maxI_c (maxI s.b l.ff) r.ff
  rcases List.mem_append.1 hx with hx | hx
  · have := h1 x hx
    have hn : l.ix ≠ 0 := fun e => by rw [hl e] at hx; cases hx
    by_cases hr0 : r.ix = 0
    · simp [hn, hr0]; omega
    · simp [hn, hr0]; omega
  · rcases List.mem_cons.1 hx with rfl | hx
    · by_cases hl0 : l.ix = 0 <;> by_cases hr0 : r.ix = 0 <;> simp [hl0, hr0] <;> omega
    · have := h2 x hx
      have hn : r.ix ≠ 0 := fun e => by rw [hr e] at hx; cases hx
      by_cases hl0 : l.ix = 0
      · simp [hn, hl0]; omega
      · simp [hn, hl0]; omega
theorem fix_law {N : List Nd} {i : Nat} {l r : Tr} {s : Sp} (h : Sg N i l s r) (hb : 0 ≤ l.hh ∧ l.hh ≤ 1000000000000000 ∧ 0 ≤ r.hh ∧ r.hh ≤ 1000000000000000) :
    ∃ f, At (fixA N i) (.node i l s r (1 + maxI l.hh r.hh) f) ∧ (Far l → Far r → Far (.node i l s r (1 + maxI l.hh r.hh) f)) ∧ (∀ j, j ≠ i → nd (fixA N i) j = nd N j) := by
  have hj : ∀ j, j ≠ i → nd (fixA N i) j = nd N j := fun j hne => nd_set_other (fun e => hne e.symm)
  have e1 := h.al.top h.z
  have e2 := h.ar.top h.z
  have m := maxI_c l.hh r.hh
  refine ⟨farA N (nd N i), ⟨h.i0, by rw [fixA_len]; exact h.il, ?_, h.al.congr (by rw [fixA_len]; exact Nat.le_refl _) fun j hm => hj j (fun e => h.nl (e ▸ hm)), h.ar.congr (by rw [fixA_len]; exact Nat.le_refl _) fun j hm => hj j (fun e => h.nr (e ▸ hm))⟩, fun h1 h2 => far_le h h1 h2, hj⟩
  unfold fixA
  rw [nd_set_same h.il]
  rw [h.el, h.er, e1.1, e2.1, w64_in (by omega), ← h.es, ← h.el, ← h.er]
abbrev Sm (t : Tr) : Prop := 0 ≤ t.hh ∧ t.hh ≤ 999999999999990
theorem turn_left {N : List Nd} {i k : Nat} {a b r : Tr} {s u : Sp} {hk fk : Int} (h : Sg N i (.node k a u b hk fk) s r) (h1 : Sm a) (h2 : Sm b) (h3 : Sm r) :
    ∃ f1 f2, (turnA N i true).1 = k ∧ At (turnA N i true).2 (.node k a u (.node i b s r (1 + maxI b.hh r.hh) f1) (1 + maxI a.hh (1 + maxI b.hh r.hh)) f2) ∧
      (Far a → Far b → Far r → Far (.node i b s r (1 + maxI b.hh r.hh) f1) ∧ Far (.node k a u (.node i b s r (1 + maxI b.hh r.hh) f1) (1 + maxI a.hh (1 + maxI b.hh r.hh)) f2)) ∧ (∀ j, j ≠ i → j ≠ k → nd (turnA N i true).2 j = nd N j) := by
  obtain ⟨z, i0, il, es, el, er, ⟨k0, kl, kn, aa, ab⟩, ar, nodup⟩ := h
  have el : (nd N i).l = k := el
  have nodup : (i :: (k :: (a.ids ++ b.ids) ++ r.ids)).Nodup := nodup
  have hik : i ≠ k := fun e => (List.nodup_cons.1 nodup).1 (by simp [e])
  simp only [List.cons_append, List.nodup_cons, List.mem_cons, List.mem_append, List.append_assoc, not_or, List.nodup_append] at nodup
  obtain ⟨⟨_, n1, n2, n3⟩, ⟨n4, n5, n6⟩, n7, ⟨n8, n9, n10⟩, n11⟩ := nodup
  have er1 : (turnA N i true).1 = k := el
  have er2 : (turnA N i true).2 = fixA (fixA ((N.set i { nd N i with l := b.ix }).set k ⟨u, a.ix, i, hk, fk⟩) i) k := by
    unfold turnA
    rw [if_pos rfl]
    dsimp only
    rw [el, nd_set_other hik, kn]
  generalize hN2 : (N.set i { nd N i with l := b.ix }).set k ⟨u, a.ix, i, hk, fk⟩ = N2 at *
  have hlen : N2.length = N.length := by rw [← hN2]; simp
  have q : ∀ j, j ≠ i → j ≠ k → nd N2 j = nd N j := fun j hi hk' => by rw [← hN2, nd_set_other (fun e => hk' e.symm), nd_set_other (fun e => hi e.symm)]
  have qk : nd N2 k = ⟨u, a.ix, i, hk, fk⟩ := by rw [← hN2, nd_set_same (by simpa using kl)]
  have qi : nd N2 i = { nd N i with l := b.ix } := by rw [← hN2, nd_set_other (fun e => hik e.symm), nd_set_same il]
  have A : Sg N2 i b s r := ⟨by rw [q 0 (by omega) (by omega)]; exact z, i0, by omega, by rw [qi]; exact es, by rw [qi], by rw [qi]; exact er,
    ab.congr (by omega) fun j hm => q j (fun e => n2 (e ▸ hm)) (fun e => n5 (e ▸ hm)), ar.congr (by omega) fun j hm => q j (fun e => n3 (e ▸ hm)) (fun e => n6 (e ▸ hm)), by
      simp only [List.nodup_cons, List.mem_append, not_or, List.nodup_append]
      exact ⟨⟨n2, n3⟩, n8, n9, n10⟩⟩
  obtain ⟨f1, g1, g2, g3⟩ := fix_law A (by omega)
  have m1 := maxI_c b.hh r.hh
  generalize hN3 : fixA N2 i = N3 at *
  have hlen3 : N3.length = N2.length := by rw [← hN3, fixA_len]
  have B : Sg N3 k a u (.node i b s r (1 + maxI b.hh r.hh) f1) := ⟨by rw [g3 0 (by omega)]; exact A.z, k0, by omega, by rw [g3 k (fun e => hik e.symm), qk], by rw [g3 k (fun e => hik e.symm), qk], by rw [g3 k (fun e => hik e.symm), qk]; rfl,
    aa.congr (by omega) fun j hm => by rw [g3 j (fun e => n1 (e ▸ hm)), q j (fun e => n1 (e ▸ hm)) (fun e => n4 (e ▸ hm))], g1, by
      simp only [Tr.ids, List.nodup_cons, List.mem_append, List.mem_cons, not_or, List.nodup_append]
      refine ⟨⟨n4, fun e => hik e.symm, n5, n6⟩, n7, ⟨⟨n2, n3⟩, n8, n9, n10⟩, ?_⟩
      rintro x hx y (rfl | hy)
      · exact fun e => n1 (e ▸ hx)
      · exact n11 x hx y hy⟩
  obtain ⟨f2, g4, g5, g6⟩ := fix_law B (by show _ ∧ _ ∧ (0 : Int) ≤ 1 + maxI b.hh r.hh ∧ 1 + maxI b.hh r.hh ≤ 1000000000000000; omega)
  rw [er2]
  exact ⟨f1, f2, er1, g4, fun x y z => ⟨g2 y z, g5 x (g2 y z)⟩, fun j hi hk' => by rw [g6 j hk', g3 j hi, q j hi hk']⟩
theorem turn_right {N : List Nd} {i k : Nat} {a b l : Tr} {s u : Sp} {hk fk : Int} (h : Sg N i l s (.node k a u b hk fk)) (h1 : Sm a) (h2 : Sm b) (h3 : Sm l) :
    ∃ f1 f2, (turnA N i false).1 = k ∧ At (turnA N i false).2 (.node k (.node i l s a (1 + maxI l.hh a.hh) f1) u b (1 + maxI (1 + maxI l.hh a.hh) b.hh) f2) ∧
      (Far a → Far b → Far l → Far (.node i l s a (1 + maxI l.hh a.hh) f1) ∧ Far (.node k (.node i l s a (1 + maxI l.hh a.hh) f1) u b (1 + maxI (1 + maxI l.hh a.hh) b.hh) f2)) ∧ (∀ j, j ≠ i → j ≠ k → nd (turnA N i false).2 j = nd N j) := by
  obtain ⟨z, i0, il, es, el, er, al, ⟨k0, kl, kn, aa, ab⟩, nodup⟩ := h
  have er : (nd N i).r = k := er
  have nodup : (i :: (l.ids ++ k :: (a.ids ++ b.ids))).Nodup := nodup
  have hik : i ≠ k := fun e => (List.nodup_cons.1 nodup).1 (by simp [e])
  simp only [List.nodup_cons, List.mem_cons, List.mem_append, not_or, List.nodup_append] at nodup
  obtain ⟨⟨n3, _, n1, n2⟩, n8, ⟨⟨n4, n5⟩, n7, n9, n11⟩, n10⟩ := nodup
  have er1 : (turnA N i false).1 = k := er
  have er2 : (turnA N i false).2 = fixA (fixA ((N.set i { nd N i with r := a.ix }).set k ⟨u, i, b.ix, hk, fk⟩) i) k := by
    unfold turnA
    rw [if_neg (by decide)]
    dsimp only
    rw [er, nd_set_other hik, kn]
  generalize hN2 : (N.set i { nd N i with r := a.ix }).set k ⟨u, i, b.ix, hk, fk⟩ = N2 at *
  have hlen : N2.length = N.length := by rw [← hN2]; simp
  have q : ∀ j, j ≠ i → j ≠ k → nd N2 j = nd N j := fun j hi hk' => by rw [← hN2, nd_set_other (fun e => hk' e.symm), nd_set_other (fun e => hi e.symm)]
  have qk : nd N2 k = ⟨u, i, b.ix, hk, fk⟩ := by rw [← hN2, nd_set_same (by simpa using kl)]
  have qi : nd N2 i = { nd N i with r := a.ix } := by rw [← hN2, nd_set_other (fun e => hik e.symm), nd_set_same il]
  have A : Sg N2 i l s a := ⟨by rw [q 0 (by omega) (by omega)]; exact z, i0, by omega, by rw [qi]; exact es, by rw [qi]; exact el, by rw [qi],
    al.congr (by omega) fun j hm => q j (fun e => n3 (e ▸ hm)) (fun e => n10 j hm k (by simp) e), aa.congr (by omega) fun j hm => q j (fun e => n1 (e ▸ hm)) (fun e => n4 (e ▸ hm)), by
      simp only [List.nodup_cons, List.mem_append, not_or, List.nodup_append]
      exact ⟨⟨n3, n1⟩, n8, n7, fun x hx y hy => n10 x hx y (.inr (.inl hy))⟩⟩
  obtain ⟨f1, g1, g2, g3⟩ := fix_law A (by omega)
  have m1 := maxI_c l.hh a.hh
  generalize hN3 : fixA N2 i = N3 at *
  have hlen3 : N3.length = N2.length := by rw [← hN3, fixA_len]
  have B : Sg N3 k (.node i l s a (1 + maxI l.hh a.hh) f1) u b := ⟨by rw [g3 0 (by omega)]; exact A.z, k0, by omega, by rw [g3 k (fun e => hik e.symm), qk], by rw [g3 k (fun e => hik e.symm), qk]; rfl, by rw [g3 k (fun e => hik e.symm), qk], g1,
    ab.congr (by omega) fun j hm => by rw [g3 j (fun e => n2 (e ▸ hm)), q j (fun e => n2 (e ▸ hm)) (fun e => n5 (e ▸ hm))], by
      simp only [Tr.ids, List.nodup_cons, List.mem_append, List.mem_cons, not_or, List.nodup_append]
      refine ⟨⟨⟨fun e => hik e.symm, fun hm => n10 k hm k (by simp) rfl, n4⟩, n5⟩, ⟨⟨n3, n1⟩, n8, n7, fun x hx y hy => n10 x hx y (.inr (.inl hy))⟩, n9, ?_⟩
      rintro x (rfl | hx | hx) y hy
      · exact fun e => n2 (e ▸ hy)
      · exact n10 x hx y (.inr (.inr hy))
      · exact n11 x hx y hy⟩
  obtain ⟨f2, g4, g5, g6⟩ := fix_law B (by show (0 : Int) ≤ 1 + maxI l.hh a.hh ∧ 1 + maxI l.hh a.hh ≤ 1000000000000000 ∧ _ ∧ _; omega)
  rw [er2]
  exact ⟨f1, f2, er1, g4, fun x y z => ⟨g2 z x, g5 (g2 z x) y⟩, fun j hi hk' => by rw [g6 j hk', g3 j hi, q j hi hk']⟩
theorem At.sg {N : List Nd} {i : Nat} {l r : Tr} {s : Sp} {h f : Int} (ha : At N (.node i l s r h f)) (hz : nd N 0 = Nd.zero) (hn : (Tr.node i l s r h f).ids.Nodup) : Sg N i l s r := by
  obtain ⟨h1, h2, h3, h4, h5⟩ := ha
  exact ⟨hz, h1, h2, by rw [h3], by rw [h3], by rw [h3], h4, h5, hn⟩
theorem Sg.lean {N : List Nd} {i : Nat} {l r : Tr} {s : Sp} (h : Sg N i l s r) (h1 : Sm l) (h2 : Sm r) : leanA N i = l.hh - r.hh := by
  unfold leanA
  rw [h.el, h.er, (h.al.top h.z).1, (h.ar.top h.z).1, w64_in (by omega)]
theorem maxI_ge (a b : Int) : a ≤ maxI a b ∧ b ≤ maxI a b := by have := maxI_c a b; omega
theorem maxI_l {a b : Int} (h : b ≤ a) : maxI a b = a := by have := maxI_c a b; omega
theorem maxI_r {a b : Int} (h : a ≤ b) : maxI a b = b := by have := maxI_c a b; omega
theorem permC {a b : List Nat} (h : ∀ x, a.count x = b.count x) : a.Perm b := List.perm_iff_count.2 h
theorem bal_law {N : List Nd} {i : Nat} {l r : Tr} {s : Sp} (h : Sg N i l s r) (hl : Avl l) (hr : Avl r) (hd : -2 ≤ l.hh - r.hh ∧ l.hh - r.hh ≤ 2) (b1 : l.hh ≤ 999999999990 ∧ r.hh ≤ 999999999990) :
    ∃ t', (balA N i).1 = t'.ix ∧ At (balA N i).2 t' ∧ toL t' = toL l ++ s :: toL r ∧ t'.ids.Perm (i :: (l.ids ++ r.ids)) ∧ Avl t' ∧
      (t'.hh = 1 + maxI l.hh r.hh ∨ (t'.hh = maxI l.hh r.hh ∧ (l.hh - r.hh = 2 ∨ l.hh - r.hh = -2))) ∧ (∀ j, j ∉ i :: (l.ids ++ r.ids) → nd (balA N i).2 j = nd N j) := by
  have pl := hl.pos
  have pr := hr.pos
  obtain ⟨f, g1, g2, g3⟩ := fix_law h (by omega)
  have g2 := g2 hl.far hr.far
  unfold balA
  dsimp only
  generalize fixA N i = N1 at *
  have i0 := h.i0
  have z1 : nd N1 0 = Nd.zero := by rw [g3 0 (by omega)]; exact h.z
  have S1 := g1.sg z1 h.nodup
  have le := S1.lean (by omega) (by omega)
  rw [le, S1.el, S1.er]
  by_cases c1 : l.hh - r.hh = 2
  · rw [if_pos c1]
    cases l with
    | nil => exact absurd c1 (by rw [hh_nil]; omega)
    | node k a u b hk fk =>
      obtain ⟨va, vb, vh, vd, vf⟩ := hl
      have pa := va.pos
      have pb := vb.pos
      have m1 := maxI_ge a.hh b.hh
      simp only [hh_node] at c1 pl b1 hd le ⊢
      have nk : (Tr.node k a u b hk fk).ids.Nodup := (List.nodup_append.1 (List.nodup_cons.1 S1.nodup).2).1
      have S2 := S1.al.sg z1 nk
      have le2 := S2.lean (by omega) (by omega)
      show ∃ t', (turnA (if leanA N1 k < 0 then _ else _) i true).1 = _ ∧ _
      simp only [show (Tr.node k a u b hk fk).ix = k from rfl] at *
      rw [le2]
      by_cases c2 : a.hh - b.hh < 0
      · rw [if_pos c2]
        cases b with
        | nil => exact absurd c2 (by rw [hh_nil]; omega)
        | node m c v d hm fm =>
          obtain ⟨wc, wd, wh, wd2, wf⟩ := vb
          have pc := wc.pos
          have pd := wd.pos
          simp only [hh_node] at c2 pb vd vh le2 m1
          have e1 : hm = a.hh + 1 := by omega
          have e2 : hk = a.hh + 2 := by rw [maxI_r (by omega)] at vh; omega
          have e3 : r.hh = a.hh := by omega
          have e4 : c.hh ≤ a.hh ∧ d.hh ≤ a.hh ∧ a.hh - 1 ≤ c.hh ∧ a.hh - 1 ≤ d.hh := by have := maxI_c c.hh d.hh; clear m1 vh; omega
          have e5 : maxI a.hh c.hh = a.hh := maxI_l e4.1
          have e6 : maxI d.hh r.hh = a.hh := by rw [maxI_r (by omega)]; exact e3
          have e7 : maxI (1 + maxI a.hh c.hh) (1 + maxI d.hh r.hh) = 1 + a.hh := by rw [e5, e6, maxI_l (by omega)]
          have e8 : maxI hk r.hh = a.hh + 2 := by rw [maxI_l (by omega)]; exact e2
          clear m1 vh wh
          obtain ⟨f1, f2, t1, t2, t3, t4⟩ := turn_right S2 (by omega) (by omega) (by omega)
          have t3 := t3 wc.far wd.far va.far
          rw [t1]
          have nlen := turnA_len N1 k false
          have nn := S1.nodup
          generalize (turnA N1 k false).2 = N2 at *
          have pm : (Tr.node m (.node k a u c (1 + maxI a.hh c.hh) f1) v d (1 + maxI (1 + maxI a.hh c.hh) d.hh) f2).ids.Perm (Tr.node k a u (.node m c v d hm fm) hk fk).ids := by
            exact permC fun x => by
              simp only [Tr.ids, List.count_cons, List.count_append, Nat.add_assoc, Nat.add_comm, Nat.add_left_comm]
          have hik : i ≠ k := fun e => h.nl (by rw [e]; exact List.mem_cons_self ..)
          have him : i ≠ m := fun e => h.nl (by rw [e]; simp [Tr.ids])
          have hrj : ∀ j ∈ r.ids, j ≠ k ∧ j ≠ m := fun j hj => by
            have := (List.nodup_append.1 (List.nodup_cons.1 nn).2).2.2
            exact ⟨fun e => this k (by simp [Tr.ids]) j hj e.symm, fun e => this m (by simp [Tr.ids]) j hj e.symm⟩
          have k0 := S2.i0
          have m0 := (t2.lt m (by simp [Tr.ids])).1
          have qi : nd (N2.set i { nd N2 i with l := m }) i = { nd N2 i with l := m } := nd_set_same (by rw [nlen]; exact S1.il)
          have qn : nd N2 i = nd N1 i := t4 i hik him
          have qj : ∀ j, j ≠ i → nd (N2.set i { nd N2 i with l := m }) j = nd N2 j := fun j e => nd_set_other (fun e2 => e e2.symm)
          have hN3 : (N2.set i { nd N2 i with l := m }).length = N2.length := by simp
          generalize N2.set i { nd N2 i with l := m } = N3 at *
          have S3 : Sg N3 i (.node m (.node k a u c (1 + maxI a.hh c.hh) f1) v d (1 + maxI (1 + maxI a.hh c.hh) d.hh) f2) s r := by
            refine ⟨by rw [qj 0 (by omega), t4 0 (by omega) (by omega)]; exact z1, S1.i0, by have := S1.il; omega, by rw [qi, qn]; exact S1.es, by rw [qi]; rfl, by rw [qi, qn]; exact S1.er, t2.congr (by omega) fun j hj => qj j (fun e => h.nl (e ▸ pm.mem_iff.1 hj)), S1.ar.congr (by omega) fun j hj => by rw [qj j (fun e => h.nr (e ▸ hj)), t4 j (hrj j hj).1 (hrj j hj).2], ?_⟩
            exact ((pm.append_right r.ids).cons i).nodup_iff.2 nn
          obtain ⟨f3, f4, t5, t6, t7, t8⟩ := turn_left S3 (show Sm _ by show (0 : Int) ≤ 1 + maxI a.hh c.hh ∧ 1 + maxI a.hh c.hh ≤ _; omega) (by omega) (by omega)
          have t7 := t7 t3.1 wd.far hr.far
          refine ⟨.node m (.node k a u c (1 + maxI a.hh c.hh) f1) v (.node i d s r (1 + maxI d.hh r.hh) f3) (1 + maxI (1 + maxI a.hh c.hh) (1 + maxI d.hh r.hh)) f4, t5, t6, ?_, ?_, ⟨⟨va, wc, rfl, by omega, t3.1⟩, ⟨wd, hr, rfl, by omega, t7.1⟩, rfl, ?_, t7.2⟩, ?_, ?_⟩
          · simp [toL]
          · exact permC fun x => by
              simp only [Tr.ids, List.count_cons, List.count_append, Nat.add_assoc, Nat.add_comm, Nat.add_left_comm]
          · show -1 ≤ (1 + maxI a.hh c.hh) - (1 + maxI d.hh r.hh) ∧ (1 + maxI a.hh c.hh) - (1 + maxI d.hh r.hh) ≤ 1
            omega
          · show 1 + maxI (1 + maxI a.hh c.hh) (1 + maxI d.hh r.hh) = _ ∨ 1 + maxI (1 + maxI a.hh c.hh) (1 + maxI d.hh r.hh) = _ ∧ _
            omega
          · intro j hj
            simp only [Tr.ids, List.mem_cons, List.mem_append, not_or] at hj
            rw [t8 j hj.1 hj.2.1.2.2.1, qj j hj.1, t4 j hj.2.1.1 hj.2.1.2.2.1, g3 j hj.1]
      · rw [if_neg c2]
        obtain ⟨f1, f2, t1, t2, t3, t4⟩ := turn_left S1 (by omega) (by omega) (by omega)
        have t3 := t3 va.far vb.far hr.far
        have e1 : hk = 1 + a.hh := by rw [maxI_l (by omega)] at vh; exact vh
        have e2 : maxI b.hh r.hh = b.hh := maxI_l (by omega)
        have e3 : maxI a.hh (1 + maxI b.hh r.hh) = 1 + b.hh := by rw [e2, maxI_r (by omega)]
        have e4 : maxI hk r.hh = hk := maxI_l (by omega)
        clear m1 vh
        refine ⟨.node k a u (.node i b s r (1 + maxI b.hh r.hh) f1) (1 + maxI a.hh (1 + maxI b.hh r.hh)) f2, t1, t2, ?_, ?_, ⟨va, ⟨vb, hr, rfl, by omega, t3.1⟩, rfl, ?_, t3.2⟩, ?_, ?_⟩
        · simp [toL]
        · exact permC fun x => by
            simp only [Tr.ids, List.count_cons, List.count_append, Nat.add_assoc, Nat.add_comm, Nat.add_left_comm]
        · show -1 ≤ a.hh - (1 + maxI b.hh r.hh) ∧ a.hh - (1 + maxI b.hh r.hh) ≤ 1
          omega
        · show 1 + maxI a.hh (1 + maxI b.hh r.hh) = _ ∨ 1 + maxI a.hh (1 + maxI b.hh r.hh) = _ ∧ _
          omega
        · intro j hj
          simp only [Tr.ids, List.mem_cons, List.mem_append, not_or] at hj
          rw [t4 j hj.1 hj.2.1.1, g3 j hj.1]
  · rw [if_neg c1]
    by_cases c3 : l.hh - r.hh = -2
    · rw [if_pos c3]
      cases r with
      | nil => exact absurd c3 (by rw [hh_nil]; omega)
      | node k a u b hk fk =>
        obtain ⟨va, vb, vh, vd, vf⟩ := hr
        have pa := va.pos
        have pb := vb.pos
        have m1 := maxI_ge a.hh b.hh
        simp only [hh_node] at c3 pr b1 hd le ⊢
        have nk : (Tr.node k a u b hk fk).ids.Nodup := (List.nodup_append.1 (List.nodup_cons.1 S1.nodup).2).2.1
        have S2 := S1.ar.sg z1 nk
        have le2 := S2.lean (by omega) (by omega)
        show ∃ t', (turnA (if 0 < leanA N1 k then _ else _) i false).1 = _ ∧ _
        simp only [show (Tr.node k a u b hk fk).ix = k from rfl] at *
        rw [le2]
        by_cases c2 : 0 < a.hh - b.hh
        · rw [if_pos c2]
          cases a with
          | nil => exact absurd c2 (by rw [hh_nil]; omega)
          | node m c v d hm fm =>
            obtain ⟨wc, wd, wh, wd2, wf⟩ := va
            have pc := wc.pos
            have pd := wd.pos
            simp only [hh_node] at c2 pa vd vh le2 m1
            have e1 : hm = b.hh + 1 := by omega
            have e2 : hk = b.hh + 2 := by rw [maxI_l (by omega)] at vh; omega
            have e3 : l.hh = b.hh := by omega
            have e4 : c.hh ≤ b.hh ∧ d.hh ≤ b.hh ∧ b.hh - 1 ≤ c.hh ∧ b.hh - 1 ≤ d.hh := by have := maxI_c c.hh d.hh; clear m1 vh; omega
            have e5 : maxI d.hh b.hh = b.hh := maxI_r e4.2.1
            have e6 : maxI l.hh c.hh = b.hh := by rw [maxI_l (by omega)]; exact e3
            have e7 : maxI (1 + maxI l.hh c.hh) (1 + maxI d.hh b.hh) = 1 + b.hh := by rw [e5, e6, maxI_l (by omega)]
            have e8 : maxI l.hh hk = b.hh + 2 := by rw [maxI_r (by omega)]; exact e2
            clear m1 vh wh
            obtain ⟨f1, f2, t1, t2, t3, t4⟩ := turn_left S2 (by omega) (by omega) (by omega)
            have t3 := t3 wc.far wd.far vb.far
            rw [t1]
            have nlen := turnA_len N1 k true
            have nn := S1.nodup
            generalize (turnA N1 k true).2 = N2 at *
            have pm : (Tr.node m c v (.node k d u b (1 + maxI d.hh b.hh) f1) (1 + maxI c.hh (1 + maxI d.hh b.hh)) f2).ids.Perm (Tr.node k (.node m c v d hm fm) u b hk fk).ids := by
              exact permC fun x => by
                simp only [Tr.ids, List.count_cons, List.count_append, Nat.add_assoc, Nat.add_comm, Nat.add_left_comm]
            have hik : i ≠ k := fun e => h.nr (by rw [e]; exact List.mem_cons_self ..)
            have him : i ≠ m := fun e => h.nr (by rw [e]; simp [Tr.ids])
            have hrj : ∀ j ∈ l.ids, j ≠ k ∧ j ≠ m := fun j hj => by
              have := (List.nodup_append.1 (List.nodup_cons.1 nn).2).2.2
              exact ⟨fun e => this j hj k (by simp [Tr.ids]) e, fun e => this j hj m (by simp [Tr.ids]) e⟩
            have k0 := S2.i0
            have m0 := (t2.lt m (by simp [Tr.ids])).1
            have qi : nd (N2.set i { nd N2 i with r := m }) i = { nd N2 i with r := m } := nd_set_same (by rw [nlen]; exact S1.il)
            have qn : nd N2 i = nd N1 i := t4 i hik him
            have qj : ∀ j, j ≠ i → nd (N2.set i { nd N2 i with r := m }) j = nd N2 j := fun j e => nd_set_other (fun e2 => e e2.symm)
            have hN3 : (N2.set i { nd N2 i with r := m }).length = N2.length := by simp
            generalize N2.set i { nd N2 i with r := m } = N3 at *
            have S3 : Sg N3 i l s (.node m c v (.node k d u b (1 + maxI d.hh b.hh) f1) (1 + maxI c.hh (1 + maxI d.hh b.hh)) f2) := by
              refine ⟨by rw [qj 0 (by omega), t4 0 (by omega) (by omega)]; exact z1, S1.i0, by have := S1.il; omega, by rw [qi, qn]; exact S1.es, by rw [qi, qn]; exact S1.el, by rw [qi]; rfl, S1.al.congr (by omega) fun j hj => by rw [qj j (fun e => h.nl (e ▸ hj)), t4 j (hrj j hj).1 (hrj j hj).2], t2.congr (by omega) fun j hj => qj j (fun e => h.nr (e ▸ pm.mem_iff.1 hj)), ?_⟩
              exact ((pm.append_left l.ids).cons i).nodup_iff.2 nn
            obtain ⟨f3, f4, t5, t6, t7, t8⟩ := turn_right S3 (by omega) (show Sm _ by show (0 : Int) ≤ 1 + maxI d.hh b.hh ∧ 1 + maxI d.hh b.hh ≤ _; omega) (by omega)
            have t7 := t7 wc.far t3.1 hl.far
            refine ⟨.node m (.node i l s c (1 + maxI l.hh c.hh) f3) v (.node k d u b (1 + maxI d.hh b.hh) f1) (1 + maxI (1 + maxI l.hh c.hh) (1 + maxI d.hh b.hh)) f4, t5, t6, ?_, ?_, ⟨⟨hl, wc, rfl, by omega, t7.1⟩, ⟨wd, vb, rfl, by omega, t3.1⟩, rfl, ?_, t7.2⟩, ?_, ?_⟩
            · simp [toL]
            · exact permC fun x => by
                simp only [Tr.ids, List.count_cons, List.count_append, Nat.add_assoc, Nat.add_comm, Nat.add_left_comm]
            · show -1 ≤ (1 + maxI l.hh c.hh) - (1 + maxI d.hh b.hh) ∧ (1 + maxI l.hh c.hh) - (1 + maxI d.hh b.hh) ≤ 1
              omega
            · show 1 + maxI (1 + maxI l.hh c.hh) (1 + maxI d.hh b.hh) = _ ∨ 1 + maxI (1 + maxI l.hh c.hh) (1 + maxI d.hh b.hh) = _ ∧ _
              omega
            · intro j hj
              simp only [Tr.ids, List.mem_cons, List.mem_append, not_or] at hj
              rw [t8 j hj.1 hj.2.2.2.1.1, qj j hj.1, t4 j hj.2.2.1 hj.2.2.2.1.1, g3 j hj.1]
        · rw [if_neg c2]
          obtain ⟨f1, f2, t1, t2, t3, t4⟩ := turn_right S1 (by omega) (by omega) (by omega)
          have t3 := t3 va.far vb.far hl.far
          have e1 : hk = 1 + b.hh := by rw [maxI_r (by omega)] at vh; exact vh
          have e2 : maxI l.hh a.hh = a.hh := maxI_r (by omega)
          have e3 : maxI (1 + maxI l.hh a.hh) b.hh = 1 + a.hh := by rw [e2, maxI_l (by omega)]
          have e4 : maxI l.hh hk = hk := maxI_r (by omega)
          clear m1 vh
          refine ⟨.node k (.node i l s a (1 + maxI l.hh a.hh) f1) u b (1 + maxI (1 + maxI l.hh a.hh) b.hh) f2, t1, t2, ?_, ?_, ⟨⟨hl, va, rfl, by omega, t3.1⟩, vb, rfl, ?_, t3.2⟩, ?_, ?_⟩
          · simp [toL]
          · exact permC fun x => by
              simp only [Tr.ids, List.count_cons, List.count_append, Nat.add_assoc, Nat.add_comm, Nat.add_left_comm]
          · show -1 ≤ (1 + maxI l.hh a.hh) - b.hh ∧ (1 + maxI l.hh a.hh) - b.hh ≤ 1
            omega
          · show 1 + maxI (1 + maxI l.hh a.hh) b.hh = _ ∨ 1 + maxI (1 + maxI l.hh a.hh) b.hh = _ ∧ _
            omega
          · intro j hj
            simp only [Tr.ids, List.mem_cons, List.mem_append, not_or] at hj
            rw [t4 j hj.1 hj.2.2.1, g3 j hj.1]
    · rw [if_neg c3]
      exact ⟨_, rfl, g1, rfl, List.Perm.refl _, ⟨hl, hr, rfl, by omega, g2⟩, .inl rfl, fun j hj => g3 j (fun e => hj (e ▸ List.mem_cons_self ..))⟩
end Go.Proofs.Ytjeghbachokljaa
