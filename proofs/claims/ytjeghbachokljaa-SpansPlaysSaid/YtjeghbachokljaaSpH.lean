/- A span taken out. -/
import Derived.Test.YtjeghbachokljaaSpG
set_option linter.unusedVariables false
set_option linter.unusedSimpArgs false
namespace Go.Proofs.Ytjeghbachokljaa
open Go
set_option maxRecDepth 20000
set_option maxHeartbeats 2000000
attribute [local irreducible] WX WC WQ Val VCall
def ltS (s t : Sp) : Prop := s.a < t.a ∨ (s.a = t.a ∧ (s.b < t.b ∨ (s.b = t.b ∧ s.c < t.c)))
theorem cmp_cases (s t : Sp) : (cmpS s t < 0 ∧ ltS s t) ∨ (cmpS s t = 0 ∧ s = t) ∨ (0 < cmpS s t ∧ ltS t s) := by
  obtain ⟨a, b, c⟩ := s
  obtain ⟨x, y, z⟩ := t
  unfold cmpS cmpI ltS
  dsimp only
  by_cases h1 : a < x
  · rw [if_pos h1]; simp [h1]
  by_cases h2 : x < a
  · rw [if_neg h1, if_pos h2]; simp; omega
  have e1 : a = x := by omega
  subst e1
  by_cases h3 : b < y
  · simp [h3]
  by_cases h4 : y < b
  · simp [h3, h4]
  have e2 : b = y := by omega
  subst e2
  by_cases h5 : c < z
  · simp [h5]
  by_cases h6 : z < c
  · simp [h5, h6]
  have e3 : c = z := by omega
  subst e3
  simp
theorem ltS_irr (s : Sp) : ¬ ltS s s := by unfold ltS; omega
theorem ltS_trans {s t u : Sp} (h1 : ltS s t) (h2 : ltS t u) : ltS s u := by unfold ltS at *; omega
theorem ltS_asym {s t : Sp} (h1 : ltS s t) (h2 : ltS t s) : False := by unfold ltS at *; omega
def toL : Tr → List Sp
  | .nil => []
  | .node _ l s r _ _ => toL l ++ s :: toL r
def Srt (t : Tr) : Prop := (toL t).Pairwise ltS
theorem Srt.node {i : Nat} {l r : Tr} {s : Sp} {h f : Int} (hs : Srt (.node i l s r h f)) : Srt l ∧ Srt r ∧ (∀ x ∈ toL l, ltS x s) ∧ (∀ x ∈ toL r, ltS s x) := by
  unfold Srt toL at hs
  rw [List.pairwise_append] at hs
  obtain ⟨h1, h2, h3⟩ := hs
  rw [List.pairwise_cons] at h2
  exact ⟨h1, h2.2, fun x hx => h3 x hx s (by simp), h2.1⟩
theorem mem_left {i : Nat} {l r : Tr} {s0 s : Sp} {h f : Int} (hs : Srt (.node i l s0 r h f)) (hm : s ∈ toL (.node i l s0 r h f)) (hc : cmpS s s0 < 0) : s ∈ toL l := by
  obtain ⟨h1, h2, h3, h4⟩ := hs.node
  have hlt : ltS s s0 := by rcases cmp_cases s s0 with h | h | h; exact h.2; omega; omega
  rcases List.mem_append.1 hm with hm | hm
  · exact hm
  · rcases List.mem_cons.1 hm with rfl | hm
    · exact absurd hlt (ltS_irr _)
    · exact absurd (ltS_trans hlt (h4 s hm)) (ltS_irr _)
theorem mem_right {i : Nat} {l r : Tr} {s0 s : Sp} {h f : Int} (hs : Srt (.node i l s0 r h f)) (hm : s ∈ toL (.node i l s0 r h f)) (hc : 0 < cmpS s s0) : s ∈ toL r := by
  obtain ⟨h1, h2, h3, h4⟩ := hs.node
  have hlt : ltS s0 s := by rcases cmp_cases s s0 with h | h | h; omega; omega; exact h.2
  rcases List.mem_append.1 hm with hm | hm
  · exact absurd (ltS_trans hlt (h3 s hm)) (ltS_irr _)
  · rcases List.mem_cons.1 hm with rfl | hm
    · exact absurd hlt (ltS_irr _)
    · exact hm
def minT : Tr → Sp
  | .nil => ⟨0, 0, 0⟩
  | .node _ l s _ _ _ => if l.ix = 0 then s else minT l
theorem ix_zero {N : List Nd} {t : Tr} (h : At N t) (h0 : t.ix = 0) : t = .nil := by
  cases t with
  | nil => rfl
  | node i l s r hh f =>
    have := h.1
    have h0' : i = 0 := h0
    omega
theorem ix_pos {N : List Nd} {t : Tr} (h : At N t) (h0 : t.ix ≠ 0) : t ≠ .nil := fun e => h0 (by rw [e]; rfl)
theorem min_mem {N : List Nd} : ∀ {t : Tr}, At N t → t ≠ .nil → minT t ∈ toL t
  | .nil, _, h => absurd rfl h
  | .node i l s r hh f, ha, _ => by
    unfold minT toL
    by_cases h0 : l.ix = 0
    · rw [if_pos h0]; simp
    · rw [if_neg h0]
      exact List.mem_append.2 (.inl (min_mem ha.2.2.2.1 (ix_pos ha.2.2.2.1 h0)))
theorem wrapN {a b : Nat} (h : a + b < 4611686018427387904) : IntKind.i64.wrap ((a : Int) + (b : Int)) = ((a + b : Nat) : Int) := by
  rw [wrap_in (by omega)]
  omega
/-- what remove does to the arena -/
def remA : Tr → List Nd → List Nat → Sp → Nat × List Nd × List Nat
  | .nil, N, sp, s => (0, N, sp)
  | .node i l s0 r _ _, N, sp, s =>
    if cmpS s s0 < 0 then
      let q := remA l N sp s
      let b := balA (q.2.1.set i { nd q.2.1 i with l := q.1 }) i
      (b.1, b.2, q.2.2)
    else if 0 < cmpS s s0 then
      let q := remA r N sp s
      let b := balA (q.2.1.set i { nd q.2.1 i with r := q.1 }) i
      (b.1, b.2, q.2.2)
    else if l.ix = 0 ∨ r.ix = 0 then (l.ix + r.ix, N, sp ++ [i])
    else
      let q := remA r N sp (minT r)
      let N2 := q.2.1.set i { nd q.2.1 i with r := q.1 }
      let b := balA (N2.set i { nd N2 i with s := minT r }) i
      (b.1, b.2, q.2.2)
section fs
variable {g : Nat} {y : Fa} {cnt : Int} {N : List Nd} {sp : List Nat} {E Es : Seg}
structure RemO (N N' : List Nd) (sp' : List Nat) (i' : Nat) (y : Fa) (q : Fa × Seg × Seg) : Prop where
  fs : FsO N' sp' q.1 q.2.1 q.2.2
  m : q.1.m = y.m
  A : q.1.A = y.A
  c : q.1.c = y.c
  i : i' < N'.length
  len : N'.length = N.length
theorem remove_spec (t : Tr) : ∀ {s : Sp} {y : Fa} {N : List Nd} {sp : List Nat} {E Es : Seg}, FsO N sp y E Es → At N t → Srt t → s ∈ toL t → N.length ≤ 1099511627776 → sp.length ≤ 1099511627776 → ∀ (w : World), Own w (fsM g y N sp cnt E Es) →
    Calls Try.prog 27 #[.pointer (some ⟨g, 0, none⟩), .int .i64 (t.ix : Nat), .agg s.cells.toArray] w (Ret (β := Fa × Seg × Seg) w (ids (fsM g y N sp cnt E Es)) (fun _ => .int .i64 ((remA t N sp s).1 : Nat)) (fun q => fsM g q.1 (remA t N sp s).2.1 (remA t N sp s).2.2 cnt q.2.1 q.2.2) (RemO N (remA t N sp s).2.1 (remA t N sp s).2.2 (remA t N sp s).1 y)) := by
  induction t with
  | nil =>
    intro s y N sp E Es hf ht hsr hm
    simp [toL] at hm
  | node i l s0 r hh ff ihl ihr =>
    intro s y N sp E Es hf ht hsr hm hs hs2 w ho
    refine go [.pointer (some ⟨g, 0, none⟩), .int .i64 (i : Nat), .agg s.cells.toArray] (fsM g y N sp cnt E Es) Try.func27 Try.ntmps27 rfl rfl ho ?_
    obtain ⟨t1, t2, hnd, hlr1, hlr2⟩ := ht
    obtain ⟨hsl, hsr', _, _⟩ := hsr.node
    obtain ⟨h1, h2, h3, h4⟩ := hf
    obtain ⟨yA, yc, yB, yd, ym⟩ := y
    dsimp only at h1 h2
    have hp := h3.pos
    have hsm := h3.small
    have hlx := hlr1.ix_lt hp
    have hrx := hlr2.ix_lt hp
    obtain ⟨ga, hA⟩ := h1.ptr hp
    have hNi := (nd_mem t2).1
    repeat (first | refine wc_seq ?_ | refine wc_region ?_)
    refine wl_boxA rfl rfl (fun g5 => ?_)
    repeat (first | (apply wx_val; (first | exact v_move rfl | exact v_assign rfl | exact v_nil rfl | exact v_faddr rfl rfl | exact v_ldT rfl rfl rfl (by rfl) | exact v_iaddrE (by assumption) rfl rfl rfl (by omega)); rfl) | refine wc_seq ?_ | refine wc_region ?_ | refine wx_nil ?_ | refine wq_next ?_)
    (try refine wx_ungd rfl rfl ?_)
    apply wx_val
    exact v_loadA (cs := Nd.cells ⟨s0, l.ix, r.ix, hh, ff⟩) rfl rfl (fun w' hr j u hj => h1.elemT (i := i) hA (by decide) (fun _ => rfl) hNi hr (j := j) (v := u) (by rw [hnd]; exact hj) (by rw [Int.toNat_natCast]))
    rfl
    refine wl_alloc rfl rfl (fun g7 => ?_)
    repeat (first | (apply wx_val; (first | exact v_faddr rfl rfl | (first | exact v_ldQ 0 0 rfl rfl rfl rfl rfl | exact v_ldQ 1 0 rfl rfl rfl rfl rfl)); rfl) | refine wc_seq ?_ | refine wc_region ?_ | refine wx_nil ?_ | refine wq_next ?_ | refine wx_setn ?_ | refine wl_stAT rfl rfl (by rfl) (by rfl) (by exact .inl (Nat.le_refl _)) rfl ?_)
    (try refine wx_ungd rfl rfl ?_)
    refine wx_vcall (vc_pure' rfl rfl (fun w' hr => compare_spec s s0 w')) rfl ?_
    repeat (first | (apply wx_val; (first | exact v_move rfl | exact v_assign rfl | exact v_lt rfl rfl); rfl) | refine wc_seq ?_ | refine wc_region ?_ | refine wx_nil ?_ | refine wq_next ?_ | refine wc_block ?_)
    refine wc_if rfl (fun hc => ?_) (fun hc => ?_)
    · have eR : remA (.node i l s0 r hh ff) N sp s = ((balA ((remA l N sp s).2.1.set i { nd (remA l N sp s).2.1 i with l := (remA l N sp s).1 }) i).1, (balA ((remA l N sp s).2.1.set i { nd (remA l N sp s).2.1 i with l := (remA l N sp s).1 }) i).2, (remA l N sp s).2.2) := if_pos hc
      have hml := mem_left hsr hm hc
      rw [eR]
      have ih := ihl (y := ⟨yA, yc, yB, yd, ym⟩) ⟨h1, h2, h3, h4⟩ hlr1 hsl hml hs hs2
      dsimp only
      generalize remA l N sp s = q at *
      obtain ⟨k', N', sp'⟩ := q
      dsimp only at ih ⊢
      skip
      refine wc_heldX [] [[(g5, .cells s.cells.toArray 28 (0, 0))], [(g7, .cells (Nd.cells ⟨s0, l.ix, r.ix, hh, ff⟩).toArray 65 (0, 0))]] rfl (by (repeat (first | with_reducible exact panicNot_of panicOk_body | with_reducible apply panicNot_block | with_reducible apply panicNot_then))) (fun hQd => ?_)
      (apply wh_takeX 0; (first | exact fun _ h => h | exact fun _ h => res_takes h); exact hQd; rfl; rfl; exact v_move rfl; decide +kernel; decide +kernel; decide +kernel; rfl)
      (apply wh_takeX 1; (first | exact fun _ h => h | exact fun _ h => res_takes h); exact hQd; rfl; rfl; exact v_nil rfl; decide +kernel; decide +kernel; decide +kernel; rfl)
      (apply wh_takeX 2; (first | exact fun _ h => h | exact fun _ h => res_takes h); exact hQd; rfl; rfl; exact v_faddr rfl rfl; decide +kernel; decide +kernel; decide +kernel; rfl)
      (apply wh_takeX 4; (first | exact fun _ h => h | exact fun _ h => res_takes h); exact hQd; rfl; rfl; exact v_move rfl; decide +kernel; decide +kernel; decide +kernel; rfl)
      (apply wh_takeX 5; (first | exact fun _ h => h | exact fun _ h => res_takes h); exact hQd; rfl; rfl; exact v_move rfl; decide +kernel; decide +kernel; decide +kernel; rfl)
      (apply wh_takeX 6; (first | exact fun _ h => h | exact fun _ h => res_takes h); exact hQd; rfl; rfl; exact v_faddr rfl rfl; decide +kernel; decide +kernel; decide +kernel; rfl)
      (apply wh_takeX 7; (first | exact fun _ h => res_takes h); exact hQd; rfl; rfl; (first | exact v_ldT rfl rfl rfl (by rfl)); decide +kernel; decide +kernel; decide +kernel; rfl)
      (apply wh_takeX 8; (first | exact fun _ h => res_takes h); exact hQd; rfl; rfl; (first | exact v_ldAT rfl (by rfl)); decide +kernel; decide +kernel; decide +kernel; rfl)
      refine wh_eff2 3 9 rfl rfl (by decide +kernel) ?_ ?_
      · repeat (first | (apply wx_val; (first | exact v_ldT rfl rfl rfl (by rfl)); rfl) | refine wx_nil ?_)
        (try refine wx_nil ?_)
        refine wq_held (by (first | exact fun _ h => h | exact fun _ h => res_takes h)) ?_
        refine wh_eff 9 rfl (by decide +kernel) ?_
        refine wl_callT (fun w' hr ho => ih w' ho) rfl rfl rfl ?_
        rintro ⟨⟨A2, c2, B2, d2, m2⟩, E2, Es2⟩ ⟨⟨u1, u2, u3, u4⟩, hm2, hA2, hc2, hi2, hn2⟩
        dsimp only at u1 u2 hm2 hA2 hc2 ⊢
        have hm2 := hm2.symm
        have hA2 := hA2.symm
        have hc2 := hc2.symm
        subst hm2 hA2 hc2
        rw [hn2] at u1 hi2
        rw [show fsM g ⟨yA, yc, B2, d2, ym⟩ N' sp' cnt E2 Es2 = [fsB g ⟨yA, yc, B2, d2, ym⟩ N.length sp'.length cnt, E2, Es2] by simp only [fsM, hn2]]
        refine wx_cat ?_
        (try refine wx_nil ?_)
        refine wq_held (by (first | exact fun _ h => h | exact fun _ h => res_takes h)) ?_
        (apply wh_takeX 10; (first | exact fun _ h => res_takes h); exact hQd; rfl; rfl; (first | exact v_iaddrE (by assumption) rfl rfl rfl (by omega)); decide +kernel; decide +kernel; decide +kernel; rfl)
        (apply wh_takeX 11; (first | exact fun _ h => h | exact fun _ h => res_takes h); exact hQd; rfl; rfl; exact v_faddr rfl rfl; decide +kernel; decide +kernel; decide +kernel; rfl)
        refine wh_eff 12 rfl (by decide +kernel) ?_
        refine wl_setFT i 3 (f := Nd.cells) (k := 7) (nd N' i) { nd N' i with l := k' } (fun _ => rfl) (by decide) hA u1 rfl rfl (by rw [Int.toNat_natCast]; omega) (nd_mem (by omega)).1 (by omega) rfl rfl rfl (fun E3 hb3 => ?_)
        (try refine wx_nil ?_)
        refine wq_held (by (first | exact fun _ h => h | exact fun _ h => res_takes h)) ?_
        refine wh_done (by decide +kernel) ?_
        have hN4 : Inb (N'.set i { nd N' i with l := k' }) := u3.set (i := i) (n := { nd N' i with l := k' }) (by first | exact u3.ndl (by omega) | (show k' < _; omega)) (by first | exact u3.ndr (by omega) | (show k' < _; omega))
        have hl4 : (N'.set i { nd N' i with l := k' }).length = N.length := by rw [List.length_set, hn2]
        have hbb := balA_inb hN4 (i := i) (by omega)
        repeat (first | (apply wx_val; (first | exact v_move rfl); rfl) | refine wc_seq ?_ | refine wc_region ?_ | refine wq_next ?_ | refine wq_block ?_)
        refine wl_callT (fun w' hr ho => balance_spec (g := g) (n := N.length) (k := sp'.length) (cnt := cnt) (N := N'.set i { nd N' i with l := k' }) (y := ⟨yA, yc, B2, d2, ym⟩) (E := _) hN4 (by omega) (by omega) hb3 w' ho) rfl rfl rfl ?_
        rintro E4 hb4
        rw [hl4] at hbb
        generalize balA (N'.set i { nd N' i with l := k' }) i = b at *
        obtain ⟨b1, N5⟩ := b
        dsimp only at hb4 hbb ⊢
        repeat (first | (apply wx_val; (first | exact v_assign rfl); rfl) | refine wx_nil ?_ | refine wq_next ?_ | refine wc_ret ?_ | refine wq_cat ?_)
        exact wq_ret1T (⟨yA, yc, B2, d2, ym⟩, E4, Es2) rfl rfl ⟨⟨by rw [hbb.2.2]; exact hb4, u2, hbb.1, fun j hj => by rw [hbb.2.2, ← hn2]; exact u4 j hj⟩, rfl, rfl, rfl, by rw [hbb.2.2]; exact hbb.2.1, hbb.2.2⟩ (show _ = [fsB g ⟨yA, yc, B2, d2, ym⟩ N.length sp'.length cnt, E4, Es2] by
          dsimp only [fsM]
          rw [hbb.2.2])
      · refine wl_callT (fun w' hr ho => ih w' ho) rfl rfl rfl ?_
        rintro ⟨⟨A2, c2, B2, d2, m2⟩, E2, Es2⟩ ⟨⟨u1, u2, u3, u4⟩, hm2, hA2, hc2, hi2, hn2⟩
        dsimp only at u1 u2 hm2 hA2 hc2 ⊢
        have hm2 := hm2.symm
        have hA2 := hA2.symm
        have hc2 := hc2.symm
        subst hm2 hA2 hc2
        rw [hn2] at u1 hi2
        rw [show fsM g ⟨yA, yc, B2, d2, ym⟩ N' sp' cnt E2 Es2 = [fsB g ⟨yA, yc, B2, d2, ym⟩ N.length sp'.length cnt, E2, Es2] by simp only [fsM, hn2]]
        refine wx_cat ?_
        (try refine wx_nil ?_)
        refine wq_held (by (first | exact fun _ h => h | exact fun _ h => res_takes h)) ?_
        refine wh_eff 3 rfl (by decide +kernel) ?_
        repeat (first | (apply wx_val; (first | exact v_ldT rfl rfl rfl (by rfl)); rfl) | refine wx_nil ?_)
        (try refine wx_nil ?_)
        refine wq_held (by (first | exact fun _ h => h | exact fun _ h => res_takes h)) ?_
        (apply wh_takeX 10; (first | exact fun _ h => res_takes h); exact hQd; rfl; rfl; (first | exact v_iaddrE (by assumption) rfl rfl rfl (by omega)); decide +kernel; decide +kernel; decide +kernel; rfl)
        (apply wh_takeX 11; (first | exact fun _ h => h | exact fun _ h => res_takes h); exact hQd; rfl; rfl; exact v_faddr rfl rfl; decide +kernel; decide +kernel; decide +kernel; rfl)
        refine wh_eff 12 rfl (by decide +kernel) ?_
        refine wl_setFT i 3 (f := Nd.cells) (k := 7) (nd N' i) { nd N' i with l := k' } (fun _ => rfl) (by decide) hA u1 rfl rfl (by rw [Int.toNat_natCast]; omega) (nd_mem (by omega)).1 (by omega) rfl rfl rfl (fun E3 hb3 => ?_)
        (try refine wx_nil ?_)
        refine wq_held (by (first | exact fun _ h => h | exact fun _ h => res_takes h)) ?_
        refine wh_done (by decide +kernel) ?_
        have hN4 : Inb (N'.set i { nd N' i with l := k' }) := u3.set (i := i) (n := { nd N' i with l := k' }) (by first | exact u3.ndl (by omega) | (show k' < _; omega)) (by first | exact u3.ndr (by omega) | (show k' < _; omega))
        have hl4 : (N'.set i { nd N' i with l := k' }).length = N.length := by rw [List.length_set, hn2]
        have hbb := balA_inb hN4 (i := i) (by omega)
        repeat (first | (apply wx_val; (first | exact v_move rfl); rfl) | refine wc_seq ?_ | refine wc_region ?_ | refine wq_next ?_ | refine wq_block ?_)
        refine wl_callT (fun w' hr ho => balance_spec (g := g) (n := N.length) (k := sp'.length) (cnt := cnt) (N := N'.set i { nd N' i with l := k' }) (y := ⟨yA, yc, B2, d2, ym⟩) (E := _) hN4 (by omega) (by omega) hb3 w' ho) rfl rfl rfl ?_
        rintro E4 hb4
        rw [hl4] at hbb
        generalize balA (N'.set i { nd N' i with l := k' }) i = b at *
        obtain ⟨b1, N5⟩ := b
        dsimp only at hb4 hbb ⊢
        repeat (first | (apply wx_val; (first | exact v_assign rfl); rfl) | refine wx_nil ?_ | refine wq_next ?_ | refine wc_ret ?_ | refine wq_cat ?_)
        exact wq_ret1T (⟨yA, yc, B2, d2, ym⟩, E4, Es2) rfl rfl ⟨⟨by rw [hbb.2.2]; exact hb4, u2, hbb.1, fun j hj => by rw [hbb.2.2, ← hn2]; exact u4 j hj⟩, rfl, rfl, rfl, by rw [hbb.2.2]; exact hbb.2.1, hbb.2.2⟩ (show _ = [fsB g ⟨yA, yc, B2, d2, ym⟩ N.length sp'.length cnt, E4, Es2] by
          dsimp only [fsM]
          rw [hbb.2.2])
    repeat (first | (apply wx_val; (first | exact v_move rfl | exact v_assign rfl | exact v_gt rfl rfl); rfl) | refine wc_seq ?_ | refine wc_region ?_ | refine wx_nil ?_ | refine wq_next ?_)
    refine wc_if rfl (fun hc2 => ?_) (fun hc2 => ?_)
    · have eR : remA (.node i l s0 r hh ff) N sp s = ((balA ((remA r N sp s).2.1.set i { nd (remA r N sp s).2.1 i with r := (remA r N sp s).1 }) i).1, (balA ((remA r N sp s).2.1.set i { nd (remA r N sp s).2.1 i with r := (remA r N sp s).1 }) i).2, (remA r N sp s).2.2) := (if_neg hc).trans (if_pos hc2)
      have hml := mem_right hsr hm hc2
      rw [eR]
      have ih := ihr (y := ⟨yA, yc, yB, yd, ym⟩) ⟨h1, h2, h3, h4⟩ hlr2 hsr' hml hs hs2
      dsimp only
      generalize remA r N sp s = q at *
      obtain ⟨k', N', sp'⟩ := q
      dsimp only at ih ⊢
      skip
      refine wc_heldX [] [[(g5, .cells s.cells.toArray 28 (0, 0))], [(g7, .cells (Nd.cells ⟨s0, l.ix, r.ix, hh, ff⟩).toArray 65 (0, 0))]] rfl (by (repeat (first | with_reducible exact panicNot_of panicOk_body | with_reducible apply panicNot_block | with_reducible apply panicNot_then))) (fun hQd => ?_)
      (apply wh_takeX 0; (first | exact fun _ h => h | exact fun _ h => res_takes h); exact hQd; rfl; rfl; exact v_move rfl; decide +kernel; decide +kernel; decide +kernel; rfl)
      (apply wh_takeX 1; (first | exact fun _ h => h | exact fun _ h => res_takes h); exact hQd; rfl; rfl; exact v_nil rfl; decide +kernel; decide +kernel; decide +kernel; rfl)
      (apply wh_takeX 2; (first | exact fun _ h => h | exact fun _ h => res_takes h); exact hQd; rfl; rfl; exact v_faddr rfl rfl; decide +kernel; decide +kernel; decide +kernel; rfl)
      (apply wh_takeX 4; (first | exact fun _ h => h | exact fun _ h => res_takes h); exact hQd; rfl; rfl; exact v_move rfl; decide +kernel; decide +kernel; decide +kernel; rfl)
      (apply wh_takeX 5; (first | exact fun _ h => h | exact fun _ h => res_takes h); exact hQd; rfl; rfl; exact v_move rfl; decide +kernel; decide +kernel; decide +kernel; rfl)
      (apply wh_takeX 6; (first | exact fun _ h => h | exact fun _ h => res_takes h); exact hQd; rfl; rfl; exact v_faddr rfl rfl; decide +kernel; decide +kernel; decide +kernel; rfl)
      (apply wh_takeX 7; (first | exact fun _ h => res_takes h); exact hQd; rfl; rfl; (first | exact v_ldT rfl rfl rfl (by rfl)); decide +kernel; decide +kernel; decide +kernel; rfl)
      (apply wh_takeX 8; (first | exact fun _ h => res_takes h); exact hQd; rfl; rfl; (first | exact v_ldAT rfl (by rfl)); decide +kernel; decide +kernel; decide +kernel; rfl)
      refine wh_eff2 3 9 rfl rfl (by decide +kernel) ?_ ?_
      · repeat (first | (apply wx_val; (first | exact v_ldT rfl rfl rfl (by rfl)); rfl) | refine wx_nil ?_)
        (try refine wx_nil ?_)
        refine wq_held (by (first | exact fun _ h => h | exact fun _ h => res_takes h)) ?_
        refine wh_eff 9 rfl (by decide +kernel) ?_
        refine wl_callT (fun w' hr ho => ih w' ho) rfl rfl rfl ?_
        rintro ⟨⟨A2, c2, B2, d2, m2⟩, E2, Es2⟩ ⟨⟨u1, u2, u3, u4⟩, hm2, hA2, hc2, hi2, hn2⟩
        dsimp only at u1 u2 hm2 hA2 hc2 ⊢
        have hm2 := hm2.symm
        have hA2 := hA2.symm
        have hc2 := hc2.symm
        subst hm2 hA2 hc2
        rw [hn2] at u1 hi2
        rw [show fsM g ⟨yA, yc, B2, d2, ym⟩ N' sp' cnt E2 Es2 = [fsB g ⟨yA, yc, B2, d2, ym⟩ N.length sp'.length cnt, E2, Es2] by simp only [fsM, hn2]]
        refine wx_cat ?_
        (try refine wx_nil ?_)
        refine wq_held (by (first | exact fun _ h => h | exact fun _ h => res_takes h)) ?_
        (apply wh_takeX 10; (first | exact fun _ h => res_takes h); exact hQd; rfl; rfl; (first | exact v_iaddrE (by assumption) rfl rfl rfl (by omega)); decide +kernel; decide +kernel; decide +kernel; rfl)
        (apply wh_takeX 11; (first | exact fun _ h => h | exact fun _ h => res_takes h); exact hQd; rfl; rfl; exact v_faddr rfl rfl; decide +kernel; decide +kernel; decide +kernel; rfl)
        refine wh_eff 12 rfl (by decide +kernel) ?_
        refine wl_setFT i 4 (f := Nd.cells) (k := 7) (nd N' i) { nd N' i with r := k' } (fun _ => rfl) (by decide) hA u1 rfl rfl (by rw [Int.toNat_natCast]; omega) (nd_mem (by omega)).1 (by omega) rfl rfl rfl (fun E3 hb3 => ?_)
        (try refine wx_nil ?_)
        refine wq_held (by (first | exact fun _ h => h | exact fun _ h => res_takes h)) ?_
        refine wh_done (by decide +kernel) ?_
        have hN4 : Inb (N'.set i { nd N' i with r := k' }) := u3.set (i := i) (n := { nd N' i with r := k' }) (by first | exact u3.ndl (by omega) | (show k' < _; omega)) (by first | exact u3.ndr (by omega) | (show k' < _; omega))
        have hl4 : (N'.set i { nd N' i with r := k' }).length = N.length := by rw [List.length_set, hn2]
        have hbb := balA_inb hN4 (i := i) (by omega)
        repeat (first | (apply wx_val; (first | exact v_move rfl); rfl) | refine wc_seq ?_ | refine wc_region ?_ | refine wq_next ?_ | refine wq_block ?_)
        refine wl_callT (fun w' hr ho => balance_spec (g := g) (n := N.length) (k := sp'.length) (cnt := cnt) (N := N'.set i { nd N' i with r := k' }) (y := ⟨yA, yc, B2, d2, ym⟩) (E := _) hN4 (by omega) (by omega) hb3 w' ho) rfl rfl rfl ?_
        rintro E4 hb4
        rw [hl4] at hbb
        generalize balA (N'.set i { nd N' i with r := k' }) i = b at *
        obtain ⟨b1, N5⟩ := b
        dsimp only at hb4 hbb ⊢
        repeat (first | (apply wx_val; (first | exact v_assign rfl); rfl) | refine wx_nil ?_ | refine wq_next ?_ | refine wc_ret ?_ | refine wq_cat ?_)
        exact wq_ret1T (⟨yA, yc, B2, d2, ym⟩, E4, Es2) rfl rfl ⟨⟨by rw [hbb.2.2]; exact hb4, u2, hbb.1, fun j hj => by rw [hbb.2.2, ← hn2]; exact u4 j hj⟩, rfl, rfl, rfl, by rw [hbb.2.2]; exact hbb.2.1, hbb.2.2⟩ (show _ = [fsB g ⟨yA, yc, B2, d2, ym⟩ N.length sp'.length cnt, E4, Es2] by
          dsimp only [fsM]
          rw [hbb.2.2])
      · refine wl_callT (fun w' hr ho => ih w' ho) rfl rfl rfl ?_
        rintro ⟨⟨A2, c2, B2, d2, m2⟩, E2, Es2⟩ ⟨⟨u1, u2, u3, u4⟩, hm2, hA2, hc2, hi2, hn2⟩
        dsimp only at u1 u2 hm2 hA2 hc2 ⊢
        have hm2 := hm2.symm
        have hA2 := hA2.symm
        have hc2 := hc2.symm
        subst hm2 hA2 hc2
        rw [hn2] at u1 hi2
        rw [show fsM g ⟨yA, yc, B2, d2, ym⟩ N' sp' cnt E2 Es2 = [fsB g ⟨yA, yc, B2, d2, ym⟩ N.length sp'.length cnt, E2, Es2] by simp only [fsM, hn2]]
        refine wx_cat ?_
        (try refine wx_nil ?_)
        refine wq_held (by (first | exact fun _ h => h | exact fun _ h => res_takes h)) ?_
        refine wh_eff 3 rfl (by decide +kernel) ?_
        repeat (first | (apply wx_val; (first | exact v_ldT rfl rfl rfl (by rfl)); rfl) | refine wx_nil ?_)
        (try refine wx_nil ?_)
        refine wq_held (by (first | exact fun _ h => h | exact fun _ h => res_takes h)) ?_
        (apply wh_takeX 10; (first | exact fun _ h => res_takes h); exact hQd; rfl; rfl; (first | exact v_iaddrE (by assumption) rfl rfl rfl (by omega)); decide +kernel; decide +kernel; decide +kernel; rfl)
        (apply wh_takeX 11; (first | exact fun _ h => h | exact fun _ h => res_takes h); exact hQd; rfl; rfl; exact v_faddr rfl rfl; decide +kernel; decide +kernel; decide +kernel; rfl)
        refine wh_eff 12 rfl (by decide +kernel) ?_
        refine wl_setFT i 4 (f := Nd.cells) (k := 7) (nd N' i) { nd N' i with r := k' } (fun _ => rfl) (by decide) hA u1 rfl rfl (by rw [Int.toNat_natCast]; omega) (nd_mem (by omega)).1 (by omega) rfl rfl rfl (fun E3 hb3 => ?_)
        (try refine wx_nil ?_)
        refine wq_held (by (first | exact fun _ h => h | exact fun _ h => res_takes h)) ?_
        refine wh_done (by decide +kernel) ?_
        have hN4 : Inb (N'.set i { nd N' i with r := k' }) := u3.set (i := i) (n := { nd N' i with r := k' }) (by first | exact u3.ndl (by omega) | (show k' < _; omega)) (by first | exact u3.ndr (by omega) | (show k' < _; omega))
        have hl4 : (N'.set i { nd N' i with r := k' }).length = N.length := by rw [List.length_set, hn2]
        have hbb := balA_inb hN4 (i := i) (by omega)
        repeat (first | (apply wx_val; (first | exact v_move rfl); rfl) | refine wc_seq ?_ | refine wc_region ?_ | refine wq_next ?_ | refine wq_block ?_)
        refine wl_callT (fun w' hr ho => balance_spec (g := g) (n := N.length) (k := sp'.length) (cnt := cnt) (N := N'.set i { nd N' i with r := k' }) (y := ⟨yA, yc, B2, d2, ym⟩) (E := _) hN4 (by omega) (by omega) hb3 w' ho) rfl rfl rfl ?_
        rintro E4 hb4
        rw [hl4] at hbb
        generalize balA (N'.set i { nd N' i with r := k' }) i = b at *
        obtain ⟨b1, N5⟩ := b
        dsimp only at hb4 hbb ⊢
        repeat (first | (apply wx_val; (first | exact v_assign rfl); rfl) | refine wx_nil ?_ | refine wq_next ?_ | refine wc_ret ?_ | refine wq_cat ?_)
        exact wq_ret1T (⟨yA, yc, B2, d2, ym⟩, E4, Es2) rfl rfl ⟨⟨by rw [hbb.2.2]; exact hb4, u2, hbb.1, fun j hj => by rw [hbb.2.2, ← hn2]; exact u4 j hj⟩, rfl, rfl, rfl, by rw [hbb.2.2]; exact hbb.2.1, hbb.2.2⟩ (show _ = [fsB g ⟨yA, yc, B2, d2, ym⟩ N.length sp'.length cnt, E4, Es2] by
          dsimp only [fsM]
          rw [hbb.2.2])
    repeat' (first | (apply wx_val; (first | exact v_move rfl | exact v_assign rfl | exact v_nil rfl | exact v_faddr rfl rfl | exact v_ldT rfl rfl rfl (by rfl) | exact v_eq rfl rfl | exact v_pickT rfl rfl | exact v_pickF rfl rfl); rfl) | refine wx_no rfl rfl rfl ?_ | refine wx_ungd rfl rfl ?_ | refine wc_seq ?_ | refine wc_region ?_ | refine wx_nil ?_ | refine wq_next ?_ | refine wc_block ?_ | refine wc_condT rfl ?_ | refine wc_if rfl (fun _ => ?_) (fun _ => ?_) | refine wx_gif rfl rfl (fun _ => ?_) (fun _ => ?_))
    · skip
      have hz : l.ix = 0 ∨ r.ix = 0 := by rename_i hx; dsimp only at hx; omega
      have eR : remA (.node i l s0 r hh ff) N sp s = (l.ix + r.ix, N, sp ++ [i]) := (if_neg hc).trans ((if_neg hc2).trans (if_pos hz))
      rw [eR]
      dsimp only
      refine wl_lit rfl rfl rfl rfl rfl (by decide) rfl (fun g14 => ?_)
      refine wl_app1T (news := natC i) rfl h2 rfl rfl rfl rfl (by omega) rfl (fun B2 d2 Es2 hb2 => ?_)
      repeat (first | (apply wx_val; (first | exact v_assign rfl | exact v_nil rfl | exact v_faddr rfl rfl | exact v_ldT rfl rfl rfl (by rfl) | exact v_add rfl rfl); rfl) | refine wc_seq ?_ | refine wc_region ?_ | refine wx_nil ?_ | refine wq_next ?_ | refine wc_ret ?_ | refine wq_then_ret ?_ | refine wq_block_ret ?_ | refine wx_setn ?_ | refine wl_storeT rfl rfl rfl (by rfl) (by exact .inl (Nat.le_refl _)) rfl ?_)
      have hll : (sp ++ [i]).length = sp.length + 1 := by simp
      have hb2' : SpO (sp ++ [i]) (sp ++ [i]).length B2 d2 Es2 := by
        rw [hll]
        show Buf _ _ _ _ _ _ _
        rw [List.flatMap_append]
        simpa using hb2
      refine wq_blk g (fsC ⟨yA, yc, B2, d2, ym⟩ N.length (sp.length + 1) cnt) (by rfl) ?_
      refine wq_setn ?_
      exact wq_ret1T (⟨yA, yc, B2, d2, ym⟩, E, Es2) rfl (congrArg (fun x => some (Value.int .i64 x)) (wrapN (a := l.ix) (b := r.ix) (by omega))) ⟨⟨h1, hb2', h3, fun j hj => by rcases List.mem_append.1 hj with hj | hj; exact h4 j hj; rw [List.mem_singleton.1 hj]; exact t2⟩, rfl, rfl, rfl, by omega, rfl⟩ (show _ = [fsB g ⟨yA, yc, B2, d2, ym⟩ N.length (sp.length + 1) cnt, E, Es2] by
        dsimp only [fsM]
        rw [hll])
    · skip
      have hz : l.ix = 0 ∨ r.ix = 0 := by rename_i hx; dsimp only at hx; omega
      have eR : remA (.node i l s0 r hh ff) N sp s = (l.ix + r.ix, N, sp ++ [i]) := (if_neg hc).trans ((if_neg hc2).trans (if_pos hz))
      rw [eR]
      dsimp only
      refine wl_lit rfl rfl rfl rfl rfl (by decide) rfl (fun g14 => ?_)
      refine wl_app1T (news := natC i) rfl h2 rfl rfl rfl rfl (by omega) rfl (fun B2 d2 Es2 hb2 => ?_)
      repeat (first | (apply wx_val; (first | exact v_assign rfl | exact v_nil rfl | exact v_faddr rfl rfl | exact v_ldT rfl rfl rfl (by rfl) | exact v_add rfl rfl); rfl) | refine wc_seq ?_ | refine wc_region ?_ | refine wx_nil ?_ | refine wq_next ?_ | refine wc_ret ?_ | refine wq_then_ret ?_ | refine wq_block_ret ?_ | refine wx_setn ?_ | refine wl_storeT rfl rfl rfl (by rfl) (by exact .inl (Nat.le_refl _)) rfl ?_)
      have hll : (sp ++ [i]).length = sp.length + 1 := by simp
      have hb2' : SpO (sp ++ [i]) (sp ++ [i]).length B2 d2 Es2 := by
        rw [hll]
        show Buf _ _ _ _ _ _ _
        rw [List.flatMap_append]
        simpa using hb2
      refine wq_blk g (fsC ⟨yA, yc, B2, d2, ym⟩ N.length (sp.length + 1) cnt) (by rfl) ?_
      refine wq_setn ?_
      exact wq_ret1T (⟨yA, yc, B2, d2, ym⟩, E, Es2) rfl (congrArg (fun x => some (Value.int .i64 x)) (wrapN (a := l.ix) (b := r.ix) (by omega))) ⟨⟨h1, hb2', h3, fun j hj => by rcases List.mem_append.1 hj with hj | hj; exact h4 j hj; rw [List.mem_singleton.1 hj]; exact t2⟩, rfl, rfl, rfl, by omega, rfl⟩ (show _ = [fsB g ⟨yA, yc, B2, d2, ym⟩ N.length (sp.length + 1) cnt, E, Es2] by
        dsimp only [fsM]
        rw [hll])
    have hl0 : l.ix ≠ 0 := by rename_i hx hy; dsimp only at hx hy; omega
    have hr0 : r.ix ≠ 0 := by rename_i hx hy; dsimp only at hx hy; omega
    refine wc_loopK (ι := Tr) [0, 1, 7] (fun u => [(9, .int .i64 (u.ix : Nat))]) (fun u => []) (fun u => At N u ∧ u ≠ .nil ∧ minT u = minT r) (fun u => u.size) (r) rfl ?_ (by repeat (first | exact trivial | refine ⟨rfl, ?_⟩)) ?_
    · exact ⟨hlr2, ix_pos hlr2 hr0, rfl⟩
    rintro u ⟨hu, hne, hmin⟩
    try dsimp only
    refine wc_fcat ?_
    refine wc_cat ?_
    cases u with
    | nil => exact absurd rfl hne
    | node i2 l2 s2 r2 hh2 ff2 =>
    obtain ⟨t21, t22, hnd2, hlr21, hlr22⟩ := hu
    have hNi2 := (nd_mem t22).1
    have hl2x := hlr21.ix_lt hp
    rw [show (Tr.node i2 l2 s2 r2 hh2 ff2).ix = i2 from rfl]
    repeat (first | (apply wx_val; (first | exact v_move rfl | exact v_nil rfl | exact v_faddr rfl rfl | exact v_ldT rfl rfl rfl (by rfl) | exact v_iaddrE (by assumption) rfl rfl rfl (by omega)); rfl) | refine wc_seq ?_ | refine wc_region ?_)
    (try refine wx_ungd rfl rfl ?_)
    apply wx_val
    exact v_load rfl rfl rfl (fun w' hr => h1.elemT (i := i2) hA (by decide) (fun _ => rfl) hNi2 hr (j := 3) rfl (by rw [Int.toNat_natCast]))
    rfl
    rw [hnd2]
    repeat (first | (apply wx_val; (first | exact v_ne rfl rfl); rfl) | refine wx_nil ?_ | refine wq_next ?_)
    refine wc_if rfl (fun hd => ?_) (fun hd => ?_)
    · skip
      repeat (first | (apply wx_val; (first | exact v_move rfl | exact v_nil rfl | exact v_faddr rfl rfl | exact v_ldT rfl rfl rfl (by rfl) | exact v_iaddrE (by assumption) rfl rfl rfl (by omega)); rfl) | refine wc_region ?_ | refine wq_next ?_ | refine wc_block ?_ | refine wc_skip ?_)
      (try refine wx_ungd rfl rfl ?_)
      apply wx_val
      exact v_load rfl rfl rfl (fun w' hr => h1.elemT (i := i2) hA (by decide) (fun _ => rfl) hNi2 hr (j := 3) rfl (by rw [Int.toNat_natCast]))
      rfl
      rw [hnd2]
      repeat (first | (apply wx_val; (first | exact v_assign rfl); rfl) | refine wx_nil ?_ | refine wq_block ?_)
      refine wq_roundK (l2) ?_ ?_ (by repeat (first | exact trivial | refine ⟨rfl, ?_⟩)) (by first | exact catEq | exact rfl)
      · exact ⟨hlr21, ix_pos hlr21 (by intro e; rw [e] at hd; exact hd rfl), by rw [← hmin]; exact (if_neg (by intro e; rw [e] at hd; exact hd rfl)).symm⟩
      · simp only [Tr.size]; omega
    have hl20 : l2.ix = 0 := by dsimp only at hd; omega
    have hs2' : s2 = minT r := by rw [← hmin]; exact (if_pos hl20).symm
    repeat (first | (apply wx_val; (first | exact v_move rfl | exact v_nil rfl | exact v_faddr rfl rfl | exact v_ldT rfl rfl rfl (by rfl) | exact v_iaddrE (by assumption) rfl rfl rfl (by omega)); rfl) | refine wc_seq ?_ | refine wc_region ?_ | refine wq_next ?_ | refine wc_exit ?_ | refine wq_then_exit ?_ | refine wq_block_exit rfl ?_)
    (try refine wx_ungd rfl rfl ?_)
    apply wx_val
    exact v_loadA (cs := (minT r).cells) rfl rfl (fun w' hr j u hj => h1.elemT (i := i2) hA (by decide) (fun _ => rfl) hNi2 hr (j := j) (v := u) (by rw [hnd2, hs2']; exact sp_cell hj) (by rw [Int.toNat_natCast, Nat.add_zero]))
    rfl
    refine wl_alloc rfl rfl (fun g10 => ?_)
    repeat (first | refine wc_seq ?_ | refine wx_nil ?_ | refine wq_next ?_ | refine wc_setn ?_ | refine wl_stAT rfl rfl (by rfl) (by rfl) (by exact .inl (Nat.le_refl _)) rfl ?_)
    generalize emr : minT r = mr at *
    have hmr : mr ∈ toL r := emr ▸ min_mem hlr2 (ix_pos hlr2 hr0)
    have eR : remA (.node i l s0 r hh ff) N sp s = (fun q : Nat × List Nd × List Nat => (fun N2 : List Nd => (fun b : Nat × List Nd => (b.1, b.2, q.2.2)) (balA (N2.set i { nd N2 i with s := mr }) i)) (q.2.1.set i { nd q.2.1 i with r := q.1 })) (remA r N sp mr) := by
      rw [← emr]
      exact (if_neg hc).trans ((if_neg hc2).trans (if_neg (by omega)))
    rw [eR]
    have ih := ihr (y := ⟨yA, yc, yB, yd, ym⟩) ⟨h1, h2, h3, h4⟩ hlr2 hsr' hmr hs hs2
    dsimp only
    generalize remA r N sp mr = q at *
    obtain ⟨k', N', sp'⟩ := q
    dsimp only at ih ⊢
    skip
    refine wc_meetK (ι := (Option Addr × Nat) × Seg × Seg) [0, 1, 10] (fun _ => []) (fun q => [fsB g ⟨yA, yc, q.1.1, q.1.2, ym⟩ N.length sp'.length cnt, q.2.1, q.2.2]) (M1 := [fsB g ⟨yA, yc, yB, yd, ym⟩ N.length sp.length cnt, E, Es]) (fun q => ArO (N'.set i { nd N' i with r := k' }) N.length yA yc q.2.1 ∧ SpO sp' sp'.length q.1.1 q.1.2 q.2.2 ∧ Inb N' ∧ (∀ j ∈ sp', j < N'.length) ∧ k' < N.length ∧ N'.length = N.length) rfl ?_ ?_
    · skip
      refine wc_cat ?_
      refine wc_heldX [] [[(g5, .cells s.cells.toArray 28 (0, 0))], [(g10, .cells mr.cells.toArray 28 (0, 0))], [(g7, .cells (Nd.cells ⟨s0, l.ix, r.ix, hh, ff⟩).toArray 65 (0, 0))]] rfl (by (repeat (first | with_reducible exact panicNot_of panicOk_body | with_reducible apply panicNot_block | with_reducible apply panicNot_then))) (fun hQd => ?_)
      (apply wh_takeX 0; (first | exact fun _ h => h | exact fun _ h => res_takes h); exact hQd; rfl; rfl; exact v_move rfl; decide +kernel; decide +kernel; decide +kernel; rfl)
      (apply wh_takeX 1; (first | exact fun _ h => h | exact fun _ h => res_takes h); exact hQd; rfl; rfl; exact v_nil rfl; decide +kernel; decide +kernel; decide +kernel; rfl)
      (apply wh_takeX 2; (first | exact fun _ h => h | exact fun _ h => res_takes h); exact hQd; rfl; rfl; exact v_faddr rfl rfl; decide +kernel; decide +kernel; decide +kernel; rfl)
      (apply wh_takeX 4; (first | exact fun _ h => h | exact fun _ h => res_takes h); exact hQd; rfl; rfl; exact v_move rfl; decide +kernel; decide +kernel; decide +kernel; rfl)
      (apply wh_takeX 5; (first | exact fun _ h => h | exact fun _ h => res_takes h); exact hQd; rfl; rfl; exact v_move rfl; decide +kernel; decide +kernel; decide +kernel; rfl)
      (apply wh_takeX 6; (first | exact fun _ h => h | exact fun _ h => res_takes h); exact hQd; rfl; rfl; exact v_faddr rfl rfl; decide +kernel; decide +kernel; decide +kernel; rfl)
      (apply wh_takeX 7; (first | exact fun _ h => res_takes h); exact hQd; rfl; rfl; (first | exact v_ldT rfl rfl rfl (by rfl)); decide +kernel; decide +kernel; decide +kernel; rfl)
      (apply wh_takeX 8; (first | exact fun _ h => res_takes h); exact hQd; rfl; rfl; (first | exact v_ldAT rfl (by rfl)); decide +kernel; decide +kernel; decide +kernel; rfl)
      refine wh_eff2 3 9 rfl rfl (by decide +kernel) ?_ ?_
      · repeat (first | (apply wx_val; (first | exact v_ldT rfl rfl rfl (by rfl)); rfl) | refine wx_nil ?_)
        (try refine wx_nil ?_)
        refine wq_held (by (first | exact fun _ h => h | exact fun _ h => res_takes h)) ?_
        refine wh_eff 9 rfl (by decide +kernel) ?_
        refine wl_callT (fun w' hr ho => ih w' ho) rfl rfl rfl ?_
        rintro ⟨⟨A2, c2, B2, d2, m2⟩, E2, Es2⟩ ⟨⟨u1, u2, u3, u4⟩, hm2, hA2, hc2, hi2, hn2⟩
        dsimp only at u1 u2 hm2 hA2 hc2 ⊢
        have hm2 := hm2.symm
        have hA2 := hA2.symm
        have hc2 := hc2.symm
        subst hm2 hA2 hc2
        rw [hn2] at u1 hi2
        rw [show fsM g ⟨yA, yc, B2, d2, ym⟩ N' sp' cnt E2 Es2 = [fsB g ⟨yA, yc, B2, d2, ym⟩ N.length sp'.length cnt, E2, Es2] by simp only [fsM, hn2]]
        refine wx_cat ?_
        (try refine wx_nil ?_)
        refine wq_held (by (first | exact fun _ h => h | exact fun _ h => res_takes h)) ?_
        (apply wh_takeX 10; (first | exact fun _ h => res_takes h); exact hQd; rfl; rfl; (first | exact v_iaddrE (by assumption) rfl rfl rfl (by omega)); decide +kernel; decide +kernel; decide +kernel; rfl)
        (apply wh_takeX 11; (first | exact fun _ h => h | exact fun _ h => res_takes h); exact hQd; rfl; rfl; exact v_faddr rfl rfl; decide +kernel; decide +kernel; decide +kernel; rfl)
        refine wh_eff 12 rfl (by decide +kernel) ?_
        refine wl_setFT i 4 (f := Nd.cells) (k := 7) (nd N' i) { nd N' i with r := k' } (fun _ => rfl) (by decide) hA u1 rfl rfl (by rw [Int.toNat_natCast]; omega) (nd_mem (by omega)).1 (by omega) rfl rfl rfl (fun E3 hb3 => ?_)
        (try refine wx_nil ?_)
        refine wq_held (by (first | exact fun _ h => h | exact fun _ h => res_takes h)) ?_
        refine wh_done (by decide +kernel) ?_
        refine wq_cutK (((B2, d2), E3, Es2)) ?_ (by repeat (first | exact trivial | refine ⟨rfl, ?_⟩)) (by first | exact catEq | exact rfl)
        exact ⟨hb3, u2, u3, u4, hi2, hn2⟩
      · refine wl_callT (fun w' hr ho => ih w' ho) rfl rfl rfl ?_
        rintro ⟨⟨A2, c2, B2, d2, m2⟩, E2, Es2⟩ ⟨⟨u1, u2, u3, u4⟩, hm2, hA2, hc2, hi2, hn2⟩
        dsimp only at u1 u2 hm2 hA2 hc2 ⊢
        have hm2 := hm2.symm
        have hA2 := hA2.symm
        have hc2 := hc2.symm
        subst hm2 hA2 hc2
        rw [hn2] at u1 hi2
        rw [show fsM g ⟨yA, yc, B2, d2, ym⟩ N' sp' cnt E2 Es2 = [fsB g ⟨yA, yc, B2, d2, ym⟩ N.length sp'.length cnt, E2, Es2] by simp only [fsM, hn2]]
        refine wx_cat ?_
        (try refine wx_nil ?_)
        refine wq_held (by (first | exact fun _ h => h | exact fun _ h => res_takes h)) ?_
        refine wh_eff 3 rfl (by decide +kernel) ?_
        repeat (first | (apply wx_val; (first | exact v_ldT rfl rfl rfl (by rfl)); rfl) | refine wx_nil ?_)
        (try refine wx_nil ?_)
        refine wq_held (by (first | exact fun _ h => h | exact fun _ h => res_takes h)) ?_
        (apply wh_takeX 10; (first | exact fun _ h => res_takes h); exact hQd; rfl; rfl; (first | exact v_iaddrE (by assumption) rfl rfl rfl (by omega)); decide +kernel; decide +kernel; decide +kernel; rfl)
        (apply wh_takeX 11; (first | exact fun _ h => h | exact fun _ h => res_takes h); exact hQd; rfl; rfl; exact v_faddr rfl rfl; decide +kernel; decide +kernel; decide +kernel; rfl)
        refine wh_eff 12 rfl (by decide +kernel) ?_
        refine wl_setFT i 4 (f := Nd.cells) (k := 7) (nd N' i) { nd N' i with r := k' } (fun _ => rfl) (by decide) hA u1 rfl rfl (by rw [Int.toNat_natCast]; omega) (nd_mem (by omega)).1 (by omega) rfl rfl rfl (fun E3 hb3 => ?_)
        (try refine wx_nil ?_)
        refine wq_held (by (first | exact fun _ h => h | exact fun _ h => res_takes h)) ?_
        refine wh_done (by decide +kernel) ?_
        refine wq_cutK (((B2, d2), E3, Es2)) ?_ (by repeat (first | exact trivial | refine ⟨rfl, ?_⟩)) (by first | exact catEq | exact rfl)
        exact ⟨hb3, u2, u3, u4, hi2, hn2⟩
    rintro ⟨⟨B2, d2⟩, E3, Es2⟩ ⟨hb3, u2, u3, u4, hi2, hn2⟩
    try dsimp only
    refine wc_fcat ?_
    refine wc_cat ?_
    have hN4 : Inb (N'.set i { nd N' i with r := k' }) := u3.set (i := i) (n := { nd N' i with r := k' }) (by first | exact u3.ndl (by omega) | (show k' < _; omega)) (by first | exact u3.ndr (by omega) | (show k' < _; omega))
    have hl4 : (N'.set i { nd N' i with r := k' }).length = N.length := by rw [List.length_set, hn2]
    generalize N'.set i { nd N' i with r := k' } = N2 at *
    refine wc_heldX [] [[(g10, .cells mr.cells.toArray 28 (0, 0))], fsB g ⟨yA, yc, B2, d2, ym⟩ N.length sp'.length cnt] rfl (by (repeat (first | with_reducible exact panicNot_of panicOk_body | with_reducible apply panicNot_block | with_reducible apply panicNot_then))) (fun hQd => ?_)
    (apply wh_takeX 0; (first | exact fun _ h => h | exact fun _ h => res_takes h); exact hQd; rfl; rfl; exact v_move rfl; decide +kernel; decide +kernel; decide +kernel; rfl)
    (apply wh_takeX 1; (first | exact fun _ h => h | exact fun _ h => res_takes h); exact hQd; rfl; rfl; exact v_nil rfl; decide +kernel; decide +kernel; decide +kernel; rfl)
    (apply wh_takeX 2; (first | exact fun _ h => h | exact fun _ h => res_takes h); exact hQd; rfl; rfl; exact v_faddr rfl rfl; decide +kernel; decide +kernel; decide +kernel; rfl)
    (apply wh_takeX 3; (first | exact fun _ h => res_takes h); exact hQd; rfl; rfl; (first | exact v_ldT rfl rfl rfl (by rfl)); decide +kernel; decide +kernel; decide +kernel; rfl)
    (apply wh_takeX 4; (first | exact fun _ h => h | exact fun _ h => res_takes h); exact hQd; rfl; rfl; exact v_move rfl; decide +kernel; decide +kernel; decide +kernel; rfl)
    (apply wh_takeX 5; (first | exact fun _ h => res_takes h); exact hQd; rfl; rfl; (first | exact v_ldAT rfl (by rfl)); decide +kernel; decide +kernel; decide +kernel; rfl)
    (apply wh_takeX 6; (first | exact fun _ h => res_takes h); exact hQd; rfl; rfl; (first | exact v_iaddrE (by assumption) rfl rfl rfl (by omega)); decide +kernel; decide +kernel; decide +kernel; rfl)
    (apply wh_takeX 7; (first | exact fun _ h => h | exact fun _ h => res_takes h); exact hQd; rfl; rfl; exact v_faddr rfl rfl; decide +kernel; decide +kernel; decide +kernel; rfl)
    refine wh_eff 8 rfl (by decide +kernel) ?_
    refine wl_setGT i 0 (f := Nd.cells) (k := 7) (nd N2 i) { nd N2 i with s := mr } mr.cells (fun _ => rfl) (show 0 + 3 ≤ 7 by decide) hA hb3 rfl rfl (by rw [Int.toNat_natCast]; omega) (nd_mem (by omega)).1 (by omega) rfl rfl rfl (fun E4 hb4 => ?_)
    (try refine wx_nil ?_)
    refine wq_held (by (first | exact fun _ h => h | exact fun _ h => res_takes h)) ?_
    refine wh_done (by decide +kernel) ?_
    have hN5 : Inb (N2.set i { nd N2 i with s := mr }) := hN4.set (i := i) (n := { nd N2 i with s := mr }) (hN4.ndl (by omega)) (hN4.ndr (by omega))
    have hl5 : (N2.set i { nd N2 i with s := mr }).length = N.length := by rw [List.length_set, hl4]
    clear hb3 hN4 hl4
    have hb3 := hb4
    have hN4 := hN5
    have hl4 := hl5
    have hbb := balA_inb hN4 (i := i) (by omega)
    repeat (first | (apply wx_val; (first | exact v_move rfl); rfl) | refine wc_seq ?_ | refine wc_region ?_ | refine wq_next ?_ | refine wq_block ?_)
    refine wl_callT (fun w' hr ho => balance_spec (g := g) (n := N.length) (k := sp'.length) (cnt := cnt) (N := N2.set i { nd N2 i with s := mr }) (y := ⟨yA, yc, B2, d2, ym⟩) (E := _) hN4 (by omega) (by omega) hb3 w' ho) rfl rfl rfl ?_
    rintro E4 hb4
    rw [hl4] at hbb
    generalize balA (N2.set i { nd N2 i with s := mr }) i = b at *
    obtain ⟨b1, N5⟩ := b
    dsimp only at hb4 hbb ⊢
    repeat (first | (apply wx_val; (first | exact v_assign rfl); rfl) | refine wx_nil ?_ | refine wq_next ?_ | refine wc_ret ?_ | refine wq_cat ?_)
    exact wq_ret1T (⟨yA, yc, B2, d2, ym⟩, E4, Es2) rfl rfl ⟨⟨by rw [hbb.2.2]; exact hb4, u2, hbb.1, fun j hj => by rw [hbb.2.2, ← hn2]; exact u4 j hj⟩, rfl, rfl, rfl, by rw [hbb.2.2]; exact hbb.2.1, hbb.2.2⟩ (show _ = [fsB g ⟨yA, yc, B2, d2, ym⟩ N.length sp'.length cnt, E4, Es2] by
      dsimp only [fsM]
      rw [hbb.2.2])
end fs
end Go.Proofs.Ytjeghbachokljaa
