/- Parts of the proof: SpH, SpP, SpN, SpI, SpJ, SpR. -/
import Derived.Test.YtlioccfedophhaaM4
import Derived.Test.YtlioccfedophhaaProg
import Derived.Test.YtlioccfedophhaaM3
import Derived.RangeFuncLeaves
import Derived.RangeFuncSeq
import Derived.TacticsIn
/- A span taken out. -/
set_option linter.unusedVariables false
set_option linter.unusedSimpArgs false
namespace Go.Proofs.Ytlioccfedophhaa
open Go
set_option maxRecDepth 20000
set_option maxHeartbeats 2000000
attribute [local irreducible] WX WC WQ Val VCall
theorem rSpH_0 {A B : Prop} (k : B) (h : Hold B → A := by intro k; (repeat (first | (apply wx_val; (first | exact v_move rfl | exact v_assign rfl | exact v_nil rfl | exact v_faddr rfl rfl | exact v_ldT rfl rfl rfl (by rfl) | exact v_ne rfl rfl | exact v_lt rfl rfl | exact v_gt rfl rfl | exact v_iaddrE (by assumption) rfl rfl rfl (by omega) | exact v_add rfl rfl | (first | exact v_ldQ 0 0 rfl rfl rfl rfl rfl | exact v_ldQ 1 0 rfl rfl rfl rfl rfl)); rfl) | refine wc_seq ?_ | refine wc_region ?_ | refine wx_nil ?_ | refine wq_next ?_ | refine wc_block ?_ | refine wc_ret ?_ | refine wc_skip ?_ | refine wc_exit ?_ | refine wq_then_ret ?_ | refine wq_then_exit ?_ | refine wq_block ?_ | refine wq_block_ret ?_ | refine wq_block_exit rfl ?_ | refine wx_setn ?_ | refine wc_setn ?_ | refine wq_cat ?_ | refine wl_storeT rfl rfl rfl (by rfl) (by exact .inl (Nat.le_refl _)) rfl ?_ | refine wl_stAT rfl rfl (by rfl) (by rfl) (by exact .inl (Nat.le_refl _)) rfl ?_)); exact k.out) : A := h ⟨k⟩
def ltS (s t : Sp) : Prop := s.a < t.a ∨ (s.a = t.a ∧ (s.b < t.b ∨ (s.b = t.b ∧ s.c < t.c)))
theorem cmp_cases (s t : Sp) : (cmpS s t < 0 ∧ ltS s t) ∨ (cmpS s t = 0 ∧ s = t) ∨ (0 < cmpS s t ∧ ltS t s) := by
  obtain ⟨a, b, c⟩ := s
  obtain ⟨x, y, z⟩ := t
  unfold cmpS cmpI ltS
  dsimp only
  by_cases h1 : a < x
  · rw [if_pos h1]; simp [h1]
  by_cases h2 : x < a
  · rw [if_neg h1, if_pos h2]; simp; omega
  have e1 : a = x := by omega
  subst e1
  by_cases h3 : b < y
  · simp [h3]
  by_cases h4 : y < b
  · simp [h3, h4]
  have e2 : b = y := by omega
  subst e2
  by_cases h5 : c < z
  · simp [h5]
  by_cases h6 : z < c
  · simp [h5, h6]
  have e3 : c = z := by omega
  subst e3
  simp
theorem ltS_irr (s : Sp) : ¬ ltS s s := by unfold ltS; omega
theorem ltS_trans {s t u : Sp} (h1 : ltS s t) (h2 : ltS t u) : ltS s u := by unfold ltS at *; omega
theorem ltS_asym {s t : Sp} (h1 : ltS s t) (h2 : ltS t s) : False := by unfold ltS at *; omega
def toL : Tr → List Sp
  | .nil => []
  | .node _ l s r _ _ => toL l ++ s :: toL r
def Srt (t : Tr) : Prop := (toL t).Pairwise ltS
theorem Srt.node {i : Nat} {l r : Tr} {s : Sp} {h f : Int} (hs : Srt (.node i l s r h f)) : Srt l ∧ Srt r ∧ (∀ x ∈ toL l, ltS x s) ∧ (∀ x ∈ toL r, ltS s x) := by
  unfold Srt toL at hs
  rw [List.pairwise_append] at hs
  obtain ⟨h1, h2, h3⟩ := hs
  rw [List.pairwise_cons] at h2
  exact ⟨h1, h2.2, fun x hx => h3 x hx s (by simp), h2.1⟩
theorem mem_left {i : Nat} {l r : Tr} {s0 s : Sp} {h f : Int} (hs : Srt (.node i l s0 r h f)) (hm : s ∈ toL (.node i l s0 r h f)) (hc : cmpS s s0 < 0) : s ∈ toL l := by
  obtain ⟨h1, h2, h3, h4⟩ := hs.node
  have hlt : ltS s s0 := by rcases cmp_cases s s0 with h | h | h; exact h.2; omega; omega
  rcases List.mem_append.1 hm with hm | hm
  · exact hm
  · rcases List.mem_cons.1 hm with rfl | hm
    · exact absurd hlt (ltS_irr _)
    · exact absurd (ltS_trans hlt (h4 s hm)) (ltS_irr _)
theorem mem_right {i : Nat} {l r : Tr} {s0 s : Sp} {h f : Int} (hs : Srt (.node i l s0 r h f)) (hm : s ∈ toL (.node i l s0 r h f)) (hc : 0 < cmpS s s0) : s ∈ toL r := by
  obtain ⟨h1, h2, h3, h4⟩ := hs.node
  have hlt : ltS s0 s := by rcases cmp_cases s s0 with h | h | h; omega; omega; exact h.2
  rcases List.mem_append.1 hm with hm | hm
  · exact absurd (ltS_trans hlt (h3 s hm)) (ltS_irr _)
  · rcases List.mem_cons.1 hm with rfl | hm
    · exact absurd hlt (ltS_irr _)
    · exact hm
def minT : Tr → Sp
  | .nil => ⟨0, 0, 0⟩
  | .node _ l s _ _ _ => if l.ix = 0 then s else minT l
theorem ix_zero {N : List Nd} {t : Tr} (h : At N t) (h0 : t.ix = 0) : t = .nil := by
  cases t with
  | nil => rfl
  | node i l s r hh f =>
    have := h.1
    have h0' : i = 0 := h0
    omega
theorem ix_pos {N : List Nd} {t : Tr} (h : At N t) (h0 : t.ix ≠ 0) : t ≠ .nil := fun e => h0 (by rw [e]; rfl)
theorem min_mem {N : List Nd} : ∀ {t : Tr}, At N t → t ≠ .nil → minT t ∈ toL t
  | .nil, _, h => absurd rfl h
  | .node i l s r hh f, ha, _ => by
    unfold minT toL
    by_cases h0 : l.ix = 0
    · rw [if_pos h0]; simp
    · rw [if_neg h0]
      exact List.mem_append.2 (.inl (min_mem ha.2.2.2.1 (ix_pos ha.2.2.2.1 h0)))
theorem wrapN {a b : Nat} (h : a + b < 4611686018427387904) : IntKind.i64.wrap ((a : Int) + (b : Int)) = ((a + b : Nat) : Int) := by
  rw [wrap_in (by omega)]
  omega
/-- what remove does to the arena -/
def remA : Tr → List Nd → List Nat → Sp → Nat × List Nd × List Nat
  | .nil, N, sp, s => (0, N, sp)
  | .node i l s0 r _ _, N, sp, s =>
    if cmpS s s0 < 0 then
      let q := remA l N sp s
      let b := balA (q.2.1.set i { nd q.2.1 i with l := q.1 }) i
      (b.1, b.2, q.2.2)
    else if 0 < cmpS s s0 then
      let q := remA r N sp s
      let b := balA (q.2.1.set i { nd q.2.1 i with r := q.1 }) i
      (b.1, b.2, q.2.2)
    else if l.ix = 0 ∨ r.ix = 0 then (l.ix + r.ix, N, sp ++ [i])
    else
      let q := remA r N sp (minT r)
      let N2 := q.2.1.set i { nd q.2.1 i with r := q.1 }
      let b := balA (N2.set i { nd N2 i with s := minT r }) i
      (b.1, b.2, q.2.2)
section fs
variable {g : Nat} {y : Fa} {cnt : Int} {N : List Nd} {sp : List Nat} {E Es : Seg}
structure RemO (N N' : List Nd) (sp' : List Nat) (i' : Nat) (y : Fa) (q : Fa × Seg × Seg) : Prop where
  fs : FsO N' sp' q.1 q.2.1 q.2.2
  m : q.1.m = y.m
  A : q.1.A = y.A
  c : q.1.c = y.c
  i : i' < N'.length
  len : N'.length = N.length
theorem remove_spec (t : Tr) : ∀ {s : Sp} {y : Fa} {N : List Nd} {sp : List Nat} {E Es : Seg}, FsO N sp y E Es → At N t → Srt t → s ∈ toL t → N.length ≤ 1099511627776 → sp.length ≤ 1099511627776 → ∀ (w : World), Own w (fsM g y N sp cnt E Es) →
    Calls Try.prog 87 #[.pointer (some ⟨g, 0, none⟩), .int .i64 (t.ix : Nat), .agg s.cells.toArray] w (Ret (β := Fa × Seg × Seg) w (ids (fsM g y N sp cnt E Es)) (fun _ => .int .i64 ((remA t N sp s).1 : Nat)) (fun q => fsM g q.1 (remA t N sp s).2.1 (remA t N sp s).2.2 cnt q.2.1 q.2.2) (RemO N (remA t N sp s).2.1 (remA t N sp s).2.2 (remA t N sp s).1 y)) := by
  induction t with
  | nil =>
    intro s y N sp E Es hf ht hsr hm
    simp [toL] at hm
  | node i l s0 r hh ff ihl ihr =>
    intro s y N sp E Es hf ht hsr hm hs hs2 w ho
    refine go [.pointer (some ⟨g, 0, none⟩), .int .i64 (i : Nat), .agg s.cells.toArray] (fsM g y N sp cnt E Es) Try.func87 Try.ntmps87 rfl rfl ho ?_
    obtain ⟨t1, t2, hnd, hlr1, hlr2⟩ := ht
    obtain ⟨hsl, hsr', _, _⟩ := hsr.node
    obtain ⟨h1, h2, h3, h4⟩ := hf
    obtain ⟨yA, yc, yB, yd, ym⟩ := y
    dsimp only at h1 h2
    have hp := h3.pos
    have hsm := h3.small
    have hlx := hlr1.ix_lt hp
    have hrx := hlr2.ix_lt hp
    obtain ⟨ga, hA⟩ := h1.ptr hp
    have hNi := (nd_mem t2).1
    refine rSpH_0 ?_
    refine wl_boxA rfl rfl (fun g5 => ?_)
    refine rSpH_0 ?_
    (try refine wx_ungd rfl rfl ?_)
    apply wx_val
    exact v_loadA (cs := Nd.cells ⟨s0, l.ix, r.ix, hh, ff⟩) rfl rfl (fun w' hr j u hj => h1.elemT (i := i) hA (by decide) (fun _ => rfl) hNi hr (j := j) (v := u) (by rw [hnd]; exact hj) (by rw [Int.toNat_natCast]))
    rfl
    refine wl_alloc rfl rfl (fun g7 => ?_)
    refine rSpH_0 ?_
    (try refine wx_ungd rfl rfl ?_)
    refine wx_vcall (vc_pure' rfl rfl (fun w' hr => compare_spec s s0 w')) rfl ?_
    refine rSpH_0 ?_
    refine wc_if rfl (fun hc => ?_) (fun hc => ?_)
    · have eR : remA (.node i l s0 r hh ff) N sp s = ((balA ((remA l N sp s).2.1.set i { nd (remA l N sp s).2.1 i with l := (remA l N sp s).1 }) i).1, (balA ((remA l N sp s).2.1.set i { nd (remA l N sp s).2.1 i with l := (remA l N sp s).1 }) i).2, (remA l N sp s).2.2) := if_pos hc
      have hml := mem_left hsr hm hc
      rw [eR]
      have ih := ihl (y := ⟨yA, yc, yB, yd, ym⟩) ⟨h1, h2, h3, h4⟩ hlr1 hsl hml hs hs2
      dsimp only
      generalize remA l N sp s = q at *
      obtain ⟨k', N', sp'⟩ := q
      dsimp only at ih ⊢
      skip
      refine wc_heldN [] [[(g5, .cells s.cells.toArray 110 (0, 0))], [(g7, .cells (Nd.cells ⟨s0, l.ix, r.ix, hh, ff⟩).toArray 148 (0, 0))]] (fun hQd => ?_)
      refine tkX 0 rfl (v_move rfl) ?_
      refine tkX 1 rfl (v_nil rfl) ?_
      refine tkX 2 rfl (v_faddr rfl rfl) ?_
      refine tkX 4 rfl (v_move rfl) ?_
      refine tkX 5 rfl (v_move rfl) ?_
      refine tkX 6 rfl (v_faddr rfl rfl) ?_
      refine tkX 7 rfl (v_ldT rfl rfl rfl (by rfl)) ?_
      refine tkX 8 rfl (v_ldAT rfl (by rfl)) ?_
      refine wh_eff2 3 9 rfl rfl (by decide +kernel) ?_ ?_
      · refine rSpH_0 ?_
        (try refine wx_nil ?_)
        refine hdX ?_
        refine efX 9 rfl ?_
        refine wl_callT (fun w' hr ho => ih w' ho) rfl rfl rfl ?_
        rintro ⟨⟨A2, c2, B2, d2, m2⟩, E2, Es2⟩ ⟨⟨u1, u2, u3, u4⟩, hm2, hA2, hc2, hi2, hn2⟩
        dsimp only at u1 u2 hm2 hA2 hc2 ⊢
        have hm2 := hm2.symm
        have hA2 := hA2.symm
        have hc2 := hc2.symm
        subst hm2 hA2 hc2
        rw [hn2] at u1 hi2
        rw [show fsM g ⟨yA, yc, B2, d2, ym⟩ N' sp' cnt E2 Es2 = [fsB g ⟨yA, yc, B2, d2, ym⟩ N.length sp'.length cnt, E2, Es2] by simp only [fsM, hn2]]
        refine wx_cat ?_
        (try refine wx_nil ?_)
        refine hdX ?_
        refine tkX 10 rfl (v_iaddrE (by assumption) rfl rfl rfl (by omega)) ?_
        refine tkX 11 rfl (v_faddr rfl rfl) ?_
        refine efX 12 rfl ?_
        refine wl_setFT i 3 (f := Nd.cells) (k := 7) (nd N' i) { nd N' i with l := k' } (fun _ => rfl) (by decide) hA u1 rfl rfl (by rw [Int.toNat_natCast]; omega) (nd_mem (by omega)).1 (by omega) rfl rfl rfl (fun E3 hb3 => ?_)
        (try refine wx_nil ?_)
        refine hdX ?_
        refine wh_done (by decide +kernel) ?_
        have hN4 : Inb (N'.set i { nd N' i with l := k' }) := u3.set (i := i) (n := { nd N' i with l := k' }) (by first | exact u3.ndl (by omega) | (show k' < _; omega)) (by first | exact u3.ndr (by omega) | (show k' < _; omega))
        have hl4 : (N'.set i { nd N' i with l := k' }).length = N.length := by rw [List.length_set, hn2]
        have hbb := balA_inb hN4 (i := i) (by omega)
        refine rSpH_0 ?_
        refine wl_callT (fun w' hr ho => balance_spec (g := g) (n := N.length) (k := sp'.length) (cnt := cnt) (N := N'.set i { nd N' i with l := k' }) (y := ⟨yA, yc, B2, d2, ym⟩) (E := _) hN4 (by omega) (by omega) hb3 w' ho) rfl rfl rfl ?_
        rintro E4 hb4
        rw [hl4] at hbb
        generalize balA (N'.set i { nd N' i with l := k' }) i = b at *
        obtain ⟨b1, N5⟩ := b
        dsimp only at hb4 hbb ⊢
        refine rSpH_0 ?_
        exact wq_ret1T (⟨yA, yc, B2, d2, ym⟩, E4, Es2) rfl rfl ⟨⟨by rw [hbb.2.2]; exact hb4, u2, hbb.1, fun j hj => by rw [hbb.2.2, ← hn2]; exact u4 j hj⟩, rfl, rfl, rfl, by rw [hbb.2.2]; exact hbb.2.1, hbb.2.2⟩ (show _ = [fsB g ⟨yA, yc, B2, d2, ym⟩ N.length sp'.length cnt, E4, Es2] by
          dsimp only [fsM]
          rw [hbb.2.2])
      · refine wl_callT (fun w' hr ho => ih w' ho) rfl rfl rfl ?_
        rintro ⟨⟨A2, c2, B2, d2, m2⟩, E2, Es2⟩ ⟨⟨u1, u2, u3, u4⟩, hm2, hA2, hc2, hi2, hn2⟩
        dsimp only at u1 u2 hm2 hA2 hc2 ⊢
        have hm2 := hm2.symm
        have hA2 := hA2.symm
        have hc2 := hc2.symm
        subst hm2 hA2 hc2
        rw [hn2] at u1 hi2
        rw [show fsM g ⟨yA, yc, B2, d2, ym⟩ N' sp' cnt E2 Es2 = [fsB g ⟨yA, yc, B2, d2, ym⟩ N.length sp'.length cnt, E2, Es2] by simp only [fsM, hn2]]
        refine wx_cat ?_
        (try refine wx_nil ?_)
        refine hdX ?_
        refine efX 3 rfl ?_
        refine rSpH_0 ?_
        (try refine wx_nil ?_)
        refine hdX ?_
        refine tkX 10 rfl (v_iaddrE (by assumption) rfl rfl rfl (by omega)) ?_
        refine tkX 11 rfl (v_faddr rfl rfl) ?_
        refine efX 12 rfl ?_
        refine wl_setFT i 3 (f := Nd.cells) (k := 7) (nd N' i) { nd N' i with l := k' } (fun _ => rfl) (by decide) hA u1 rfl rfl (by rw [Int.toNat_natCast]; omega) (nd_mem (by omega)).1 (by omega) rfl rfl rfl (fun E3 hb3 => ?_)
        (try refine wx_nil ?_)
        refine hdX ?_
        refine wh_done (by decide +kernel) ?_
        have hN4 : Inb (N'.set i { nd N' i with l := k' }) := u3.set (i := i) (n := { nd N' i with l := k' }) (by first | exact u3.ndl (by omega) | (show k' < _; omega)) (by first | exact u3.ndr (by omega) | (show k' < _; omega))
        have hl4 : (N'.set i { nd N' i with l := k' }).length = N.length := by rw [List.length_set, hn2]
        have hbb := balA_inb hN4 (i := i) (by omega)
        refine rSpH_0 ?_
        refine wl_callT (fun w' hr ho => balance_spec (g := g) (n := N.length) (k := sp'.length) (cnt := cnt) (N := N'.set i { nd N' i with l := k' }) (y := ⟨yA, yc, B2, d2, ym⟩) (E := _) hN4 (by omega) (by omega) hb3 w' ho) rfl rfl rfl ?_
        rintro E4 hb4
        rw [hl4] at hbb
        generalize balA (N'.set i { nd N' i with l := k' }) i = b at *
        obtain ⟨b1, N5⟩ := b
        dsimp only at hb4 hbb ⊢
        refine rSpH_0 ?_
        exact wq_ret1T (⟨yA, yc, B2, d2, ym⟩, E4, Es2) rfl rfl ⟨⟨by rw [hbb.2.2]; exact hb4, u2, hbb.1, fun j hj => by rw [hbb.2.2, ← hn2]; exact u4 j hj⟩, rfl, rfl, rfl, by rw [hbb.2.2]; exact hbb.2.1, hbb.2.2⟩ (show _ = [fsB g ⟨yA, yc, B2, d2, ym⟩ N.length sp'.length cnt, E4, Es2] by
          dsimp only [fsM]
          rw [hbb.2.2])
    refine rSpH_0 ?_
    refine wc_if rfl (fun hc2 => ?_) (fun hc2 => ?_)
    · have eR : remA (.node i l s0 r hh ff) N sp s = ((balA ((remA r N sp s).2.1.set i { nd (remA r N sp s).2.1 i with r := (remA r N sp s).1 }) i).1, (balA ((remA r N sp s).2.1.set i { nd (remA r N sp s).2.1 i with r := (remA r N sp s).1 }) i).2, (remA r N sp s).2.2) := (if_neg hc).trans (if_pos hc2)
      have hml := mem_right hsr hm hc2
      rw [eR]
      have ih := ihr (y := ⟨yA, yc, yB, yd, ym⟩) ⟨h1, h2, h3, h4⟩ hlr2 hsr' hml hs hs2
      dsimp only
      generalize remA r N sp s = q at *
      obtain ⟨k', N', sp'⟩ := q
      dsimp only at ih ⊢
      skip
      refine wc_heldN [] [[(g5, .cells s.cells.toArray 110 (0, 0))], [(g7, .cells (Nd.cells ⟨s0, l.ix, r.ix, hh, ff⟩).toArray 148 (0, 0))]] (fun hQd => ?_)
      refine tkX 0 rfl (v_move rfl) ?_
      refine tkX 1 rfl (v_nil rfl) ?_
      refine tkX 2 rfl (v_faddr rfl rfl) ?_
      refine tkX 4 rfl (v_move rfl) ?_
      refine tkX 5 rfl (v_move rfl) ?_
      refine tkX 6 rfl (v_faddr rfl rfl) ?_
      refine tkX 7 rfl (v_ldT rfl rfl rfl (by rfl)) ?_
      refine tkX 8 rfl (v_ldAT rfl (by rfl)) ?_
      refine wh_eff2 3 9 rfl rfl (by decide +kernel) ?_ ?_
      · refine rSpH_0 ?_
        (try refine wx_nil ?_)
        refine hdX ?_
        refine efX 9 rfl ?_
        refine wl_callT (fun w' hr ho => ih w' ho) rfl rfl rfl ?_
        rintro ⟨⟨A2, c2, B2, d2, m2⟩, E2, Es2⟩ ⟨⟨u1, u2, u3, u4⟩, hm2, hA2, hc2, hi2, hn2⟩
        dsimp only at u1 u2 hm2 hA2 hc2 ⊢
        have hm2 := hm2.symm
        have hA2 := hA2.symm
        have hc2 := hc2.symm
        subst hm2 hA2 hc2
        rw [hn2] at u1 hi2
        rw [show fsM g ⟨yA, yc, B2, d2, ym⟩ N' sp' cnt E2 Es2 = [fsB g ⟨yA, yc, B2, d2, ym⟩ N.length sp'.length cnt, E2, Es2] by simp only [fsM, hn2]]
        refine wx_cat ?_
        (try refine wx_nil ?_)
        refine hdX ?_
        refine tkX 10 rfl (v_iaddrE (by assumption) rfl rfl rfl (by omega)) ?_
        refine tkX 11 rfl (v_faddr rfl rfl) ?_
        refine efX 12 rfl ?_
        refine wl_setFT i 4 (f := Nd.cells) (k := 7) (nd N' i) { nd N' i with r := k' } (fun _ => rfl) (by decide) hA u1 rfl rfl (by rw [Int.toNat_natCast]; omega) (nd_mem (by omega)).1 (by omega) rfl rfl rfl (fun E3 hb3 => ?_)
        (try refine wx_nil ?_)
        refine hdX ?_
        refine wh_done (by decide +kernel) ?_
        have hN4 : Inb (N'.set i { nd N' i with r := k' }) := u3.set (i := i) (n := { nd N' i with r := k' }) (by first | exact u3.ndl (by omega) | (show k' < _; omega)) (by first | exact u3.ndr (by omega) | (show k' < _; omega))
        have hl4 : (N'.set i { nd N' i with r := k' }).length = N.length := by rw [List.length_set, hn2]
        have hbb := balA_inb hN4 (i := i) (by omega)
        refine rSpH_0 ?_
        refine wl_callT (fun w' hr ho => balance_spec (g := g) (n := N.length) (k := sp'.length) (cnt := cnt) (N := N'.set i { nd N' i with r := k' }) (y := ⟨yA, yc, B2, d2, ym⟩) (E := _) hN4 (by omega) (by omega) hb3 w' ho) rfl rfl rfl ?_
        rintro E4 hb4
        rw [hl4] at hbb
        generalize balA (N'.set i { nd N' i with r := k' }) i = b at *
        obtain ⟨b1, N5⟩ := b
        dsimp only at hb4 hbb ⊢
        refine rSpH_0 ?_
        exact wq_ret1T (⟨yA, yc, B2, d2, ym⟩, E4, Es2) rfl rfl ⟨⟨by rw [hbb.2.2]; exact hb4, u2, hbb.1, fun j hj => by rw [hbb.2.2, ← hn2]; exact u4 j hj⟩, rfl, rfl, rfl, by rw [hbb.2.2]; exact hbb.2.1, hbb.2.2⟩ (show _ = [fsB g ⟨yA, yc, B2, d2, ym⟩ N.length sp'.length cnt, E4, Es2] by
          dsimp only [fsM]
          rw [hbb.2.2])
      · refine wl_callT (fun w' hr ho => ih w' ho) rfl rfl rfl ?_
        rintro ⟨⟨A2, c2, B2, d2, m2⟩, E2, Es2⟩ ⟨⟨u1, u2, u3, u4⟩, hm2, hA2, hc2, hi2, hn2⟩
        dsimp only at u1 u2 hm2 hA2 hc2 ⊢
        have hm2 := hm2.symm
        have hA2 := hA2.symm
        have hc2 := hc2.symm
        subst hm2 hA2 hc2
        rw [hn2] at u1 hi2
        rw [show fsM g ⟨yA, yc, B2, d2, ym⟩ N' sp' cnt E2 Es2 = [fsB g ⟨yA, yc, B2, d2, ym⟩ N.length sp'.length cnt, E2, Es2] by simp only [fsM, hn2]]
        refine wx_cat ?_
        (try refine wx_nil ?_)
        refine hdX ?_
        refine efX 3 rfl ?_
        refine rSpH_0 ?_
        (try refine wx_nil ?_)
        refine hdX ?_
        refine tkX 10 rfl (v_iaddrE (by assumption) rfl rfl rfl (by omega)) ?_
        refine tkX 11 rfl (v_faddr rfl rfl) ?_
        refine efX 12 rfl ?_
        refine wl_setFT i 4 (f := Nd.cells) (k := 7) (nd N' i) { nd N' i with r := k' } (fun _ => rfl) (by decide) hA u1 rfl rfl (by rw [Int.toNat_natCast]; omega) (nd_mem (by omega)).1 (by omega) rfl rfl rfl (fun E3 hb3 => ?_)
        (try refine wx_nil ?_)
        refine hdX ?_
        refine wh_done (by decide +kernel) ?_
        have hN4 : Inb (N'.set i { nd N' i with r := k' }) := u3.set (i := i) (n := { nd N' i with r := k' }) (by first | exact u3.ndl (by omega) | (show k' < _; omega)) (by first | exact u3.ndr (by omega) | (show k' < _; omega))
        have hl4 : (N'.set i { nd N' i with r := k' }).length = N.length := by rw [List.length_set, hn2]
        have hbb := balA_inb hN4 (i := i) (by omega)
        refine rSpH_0 ?_
        refine wl_callT (fun w' hr ho => balance_spec (g := g) (n := N.length) (k := sp'.length) (cnt := cnt) (N := N'.set i { nd N' i with r := k' }) (y := ⟨yA, yc, B2, d2, ym⟩) (E := _) hN4 (by omega) (by omega) hb3 w' ho) rfl rfl rfl ?_
        rintro E4 hb4
        rw [hl4] at hbb
        generalize balA (N'.set i { nd N' i with r := k' }) i = b at *
        obtain ⟨b1, N5⟩ := b
        dsimp only at hb4 hbb ⊢
        refine rSpH_0 ?_
        exact wq_ret1T (⟨yA, yc, B2, d2, ym⟩, E4, Es2) rfl rfl ⟨⟨by rw [hbb.2.2]; exact hb4, u2, hbb.1, fun j hj => by rw [hbb.2.2, ← hn2]; exact u4 j hj⟩, rfl, rfl, rfl, by rw [hbb.2.2]; exact hbb.2.1, hbb.2.2⟩ (show _ = [fsB g ⟨yA, yc, B2, d2, ym⟩ N.length sp'.length cnt, E4, Es2] by
          dsimp only [fsM]
          rw [hbb.2.2])
    repeat' (first | (apply wx_val; (first | exact v_move rfl | exact v_assign rfl | exact v_nil rfl | exact v_faddr rfl rfl | exact v_ldT rfl rfl rfl (by rfl) | exact v_eq rfl rfl | exact v_pickT rfl rfl | exact v_pickF rfl rfl); rfl) | refine wx_no rfl rfl rfl ?_ | refine wx_ungd rfl rfl ?_ | refine wc_seq ?_ | refine wc_region ?_ | refine wx_nil ?_ | refine wq_next ?_ | refine wc_block ?_ | refine wc_condT rfl ?_ | refine wc_if rfl (fun _ => ?_) (fun _ => ?_) | refine wx_gif rfl rfl (fun _ => ?_) (fun _ => ?_))
    · skip
      have hz : l.ix = 0 ∨ r.ix = 0 := by rename_i hx; dsimp only at hx; omega
      have eR : remA (.node i l s0 r hh ff) N sp s = (l.ix + r.ix, N, sp ++ [i]) := (if_neg hc).trans ((if_neg hc2).trans (if_pos hz))
      rw [eR]
      dsimp only
      refine wl_lit rfl rfl rfl rfl rfl (by decide) rfl (fun g14 => ?_)
      refine wl_app1T (news := natC i) rfl h2 rfl rfl rfl rfl (by omega) rfl (fun B2 d2 Es2 hb2 => ?_)
      refine rSpH_0 ?_
      have hll : (sp ++ [i]).length = sp.length + 1 := by simp
      have hb2' : SpO (sp ++ [i]) (sp ++ [i]).length B2 d2 Es2 := by
        rw [hll]
        show Buf _ _ _ _ _ _ _
        rw [List.flatMap_append]
        simpa using hb2
      refine wq_blk g (fsC ⟨yA, yc, B2, d2, ym⟩ N.length (sp.length + 1) cnt) (by rfl) ?_
      refine wq_setn ?_
      exact wq_ret1T (⟨yA, yc, B2, d2, ym⟩, E, Es2) rfl (congrArg (fun x => some (Value.int .i64 x)) (wrapN (a := l.ix) (b := r.ix) (by omega))) ⟨⟨h1, hb2', h3, fun j hj => by rcases List.mem_append.1 hj with hj | hj; exact h4 j hj; rw [List.mem_singleton.1 hj]; exact t2⟩, rfl, rfl, rfl, by omega, rfl⟩ (show _ = [fsB g ⟨yA, yc, B2, d2, ym⟩ N.length (sp.length + 1) cnt, E, Es2] by
        dsimp only [fsM]
        rw [hll])
    · skip
      have hz : l.ix = 0 ∨ r.ix = 0 := by rename_i hx; dsimp only at hx; omega
      have eR : remA (.node i l s0 r hh ff) N sp s = (l.ix + r.ix, N, sp ++ [i]) := (if_neg hc).trans ((if_neg hc2).trans (if_pos hz))
      rw [eR]
      dsimp only
      refine wl_lit rfl rfl rfl rfl rfl (by decide) rfl (fun g14 => ?_)
      refine wl_app1T (news := natC i) rfl h2 rfl rfl rfl rfl (by omega) rfl (fun B2 d2 Es2 hb2 => ?_)
      refine rSpH_0 ?_
      have hll : (sp ++ [i]).length = sp.length + 1 := by simp
      have hb2' : SpO (sp ++ [i]) (sp ++ [i]).length B2 d2 Es2 := by
        rw [hll]
        show Buf _ _ _ _ _ _ _
        rw [List.flatMap_append]
        simpa using hb2
      refine wq_blk g (fsC ⟨yA, yc, B2, d2, ym⟩ N.length (sp.length + 1) cnt) (by rfl) ?_
      refine wq_setn ?_
      exact wq_ret1T (⟨yA, yc, B2, d2, ym⟩, E, Es2) rfl (congrArg (fun x => some (Value.int .i64 x)) (wrapN (a := l.ix) (b := r.ix) (by omega))) ⟨⟨h1, hb2', h3, fun j hj => by rcases List.mem_append.1 hj with hj | hj; exact h4 j hj; rw [List.mem_singleton.1 hj]; exact t2⟩, rfl, rfl, rfl, by omega, rfl⟩ (show _ = [fsB g ⟨yA, yc, B2, d2, ym⟩ N.length (sp.length + 1) cnt, E, Es2] by
        dsimp only [fsM]
        rw [hll])
    have hl0 : l.ix ≠ 0 := by rename_i hx hy; dsimp only at hx hy; omega
    have hr0 : r.ix ≠ 0 := by rename_i hx hy; dsimp only at hx hy; omega
    refine wc_loopK (ι := Tr) [0, 1, 7] (fun u => [(9, .int .i64 (u.ix : Nat))]) (fun u => []) (fun u => At N u ∧ u ≠ .nil ∧ minT u = minT r) (fun u => u.size) (r) rfl ?_ (by repeat (first | exact trivial | refine ⟨rfl, ?_⟩)) ?_
    · exact ⟨hlr2, ix_pos hlr2 hr0, rfl⟩
    rintro u ⟨hu, hne, hmin⟩
    try dsimp only
    refine wc_fcat ?_
    refine wc_cat ?_
    cases u with
    | nil => exact absurd rfl hne
    | node i2 l2 s2 r2 hh2 ff2 =>
    obtain ⟨t21, t22, hnd2, hlr21, hlr22⟩ := hu
    have hNi2 := (nd_mem t22).1
    have hl2x := hlr21.ix_lt hp
    rw [show (Tr.node i2 l2 s2 r2 hh2 ff2).ix = i2 from rfl]
    refine rSpH_0 ?_
    (try refine wx_ungd rfl rfl ?_)
    apply wx_val
    exact v_load rfl rfl rfl (fun w' hr => h1.elemT (i := i2) hA (by decide) (fun _ => rfl) hNi2 hr (j := 3) rfl (by rw [Int.toNat_natCast]))
    rfl
    rw [hnd2]
    refine rSpH_0 ?_
    refine wc_if rfl (fun hd => ?_) (fun hd => ?_)
    · skip
      refine rSpH_0 ?_
      (try refine wx_ungd rfl rfl ?_)
      apply wx_val
      exact v_load rfl rfl rfl (fun w' hr => h1.elemT (i := i2) hA (by decide) (fun _ => rfl) hNi2 hr (j := 3) rfl (by rw [Int.toNat_natCast]))
      rfl
      rw [hnd2]
      refine rSpH_0 ?_
      refine wq_roundK (l2) ?_ ?_ (by repeat (first | exact trivial | refine ⟨rfl, ?_⟩)) (by first | exact catEq | exact rfl)
      · exact ⟨hlr21, ix_pos hlr21 (by intro e; rw [e] at hd; exact hd rfl), by rw [← hmin]; exact (if_neg (by intro e; rw [e] at hd; exact hd rfl)).symm⟩
      · simp only [Tr.size]; omega
    have hl20 : l2.ix = 0 := by dsimp only at hd; omega
    have hs2' : s2 = minT r := by rw [← hmin]; exact (if_pos hl20).symm
    refine rSpH_0 ?_
    (try refine wx_ungd rfl rfl ?_)
    apply wx_val
    exact v_loadA (cs := (minT r).cells) rfl rfl (fun w' hr j u hj => h1.elemT (i := i2) hA (by decide) (fun _ => rfl) hNi2 hr (j := j) (v := u) (by rw [hnd2, hs2']; exact sp_cell hj) (by rw [Int.toNat_natCast, Nat.add_zero]))
    rfl
    refine wl_alloc rfl rfl (fun g10 => ?_)
    refine rSpH_0 ?_
    generalize emr : minT r = mr at *
    have hmr : mr ∈ toL r := emr ▸ min_mem hlr2 (ix_pos hlr2 hr0)
    have eR : remA (.node i l s0 r hh ff) N sp s = (fun q : Nat × List Nd × List Nat => (fun N2 : List Nd => (fun b : Nat × List Nd => (b.1, b.2, q.2.2)) (balA (N2.set i { nd N2 i with s := mr }) i)) (q.2.1.set i { nd q.2.1 i with r := q.1 })) (remA r N sp mr) := by
      rw [← emr]
      exact (if_neg hc).trans ((if_neg hc2).trans (if_neg (by omega)))
    rw [eR]
    have ih := ihr (y := ⟨yA, yc, yB, yd, ym⟩) ⟨h1, h2, h3, h4⟩ hlr2 hsr' hmr hs hs2
    dsimp only
    generalize remA r N sp mr = q at *
    obtain ⟨k', N', sp'⟩ := q
    dsimp only at ih ⊢
    skip
    refine wc_meetK (ι := (Option Addr × Nat) × Seg × Seg) [0, 1, 10] (fun _ => []) (fun q => [fsB g ⟨yA, yc, q.1.1, q.1.2, ym⟩ N.length sp'.length cnt, q.2.1, q.2.2]) (M1 := [fsB g ⟨yA, yc, yB, yd, ym⟩ N.length sp.length cnt, E, Es]) (fun q => ArO (N'.set i { nd N' i with r := k' }) N.length yA yc q.2.1 ∧ SpO sp' sp'.length q.1.1 q.1.2 q.2.2 ∧ Inb N' ∧ (∀ j ∈ sp', j < N'.length) ∧ k' < N.length ∧ N'.length = N.length) rfl ?_ ?_
    · skip
      refine wc_cat ?_
      refine wc_heldN [] [[(g5, .cells s.cells.toArray 110 (0, 0))], [(g10, .cells mr.cells.toArray 110 (0, 0))], [(g7, .cells (Nd.cells ⟨s0, l.ix, r.ix, hh, ff⟩).toArray 148 (0, 0))]] (fun hQd => ?_)
      refine tkX 0 rfl (v_move rfl) ?_
      refine tkX 1 rfl (v_nil rfl) ?_
      refine tkX 2 rfl (v_faddr rfl rfl) ?_
      refine tkX 4 rfl (v_move rfl) ?_
      refine tkX 5 rfl (v_move rfl) ?_
      refine tkX 6 rfl (v_faddr rfl rfl) ?_
      refine tkX 7 rfl (v_ldT rfl rfl rfl (by rfl)) ?_
      refine tkX 8 rfl (v_ldAT rfl (by rfl)) ?_
      refine wh_eff2 3 9 rfl rfl (by decide +kernel) ?_ ?_
      · refine rSpH_0 ?_
        (try refine wx_nil ?_)
        refine hdX ?_
        refine efX 9 rfl ?_
        refine wl_callT (fun w' hr ho => ih w' ho) rfl rfl rfl ?_
        rintro ⟨⟨A2, c2, B2, d2, m2⟩, E2, Es2⟩ ⟨⟨u1, u2, u3, u4⟩, hm2, hA2, hc2, hi2, hn2⟩
        dsimp only at u1 u2 hm2 hA2 hc2 ⊢
        have hm2 := hm2.symm
        have hA2 := hA2.symm
        have hc2 := hc2.symm
        subst hm2 hA2 hc2
        rw [hn2] at u1 hi2
        rw [show fsM g ⟨yA, yc, B2, d2, ym⟩ N' sp' cnt E2 Es2 = [fsB g ⟨yA, yc, B2, d2, ym⟩ N.length sp'.length cnt, E2, Es2] by simp only [fsM, hn2]]
        refine wx_cat ?_
        (try refine wx_nil ?_)
        refine hdX ?_
        refine tkX 10 rfl (v_iaddrE (by assumption) rfl rfl rfl (by omega)) ?_
        refine tkX 11 rfl (v_faddr rfl rfl) ?_
        refine efX 12 rfl ?_
        refine wl_setFT i 4 (f := Nd.cells) (k := 7) (nd N' i) { nd N' i with r := k' } (fun _ => rfl) (by decide) hA u1 rfl rfl (by rw [Int.toNat_natCast]; omega) (nd_mem (by omega)).1 (by omega) rfl rfl rfl (fun E3 hb3 => ?_)
        (try refine wx_nil ?_)
        refine hdX ?_
        refine wh_done (by decide +kernel) ?_
        refine wq_cutK (((B2, d2), E3, Es2)) ?_ (by repeat (first | exact trivial | refine ⟨rfl, ?_⟩)) (by first | exact catEq | exact rfl)
        exact ⟨hb3, u2, u3, u4, hi2, hn2⟩
      · refine wl_callT (fun w' hr ho => ih w' ho) rfl rfl rfl ?_
        rintro ⟨⟨A2, c2, B2, d2, m2⟩, E2, Es2⟩ ⟨⟨u1, u2, u3, u4⟩, hm2, hA2, hc2, hi2, hn2⟩
        dsimp only at u1 u2 hm2 hA2 hc2 ⊢
        have hm2 := hm2.symm
        have hA2 := hA2.symm
        have hc2 := hc2.symm
        subst hm2 hA2 hc2
        rw [hn2] at u1 hi2
        rw [show fsM g ⟨yA, yc, B2, d2, ym⟩ N' sp' cnt E2 Es2 = [fsB g ⟨yA, yc, B2, d2, ym⟩ N.length sp'.length cnt, E2, Es2] by simp only [fsM, hn2]]
        refine wx_cat ?_
        (try refine wx_nil ?_)
        refine hdX ?_
        refine efX 3 rfl ?_
        refine rSpH_0 ?_
        (try refine wx_nil ?_)
        refine hdX ?_
        refine tkX 10 rfl (v_iaddrE (by assumption) rfl rfl rfl (by omega)) ?_
        refine tkX 11 rfl (v_faddr rfl rfl) ?_
        refine efX 12 rfl ?_
        refine wl_setFT i 4 (f := Nd.cells) (k := 7) (nd N' i) { nd N' i with r := k' } (fun _ => rfl) (by decide) hA u1 rfl rfl (by rw [Int.toNat_natCast]; omega) (nd_mem (by omega)).1 (by omega) rfl rfl rfl (fun E3 hb3 => ?_)
        (try refine wx_nil ?_)
        refine hdX ?_
        refine wh_done (by decide +kernel) ?_
        refine wq_cutK (((B2, d2), E3, Es2)) ?_ (by repeat (first | exact trivial | refine ⟨rfl, ?_⟩)) (by first | exact catEq | exact rfl)
        exact ⟨hb3, u2, u3, u4, hi2, hn2⟩
    rintro ⟨⟨B2, d2⟩, E3, Es2⟩ ⟨hb3, u2, u3, u4, hi2, hn2⟩
    try dsimp only
    refine wc_fcat ?_
    refine wc_cat ?_
    have hN4 : Inb (N'.set i { nd N' i with r := k' }) := u3.set (i := i) (n := { nd N' i with r := k' }) (by first | exact u3.ndl (by omega) | (show k' < _; omega)) (by first | exact u3.ndr (by omega) | (show k' < _; omega))
    have hl4 : (N'.set i { nd N' i with r := k' }).length = N.length := by rw [List.length_set, hn2]
    generalize N'.set i { nd N' i with r := k' } = N2 at *
    refine wc_heldN [] [[(g10, .cells mr.cells.toArray 110 (0, 0))], fsB g ⟨yA, yc, B2, d2, ym⟩ N.length sp'.length cnt] (fun hQd => ?_)
    refine tkX 0 rfl (v_move rfl) ?_
    refine tkX 1 rfl (v_nil rfl) ?_
    refine tkX 2 rfl (v_faddr rfl rfl) ?_
    refine tkX 3 rfl (v_ldT rfl rfl rfl (by rfl)) ?_
    refine tkX 4 rfl (v_move rfl) ?_
    refine tkX 5 rfl (v_ldAT rfl (by rfl)) ?_
    refine tkX 6 rfl (v_iaddrE (by assumption) rfl rfl rfl (by omega)) ?_
    refine tkX 7 rfl (v_faddr rfl rfl) ?_
    refine efX 8 rfl ?_
    refine wl_setGT i 0 (f := Nd.cells) (k := 7) (nd N2 i) { nd N2 i with s := mr } mr.cells (fun _ => rfl) (show 0 + 3 ≤ 7 by decide) hA hb3 rfl rfl (by rw [Int.toNat_natCast]; omega) (nd_mem (by omega)).1 (by omega) rfl rfl rfl (fun E4 hb4 => ?_)
    (try refine wx_nil ?_)
    refine hdX ?_
    refine wh_done (by decide +kernel) ?_
    have hN5 : Inb (N2.set i { nd N2 i with s := mr }) := hN4.set (i := i) (n := { nd N2 i with s := mr }) (hN4.ndl (by omega)) (hN4.ndr (by omega))
    have hl5 : (N2.set i { nd N2 i with s := mr }).length = N.length := by rw [List.length_set, hl4]
    clear hb3 hN4 hl4
    have hb3 := hb4
    have hN4 := hN5
    have hl4 := hl5
    have hbb := balA_inb hN4 (i := i) (by omega)
    refine rSpH_0 ?_
    refine wl_callT (fun w' hr ho => balance_spec (g := g) (n := N.length) (k := sp'.length) (cnt := cnt) (N := N2.set i { nd N2 i with s := mr }) (y := ⟨yA, yc, B2, d2, ym⟩) (E := _) hN4 (by omega) (by omega) hb3 w' ho) rfl rfl rfl ?_
    rintro E4 hb4
    rw [hl4] at hbb
    generalize balA (N2.set i { nd N2 i with s := mr }) i = b at *
    obtain ⟨b1, N5⟩ := b
    dsimp only at hb4 hbb ⊢
    refine rSpH_0 ?_
    exact wq_ret1T (⟨yA, yc, B2, d2, ym⟩, E4, Es2) rfl rfl ⟨⟨by rw [hbb.2.2]; exact hb4, u2, hbb.1, fun j hj => by rw [hbb.2.2, ← hn2]; exact u4 j hj⟩, rfl, rfl, rfl, by rw [hbb.2.2]; exact hbb.2.1, hbb.2.2⟩ (show _ = [fsB g ⟨yA, yc, B2, d2, ym⟩ N.length sp'.length cnt, E4, Es2] by
      dsimp only [fsM]
      rw [hbb.2.2])
end fs
end Go.Proofs.Ytlioccfedophhaa
/- What mending, inserting and removing do to a balanced tree: the plain law. -/
set_option linter.unusedVariables false
set_option linter.unusedSimpArgs false
namespace Go.Proofs.Ytlioccfedophhaa
open Go
set_option maxRecDepth 20000
set_option maxHeartbeats 2000000
def Tr.ids : Tr → List Nat
  | .nil => []
  | .node i l _ r _ _ => i :: (l.ids ++ r.ids)
def Tr.hh : Tr → Int
  | .nil => 0
  | .node _ _ _ _ h _ => h
def Tr.ff : Tr → Int
  | .nil => 0
  | .node _ _ _ _ _ f => f
theorem hh_node {i : Nat} {l r : Tr} {s : Sp} {h f : Int} : (Tr.node i l s r h f).hh = h := rfl
theorem hh_nil : Tr.nil.hh = 0 := rfl
def Far (t : Tr) : Prop := ∀ x ∈ toL t, x.b ≤ t.ff
/-- heights are right, no node leans by more than one, no end is greater than what is noted -/
def Avl : Tr → Prop
  | .nil => True
  | .node i l s r h f => Avl l ∧ Avl r ∧ h = 1 + maxI l.hh r.hh ∧ (-1 ≤ l.hh - r.hh ∧ l.hh - r.hh ≤ 1) ∧ Far (.node i l s r h f)
theorem maxI_c (a b : Int) : (maxI a b = a ∧ b ≤ a) ∨ (maxI a b = b ∧ a ≤ b) := by
  unfold maxI
  by_cases h : a < b
  · rw [if_pos h]; omega
  · rw [if_neg h]; omega
theorem Avl.pos : ∀ {t : Tr}, Avl t → 0 ≤ t.hh ∧ t.hh ≤ (t.size : Nat) ∧ (t.hh = 0 → t = .nil)
  | .nil, _ => ⟨by simp [Tr.hh], by simp [Tr.hh, Tr.size], fun _ => rfl⟩
  | .node i l s r h f, ha => by
    obtain ⟨h1, h2, h3, h4, h5⟩ := ha
    have i1 := h1.pos
    have i2 := h2.pos
    have := maxI_c l.hh r.hh
    have e1 : (Tr.node i l s r h f).hh = h := rfl
    have e2 : (Tr.node i l s r h f).size = l.size + r.size + 1 := rfl
    rw [e1, e2]
    exact ⟨by omega, by omega, fun e => absurd e (by omega)⟩
theorem Avl.far {t : Tr} (h : Avl t) : Far t := by
  cases t with
  | nil => intro x hx; cases hx
  | node i l s r hh f => exact h.2.2.2.2
theorem At.lt : ∀ {N : List Nd} {t : Tr}, At N t → ∀ j ∈ t.ids, 0 < j ∧ j < N.length
  | N, .nil, _, j, hj => by cases hj
  | N, .node i l s r h f, ha, j, hj => by
    obtain ⟨h1, h2, h3, h4, h5⟩ := ha
    rcases List.mem_cons.1 hj with rfl | hj
    · exact ⟨h1, h2⟩
    · rcases List.mem_append.1 hj with hj | hj
      · exact h4.lt j hj
      · exact h5.lt j hj
theorem At.congr : ∀ {N N' : List Nd} {t : Tr}, At N t → N.length ≤ N'.length → (∀ j ∈ t.ids, nd N' j = nd N j) → At N' t
  | N, N', .nil, _, _, _ => trivial
  | N, N', .node i l s r h f, ha, hn, hj => by
    obtain ⟨h1, h2, h3, h4, h5⟩ := ha
    exact ⟨h1, by omega, by rw [hj i (List.mem_cons_self ..)]; exact h3, h4.congr hn fun j hm => hj j (List.mem_cons_of_mem _ (List.mem_append.2 (.inl hm))), h5.congr hn fun j hm => hj j (List.mem_cons_of_mem _ (List.mem_append.2 (.inr hm)))⟩
theorem At.top {N : List Nd} {t : Tr} (h : At N t) (hz : nd N 0 = Nd.zero) : (nd N t.ix).h = t.hh ∧ (nd N t.ix).f = t.ff := by
  cases t with
  | nil => 
    show (nd N 0).h = 0 ∧ (nd N 0).f = 0
    rw [hz]
    exact ⟨rfl, rfl⟩
  | node i l s r hh f =>
    show (nd N i).h = hh ∧ (nd N i).f = f
    rw [h.2.2.1]
    exact ⟨rfl, rfl⟩
theorem ix_mem {t : Tr} (h : t ≠ .nil) : t.ix ∈ t.ids := by
  cases t with
  | nil => exact absurd rfl h
  | node i l s r hh f => exact List.mem_cons_self ..
theorem ids_size : ∀ t : Tr, t.ids.length = t.size
  | .nil => rfl
  | .node i l s r h f => by
    have := ids_size l
    have := ids_size r
    simp only [Tr.ids, Tr.size, List.length_cons, List.length_append]
    omega
theorem toL_size : ∀ t : Tr, (toL t).length = t.size
  | .nil => rfl
  | .node i l s r h f => by
    have := toL_size l
    have := toL_size r
    simp only [toL, Tr.size, List.length_cons, List.length_append]
    omega
/-- node i is to be mended over two trees -/
structure Sg (N : List Nd) (i : Nat) (l : Tr) (s : Sp) (r : Tr) : Prop where
  z : nd N 0 = Nd.zero
  i0 : 0 < i
  il : i < N.length
  es : (nd N i).s = s
  el : (nd N i).l = l.ix
  er : (nd N i).r = r.ix
  al : At N l
  ar : At N r
  nodup : (i :: (l.ids ++ r.ids)).Nodup
theorem Sg.nl {N : List Nd} {i : Nat} {l r : Tr} {s : Sp} (h : Sg N i l s r) : i ∉ l.ids := fun hm => (List.nodup_cons.1 h.nodup).1 (List.mem_append.2 (.inl hm))
theorem Sg.nr {N : List Nd} {i : Nat} {l r : Tr} {s : Sp} (h : Sg N i l s r) : i ∉ r.ids := fun hm => (List.nodup_cons.1 h.nodup).1 (List.mem_append.2 (.inr hm))
theorem w64_in {x : Int} (h : -1152921504606846976 ≤ x ∧ x ≤ 1152921504606846976) : w64 x = x := by
  unfold w64
  rw [wrap_in (by omega)]
theorem far_le {N : List Nd} {i : Nat} {l r : Tr} {s : Sp} (h : Sg N i l s r) : (∀ x ∈ toL l, x.b ≤ l.ff) → (∀ x ∈ toL r, x.b ≤ r.ff) → ∀ x ∈ toL l ++ s :: toL r, x.b ≤ farA N (nd N i) := by
  intro h1 h2 x hx
  have e1 := h.al.top h.z
  have e2 := h.ar.top h.z
  have hl : l.ix = 0 → toL l = [] := fun e => by rw [ix_zero h.al e]; rfl
  have hr : r.ix = 0 → toL r = [] := fun e => by rw [ix_zero h.ar e]; rfl
  unfold farA
  dsimp only
  rw [h.es, h.el, h.er, e1.2, e2.2]
  have m1 := maxI_c s.b l.ff
  have m2 := maxI_c s.b r.ff
  have m3 := maxI_c (maxI s.b l.ff) r.ff
  rcases List.mem_append.1 hx with hx | hx
  · have := h1 x hx
    have hn : l.ix ≠ 0 := fun e => by rw [hl e] at hx; cases hx
    by_cases hr0 : r.ix = 0
    · simp [hn, hr0]; omega
    · simp [hn, hr0]; omega
  · rcases List.mem_cons.1 hx with rfl | hx
    · by_cases hl0 : l.ix = 0 <;> by_cases hr0 : r.ix = 0 <;> simp [hl0, hr0] <;> omega
    · have := h2 x hx
      have hn : r.ix ≠ 0 := fun e => by rw [hr e] at hx; cases hx
      by_cases hl0 : l.ix = 0
      · simp [hn, hl0]; omega
      · simp [hn, hl0]; omega
theorem fix_law {N : List Nd} {i : Nat} {l r : Tr} {s : Sp} (h : Sg N i l s r) (hb : 0 ≤ l.hh ∧ l.hh ≤ 1000000000000000 ∧ 0 ≤ r.hh ∧ r.hh ≤ 1000000000000000) :
    ∃ f, At (fixA N i) (.node i l s r (1 + maxI l.hh r.hh) f) ∧ (Far l → Far r → Far (.node i l s r (1 + maxI l.hh r.hh) f)) ∧ (∀ j, j ≠ i → nd (fixA N i) j = nd N j) := by
  have hj : ∀ j, j ≠ i → nd (fixA N i) j = nd N j := fun j hne => nd_set_other (fun e => hne e.symm)
  have e1 := h.al.top h.z
  have e2 := h.ar.top h.z
  have m := maxI_c l.hh r.hh
  refine ⟨farA N (nd N i), ⟨h.i0, by rw [fixA_len]; exact h.il, ?_, h.al.congr (by rw [fixA_len]; exact Nat.le_refl _) fun j hm => hj j (fun e => h.nl (e ▸ hm)), h.ar.congr (by rw [fixA_len]; exact Nat.le_refl _) fun j hm => hj j (fun e => h.nr (e ▸ hm))⟩, fun h1 h2 => far_le h h1 h2, hj⟩
  unfold fixA
  rw [nd_set_same h.il]
  rw [h.el, h.er, e1.1, e2.1, w64_in (by omega), ← h.es, ← h.el, ← h.er]
abbrev Sm (t : Tr) : Prop := 0 ≤ t.hh ∧ t.hh ≤ 999999999999990
theorem turn_left {N : List Nd} {i k : Nat} {a b r : Tr} {s u : Sp} {hk fk : Int} (h : Sg N i (.node k a u b hk fk) s r) (h1 : Sm a) (h2 : Sm b) (h3 : Sm r) :
    ∃ f1 f2, (turnA N i true).1 = k ∧ At (turnA N i true).2 (.node k a u (.node i b s r (1 + maxI b.hh r.hh) f1) (1 + maxI a.hh (1 + maxI b.hh r.hh)) f2) ∧
      (Far a → Far b → Far r → Far (.node i b s r (1 + maxI b.hh r.hh) f1) ∧ Far (.node k a u (.node i b s r (1 + maxI b.hh r.hh) f1) (1 + maxI a.hh (1 + maxI b.hh r.hh)) f2)) ∧ (∀ j, j ≠ i → j ≠ k → nd (turnA N i true).2 j = nd N j) := by
  obtain ⟨z, i0, il, es, el, er, ⟨k0, kl, kn, aa, ab⟩, ar, nodup⟩ := h
  have el : (nd N i).l = k := el
  have nodup : (i :: (k :: (a.ids ++ b.ids) ++ r.ids)).Nodup := nodup
  have hik : i ≠ k := fun e => (List.nodup_cons.1 nodup).1 (by simp [e])
  simp only [List.cons_append, List.nodup_cons, List.mem_cons, List.mem_append, List.append_assoc, not_or, List.nodup_append] at nodup
  obtain ⟨⟨_, n1, n2, n3⟩, ⟨n4, n5, n6⟩, n7, ⟨n8, n9, n10⟩, n11⟩ := nodup
  have er1 : (turnA N i true).1 = k := el
  have er2 : (turnA N i true).2 = fixA (fixA ((N.set i { nd N i with l := b.ix }).set k ⟨u, a.ix, i, hk, fk⟩) i) k := by
    unfold turnA
    rw [if_pos rfl]
    dsimp only
    rw [el, nd_set_other hik, kn]
  generalize hN2 : (N.set i { nd N i with l := b.ix }).set k ⟨u, a.ix, i, hk, fk⟩ = N2 at *
  have hlen : N2.length = N.length := by rw [← hN2]; simp
  have q : ∀ j, j ≠ i → j ≠ k → nd N2 j = nd N j := fun j hi hk' => by rw [← hN2, nd_set_other (fun e => hk' e.symm), nd_set_other (fun e => hi e.symm)]
  have qk : nd N2 k = ⟨u, a.ix, i, hk, fk⟩ := by rw [← hN2, nd_set_same (by simpa using kl)]
  have qi : nd N2 i = { nd N i with l := b.ix } := by rw [← hN2, nd_set_other (fun e => hik e.symm), nd_set_same il]
  have A : Sg N2 i b s r := ⟨by rw [q 0 (by omega) (by omega)]; exact z, i0, by omega, by rw [qi]; exact es, by rw [qi], by rw [qi]; exact er,
    ab.congr (by omega) fun j hm => q j (fun e => n2 (e ▸ hm)) (fun e => n5 (e ▸ hm)), ar.congr (by omega) fun j hm => q j (fun e => n3 (e ▸ hm)) (fun e => n6 (e ▸ hm)), by
      simp only [List.nodup_cons, List.mem_append, not_or, List.nodup_append]
      exact ⟨⟨n2, n3⟩, n8, n9, n10⟩⟩
  obtain ⟨f1, g1, g2, g3⟩ := fix_law A (by omega)
  have m1 := maxI_c b.hh r.hh
  generalize hN3 : fixA N2 i = N3 at *
  have hlen3 : N3.length = N2.length := by rw [← hN3, fixA_len]
  have B : Sg N3 k a u (.node i b s r (1 + maxI b.hh r.hh) f1) := ⟨by rw [g3 0 (by omega)]; exact A.z, k0, by omega, by rw [g3 k (fun e => hik e.symm), qk], by rw [g3 k (fun e => hik e.symm), qk], by rw [g3 k (fun e => hik e.symm), qk]; rfl,
    aa.congr (by omega) fun j hm => by rw [g3 j (fun e => n1 (e ▸ hm)), q j (fun e => n1 (e ▸ hm)) (fun e => n4 (e ▸ hm))], g1, by
      simp only [Tr.ids, List.nodup_cons, List.mem_append, List.mem_cons, not_or, List.nodup_append]
      refine ⟨⟨n4, fun e => hik e.symm, n5, n6⟩, n7, ⟨⟨n2, n3⟩, n8, n9, n10⟩, ?_⟩
      rintro x hx y (rfl | hy)
      · exact fun e => n1 (e ▸ hx)
      · exact n11 x hx y hy⟩
  obtain ⟨f2, g4, g5, g6⟩ := fix_law B (by show _ ∧ _ ∧ (0 : Int) ≤ 1 + maxI b.hh r.hh ∧ 1 + maxI b.hh r.hh ≤ 1000000000000000; omega)
  rw [er2]
  exact ⟨f1, f2, er1, g4, fun x y z => ⟨g2 y z, g5 x (g2 y z)⟩, fun j hi hk' => by rw [g6 j hk', g3 j hi, q j hi hk']⟩
theorem turn_right {N : List Nd} {i k : Nat} {a b l : Tr} {s u : Sp} {hk fk : Int} (h : Sg N i l s (.node k a u b hk fk)) (h1 : Sm a) (h2 : Sm b) (h3 : Sm l) :
    ∃ f1 f2, (turnA N i false).1 = k ∧ At (turnA N i false).2 (.node k (.node i l s a (1 + maxI l.hh a.hh) f1) u b (1 + maxI (1 + maxI l.hh a.hh) b.hh) f2) ∧
      (Far a → Far b → Far l → Far (.node i l s a (1 + maxI l.hh a.hh) f1) ∧ Far (.node k (.node i l s a (1 + maxI l.hh a.hh) f1) u b (1 + maxI (1 + maxI l.hh a.hh) b.hh) f2)) ∧ (∀ j, j ≠ i → j ≠ k → nd (turnA N i false).2 j = nd N j) := by
  obtain ⟨z, i0, il, es, el, er, al, ⟨k0, kl, kn, aa, ab⟩, nodup⟩ := h
  have er : (nd N i).r = k := er
  have nodup : (i :: (l.ids ++ k :: (a.ids ++ b.ids))).Nodup := nodup
  have hik : i ≠ k := fun e => (List.nodup_cons.1 nodup).1 (by simp [e])
  simp only [List.nodup_cons, List.mem_cons, List.mem_append, not_or, List.nodup_append] at nodup
  obtain ⟨⟨n3, _, n1, n2⟩, n8, ⟨⟨n4, n5⟩, n7, n9, n11⟩, n10⟩ := nodup
  have er1 : (turnA N i false).1 = k := er
  have er2 : (turnA N i false).2 = fixA (fixA ((N.set i { nd N i with r := a.ix }).set k ⟨u, i, b.ix, hk, fk⟩) i) k := by
    unfold turnA
    rw [if_neg (by decide)]
    dsimp only
    rw [er, nd_set_other hik, kn]
  generalize hN2 : (N.set i { nd N i with r := a.ix }).set k ⟨u, i, b.ix, hk, fk⟩ = N2 at *
  have hlen : N2.length = N.length := by rw [← hN2]; simp
  have q : ∀ j, j ≠ i → j ≠ k → nd N2 j = nd N j := fun j hi hk' => by rw [← hN2, nd_set_other (fun e => hk' e.symm), nd_set_other (fun e => hi e.symm)]
  have qk : nd N2 k = ⟨u, i, b.ix, hk, fk⟩ := by rw [← hN2, nd_set_same (by simpa using kl)]
  have qi : nd N2 i = { nd N i with r := a.ix } := by rw [← hN2, nd_set_other (fun e => hik e.symm), nd_set_same il]
  have A : Sg N2 i l s a := ⟨by rw [q 0 (by omega) (by omega)]; exact z, i0, by omega, by rw [qi]; exact es, by rw [qi]; exact el, by rw [qi],
    al.congr (by omega) fun j hm => q j (fun e => n3 (e ▸ hm)) (fun e => n10 j hm k (by simp) e), aa.congr (by omega) fun j hm => q j (fun e => n1 (e ▸ hm)) (fun e => n4 (e ▸ hm)), by
      simp only [List.nodup_cons, List.mem_append, not_or, List.nodup_append]
      exact ⟨⟨n3, n1⟩, n8, n7, fun x hx y hy => n10 x hx y (.inr (.inl hy))⟩⟩
  obtain ⟨f1, g1, g2, g3⟩ := fix_law A (by omega)
  have m1 := maxI_c l.hh a.hh
  generalize hN3 : fixA N2 i = N3 at *
  have hlen3 : N3.length = N2.length := by rw [← hN3, fixA_len]
  have B : Sg N3 k (.node i l s a (1 + maxI l.hh a.hh) f1) u b := ⟨by rw [g3 0 (by omega)]; exact A.z, k0, by omega, by rw [g3 k (fun e => hik e.symm), qk], by rw [g3 k (fun e => hik e.symm), qk]; rfl, by rw [g3 k (fun e => hik e.symm), qk], g1,
    ab.congr (by omega) fun j hm => by rw [g3 j (fun e => n2 (e ▸ hm)), q j (fun e => n2 (e ▸ hm)) (fun e => n5 (e ▸ hm))], by
      simp only [Tr.ids, List.nodup_cons, List.mem_append, List.mem_cons, not_or, List.nodup_append]
      refine ⟨⟨⟨fun e => hik e.symm, fun hm => n10 k hm k (by simp) rfl, n4⟩, n5⟩, ⟨⟨n3, n1⟩, n8, n7, fun x hx y hy => n10 x hx y (.inr (.inl hy))⟩, n9, ?_⟩
      rintro x (rfl | hx | hx) y hy
      · exact fun e => n2 (e ▸ hy)
      · exact n10 x hx y (.inr (.inr hy))
      · exact n11 x hx y hy⟩
  obtain ⟨f2, g4, g5, g6⟩ := fix_law B (by show (0 : Int) ≤ 1 + maxI l.hh a.hh ∧ 1 + maxI l.hh a.hh ≤ 1000000000000000 ∧ _ ∧ _; omega)
  rw [er2]
  exact ⟨f1, f2, er1, g4, fun x y z => ⟨g2 z x, g5 (g2 z x) y⟩, fun j hi hk' => by rw [g6 j hk', g3 j hi, q j hi hk']⟩
theorem At.sg {N : List Nd} {i : Nat} {l r : Tr} {s : Sp} {h f : Int} (ha : At N (.node i l s r h f)) (hz : nd N 0 = Nd.zero) (hn : (Tr.node i l s r h f).ids.Nodup) : Sg N i l s r := by
  obtain ⟨h1, h2, h3, h4, h5⟩ := ha
  exact ⟨hz, h1, h2, by rw [h3], by rw [h3], by rw [h3], h4, h5, hn⟩
theorem Sg.lean {N : List Nd} {i : Nat} {l r : Tr} {s : Sp} (h : Sg N i l s r) (h1 : Sm l) (h2 : Sm r) : leanA N i = l.hh - r.hh := by
  unfold leanA
  rw [h.el, h.er, (h.al.top h.z).1, (h.ar.top h.z).1, w64_in (by omega)]
theorem maxI_ge (a b : Int) : a ≤ maxI a b ∧ b ≤ maxI a b := by have := maxI_c a b; omega
theorem maxI_l {a b : Int} (h : b ≤ a) : maxI a b = a := by have := maxI_c a b; omega
theorem maxI_r {a b : Int} (h : a ≤ b) : maxI a b = b := by have := maxI_c a b; omega
theorem permC {a b : List Nat} (h : ∀ x, a.count x = b.count x) : a.Perm b := List.perm_iff_count.2 h
theorem bal_law {N : List Nd} {i : Nat} {l r : Tr} {s : Sp} (h : Sg N i l s r) (hl : Avl l) (hr : Avl r) (hd : -2 ≤ l.hh - r.hh ∧ l.hh - r.hh ≤ 2) (b1 : l.hh ≤ 999999999990 ∧ r.hh ≤ 999999999990) :
    ∃ t', (balA N i).1 = t'.ix ∧ At (balA N i).2 t' ∧ toL t' = toL l ++ s :: toL r ∧ t'.ids.Perm (i :: (l.ids ++ r.ids)) ∧ Avl t' ∧
      (t'.hh = 1 + maxI l.hh r.hh ∨ (t'.hh = maxI l.hh r.hh ∧ (l.hh - r.hh = 2 ∨ l.hh - r.hh = -2))) ∧ (∀ j, j ∉ i :: (l.ids ++ r.ids) → nd (balA N i).2 j = nd N j) := by
  have pl := hl.pos
  have pr := hr.pos
  obtain ⟨f, g1, g2, g3⟩ := fix_law h (by omega)
  have g2 := g2 hl.far hr.far
  unfold balA
  dsimp only
  generalize fixA N i = N1 at *
  have i0 := h.i0
  have z1 : nd N1 0 = Nd.zero := by rw [g3 0 (by omega)]; exact h.z
  have S1 := g1.sg z1 h.nodup
  have le := S1.lean (by omega) (by omega)
  rw [le, S1.el, S1.er]
  by_cases c1 : l.hh - r.hh = 2
  · rw [if_pos c1]
    cases l with
    | nil => exact absurd c1 (by rw [hh_nil]; omega)
    | node k a u b hk fk =>
      obtain ⟨va, vb, vh, vd, vf⟩ := hl
      have pa := va.pos
      have pb := vb.pos
      have m1 := maxI_ge a.hh b.hh
      simp only [hh_node] at c1 pl b1 hd le ⊢
      have nk : (Tr.node k a u b hk fk).ids.Nodup := (List.nodup_append.1 (List.nodup_cons.1 S1.nodup).2).1
      have S2 := S1.al.sg z1 nk
      have le2 := S2.lean (by omega) (by omega)
      show ∃ t', (turnA (if leanA N1 k < 0 then _ else _) i true).1 = _ ∧ _
      simp only [show (Tr.node k a u b hk fk).ix = k from rfl] at *
      rw [le2]
      by_cases c2 : a.hh - b.hh < 0
      · rw [if_pos c2]
        cases b with
        | nil => exact absurd c2 (by rw [hh_nil]; omega)
        | node m c v d hm fm =>
          obtain ⟨wc, wd, wh, wd2, wf⟩ := vb
          have pc := wc.pos
          have pd := wd.pos
          simp only [hh_node] at c2 pb vd vh le2 m1
          have e1 : hm = a.hh + 1 := by omega
          have e2 : hk = a.hh + 2 := by rw [maxI_r (by omega)] at vh; omega
          have e3 : r.hh = a.hh := by omega
          have e4 : c.hh ≤ a.hh ∧ d.hh ≤ a.hh ∧ a.hh - 1 ≤ c.hh ∧ a.hh - 1 ≤ d.hh := by have := maxI_c c.hh d.hh; clear m1 vh; omega
          have e5 : maxI a.hh c.hh = a.hh := maxI_l e4.1
          have e6 : maxI d.hh r.hh = a.hh := by rw [maxI_r (by omega)]; exact e3
          have e7 : maxI (1 + maxI a.hh c.hh) (1 + maxI d.hh r.hh) = 1 + a.hh := by rw [e5, e6, maxI_l (by omega)]
          have e8 : maxI hk r.hh = a.hh + 2 := by rw [maxI_l (by omega)]; exact e2
          clear m1 vh wh
          obtain ⟨f1, f2, t1, t2, t3, t4⟩ := turn_right S2 (by omega) (by omega) (by omega)
          have t3 := t3 wc.far wd.far va.far
          rw [t1]
          have nlen := turnA_len N1 k false
          have nn := S1.nodup
          generalize (turnA N1 k false).2 = N2 at *
          have pm : (Tr.node m (.node k a u c (1 + maxI a.hh c.hh) f1) v d (1 + maxI (1 + maxI a.hh c.hh) d.hh) f2).ids.Perm (Tr.node k a u (.node m c v d hm fm) hk fk).ids := by
            exact permC fun x => by
              simp only [Tr.ids, List.count_cons, List.count_append, Nat.add_assoc, Nat.add_comm, Nat.add_left_comm]
          have hik : i ≠ k := fun e => h.nl (by rw [e]; exact List.mem_cons_self ..)
          have him : i ≠ m := fun e => h.nl (by rw [e]; simp [Tr.ids])
          have hrj : ∀ j ∈ r.ids, j ≠ k ∧ j ≠ m := fun j hj => by
            have := (List.nodup_append.1 (List.nodup_cons.1 nn).2).2.2
            exact ⟨fun e => this k (by simp [Tr.ids]) j hj e.symm, fun e => this m (by simp [Tr.ids]) j hj e.symm⟩
          have k0 := S2.i0
          have m0 := (t2.lt m (by simp [Tr.ids])).1
          have qi : nd (N2.set i { nd N2 i with l := m }) i = { nd N2 i with l := m } := nd_set_same (by rw [nlen]; exact S1.il)
          have qn : nd N2 i = nd N1 i := t4 i hik him
          have qj : ∀ j, j ≠ i → nd (N2.set i { nd N2 i with l := m }) j = nd N2 j := fun j e => nd_set_other (fun e2 => e e2.symm)
          have hN3 : (N2.set i { nd N2 i with l := m }).length = N2.length := by simp
          generalize N2.set i { nd N2 i with l := m } = N3 at *
          have S3 : Sg N3 i (.node m (.node k a u c (1 + maxI a.hh c.hh) f1) v d (1 + maxI (1 + maxI a.hh c.hh) d.hh) f2) s r := by
            refine ⟨by rw [qj 0 (by omega), t4 0 (by omega) (by omega)]; exact z1, S1.i0, by have := S1.il; omega, by rw [qi, qn]; exact S1.es, by rw [qi]; rfl, by rw [qi, qn]; exact S1.er, t2.congr (by omega) fun j hj => qj j (fun e => h.nl (e ▸ pm.mem_iff.1 hj)), S1.ar.congr (by omega) fun j hj => by rw [qj j (fun e => h.nr (e ▸ hj)), t4 j (hrj j hj).1 (hrj j hj).2], ?_⟩
            exact ((pm.append_right r.ids).cons i).nodup_iff.2 nn
          obtain ⟨f3, f4, t5, t6, t7, t8⟩ := turn_left S3 (show Sm _ by show (0 : Int) ≤ 1 + maxI a.hh c.hh ∧ 1 + maxI a.hh c.hh ≤ _; omega) (by omega) (by omega)
          have t7 := t7 t3.1 wd.far hr.far
          refine ⟨.node m (.node k a u c (1 + maxI a.hh c.hh) f1) v (.node i d s r (1 + maxI d.hh r.hh) f3) (1 + maxI (1 + maxI a.hh c.hh) (1 + maxI d.hh r.hh)) f4, t5, t6, ?_, ?_, ⟨⟨va, wc, rfl, by omega, t3.1⟩, ⟨wd, hr, rfl, by omega, t7.1⟩, rfl, ?_, t7.2⟩, ?_, ?_⟩
          · simp [toL]
          · exact permC fun x => by
              simp only [Tr.ids, List.count_cons, List.count_append, Nat.add_assoc, Nat.add_comm, Nat.add_left_comm]
          · show -1 ≤ (1 + maxI a.hh c.hh) - (1 + maxI d.hh r.hh) ∧ (1 + maxI a.hh c.hh) - (1 + maxI d.hh r.hh) ≤ 1
            omega
          · show 1 + maxI (1 + maxI a.hh c.hh) (1 + maxI d.hh r.hh) = _ ∨ 1 + maxI (1 + maxI a.hh c.hh) (1 + maxI d.hh r.hh) = _ ∧ _
            omega
          · intro j hj
            simp only [Tr.ids, List.mem_cons, List.mem_append, not_or] at hj
            rw [t8 j hj.1 hj.2.1.2.2.1, qj j hj.1, t4 j hj.2.1.1 hj.2.1.2.2.1, g3 j hj.1]
      · rw [if_neg c2]
        obtain ⟨f1, f2, t1, t2, t3, t4⟩ := turn_left S1 (by omega) (by omega) (by omega)
        have t3 := t3 va.far vb.far hr.far
        have e1 : hk = 1 + a.hh := by rw [maxI_l (by omega)] at vh; exact vh
        have e2 : maxI b.hh r.hh = b.hh := maxI_l (by omega)
        have e3 : maxI a.hh (1 + maxI b.hh r.hh) = 1 + b.hh := by rw [e2, maxI_r (by omega)]
        have e4 : maxI hk r.hh = hk := maxI_l (by omega)
        clear m1 vh
        refine ⟨.node k a u (.node i b s r (1 + maxI b.hh r.hh) f1) (1 + maxI a.hh (1 + maxI b.hh r.hh)) f2, t1, t2, ?_, ?_, ⟨va, ⟨vb, hr, rfl, by omega, t3.1⟩, rfl, ?_, t3.2⟩, ?_, ?_⟩
        · simp [toL]
        · exact permC fun x => by
            simp only [Tr.ids, List.count_cons, List.count_append, Nat.add_assoc, Nat.add_comm, Nat.add_left_comm]
        · show -1 ≤ a.hh - (1 + maxI b.hh r.hh) ∧ a.hh - (1 + maxI b.hh r.hh) ≤ 1
          omega
        · show 1 + maxI a.hh (1 + maxI b.hh r.hh) = _ ∨ 1 + maxI a.hh (1 + maxI b.hh r.hh) = _ ∧ _
          omega
        · intro j hj
          simp only [Tr.ids, List.mem_cons, List.mem_append, not_or] at hj
          rw [t4 j hj.1 hj.2.1.1, g3 j hj.1]
  · rw [if_neg c1]
    by_cases c3 : l.hh - r.hh = -2
    · rw [if_pos c3]
      cases r with
      | nil => exact absurd c3 (by rw [hh_nil]; omega)
      | node k a u b hk fk =>
        obtain ⟨va, vb, vh, vd, vf⟩ := hr
        have pa := va.pos
        have pb := vb.pos
        have m1 := maxI_ge a.hh b.hh
        simp only [hh_node] at c3 pr b1 hd le ⊢
        have nk : (Tr.node k a u b hk fk).ids.Nodup := (List.nodup_append.1 (List.nodup_cons.1 S1.nodup).2).2.1
        have S2 := S1.ar.sg z1 nk
        have le2 := S2.lean (by omega) (by omega)
        show ∃ t', (turnA (if 0 < leanA N1 k then _ else _) i false).1 = _ ∧ _
        simp only [show (Tr.node k a u b hk fk).ix = k from rfl] at *
        rw [le2]
        by_cases c2 : 0 < a.hh - b.hh
        · rw [if_pos c2]
          cases a with
          | nil => exact absurd c2 (by rw [hh_nil]; omega)
          | node m c v d hm fm =>
            obtain ⟨wc, wd, wh, wd2, wf⟩ := va
            have pc := wc.pos
            have pd := wd.pos
            simp only [hh_node] at c2 pa vd vh le2 m1
            have e1 : hm = b.hh + 1 := by omega
            have e2 : hk = b.hh + 2 := by rw [maxI_l (by omega)] at vh; omega
            have e3 : l.hh = b.hh := by omega
            have e4 : c.hh ≤ b.hh ∧ d.hh ≤ b.hh ∧ b.hh - 1 ≤ c.hh ∧ b.hh - 1 ≤ d.hh := by have := maxI_c c.hh d.hh; clear m1 vh; omega
            have e5 : maxI d.hh b.hh = b.hh := maxI_r e4.2.1
            have e6 : maxI l.hh c.hh = b.hh := by rw [maxI_l (by omega)]; exact e3
            have e7 : maxI (1 + maxI l.hh c.hh) (1 + maxI d.hh b.hh) = 1 + b.hh := by rw [e5, e6, maxI_l (by omega)]
            have e8 : maxI l.hh hk = b.hh + 2 := by rw [maxI_r (by omega)]; exact e2
            clear m1 vh wh
            obtain ⟨f1, f2, t1, t2, t3, t4⟩ := turn_left S2 (by omega) (by omega) (by omega)
            have t3 := t3 wc.far wd.far vb.far
            rw [t1]
            have nlen := turnA_len N1 k true
            have nn := S1.nodup
            generalize (turnA N1 k true).2 = N2 at *
            have pm : (Tr.node m c v (.node k d u b (1 + maxI d.hh b.hh) f1) (1 + maxI c.hh (1 + maxI d.hh b.hh)) f2).ids.Perm (Tr.node k (.node m c v d hm fm) u b hk fk).ids := by
              exact permC fun x => by
                simp only [Tr.ids, List.count_cons, List.count_append, Nat.add_assoc, Nat.add_comm, Nat.add_left_comm]
            have hik : i ≠ k := fun e => h.nr (by rw [e]; exact List.mem_cons_self ..)
            have him : i ≠ m := fun e => h.nr (by rw [e]; simp [Tr.ids])
            have hrj : ∀ j ∈ l.ids, j ≠ k ∧ j ≠ m := fun j hj => by
              have := (List.nodup_append.1 (List.nodup_cons.1 nn).2).2.2
              exact ⟨fun e => this j hj k (by simp [Tr.ids]) e, fun e => this j hj m (by simp [Tr.ids]) e⟩
            have k0 := S2.i0
            have m0 := (t2.lt m (by simp [Tr.ids])).1
            have qi : nd (N2.set i { nd N2 i with r := m }) i = { nd N2 i with r := m } := nd_set_same (by rw [nlen]; exact S1.il)
            have qn : nd N2 i = nd N1 i := t4 i hik him
            have qj : ∀ j, j ≠ i → nd (N2.set i { nd N2 i with r := m }) j = nd N2 j := fun j e => nd_set_other (fun e2 => e e2.symm)
            have hN3 : (N2.set i { nd N2 i with r := m }).length = N2.length := by simp
            generalize N2.set i { nd N2 i with r := m } = N3 at *
            have S3 : Sg N3 i l s (.node m c v (.node k d u b (1 + maxI d.hh b.hh) f1) (1 + maxI c.hh (1 + maxI d.hh b.hh)) f2) := by
              refine ⟨by rw [qj 0 (by omega), t4 0 (by omega) (by omega)]; exact z1, S1.i0, by have := S1.il; omega, by rw [qi, qn]; exact S1.es, by rw [qi, qn]; exact S1.el, by rw [qi]; rfl, S1.al.congr (by omega) fun j hj => by rw [qj j (fun e => h.nl (e ▸ hj)), t4 j (hrj j hj).1 (hrj j hj).2], t2.congr (by omega) fun j hj => qj j (fun e => h.nr (e ▸ pm.mem_iff.1 hj)), ?_⟩
              exact ((pm.append_left l.ids).cons i).nodup_iff.2 nn
            obtain ⟨f3, f4, t5, t6, t7, t8⟩ := turn_right S3 (by omega) (show Sm _ by show (0 : Int) ≤ 1 + maxI d.hh b.hh ∧ 1 + maxI d.hh b.hh ≤ _; omega) (by omega)
            have t7 := t7 wc.far t3.1 hl.far
            refine ⟨.node m (.node i l s c (1 + maxI l.hh c.hh) f3) v (.node k d u b (1 + maxI d.hh b.hh) f1) (1 + maxI (1 + maxI l.hh c.hh) (1 + maxI d.hh b.hh)) f4, t5, t6, ?_, ?_, ⟨⟨hl, wc, rfl, by omega, t7.1⟩, ⟨wd, vb, rfl, by omega, t3.1⟩, rfl, ?_, t7.2⟩, ?_, ?_⟩
            · simp [toL]
            · exact permC fun x => by
                simp only [Tr.ids, List.count_cons, List.count_append, Nat.add_assoc, Nat.add_comm, Nat.add_left_comm]
            · show -1 ≤ (1 + maxI l.hh c.hh) - (1 + maxI d.hh b.hh) ∧ (1 + maxI l.hh c.hh) - (1 + maxI d.hh b.hh) ≤ 1
              omega
            · show 1 + maxI (1 + maxI l.hh c.hh) (1 + maxI d.hh b.hh) = _ ∨ 1 + maxI (1 + maxI l.hh c.hh) (1 + maxI d.hh b.hh) = _ ∧ _
              omega
            · intro j hj
              simp only [Tr.ids, List.mem_cons, List.mem_append, not_or] at hj
              rw [t8 j hj.1 hj.2.2.2.1.1, qj j hj.1, t4 j hj.2.2.1 hj.2.2.2.1.1, g3 j hj.1]
        · rw [if_neg c2]
          obtain ⟨f1, f2, t1, t2, t3, t4⟩ := turn_right S1 (by omega) (by omega) (by omega)
          have t3 := t3 va.far vb.far hl.far
          have e1 : hk = 1 + b.hh := by rw [maxI_r (by omega)] at vh; exact vh
          have e2 : maxI l.hh a.hh = a.hh := maxI_r (by omega)
          have e3 : maxI (1 + maxI l.hh a.hh) b.hh = 1 + a.hh := by rw [e2, maxI_l (by omega)]
          have e4 : maxI l.hh hk = hk := maxI_r (by omega)
          clear m1 vh
          refine ⟨.node k (.node i l s a (1 + maxI l.hh a.hh) f1) u b (1 + maxI (1 + maxI l.hh a.hh) b.hh) f2, t1, t2, ?_, ?_, ⟨⟨hl, va, rfl, by omega, t3.1⟩, vb, rfl, ?_, t3.2⟩, ?_, ?_⟩
          · simp [toL]
          · exact permC fun x => by
              simp only [Tr.ids, List.count_cons, List.count_append, Nat.add_assoc, Nat.add_comm, Nat.add_left_comm]
          · show -1 ≤ (1 + maxI l.hh a.hh) - b.hh ∧ (1 + maxI l.hh a.hh) - b.hh ≤ 1
            omega
          · show 1 + maxI (1 + maxI l.hh a.hh) b.hh = _ ∨ 1 + maxI (1 + maxI l.hh a.hh) b.hh = _ ∧ _
            omega
          · intro j hj
            simp only [Tr.ids, List.mem_cons, List.mem_append, not_or] at hj
            rw [t4 j hj.1 hj.2.2.1, g3 j hj.1]
    · rw [if_neg c3]
      exact ⟨_, rfl, g1, rfl, List.Perm.refl _, ⟨hl, hr, rfl, by omega, g2⟩, .inl rfl, fun j hj => g3 j (fun e => hj (e ▸ List.mem_cons_self ..))⟩
end Go.Proofs.Ytlioccfedophhaa
/- A span put into and taken out of a balanced tree: the plain law. -/
set_option linter.unusedVariables false
set_option linter.unusedSimpArgs false
namespace Go.Proofs.Ytlioccfedophhaa
open Go
set_option maxRecDepth 20000
set_option maxHeartbeats 1000000
def insL (s : Sp) : List Sp → List Sp
  | [] => [s]
  | x :: r => if cmpS s x < 0 then s :: x :: r else x :: insL s r
theorem insL_left {s y : Sp} (h : cmpS s y < 0) (r : List Sp) : ∀ l, insL s (l ++ y :: r) = insL s l ++ y :: r
  | [] => by simp [insL, h]
  | x :: l => by
    have ih := insL_left h r l
    simp only [List.cons_append, insL]
    by_cases hx : cmpS s x < 0
    · rw [if_pos hx, if_pos hx]; rfl
    · rw [if_neg hx, if_neg hx, ih]; rfl
theorem insL_right {s y : Sp} (h : ¬ cmpS s y < 0) (r : List Sp) : ∀ l : List Sp, (∀ x ∈ l, ¬ cmpS s x < 0) → insL s (l ++ y :: r) = l ++ y :: insL s r
  | [], _ => by simp [insL, h]
  | x :: l, hl => by
    have ih := insL_right h r l fun z hz => hl z (List.mem_cons_of_mem _ hz)
    simp only [List.cons_append, insL]
    rw [if_neg (hl x (List.mem_cons_self ..)), ih]
theorem balA_len (N : List Nd) (i : Nat) : (balA N i).2.length = N.length := by
  unfold balA
  dsimp only
  split
  · rw [turnA_len]
    split
    · rw [List.length_set, turnA_len, fixA_len]
    · rw [fixA_len]
  · split
    · rw [turnA_len]
      split
      · rw [List.length_set, turnA_len, fixA_len]
      · rw [fixA_len]
    · rw [fixA_len]
theorem lt_cmp {s t : Sp} (h : ltS s t) : cmpS s t < 0 := by
  rcases cmp_cases s t with h1 | h1 | h1
  · exact h1.1
  · exact absurd h (h1.2 ▸ ltS_irr _)
  · exact absurd h1.2 (fun h2 => ltS_asym h h2)
theorem cmp_lt {s t : Sp} (h : cmpS s t < 0) : ltS s t := by
  rcases cmp_cases s t with h1 | h1 | h1
  · exact h1.2
  · omega
  · omega
theorem leafN_at {N : List Nd} {sp : List Nat} {s : Sp} (hp : 0 < N.length) (hsp : ∀ j ∈ sp, 0 < j ∧ j < N.length) : 0 < newI N sp ∧ newI N sp < (leafN N sp s).length ∧ nd (leafN N sp s) (newI N sp) = lfN s ∧ (∀ j, j ≠ newI N sp → nd (leafN N sp s) j = nd N j) := by
  by_cases h : sp = []
  · subst h
    have e1 : newI N [] = N.length := rfl
    have e2 : leafN N [] s = N ++ [lfN s] := if_pos rfl
    rw [e1, e2]
    refine ⟨hp, by simp, by simp [nd, List.getD], fun j hj => ?_⟩
    simp only [nd, List.getD]
    by_cases hl : j < N.length
    · rw [List.getElem?_append_left hl]
    · rw [List.getElem?_eq_none (by simp; omega), List.getElem?_eq_none (by omega)]
  · obtain ⟨r, i, rfl⟩ := spare_last h
    have e1 : newI N (r ++ [i]) = i := by simp [newI]
    have hi := hsp i (by simp)
    have e2 : leafN N (r ++ [i]) s = N.set i (lfN s) := by
      unfold leafN
      rw [if_neg h, e1]
    rw [e1, e2]
    exact ⟨hi.1, by simpa using hi.2, nd_set_same hi.2, fun j hj => nd_set_other fun e => hj e.symm⟩
theorem ins_law (s : Sp) (N : List Nd) (sp : List Nat) (hsp : ∀ j ∈ sp, 0 < j ∧ j < N.length) (hp : 0 < N.length) (t : Tr) : nd N 0 = Nd.zero → At N t → Avl t → t.ids.Nodup → Srt t → newI N sp ∉ t.ids → t.size ≤ 999999999900 →
    ∃ t', (insA t N sp s).1 = t'.ix ∧ At (insA t N sp s).2.1 t' ∧ Avl t' ∧ toL t' = insL s (toL t) ∧ t'.ids.Perm (newI N sp :: t.ids) ∧ (t'.hh = t.hh ∨ t'.hh = t.hh + 1) ∧ (∀ j, j ∉ newI N sp :: t.ids → nd (insA t N sp s).2.1 j = nd N j) ∧ (insA t N sp s).2.2 = sp.dropLast ∧ (insA t N sp s).2.1.length = (leafN N sp s).length := by
  obtain ⟨hn0, hn1, hn2, hn3⟩ := leafN_at (s := s) hp hsp
  induction t with
  | nil =>
    intro hz _ _ _ _ _ _
    refine ⟨.node (newI N sp) .nil s .nil 1 s.b, rfl, ⟨hn0, hn1, hn2, trivial, trivial⟩, ⟨trivial, trivial, by decide, by decide, fun x hx => ?_⟩, rfl, List.Perm.refl _, .inr rfl, fun j hj => hn3 j fun e => hj (e ▸ List.mem_cons_self ..), rfl, rfl⟩
    obtain rfl : x = s := by simpa [toL] using hx
    exact Int.le_refl _
  | node i l s0 r hh ff ihl ihr =>
    rintro hz ⟨h1, h2, h3, h4, h5⟩ ⟨a1, a2, a3, a4, a5⟩ hnd hs hnew hsz
    have pl := a1.pos
    have pr := a2.pos
    obtain ⟨s1, s2, s3, s4⟩ := hs.node
    have hnd : (i :: (l.ids ++ r.ids)).Nodup := hnd
    have hsz : l.size + r.size + 1 ≤ 999999999900 := hsz
    unfold insA
    by_cases hc : cmpS s s0 < 0
    · rw [if_pos hc]
      dsimp only
      have hns : newI N sp ∉ (l).ids := fun hm => hnew (by simp [Tr.ids, hm])
      have ndT : (l).ids.Nodup := by first | exact (List.nodup_append.1 (List.nodup_cons.1 hnd).2).1 | exact (List.nodup_append.1 (List.nodup_cons.1 hnd).2).2.1
      obtain ⟨t1, q1, q2, q3, q4, q5, q6, q7, q8, q9⟩ := ihl hz (by assumption) (by assumption) ndT (by assumption) hns (by omega)
      generalize insA l N sp s = q at *
      obtain ⟨k', N', sp'⟩ := q
      dsimp only at q1 q2 q7 q8 q9 ⊢
      subst q1 q8
      have hlen := (leafN_len N sp s).1
      have hi2 : i ∉ newI N sp :: (l).ids := by
        intro hm
        rcases List.mem_cons.1 hm with e | hm
        · exact hnew (by simp [Tr.ids, e])
        · exact (List.nodup_cons.1 hnd).1 (by simp [hm])
      have e1 : nd N' i = nd N i := q7 i hi2
      have e2 : nd (N'.set i { nd N' i with l := t1.ix }) i = { nd N' i with l := t1.ix } := nd_set_same (by omega)
      have e3 : ∀ j, j ≠ i → nd (N'.set i { nd N' i with l := t1.ix }) j = nd N' j := fun j hj => nd_set_other fun e => hj e.symm
      have hl3 : (N'.set i { nd N' i with l := t1.ix }).length = N'.length := by simp
      have hbl := balA_len (N'.set i { nd N' i with l := t1.ix }) i
      generalize N'.set i { nd N' i with l := t1.ix } = N3 at *
      have hoth : ∀ j ∈ (r).ids, j ≠ i ∧ j ∉ newI N sp :: (l).ids := fun j hj => ⟨fun e => (List.nodup_cons.1 hnd).1 (by rw [← e]; simp [hj]), fun hm => by
        rcases List.mem_cons.1 hm with e | hm
        · exact hnew (by rw [← e]; simp [Tr.ids, hj])
        · have := (List.nodup_append.1 (List.nodup_cons.1 hnd).2).2.2
          first | exact this j hm j hj rfl | exact this j hj j hm rfl⟩
      have pp : (i :: ((t1).ids ++ (r).ids)).Perm (newI N sp :: i :: (l.ids ++ r.ids)) := by
        refine permC fun x => ?_
        have := q5.count_eq x
        simp only [List.count_cons, List.count_append] at this ⊢
        omega
      have hz3 : nd N3 0 = Nd.zero := by
        rw [e3 0 (by omega), q7 0 (fun hm => ?_)]
        · exact hz
        · rcases List.mem_cons.1 hm with e | hm
          · exact absurd hn0 (by omega)
          · have := At.lt h4 0 hm
            omega
      have es : (nd N3 i).s = s0 := by simp only [e2, e1, h3]
      have el : (nd N3 i).l = (t1).ix := by simp only [e2, e1, h3]
      have er : (nd N3 i).r = (r).ix := by simp only [e2, e1, h3]
      have A1 : At N3 t1 := q2.congr (by omega) fun j hj => e3 j fun e => hi2 (e ▸ q5.mem_iff.1 hj)
      have A2 : At N3 r := At.congr h5 (by omega) fun j hj => by rw [e3 j (hoth j hj).1, q7 j (hoth j hj).2]
      have S : Sg N3 i t1 s0 r := ⟨hz3, h1, by omega, es, el, er, by assumption, by assumption, pp.nodup_iff.2 (List.nodup_cons.2 ⟨hnew, hnd⟩)⟩
      obtain ⟨t2, b1, b2, b3, b4, b5, b6, b7⟩ := bal_law S (by assumption) (by assumption) (by omega) (by omega)
      have m1 := maxI_c l.hh r.hh
      have m2 := maxI_c (t1).hh (r).hh
      refine ⟨t2, b1, b2, b5, ?_, b4.trans pp, ?_, fun j hj => ?_, rfl, by rw [hbl, hl3, q9]⟩
      · rw [b3, q4]
        simp only [toL]
        exact (insL_left hc _ _).symm
      · rw [hh_node]
        clear pp S hoth
        omega
      · have hj1 : j ∉ i :: ((t1).ids ++ (r).ids) := fun hm => hj (pp.mem_iff.1 hm)
        have hj2 : j ≠ i := fun e => hj1 (by rw [e]; exact List.mem_cons_self ..)
        have hj3 : j ∉ newI N sp :: (l).ids := fun hm => hj (by
          rcases List.mem_cons.1 hm with e | hm
          · rw [e]; exact List.mem_cons_self ..
          · simp [Tr.ids, hm])
        rw [b7 j hj1, e3 j hj2, q7 j hj3]
    · rw [if_neg hc]
      dsimp only
      have hns : newI N sp ∉ (r).ids := fun hm => hnew (by simp [Tr.ids, hm])
      have ndT : (r).ids.Nodup := by first | exact (List.nodup_append.1 (List.nodup_cons.1 hnd).2).1 | exact (List.nodup_append.1 (List.nodup_cons.1 hnd).2).2.1
      obtain ⟨t1, q1, q2, q3, q4, q5, q6, q7, q8, q9⟩ := ihr hz (by assumption) (by assumption) ndT (by assumption) hns (by omega)
      generalize insA r N sp s = q at *
      obtain ⟨k', N', sp'⟩ := q
      dsimp only at q1 q2 q7 q8 q9 ⊢
      subst q1 q8
      have hlen := (leafN_len N sp s).1
      have hi2 : i ∉ newI N sp :: (r).ids := by
        intro hm
        rcases List.mem_cons.1 hm with e | hm
        · exact hnew (by simp [Tr.ids, e])
        · exact (List.nodup_cons.1 hnd).1 (by simp [hm])
      have e1 : nd N' i = nd N i := q7 i hi2
      have e2 : nd (N'.set i { nd N' i with r := t1.ix }) i = { nd N' i with r := t1.ix } := nd_set_same (by omega)
      have e3 : ∀ j, j ≠ i → nd (N'.set i { nd N' i with r := t1.ix }) j = nd N' j := fun j hj => nd_set_other fun e => hj e.symm
      have hl3 : (N'.set i { nd N' i with r := t1.ix }).length = N'.length := by simp
      have hbl := balA_len (N'.set i { nd N' i with r := t1.ix }) i
      generalize N'.set i { nd N' i with r := t1.ix } = N3 at *
      have hoth : ∀ j ∈ (l).ids, j ≠ i ∧ j ∉ newI N sp :: (r).ids := fun j hj => ⟨fun e => (List.nodup_cons.1 hnd).1 (by rw [← e]; simp [hj]), fun hm => by
        rcases List.mem_cons.1 hm with e | hm
        · exact hnew (by rw [← e]; simp [Tr.ids, hj])
        · have := (List.nodup_append.1 (List.nodup_cons.1 hnd).2).2.2
          first | exact this j hm j hj rfl | exact this j hj j hm rfl⟩
      have pp : (i :: ((l).ids ++ (t1).ids)).Perm (newI N sp :: i :: (l.ids ++ r.ids)) := by
        refine permC fun x => ?_
        have := q5.count_eq x
        simp only [List.count_cons, List.count_append] at this ⊢
        omega
      have hz3 : nd N3 0 = Nd.zero := by
        rw [e3 0 (by omega), q7 0 (fun hm => ?_)]
        · exact hz
        · rcases List.mem_cons.1 hm with e | hm
          · exact absurd hn0 (by omega)
          · have := At.lt h5 0 hm
            omega
      have es : (nd N3 i).s = s0 := by simp only [e2, e1, h3]
      have el : (nd N3 i).l = (l).ix := by simp only [e2, e1, h3]
      have er : (nd N3 i).r = (t1).ix := by simp only [e2, e1, h3]
      have A1 : At N3 t1 := q2.congr (by omega) fun j hj => e3 j fun e => hi2 (e ▸ q5.mem_iff.1 hj)
      have A2 : At N3 l := At.congr h4 (by omega) fun j hj => by rw [e3 j (hoth j hj).1, q7 j (hoth j hj).2]
      have S : Sg N3 i l s0 t1 := ⟨hz3, h1, by omega, es, el, er, by assumption, by assumption, pp.nodup_iff.2 (List.nodup_cons.2 ⟨hnew, hnd⟩)⟩
      obtain ⟨t2, b1, b2, b3, b4, b5, b6, b7⟩ := bal_law S (by assumption) (by assumption) (by omega) (by omega)
      have m1 := maxI_c l.hh r.hh
      have m2 := maxI_c (l).hh (t1).hh
      refine ⟨t2, b1, b2, b5, ?_, b4.trans pp, ?_, fun j hj => ?_, rfl, by rw [hbl, hl3, q9]⟩
      · rw [b3, q4]
        simp only [toL]
        exact (insL_right hc _ _ fun x hx h => hc (lt_cmp (ltS_trans (cmp_lt h) (s3 x hx)))).symm
      · rw [hh_node]
        clear pp S hoth
        omega
      · have hj1 : j ∉ i :: ((l).ids ++ (t1).ids) := fun hm => hj (pp.mem_iff.1 hm)
        have hj2 : j ≠ i := fun e => hj1 (by rw [e]; exact List.mem_cons_self ..)
        have hj3 : j ∉ newI N sp :: (r).ids := fun hm => hj (by
          rcases List.mem_cons.1 hm with e | hm
          · rw [e]; exact List.mem_cons_self ..
          · simp [Tr.ids, hm])
        rw [b7 j hj1, e3 j hj2, q7 j hj3]
theorem filter_ne {s : Sp} {l : List Sp} (h : s ∉ l) : l.filter (fun x => decide (x ≠ s)) = l :=
  List.filter_eq_self.2 fun x hx => by
    have : x ≠ s := fun e => h (e ▸ hx)
    simpa using this
theorem min_head {N : List Nd} : ∀ {t : Tr}, At N t → t ≠ .nil → ∃ rest, toL t = minT t :: rest
  | .nil, _, h => absurd rfl h
  | .node i l s r hh f, ha, _ => by
    unfold minT toL
    by_cases h0 : l.ix = 0
    · rw [if_pos h0, ix_zero ha.2.2.2.1 h0]
      exact ⟨_, rfl⟩
    · rw [if_neg h0]
      obtain ⟨rest, e⟩ := min_head ha.2.2.2.1 (ix_pos ha.2.2.2.1 h0)
      exact ⟨rest ++ s :: toL r, by rw [e]; rfl⟩
theorem Srt.head {s : Sp} {t : Tr} {rest : List Sp} (hs : Srt t) (e : toL t = s :: rest) : (toL t).filter (fun x => decide (x ≠ s)) = rest := by
  unfold Srt at hs
  rw [e] at hs ⊢
  obtain ⟨h1, h2⟩ := List.pairwise_cons.1 hs
  rw [List.filter_cons_of_neg (by simp)]
  exact filter_ne fun hm => ltS_irr _ (h1 s hm)
theorem rem_law (t : Tr) : ∀ {s : Sp} {N : List Nd} {sp : List Nat}, nd N 0 = Nd.zero → At N t → Avl t → t.ids.Nodup → Srt t → s ∈ toL t → t.size ≤ 999999999900 →
    ∃ t' p, (remA t N sp s).1 = t'.ix ∧ At (remA t N sp s).2.1 t' ∧ Avl t' ∧ toL t' = (toL t).filter (fun x => decide (x ≠ s)) ∧ t.ids.Perm (p :: t'.ids) ∧ (t'.hh = t.hh ∨ t'.hh = t.hh - 1) ∧ (∀ j, j ∉ t.ids → nd (remA t N sp s).2.1 j = nd N j) ∧ (remA t N sp s).2.2 = sp ++ [p] ∧ (remA t N sp s).2.1.length = N.length := by
  induction t with
  | nil => intro s N sp _ _ _ _ _ hm; cases hm
  | node i l s0 r hh ff ihl ihr =>
    rintro s N sp hz ⟨h1, h2, h3, h4, h5⟩ ⟨a1, a2, a3, a4, a5⟩ hnd hs hm hsz
    have pl := a1.pos
    have pr := a2.pos
    obtain ⟨s1, s2, s3, s4⟩ := hs.node
    have hnd : (i :: (l.ids ++ r.ids)).Nodup := hnd
    have hsz : l.size + r.size + 1 ≤ 999999999900 := hsz
    unfold remA
    by_cases hc : cmpS s s0 < 0
    · rw [if_pos hc]
      dsimp only
      have hml := mem_left hs hm hc
      have ndT : (l).ids.Nodup := by first | exact (List.nodup_append.1 (List.nodup_cons.1 hnd).2).1 | exact (List.nodup_append.1 (List.nodup_cons.1 hnd).2).2.1
      obtain ⟨t1, p, q1, q2, q3, q4, q5, q6, q7, q8, q9⟩ := ihl (s := s) hz h4 (by assumption) ndT (by assumption) hml (by omega)
      generalize remA l N sp s = q at *
      obtain ⟨k', N', sp'⟩ := q
      dsimp only at q1 q2 q7 q8 q9 ⊢
      subst q1 q8
      have hi2 : i ∉ (l).ids := fun hm => (List.nodup_cons.1 hnd).1 (by simp [hm])
      have e1 : nd N' i = nd N i := q7 i hi2
      have e2 : nd (N'.set i { nd N' i with l := t1.ix }) i = { nd N' i with l := t1.ix, s := s0 } := by
        have : i < N'.length := by omega
        first
          | (rw [nd_set_same this]; rw [e1, h3]; done)
          | (rw [nd_set_same (by simpa using this), nd_set_same this]; done)
      have e3 : ∀ j, j ≠ i → nd (N'.set i { nd N' i with l := t1.ix }) j = nd N' j := fun j hj => by
        first
          | (rw [nd_set_other fun e => hj e.symm]; done)
          | (rw [nd_set_other fun e => hj e.symm, nd_set_other fun e => hj e.symm]; done)
      have hl3 : (N'.set i { nd N' i with l := t1.ix }).length = N'.length := by simp
      have hbl := balA_len (N'.set i { nd N' i with l := t1.ix }) i
      generalize N'.set i { nd N' i with l := t1.ix } = N3 at *
      have hoth : ∀ j ∈ (r).ids, j ≠ i ∧ j ∉ (l).ids := fun j hj => ⟨fun e => (List.nodup_cons.1 hnd).1 (by rw [← e]; simp [hj]), fun hm => by
        have := (List.nodup_append.1 (List.nodup_cons.1 hnd).2).2.2
        first | exact this j hm j hj rfl | exact this j hj j hm rfl⟩
      have pp : (i :: (l.ids ++ r.ids)).Perm (p :: i :: ((t1).ids ++ (r).ids)) := by
        refine permC fun x => ?_
        have := q5.count_eq x
        simp only [List.count_cons, List.count_append] at this ⊢
        omega
      have hz3 : nd N3 0 = Nd.zero := by
        rw [e3 0 (by omega), q7 0 (fun hm => ?_)]
        · exact hz
        · have := At.lt h4 0 hm
          omega
      have es : (nd N3 i).s = s0 := by simp only [e2, e1, h3]
      have el : (nd N3 i).l = (t1).ix := by simp only [e2, e1, h3]
      have er : (nd N3 i).r = (r).ix := by simp only [e2, e1, h3]
      have hq5 : ∀ j ∈ t1.ids, j ∈ (l).ids := fun j hj => q5.mem_iff.2 (List.mem_cons_of_mem _ hj)
      have A1 : At N3 t1 := q2.congr (by omega) fun j hj => e3 j fun e => hi2 (e ▸ hq5 j hj)
      have A2 : At N3 r := At.congr h5 (by omega) fun j hj => by rw [e3 j (hoth j hj).1, q7 j (hoth j hj).2]
      have S : Sg N3 i t1 s0 r := ⟨hz3, h1, by omega, es, el, er, by assumption, by assumption, (List.nodup_cons.1 (pp.nodup_iff.1 hnd)).2⟩
      have pl1 := q3.pos
      obtain ⟨t2, b1, b2, b3, b4, b5, b6, b7⟩ := bal_law S (by assumption) (by assumption) (by omega) (by omega)
      have m1 := maxI_c l.hh r.hh
      have m2 := maxI_c (t1).hh (r).hh
      refine ⟨t2, p, b1, b2, b5, ?_, pp.trans (b4.symm.cons p), ?_, fun j hj => ?_, rfl, by rw [hbl, hl3, q9]⟩
      rotate_left
      · rw [hh_node]
        clear pp S hoth
        omega
      · have hj0 : j ≠ i ∧ j ∉ l.ids ∧ j ∉ r.ids := by
          have hj : ¬ (j ∈ i :: (l.ids ++ r.ids)) := hj
          simpa [not_or] using hj
        have hj1 : j ∉ i :: ((t1).ids ++ (r).ids) := fun hm => by
          have hm := List.mem_cons_of_mem p hm
          have hm := pp.mem_iff.2 hm
          exact hj hm
        have hj3 : j ∉ (l).ids := by first | exact hj0.2.1 | exact hj0.2.2
        rw [b7 j hj1, e3 j hj0.1, q7 j hj3]
      rw [b3, q4]
      try simp only [toL]
      rw [List.filter_append, List.filter_cons_of_pos (by simpa using fun e => ltS_irr _ (e ▸ s3 s hml)), filter_ne fun hm2 => ltS_irr _ (ltS_trans (s3 s hml) (s4 s hm2))]
    · rw [if_neg hc]
      by_cases hc2 : 0 < cmpS s s0
      · rw [if_pos hc2]
        dsimp only
        have hmr := mem_right hs hm hc2
        have ndT : (r).ids.Nodup := by first | exact (List.nodup_append.1 (List.nodup_cons.1 hnd).2).1 | exact (List.nodup_append.1 (List.nodup_cons.1 hnd).2).2.1
        obtain ⟨t1, p, q1, q2, q3, q4, q5, q6, q7, q8, q9⟩ := ihr (s := s) hz h5 (by assumption) ndT (by assumption) hmr (by omega)
        generalize remA r N sp s = q at *
        obtain ⟨k', N', sp'⟩ := q
        dsimp only at q1 q2 q7 q8 q9 ⊢
        subst q1 q8
        have hi2 : i ∉ (r).ids := fun hm => (List.nodup_cons.1 hnd).1 (by simp [hm])
        have e1 : nd N' i = nd N i := q7 i hi2
        have e2 : nd (N'.set i { nd N' i with r := t1.ix }) i = { nd N' i with r := t1.ix, s := s0 } := by
          have : i < N'.length := by omega
          first
            | (rw [nd_set_same this]; rw [e1, h3]; done)
            | (rw [nd_set_same (by simpa using this), nd_set_same this]; done)
        have e3 : ∀ j, j ≠ i → nd (N'.set i { nd N' i with r := t1.ix }) j = nd N' j := fun j hj => by
          first
            | (rw [nd_set_other fun e => hj e.symm]; done)
            | (rw [nd_set_other fun e => hj e.symm, nd_set_other fun e => hj e.symm]; done)
        have hl3 : (N'.set i { nd N' i with r := t1.ix }).length = N'.length := by simp
        have hbl := balA_len (N'.set i { nd N' i with r := t1.ix }) i
        generalize N'.set i { nd N' i with r := t1.ix } = N3 at *
        have hoth : ∀ j ∈ (l).ids, j ≠ i ∧ j ∉ (r).ids := fun j hj => ⟨fun e => (List.nodup_cons.1 hnd).1 (by rw [← e]; simp [hj]), fun hm => by
          have := (List.nodup_append.1 (List.nodup_cons.1 hnd).2).2.2
          first | exact this j hm j hj rfl | exact this j hj j hm rfl⟩
        have pp : (i :: (l.ids ++ r.ids)).Perm (p :: i :: ((l).ids ++ (t1).ids)) := by
          refine permC fun x => ?_
          have := q5.count_eq x
          simp only [List.count_cons, List.count_append] at this ⊢
          omega
        have hz3 : nd N3 0 = Nd.zero := by
          rw [e3 0 (by omega), q7 0 (fun hm => ?_)]
          · exact hz
          · have := At.lt h5 0 hm
            omega
        have es : (nd N3 i).s = s0 := by simp only [e2, e1, h3]
        have el : (nd N3 i).l = (l).ix := by simp only [e2, e1, h3]
        have er : (nd N3 i).r = (t1).ix := by simp only [e2, e1, h3]
        have hq5 : ∀ j ∈ t1.ids, j ∈ (r).ids := fun j hj => q5.mem_iff.2 (List.mem_cons_of_mem _ hj)
        have A1 : At N3 t1 := q2.congr (by omega) fun j hj => e3 j fun e => hi2 (e ▸ hq5 j hj)
        have A2 : At N3 l := At.congr h4 (by omega) fun j hj => by rw [e3 j (hoth j hj).1, q7 j (hoth j hj).2]
        have S : Sg N3 i l s0 t1 := ⟨hz3, h1, by omega, es, el, er, by assumption, by assumption, (List.nodup_cons.1 (pp.nodup_iff.1 hnd)).2⟩
        have pl1 := q3.pos
        obtain ⟨t2, b1, b2, b3, b4, b5, b6, b7⟩ := bal_law S (by assumption) (by assumption) (by omega) (by omega)
        have m1 := maxI_c l.hh r.hh
        have m2 := maxI_c (l).hh (t1).hh
        refine ⟨t2, p, b1, b2, b5, ?_, pp.trans (b4.symm.cons p), ?_, fun j hj => ?_, rfl, by rw [hbl, hl3, q9]⟩
        rotate_left
        · rw [hh_node]
          clear pp S hoth
          omega
        · have hj0 : j ≠ i ∧ j ∉ l.ids ∧ j ∉ r.ids := by
            have hj : ¬ (j ∈ i :: (l.ids ++ r.ids)) := hj
            simpa [not_or] using hj
          have hj1 : j ∉ i :: ((l).ids ++ (t1).ids) := fun hm => by
            have hm := List.mem_cons_of_mem p hm
            have hm := pp.mem_iff.2 hm
            exact hj hm
          have hj3 : j ∉ (r).ids := by first | exact hj0.2.1 | exact hj0.2.2
          rw [b7 j hj1, e3 j hj0.1, q7 j hj3]
        rw [b3, q4]
        try simp only [toL]
        rw [List.filter_append, List.filter_cons_of_pos (by simpa using fun e => ltS_irr _ (e ▸ s4 s hmr)), filter_ne fun hm2 => ltS_irr _ (ltS_trans (s3 s hm2) (s4 s hmr))]
      · rw [if_neg hc2]
        obtain rfl : s = s0 := by
          rcases cmp_cases s s0 with h | h | h
          · omega
          · exact h.2
          · omega
        have hfil : (toL (.node i l s r hh ff)).filter (fun x => decide (x ≠ s)) = toL l ++ toL r := by
          simp only [toL]
          rw [List.filter_append, List.filter_cons_of_neg (by simp), filter_ne fun hm2 => ltS_irr _ (s3 s hm2), filter_ne fun hm2 => ltS_irr _ (s4 s hm2)]
        rw [hfil]
        have m1 := maxI_c l.hh r.hh
        by_cases h0 : l.ix = 0 ∨ r.ix = 0
        · rw [if_pos h0]
          dsimp only
          by_cases hl0 : l.ix = 0
          · obtain rfl := ix_zero h4 hl0
            refine ⟨r, i, by simp [Tr.ix], h5, a2, rfl, List.Perm.refl _, ?_, fun j _ => rfl, rfl, rfl⟩
            rw [hh_node, a3]
            rw [hh_nil] at *
            omega
          · obtain rfl := ix_zero h5 (h0.resolve_left hl0)
            refine ⟨l, i, by simp [Tr.ix], h4, a1, by simp [toL], ?_, ?_, fun j _ => rfl, rfl, rfl⟩
            · show (i :: (l.ids ++ [])).Perm _
              rw [List.append_nil]
            · rw [hh_node, a3]
              rw [hh_nil] at *
              omega
        · rw [if_neg h0]
          dsimp only
          clear m1
          have hr0 : r ≠ .nil := ix_pos h5 fun e => h0 (.inr e)
          obtain ⟨rest, hrest⟩ := min_head h5 hr0
          have hmm := min_mem h5 hr0
          have ndT : (r).ids.Nodup := by first | exact (List.nodup_append.1 (List.nodup_cons.1 hnd).2).1 | exact (List.nodup_append.1 (List.nodup_cons.1 hnd).2).2.1
          obtain ⟨t1, p, q1, q2, q3, q4, q5, q6, q7, q8, q9⟩ := ihr (s := (minT r)) hz h5 (by assumption) ndT (by assumption) hmm (by omega)
          generalize remA r N sp (minT r) = q at *
          obtain ⟨k', N', sp'⟩ := q
          dsimp only at q1 q2 q7 q8 q9 ⊢
          subst q1 q8
          have hi2 : i ∉ (r).ids := fun hm => (List.nodup_cons.1 hnd).1 (by simp [hm])
          have e1 : nd N' i = nd N i := q7 i hi2
          have e2 : nd ((N'.set i { nd N' i with r := t1.ix }).set i { nd (N'.set i { nd N' i with r := t1.ix }) i with s := minT r }) i = { nd N' i with r := t1.ix, s := (minT r) } := by
            have : i < N'.length := by omega
            first
              | (rw [nd_set_same this]; rw [e1, h3]; done)
              | (rw [nd_set_same (by simpa using this), nd_set_same this]; done)
          have e3 : ∀ j, j ≠ i → nd ((N'.set i { nd N' i with r := t1.ix }).set i { nd (N'.set i { nd N' i with r := t1.ix }) i with s := minT r }) j = nd N' j := fun j hj => by
            first
              | (rw [nd_set_other fun e => hj e.symm]; done)
              | (rw [nd_set_other fun e => hj e.symm, nd_set_other fun e => hj e.symm]; done)
          have hl3 : ((N'.set i { nd N' i with r := t1.ix }).set i { nd (N'.set i { nd N' i with r := t1.ix }) i with s := minT r }).length = N'.length := by simp
          have hbl := balA_len ((N'.set i { nd N' i with r := t1.ix }).set i { nd (N'.set i { nd N' i with r := t1.ix }) i with s := minT r }) i
          generalize (N'.set i { nd N' i with r := t1.ix }).set i { nd (N'.set i { nd N' i with r := t1.ix }) i with s := minT r } = N3 at *
          have hoth : ∀ j ∈ (l).ids, j ≠ i ∧ j ∉ (r).ids := fun j hj => ⟨fun e => (List.nodup_cons.1 hnd).1 (by rw [← e]; simp [hj]), fun hm => by
            have := (List.nodup_append.1 (List.nodup_cons.1 hnd).2).2.2
            first | exact this j hm j hj rfl | exact this j hj j hm rfl⟩
          have pp : (i :: (l.ids ++ r.ids)).Perm (p :: i :: ((l).ids ++ (t1).ids)) := by
            refine permC fun x => ?_
            have := q5.count_eq x
            simp only [List.count_cons, List.count_append] at this ⊢
            omega
          have hz3 : nd N3 0 = Nd.zero := by
            rw [e3 0 (by omega), q7 0 (fun hm => ?_)]
            · exact hz
            · have := At.lt h5 0 hm
              omega
          have es : (nd N3 i).s = (minT r) := by simp only [e2, e1, h3]
          have el : (nd N3 i).l = (l).ix := by simp only [e2, e1, h3]
          have er : (nd N3 i).r = (t1).ix := by simp only [e2, e1, h3]
          have hq5 : ∀ j ∈ t1.ids, j ∈ (r).ids := fun j hj => q5.mem_iff.2 (List.mem_cons_of_mem _ hj)
          have A1 : At N3 t1 := q2.congr (by omega) fun j hj => e3 j fun e => hi2 (e ▸ hq5 j hj)
          have A2 : At N3 l := At.congr h4 (by omega) fun j hj => by rw [e3 j (hoth j hj).1, q7 j (hoth j hj).2]
          have S : Sg N3 i l (minT r) t1 := ⟨hz3, h1, by omega, es, el, er, by assumption, by assumption, (List.nodup_cons.1 (pp.nodup_iff.1 hnd)).2⟩
          have pl1 := q3.pos
          obtain ⟨t2, b1, b2, b3, b4, b5, b6, b7⟩ := bal_law S (by assumption) (by assumption) (by omega) (by omega)
          have m1 := maxI_c l.hh r.hh
          have m2 := maxI_c (l).hh (t1).hh
          refine ⟨t2, p, b1, b2, b5, ?_, pp.trans (b4.symm.cons p), ?_, fun j hj => ?_, rfl, by rw [hbl, hl3, q9]⟩
          rotate_left
          · rw [hh_node]
            clear pp S hoth
            omega
          · have hj0 : j ≠ i ∧ j ∉ l.ids ∧ j ∉ r.ids := by
              have hj : ¬ (j ∈ i :: (l.ids ++ r.ids)) := hj
              simpa [not_or] using hj
            have hj1 : j ∉ i :: ((l).ids ++ (t1).ids) := fun hm => by
              have hm := List.mem_cons_of_mem p hm
              have hm := pp.mem_iff.2 hm
              exact hj hm
            have hj3 : j ∉ (r).ids := by first | exact hj0.2.1 | exact hj0.2.2
            rw [b7 j hj1, e3 j hj0.1, q7 j hj3]
          rw [b3, q4]
          try simp only [toL]
          rw [s2.head hrest, ← hrest]
end Go.Proofs.Ytlioccfedophhaa
/- A span asked for; a tree's height; the count. -/
set_option linter.unusedVariables false
set_option linter.unusedSimpArgs false
namespace Go.Proofs.Ytlioccfedophhaa
open Go
set_option maxRecDepth 20000
set_option maxHeartbeats 2000000
attribute [local irreducible] WX WC WQ Val VCall
theorem rSpI_0 {A B : Prop} (k : B) (h : Hold B → A := by intro k; (repeat (first | (apply wx_val; (first | exact v_move rfl | exact v_assign rfl | exact v_nil rfl | exact v_faddr rfl rfl | exact v_ldT rfl rfl rfl (by rfl) | exact v_eq rfl rfl | exact v_ne rfl rfl | exact v_lt rfl rfl | exact v_iaddrE (by assumption) rfl rfl rfl (by omega)); rfl) | refine wc_seq ?_ | refine wc_region ?_ | refine wx_nil ?_ | refine wq_next ?_ | refine wc_block ?_ | refine wc_ret ?_ | refine wc_skip ?_ | refine wc_exit ?_ | refine wq_then_ret ?_ | refine wq_then_exit ?_ | refine wq_block ?_ | refine wq_block_ret ?_ | refine wq_block_exit rfl ?_ | refine wc_condF rfl ?_)); exact k.out) : A := h ⟨k⟩
section fs
variable {g : Nat} {y : Fa} {cnt : Int} {N : List Nd} {sp : List Nat} {E Es : Seg} {L : TE ByteArray} {clk : Nat}
/-- the root that the map holds for a key -/
abbrev RootAt (L : TE ByteArray) (k : ByteArray) (t : Tr) : Prop := (aget k L).getD (.int .i64 0) = .int .i64 (t.ix : Nat)
theorem has_spec (k : ByteArray) (s : Sp) {t : Tr} (h1 : ArO N N.length y.A y.c E) (h3 : Inb N) (ht : At N t) (hL : RootAt L k t) (w : World) (ho : Own w [fsB g y N.length sp.length cnt, E, mpB y.m L clk]) :
    Calls Try.prog 83 #[.pointer (some ⟨g, 0, none⟩), .string k, .agg s.cells.toArray] w (Ret (β := Unit) w (ids [fsB g y N.length sp.length cnt, E, mpB y.m L clk]) (fun _ => .bool (hasT t s)) (fun _ => [fsB g y N.length sp.length cnt, E, mpB y.m L clk]) (fun _ => True)) := by
  refine go [.pointer (some ⟨g, 0, none⟩), .string k, .agg s.cells.toArray] [fsB g y N.length sp.length cnt, E, mpB y.m L clk] Try.func83 Try.ntmps83 rfl rfl ho ?_
  have hp := h3.pos
  have hsm := h3.small
  obtain ⟨ga, hA⟩ := h1.ptr hp
  refine rSpI_0 ?_
  refine wl_boxA rfl rfl (fun g5 => ?_)
  refine rSpI_0 ?_
  (try refine wx_ungd rfl rfl ?_)
  apply wx_val
  exact v_agetT (clk := clk) hL rfl rfl rfl rfl rfl
  rfl
  refine rSpI_0 ?_
  refine wc_loopK (ι := Tr) [0, 5] (fun u => [(7, .int .i64 (u.ix : Nat))]) (fun u => []) (fun u => At N u ∧ hasT t s = hasT u s) (fun u => u.size) (t) rfl ?_ (by repeat (first | exact trivial | refine ⟨rfl, ?_⟩)) ?_
  · exact ⟨ht, rfl⟩
  rintro u ⟨hu, hh⟩
  try dsimp only
  refine wc_fcat ?_
  refine wc_cat ?_
  cases u with
  | nil =>
    rw [show (Tr.nil).ix = 0 from rfl]
    refine rSpI_0 ?_
    rw [hh]
    skip
    exact wq_ret1T () rfl rfl trivial rfl
  | node i2 l2 s2 r2 hh2 ff2 =>
    obtain ⟨t21, t22, hnd2, hlr21, hlr22⟩ := hu
    have hNi2 := (nd_mem t22).1
    have hl2x := hlr21.ix_lt hp
    have hr2x := hlr22.ix_lt hp
    rw [hasT] at hh
    rw [show (Tr.node i2 l2 s2 r2 hh2 ff2).ix = i2 from rfl]
    refine rSpI_0 ?_
    refine wc_if rfl (fun hd => ?_) (fun hd => absurd (by omega) hd)
    refine rSpI_0 ?_
    refine wc_heldN [] [fsB g y N.length sp.length cnt, E, [(g5, .cells s.cells.toArray 110 (0, 0))]] (fun hQd => ?_)
    refine tkX 0 rfl (v_ldAT rfl (by rfl)) ?_
    refine tkX 1 rfl (v_move rfl) ?_
    refine tkX 2 rfl (v_nil rfl) ?_
    refine tkX 3 rfl (v_faddr rfl rfl) ?_
    refine tkX 4 rfl (v_ldT rfl rfl rfl (by rfl)) ?_
    refine tkX 5 rfl (v_move rfl) ?_
    refine tkX 6 rfl (v_iaddrE (by assumption) rfl rfl rfl (by omega)) ?_
    refine tkX 7 rfl (v_faddr rfl rfl) ?_
    refine tkX 8 rfl (by exact v_loadA (cs := s2.cells) rfl rfl (fun w' hr j u hj => h1.elemT (i := i2) hA (by decide) (fun _ => rfl) hNi2 hr (j := j) (v := u) (by rw [hnd2]; exact sp_cell hj) (by rw [Int.toNat_natCast, Nat.add_zero]))) ?_
    refine efX 9 rfl ?_
    (try refine wx_ungd rfl rfl ?_)
    refine wx_vcall (vc_pure' rfl rfl (fun w' hr => compare_spec s s2 w')) rfl ?_
    (try refine wx_nil ?_)
    refine hdX ?_
    refine tkX 10 rfl (v_assign rfl) ?_
    refine wh_done (by decide +kernel) ?_
    refine rSpI_0 ?_
    refine wc_if rfl (fun hc => ?_) (fun hc => ?_)
    · rw [if_pos hc] at hh
      rw [hh]
      refine rSpI_0 ?_
      exact wq_ret1T () rfl rfl trivial rfl
    rw [if_neg hc] at hh
    refine rSpI_0 ?_
    refine wc_if rfl (fun hc2 => ?_) (fun hc2 => ?_)
    · rw [if_pos hc2] at hh
      refine rSpI_0 ?_
      (try refine wx_ungd rfl rfl ?_)
      apply wx_val
      exact v_load rfl rfl rfl (fun w' hr => h1.elemT (i := i2) hA (by decide) (fun _ => rfl) hNi2 hr (j := 3) rfl (by rw [Int.toNat_natCast]))
      rfl
      rw [hnd2]
      refine rSpI_0 ?_
      refine wq_roundK (l2) ?_ ?_ (by repeat (first | exact trivial | refine ⟨rfl, ?_⟩)) (by first | exact catEq | exact rfl)
      · exact ⟨hlr21, hh⟩
      · simp only [Tr.size]; omega
    · rw [if_neg hc2] at hh
      refine rSpI_0 ?_
      (try refine wx_ungd rfl rfl ?_)
      apply wx_val
      exact v_load rfl rfl rfl (fun w' hr => h1.elemT (i := i2) hA (by decide) (fun _ => rfl) hNi2 hr (j := 4) rfl (by rw [Int.toNat_natCast]))
      rfl
      rw [hnd2]
      refine rSpI_0 ?_
      refine wq_roundK (r2) ?_ ?_ (by repeat (first | exact trivial | refine ⟨rfl, ?_⟩)) (by first | exact catEq | exact rfl)
      · exact ⟨hlr22, hh⟩
      · simp only [Tr.size]; omega
end fs
end Go.Proofs.Ytlioccfedophhaa
/- Insert, Remove and New. -/
set_option linter.unusedVariables false
set_option linter.unusedSimpArgs false
namespace Go.Proofs.Ytlioccfedophhaa
open Go
set_option maxRecDepth 20000
set_option maxHeartbeats 2000000
attribute [local irreducible] WX WC WQ Val VCall
theorem rSpJ_0 {A B : Prop} (k : B) (h : Hold B → A := by intro k; (repeat (first | (apply wx_val; (first | exact v_move rfl | exact v_assign rfl | exact v_nil rfl | exact v_faddr rfl rfl | exact v_ldT rfl rfl rfl (by rfl) | exact v_ldAT rfl (by rfl) | exact v_eq rfl rfl | exact v_addi rfl rfl (by omega) | exact v_subi rfl rfl (by omega) | exact v_not rfl); rfl) | refine wc_seq ?_ | refine wc_region ?_ | refine wx_nil ?_ | refine wq_next ?_ | refine wc_ret ?_ | refine wc_skip ?_ | refine wq_then_ret ?_ | refine wq_block ?_ | refine wq_block_ret ?_ | refine wq_setn ?_ | refine wc_cat ?_ | refine wc_condT rfl ?_ | refine wc_condF rfl ?_ | refine wl_storeT rfl rfl rfl (by rfl) (by exact .inl (Nat.le_refl _)) rfl ?_)); exact k.out) : A := h ⟨k⟩
def insCode (k : ByteArray) (s : Sp) (has : Bool) : Int := if k.size < 1 ∨ 8 < k.size then 130 else if rightS s = false then 140 else if has then 141 else 0
abbrev fsN (g : Nat) (y : Fa) (N : List Nd) (sp : List Nat) (cnt : Int) (E Es : Seg) (L : TE ByteArray) (clk : Nat) : List Seg := [fsB g y N.length sp.length cnt, E, Es, mpB y.m L clk]
section fs
variable {g : Nat} {y : Fa} {cnt : Int} {N : List Nd} {sp : List Nat} {E Es : Seg} {L : TE ByteArray} {clk : Nat}
theorem insert_no (k : ByteArray) (s : Sp) {t : Tr} (hf : FsO N sp y E Es) (ht : At N t) (hL : RootAt L k t) (hc : insCode k s (hasT t s) ≠ 0) (w : World) (ho : Own w (fsN g y N sp cnt E Es L clk)) :
    Calls Try.prog 58 #[.pointer (some ⟨g, 0, none⟩), .string k, .agg s.cells.toArray] w (Ret (β := Unit) w (ids (fsN g y N sp cnt E Es L clk)) (fun _ => .int .i64 (insCode k s (hasT t s))) (fun _ => fsN g y N sp cnt E Es L clk) (fun _ => True)) := by
  refine go [.pointer (some ⟨g, 0, none⟩), .string k, .agg s.cells.toArray] (fsN g y N sp cnt E Es L clk) Try.func58 Try.ntmps58 rfl rfl ho ?_
  obtain ⟨h1, h2, h3, h4⟩ := hf
  unfold insCode at hc ⊢
  refine rSpJ_0 ?_
  refine wl_boxA rfl rfl (fun g5 => ?_)
  repeat' (first | (apply wx_val; (first | exact v_move rfl | exact v_assign rfl | exact v_ldAT rfl (by rfl) | exact v_slen rfl rfl | exact v_lt rfl rfl | exact v_gt rfl rfl | exact v_pickT rfl rfl | exact v_pickF rfl rfl); rfl) | refine wx_no rfl rfl rfl ?_ | refine wx_ungd rfl rfl ?_ | refine wc_seq ?_ | refine wc_region ?_ | refine wx_nil ?_ | refine wq_next ?_ | refine wc_block ?_ | refine wc_ret ?_ | refine wq_then_ret ?_ | refine wq_block_ret ?_ | refine wc_condT rfl ?_ | refine wc_if rfl (fun _ => ?_) (fun _ => ?_) | refine wx_gif rfl rfl (fun _ => ?_) (fun _ => ?_))
  · rw [if_pos (by rename_i hx; omega)]
    exact wq_ret1T () rfl rfl trivial rfl
  · rw [if_pos (by rename_i hx hy; omega)]
    exact wq_ret1T () rfl rfl trivial rfl
  · rw [if_neg (by rename_i hx hy; omega)] at hc ⊢
    have hri := right_spec s
    have hs := fun w' ho => has_spec (clk := clk) (g := g) (cnt := cnt) (sp := sp) k s h1 h3 ht hL w' ho
    generalize rightS s = b at *
    generalize hasT t s = d at *
    skip
    (try refine wx_ungd rfl rfl ?_)
    refine wx_vcall (vc_pure' rfl rfl (fun w' hr => hri w')) rfl ?_
    cases b
    · rw [if_pos rfl]
      refine rSpJ_0 ?_
      exact wq_ret1T () rfl rfl trivial rfl
    rw [if_neg (by decide)] at hc ⊢
    refine rSpJ_0 ?_
    refine wl_callT (fun w' hr ho => hs w' ho) rfl rfl rfl ?_
    rintro - -
    cases d
    · exact absurd rfl hc
    refine rSpJ_0 ?_
    exact wq_ret1T () rfl rfl trivial rfl
theorem insert_ok (k : ByteArray) (s : Sp) {t : Tr} (hf : FsO N sp y E Es) (ht : At N t) (hL : RootAt L k t) (hok : MapOk L clk) (hsz : N.length ≤ 1099511627776) (hcn : 0 ≤ cnt ∧ cnt ≤ 1099511627776) (hc : insCode k s (hasT t s) = 0) (w : World) (ho : Own w (fsN g y N sp cnt E Es L clk)) :
    Calls Try.prog 58 #[.pointer (some ⟨g, 0, none⟩), .string k, .agg s.cells.toArray] w (Ret (β := Fa × Seg × Seg) w (ids (fsN g y N sp cnt E Es L clk)) (fun _ => .int .i64 0) (fun q => fsN g q.1 (insA t N sp s).2.1 (insA t N sp s).2.2 (cnt + 1) q.2.1 q.2.2 (aput k (.int .i64 ((insA t N sp s).1 : Nat)) L clk) (aclk k L clk)) (InsO N (insA t N sp s).2.1 (insA t N sp s).2.2 (insA t N sp s).1 y)) := by
  refine go [.pointer (some ⟨g, 0, none⟩), .string k, .agg s.cells.toArray] (fsN g y N sp cnt E Es L clk) Try.func58 Try.ntmps58 rfl rfl ho ?_
  obtain ⟨yA, yc, yB, yd, ym⟩ := y
  have hi := fun w' ho => insert_spec (g := g) (cnt := cnt) s t hf ht hsz w' ho
  obtain ⟨h1, h2, h3, h4⟩ := hf
  unfold insCode at hc
  generalize insA t N sp s = q at *
  obtain ⟨k', N', sp'⟩ := q
  dsimp only at hi h1 h2 ⊢
  refine rSpJ_0 ?_
  refine wl_boxA rfl rfl (fun g5 => ?_)
  repeat' (first | (apply wx_val; (first | exact v_move rfl | exact v_assign rfl | exact v_ldAT rfl (by rfl) | exact v_slen rfl rfl | exact v_lt rfl rfl | exact v_gt rfl rfl | exact v_pickT rfl rfl | exact v_pickF rfl rfl); rfl) | refine wx_no rfl rfl rfl ?_ | refine wx_ungd rfl rfl ?_ | refine wc_seq ?_ | refine wc_region ?_ | refine wx_nil ?_ | refine wq_next ?_ | refine wc_block ?_ | refine wc_ret ?_ | refine wq_then_ret ?_ | refine wq_block_ret ?_ | refine wc_condT rfl ?_ | refine wc_if rfl (fun _ => ?_) (fun _ => ?_) | refine wx_gif rfl rfl (fun _ => ?_) (fun _ => ?_))
  · rw [if_pos (by rename_i hx; omega)] at hc
    exact absurd hc (by decide)
  · rw [if_pos (by rename_i hx hy; omega)] at hc
    exact absurd hc (by decide)
  · rw [if_neg (by rename_i hx hy; omega)] at hc
    have hri := right_spec s
    have hs := fun w' ho => has_spec (clk := clk) (g := g) (cnt := cnt) (y := ⟨yA, yc, yB, yd, ym⟩) (sp := sp) k s h1 h3 ht hL w' ho
    generalize rightS s = b at *
    generalize hasT t s = d at *
    skip
    (try refine wx_ungd rfl rfl ?_)
    refine wx_vcall (vc_pure' rfl rfl (fun w' hr => hri w')) rfl ?_
    cases b
    · rw [if_pos rfl] at hc
      exact absurd hc (by decide)
    rw [if_neg (by decide)] at hc
    refine rSpJ_0 ?_
    refine wl_callT (fun w' hr ho => hs w' ho) rfl rfl rfl ?_
    rintro - -
    cases d
    case true => exact absurd hc (by decide)
    refine rSpJ_0 ?_
    refine wc_heldN [] [[(g5, .cells s.cells.toArray 110 (0, 0))]] (fun hQd => ?_)
    refine tkX 0 rfl (v_move rfl) ?_
    refine tkX 1 rfl (v_nil rfl) ?_
    refine tkX 2 rfl (v_faddr rfl rfl) ?_
    refine tkX 4 rfl (v_move rfl) ?_
    refine tkX 5 rfl (v_move rfl) ?_
    refine tkX 6 rfl (v_move rfl) ?_
    refine tkX 7 rfl (v_nil rfl) ?_
    refine tkX 8 rfl (v_faddr rfl rfl) ?_
    refine tkX 10 rfl (v_move rfl) ?_
    refine tkX 12 rfl (v_ldAT rfl (by rfl)) ?_
    refine wh_eff2 3 9 rfl rfl (by decide +kernel) ?_ ?_
    · refine rSpJ_0 ?_
      (try refine wx_nil ?_)
      refine hdX ?_
      refine efX 9 rfl ?_
      refine rSpJ_0 ?_
      (try refine wx_nil ?_)
      refine hdX ?_
      refine efX 11 rfl ?_
      (try refine wx_ungd rfl rfl ?_)
      apply wx_val
      exact v_agetT (clk := clk) hL rfl rfl rfl rfl rfl
      rfl
      (try refine wx_nil ?_)
      refine hdX ?_
      refine efX 13 rfl ?_
      refine wl_callT (fun w' hr ho => hi w' ho) rfl rfl rfl ?_
      rintro ⟨⟨A2, c2, B2, d2, m2⟩, E2, Es2⟩ ⟨⟨u1, u2, u3, u4⟩, hm2, hi2, hn2⟩
      dsimp only at u1 u2 hm2 ⊢
      have hm2 := hm2.symm
      subst hm2
      refine wx_cat ?_
      (try refine wx_nil ?_)
      refine hdX ?_
      refine efX 14 rfl ?_
      refine wl_mputT (clk := clk) rfl hok rfl rfl rfl rfl ?_
      (try refine wx_nil ?_)
      refine hdX ?_
      refine wh_done (by decide +kernel) ?_
      refine rSpJ_0 ?_
      refine wq_blk g (fsC ⟨A2, c2, B2, d2, ym⟩ N'.length sp'.length (cnt + 1)) (by rfl) ?_
      refine wq_setn ?_
      exact wq_ret1T (⟨A2, c2, B2, d2, ym⟩, E2, Es2) rfl rfl ⟨⟨u1, u2, u3, u4⟩, rfl, hi2, hn2⟩ rfl
    · refine rSpJ_0 ?_
      (try refine wx_nil ?_)
      refine hdX ?_
      refine wh_eff2 3 11 rfl rfl (by decide +kernel) ?_ ?_
      · refine rSpJ_0 ?_
        (try refine wx_nil ?_)
        refine hdX ?_
        refine efX 11 rfl ?_
        (try refine wx_ungd rfl rfl ?_)
        apply wx_val
        exact v_agetT (clk := clk) hL rfl rfl rfl rfl rfl
        rfl
        (try refine wx_nil ?_)
        refine hdX ?_
        refine efX 13 rfl ?_
        refine wl_callT (fun w' hr ho => hi w' ho) rfl rfl rfl ?_
        rintro ⟨⟨A2, c2, B2, d2, m2⟩, E2, Es2⟩ ⟨⟨u1, u2, u3, u4⟩, hm2, hi2, hn2⟩
        dsimp only at u1 u2 hm2 ⊢
        have hm2 := hm2.symm
        subst hm2
        refine wx_cat ?_
        (try refine wx_nil ?_)
        refine hdX ?_
        refine efX 14 rfl ?_
        refine wl_mputT (clk := clk) rfl hok rfl rfl rfl rfl ?_
        (try refine wx_nil ?_)
        refine hdX ?_
        refine wh_done (by decide +kernel) ?_
        refine rSpJ_0 ?_
        refine wq_blk g (fsC ⟨A2, c2, B2, d2, ym⟩ N'.length sp'.length (cnt + 1)) (by rfl) ?_
        refine wq_setn ?_
        exact wq_ret1T (⟨A2, c2, B2, d2, ym⟩, E2, Es2) rfl rfl ⟨⟨u1, u2, u3, u4⟩, rfl, hi2, hn2⟩ rfl
      · (try refine wx_ungd rfl rfl ?_)
        apply wx_val
        exact v_agetT (clk := clk) hL rfl rfl rfl rfl rfl
        rfl
        (try refine wx_nil ?_)
        refine hdX ?_
        refine wh_eff2 3 13 rfl rfl (by decide +kernel) ?_ ?_
        · refine rSpJ_0 ?_
          (try refine wx_nil ?_)
          refine hdX ?_
          refine efX 13 rfl ?_
          refine wl_callT (fun w' hr ho => hi w' ho) rfl rfl rfl ?_
          rintro ⟨⟨A2, c2, B2, d2, m2⟩, E2, Es2⟩ ⟨⟨u1, u2, u3, u4⟩, hm2, hi2, hn2⟩
          dsimp only at u1 u2 hm2 ⊢
          have hm2 := hm2.symm
          subst hm2
          refine wx_cat ?_
          (try refine wx_nil ?_)
          refine hdX ?_
          refine efX 14 rfl ?_
          refine wl_mputT (clk := clk) rfl hok rfl rfl rfl rfl ?_
          (try refine wx_nil ?_)
          refine hdX ?_
          refine wh_done (by decide +kernel) ?_
          refine rSpJ_0 ?_
          refine wq_blk g (fsC ⟨A2, c2, B2, d2, ym⟩ N'.length sp'.length (cnt + 1)) (by rfl) ?_
          refine wq_setn ?_
          exact wq_ret1T (⟨A2, c2, B2, d2, ym⟩, E2, Es2) rfl rfl ⟨⟨u1, u2, u3, u4⟩, rfl, hi2, hn2⟩ rfl
        · refine wl_callT (fun w' hr ho => hi w' ho) rfl rfl rfl ?_
          rintro ⟨⟨A2, c2, B2, d2, m2⟩, E2, Es2⟩ ⟨⟨u1, u2, u3, u4⟩, hm2, hi2, hn2⟩
          dsimp only at u1 u2 hm2 ⊢
          have hm2 := hm2.symm
          subst hm2
          refine wx_cat ?_
          (try refine wx_nil ?_)
          refine hdX ?_
          refine efX 3 rfl ?_
          refine rSpJ_0 ?_
          (try refine wx_nil ?_)
          refine hdX ?_
          refine efX 14 rfl ?_
          refine wl_mputT (clk := clk) rfl hok rfl rfl rfl rfl ?_
          (try refine wx_nil ?_)
          refine hdX ?_
          refine wh_done (by decide +kernel) ?_
          refine rSpJ_0 ?_
          refine wq_blk g (fsC ⟨A2, c2, B2, d2, ym⟩ N'.length sp'.length (cnt + 1)) (by rfl) ?_
          refine wq_setn ?_
          exact wq_ret1T (⟨A2, c2, B2, d2, ym⟩, E2, Es2) rfl rfl ⟨⟨u1, u2, u3, u4⟩, rfl, hi2, hn2⟩ rfl
theorem hasT_mem {t : Tr} {s : Sp} : hasT t s = true → s ∈ toL t := by
  induction t with
  | nil => intro h; exact absurd h (by simp [hasT])
  | node i l s0 r hh ff ihl ihr =>
    intro h
    unfold hasT at h
    unfold toL
    rcases cmp_cases s s0 with ⟨h1, h2⟩ | ⟨h1, h2⟩ | ⟨h1, h2⟩
    · rw [if_neg (by omega), if_pos h1] at h
      exact List.mem_append.2 (.inl (ihl h))
    · rw [h2]; simp
    · rw [if_neg (by omega), if_neg (by omega)] at h
      exact List.mem_append.2 (.inr (List.mem_cons_of_mem _ (ihr h)))
theorem remove_no (k : ByteArray) (s : Sp) {t : Tr} (hf : FsO N sp y E Es) (ht : At N t) (hL : RootAt L k t) (hc : hasT t s = false) (w : World) (ho : Own w (fsN g y N sp cnt E Es L clk)) :
    Calls Try.prog 62 #[.pointer (some ⟨g, 0, none⟩), .string k, .agg s.cells.toArray] w (Ret (β := Unit) w (ids (fsN g y N sp cnt E Es L clk)) (fun _ => .bool false) (fun _ => fsN g y N sp cnt E Es L clk) (fun _ => True)) := by
  refine go [.pointer (some ⟨g, 0, none⟩), .string k, .agg s.cells.toArray] (fsN g y N sp cnt E Es L clk) Try.func62 Try.ntmps62 rfl rfl ho ?_
  obtain ⟨h1, h2, h3, h4⟩ := hf
  have hs := fun w' ho => has_spec (clk := clk) (g := g) (cnt := cnt) (sp := sp) k s h1 h3 ht hL w' ho
  rw [hc] at hs
  refine rSpJ_0 ?_
  refine wl_boxA rfl rfl (fun g5 => ?_)
  refine rSpJ_0 ?_
  refine wl_callT (fun w' hr ho => hs w' ho) rfl rfl rfl ?_
  rintro - -
  refine rSpJ_0 ?_
  exact wq_ret1T () rfl rfl trivial rfl
/-- what the map holds when a span is taken out of a tree -/
def mapRem (k : ByteArray) (r : Nat) (L : TE ByteArray) (clk : Nat) : TE ByteArray := if r = 0 then adel k (aput k (.int .i64 (r : Nat)) L clk) else aput k (.int .i64 (r : Nat)) L clk
theorem remove_ok (k : ByteArray) (s : Sp) {t : Tr} (hf : FsO N sp y E Es) (ht : At N t) (hsr : Srt t) (hL : RootAt L k t) (hok : MapOk L clk) (hsz : N.length ≤ 1099511627776) (hsz2 : sp.length ≤ 1099511627776) (hcn : 0 ≤ cnt ∧ cnt ≤ 1099511627776) (hc : hasT t s = true) (w : World) (ho : Own w (fsN g y N sp cnt E Es L clk)) :
    Calls Try.prog 62 #[.pointer (some ⟨g, 0, none⟩), .string k, .agg s.cells.toArray] w (Ret (β := Fa × Seg × Seg) w (ids (fsN g y N sp cnt E Es L clk)) (fun _ => .bool true) (fun q => fsN g q.1 (remA t N sp s).2.1 (remA t N sp s).2.2 (cnt - 1) q.2.1 q.2.2 (mapRem k (remA t N sp s).1 L clk) (aclk k L clk)) (RemO N (remA t N sp s).2.1 (remA t N sp s).2.2 (remA t N sp s).1 y)) := by
  refine go [.pointer (some ⟨g, 0, none⟩), .string k, .agg s.cells.toArray] (fsN g y N sp cnt E Es L clk) Try.func62 Try.ntmps62 rfl rfl ho ?_
  obtain ⟨yA, yc, yB, yd, ym⟩ := y
  have hi := fun w' ho => remove_spec (g := g) (cnt := cnt) t hf ht hsr (hasT_mem hc) hsz hsz2 w' ho
  obtain ⟨h1, h2, h3, h4⟩ := hf
  have hs := fun w' ho => has_spec (clk := clk) (g := g) (cnt := cnt) (y := ⟨yA, yc, yB, yd, ym⟩) (sp := sp) k s h1 h3 ht hL w' ho
  rw [hc] at hs
  generalize remA t N sp s = q at *
  obtain ⟨k', N', sp'⟩ := q
  dsimp only at hi h1 h2 ⊢
  refine rSpJ_0 ?_
  refine wl_boxA rfl rfl (fun g5 => ?_)
  refine rSpJ_0 ?_
  refine wl_callT (fun w' hr ho => hs w' ho) rfl rfl rfl ?_
  rintro - -
  refine rSpJ_0 ?_
  refine wc_heldN [] [[(g5, .cells s.cells.toArray 110 (0, 0))]] (fun hQd => ?_)
  refine tkX 0 rfl (v_move rfl) ?_
  refine tkX 1 rfl (v_move rfl) ?_
  refine tkX 2 rfl (v_nil rfl) ?_
  refine tkX 3 rfl (v_faddr rfl rfl) ?_
  refine tkX 5 rfl (v_move rfl) ?_
  refine tkX 7 rfl (v_ldAT rfl (by rfl)) ?_
  refine efX 4 rfl ?_
  refine rSpJ_0 ?_
  (try refine wx_nil ?_)
  refine hdX ?_
  refine efX 6 rfl ?_
  (try refine wx_ungd rfl rfl ?_)
  apply wx_val
  exact v_agetT (clk := clk) hL rfl rfl rfl rfl rfl
  rfl
  (try refine wx_nil ?_)
  refine hdX ?_
  refine efX 8 rfl ?_
  refine wl_callT (fun w' hr ho => hi w' ho) rfl rfl rfl ?_
  rintro ⟨⟨A2, c2, B2, d2, m2⟩, E2, Es2⟩ ⟨⟨u1, u2, u3, u4⟩, hm2, hA2, hc2, hi2, hn2⟩
  dsimp only at u1 u2 hm2 hA2 hc2 ⊢
  have hm2 := hm2.symm
  subst hm2
  refine wx_cat ?_
  (try refine wx_nil ?_)
  refine hdX ?_
  refine tkX 9 rfl (v_assign rfl) ?_
  refine wh_done (by decide +kernel) ?_
  refine rSpJ_0 ?_
  refine wl_mputT (clk := clk) rfl hok rfl rfl rfl rfl ?_
  refine rSpJ_0 ?_
  unfold mapRem
  refine wc_if rfl (fun hd => ?_) (fun hd => ?_)
  · rw [if_pos (show k' = 0 by omega)]
    refine rSpJ_0 ?_
    refine wl_mdelT (clk := aclk k L clk) (L := aput k (.int .i64 (k' : Nat)) L clk) rfl (hok.put _ _) rfl rfl rfl ?_
    refine rSpJ_0 ?_
    refine wq_blk g (fsC ⟨A2, c2, B2, d2, ym⟩ N'.length sp'.length (cnt - 1)) (by rfl) ?_
    refine wq_setn ?_
    exact wq_ret1T (⟨A2, c2, B2, d2, ym⟩, E2, Es2) rfl rfl ⟨⟨u1, u2, u3, u4⟩, rfl, hA2, hc2, hi2, hn2⟩ rfl
  · rw [if_neg (show ¬ k' = 0 by omega)]
    refine rSpJ_0 ?_
    refine wq_blk g (fsC ⟨A2, c2, B2, d2, ym⟩ N'.length sp'.length (cnt - 1)) (by rfl) ?_
    refine wq_setn ?_
    exact wq_ret1T (⟨A2, c2, B2, d2, ym⟩, E2, Es2) rfl rfl ⟨⟨u1, u2, u3, u4⟩, rfl, hA2, hc2, hi2, hn2⟩ rfl
theorem zero_inb : Inb [Nd.zero] := by
  refine ⟨by decide, by decide, fun n hn => ?_, fun n hn => ?_⟩
  all_goals rw [List.mem_singleton.1 hn]; decide
theorem new_spec (w : World) :
    Calls Try.prog 28 #[] w (Ret (β := Nat × Fa × Seg) w (ids []) (fun q => .pointer (some ⟨q.1, 0, none⟩)) (fun q => fsN q.1 q.2.1 [Nd.zero] [] 0 q.2.2 [] [] 0) (fun q => FsO [Nd.zero] [] q.2.1 q.2.2 [])) := by
  refine go [] [] Try.func28 Try.ntmps28 rfl rfl (own_nil w) ?_
  refine rSpJ_0 ?_
  refine wl_make rfl rfl rfl rfl (by omega) (by omega) (by omega) rfl (fun g1 => ?_)
  refine wl_makeMap rfl (fun gm => ?_)
  refine wx_mem (M' := [mpB gm [] 0, [(g1, .cells Nd.zero.cells.toArray 148 (0, 0))]]) (by kernel_rfl) ?_
  refine wx_seg ?_
  skip
  (try refine wx_ungd rfl rfl ?_)
  apply wx_val
  exact v_build (cs := ((fsC ⟨some ⟨g1, 0, none⟩, 1, none, 0, gm⟩ 1 0 0)).toArray) rfl (by kernel_rfl)
  rfl
  refine wl_boxA rfl rfl (fun g => ?_)
  refine rSpJ_0 ?_
  exact wq_ret1T (L := []) (g, ⟨some ⟨g1, 0, none⟩, 1, none, 0, gm⟩, [(g1, .cells Nd.zero.cells.toArray 148 (0, 0))]) rfl rfl ⟨Buf.full (n := 1) Nd.zero.cells rfl (by decide), Buf.nil _ _, zero_inb, by simp⟩ rfl
end fs
end Go.Proofs.Ytlioccfedophhaa
/- A range over a function, in the seat's own logic. -/
set_option linter.unusedVariables false
set_option linter.unusedSimpArgs false
namespace Go.Proofs.Ytlioccfedophhaa
open Go
set_option maxRecDepth 20000
/-- the wide fence, in a round or not -/
abbrev FW (ro : Option Nat) : Fence := { Fence.wide with round := ro }
theorem calls_in {ro : Option Nat} {n : Nat} {P : Program} {f : FuncId} {args : Array Value} {w : World} {R : Ending → World → Prop} (h : Calls P f args w R) : CallsIn (FW ro) n P f args w R := callsIn_wide.2 h
theorem rows_in {ro : Option Nat} {n : Nat} {P : Program} {row : String} {args : Array Value} {w : World} {R : Value → World → Prop} (h : Rows P row args w R) : RowsIn (FW ro) n P row args w R := fun c cs _ => by
  obtain ⟨v, w', hR, hs⟩ := h c cs
  exact ⟨v, w', hR, (stepsIn_wide (P := P)).2 hs⟩
theorem Calls.mono' {P : Program} {f : FuncId} {args : Array Value} {w : World} {R R' : Ending → World → Prop} (h : Calls P f args w R) (hr : ∀ e w', R e w' → R' e w') : Calls P f args w R' :=
  callsIn_wide.1 ((callsIn_wide (n := 0).2 h).mono hr)
def noDefer (o : Oper) : Bool := match o.op with | .defer _ => false | _ => true
theorem noDefer_ne {o : Oper} (h : noDefer o = true) : ∀ c, o.op ≠ .defer c := fun c e => by simp [noDefer, e] at h
theorem oper_in {ro : Option Nat} {P : Program} {o : Oper} {a : Act} {w : World} {next next' : Act → World → Prop} {Q : Exit → Act → World → Prop} (hd : noDefer o = true) (hn : ∀ a w, next a w → next' a w) (h : o.wp P a w next Q) : o.wpIn (FW ro) 0 P a w next' Q := by
  refine ⟨fun _ _ => trivial, ?_⟩
  rw [Oper.semAt_eq _ _ _ (noDefer_ne hd)]
  unfold Oper.wp at h
  generalize (execOp a.eval o).run P w = r at h ⊢
  cases r with
  | halt s w' =>
    cases s with
    | panic v => exact h
    | _ => exact h
  | ok nx w' =>
    cases nx with
    | value v => exact hn _ _ h
    | skip => exact hn _ _ h
    | defer d => exact hn _ _ h
    | enter f args =>
      refine ⟨fun hh => by simp [FW, Fence.wide] at hh, (calls_in (Calls.mono' h fun e w' he => ?_))⟩
      cases e with
      | returned v => exact hn _ _ he
      | panicked c => exact he
      | outgrown => exact he
    | row row args =>
      exact ⟨fun hh => by simp [FW, Fence.wide] at hh, rows_in (Rows.mono h fun v w' he => hn _ _ he)⟩
    | _ => exact h.elim
theorem ops_in {ro : Option Nat} {P : Program} {ops : Array Oper} {Q : Exit → Act → World → Prop} (hQ : ¬ LetsOut Q) (hd : ∀ (i : Nat) (o : Oper), ops[i]? = some o → noDefer o = true) :
    ∀ (l : List Nat) (a : Act) (w : World), wpOps P ops Q l a w → wpOpsIn (FW ro) 0 P ops Q l a w
  | [], a, w, h => h
  | i :: rest, a, w, h => by
    unfold wpOps at h
    unfold wpOpsIn
    cases ho : ops[i]? with
    | none =>
      simp only [ho] at h ⊢
      exact ops_in hQ hd rest a w h
    | some o =>
      simp only [ho] at h ⊢
      split
      · rename_i hw
        rw [if_pos hw] at h
        rcases h with h | ⟨_, h⟩
        · exact oper_in (hd i o ho) (fun a w => ops_in hQ hd rest a w) h
        · exact absurd h hQ
      · rename_i hw
        rw [if_neg hw] at h
        exact ⟨fun _ _ => trivial, ops_in hQ hd rest _ w h⟩
theorem list_in {ro : Option Nat} {P : Program} {ops : Array Oper} {Q : Exit → Act → World → Prop} (hQ : ¬ LetsOut Q) :
    ∀ (l : List Oper) (a : Act) (w : World), l.all noDefer = true → wpList P ops Q l a w → wpListIn (FW ro) 0 P ops Q l a w
  | [], a, w, _, h => h
  | o :: rest, a, w, hd, h => by
    simp only [List.all_cons, Bool.and_eq_true] at hd
    unfold wpList at h
    unfold wpListIn
    split
    · rename_i hw
      rw [if_pos hw] at h
      rcases h with h | ⟨_, h⟩
      · exact oper_in hd.1 (fun a w => list_in hQ rest a w hd.2) h
      · exact absurd h hQ
    · rename_i hw
      rw [if_neg hw] at h
      exact ⟨fun _ _ => trivial, list_in hQ rest _ w hd.2 h⟩
theorem region_inL {ro : Option Nat} {P : Program} {Q : Exit → Act → World → Prop} {i : Nat} {l : List Oper} {a : Act} {w : World} (h : wpListIn (FW ro) 0 P l.toArray Q l a w) : (Code.region i l.toArray false).wpIn (FW ro) 0 P Q a w := by
  refine wpIn_region ?_
  rw [List.range_eq_range', ← Array.length_toList, wpOpsIn_eq_wpListIn l.toArray.toList 0 (by simp)]
  exact h
theorem regionD_in {ro : Option Nat} {P : Program} {Q : Exit → Act → World → Prop} {i : Nat} {ops : Array Oper} {a : Act} {w : World} {S : World → Prop} (hm : P.follows .mixedOrders = true) (hQ : ¬ LetsOut Q) (hd : ops.toList.all noDefer = true)
    (h : wpAnyH P .any ops Q S ops.size (Array.replicate ops.size false) a { w with drawn := w.drawn + 1 }) : (Code.region i ops true).wpIn (FW ro) 0 P Q a w :=
  wpIn_region_draw fun t => by
    simp only [Region.schedule, hm, Bool.true_or, if_true]
    exact ops_in hQ (fun i o ho => List.all_eq_true.1 hd o (List.mem_of_getElem? (by simpa using ho))) _ a _ (wpAny_sound ops.size t _ a _ (wpAny_of_held _ _ _ _ h))
/-! ### code within a round -/
def WR (P : Program) (Q : Exit → Act → World → Prop) (nt : Sh) (w0 : World) (X : List Nat) (lp : Nat) (c : Code) (fr : Fr) (M : List Seg) : Prop := ∀ a w, St nt a fr → Res w0 X w M → c.wpIn (FW (some lp)) 0 P Q a w
section R
variable {P : Program} {Q : Exit → Act → World → Prop} {nt : Sh} {w0 : World} {X : List Nat} {fr : Fr} {M : List Seg} {lp : Nat}
theorem wr_seq {x y : Code} (h : WR P (Exit.then (fun a w => y.wpIn (FW (some lp)) 0 P Q a w) Q) nt w0 X lp x fr M) : WR P Q nt w0 X lp (.seq x y) fr M := fun a w hs hr => wpIn_seq (h a w hs hr)
theorem wr_skip (h : WQ Q nt w0 X .normal fr M) : WR P Q nt w0 X lp .skip fr M := fun a w hs hr => wpIn_skip (h a w hs hr)
theorem wr_block {i : Nat} {c : Code} (h : WR P (Exit.inBlock i Q) nt w0 X lp c fr M) : WR P Q nt w0 X lp (.block i c) fr M := fun a w hs hr => wpIn_block (h a w hs hr)
theorem wr_next {y : Code} (h : WR P Q nt w0 X lp y fr M) : WQ (Exit.then (fun a w => y.wpIn (FW (some lp)) 0 P Q a w) Q) nt w0 X .normal fr M := fun a w hs hr => h a w hs hr
theorem wr_region {i : Nat} {l : List Oper} (hQ : ¬ LetsOut Q) (hd : l.all noDefer = true) (h : WX .seq P l.toArray Q nt w0 X l fr M) : WR P Q nt w0 X lp (.region i l.toArray false) fr M := fun a w hs hr =>
  region_inL (list_in hQ l a w hd (h a w hs hr))
theorem wr_held (Ms : List Seg) {i : Nat} {l : List Oper} (hm : P.follows .mixedOrders = true) (hQ : ¬ LetsOut Q) (hd : l.all noDefer = true) (hq : PanicOk Q) (h : PanicOk Q → WH P l.toArray Q nt w0 X Ms l.length (Array.replicate l.length false) fr M) : WR P Q nt w0 X lp (.region i l.toArray true) fr M := fun a w hs hr =>
  regionD_in (S := fun w => Res w0 X w Ms) hm hQ (by simpa using hd) (by rw [show l.toArray.size = l.length from by simp]; exact h hq a _ hs (hr.drew _))
theorem wr_heldX (ks : List Nat) (Ms : List Seg) {i : Nat} {l : List Oper} (hm : P.follows .mixedOrders = true) (hQ : ¬ LetsOut Q) (hd : l.all noDefer = true) (hq : PanicNot ks Q) (h : PanicNot ks Q → WH P l.toArray Q nt w0 X Ms l.length (Array.replicate l.length false) fr M) : WR P Q nt w0 X lp (.region i l.toArray true) fr M := fun a w hs hr =>
  regionD_in (S := fun w => Res w0 X w Ms) hm hQ (by simpa using hd) (by rw [show l.toArray.size = l.length from by simp]; exact h hq a _ hs (hr.drew _))
theorem wr_if {x y : Code} {o : Operand} {p : Prop} [Decidable p] (hc : ev fr o = some (.bool (decide p))) (h1 : p → WR P Q nt w0 X lp x fr M) (h2 : ¬ p → WR P Q nt w0 X lp y fr M) : WR P Q nt w0 X lp (.cond o x y) fr M := fun a w hs hr => by
  by_cases hp : p
  · exact wpIn_cond_true (by rw [hs.ev hc, decide_eq_true hp]) (h1 hp a w hs hr)
  · exact wpIn_cond_false (by rw [hs.ev hc, decide_eq_false hp]) (h2 hp a w hs hr)
theorem out_then {N : Act → World → Prop} (h : ¬ LetsOut Q) : ¬ LetsOut (Exit.then N Q) := fun ⟨a, w, hq⟩ => h ⟨a, w, hq⟩
theorem out_block {i : Nat} (h : ¬ LetsOut Q) : ¬ LetsOut (Exit.inBlock i Q) := fun ⟨a, w, hq⟩ => h ⟨a, w, hq⟩
end R
/-! ### operations, where one calls yield -/
def WY (P : Program) (ops : Array Oper) (Q : Exit → Act → World → Prop) (nt : Sh) (w0 : World) (X : List Nat) (rest : List Oper) (fr : Fr) (M : List Seg) : Prop := ∀ a w, St nt a fr → Res w0 X w M → wpListIn (FW none) 0 P ops Q rest a w
section Y
variable {P : Program} {ops : Array Oper} {Q : Exit → Act → World → Prop} {nt : Sh} {w0 : World} {X : List Nat} {fr : Fr} {M : List Seg} {rest : List Oper}
theorem wy_of (hQ : ¬ LetsOut Q) (hd : rest.all noDefer = true) (h : WX .seq P ops Q nt w0 X rest fr M) : WY P ops Q nt w0 X rest fr M := fun a w hs hr => list_in hQ rest a w hd (h a w hs hr)
theorem wc_regionY {i : Nat} {l : List Oper} (h : WY P l.toArray Q nt w0 X l fr M) : WC P Q nt w0 X (.region i l.toArray false) fr M := fun a w hs hr => wpIn_wide.1 (region_inL (ro := none) (h a w hs hr))
theorem wy_val {d : Nat} {op : Op} {ty : TypeId} {pos : String} {af : Array Edge} {gd : Option (Nat × Bool)} {v : Value} (hv : Val P nt w0 X fr M ⟨some d, op, ty, pos, af, gd⟩ v) (hg : gd = none ∨ ∃ j b s, gd = some (j, b) ∧ gslot ops j = some s ∧ look fr s = some (.bool b)) (hnd : noDefer ⟨some d, op, ty, pos, af, gd⟩ = true) (hd : Nat.blt d nt.n = true)
    (h : WY P ops Q nt w0 X rest ((d, v) :: fr) M) : WY P ops Q nt w0 X (⟨some d, op, ty, pos, af, gd⟩ :: rest) fr M := fun a w hs hr => by
  unfold wpListIn
  have hw : Region.wanted ⟨some d, op, ty, pos, af, gd⟩ (yielded ops a.tmps) = true := by
    rcases hg with rfl | ⟨j, b, s, rfl, hj, hb⟩
    · exact wanted_none rfl
    · exact wanted_yes hs rfl hj hb
  rw [if_pos hw]
  refine oper_in (next := fun a w => wpListIn (FW none) 0 P ops Q rest a w) hnd (fun _ _ h => h) ?_
  unfold Oper.wp
  rw [hv a w hs hr]
  exact h _ _ (hs.put v (by simpa using hd)) hr
theorem wy_no {d : Nat} {op : Op} {ty : TypeId} {pos : String} {af : Array Edge} {j s : Nat} {b : Bool} (hj : gslot ops j = some s) (hb : look fr s = some (.bool (!b))) (hd : Nat.blt d nt.n = true)
    (h : WY P ops Q nt w0 X rest ((d, undef) :: fr) M) : WY P ops Q nt w0 X (⟨some d, op, ty, pos, af, some (j, b)⟩ :: rest) fr M := fun a w hs hr => by
  unfold wpListIn
  rw [if_neg (by rw [wanted_no hs rfl hj hb]; decide)]
  exact ⟨fun _ _ => trivial, h _ _ (hs.put undef (by simpa using hd)) hr⟩
theorem wy_yield {d l : Nat} {x y : Operand} {t ty : TypeId} {pos : String} {af : Array Edge} {gd : Option (Nat × Bool)} {v : Value} {β : Type} {val : β → Value} {MM : β → List Seg} {φ : β → Prop} {M1 L : List Seg}
    (hc : ∀ w, Res w0 X w (M1 ++ L) → Own w M1 → YieldAt Fence.wide 0 P l #[v] w (Ret w (ids M1) val MM φ)) [T : Takes M1 M L] (hx : ev fr x = some (.func (.yield l) #[] #[])) (hy : ev fr y = some v)
    (hg : gd = none ∨ ∃ j b s, gd = some (j, b) ∧ gslot ops j = some s ∧ look fr s = some (.bool b)) (hd : Nat.blt d nt.n = true)
    (h : ∀ z, φ z → WY P ops Q nt w0 X rest ((d, val z) :: fr) (MM z ++ L)) : WY P ops Q nt w0 X (⟨some d, .call ⟨.value x, #[y], #[t]⟩, ty, pos, af, gd⟩ :: rest) fr M := fun a w hs hr => by
  unfold wpListIn
  have hw : Region.wanted ⟨some d, .call ⟨.value x, #[y], #[t]⟩, ty, pos, af, gd⟩ (yielded ops a.tmps) = true := by
    rcases hg with rfl | ⟨j, b, s, rfl, hj, hb⟩
    · exact wanted_none rfl
    · exact wanted_yes hs rfl hj hb
  rw [if_pos hw]
  have hp := hr.perm T.perm
  obtain ⟨fn, tmps, assign, body, hyl, hR⟩ := hc w hp hp.own.left
  refine ⟨fun _ _ => trivial, ?_⟩
  have he : (Oper.semAt (FW none).round a.eval ⟨some d, .call ⟨.value x, #[y], #[t]⟩, ty, pos, af, gd⟩).run P w = .ok (.round l fn tmps assign body) w := by
    rw [Oper.semAt_eq _ _ _ (by simp)]
    simp [execOp, resolve, hs.ev hx, hs.ev hy, invoke, hyl, Deferred.ofValue]
  rw [he]
  refine ⟨fun hh => by simp [FW, Fence.wide] at hh, RoundIn.mono (F := FW none) hR fun e w' hw' => ?_⟩
  obtain ⟨z, hz, rfl, hr'⟩ := hw'
  exact h z hz _ _ (hs.put _ (by simpa using hd)) (hp.call hr')
end Y
theorem yield_mono {F : Fence} {m : Nat} {P : Program} {l : Nat} {args : Array Value} {W : World} {R R' : Ending → World → Prop} (h : YieldAt F m P l args W R) (hr : ∀ e w', R e w' → R' e w') : YieldAt F m P l args W R' := by
  obtain ⟨a, b, c, d, e, f⟩ := h
  exact ⟨a, b, c, d, e, RoundIn.mono f hr⟩
/-! ### one round, and the statement -/
/-- the loop's record -/
def rec0 (fn : FuncId) (tmps : Array Value) (ps : Array Tmp) (assign body : Code) (D : Nat) : Loop := { state := .ready, pending := none, fn := fn, tmps := tmps, params := ps, assign := assign, body := body, defers := D }
abbrev lpB (l : Nat) (r : Loop) : Seg := [(l, .loop r)]
abbrev dfB (D : Nat) : Seg := [(D, .deferred (some []))]
def busy (r : Loop) : Loop := { r with state := .busy }
/-- behind the assignments of a round -/
def assQ (P : Program) (l : Nat) (body : Code) (R : Ending → World → Prop) : Exit → Act → World → Prop :=
  Exit.then (fun a₁ w₁ => ∃ w₂, (Instr.beginRound l).run P w₁ = .ok () w₂ ∧ body.wpIn (FW (some l)) 0 P (roundPost P l R) a₁ w₂) (fun _ _ _ => False)
theorem out_ass {P : Program} {l : Nat} {body : Code} {R : Ending → World → Prop} : ¬ LetsOut (assQ P l body R) := fun ⟨_, _, h⟩ => h
theorem out_round {P : Program} {l : Nat} {R : Ending → World → Prop} : ¬ LetsOut (roundPost P l R) := fun ⟨_, _, h⟩ => h
theorem panicOk_round {P : Program} {l : Nat} {R : Ending → World → Prop} : PanicOk (roundPost P l R) := fun _ _ _ _ _ h => h.elim
section S
variable {P : Program} {nt : Sh} {w0 : World} {X : List Nat} {fr : Fr} {M R' : List Seg} {l : Nat}
theorem res_put {w : World} {g : Nat} {o o' : Obj} (h : Res w0 X w M) [T : Take [(g, o)] M R'] : w.heap[g]? = some o ∧ Res w0 X (w.putObj g o') ([(g, o')] :: R') := by
  have hp := h.perm T.perm
  have hb := hp.blk (i := 0) (j := 0) rfl rfl
  exact ⟨hb, hp.turnAt (i := 0) rfl (res_obj hb)⟩
theorem wq_begin {body : Code} {r : Loop} {R : Ending → World → Prop} (hready : r.state = .ready) [T : Take (lpB l r) M R'] (h : WR P (roundPost P l R) nt w0 X l body fr (lpB l (busy r) :: R')) : WQ (assQ P l body R) nt w0 X .normal fr M := fun a w hs hr => by
  obtain ⟨hb, hr'⟩ := res_put (g := l) (o := .loop r) (o' := .loop (busy r)) hr
  exact ⟨_, run_beginRound hb hready, h a _ hs hr'⟩
theorem wq_end {β : Type} {MM : β → List Seg} {φ : β → Prop} {r : Loop} (hready : r.state = .ready) (hpend : r.pending = none) (x : β) (hφ : φ x) [T : Take (lpB l (busy r)) M R'] {L : List Seg} [T2 : Takes (MM x) (lpB l r :: R') L] : WQ (roundPost P l (Ret w0 X (fun _ => .bool true) MM φ)) nt w0 X .normal fr M := fun a w hs hr => by
  obtain ⟨hb, hr'⟩ := res_put (g := l) (o := .loop (busy r)) (o' := .loop r) hr
  refine ⟨_, _, run_endRound none hb, x, hφ, rfl, ?_⟩
  have e : ({ busy r with state := if (none : Option Code).isNone then LoopState.ready else .done, pending := none } : Loop) = r := by
    cases r
    simp only at hready hpend
    subst hready hpend
    rfl
  rw [e]
  exact (hr'.perm T2.perm).drop
theorem wq_endM {β : Type} {MM : β → List Seg} {φ : β → Prop} {r : Loop} (hready : r.state = .ready) (hpend : r.pending = none) (x : β) (hφ : φ x) {M2 : List Seg} (hM : MM x = M2) [T : Take (lpB l (busy r)) M R'] {L : List Seg} [T2 : Takes M2 (lpB l r :: R') L] : WQ (roundPost P l (Ret w0 X (fun _ => .bool true) MM φ)) nt w0 X .normal fr M := by
  subst hM
  exact wq_end hready hpend x hφ
/-- a round: yield's contract out of the body's walk -/
theorem yield_of {n : Nat} {a : Act} {fn : FuncId} {p D : Nat} {assign body : Code} {v : Value} {R : Ending → World → Prop} {w : World} {M1 : List Seg} {rc : Loop} (erc : rc = rec0 fn a.tmps #[p] assign body D) (hs : St ⟨n, []⟩ a fr) (hp : Nat.blt p n = true) (ho : Own w (lpB l rc :: M1))
    (h : WR P (assQ P l body R) ⟨n, []⟩ w (ids (lpB l rc :: M1)) l assign ((p, v) :: fr) (lpB l rc :: M1)) : YieldAt Fence.wide 0 P l #[v] w R := by
  subst erc
  have hb := (Res.refl ho).blk (i := 0) (j := 0) rfl rfl
  have hy := run_yield (P := P) (args := #[v]) hb rfl
  refine ⟨_, _, _, _, hy, roundIn_of_wpIn trivial ?_⟩
  have hs' := hs.put (d := p) v (by simpa using hp)
  have hda : a.defers = [] := hs.calm
  refine h _ w ?_ (Res.refl ho)
  have e : ({ tmps := ((#[p] : Array Tmp).zip #[v]).foldl (fun t (q, u) => t.setIfInBounds q u) a.tmps, defers := [] } : Act) = a.put (some p) v := by
    cases a
    simp only at hda
    subst hda
    simp [Act.put]
  exact e ▸ hs'
end S
/-- for s := range f { .. } -/
theorem wc_rangeFunc {P : Program} {Q : Exit → Act → World → Prop} {n : Nat} {w0 : World} {X : List Nat} {fr : Fr} {M : List Seg} {o : Operand} {p gf : Nat} {lb : Array Value} {assign body : Code} {β : Type} {val : β → Value} {MM : β → List Seg} {φ : β → Prop} {M1 L : List Seg}
    (hx : ev fr o = some (.func (.func gf) #[] lb)) (hf : okFn P gf = true) [T : Takes M1 M L]
    (hc : ∀ l D fn a w rc, rc = rec0 fn a.tmps #[p] assign body D → St ⟨n, []⟩ a fr → Own w (lpB l rc :: M1) → Calls P gf (#[.func (.yield l) #[] #[]] ++ lb) w (Ret w (ids (lpB l rc :: M1)) val (fun x => lpB l rc :: MM x) φ))
    (h : ∀ x D, φ x → WQ Q ⟨n, [{ target := .collected D, args := #[] }]⟩ w0 X .normal fr (dfB D :: (MM x ++ L))) : WC P Q ⟨n, []⟩ w0 X (.rangeFunc o #[p] assign body) fr M := fun a w hs hr => by
  refine (wpIn_wide (n := 0)).1 (wpIn_rangeFunc fun fn _ => ?_)
  have hg := hs.ev hx
  obtain ⟨W1, hW1⟩ : ∃ W1, (w.alloc (.deferred (some []))).alloc (.loop (rec0 fn a.tmps #[p] assign body w.heap.size)) = W1 := ⟨_, rfl⟩
  have hr1 : Res w0 X W1 (lpB (w.heap.size + 1) (rec0 fn a.tmps #[p] assign body w.heap.size) :: dfB w.heap.size :: M) := by
    rw [← hW1]
    have h1 := hr.new (w' := w.alloc (.deferred (some []))) (.deferred (some [])) rfl rfl rfl rfl
    have h2 := h1.new (w' := (w.alloc (.deferred (some []))).alloc (.loop (rec0 fn a.tmps #[p] assign body w.heap.size))) (.loop (rec0 fn a.tmps #[p] assign body w.heap.size)) rfl rfl rfl rfl
    rwa [World.size_alloc] at h2
  have hr2 : Res w0 X W1 ((lpB (w.heap.size + 1) (rec0 fn a.tmps #[p] assign body w.heap.size) :: M1) ++ (dfB w.heap.size :: L)) :=
    hr1.perm (by
      refine List.Perm.cons _ ?_
      exact (List.Perm.cons _ T.perm).trans List.perm_middle.symm)
  refine ⟨w.heap.size + 1, [{ target := .collected w.heap.size, args := #[] }], W1, { target := .fn (.func gf) lb, args := #[.func (.yield (w.heap.size + 1)) #[] #[]] }, W1, gf,
    #[.func (.yield (w.heap.size + 1)) #[] #[]] ++ lb, W1, ?_, ?_, fun _ _ => trivial, ?_, fun hh => by simp [Fence.wide] at hh, ?_⟩
  · rw [← hW1]; exact run_enterLoop_outer _ _ _ _ _
  · simp only [resolve, hg]
    simp [go_sem]
  · simp [invoke, run_callFunc hf]
  · generalize w.heap.size = WS at *
    refine calls_in (ro := none) (Calls.mono' (hc _ _ fn a W1 _ rfl hs hr2.own.left) fun e w' he => ?_)
    obtain ⟨x, hφ, rfl, hx'⟩ := he
    have h3 : Res w0 X w' (lpB (WS + 1) (rec0 fn a.tmps #[p] assign body WS) :: (MM x ++ (dfB WS :: L))) := hr2.call hx'
    obtain ⟨hb, h4⟩ := res_put (g := WS + 1) (o := .loop (rec0 fn a.tmps #[p] assign body WS)) (o' := .loop { rec0 fn a.tmps #[p] assign body WS with state := .exhausted }) h3
    refine ⟨none, _, run_endLoop hb (by simp [rec0]), ?_⟩
    refine h x WS hφ _ _ ⟨hs.size, hs.has, ?_⟩ ?_
    · show [_] ++ a.defers = _
      rw [hs.calm]
      rfl
    · exact (h4.perm ((List.perm_append_comm (l₁ := [_])).trans (List.Perm.append_right _ List.perm_middle))).drop
/-! ### a function that holds such a loop -/
section L
variable {P : Program} {fn : Func} {w0 : World} {X : List Nat} {fr : Fr} {M : List Seg} {β : Type} {val : β → Value} {MM : β → List Seg} {φ : β → Prop}
theorem goM {f : FuncId} {c : Code} (args : List Value) {w : World} {R : Ending → World → Prop} (M : List Seg)
    (hf : P.funcs[f]? = some fn) {nt : Nat} (hnt : fn.ntmps = nt) (hb : fn.body = some c) (hn : Nat.ble args.length nt = true)
    (hM : Own w M) (h : WC P (bodyPostM Fence.wide 0 P fn R) ⟨nt, []⟩ w (ids M) c (argsFr 0 args) M) : Calls P f args.toArray w R := by
  subst hnt
  have hn := Nat.le_of_ble_eq_true hn
  refine (callsIn_wide (n := 0)).1 (callsIn_of_wp_marks hf hb trivial (wpIn_wide.2 (h _ w ⟨?_, fun k v e => ?_, rfl⟩ (Res.refl hM))))
  · simp; omega
  · have h1 := (argsFr_spec args 0 k v (List.replicate (fn.ntmps - args.length) undef) e).2
    have h2 : args.toArray ++ Array.replicate (fn.ntmps - args.toArray.size) undef = (args ++ List.replicate (fn.ntmps - args.length) undef).toArray := by simp
    show (args.toArray ++ Array.replicate (fn.ntmps - args.toArray.size) undef)[k]? = some v
    rw [h2, List.getElem?_toArray]
    simpa using h1
theorem wq_retM {n D : Nat} (x : β) {R' L : List Seg} [T : Take (dfB D) M R'] [T2 : Takes (MM x) R' L] (hr : ∀ a w, St ⟨n, [{ target := .collected D, args := #[] }]⟩ a fr → Res w0 X w R' → (results fn a.tmps).run P w = .ok (val x) w) (hφ : φ x) :
    WQ (bodyPostM Fence.wide 0 P fn (Ret w0 X val MM φ)) ⟨n, [{ target := .collected D, args := #[] }]⟩ w0 X .ret fr M := fun a w hs hres => by
  obtain ⟨hb, h1⟩ := res_put (g := D) (o := .deferred (some [])) (o' := .deferred none) hres
  have h2 : Res w0 X (w.putObj D (.deferred none)) R' := (h1.perm (List.perm_append_comm (l₁ := [_]))).drop
  show LeavesInM Fence.wide 0 P fn a.tmps _ a.defers _ w
  rw [hs.calm]
  refine ⟨by simp, .inl ⟨D, _, rfl, run_takeDeferred hb, ?_⟩⟩
  exact ⟨val x, hr a _ hs h2, x, hφ, rfl, (h2.perm T2.perm).drop⟩
theorem wq_retM1 {n D t : Nat} (x : β) {R' L : List Seg} [T : Take (dfB D) M R'] [T2 : Takes (MM x) R' L] (hr : fn.results = #[.tmp t]) (hv : look fr t = some (val x)) (hφ : φ x) :
    WQ (bodyPostM Fence.wide 0 P fn (Ret w0 X val MM φ)) ⟨n, [{ target := .collected D, args := #[] }]⟩ w0 X .ret fr M :=
  wq_retM x (fun a w hs _ => by rw [results_tmp hr, hs.get hv]) hφ
theorem out_bodyM {w : World} : ¬ LetsOut (bodyPostM Fence.wide 0 P fn (Ret w0 X val MM φ)) := fun ⟨_, _, _, _, he, _⟩ => by cases he
theorem out_body : ¬ LetsOut (bodyPost P fn (Ret w0 X val MM φ)) := fun ⟨_, _, _, _, he, _⟩ => by cases he
end L
/-! ### memory cut into other segments -/
section F
variable {w0 w : World} {X Y : List Nat} {M N : List Seg}
theorem Own.flatP (h : Own w M) (e : M.flatten.Perm N.flatten) : Own w N := ⟨((e.map _).nodup_iff).1 h.nd, fun p hp => h.at_ p (e.mem_iff.2 hp)⟩
theorem Res.flatP (h : Res w0 X w M) (e : M.flatten.Perm N.flatten) : Res w0 X w N := ⟨h.own.flatP e, fun i hi => h.sub i ((e.map _).mem_iff.2 hi), h.keep, h.size, h.os, h.tape, h.output⟩
theorem Res.xs (h : Res w0 X w M) (e : ∀ i, i ∈ X ↔ i ∈ Y) : Res w0 Y w M := ⟨h.own, fun i hi => (h.sub i hi).imp (e i).1 id, fun i hi hx => h.keep i hi (fun hx' => hx ((e i).1 hx')), h.size, h.os, h.tape, h.output⟩
theorem ids_flat (e : M.flatten.Perm N.flatten) : ∀ i, i ∈ ids M ↔ i ∈ ids N := fun i => (e.map _).mem_iff
theorem ret_flat {β : Type} {val : β → Value} {MM NN : β → List Seg} {φ : β → Prop} {e : Ending} {w' : World} (h : Ret w (ids M) val MM φ e w') (hM : M.flatten.Perm N.flatten) (hN : ∀ x, φ x → (MM x).flatten.Perm (NN x).flatten) : Ret w (ids N) val NN φ e w' := by
  obtain ⟨x, hx, he, hr⟩ := h
  exact ⟨x, hx, he, (hr.flatP (hN x hx)).xs (ids_flat hM)⟩
theorem flat_mid (A : Seg) (R S : List Seg) : (A :: (R ++ S)).flatten.Perm ((R ++ [A ++ S.flatten]).flatten) := by
  simp only [List.flatten_cons, List.flatten_append, List.flatten_nil, List.append_nil]
  exact List.perm_append_comm_assoc _ _ _
theorem flat_in (A : Seg) (S : List Seg) : ([A ++ S.flatten] : List Seg).flatten.Perm (A :: S).flatten := by
  simp only [List.flatten_cons, List.flatten_nil, List.append_nil]
  exact List.Perm.refl _
end F
end Go.Proofs.Ytlioccfedophhaa
