/- The walk over a tree. -/
import Derived.Test.YtjeghbachokljaaSpJ
import Derived.Test.YtjeghbachokljaaSpR
set_option linter.unusedVariables false
set_option linter.unusedSimpArgs false
namespace Go.Proofs.Ytjeghbachokljaa
open Go
set_option maxRecDepth 20000
set_option maxHeartbeats 2000000
attribute [local irreducible] WX WC WQ Val VCall WY
/-- the spans that the walk meets -/
def overT (lo hi : Int) : Tr → List Sp
  | .nil => []
  | .node _ l s r _ f => if f ≤ lo then [] else overT lo hi l ++ (if hi ≤ s.a then [] else (if lo < s.b then [s] else []) ++ overT lo hi r)
theorem overT_len (lo hi : Int) : ∀ t : Tr, (overT lo hi t).length ≤ t.size
  | .nil => Nat.le_refl _
  | .node i l s r h f => by
    have h1 := overT_len lo hi l
    have h2 := overT_len lo hi r
    unfold overT Tr.size
    split
    · simp
    · rw [List.length_append]
      split
      · simp; omega
      · rw [List.length_append]
        split <;> simp <;> omega
section fs
variable {g k : Nat} {y : Fa} {cnt : Int} {N : List Nd} {E : Seg}
theorem walk_spec {β : Type} (MB : β → Seg) (ok : List Sp → β → Prop) {lp n0 : Nat} (lo hi : Int) (h1 : ArO N N.length y.A y.c E) (h3 : Inb N)
    (hY : ∀ pre q (s : Sp) W, pre.length < n0 → ok pre q → Own W [MB q] → YieldAt Fence.wide 0 Try.prog lp #[.agg s.cells.toArray] W (Ret (β := β) W (ids [MB q]) (fun _ => .bool true) (fun q' => [MB q']) (ok (pre ++ [s])))) (t : Tr) :
    ∀ pre q, At N t → pre.length + t.size ≤ n0 → ok pre q → ∀ w, Own w [fsB g y N.length k cnt, E, MB q] →
    Calls Try.prog 41 #[.pointer (some ⟨g, 0, none⟩), .int .i64 (t.ix : Nat), .int .i64 lo, .int .i64 hi, .func (.yield lp) #[] #[]] w (Ret (β := β) w (ids [fsB g y N.length k cnt, E, MB q]) (fun _ => .bool true) (fun q' => [fsB g y N.length k cnt, E, MB q']) (ok (pre ++ overT lo hi t))) := by
  have hp := h3.pos
  have hsm := h3.small
  obtain ⟨ga, hA⟩ := h1.ptr hp
  induction t with
  | nil =>
    intro pre q ht hz hq w ho
    refine go [.pointer (some ⟨g, 0, none⟩), .int .i64 0, .int .i64 lo, .int .i64 hi, .func (.yield lp) #[] #[]] [fsB g y N.length k cnt, E, MB q] Try.func41 Try.ntmps41 rfl rfl ho ?_
    have hN0 := (nd_mem hp).1
    repeat (first | (apply wx_val; (first | exact v_move rfl | exact v_assign rfl | exact v_nil rfl | exact v_faddr rfl rfl | exact v_ldT rfl rfl rfl (by rfl) | exact v_iaddrE (by assumption) rfl rfl rfl (by omega)); rfl) | refine wc_seq ?_ | refine wc_region ?_ | refine wx_nil ?_ | refine wq_next ?_)
    (try refine wx_ungd rfl rfl ?_)
    apply wx_val
    exact v_loadA (cs := Nd.cells (nd N 0)) rfl rfl (fun w' hr j u hj => h1.elemT (i := 0) hA (by decide) (fun _ => rfl) hN0 hr (j := j) (v := u) hj (by simp))
    rfl
    refine wl_alloc rfl rfl (fun g11 => ?_)
    repeat (first | (apply wx_val; (first | exact v_move rfl | exact v_assign rfl | exact v_eq rfl rfl | exact v_pickT rfl rfl); rfl) | refine wx_no rfl rfl rfl ?_ | refine wc_seq ?_ | refine wc_region ?_ | refine wx_nil ?_ | refine wq_next ?_ | refine wc_ret ?_ | refine wq_then_ret ?_ | refine wc_setn ?_ | refine wc_condT rfl ?_ | refine wl_stAT rfl rfl (by rfl) (by rfl) (by exact .inl (Nat.le_refl _)) rfl ?_)
    exact wq_ret1T q rfl rfl (by simpa [overT] using hq) rfl
  | node i l s0 r hh ff ihl ihr =>
    intro pre q ht hz hq w ho
    obtain ⟨t1, t2, hnd, hlr1, hlr2⟩ := ht
    have hNi := (nd_mem t2).1
    refine go [.pointer (some ⟨g, 0, none⟩), .int .i64 (i : Nat), .int .i64 lo, .int .i64 hi, .func (.yield lp) #[] #[]] [fsB g y N.length k cnt, E, MB q] Try.func41 Try.ntmps41 rfl rfl ho ?_
    have hl1 := overT_len lo hi l
    have hl2 := overT_len lo hi r
    simp only [Tr.size] at hz
    unfold overT
    repeat (first | (apply wx_val; (first | exact v_move rfl | exact v_assign rfl | exact v_nil rfl | exact v_faddr rfl rfl | exact v_ldT rfl rfl rfl (by rfl) | exact v_iaddrE (by assumption) rfl rfl rfl (by omega)); rfl) | refine wc_seq ?_ | refine wc_region ?_ | refine wx_nil ?_ | refine wq_next ?_)
    (try refine wx_ungd rfl rfl ?_)
    apply wx_val
    exact v_loadA (cs := Nd.cells ⟨s0, l.ix, r.ix, hh, ff⟩) rfl rfl (fun w' hr j u hj => h1.elemT (i := i) hA (by decide) (fun _ => rfl) hNi hr (j := j) (v := u) (by rw [hnd]; exact hj) (by rw [Int.toNat_natCast]))
    rfl
    refine wl_alloc rfl rfl (fun g11 => ?_)
    repeat' (first | (apply wx_val; (first | exact v_move rfl | exact v_assign rfl | exact v_faddr rfl rfl | exact v_ldT rfl rfl rfl (by rfl) | exact v_eq rfl rfl | exact v_le rfl rfl | exact v_pickT rfl rfl | exact v_pickF rfl rfl); rfl) | refine wx_no rfl rfl rfl ?_ | refine wx_ungd rfl rfl ?_ | refine wc_seq ?_ | refine wc_region ?_ | refine wx_nil ?_ | refine wq_next ?_ | refine wc_ret ?_ | refine wc_skip ?_ | refine wq_then_ret ?_ | refine wx_setn ?_ | refine wc_condT rfl ?_ | refine wl_stAT rfl rfl (by rfl) (by rfl) (by exact .inl (Nat.le_refl _)) rfl ?_ | refine wc_if rfl (fun _ => ?_) (fun _ => ?_) | refine wx_gif rfl rfl (fun _ => ?_) (fun _ => ?_))
    · exact absurd (show (i : Int) = 0 by assumption) (by omega)
    · rename_i hx hy
      rw [if_pos hy]
      exact wq_ret1T q rfl rfl (by simpa using hq) rfl
    rename_i hx hy
    have hy' : ¬ ff ≤ lo := hy
    rw [if_neg hy']
    refine wl_callT (fun w' hr ho => ihl pre q hlr1 (by omega) hq w' ho) rfl rfl rfl ?_
    intro q1 hq1
    repeat (first | (apply wx_val; (first | exact v_move rfl | exact v_faddr rfl rfl | exact v_ldT rfl rfl rfl (by rfl) | exact v_ge rfl rfl | exact v_not rfl); rfl) | refine wc_seq ?_ | refine wc_region ?_ | refine wx_nil ?_ | refine wq_next ?_ | refine wc_skip ?_ | refine wc_cat ?_ | refine wc_condF rfl ?_)
    refine wc_if rfl (fun hc => ?_) (fun hc => ?_)
    · have hc' : hi ≤ s0.a := hc
      rw [if_pos hc']
      repeat (first | (apply wx_val; (first | exact v_assign rfl); rfl) | refine wc_seq ?_ | refine wc_region ?_ | refine wx_nil ?_ | refine wq_next ?_ | refine wc_ret ?_ | refine wq_then_ret ?_)
      exact wq_ret1T q1 rfl rfl (by simpa using hq1) rfl
    have hc' : ¬ hi ≤ s0.a := hc
    rw [if_neg hc']
    refine wc_skip (wq_next ?_)
    (repeat refine wc_seq ?_)
    refine wc_regionY ?_
    refine wy_val (v_faddr rfl rfl) (.inl rfl) rfl rfl ?_
    refine wy_val (v_faddr rfl rfl) (.inl rfl) rfl rfl ?_
    refine wy_val (v_load rfl rfl rfl (ld 3 0 rfl rfl rfl)) (.inl rfl) rfl rfl ?_
    refine wy_val (v_move rfl) (.inl rfl) rfl rfl ?_
    by_cases hb : lo < s0.b
    · rw [if_pos hb]
      refine wy_val (v := .bool true) (decide_eq_true hb ▸ v_gt rfl rfl) (.inl rfl) rfl rfl ?_
      refine wy_val (v_move rfl) (.inl rfl) rfl rfl ?_
      refine wy_val (v_move rfl) (.inr ⟨_, _, _, rfl, rfl, rfl⟩) rfl rfl ?_
      refine wy_val (v_faddr rfl rfl) (.inr ⟨_, _, _, rfl, rfl, rfl⟩) rfl rfl ?_
      refine wy_val (v_ldQ 3 0 rfl rfl rfl rfl rfl) (.inr ⟨_, _, _, rfl, rfl, rfl⟩) rfl rfl ?_
      refine wy_yield (fun w' hr ho => hY _ q1 s0 w' (by simp only [List.length_append]; omega) hq1 ho) rfl rfl (.inr ⟨_, _, _, rfl, rfl, rfl⟩) rfl ?_
      intro q2 hq2
      refine wy_of (out_then (out_body (P := Try.prog) (fn := Try.f41))) rfl ?_
      repeat (first | (apply wx_val; (first | exact v_move rfl | exact v_faddr rfl rfl | exact v_ldT rfl rfl rfl (by rfl) | exact v_not rfl | exact v_pickT rfl rfl); rfl) | refine wx_ungd rfl rfl ?_ | refine wc_seq ?_ | refine wc_region ?_ | refine wx_nil ?_ | refine wq_next ?_ | refine wc_skip ?_ | refine wc_cat ?_ | refine wc_condF rfl ?_)
      refine wl_callT (fun w' hr ho => ihr _ q2 hlr2 (by simp only [List.length_append, List.length_cons, List.length_nil]; omega) hq2 w' ho) rfl rfl rfl ?_
      intro q3 hq3
      repeat (first | (apply wx_val; (first | exact v_assign rfl); rfl) | refine wx_nil ?_ | refine wq_next ?_ | refine wc_ret ?_ | refine wq_cat ?_)
      exact wq_ret1T q3 rfl rfl (by simpa using hq3) rfl
    · rw [if_neg hb]
      refine wy_val (v := .bool false) (decide_eq_false hb ▸ v_gt rfl rfl) (.inl rfl) rfl rfl ?_
      refine wy_val (v_move rfl) (.inl rfl) rfl rfl ?_
      refine wy_no rfl rfl rfl ?_
      refine wy_no rfl rfl rfl ?_
      refine wy_no rfl rfl rfl ?_
      refine wy_no rfl rfl rfl ?_
      refine wy_no rfl rfl rfl ?_
      refine wy_of (out_then (out_body (P := Try.prog) (fn := Try.f41))) rfl ?_
      repeat (first | (apply wx_val; (first | exact v_move rfl | exact v_faddr rfl rfl | exact v_ldT rfl rfl rfl (by rfl) | exact v_pickF rfl rfl); rfl) | refine wc_seq ?_ | refine wc_region ?_ | refine wx_nil ?_ | refine wq_next ?_ | refine wc_skip ?_ | refine wc_condF rfl ?_)
      refine wl_callT (fun w' hr ho => ihr _ q1 hlr2 (by simp only [List.length_append]; omega) hq1 w' ho) rfl rfl rfl ?_
      intro q3 hq3
      repeat (first | (apply wx_val; (first | exact v_assign rfl); rfl) | refine wx_nil ?_ | refine wq_next ?_ | refine wc_ret ?_ | refine wq_cat ?_)
      exact wq_ret1T q3 rfl rfl (by simpa using hq3) rfl
end fs
end Go.Proofs.Ytjeghbachokljaa
