/- Insert refuses just what the document says. -/
import Derived.Test.YtjeghbachokljaaSpV
set_option linter.unusedVariables false
set_option linter.unusedSimpArgs false
namespace Go.Proofs.Ytjeghbachokljaa
open Go
set_option maxRecDepth 20000
set_option maxHeartbeats 2000000
attribute [local irreducible] WX WC WQ Val VCall WY WR
abbrev spB (g : Nat) (s : Sp) : Seg := [(g, .cells s.cells.toArray 28 (0, 0))]
theorem Bounds_law (k : ByteArray) (s : Sp) (w : World) : Calls Try.prog 5 #[.string k, .agg s.cells.toArray] w (Holds w) := by
  refine go [.string k, .agg s.cells.toArray] [] Try.func5 Try.ntmps5 rfl rfl (own_nil w) ?_
  repeat (first | refine wc_seq ?_ | refine wc_region ?_)
  refine wl_boxA rfl rfl (fun g3 => ?_)
  repeat (first | (apply wx_val; (first | exact v_assign rfl | exact v_not rfl); rfl) | refine wc_seq ?_ | refine wc_region ?_ | refine wx_nil ?_ | refine wq_next ?_ | refine wc_skip ?_ | refine wc_condF rfl ?_ | (apply wx_vcall; exact vc_pure rfl rfl (fun w' => anchor_spec w'); rfl))
  refine wl_callT (M1 := []) (fun w' hr ho => New_law w') rfl rfl rfl ?_
  rintro ⟨g, q⟩ hq
  dsimp only at hq ⊢
  repeat (first | (apply wx_val; (first | exact v_move rfl | exact v_assign rfl | exact v_ldAT rfl (by rfl) | exact v_eqnil rfl rfl rfl); rfl) | refine wc_seq ?_ | refine wc_region ?_ | refine wx_nil ?_ | refine wq_next ?_ | refine wc_skip ?_ | refine wc_cat ?_ | refine wc_condF rfl ?_)
  refine wl_callT (fun w' hr ho => Insert_law (g := g) k s hq (by decide) w' ho) rfl rfl rfl ?_
  intro q1 h1
  refine wx_cat ?_
  iterate 9 (first | (apply wx_val; (first | exact v_assign rfl); rfl) | refine wc_seq ?_ | refine wc_region ?_ | refine wx_nil ?_ | refine wq_next ?_)
  refine wc_meetK (ι := Int) [0, 3, 5, 6] (fun v => [(7, .int .i64 v)]) (fun _ => []) (M1 := []) (fun v => v = if rightS s then 0 else 140) rfl ?_ ?_
  · skip
    repeat' (first | (apply wx_val; (first | exact v_move rfl | exact v_assign rfl | exact v_faddr rfl rfl | exact v_ldT rfl rfl rfl (by rfl) | exact v_lt rfl rfl | exact v_gt rfl rfl | exact v_ge rfl rfl | exact v_pickT rfl rfl | exact v_pickF rfl rfl); rfl) | refine wx_no rfl rfl rfl ?_ | refine wx_ungd rfl rfl ?_ | refine wc_seq ?_ | refine wc_region ?_ | refine wx_nil ?_ | refine wq_next ?_ | refine wc_skip ?_ | refine wx_cat ?_ | refine wc_condT rfl ?_ | refine wc_if rfl (fun _ => ?_) (fun _ => ?_) | refine wx_gif rfl rfl (fun _ => ?_) (fun _ => ?_))
    all_goals first
      | (refine wq_cutK (140 : Int) (by unfold rightS; rw [if_neg]; simp; omega) (by repeat (first | exact trivial | refine ⟨rfl, ?_⟩)) (by first | exact catEq | exact rfl); done)
      | (refine wq_cutK (0 : Int) (by unfold rightS; rw [if_pos]; simp; omega) (by repeat (first | exact trivial | refine ⟨rfl, ?_⟩)) (by first | exact catEq | exact rfl); done)
  rintro v hv
  refine wc_fcat ?_
  refine wc_cat ?_
  iterate 1 (first | refine wc_seq ?_)
  refine wc_meetK (ι := Int) [0, 3, 5, 6] (fun v => [(7, .int .i64 v)]) (fun _ => []) (M1 := []) (fun v => v = insCode k s false) rfl ?_ ?_
  · skip
    repeat' (first | (apply wx_val; (first | exact v_move rfl | exact v_assign rfl | exact v_slen rfl rfl | exact v_eq rfl rfl | exact v_gt rfl rfl | exact v_pickT rfl rfl | exact v_pickF rfl rfl); rfl) | refine wx_no rfl rfl rfl ?_ | refine wx_ungd rfl rfl ?_ | refine wc_seq ?_ | refine wc_region ?_ | refine wx_nil ?_ | refine wq_next ?_ | refine wc_skip ?_ | refine wx_cat ?_ | refine wc_condT rfl ?_ | refine wc_if rfl (fun _ => ?_) (fun _ => ?_) | refine wx_gif rfl rfl (fun _ => ?_) (fun _ => ?_))
    all_goals first
      | (refine wq_cutK (130 : Int) (by unfold insCode; rw [if_pos]; omega) (by repeat (first | exact trivial | refine ⟨rfl, ?_⟩)) (by first | exact catEq | exact rfl); done)
      | (refine wq_cutK v (by unfold insCode; rw [if_neg (by omega), hv]; cases rightS s <;> rfl) (by repeat (first | exact trivial | refine ⟨rfl, ?_⟩)) (by first | exact catEq | exact rfl); done)
  rintro v2 hv2
  refine wc_fcat ?_
  refine wc_cat ?_
  rw [show insCode k s (hasA (k, s) []) = v2 from hv2.symm]
  repeat (first | (apply wx_val; (first | exact v_move rfl | exact v_ne rfl rfl); rfl) | refine wc_seq ?_ | refine wc_region ?_ | refine wx_nil ?_ | refine wq_next ?_)
  refine wc_not rfl (by simp) ?_
  repeat (first | (apply wx_val; (first | exact v_move rfl | exact v_ne rfl rfl); rfl) | refine wc_seq ?_ | refine wc_region ?_ | refine wx_nil ?_ | refine wq_next ?_ | refine wc_skip ?_)
  by_cases h0 : v2 = 0
  · have hc : insCode k s false = 0 := by rw [← hv2]; exact h0
    have e1 := insN_one hc
    have e2 : insCode k s (hasA (k, s) [(k, s)]) = 141 := by
      rw [show hasA (k, s) [(k, s)] = true from hasA_iff.2 (List.mem_singleton.2 rfl)]
      unfold insCode at hc ⊢
      split at hc
      · exact absurd hc (by decide)
      · rename_i hx
        rw [if_neg hx]
        split at hc
        · exact absurd hc (by decide)
        · rename_i hy
          rw [if_neg hy]
          rfl
    have e3 : insN k s [(k, s)] = [(k, s)] := if_neg (by rw [e2]; decide)
    have e4 : delAll (k, s) [(k, s)] = [] := List.filter_cons_of_neg (by simp)
    rw [e1] at h1 ⊢
    have c1 := fun w' ho => Count_law (g := g) h1 w' ho
    have c2 := fun w' ho => Height_law (g := g) k h1 w' ho
    rw [h1.h1 k (by rw [ofK_one]; rfl)] at c2
    have c3 := fun w' ho => Insert_law (g := g) k s h1 (by decide) w' ho
    rw [e2, e3] at c3
    refine wc_not rfl (decide_eq_false (by omega)) ?_
    repeat (first | (apply wx_val; (first | exact v_move rfl); rfl) | refine wc_seq ?_ | refine wc_region ?_ | refine wq_next ?_ | refine wc_skip ?_)
    (try refine wx_ungd rfl rfl ?_)
    refine wx_vcall (vc_callT (fun w' hr ho => c1 w' ho) rfl rfl) rfl ?_
    repeat (first | (apply wx_val; (first | exact v_move rfl | exact v_eq rfl rfl); rfl) | refine wx_ungd rfl rfl ?_)
    (try refine wx_ungd rfl rfl ?_)
    refine wx_vcall (vc_callT (fun w' hr ho => c2 w' ho) rfl rfl) rfl ?_
    repeat (first | (apply wx_val; (first | exact v_move rfl | exact v_ldAT rfl (by rfl) | exact v_eq rfl rfl | exact v_pickT rfl rfl); rfl) | refine wx_ungd rfl rfl ?_)
    refine wl_callT (fun w' hr ho => c3 w' ho) rfl rfl rfl ?_
    intro q2 h2
    have c4 := fun w' ho => Remove_law (g := g) k s h2 (by decide) w' ho
    rw [show hasA (k, s) [(k, s)] = true from hasA_iff.2 (List.mem_singleton.2 rfl), e4] at c4
    repeat (first | (apply wx_val; (first | exact v_move rfl | exact v_ldAT rfl (by rfl) | exact v_eq rfl rfl | exact v_pickT rfl rfl); rfl) | refine wx_ungd rfl rfl ?_ | refine wx_cat ?_)
    refine wl_callT (fun w' hr ho => c4 w' ho) rfl rfl rfl ?_
    intro q3 h3
    have c5 := fun w' ho => Count_law (g := g) h3 w' ho
    have c6 := fun w' ho => Height_law (g := g) k h3 w' ho
    rw [h3.h0 k rfl] at c6
    repeat (first | (apply wx_val; (first | exact v_move rfl | exact v_pickT rfl rfl); rfl) | refine wx_ungd rfl rfl ?_ | refine wx_cat ?_)
    (try refine wx_ungd rfl rfl ?_)
    refine wx_vcall (vc_callT (fun w' hr ho => c5 w' ho) rfl rfl) rfl ?_
    repeat (first | (apply wx_val; (first | exact v_move rfl | exact v_eq rfl rfl | exact v_pickT rfl rfl); rfl) | refine wx_ungd rfl rfl ?_)
    (try refine wx_ungd rfl rfl ?_)
    refine wx_vcall (vc_callT (fun w' hr ho => c6 w' ho) rfl rfl) rfl ?_
    repeat (first | (apply wx_val; (first | exact v_assign rfl | exact v_eq rfl rfl | exact v_pickT rfl rfl); rfl) | refine wx_ungd rfl rfl ?_ | refine wx_nil ?_ | refine wq_next ?_ | refine wc_ret ?_)
    exact wq_clear (wq_ret1 () rfl rfl trivial rfl)
  · have hc : ¬ insCode k s (hasA (k, s) []) = 0 := by rw [show insCode k s (hasA (k, s) []) = v2 from hv2.symm]; exact h0
    have e1 : insN k s [] = [] := if_neg hc
    rw [e1] at h1 ⊢
    have c1 := fun w' ho => Count_law (g := g) h1 w' ho
    have c2 := fun w' ho => Height_law (g := g) k h1 w' ho
    rw [h1.h0 k rfl] at c2
    have c3 := fun w' ho => Remove_law (g := g) k s h1 (by decide) w' ho
    rw [show hasA (k, s) [] = false from rfl] at c3
    refine wc_yes rfl (decide_eq_true (by omega)) ?_
    repeat (first | (apply wx_val; (first | exact v_move rfl); rfl) | refine wc_seq ?_ | refine wc_region ?_)
    (try refine wx_ungd rfl rfl ?_)
    refine wx_vcall (vc_callT (fun w' hr ho => c1 w' ho) rfl rfl) rfl ?_
    repeat (first | (apply wx_val; (first | exact v_move rfl | exact v_eq rfl rfl); rfl) | refine wx_ungd rfl rfl ?_)
    (try refine wx_ungd rfl rfl ?_)
    refine wx_vcall (vc_callT (fun w' hr ho => c2 w' ho) rfl rfl) rfl ?_
    repeat (first | (apply wx_val; (first | exact v_move rfl | exact v_ldAT rfl (by rfl) | exact v_eq rfl rfl | exact v_pickT rfl rfl); rfl) | refine wx_ungd rfl rfl ?_)
    refine wl_callT (fun w' hr ho => c3 w' ho) rfl rfl rfl ?_
    intro q2 h2
    repeat (first | (apply wx_val; (first | exact v_assign rfl | exact v_not rfl | exact v_pickT rfl rfl); rfl) | refine wx_ungd rfl rfl ?_ | refine wx_nil ?_ | refine wq_next ?_ | refine wc_ret ?_ | refine wq_then_ret ?_ | refine wq_cat ?_)
    exact wq_clear (wq_ret1 () rfl rfl trivial rfl)
end Go.Proofs.Ytjeghbachokljaa
