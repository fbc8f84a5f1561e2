/- What is written of a transaction is the document's. -/
import Derived.Test.YtknnkgoehkohaaaRecS
set_option linter.unusedVariables false
set_option linter.unusedSimpArgs false
namespace Go.Proofs.Ytknnkgoehkohaaa
open Go
set_option maxRecDepth 20000
set_option maxHeartbeats 2000000
attribute [local irreducible] WX WC WQ Val VCall
theorem TxnW.w_err (t : TxnW) (A : Option Addr) (c : Nat) : (t.p.w A c).err = t.err := rfl
theorem TxnW.w_enc (t : TxnW) (A : Option Addr) (c : Nat) : (t.p.w A c).encB = t.encB := rfl
theorem TxnW.w_cells (t : TxnW) (A : Option Addr) (c : Nat) : (t.p.w A c).cells = t.p.cells A c := rfl
theorem Encodes_law {t : TxnW} (ht : t.ops.xs.length ≤ 1048576) (w : World) (hv : t.Reads w) :
    Calls Try.prog 9 #[.agg t.cells.toArray] w (Holds w) := by
  refine go [.agg t.cells.toArray] [] Try.func9 Try.ntmps9 rfl rfl (own_nil w) ?_
  repeat (first | refine wc_seq ?_ | refine wc_region ?_)
  refine wl_boxA rfl rfl (fun g1 => ?_)
  repeat (first | (apply wx_val; (first | exact v_assign rfl | exact v_ldAT rfl (by rfl) | exact v_not rfl); rfl) | refine wc_seq ?_ | refine wc_region ?_ | refine wx_nil ?_ | refine wq_next ?_ | refine wc_skip ?_ | refine wc_condF rfl ?_ | (apply wx_vcall; exact vc_pure rfl rfl (fun w' => anchor_spec w'); rfl))
  refine wx_vcall (vc_pure' rfl rfl (fun w' hr => refValid_spec t w' (Vw.keep hv hr))) rfl ?_
  repeat (first | (apply wx_val; (first | exact v_assign rfl | exact v_ldAT rfl (by rfl)); rfl) | refine wc_seq ?_ | refine wc_region ?_ | refine wx_nil ?_ | refine wq_next ?_)
  refine wl_callT (M1 := []) (fun w' hr ho => Copy_spec ht w' (Vw.keep hv hr)) rfl rfl rfl ?_
  rintro ⟨A3, c3, E3⟩ hb3
  dsimp only at hb3 ⊢
  refine wl_callT (M1 := []) (fun w' hr ho => Encode_spec (t := t.p.w A3 c3) w' (hb3.vwT hr)) rfl rfl rfl ?_
  rintro ⟨A4, c4, E4⟩ hb4
  rw [TxnW.w_err, TxnW.w_enc] at *
  dsimp only at hb4 ⊢
  repeat (first | (apply wx_val; (first | exact v_move rfl | exact v_assign rfl | exact v_ldAT rfl (by rfl) | exact v_extract rfl rfl); rfl) | refine wc_seq ?_ | refine wc_region ?_ | refine wx_nil ?_ | refine wq_next ?_ | refine wx_cat ?_)
  refine wl_callT (M1 := []) (fun w' hr ho => Copy_spec ht w' (Vw.keep hv hr)) rfl rfl rfl ?_
  rintro ⟨A5, c5, E5⟩ hb5
  dsimp only at hb5 ⊢
  refine wx_cat ?_
  refine wx_vcall (vc_pure' rfl rfl (fun w' hr => recValid_spec (t.p.w A5 c5) w' (hb5.vwT hr))) rfl ?_
  rw [TxnW.w_err]
  repeat (first | (apply wx_val; (first | exact v_move rfl | exact v_ne rfl rfl); rfl))
  refine wx_gset false rfl rfl (by simp) ?_
  repeat (first | (apply wx_val; (first | exact v_move rfl | exact v_ne rfl rfl | exact v_pickF rfl rfl); rfl) | refine wx_ungd rfl rfl ?_ | refine wx_nil ?_ | refine wq_next ?_)
  refine wc_not rfl (by simp) ?_
  repeat (first | (apply wx_val; (first | exact v_ldAT rfl (by rfl)); rfl) | refine wc_seq ?_ | refine wc_region ?_ | refine wq_next ?_ | refine wc_skip ?_)
  refine wl_callT (M1 := []) (fun w' hr ho => Copy_spec ht w' (Vw.keep hv hr)) rfl rfl rfl ?_
  rintro ⟨A6, c6, E6⟩ hb6
  dsimp only at hb6 ⊢
  refine wx_cat ?_
  refine wx_vcall (vc_pure' rfl rfl (fun w' hr => Size_spec' (t := t.p.w A6 c6) w' (hb6.vwT hr))) rfl ?_
  rw [TxnW.w_enc]
  repeat (first | (apply wx_val; (first | exact v_move rfl | exact v_assign rfl | exact v_ne rfl rfl); rfl) | refine wc_seq ?_ | refine wc_region ?_ | refine wx_nil ?_ | refine wq_next ?_)
  refine wc_if rfl (fun he => ?_) (fun he => ?_)
  · have eb : t.encB = [] := if_neg he
    rw [eb]
    repeat (first | (apply wx_val; (first | exact v_move rfl | exact v_assign rfl | exact v_len rfl rfl | exact v_eq rfl rfl | exact v_pickT rfl rfl); rfl) | refine wx_ungd rfl rfl ?_ | refine wc_seq ?_ | refine wc_region ?_ | refine wx_nil ?_ | refine wq_next ?_ | refine wc_ret ?_ | refine wq_then_ret ?_)
    exact wq_clear (wq_ret1 () rfl rfl trivial rfl)
  · have he' : t.err = 0 := Decidable.not_not.1 he
    have eb : t.encB = t.body := if_pos he'
    have hlen : t.body.length ≤ 464 := by
      have h1 := mt err62 (by rw [he']; decide)
      have h1 : t.FieldsOk := Decidable.not_not.1 h1
      have h2 : t.ops.xs.length ≤ 16 := by
        rcases Nat.lt_or_ge 16 t.ops.xs.length with h | h
        · have := err63 h1 h; rw [he'] at this; cases this
        · exact h
      refine body_len h1 h2 fun o ho => ?_
      by_cases hr : o.Right
      · exact hr
      · have := err64 h1 h2 ho hr; rw [he'] at this; cases this
    rw [eb] at hb4 ⊢
    repeat (first | (apply wx_val; (first | exact v_move rfl | exact v_len rfl rfl | exact v_eq rfl rfl); rfl) | refine wc_seq ?_ | refine wc_region ?_ | refine wq_next ?_ | refine wc_skip ?_)
    refine wx_gset true rfl rfl (decide_eq_true rfl) ?_
    repeat (first | (apply wx_val; (first | exact v_move rfl | exact v_ldAT rfl (by rfl)); rfl) | refine wx_ungd rfl rfl ?_)
    refine wl_callT (M1 := []) (fun w' hr ho => Body_spec w' (Vw.keep hv hr) he') rfl rfl rfl ?_
    rintro ⟨A7, c7, E7⟩ hb7
    dsimp only at hb7 ⊢
    refine wx_cat ?_
    refine wx_ungd rfl rfl ?_
    refine wx_vcall (vc_pure' rfl rfl (fun w' hr => same_spec (a := t.body) (b := t.body) (by omega) w' (hb4.vwT hr) (hb7.vwT hr))) rfl ?_
    repeat (first | (apply wx_val; (first | exact v_assign rfl | exact v_pickT rfl rfl); rfl) | refine wx_nil ?_ | refine wq_next ?_ | refine wc_ret ?_)
    exact wq_clear (wq_ret1 () rfl (bool_val (by simp)) trivial rfl)
end Go.Proofs.Ytknnkgoehkohaaa
