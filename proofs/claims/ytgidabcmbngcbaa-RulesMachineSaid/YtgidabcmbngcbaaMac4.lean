/- The document's machine: New, refuse. -/
import Derived.Test.YtgidabcmbngcbaaMac3
set_option linter.unusedVariables false
set_option linter.unusedSimpArgs false
namespace Go.Proofs.Ytgidabcmbngcbaa
open Go
set_option maxRecDepth 20000
set_option maxHeartbeats 4000000
attribute [local irreducible] WX WC WQ Val VCall
structure StepM where
  kind : Int
  ses : Int
  gap : Int
  key : ByteArray
  value : ByteArray
def StepM.cells (o : StepM) : List Value := [.int .i64 o.kind, .int .i64 o.ses, .int .i64 o.gap, .string o.key, .string o.value]
def mc0 (s f : Int) : Mc := ⟨s, f, 0, none, 0, none, 0, 0⟩
theorem mNew_ok (s f : Int) (h : 1 ≤ s ∧ s ≤ 64 ∧ 0 ≤ f ∧ f ≤ 4) (w : World) : Calls Try.prog 37 #[.int .i64 s, .int .i64 f] w (Ret (β := Nat) w (ids []) (fun g => .tuple #[.pointer (some ⟨g, 0, none⟩), .int .i64 0]) (fun g => [mcB g (mc0 s f) 0]) (fun _ => True)) := by
  refine go [.int .i64 s, .int .i64 f] [] Try.func37 Try.ntmps37 rfl rfl (own_nil w) ?_
  repeat (first | (apply wx_val; (first | exact v_move rfl | exact v_assign rfl | exact v_lt rfl rfl); rfl) | refine wc_seq ?_ | refine wc_region ?_ | refine wx_nil ?_ | refine wq_next ?_)
  refine wx_gset false rfl rfl (decide_eq_false (by omega)) ?_
  repeat (first | (apply wx_val; (first | exact v_move rfl | exact v_gt rfl rfl | exact v_pickF rfl rfl); rfl) | refine wx_ungd rfl rfl ?_ | refine wx_nil ?_ | refine wq_next ?_)
  refine wc_not rfl (decide_eq_false (by omega)) ?_
  repeat (first | (apply wx_val; (first | exact v_move rfl | exact v_lt rfl rfl); rfl) | refine wc_seq ?_ | refine wc_region ?_ | refine wq_next ?_ | refine wc_skip ?_)
  refine wx_gset false rfl rfl (decide_eq_false (by omega)) ?_
  repeat (first | (apply wx_val; (first | exact v_move rfl | exact v_gt rfl rfl | exact v_pickF rfl rfl); rfl) | refine wx_ungd rfl rfl ?_ | refine wx_nil ?_ | refine wq_next ?_)
  refine wc_not rfl (decide_eq_false (by omega)) ?_
  repeat (first | (apply wx_val; (first | exact v_move rfl); rfl) | refine wc_seq ?_ | refine wc_region ?_ | refine wq_next ?_ | refine wc_skip ?_)
  (try refine wx_ungd rfl rfl ?_)
  apply wx_val
  exact v_build (cs := (((mc0 s f).cells 0)).toArray) rfl (by kernel_rfl)
  rfl
  refine wl_boxA rfl rfl (fun g => ?_)
  repeat (first | (apply wx_val; (first | exact v_assign rfl); rfl) | refine wx_nil ?_ | refine wq_next ?_ | refine wc_ret ?_)
  exact wq_ret2T g rfl rfl rfl rfl trivial rfl
theorem mNew_no (s f : Int) (h : ¬ (1 ≤ s ∧ s ≤ 64 ∧ 0 ≤ f ∧ f ≤ 4)) (w : World) : Calls Try.prog 37 #[.int .i64 s, .int .i64 f] w (Ret (β := Int) w (ids []) (fun e => .tuple #[.pointer none, .int .i64 e]) (fun _ => []) (fun e => e ≠ 0)) := by
  refine go [.int .i64 s, .int .i64 f] [] Try.func37 Try.ntmps37 rfl rfl (own_nil w) ?_
  repeat' (first | (apply wx_val; (first | exact v_move rfl | exact v_assign rfl | exact v_lt rfl rfl | exact v_gt rfl rfl | exact v_pickT rfl rfl | exact v_pickF rfl rfl); rfl) | refine wx_no rfl rfl rfl ?_ | refine wx_ungd rfl rfl ?_ | refine wc_seq ?_ | refine wc_region ?_ | refine wx_nil ?_ | refine wq_next ?_ | refine wc_ret ?_ | refine wc_skip ?_ | refine wq_then_ret ?_ | refine wc_condT rfl ?_ | refine wc_if rfl (fun _ => ?_) (fun _ => ?_) | refine wx_gif rfl rfl (fun _ => ?_) (fun _ => ?_))
  all_goals first
    | exact wq_ret2T (150 : Int) rfl rfl rfl rfl (by decide) rfl
    | exact wq_ret2T (158 : Int) rfl rfl rfl rfl (by decide) rfl
    | (exfalso; omega)
/-- a step that is not refused -/
structure RefOk (y : Mc) (L : List RunW) (o : StepM) : Prop where
  k : 1 ≤ o.kind ∧ o.kind ≤ 6
  s : 0 ≤ o.ses ∧ o.ses < y.ses
  g : 0 ≤ o.gap ∧ o.gap ≤ 1000
  key : (o.kind = 2 ∨ o.kind = 3 ∨ o.kind = 4) → 1 ≤ o.key.size ∧ o.key.size ≤ 8
  val : o.kind = 3 → o.value.size ≤ 16
  one : o.kind = 1 → actN o.ses L L.length ∧ L.length < 4096
  act : o.kind ≠ 1 → ∃ i : Nat, ∃ r, L[i]? = some r ∧ r.state = 0 ∧ r.t.session = o.ses ∧ actN o.ses L i ∧ ((o.kind = 2 ∨ o.kind = 3 ∨ o.kind = 4) → r.t.ops.xs.length < 16)
  clk : y.clock ≤ 1099511627775 - o.gap
section mc
variable {g : Nat} {y : Mc} {L : List RunW} {E S : Seg}
theorem refuse_spec (o : StepM) (hn : L.length ≤ 4096) (h : RunsO L y E S) (hc : 0 ≤ y.clock ∧ y.clock ≤ 1099511627776) (w : World) (ho : Own w [mcB g y L.length, E, S]) :
    Calls Try.prog 49 #[.pointer (some ⟨g, 0, none⟩), .agg o.cells.toArray] w (Ret (β := Int) w (ids [mcB g y L.length, E, S]) (fun e => .int .i64 e) (fun _ => [mcB g y L.length, E, S]) (fun e => e = 0 → RefOk y L o)) := by
  refine go [.pointer (some ⟨g, 0, none⟩), .agg o.cells.toArray] [mcB g y L.length, E, S] Try.func49 Try.ntmps49 rfl rfl ho ?_
  obtain ⟨kd, se, gp, key, value⟩ := o
  by_cases k1 : kd = 1
  · subst k1
    repeat (first | refine wc_seq ?_ | refine wc_region ?_)
    refine wl_boxA rfl rfl (fun g3 => ?_)
    repeat (first | (apply wx_val; (first | exact v_move rfl | exact v_assign rfl | exact v_faddr rfl rfl | exact v_ldT rfl rfl rfl (by rfl) | exact v_eq rfl rfl | exact v_pickF rfl rfl); rfl) | refine wx_ungd rfl rfl ?_ | refine wc_seq ?_ | refine wc_region ?_ | refine wx_nil ?_ | refine wq_next ?_)
    refine wl_callT (fun w' hr ho => Active_spec se hn h w' ho) rfl rfl rfl ?_
    rintro x hx
    refine wx_cat ?_
    repeat' (first | (apply wx_val; (first | exact v_move rfl | exact v_assign rfl | exact v_nil rfl | exact v_faddr rfl rfl | exact v_ldT rfl rfl rfl (by rfl) | exact v_len rfl rfl | exact v_eq rfl rfl | exact v_ne rfl rfl | exact v_lt rfl rfl | exact v_gt rfl rfl | exact v_ge rfl rfl | exact v_subi rfl rfl (by omega) | exact v_pickT rfl rfl | exact v_pickF rfl rfl); rfl) | refine wx_no rfl rfl rfl ?_ | refine wx_undef rfl rfl rfl ?_ | refine wx_ungd rfl rfl ?_ | refine wc_seq ?_ | refine wc_region ?_ | refine wx_nil ?_ | refine wq_next ?_ | refine wc_block ?_ | refine wc_ret ?_ | refine wc_skip ?_ | refine wq_then_ret ?_ | refine wq_block ?_ | refine wq_block_ret ?_ | refine wc_reads rfl (by decide +kernel) ?_ | refine wc_condT rfl ?_ | refine wc_condF rfl ?_ | refine wc_if rfl (fun _ => ?_) (fun _ => ?_) | refine wx_gif rfl rfl (fun _ => ?_) (fun _ => ?_))
    all_goals first
      | exact wq_ret1T (151 : Int) rfl rfl (fun h => absurd h (by decide)) rfl
      | exact wq_ret1T (152 : Int) rfl rfl (fun h => absurd h (by decide)) rfl
      | exact wq_ret1T (153 : Int) rfl rfl (fun h => absurd h (by decide)) rfl
      | exact wq_ret1T (130 : Int) rfl rfl (fun h => absurd h (by decide)) rfl
      | exact wq_ret1T (157 : Int) rfl rfl (fun h => absurd h (by decide)) rfl
      | exact wq_ret1T (155 : Int) rfl rfl (fun h => absurd h (by decide)) rfl
      | exact wq_ret1T (156 : Int) rfl rfl (fun h => absurd h (by decide)) rfl
      | exact wq_ret1T (71 : Int) rfl rfl (fun h => absurd h (by decide)) rfl
      | exact wq_ret1T (63 : Int) rfl rfl (fun h => absurd h (by decide)) rfl
      | exact wq_ret1T (154 : Int) rfl rfl (fun h => absurd h (by decide)) rfl
      | skip
    dsimp only at *
    rcases hx with ⟨rfl, hx⟩ | ⟨i, r, rfl, hs, q1, q2, q3⟩
    rotate_left
    · omega
    exact wq_ret1T (0 : Int) rfl rfl (fun _ => ⟨by dsimp only; omega, by dsimp only; omega, by dsimp only; omega, fun hk => by dsimp only at hk; omega, fun hv => by dsimp only at hv; omega, fun _ => ⟨hx, by omega⟩, fun h1 => absurd rfl h1, by dsimp only; omega⟩) rfl
  by_cases k2 : kd = 2
  · subst k2
    repeat (first | refine wc_seq ?_ | refine wc_region ?_)
    refine wl_boxA rfl rfl (fun g3 => ?_)
    repeat (first | (apply wx_val; (first | exact v_move rfl | exact v_assign rfl | exact v_faddr rfl rfl | exact v_ldT rfl rfl rfl (by rfl) | exact v_eq rfl rfl | exact v_pickT rfl rfl); rfl) | refine wx_no rfl rfl rfl ?_ | refine wc_seq ?_ | refine wc_region ?_ | refine wx_nil ?_ | refine wq_next ?_)
    refine wl_callT (fun w' hr ho => Active_spec se hn h w' ho) rfl rfl rfl ?_
    rintro x hx
    refine wx_cat ?_
    repeat' (first | (apply wx_val; (first | exact v_move rfl | exact v_assign rfl | exact v_nil rfl | exact v_faddr rfl rfl | exact v_ldT rfl rfl rfl (by rfl) | exact v_slen rfl rfl | exact v_eq rfl rfl | exact v_ne rfl rfl | exact v_lt rfl rfl | exact v_gt rfl rfl | exact v_ge rfl rfl | exact v_pickT rfl rfl | exact v_pickF rfl rfl); rfl) | refine wx_no rfl rfl rfl ?_ | refine wx_ungd rfl rfl ?_ | refine wc_seq ?_ | refine wc_region ?_ | refine wx_nil ?_ | refine wq_next ?_ | refine wc_block ?_ | refine wc_ret ?_ | refine wq_then_ret ?_ | refine wq_block_ret ?_ | refine wc_reads rfl (by decide +kernel) ?_ | refine wc_condT rfl ?_ | refine wc_condF rfl ?_ | refine wc_if rfl (fun _ => ?_) (fun _ => ?_) | refine wx_gif rfl rfl (fun _ => ?_) (fun _ => ?_))
    all_goals first
      | exact wq_ret1T (151 : Int) rfl rfl (fun h => absurd h (by decide)) rfl
      | exact wq_ret1T (152 : Int) rfl rfl (fun h => absurd h (by decide)) rfl
      | exact wq_ret1T (153 : Int) rfl rfl (fun h => absurd h (by decide)) rfl
      | exact wq_ret1T (130 : Int) rfl rfl (fun h => absurd h (by decide)) rfl
      | exact wq_ret1T (157 : Int) rfl rfl (fun h => absurd h (by decide)) rfl
      | exact wq_ret1T (155 : Int) rfl rfl (fun h => absurd h (by decide)) rfl
      | exact wq_ret1T (156 : Int) rfl rfl (fun h => absurd h (by decide)) rfl
      | exact wq_ret1T (71 : Int) rfl rfl (fun h => absurd h (by decide)) rfl
      | exact wq_ret1T (63 : Int) rfl rfl (fun h => absurd h (by decide)) rfl
      | exact wq_ret1T (154 : Int) rfl rfl (fun h => absurd h (by decide)) rfl
      | skip
    rename_i a1 a2 a3 a4 a5
    rcases hx with ⟨rfl, _⟩ | ⟨i, r, rfl, hs, q1, q2, q3⟩
    · omega
    have hil := (List.getElem?_eq_some_iff.1 hs).1
    obtain ⟨ga, hA⟩ := h.sp.ptr (by omega)
    repeat (first | (apply wx_val; (first | exact v_faddr rfl rfl | exact v_iaddrE (by assumption) rfl rfl rfl (by omega)); rfl) | refine wx_ungd rfl rfl ?_)
    (try refine wx_ungd rfl rfl ?_)
    apply wx_val
    exact v_load rfl rfl rfl (fun w' hr => h.sp.elemT (i := i) hA (by decide) (fun _ => rfl) hs hr (j := 7) rfl (by omega))
    rfl
    repeat' (first | (apply wx_val; (first | exact v_move rfl | exact v_assign rfl | exact v_nil rfl | exact v_faddr rfl rfl | exact v_ldT rfl rfl rfl (by rfl) | exact v_len rfl rfl | exact v_gt rfl rfl | exact v_ge rfl rfl | exact v_subi rfl rfl (by omega) | exact v_pickT rfl rfl); rfl) | refine wx_ungd rfl rfl ?_ | refine wc_seq ?_ | refine wc_region ?_ | refine wx_nil ?_ | refine wq_next ?_ | refine wc_ret ?_ | refine wc_skip ?_ | refine wq_then_ret ?_ | refine wq_block ?_ | refine wq_block_ret ?_ | refine wc_reads rfl (by decide +kernel) ?_ | refine wc_if rfl (fun _ => ?_) (fun _ => ?_))
    all_goals first
      | exact wq_ret1T (151 : Int) rfl rfl (fun h => absurd h (by decide)) rfl
      | exact wq_ret1T (152 : Int) rfl rfl (fun h => absurd h (by decide)) rfl
      | exact wq_ret1T (153 : Int) rfl rfl (fun h => absurd h (by decide)) rfl
      | exact wq_ret1T (130 : Int) rfl rfl (fun h => absurd h (by decide)) rfl
      | exact wq_ret1T (157 : Int) rfl rfl (fun h => absurd h (by decide)) rfl
      | exact wq_ret1T (155 : Int) rfl rfl (fun h => absurd h (by decide)) rfl
      | exact wq_ret1T (156 : Int) rfl rfl (fun h => absurd h (by decide)) rfl
      | exact wq_ret1T (71 : Int) rfl rfl (fun h => absurd h (by decide)) rfl
      | exact wq_ret1T (63 : Int) rfl rfl (fun h => absurd h (by decide)) rfl
      | exact wq_ret1T (154 : Int) rfl rfl (fun h => absurd h (by decide)) rfl
      | skip
    rename_i b1 b2
    dsimp only at *
    exact wq_ret1T (0 : Int) rfl rfl (fun _ => ⟨by dsimp only; omega, by dsimp only; omega, by dsimp only; omega, fun _ => by dsimp only; omega, fun hv => by dsimp only at hv ⊢; omega, fun h1 => by dsimp only at h1; omega, fun _ => ⟨i, r, hs, q1, q2, q3, fun _ => by omega⟩, by dsimp only; omega⟩) rfl
  by_cases k3 : kd = 3
  · subst k3
    repeat (first | refine wc_seq ?_ | refine wc_region ?_)
    refine wl_boxA rfl rfl (fun g3 => ?_)
    repeat (first | (apply wx_val; (first | exact v_move rfl | exact v_assign rfl | exact v_faddr rfl rfl | exact v_ldT rfl rfl rfl (by rfl) | exact v_eq rfl rfl | exact v_pickT rfl rfl | exact v_pickF rfl rfl); rfl) | refine wx_no rfl rfl rfl ?_ | refine wx_ungd rfl rfl ?_ | refine wc_seq ?_ | refine wc_region ?_ | refine wx_nil ?_ | refine wq_next ?_)
    refine wl_callT (fun w' hr ho => Active_spec se hn h w' ho) rfl rfl rfl ?_
    rintro x hx
    refine wx_cat ?_
    repeat' (first | (apply wx_val; (first | exact v_move rfl | exact v_assign rfl | exact v_nil rfl | exact v_faddr rfl rfl | exact v_ldT rfl rfl rfl (by rfl) | exact v_slen rfl rfl | exact v_eq rfl rfl | exact v_ne rfl rfl | exact v_lt rfl rfl | exact v_gt rfl rfl | exact v_ge rfl rfl | exact v_pickT rfl rfl | exact v_pickF rfl rfl); rfl) | refine wx_no rfl rfl rfl ?_ | refine wx_ungd rfl rfl ?_ | refine wc_seq ?_ | refine wc_region ?_ | refine wx_nil ?_ | refine wq_next ?_ | refine wc_block ?_ | refine wc_ret ?_ | refine wq_then_ret ?_ | refine wq_block_ret ?_ | refine wc_reads rfl (by decide +kernel) ?_ | refine wc_condT rfl ?_ | refine wc_condF rfl ?_ | refine wc_if rfl (fun _ => ?_) (fun _ => ?_) | refine wx_gif rfl rfl (fun _ => ?_) (fun _ => ?_))
    all_goals first
      | exact wq_ret1T (151 : Int) rfl rfl (fun h => absurd h (by decide)) rfl
      | exact wq_ret1T (152 : Int) rfl rfl (fun h => absurd h (by decide)) rfl
      | exact wq_ret1T (153 : Int) rfl rfl (fun h => absurd h (by decide)) rfl
      | exact wq_ret1T (130 : Int) rfl rfl (fun h => absurd h (by decide)) rfl
      | exact wq_ret1T (157 : Int) rfl rfl (fun h => absurd h (by decide)) rfl
      | exact wq_ret1T (155 : Int) rfl rfl (fun h => absurd h (by decide)) rfl
      | exact wq_ret1T (156 : Int) rfl rfl (fun h => absurd h (by decide)) rfl
      | exact wq_ret1T (71 : Int) rfl rfl (fun h => absurd h (by decide)) rfl
      | exact wq_ret1T (63 : Int) rfl rfl (fun h => absurd h (by decide)) rfl
      | exact wq_ret1T (154 : Int) rfl rfl (fun h => absurd h (by decide)) rfl
      | skip
    rename_i a1 a2 a3 a4 a5
    rcases hx with ⟨rfl, _⟩ | ⟨i, r, rfl, hs, q1, q2, q3⟩
    · omega
    have hil := (List.getElem?_eq_some_iff.1 hs).1
    obtain ⟨ga, hA⟩ := h.sp.ptr (by omega)
    repeat (first | (apply wx_val; (first | exact v_faddr rfl rfl | exact v_iaddrE (by assumption) rfl rfl rfl (by omega)); rfl) | refine wx_ungd rfl rfl ?_)
    (try refine wx_ungd rfl rfl ?_)
    apply wx_val
    exact v_load rfl rfl rfl (fun w' hr => h.sp.elemT (i := i) hA (by decide) (fun _ => rfl) hs hr (j := 7) rfl (by omega))
    rfl
    repeat' (first | (apply wx_val; (first | exact v_move rfl | exact v_assign rfl | exact v_nil rfl | exact v_faddr rfl rfl | exact v_ldT rfl rfl rfl (by rfl) | exact v_len rfl rfl | exact v_gt rfl rfl | exact v_ge rfl rfl | exact v_subi rfl rfl (by omega) | exact v_pickT rfl rfl); rfl) | refine wx_ungd rfl rfl ?_ | refine wc_seq ?_ | refine wc_region ?_ | refine wx_nil ?_ | refine wq_next ?_ | refine wc_ret ?_ | refine wc_skip ?_ | refine wq_then_ret ?_ | refine wq_block ?_ | refine wq_block_ret ?_ | refine wc_reads rfl (by decide +kernel) ?_ | refine wc_if rfl (fun _ => ?_) (fun _ => ?_))
    all_goals first
      | exact wq_ret1T (151 : Int) rfl rfl (fun h => absurd h (by decide)) rfl
      | exact wq_ret1T (152 : Int) rfl rfl (fun h => absurd h (by decide)) rfl
      | exact wq_ret1T (153 : Int) rfl rfl (fun h => absurd h (by decide)) rfl
      | exact wq_ret1T (130 : Int) rfl rfl (fun h => absurd h (by decide)) rfl
      | exact wq_ret1T (157 : Int) rfl rfl (fun h => absurd h (by decide)) rfl
      | exact wq_ret1T (155 : Int) rfl rfl (fun h => absurd h (by decide)) rfl
      | exact wq_ret1T (156 : Int) rfl rfl (fun h => absurd h (by decide)) rfl
      | exact wq_ret1T (71 : Int) rfl rfl (fun h => absurd h (by decide)) rfl
      | exact wq_ret1T (63 : Int) rfl rfl (fun h => absurd h (by decide)) rfl
      | exact wq_ret1T (154 : Int) rfl rfl (fun h => absurd h (by decide)) rfl
      | skip
    rename_i b1 b2
    dsimp only at *
    exact wq_ret1T (0 : Int) rfl rfl (fun _ => ⟨by dsimp only; omega, by dsimp only; omega, by dsimp only; omega, fun _ => by dsimp only; omega, fun hv => by dsimp only at hv ⊢; omega, fun h1 => by dsimp only at h1; omega, fun _ => ⟨i, r, hs, q1, q2, q3, fun _ => by omega⟩, by dsimp only; omega⟩) rfl
  by_cases k4 : kd = 4
  · subst k4
    repeat (first | refine wc_seq ?_ | refine wc_region ?_)
    refine wl_boxA rfl rfl (fun g3 => ?_)
    repeat (first | (apply wx_val; (first | exact v_move rfl | exact v_assign rfl | exact v_faddr rfl rfl | exact v_ldT rfl rfl rfl (by rfl) | exact v_eq rfl rfl | exact v_pickF rfl rfl); rfl) | refine wx_ungd rfl rfl ?_ | refine wc_seq ?_ | refine wc_region ?_ | refine wx_nil ?_ | refine wq_next ?_)
    refine wl_callT (fun w' hr ho => Active_spec se hn h w' ho) rfl rfl rfl ?_
    rintro x hx
    refine wx_cat ?_
    repeat' (first | (apply wx_val; (first | exact v_move rfl | exact v_assign rfl | exact v_nil rfl | exact v_faddr rfl rfl | exact v_ldT rfl rfl rfl (by rfl) | exact v_slen rfl rfl | exact v_eq rfl rfl | exact v_ne rfl rfl | exact v_lt rfl rfl | exact v_gt rfl rfl | exact v_ge rfl rfl | exact v_pickT rfl rfl | exact v_pickF rfl rfl); rfl) | refine wx_no rfl rfl rfl ?_ | refine wx_ungd rfl rfl ?_ | refine wc_seq ?_ | refine wc_region ?_ | refine wx_nil ?_ | refine wq_next ?_ | refine wc_block ?_ | refine wc_ret ?_ | refine wq_then_ret ?_ | refine wq_block_ret ?_ | refine wc_reads rfl (by decide +kernel) ?_ | refine wc_condT rfl ?_ | refine wc_condF rfl ?_ | refine wc_if rfl (fun _ => ?_) (fun _ => ?_) | refine wx_gif rfl rfl (fun _ => ?_) (fun _ => ?_))
    all_goals first
      | exact wq_ret1T (151 : Int) rfl rfl (fun h => absurd h (by decide)) rfl
      | exact wq_ret1T (152 : Int) rfl rfl (fun h => absurd h (by decide)) rfl
      | exact wq_ret1T (153 : Int) rfl rfl (fun h => absurd h (by decide)) rfl
      | exact wq_ret1T (130 : Int) rfl rfl (fun h => absurd h (by decide)) rfl
      | exact wq_ret1T (157 : Int) rfl rfl (fun h => absurd h (by decide)) rfl
      | exact wq_ret1T (155 : Int) rfl rfl (fun h => absurd h (by decide)) rfl
      | exact wq_ret1T (156 : Int) rfl rfl (fun h => absurd h (by decide)) rfl
      | exact wq_ret1T (71 : Int) rfl rfl (fun h => absurd h (by decide)) rfl
      | exact wq_ret1T (63 : Int) rfl rfl (fun h => absurd h (by decide)) rfl
      | exact wq_ret1T (154 : Int) rfl rfl (fun h => absurd h (by decide)) rfl
      | skip
    rename_i a1 a2 a3 a4 a5
    rcases hx with ⟨rfl, _⟩ | ⟨i, r, rfl, hs, q1, q2, q3⟩
    · omega
    have hil := (List.getElem?_eq_some_iff.1 hs).1
    obtain ⟨ga, hA⟩ := h.sp.ptr (by omega)
    repeat (first | (apply wx_val; (first | exact v_faddr rfl rfl | exact v_iaddrE (by assumption) rfl rfl rfl (by omega)); rfl) | refine wx_ungd rfl rfl ?_)
    (try refine wx_ungd rfl rfl ?_)
    apply wx_val
    exact v_load rfl rfl rfl (fun w' hr => h.sp.elemT (i := i) hA (by decide) (fun _ => rfl) hs hr (j := 7) rfl (by omega))
    rfl
    repeat' (first | (apply wx_val; (first | exact v_move rfl | exact v_assign rfl | exact v_nil rfl | exact v_faddr rfl rfl | exact v_ldT rfl rfl rfl (by rfl) | exact v_len rfl rfl | exact v_gt rfl rfl | exact v_ge rfl rfl | exact v_subi rfl rfl (by omega) | exact v_pickT rfl rfl); rfl) | refine wx_ungd rfl rfl ?_ | refine wc_seq ?_ | refine wc_region ?_ | refine wx_nil ?_ | refine wq_next ?_ | refine wc_ret ?_ | refine wc_skip ?_ | refine wq_then_ret ?_ | refine wq_block ?_ | refine wq_block_ret ?_ | refine wc_reads rfl (by decide +kernel) ?_ | refine wc_if rfl (fun _ => ?_) (fun _ => ?_))
    all_goals first
      | exact wq_ret1T (151 : Int) rfl rfl (fun h => absurd h (by decide)) rfl
      | exact wq_ret1T (152 : Int) rfl rfl (fun h => absurd h (by decide)) rfl
      | exact wq_ret1T (153 : Int) rfl rfl (fun h => absurd h (by decide)) rfl
      | exact wq_ret1T (130 : Int) rfl rfl (fun h => absurd h (by decide)) rfl
      | exact wq_ret1T (157 : Int) rfl rfl (fun h => absurd h (by decide)) rfl
      | exact wq_ret1T (155 : Int) rfl rfl (fun h => absurd h (by decide)) rfl
      | exact wq_ret1T (156 : Int) rfl rfl (fun h => absurd h (by decide)) rfl
      | exact wq_ret1T (71 : Int) rfl rfl (fun h => absurd h (by decide)) rfl
      | exact wq_ret1T (63 : Int) rfl rfl (fun h => absurd h (by decide)) rfl
      | exact wq_ret1T (154 : Int) rfl rfl (fun h => absurd h (by decide)) rfl
      | skip
    rename_i b1 b2
    dsimp only at *
    exact wq_ret1T (0 : Int) rfl rfl (fun _ => ⟨by dsimp only; omega, by dsimp only; omega, by dsimp only; omega, fun _ => by dsimp only; omega, fun hv => by dsimp only at hv ⊢; omega, fun h1 => by dsimp only at h1; omega, fun _ => ⟨i, r, hs, q1, q2, q3, fun _ => by omega⟩, by dsimp only; omega⟩) rfl
  by_cases k5 : kd = 5
  · subst k5
    repeat (first | refine wc_seq ?_ | refine wc_region ?_)
    refine wl_boxA rfl rfl (fun g3 => ?_)
    repeat (first | (apply wx_val; (first | exact v_move rfl | exact v_assign rfl | exact v_faddr rfl rfl | exact v_ldT rfl rfl rfl (by rfl) | exact v_eq rfl rfl | exact v_pickF rfl rfl); rfl) | refine wx_ungd rfl rfl ?_ | refine wc_seq ?_ | refine wc_region ?_ | refine wx_nil ?_ | refine wq_next ?_)
    refine wl_callT (fun w' hr ho => Active_spec se hn h w' ho) rfl rfl rfl ?_
    rintro x hx
    refine wx_cat ?_
    repeat' (first | (apply wx_val; (first | exact v_move rfl | exact v_assign rfl | exact v_nil rfl | exact v_faddr rfl rfl | exact v_ldT rfl rfl rfl (by rfl) | exact v_eq rfl rfl | exact v_ne rfl rfl | exact v_lt rfl rfl | exact v_gt rfl rfl | exact v_ge rfl rfl | exact v_subi rfl rfl (by omega) | exact v_pickT rfl rfl | exact v_pickF rfl rfl); rfl) | refine wx_no rfl rfl rfl ?_ | refine wx_undef rfl rfl rfl ?_ | refine wx_ungd rfl rfl ?_ | refine wc_seq ?_ | refine wc_region ?_ | refine wx_nil ?_ | refine wq_next ?_ | refine wc_block ?_ | refine wc_ret ?_ | refine wc_skip ?_ | refine wq_then_ret ?_ | refine wq_block ?_ | refine wq_block_ret ?_ | refine wc_reads rfl (by decide +kernel) ?_ | refine wc_condT rfl ?_ | refine wc_condF rfl ?_ | refine wc_if rfl (fun _ => ?_) (fun _ => ?_) | refine wx_gif rfl rfl (fun _ => ?_) (fun _ => ?_))
    all_goals first
      | exact wq_ret1T (151 : Int) rfl rfl (fun h => absurd h (by decide)) rfl
      | exact wq_ret1T (152 : Int) rfl rfl (fun h => absurd h (by decide)) rfl
      | exact wq_ret1T (153 : Int) rfl rfl (fun h => absurd h (by decide)) rfl
      | exact wq_ret1T (130 : Int) rfl rfl (fun h => absurd h (by decide)) rfl
      | exact wq_ret1T (157 : Int) rfl rfl (fun h => absurd h (by decide)) rfl
      | exact wq_ret1T (155 : Int) rfl rfl (fun h => absurd h (by decide)) rfl
      | exact wq_ret1T (156 : Int) rfl rfl (fun h => absurd h (by decide)) rfl
      | exact wq_ret1T (71 : Int) rfl rfl (fun h => absurd h (by decide)) rfl
      | exact wq_ret1T (63 : Int) rfl rfl (fun h => absurd h (by decide)) rfl
      | exact wq_ret1T (154 : Int) rfl rfl (fun h => absurd h (by decide)) rfl
      | skip
    dsimp only at *
    rcases hx with ⟨rfl, _⟩ | ⟨i, r, rfl, hs, q1, q2, q3⟩
    · omega
    exact wq_ret1T (0 : Int) rfl rfl (fun _ => ⟨by dsimp only; omega, by dsimp only; omega, by dsimp only; omega, fun hk => by dsimp only at hk; omega, fun hv => by dsimp only at hv; omega, fun h1 => by dsimp only at h1; omega, fun _ => ⟨i, r, hs, q1, q2, q3, fun hk => by dsimp only at hk; omega⟩, by dsimp only; omega⟩) rfl
  by_cases k6 : kd = 6
  · subst k6
    repeat (first | refine wc_seq ?_ | refine wc_region ?_)
    refine wl_boxA rfl rfl (fun g3 => ?_)
    repeat (first | (apply wx_val; (first | exact v_move rfl | exact v_assign rfl | exact v_faddr rfl rfl | exact v_ldT rfl rfl rfl (by rfl) | exact v_eq rfl rfl | exact v_pickF rfl rfl); rfl) | refine wx_ungd rfl rfl ?_ | refine wc_seq ?_ | refine wc_region ?_ | refine wx_nil ?_ | refine wq_next ?_)
    refine wl_callT (fun w' hr ho => Active_spec se hn h w' ho) rfl rfl rfl ?_
    rintro x hx
    refine wx_cat ?_
    repeat' (first | (apply wx_val; (first | exact v_move rfl | exact v_assign rfl | exact v_nil rfl | exact v_faddr rfl rfl | exact v_ldT rfl rfl rfl (by rfl) | exact v_eq rfl rfl | exact v_ne rfl rfl | exact v_lt rfl rfl | exact v_gt rfl rfl | exact v_ge rfl rfl | exact v_subi rfl rfl (by omega) | exact v_pickT rfl rfl | exact v_pickF rfl rfl); rfl) | refine wx_no rfl rfl rfl ?_ | refine wx_undef rfl rfl rfl ?_ | refine wx_ungd rfl rfl ?_ | refine wc_seq ?_ | refine wc_region ?_ | refine wx_nil ?_ | refine wq_next ?_ | refine wc_block ?_ | refine wc_ret ?_ | refine wc_skip ?_ | refine wq_then_ret ?_ | refine wq_block ?_ | refine wq_block_ret ?_ | refine wc_reads rfl (by decide +kernel) ?_ | refine wc_condT rfl ?_ | refine wc_condF rfl ?_ | refine wc_if rfl (fun _ => ?_) (fun _ => ?_) | refine wx_gif rfl rfl (fun _ => ?_) (fun _ => ?_))
    all_goals first
      | exact wq_ret1T (151 : Int) rfl rfl (fun h => absurd h (by decide)) rfl
      | exact wq_ret1T (152 : Int) rfl rfl (fun h => absurd h (by decide)) rfl
      | exact wq_ret1T (153 : Int) rfl rfl (fun h => absurd h (by decide)) rfl
      | exact wq_ret1T (130 : Int) rfl rfl (fun h => absurd h (by decide)) rfl
      | exact wq_ret1T (157 : Int) rfl rfl (fun h => absurd h (by decide)) rfl
      | exact wq_ret1T (155 : Int) rfl rfl (fun h => absurd h (by decide)) rfl
      | exact wq_ret1T (156 : Int) rfl rfl (fun h => absurd h (by decide)) rfl
      | exact wq_ret1T (71 : Int) rfl rfl (fun h => absurd h (by decide)) rfl
      | exact wq_ret1T (63 : Int) rfl rfl (fun h => absurd h (by decide)) rfl
      | exact wq_ret1T (154 : Int) rfl rfl (fun h => absurd h (by decide)) rfl
      | skip
    dsimp only at *
    rcases hx with ⟨rfl, _⟩ | ⟨i, r, rfl, hs, q1, q2, q3⟩
    · omega
    exact wq_ret1T (0 : Int) rfl rfl (fun _ => ⟨by dsimp only; omega, by dsimp only; omega, by dsimp only; omega, fun hk => by dsimp only at hk; omega, fun hv => by dsimp only at hv; omega, fun h1 => by dsimp only at h1; omega, fun _ => ⟨i, r, hs, q1, q2, q3, fun hk => by dsimp only at hk; omega⟩, by dsimp only; omega⟩) rfl
  have hk : kd < 1 ∨ 6 < kd := by omega
  repeat (first | refine wc_seq ?_ | refine wc_region ?_)
  refine wl_boxA rfl rfl (fun g3 => ?_)
  repeat (first | (apply wx_val; (first | exact v_move rfl | exact v_assign rfl | exact v_faddr rfl rfl | exact v_ldT rfl rfl rfl (by rfl) | exact v_eq rfl rfl); rfl) | refine wc_seq ?_ | refine wc_region ?_ | refine wx_nil ?_ | refine wq_next ?_)
  refine wx_gset false rfl rfl (decide_eq_false k2) ?_
  repeat (first | (apply wx_val; (first | exact v_move rfl | exact v_faddr rfl rfl | exact v_ldT rfl rfl rfl (by rfl) | exact v_eq rfl rfl | exact v_pickF rfl rfl); rfl) | refine wx_ungd rfl rfl ?_)
  refine wx_gset false rfl rfl (decide_eq_false k3) ?_
  repeat (first | (apply wx_val; (first | exact v_move rfl | exact v_assign rfl | exact v_faddr rfl rfl | exact v_ldT rfl rfl rfl (by rfl) | exact v_eq rfl rfl | exact v_pickF rfl rfl); rfl) | refine wx_ungd rfl rfl ?_ | refine wc_seq ?_ | refine wc_region ?_ | refine wx_nil ?_ | refine wq_next ?_)
  refine wl_callT (fun w' hr ho => Active_spec se hn h w' ho) rfl rfl rfl ?_
  rintro x hx
  refine wx_cat ?_
  by_cases k7 : kd < 1
  · skip
    repeat (first | (apply wx_val; (first | exact v_move rfl | exact v_assign rfl | exact v_faddr rfl rfl | exact v_ldT rfl rfl rfl (by rfl) | exact v_lt rfl rfl); rfl) | refine wc_seq ?_ | refine wc_region ?_ | refine wx_nil ?_ | refine wq_next ?_ | refine wc_block ?_)
    refine wx_gset true rfl rfl (decide_eq_true k7) ?_
    repeat (first | (apply wx_val; (first | exact v_assign rfl | exact v_pickT rfl rfl); rfl) | refine wx_no rfl rfl rfl ?_ | refine wc_seq ?_ | refine wc_region ?_ | refine wx_nil ?_ | refine wq_next ?_ | refine wc_ret ?_ | refine wq_then_ret ?_ | refine wq_block_ret ?_ | refine wc_condT rfl ?_)
    exact wq_ret1T (151 : Int) rfl rfl (fun h => absurd h (by decide)) rfl
  · skip
    repeat (first | (apply wx_val; (first | exact v_move rfl | exact v_assign rfl | exact v_faddr rfl rfl | exact v_ldT rfl rfl rfl (by rfl) | exact v_lt rfl rfl); rfl) | refine wc_seq ?_ | refine wc_region ?_ | refine wx_nil ?_ | refine wq_next ?_ | refine wc_block ?_)
    refine wx_gset false rfl rfl (decide_eq_false k7) ?_
    repeat (first | (apply wx_val; (first | exact v_assign rfl | exact v_faddr rfl rfl | exact v_ldT rfl rfl rfl (by rfl) | exact v_gt rfl rfl | exact v_pickF rfl rfl); rfl) | refine wx_ungd rfl rfl ?_ | refine wx_nil ?_ | refine wq_next ?_)
    refine wc_yes rfl (decide_eq_true (by dsimp only; omega)) ?_
    repeat (first | (apply wx_val; (first | exact v_assign rfl); rfl) | refine wc_seq ?_ | refine wc_region ?_ | refine wx_nil ?_ | refine wq_next ?_ | refine wc_ret ?_ | refine wq_then_ret ?_ | refine wq_block_ret ?_)
    exact wq_ret1T (151 : Int) rfl rfl (fun h => absurd h (by decide)) rfl
end mc
end Go.Proofs.Ytgidabcmbngcbaa
