/- Transactions as values; the two tests of an operation. -/
import Derived.Test.YtgidabcmbngcbaaKit1
import Derived.Test.YtgidabcmbngcbaaKit3
set_option linter.unusedVariables false
set_option linter.unusedSimpArgs false
namespace Go.Proofs.Ytgidabcmbngcbaa
open Go
set_option maxRecDepth 20000
set_option maxHeartbeats 2000000
attribute [local irreducible] WX WC WQ Val VCall
structure OpW where
  kind : Int
  key : ByteArray
  found : Bool
  value : ByteArray
def OpW.cells (o : OpW) : List Value := [.int .i64 o.kind, .string o.key, .bool o.found, .string o.value]
def OpW.Right (o : OpW) : Prop := 1 ≤ o.key.size ∧ o.key.size ≤ 8 ∧ o.value.size ≤ 16 ∧
  ((o.kind = 1 ∧ (o.found = true ∨ o.value.size = 0)) ∨ (o.kind = 2 ∧ o.found = true) ∨ (o.kind = 3 ∧ o.found = false ∧ o.value.size = 0))
instance (o : OpW) : Decidable o.Right := inferInstanceAs (Decidable (_ ∧ _))
theorem empty_iff (v : ByteArray) : v = ByteArray.mk #[] ↔ v.size = 0 := by
  constructor
  · rintro rfl; rfl
  · intro h
    have : v.data = #[] := Array.eq_empty_of_size_eq_zero h
    cases v; simp at this; rw [this]
theorem bad_spec (n m : Int) (w : World) :
    Calls Try.prog 32 #[.int .i64 n, .int .i64 m] w (Ret (β := Unit) w (ids []) (fun _ => .bool (!decide (0 ≤ n ∧ n ≤ m))) (fun _ => []) (fun _ => True)) := by
  refine go [.int .i64 n, .int .i64 m] [] Try.func32 Try.ntmps32 rfl rfl (own_nil w) ?_
  repeat' (first | (apply wx_val; (first | exact v_move rfl | exact v_assign rfl | exact v_lt rfl rfl | exact v_gt rfl rfl | exact v_pickT rfl rfl | exact v_pickF rfl rfl); rfl) | refine wx_no rfl rfl rfl ?_ | refine wx_ungd rfl rfl ?_ | refine wc_seq ?_ | refine wc_region ?_ | refine wx_nil ?_ | refine wq_next ?_ | refine wc_ret ?_ | refine wx_gif rfl rfl (fun _ => ?_) (fun _ => ?_))
  all_goals exact wq_ret1 () rfl (bool_val (by rw [Bool.eq_iff_iff]; simp only [Bool.not_eq_true', decide_eq_true_eq, decide_eq_false_iff_not, Bool.false_eq_true, true_iff, false_iff]; omega)) trivial rfl
theorem within_spec (n m : Int) (w : World) :
    Calls Try.prog 58 #[.int .i64 n, .int .i64 m] w (Ret (β := Unit) w (ids []) (fun _ => .bool (decide (0 ≤ n ∧ n ≤ m))) (fun _ => []) (fun _ => True)) := by
  refine go [.int .i64 n, .int .i64 m] [] Try.func58 Try.ntmps58 rfl rfl (own_nil w) ?_
  repeat' (first | (apply wx_val; (first | exact v_move rfl | exact v_assign rfl | exact v_le rfl rfl | exact v_ge rfl rfl | exact v_pickT rfl rfl | exact v_pickF rfl rfl); rfl) | refine wx_no rfl rfl rfl ?_ | refine wx_ungd rfl rfl ?_ | refine wc_seq ?_ | refine wc_region ?_ | refine wx_nil ?_ | refine wq_next ?_ | refine wc_ret ?_ | refine wx_gif rfl rfl (fun _ => ?_) (fun _ => ?_))
  all_goals exact wq_ret1 () rfl (bool_val (by rw [Bool.eq_iff_iff]; simp only [Bool.not_eq_true', decide_eq_true_eq, decide_eq_false_iff_not, Bool.false_eq_true, true_iff, false_iff]; omega)) trivial rfl
theorem RightOp_spec (o : OpW) (w : World) :
    Calls Try.prog 33 #[.agg o.cells.toArray] w (Ret (β := Unit) w (ids []) (fun _ => .bool (decide o.Right)) (fun _ => []) (fun _ => True)) := by
  obtain ⟨k, key, found, value⟩ := o
  refine go [.agg (OpW.cells ⟨k, key, found, value⟩).toArray] [] Try.func33 Try.ntmps33 rfl rfl (own_nil w) ?_
  repeat (first | refine wc_seq ?_ | refine wc_region ?_)
  cases found
  case false =>
    refine wl_box rfl rfl (fun g => ?_)
    repeat' (first | (apply wx_val; (first | exact v_move rfl | exact v_assign rfl | exact v_faddr rfl rfl | (apply v_load rfl rfl rfl; first | exact ld 0 0 rfl rfl rfl | exact ld 1 0 rfl rfl rfl | exact ld 2 0 rfl rfl rfl | exact ld 3 0 rfl rfl rfl | exact ld 4 0 rfl rfl rfl | exact ld 5 0 rfl rfl rfl) | exact v_slen rfl rfl | exact v_eq rfl rfl | exact v_gt rfl rfl | exact v_not rfl | exact v_pickT rfl rfl | exact v_pickF rfl rfl); rfl) | refine wx_no rfl rfl rfl ?_ | refine wx_ungd rfl rfl ?_ | refine wc_seq ?_ | refine wc_region ?_ | refine wx_nil ?_ | refine wq_next ?_ | refine wc_ret ?_ | refine wc_skip ?_ | refine wq_then_ret ?_ | refine wc_condT rfl ?_ | refine wc_if rfl (fun _ => ?_) (fun _ => ?_) | refine wx_gif rfl rfl (fun _ => ?_) (fun _ => ?_))
    all_goals (try simp only [empty_iff] at *)
    
    all_goals exact wq_clear (wq_ret1 () rfl (bool_val (by rw [Bool.eq_iff_iff]; simp only [OpW.Right, decide_eq_true_eq, true_or, or_true, and_true, and_false, false_or, or_false, reduceCtorEq, Bool.false_eq_true, false_iff, true_iff, empty_iff, true_and, false_and]; omega)) trivial rfl)
  case true =>
    refine wl_box rfl rfl (fun g => ?_)
    repeat' (first | (apply wx_val; (first | exact v_move rfl | exact v_assign rfl | exact v_faddr rfl rfl | (apply v_load rfl rfl rfl; first | exact ld 0 0 rfl rfl rfl | exact ld 1 0 rfl rfl rfl | exact ld 2 0 rfl rfl rfl | exact ld 3 0 rfl rfl rfl | exact ld 4 0 rfl rfl rfl | exact ld 5 0 rfl rfl rfl) | exact v_slen rfl rfl | exact v_eq rfl rfl | exact v_gt rfl rfl | exact v_not rfl | exact v_pickT rfl rfl | exact v_pickF rfl rfl); rfl) | refine wx_no rfl rfl rfl ?_ | refine wx_ungd rfl rfl ?_ | refine wc_seq ?_ | refine wc_region ?_ | refine wx_nil ?_ | refine wq_next ?_ | refine wc_ret ?_ | refine wc_skip ?_ | refine wq_then_ret ?_ | refine wc_condT rfl ?_ | refine wc_if rfl (fun _ => ?_) (fun _ => ?_) | refine wx_gif rfl rfl (fun _ => ?_) (fun _ => ?_))
    all_goals (try simp only [empty_iff] at *)
    
    all_goals exact wq_clear (wq_ret1 () rfl (bool_val (by rw [Bool.eq_iff_iff]; simp only [OpW.Right, decide_eq_true_eq, true_or, or_true, and_true, and_false, false_or, or_false, reduceCtorEq, Bool.false_eq_true, false_iff, true_iff, empty_iff, true_and, false_and]; omega)) trivial rfl)
theorem rightOp_spec (o : OpW) (w : World) :
    Calls Try.prog 59 #[.agg o.cells.toArray] w (Ret (β := Unit) w (ids []) (fun _ => .bool (decide o.Right)) (fun _ => []) (fun _ => True)) := by
  obtain ⟨k, key, found, value⟩ := o
  refine go [.agg (OpW.cells ⟨k, key, found, value⟩).toArray] [] Try.func59 Try.ntmps59 rfl rfl (own_nil w) ?_
  repeat (first | refine wc_seq ?_ | refine wc_region ?_)
  cases found
  case false =>
    refine wl_box rfl rfl (fun g => ?_)
    repeat' (first | (apply wx_val; (first | exact v_move rfl | exact v_assign rfl | exact v_faddr rfl rfl | (apply v_load rfl rfl rfl; first | exact ld 0 0 rfl rfl rfl | exact ld 1 0 rfl rfl rfl | exact ld 2 0 rfl rfl rfl | exact ld 3 0 rfl rfl rfl | exact ld 4 0 rfl rfl rfl | exact ld 5 0 rfl rfl rfl) | exact v_slen rfl rfl | exact v_eq rfl rfl | exact v_lt rfl rfl | exact v_gt rfl rfl | exact v_streq rfl rfl | exact v_pickT rfl rfl | exact v_pickF rfl rfl); rfl) | refine wx_no rfl rfl rfl ?_ | refine wx_ungd rfl rfl ?_ | refine wc_seq ?_ | refine wc_region ?_ | refine wx_nil ?_ | refine wq_next ?_ | refine wc_block ?_ | refine wc_ret ?_ | refine wc_skip ?_ | refine wc_exit ?_ | refine wq_then_ret ?_ | refine wq_then_exit ?_ | refine wq_block ?_ | refine wq_block_ret ?_ | refine wq_block_exit rfl ?_ | refine wq_block_pass rfl ?_ | refine wc_condT rfl ?_ | refine wc_condF rfl ?_ | refine wc_if rfl (fun _ => ?_) (fun _ => ?_) | refine wx_gif rfl rfl (fun _ => ?_) (fun _ => ?_))
    all_goals (try simp only [empty_iff] at *)
    
    all_goals exact wq_clear (wq_ret1 () rfl (bool_val (by rw [Bool.eq_iff_iff]; simp only [OpW.Right, decide_eq_true_eq, true_or, or_true, and_true, and_false, false_or, or_false, reduceCtorEq, Bool.false_eq_true, false_iff, true_iff, empty_iff, true_and, false_and]; omega)) trivial rfl)
  case true =>
    refine wl_box rfl rfl (fun g => ?_)
    repeat' (first | (apply wx_val; (first | exact v_move rfl | exact v_assign rfl | exact v_faddr rfl rfl | (apply v_load rfl rfl rfl; first | exact ld 0 0 rfl rfl rfl | exact ld 1 0 rfl rfl rfl | exact ld 2 0 rfl rfl rfl | exact ld 3 0 rfl rfl rfl | exact ld 4 0 rfl rfl rfl | exact ld 5 0 rfl rfl rfl) | exact v_slen rfl rfl | exact v_eq rfl rfl | exact v_lt rfl rfl | exact v_gt rfl rfl | exact v_pickT rfl rfl | exact v_pickF rfl rfl); rfl) | refine wx_no rfl rfl rfl ?_ | refine wx_ungd rfl rfl ?_ | refine wc_seq ?_ | refine wc_region ?_ | refine wx_nil ?_ | refine wq_next ?_ | refine wc_block ?_ | refine wc_ret ?_ | refine wc_skip ?_ | refine wc_exit ?_ | refine wq_then_ret ?_ | refine wq_then_exit ?_ | refine wq_block_ret ?_ | refine wq_block_exit rfl ?_ | refine wq_block_pass rfl ?_ | refine wc_condT rfl ?_ | refine wc_if rfl (fun _ => ?_) (fun _ => ?_) | refine wx_gif rfl rfl (fun _ => ?_) (fun _ => ?_))
    all_goals (try simp only [empty_iff] at *)
    
    all_goals exact wq_clear (wq_ret1 () rfl (bool_val (by rw [Bool.eq_iff_iff]; simp only [OpW.Right, decide_eq_true_eq, true_or, or_true, and_true, and_false, false_or, or_false, reduceCtorEq, Bool.false_eq_true, false_iff, true_iff, empty_iff, true_and, false_and]; omega)) trivial rfl)
end Go.Proofs.Ytgidabcmbngcbaa
