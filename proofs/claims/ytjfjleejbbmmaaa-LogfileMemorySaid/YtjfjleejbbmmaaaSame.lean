/- The statements' own comparison of bytes. -/
import Derived.Test.YtjfjleejbbmmaaaProg
import Derived.Test.YtjfjleejbbmmaaaKit1
set_option linter.unusedVariables false
set_option linter.unusedSimpArgs false
namespace Go.Proofs.Ytjfjleejbbmmaaa
open Go
set_option maxRecDepth 20000
attribute [local irreducible] WX WC WQ Val VCall
theorem same_spec {A B : Option Addr} {ca cb : Nat} {a b : List UInt8} (ha : a.length ≤ 9223372036854775807) (w : World) (hva : Vw [] w A (bys a)) (hvb : Vw [] w B (bys b)) :
    Calls Try.prog 20 #[.slice A a.length ca, .slice B b.length cb] w (Ret (β := Unit) w (ids []) (fun _ => .bool (decide (a = b))) (fun _ => []) (fun _ => True)) := by
  refine go [.slice A a.length ca, .slice B b.length cb] [] Try.func20 Try.ntmps20 rfl rfl (own_nil w) ?_
  repeat (first | (apply wx_val; (first | exact v_move rfl | exact v_assign rfl | exact v_len rfl rfl | exact v_ne rfl rfl); rfl) | refine wc_seq ?_ | refine wc_region ?_ | refine wx_nil ?_ | refine wq_next ?_)
  refine wc_if rfl (fun h1 => ?_) (fun h1 => ?_)
  · have e : decide (a = b) = false := by
      rw [decide_eq_false_iff_not]; intro e; subst e; exact h1 rfl
    repeat (first | (apply wx_val; (first | exact v_assign rfl); rfl) | refine wc_seq ?_ | refine wc_region ?_ | refine wx_nil ?_ | refine wq_next ?_ | refine wc_ret ?_ | refine wq_then_ret ?_)
    rw [e]
    exact wq_ret1 () rfl rfl trivial rfl
  · have hl : a.length = b.length := by
      have : ¬ (a.length : Int) ≠ b.length := h1
      omega
    repeat (first | (apply wx_val; (first | exact v_move rfl | exact v_len rfl rfl); rfl) | refine wc_seq ?_ | refine wc_region ?_ | refine wx_nil ?_ | refine wq_next ?_ | refine wc_block ?_ | refine wc_skip ?_)
    refine wc_loop (ι := Nat) (fun i => [(12, .slice A a.length ca), (13, .int .i64 (a.length : Int)), (14, .int .i64 (i : Int)), (1, .slice B b.length cb)]) (fun _ => []) (fun i => i ≤ a.length ∧ a.take i = b.take i) (fun i => a.length - i) 0 ⟨by omega, by simp⟩ ⟨rfl, rfl, rfl, rfl, trivial⟩ rfl ?_
    rintro i ⟨hi, ht⟩
    repeat (first | (apply wx_val; (first | exact v_lt rfl rfl); rfl) | refine wc_seq ?_ | refine wc_region ?_ | refine wx_nil ?_ | refine wq_next ?_)
    refine wc_if rfl (fun h2 => ?_) (fun h2 => ?_)
    · obtain ⟨g1, o1, rfl, hc1⟩ := hva.atB (i := i) (by omega)
      obtain ⟨g2, o2, rfl, hc2⟩ := hvb.atB (i := i) (by omega)
      repeat (first | (apply wx_val; (first | exact v_move rfl | exact v_iaddr rfl rfl rfl (by omega)); rfl) | refine wc_seq ?_ | refine wc_region ?_ | refine wq_next ?_ | refine wc_block ?_ | refine wc_skip ?_)
      apply wx_val
      exact v_ldx rfl rfl rfl (fun w' hr => hc1 i w' _ (by omega) hr) (by omega)
      rfl
      repeat (first | (apply wx_val; (first | exact v_move rfl | exact v_assign rfl | exact v_iaddr rfl rfl rfl (by omega)); rfl) | refine wc_seq ?_ | refine wc_region ?_ | refine wx_nil ?_ | refine wq_next ?_)
      apply wx_val
      exact v_ldx rfl rfl rfl (fun w' hr => hc2 i w' _ (by omega) hr) (by omega)
      rfl
      repeat (first | (apply wx_val; (first | exact v_ne rfl rfl); rfl) | refine wx_nil ?_ | refine wq_next ?_)
      refine wc_if rfl (fun h3 => ?_) (fun h3 => ?_)
      · have e : decide (a = b) = false := by
          rw [decide_eq_false_iff_not]; intro e; subst e; exact h3 rfl
        repeat (first | (apply wx_val; (first | exact v_assign rfl); rfl) | refine wc_seq ?_ | refine wc_region ?_ | refine wx_nil ?_ | refine wq_next ?_ | refine wc_ret ?_ | refine wq_then_ret ?_ | refine wq_block_ret ?_)
        rw [e]
        exact wq_ret1 () rfl rfl trivial rfl
      · have h3' : a.getD i 0 = b.getD i 0 := by
          have : ¬ ((a.getD i 0).toNat : Int) ≠ (b.getD i 0).toNat := h3
          exact UInt8.toNat_inj.1 (by omega)
        repeat (first | (apply wx_val; (first | exact v_move rfl | exact v_addi rfl rfl (by omega)); rfl) | refine wc_region ?_ | refine wx_nil ?_ | refine wq_next ?_ | refine wc_skip ?_ | refine wq_block ?_)
        refine wq_round (i + 1) ⟨by (try dsimp only); omega, ?_⟩ (by (try dsimp only); omega) ⟨rfl, rfl, rfl, rfl, trivial⟩ rfl
        rw [take_snocD (by omega), take_snocD (by omega), ht, h3']
    · have e : decide (a = b) = true := by
        rw [decide_eq_true_eq]
        rw [List.take_of_length_le (by omega), List.take_of_length_le (by omega)] at ht
        exact ht
      repeat (first | (apply wx_val; (first | exact v_assign rfl); rfl) | refine wc_seq ?_ | refine wc_region ?_ | refine wx_nil ?_ | refine wq_next ?_ | refine wc_ret ?_ | refine wc_exit ?_ | refine wq_then_exit ?_ | refine wq_block_exit rfl ?_)
      rw [e]
      exact wq_ret1 () rfl rfl trivial rfl

end Go.Proofs.Ytjfjleejbbmmaaa
