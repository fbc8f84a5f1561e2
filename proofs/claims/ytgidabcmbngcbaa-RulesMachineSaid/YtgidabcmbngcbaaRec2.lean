/- The test of a transaction. -/
import Derived.Test.YtgidabcmbngcbaaRec1
set_option linter.unusedVariables false
set_option linter.unusedSimpArgs false
namespace Go.Proofs.Ytgidabcmbngcbaa
open Go
set_option maxRecDepth 20000
set_option maxHeartbeats 2000000
attribute [local irreducible] WX WC WQ Val VCall
structure TxnW where
  session : Int
  seq : Int
  start : Int
  fin : Int
  invoke : Int
  ret : Int
  status : Int
  ops : LstV OpW
def TxnW.cells (t : TxnW) : List Value := [.int .i64 t.session, .int .i64 t.seq, .int .i64 t.start, .int .i64 t.fin, .int .i64 t.invoke, .int .i64 t.ret, .int .i64 t.status, .slice t.ops.A t.ops.xs.length t.ops.c]
def TxnW.FieldsOk (t : TxnW) : Prop := (0 ≤ t.session ∧ t.session ≤ 1048575) ∧ (0 ≤ t.seq ∧ t.seq ≤ 1048575) ∧ (0 ≤ t.start ∧ t.start ≤ 1099511627776) ∧ (0 ≤ t.fin ∧ t.fin ≤ 1099511627776) ∧ (0 ≤ t.invoke ∧ t.invoke ≤ 1099511627776) ∧ (0 ≤ t.ret ∧ t.ret ≤ 1099511627776) ∧ (0 ≤ t.status ∧ t.status ≤ 1)
instance (t : TxnW) : Decidable t.FieldsOk := inferInstanceAs (Decidable (_ ∧ _))
def TxnW.err (t : TxnW) : Int := if ¬ t.FieldsOk then 62 else if 16 < t.ops.xs.length then 63 else if ∀ o ∈ t.ops.xs, o.Right then 0 else 64
/-- the operations can be read -/
def TxnW.Reads (w : World) (t : TxnW) : Prop := Vw [] w t.ops.A (t.ops.xs.flatMap OpW.cells)
theorem err62 {t : TxnW} (h : ¬ t.FieldsOk) : t.err = 62 := if_pos h
theorem err63 {t : TxnW} (h : t.FieldsOk) (h2 : 16 < t.ops.xs.length) : t.err = 63 := by rw [TxnW.err, if_neg (by simpa using h), if_pos h2]
theorem err64 {t : TxnW} (h : t.FieldsOk) (h2 : t.ops.xs.length ≤ 16) {o : OpW} (ho : o ∈ t.ops.xs) (hr : ¬ o.Right) : t.err = 64 := by
  rw [TxnW.err, if_neg (by simpa using h), if_neg (by omega), if_neg (fun h => hr (h o ho))]
theorem err0 {t : TxnW} (h : t.FieldsOk) (h2 : t.ops.xs.length ≤ 16) (hr : ∀ o ∈ t.ops.xs, o.Right) : t.err = 0 := by
  rw [TxnW.err, if_neg (by simpa using h), if_neg (by omega), if_pos hr]
theorem refValid_spec (t : TxnW) (w : World) (hv : t.Reads w) :
    Calls Try.prog 15 #[.agg t.cells.toArray] w (Ret (β := Unit) w (ids []) (fun _ => .int .i64 t.err) (fun _ => []) (fun _ => True)) := by
  refine go [.agg t.cells.toArray] [] Try.func15 Try.ntmps15 rfl rfl (own_nil w) ?_
  repeat (first | refine wc_seq ?_ | refine wc_region ?_)
  refine wl_box rfl rfl (fun g => ?_)
  repeat' (first | (apply wx_val; (first | exact v_move rfl | exact v_assign rfl | exact v_faddr rfl rfl | (apply v_load rfl rfl rfl; first | exact ld 0 0 rfl rfl rfl | exact ld 1 0 rfl rfl rfl | exact ld 2 0 rfl rfl rfl | exact ld 3 0 rfl rfl rfl | exact ld 4 0 rfl rfl rfl | exact ld 5 0 rfl rfl rfl) | exact v_len rfl rfl | exact v_gt rfl rfl | exact v_pickT rfl rfl | exact v_pickF rfl rfl); rfl) | refine wx_no rfl rfl rfl ?_ | refine wx_ungd rfl rfl ?_ | refine wc_seq ?_ | refine wc_region ?_ | refine wx_nil ?_ | refine wq_next ?_ | refine wc_block ?_ | refine wc_ret ?_ | refine wc_skip ?_ | refine wq_then_ret ?_ | refine wc_condT rfl ?_ | (apply wx_vcall; exact vc_pure rfl rfl (fun w' => bad_spec _ _ w'); rfl) | refine wc_if rfl (fun _ => ?_) (fun _ => ?_) | refine wc_nif rfl (fun _ => ?_) (fun _ => ?_) | refine wx_gnif rfl rfl (fun _ => ?_) (fun _ => ?_))
  all_goals (try exact wq_clear (wq_ret1 () rfl (by rw [err62 (by unfold TxnW.FieldsOk; omega)]; rfl) trivial rfl))
  · rw [err63 (by unfold TxnW.FieldsOk; omega) (by omega)]
    exact wq_clear (wq_ret1 () rfl rfl trivial rfl)
  have hf : t.FieldsOk := by unfold TxnW.FieldsOk; omega
  have hl : t.ops.xs.length ≤ 16 := by omega
  refine wc_loop (ι := Nat) (fun i => [(1, .pointer (some ⟨g, 0, none⟩)), (3, .int .i64 (i : Nat))]) (fun _ => [[(g, .cells t.cells.toArray 24 (0, 0))]]) (fun i => i ≤ t.ops.xs.length ∧ ∀ o ∈ t.ops.xs.take i, o.Right) (fun i => t.ops.xs.length - i) 0 ⟨Nat.zero_le _, by simp⟩ ⟨rfl, rfl, trivial⟩ rfl ?_
  rintro i ⟨hi, hr⟩
  repeat (first | (apply wx_val; (first | exact v_move rfl | exact v_faddr rfl rfl | (apply v_load rfl rfl rfl; first | exact ld 0 0 rfl rfl rfl | exact ld 1 0 rfl rfl rfl | exact ld 2 0 rfl rfl rfl | exact ld 3 0 rfl rfl rfl | exact ld 4 0 rfl rfl rfl | exact ld 5 0 rfl rfl rfl) | exact v_len rfl rfl | exact v_lt rfl rfl); rfl) | refine wc_seq ?_ | refine wc_region ?_ | refine wx_nil ?_ | refine wq_next ?_)
  refine wc_if rfl (fun h1 => ?_) (fun h1 => ?_)
  · obtain ⟨a, ha⟩ : ∃ a, t.ops.xs[i]? = some a := ⟨t.ops.xs[i]'(by omega), List.getElem?_eq_getElem _⟩
    obtain ⟨gB, oB, hA, hcell⟩ := cells_at (k := 4) (by decide) (fun _ => rfl) hv ha
    repeat (first | (apply wx_val; (first | exact v_move rfl | exact v_faddr rfl rfl | (apply v_load rfl rfl rfl; first | exact ld 0 0 rfl rfl rfl | exact ld 1 0 rfl rfl rfl | exact ld 2 0 rfl rfl rfl | exact ld 3 0 rfl rfl rfl | exact ld 4 0 rfl rfl rfl | exact ld 5 0 rfl rfl rfl)); rfl) | refine wc_seq ?_ | refine wc_region ?_ | refine wq_next ?_ | refine wc_block ?_ | refine wc_skip ?_)
    apply wx_val
    exact v_iaddr rfl (by rw [← hA]; rfl) rfl (by omega)
    rfl
    apply wx_val
    exact v_loadA (cs := OpW.cells a) rfl rfl (fun w' hr j v hj => by
      have := hcell i a ha hr j v hj
      rw [show (i : Int).toNat = i by omega]
      exact this)
    rfl
    refine wx_vcall (vc_pure rfl rfl (fun w' => RightOp_spec a w')) rfl ?_
    repeat (first | (apply wx_val; (first | exact v_move rfl | exact v_assign rfl | exact v_not rfl); rfl) | refine wc_seq ?_ | refine wc_region ?_ | refine wx_nil ?_ | refine wq_next ?_)
    refine wc_nif rfl (fun h2 => ?_) (fun h2 => ?_)
    · repeat (first | (apply wx_val; (first | exact v_move rfl | exact v_assign rfl | exact v_addi rfl rfl (by omega)); rfl) | refine wc_region ?_ | refine wx_nil ?_ | refine wq_next ?_ | refine wc_skip ?_ | refine wq_block ?_)
      refine wq_round (i + 1) ⟨by (try dsimp only); omega, fun o ho => ?_⟩ (by (try dsimp only); omega) ⟨rfl, rfl, trivial⟩ rfl
      rw [List.take_add_one, ha] at ho
      rcases List.mem_append.1 ho with ho | ho
      · exact hr o ho
      · obtain rfl : o = a := by simpa using ho
        exact h2
    · rw [err64 hf hl (List.mem_of_getElem? ha) h2]
      repeat (first | (apply wx_val; (first | exact v_assign rfl); rfl) | refine wc_seq ?_ | refine wc_region ?_ | refine wx_nil ?_ | refine wq_next ?_ | refine wc_ret ?_ | refine wq_then_ret ?_ | refine wq_block_ret ?_)
      exact wq_clear (wq_ret1 () rfl rfl trivial rfl)
  · rw [err0 hf hl (by rw [List.take_of_length_le (by omega)] at hr; exact hr)]
    repeat (first | (apply wx_val; (first | exact v_assign rfl); rfl) | refine wc_seq ?_ | refine wc_region ?_ | refine wx_nil ?_ | refine wq_next ?_ | refine wc_ret ?_ | refine wc_exit ?_ | refine wq_then_exit ?_ | refine wq_block_exit rfl ?_)
    exact wq_clear (wq_ret1 () rfl rfl trivial rfl)
theorem recValid_spec (t : TxnW) (w : World) (hv : t.Reads w) :
    Calls Try.prog 44 #[.agg t.cells.toArray] w (Ret (β := Unit) w (ids []) (fun _ => .int .i64 t.err) (fun _ => []) (fun _ => True)) := by
  refine go [.agg t.cells.toArray] [] Try.func44 Try.ntmps44 rfl rfl (own_nil w) ?_
  repeat (first | refine wc_seq ?_ | refine wc_region ?_)
  refine wl_box rfl rfl (fun g => ?_)
  repeat' (first | (apply wx_val; (first | exact v_move rfl | exact v_assign rfl | exact v_faddr rfl rfl | (apply v_load rfl rfl rfl; first | exact ld 0 0 rfl rfl rfl | exact ld 1 0 rfl rfl rfl | exact ld 2 0 rfl rfl rfl | exact ld 3 0 rfl rfl rfl | exact ld 4 0 rfl rfl rfl | exact ld 5 0 rfl rfl rfl) | exact v_not rfl | exact v_pickT rfl rfl | exact v_pickF rfl rfl); rfl) | refine wx_no rfl rfl rfl ?_ | refine wx_ungd rfl rfl ?_ | refine wc_seq ?_ | refine wc_region ?_ | refine wx_nil ?_ | refine wq_next ?_ | refine wc_ret ?_ | refine wc_skip ?_ | refine wq_then_ret ?_ | refine wc_condT rfl ?_ | (apply wx_vcall; exact vc_pure rfl rfl (fun w' => within_spec _ _ w'); rfl) | refine wc_nif rfl (fun _ => ?_) (fun _ => ?_) | refine wx_gnif rfl rfl (fun _ => ?_) (fun _ => ?_))
  all_goals (try exact wq_clear (wq_ret1 () rfl (by rw [err62 (by unfold TxnW.FieldsOk; omega)]; rfl) trivial rfl))
  (try refine wx_ungd rfl rfl ?_)
  apply wx_val
  exact v_build (cs := ([.int .i64 t.start, .int .i64 t.fin, .int .i64 t.invoke, .int .i64 t.ret]).toArray) rfl (by kernel_rfl)
  rfl
  repeat (first | (apply wx_val; (first | exact v_move rfl); rfl) | refine wx_nil ?_ | refine wq_next ?_ | refine wc_block ?_)
  refine wc_loop (ι := Nat) (fun i => [(1, .pointer (some ⟨g, 0, none⟩)), (31, .agg [.int .i64 t.start, .int .i64 t.fin, .int .i64 t.invoke, .int .i64 t.ret].toArray), (32, .int .i64 (i : Nat))]) (fun _ => [[(g, .cells t.cells.toArray 24 (0, 0))]]) (fun i => i ≤ 4 ∧ (0 < i → 0 ≤ t.start ∧ t.start ≤ 1099511627776) ∧ (1 < i → 0 ≤ t.fin ∧ t.fin ≤ 1099511627776) ∧ (2 < i → 0 ≤ t.invoke ∧ t.invoke ≤ 1099511627776) ∧ (3 < i → 0 ≤ t.ret ∧ t.ret ≤ 1099511627776)) (fun i => 4 - i) 0 (by simp) ⟨rfl, rfl, rfl, trivial⟩ rfl ?_
  rintro i ⟨hi, hs1, hs2, hs3, hs4⟩
  obtain rfl | rfl | rfl | rfl | rfl : i = 0 ∨ i = 1 ∨ i = 2 ∨ i = 3 ∨ i = 4 := by omega
  · repeat' (first | (apply wx_val; (first | exact v_move rfl | exact v_assign rfl | exact v_lt rfl rfl | exact v_addi rfl rfl (by omega) | exact v_not rfl | exact v_idxP rfl rfl rfl (by omega) rfl); rfl) | refine wc_seq ?_ | refine wc_region ?_ | refine wx_nil ?_ | refine wq_next ?_ | refine wc_block ?_ | refine wc_ret ?_ | refine wc_skip ?_ | refine wq_then_ret ?_ | refine wq_block ?_ | refine wq_block_ret ?_ | refine wc_condT rfl ?_ | (apply wx_vcall; exact vc_pure rfl rfl (fun w' => within_spec _ _ w'); rfl) | refine wc_nif rfl (fun _ => ?_) (fun _ => ?_))
    · refine wq_round 1 (by omega) (by (try dsimp only); omega) ⟨rfl, rfl, rfl, trivial⟩ rfl
    · exact wq_clear (wq_ret1 () rfl (by rw [err62 (by unfold TxnW.FieldsOk; omega)]; rfl) trivial rfl)
  · repeat' (first | (apply wx_val; (first | exact v_move rfl | exact v_assign rfl | exact v_lt rfl rfl | exact v_addi rfl rfl (by omega) | exact v_not rfl | exact v_idxP rfl rfl rfl (by omega) rfl); rfl) | refine wc_seq ?_ | refine wc_region ?_ | refine wx_nil ?_ | refine wq_next ?_ | refine wc_block ?_ | refine wc_ret ?_ | refine wc_skip ?_ | refine wq_then_ret ?_ | refine wq_block ?_ | refine wq_block_ret ?_ | refine wc_condT rfl ?_ | (apply wx_vcall; exact vc_pure rfl rfl (fun w' => within_spec _ _ w'); rfl) | refine wc_nif rfl (fun _ => ?_) (fun _ => ?_))
    · refine wq_round 2 (by omega) (by (try dsimp only); omega) ⟨rfl, rfl, rfl, trivial⟩ rfl
    · exact wq_clear (wq_ret1 () rfl (by rw [err62 (by unfold TxnW.FieldsOk; omega)]; rfl) trivial rfl)
  · repeat' (first | (apply wx_val; (first | exact v_move rfl | exact v_assign rfl | exact v_lt rfl rfl | exact v_addi rfl rfl (by omega) | exact v_not rfl | exact v_idxP rfl rfl rfl (by omega) rfl); rfl) | refine wc_seq ?_ | refine wc_region ?_ | refine wx_nil ?_ | refine wq_next ?_ | refine wc_block ?_ | refine wc_ret ?_ | refine wc_skip ?_ | refine wq_then_ret ?_ | refine wq_block ?_ | refine wq_block_ret ?_ | refine wc_condT rfl ?_ | (apply wx_vcall; exact vc_pure rfl rfl (fun w' => within_spec _ _ w'); rfl) | refine wc_nif rfl (fun _ => ?_) (fun _ => ?_))
    · refine wq_round 3 (by omega) (by (try dsimp only); omega) ⟨rfl, rfl, rfl, trivial⟩ rfl
    · exact wq_clear (wq_ret1 () rfl (by rw [err62 (by unfold TxnW.FieldsOk; omega)]; rfl) trivial rfl)
  · repeat' (first | (apply wx_val; (first | exact v_move rfl | exact v_assign rfl | exact v_lt rfl rfl | exact v_addi rfl rfl (by omega) | exact v_not rfl | exact v_idxP rfl rfl rfl (by omega) rfl); rfl) | refine wc_seq ?_ | refine wc_region ?_ | refine wx_nil ?_ | refine wq_next ?_ | refine wc_block ?_ | refine wc_ret ?_ | refine wc_skip ?_ | refine wq_then_ret ?_ | refine wq_block ?_ | refine wq_block_ret ?_ | refine wc_condT rfl ?_ | (apply wx_vcall; exact vc_pure rfl rfl (fun w' => within_spec _ _ w'); rfl) | refine wc_nif rfl (fun _ => ?_) (fun _ => ?_))
    · refine wq_round 4 (by omega) (by (try dsimp only); omega) ⟨rfl, rfl, rfl, trivial⟩ rfl
    · exact wq_clear (wq_ret1 () rfl (by rw [err62 (by unfold TxnW.FieldsOk; omega)]; rfl) trivial rfl)
  repeat' (first | (apply wx_val; (first | exact v_move rfl | exact v_assign rfl | exact v_faddr rfl rfl | (apply v_load rfl rfl rfl; first | exact ld 0 0 rfl rfl rfl | exact ld 1 0 rfl rfl rfl | exact ld 2 0 rfl rfl rfl | exact ld 3 0 rfl rfl rfl | exact ld 4 0 rfl rfl rfl | exact ld 5 0 rfl rfl rfl) | exact v_len rfl rfl | exact v_lt rfl rfl | exact v_gt rfl rfl); rfl) | refine wc_seq ?_ | refine wc_region ?_ | refine wx_nil ?_ | refine wq_next ?_ | refine wc_block ?_ | refine wc_ret ?_ | refine wc_skip ?_ | refine wc_exit ?_ | refine wq_then_ret ?_ | refine wq_then_exit ?_ | refine wq_block_exit rfl ?_ | refine wc_condF rfl ?_ | refine wc_if rfl (fun _ => ?_) (fun _ => ?_))
  · rw [err63 (by unfold TxnW.FieldsOk; omega) (by omega)]
    exact wq_clear (wq_ret1 () rfl rfl trivial rfl)
  have hf : t.FieldsOk := by unfold TxnW.FieldsOk; omega
  have hl : t.ops.xs.length ≤ 16 := by omega
  refine wc_clear ?_
  refine wc_loop (ι := Nat) (fun i => [(44, .slice t.ops.A t.ops.xs.length t.ops.c), (45, .int .i64 (t.ops.xs.length : Nat)), (46, .int .i64 (i : Nat))]) (fun _ => []) (fun i => i ≤ t.ops.xs.length ∧ ∀ o ∈ t.ops.xs.take i, o.Right) (fun i => t.ops.xs.length - i) 0 ⟨Nat.zero_le _, by simp⟩ ⟨rfl, rfl, rfl, trivial⟩ rfl ?_
  rintro i ⟨hi, hr⟩
  repeat (first | (apply wx_val; (first | exact v_lt rfl rfl); rfl) | refine wc_seq ?_ | refine wc_region ?_ | refine wx_nil ?_ | refine wq_next ?_)
  refine wc_if rfl (fun h1 => ?_) (fun h1 => ?_)
  · obtain ⟨a, ha⟩ : ∃ a, t.ops.xs[i]? = some a := ⟨t.ops.xs[i]'(by omega), List.getElem?_eq_getElem _⟩
    obtain ⟨gB, oB, hA, hcell⟩ := cells_at (k := 4) (by decide) (fun _ => rfl) hv ha
    repeat (first | refine wc_seq ?_ | refine wc_region ?_ | refine wq_next ?_ | refine wc_block ?_ | refine wc_skip ?_)
    apply wx_val
    exact v_iaddr rfl (by rw [← hA]; rfl) rfl (by omega)
    rfl
    apply wx_val
    exact v_loadA (cs := OpW.cells a) rfl rfl (fun w' hr j v hj => by
      have := hcell i a ha hr j v hj
      rw [show (i : Int).toNat = i by omega]
      exact this)
    rfl
    refine wl_alloc rfl rfl (fun g => ?_)
    refine wl_stA 0 (vs := OpW.cells a) rfl rfl rfl rfl rfl (.inl (Nat.le_refl _)) rfl ?_
    repeat (first | (apply wx_val; (first | (first | exact v_ldA 0 0 rfl rfl rfl rfl)); rfl) | refine wc_seq ?_ | refine wc_region ?_ | refine wx_nil ?_ | refine wq_next ?_)
    refine wx_vcall (vc_pure rfl rfl (fun w' => rightOp_spec a w')) rfl ?_
    repeat (first | (apply wx_val; (first | exact v_not rfl); rfl) | refine wx_nil ?_ | refine wq_next ?_)
    refine wc_nif rfl (fun h2 => ?_) (fun h2 => ?_)
    · repeat (first | (apply wx_val; (first | exact v_move rfl | exact v_addi rfl rfl (by omega)); rfl) | refine wc_region ?_ | refine wx_nil ?_ | refine wq_next ?_ | refine wc_skip ?_ | refine wq_block ?_)
      refine wq_clear ?_
      refine wq_round (i + 1) ⟨by (try dsimp only); omega, fun o ho => ?_⟩ (by (try dsimp only); omega) ⟨rfl, rfl, rfl, trivial⟩ rfl
      rw [List.take_add_one, ha] at ho
      rcases List.mem_append.1 ho with ho | ho
      · exact hr o ho
      · obtain rfl : o = a := by simpa using ho
        exact h2
    · rw [err64 hf hl (List.mem_of_getElem? ha) h2]
      repeat (first | (apply wx_val; (first | exact v_assign rfl); rfl) | refine wc_seq ?_ | refine wc_region ?_ | refine wx_nil ?_ | refine wq_next ?_ | refine wc_ret ?_ | refine wq_then_ret ?_ | refine wq_block_ret ?_)
      exact wq_clear (wq_ret1 () rfl rfl trivial rfl)
  · rw [err0 hf hl (by rw [List.take_of_length_le (by omega)] at hr; exact hr)]
    repeat (first | (apply wx_val; (first | exact v_assign rfl); rfl) | refine wc_seq ?_ | refine wc_region ?_ | refine wx_nil ?_ | refine wq_next ?_ | refine wc_ret ?_ | refine wc_exit ?_ | refine wq_then_exit ?_ | refine wq_block_exit rfl ?_)
    exact wq_clear (wq_ret1 () rfl rfl trivial rfl)
end Go.Proofs.Ytgidabcmbngcbaa
