/- A device's reads. -/
import Derived.Test.YtfdkdcopjajklaaDev1
import Derived.Test.YtfdkdcopjajklaaKitR
set_option linter.unusedVariables false
set_option linter.unusedSimpArgs false
namespace Go.Proofs.Ytfdkdcopjajklaa
open Go
set_option maxRecDepth 20000
set_option maxHeartbeats 2000000
attribute [local irreducible] WX WC WQ Val VCall
theorem place_good (p : Int × Int) : KeyGood Try.prog 79 (pairKey p) := good_pair Try.underlying79 Try.underlying3 Try.underlying3 rfl rfl p
theorem place_ok (a b : Int × Int) : KeyOk Try.prog 79 (pairKey a) (pairKey b) := ok_pair Try.underlying79 (fun a b => by kernel_rfl) a b
def DevS.rdHit (S : DevS) (r b : Int) : Option FaultW := hitL S.fl r b ((seenN S.seen (r, b) + 1 : Nat) : Int)
def DevS.rd (S : DevS) (r b : Int) : DevS := { S with seen := S.seen ++ [(r, b)], ns := S.ns + if (S.rdHit r b).isSome then 1 else 0 }
def Lay.rd (y : Lay) (r b : Int) (n : Nat) : Lay := { y with L := aput (r, b) (.int .i64 ((n : Nat) : Int)) y.L y.clk, clk := aclk (r, b) y.L y.clk }
theorem DevOk.getD {S : DevS} {y : Lay} (h : DevOk S y) (p : Int × Int) : (aget p y.L).getD (.int .i64 0) = .int .i64 ((seenN S.seen p : Nat) : Int) := by
  rw [h.get p]
  split
  · rename_i e; rw [e]; rfl
  · rfl
theorem DevOk.rd {S : DevS} {y : Lay} (h : DevOk S y) (r b : Int) (h1 : S.ns + 1 ≤ S.ops) (h2 : S.seen.length + 1 ≤ S.ops) : DevOk (S.rd r b) (y.rd r b (seenN S.seen (r, b) + 1)) := by
  obtain ⟨⟨a1, a2, a3, a4, a5, a6, a7, a8⟩, b1, b2, b3, b4⟩ := h
  refine ⟨⟨a1, a2, a3, a4, a5, a6, a7, ?_⟩, b1, b2, b3.put _ _, fun p => ?_⟩
  · simp only [DevS.rd, List.length_append, List.length_cons, List.length_nil]
    split <;> omega
  · show aget p (aput (r, b) _ y.L y.clk) = if seenN (S.seen ++ [(r, b)]) p = 0 then none else some (.int .i64 (seenN (S.seen ++ [(r, b)]) p : Nat))
    rw [aget_put, seenN_snoc]
    by_cases hp : p = (r, b)
    · subst hp
      simp
    · rw [if_neg hp, if_neg hp, b4 p, Nat.add_zero]
theorem read_spec {S : DevS} {y : Lay} (h : DevOk S y) (r b : Int) (h1 : S.ns + 1 ≤ S.ops) (w : World) (ho : Own w [devB S y, y.Ef, mapB y]) :
    Calls Try.prog 28 #[.pointer (some ⟨y.g, 0, none⟩), .int .i64 r, .int .i64 b] w (Ret (β := Unit) w (ids [devB S y, y.Ef, mapB y]) (fun _ => .bool (!(S.rdHit r b).isSome)) (fun _ => [devB (S.rd r b) (y.rd r b (seenN S.seen (r, b) + 1)), y.Ef, mapB (y.rd r b (seenN S.seen (r, b) + 1))]) (fun _ => True)) := by
  refine go [.pointer (some ⟨y.g, 0, none⟩), .int .i64 r, .int .i64 b] [devB S y, y.Ef, mapB y] Try.func28 Try.ntmps28 rfl rfl ho ?_
  have hse := seenN_le S.seen (r, b)
  have hsn := h.sane.cnt
  have hop := h.sane.ops
  repeat (first | (apply wx_val; (first | exact v_move rfl | exact v_assign rfl | exact v_nil rfl | exact v_faddr rfl rfl | (apply v_load rfl rfl rfl; first | exact ld 0 0 rfl rfl rfl | exact ld 1 0 rfl rfl rfl | exact ld 2 0 rfl rfl rfl | exact ld 3 0 rfl rfl rfl | exact ld 4 0 rfl rfl rfl | exact ld 5 0 rfl rfl rfl) | exact v_extract rfl rfl | exact v_addi rfl rfl (by omega) | exact v_add rfl rfl | exact v_and rfl rfl | exact v_or rfl rfl | exact v_xor rfl rfl | exact v_shr rfl rfl (by omega) | exact v_shl rfl rfl (by omega) | (first | exact v_ldA 0 0 rfl rfl rfl rfl | exact v_ldA 1 0 rfl rfl rfl rfl | exact v_ldA 2 0 rfl rfl rfl rfl | exact v_ldA 3 0 rfl rfl rfl rfl | exact v_ldA 4 0 rfl rfl rfl rfl | exact v_ldA 5 0 rfl rfl rfl rfl | exact v_ldA 6 0 rfl rfl rfl rfl | exact v_ldA 7 0 rfl rfl rfl rfl) | (first | exact v_ldQ 0 0 rfl rfl rfl rfl rfl | exact v_ldQ 1 0 rfl rfl rfl rfl rfl | exact v_ldQ 2 0 rfl rfl rfl rfl rfl | exact v_ldQ 3 0 rfl rfl rfl rfl rfl)); rfl) | refine wx_no rfl rfl rfl ?_ | refine wx_undef rfl rfl rfl ?_ | refine wx_ungd rfl rfl ?_ | refine wc_seq ?_ | refine wc_region ?_ | refine wx_nil ?_ | refine wq_next ?_ | refine wc_block ?_ | refine wc_ret ?_ | refine wc_skip ?_ | refine wc_exit ?_ | refine wc_label ?_ | refine wq_then_ret ?_ | refine wq_then_exit ?_ | refine wq_block ?_ | refine wq_block_ret ?_ | refine wq_block_exit rfl ?_ | refine wq_block_pass rfl ?_ | refine wc_reads rfl (by decide +kernel) ?_ | refine wc_condT rfl ?_ | refine wc_condF rfl ?_ | refine wl_store 0 rfl rfl rfl rfl (Nat.le_of_ble_eq_true rfl) (.inl (Nat.le_refl _)) rfl ?_ | refine wl_store 1 rfl rfl rfl rfl (Nat.le_of_ble_eq_true rfl) (.inl (Nat.le_refl _)) rfl ?_ | refine wl_stA 0 rfl rfl rfl rfl rfl (.inl (Nat.le_refl _)) rfl ?_ | refine wl_stA 1 rfl rfl rfl rfl rfl (.inl (Nat.le_refl _)) rfl ?_ | refine wl_stA 2 rfl rfl rfl rfl rfl (.inl (Nat.le_refl _)) rfl ?_ | refine wl_stA 3 rfl rfl rfl rfl rfl (.inl (Nat.le_refl _)) rfl ?_ | refine wl_stA 4 rfl rfl rfl rfl rfl (.inl (Nat.le_refl _)) rfl ?_ | refine wl_stA 5 rfl rfl rfl rfl rfl (.inl (Nat.le_refl _)) rfl ?_ | refine wl_store 2 rfl rfl rfl rfl (Nat.le_of_ble_eq_true rfl) (.inl (Nat.le_refl _)) rfl ?_ | refine wl_store 3 rfl rfl rfl rfl (Nat.le_of_ble_eq_true rfl) (.inl (Nat.le_refl _)) rfl ?_ | refine wl_store 4 rfl rfl rfl rfl (Nat.le_of_ble_eq_true rfl) (.inl (Nat.le_refl _)) rfl ?_ | refine wl_store 5 rfl rfl rfl rfl (Nat.le_of_ble_eq_true rfl) (.inl (Nat.le_refl _)) rfl ?_)
  (try refine wx_ungd rfl rfl ?_)
  apply wx_val
  exact v_build (cs := ([.int .i64 r, .int .i64 b]).toArray) rfl (by kernel_rfl)
  rfl
  repeat (first | (apply wx_val; (first | exact v_move rfl | exact v_assign rfl | exact v_nil rfl | exact v_faddr rfl rfl | (apply v_load rfl rfl rfl; first | exact ld 0 0 rfl rfl rfl | exact ld 1 0 rfl rfl rfl | exact ld 2 0 rfl rfl rfl | exact ld 3 0 rfl rfl rfl | exact ld 4 0 rfl rfl rfl | exact ld 5 0 rfl rfl rfl) | exact v_extract rfl rfl | exact v_addi rfl rfl (by omega) | exact v_add rfl rfl | exact v_and rfl rfl | exact v_or rfl rfl | exact v_xor rfl rfl | exact v_shr rfl rfl (by omega) | exact v_shl rfl rfl (by omega) | (first | exact v_ldA 0 0 rfl rfl rfl rfl | exact v_ldA 1 0 rfl rfl rfl rfl | exact v_ldA 2 0 rfl rfl rfl rfl | exact v_ldA 3 0 rfl rfl rfl rfl | exact v_ldA 4 0 rfl rfl rfl rfl | exact v_ldA 5 0 rfl rfl rfl rfl | exact v_ldA 6 0 rfl rfl rfl rfl | exact v_ldA 7 0 rfl rfl rfl rfl) | (first | exact v_ldQ 0 0 rfl rfl rfl rfl rfl | exact v_ldQ 1 0 rfl rfl rfl rfl rfl | exact v_ldQ 2 0 rfl rfl rfl rfl rfl | exact v_ldQ 3 0 rfl rfl rfl rfl rfl)); rfl) | refine wx_no rfl rfl rfl ?_ | refine wx_undef rfl rfl rfl ?_ | refine wx_ungd rfl rfl ?_ | refine wc_seq ?_ | refine wc_region ?_ | refine wx_nil ?_ | refine wq_next ?_ | refine wc_block ?_ | refine wc_ret ?_ | refine wc_skip ?_ | refine wc_exit ?_ | refine wc_label ?_ | refine wq_then_ret ?_ | refine wq_then_exit ?_ | refine wq_block ?_ | refine wq_block_ret ?_ | refine wq_block_exit rfl ?_ | refine wq_block_pass rfl ?_ | refine wc_reads rfl (by decide +kernel) ?_ | refine wc_condT rfl ?_ | refine wc_condF rfl ?_ | refine wl_store 0 rfl rfl rfl rfl (Nat.le_of_ble_eq_true rfl) (.inl (Nat.le_refl _)) rfl ?_ | refine wl_store 1 rfl rfl rfl rfl (Nat.le_of_ble_eq_true rfl) (.inl (Nat.le_refl _)) rfl ?_ | refine wl_stA 0 rfl rfl rfl rfl rfl (.inl (Nat.le_refl _)) rfl ?_ | refine wl_stA 1 rfl rfl rfl rfl rfl (.inl (Nat.le_refl _)) rfl ?_ | refine wl_stA 2 rfl rfl rfl rfl rfl (.inl (Nat.le_refl _)) rfl ?_ | refine wl_stA 3 rfl rfl rfl rfl rfl (.inl (Nat.le_refl _)) rfl ?_ | refine wl_stA 4 rfl rfl rfl rfl rfl (.inl (Nat.le_refl _)) rfl ?_ | refine wl_stA 5 rfl rfl rfl rfl rfl (.inl (Nat.le_refl _)) rfl ?_ | refine wl_store 2 rfl rfl rfl rfl (Nat.le_of_ble_eq_true rfl) (.inl (Nat.le_refl _)) rfl ?_ | refine wl_store 3 rfl rfl rfl rfl (Nat.le_of_ble_eq_true rfl) (.inl (Nat.le_refl _)) rfl ?_ | refine wl_store 4 rfl rfl rfl rfl (Nat.le_of_ble_eq_true rfl) (.inl (Nat.le_refl _)) rfl ?_ | refine wl_store 5 rfl rfl rfl rfl (Nat.le_of_ble_eq_true rfl) (.inl (Nat.le_refl _)) rfl ?_)
  refine wl_alloc rfl rfl (fun gp => ?_)
  repeat (first | (apply wx_val; (first | exact v_move rfl | exact v_assign rfl | exact v_nil rfl | exact v_faddr rfl rfl | (apply v_load rfl rfl rfl; first | exact ld 0 0 rfl rfl rfl | exact ld 1 0 rfl rfl rfl | exact ld 2 0 rfl rfl rfl | exact ld 3 0 rfl rfl rfl | exact ld 4 0 rfl rfl rfl | exact ld 5 0 rfl rfl rfl) | exact v_extract rfl rfl | exact v_addi rfl rfl (by omega) | exact v_add rfl rfl | exact v_and rfl rfl | exact v_or rfl rfl | exact v_xor rfl rfl | exact v_shr rfl rfl (by omega) | exact v_shl rfl rfl (by omega) | (first | exact v_ldA 0 0 rfl rfl rfl rfl | exact v_ldA 1 0 rfl rfl rfl rfl | exact v_ldA 2 0 rfl rfl rfl rfl | exact v_ldA 3 0 rfl rfl rfl rfl | exact v_ldA 4 0 rfl rfl rfl rfl | exact v_ldA 5 0 rfl rfl rfl rfl | exact v_ldA 6 0 rfl rfl rfl rfl | exact v_ldA 7 0 rfl rfl rfl rfl) | (first | exact v_ldQ 0 0 rfl rfl rfl rfl rfl | exact v_ldQ 1 0 rfl rfl rfl rfl rfl | exact v_ldQ 2 0 rfl rfl rfl rfl rfl | exact v_ldQ 3 0 rfl rfl rfl rfl rfl)); rfl) | refine wx_no rfl rfl rfl ?_ | refine wx_undef rfl rfl rfl ?_ | refine wx_ungd rfl rfl ?_ | refine wc_seq ?_ | refine wc_region ?_ | refine wx_nil ?_ | refine wq_next ?_ | refine wc_block ?_ | refine wc_ret ?_ | refine wc_skip ?_ | refine wc_exit ?_ | refine wc_label ?_ | refine wq_then_ret ?_ | refine wq_then_exit ?_ | refine wq_block ?_ | refine wq_block_ret ?_ | refine wq_block_exit rfl ?_ | refine wq_block_pass rfl ?_ | refine wc_reads rfl (by decide +kernel) ?_ | refine wc_condT rfl ?_ | refine wc_condF rfl ?_ | refine wl_store 0 rfl rfl rfl rfl (Nat.le_of_ble_eq_true rfl) (.inl (Nat.le_refl _)) rfl ?_ | refine wl_store 1 rfl rfl rfl rfl (Nat.le_of_ble_eq_true rfl) (.inl (Nat.le_refl _)) rfl ?_ | refine wl_stA 0 rfl rfl rfl rfl rfl (.inl (Nat.le_refl _)) rfl ?_ | refine wl_stA 1 rfl rfl rfl rfl rfl (.inl (Nat.le_refl _)) rfl ?_ | refine wl_stA 2 rfl rfl rfl rfl rfl (.inl (Nat.le_refl _)) rfl ?_ | refine wl_stA 3 rfl rfl rfl rfl rfl (.inl (Nat.le_refl _)) rfl ?_ | refine wl_stA 4 rfl rfl rfl rfl rfl (.inl (Nat.le_refl _)) rfl ?_ | refine wl_stA 5 rfl rfl rfl rfl rfl (.inl (Nat.le_refl _)) rfl ?_ | refine wl_store 2 rfl rfl rfl rfl (Nat.le_of_ble_eq_true rfl) (.inl (Nat.le_refl _)) rfl ?_ | refine wl_store 3 rfl rfl rfl rfl (Nat.le_of_ble_eq_true rfl) (.inl (Nat.le_refl _)) rfl ?_ | refine wl_store 4 rfl rfl rfl rfl (Nat.le_of_ble_eq_true rfl) (.inl (Nat.le_refl _)) rfl ?_ | refine wl_store 5 rfl rfl rfl rfl (Nat.le_of_ble_eq_true rfl) (.inl (Nat.le_refl _)) rfl ?_)
  refine wc_meet (ι := Unit) (fun _ => [(0, .pointer (some ⟨y.g, 0, none⟩)), (1, .int .i64 r), (2, .int .i64 b), (6, .bool false), (7, .pointer (some ⟨gp, 0, none⟩))]) (fun _ => [[(gp, .cells [.int .i64 r, .int .i64 b].toArray 79 (0, 0))], devB S y, y.Ef, mapB (y.rd r b (seenN S.seen (r, b) + 1))]) (fun _ => True) ?_ (fun _ _ => ?_)
  ·
    refine wc_heldJ [0,1] (by simp only [pick, List.getElem?_cons_succ, List.getElem?_cons_zero, Option.getD_some, List.cons_append, List.nil_append, List.set_cons_zero, List.set_cons_succ] <;> rfl) rfl (by (repeat (first | with_reducible exact panicOk_body | with_reducible apply panicOk_block | with_reducible apply panicOk_then))) (fun hQd => ?_)
    (apply wh_take 0; exact fun _ h => res_pickI [0,1] rfl rfl h; exact hQd; rfl; exact v_move rfl; decide +kernel; decide +kernel; decide +kernel; rfl)
    (apply wh_take 1; exact fun _ h => res_pickI [0,1] rfl rfl h; exact hQd; rfl; exact v_nil rfl; decide +kernel; decide +kernel; decide +kernel; rfl)
    (apply wh_take 2; exact fun _ h => res_pickI [0,1] rfl rfl h; exact hQd; rfl; exact v_faddr rfl rfl; decide +kernel; decide +kernel; decide +kernel; rfl)
    (apply wh_take 3; exact fun _ h => res_pickI [0,1] rfl rfl h; exact hQd; rfl; (first | (apply v_load rfl rfl rfl; first | exact ld 0 0 rfl rfl rfl | exact ld 1 0 rfl rfl rfl | exact ld 2 0 rfl rfl rfl | exact ld 3 0 rfl rfl rfl | exact ld 4 0 rfl rfl rfl | exact ld 5 0 rfl rfl rfl) | (first | exact v_ldA 0 0 rfl rfl rfl rfl | exact v_ldA 1 0 rfl rfl rfl rfl | exact v_ldA 2 0 rfl rfl rfl rfl | exact v_ldA 3 0 rfl rfl rfl rfl | exact v_ldA 4 0 rfl rfl rfl rfl | exact v_ldA 5 0 rfl rfl rfl rfl | exact v_ldA 6 0 rfl rfl rfl rfl | exact v_ldA 7 0 rfl rfl rfl rfl) | (first | exact v_ldQ 0 0 rfl rfl rfl rfl rfl | exact v_ldQ 1 0 rfl rfl rfl rfl rfl | exact v_ldQ 2 0 rfl rfl rfl rfl rfl | exact v_ldQ 3 0 rfl rfl rfl rfl rfl)); decide +kernel; decide +kernel; decide +kernel; rfl)
    (apply wh_take 4; exact fun _ h => res_pickI [0,1] rfl rfl h; exact hQd; rfl; (first | (apply v_load rfl rfl rfl; first | exact ld 0 0 rfl rfl rfl | exact ld 1 0 rfl rfl rfl | exact ld 2 0 rfl rfl rfl | exact ld 3 0 rfl rfl rfl | exact ld 4 0 rfl rfl rfl | exact ld 5 0 rfl rfl rfl) | (first | exact v_ldA 0 0 rfl rfl rfl rfl | exact v_ldA 1 0 rfl rfl rfl rfl | exact v_ldA 2 0 rfl rfl rfl rfl | exact v_ldA 3 0 rfl rfl rfl rfl | exact v_ldA 4 0 rfl rfl rfl rfl | exact v_ldA 5 0 rfl rfl rfl rfl | exact v_ldA 6 0 rfl rfl rfl rfl | exact v_ldA 7 0 rfl rfl rfl rfl) | (first | exact v_ldQ 0 0 rfl rfl rfl rfl rfl | exact v_ldQ 1 0 rfl rfl rfl rfl rfl | exact v_ldQ 2 0 rfl rfl rfl rfl rfl | exact v_ldQ 3 0 rfl rfl rfl rfl rfl)); decide +kernel; decide +kernel; decide +kernel; rfl)
    refine wh_eff2 5 7 rfl rfl (by decide +kernel) ?_ ?_
    · first
        | refine wx_val (v_agetV (κ := pairKey) (a := (r, b)) 3 0 (h.getD (r, b)) rfl rfl rfl rfl rfl rfl key_pair (place_good _) (place_ok _)) rfl ?_
        | refine wx_val (v_agetV (κ := pairKey) (a := (r, b)) 3 0 (aget_entry.trans (h.getD (r, b))) rfl rfl rfl rfl rfl rfl key_pair (place_good _) (place_ok _)) rfl ?_
      (try refine wx_nil ?_)
      refine wq_held (by exact fun _ h => res_pickI [0,1] rfl rfl h) ?_
      (apply wh_take 6; exact fun _ h => res_pickI [0,1] rfl rfl h; exact hQd; rfl; (first | exact v_addi rfl rfl (by omega) | exact v_add rfl rfl); decide +kernel; decide +kernel; decide +kernel; rfl)
      refine wh_eff 7 rfl (by decide +kernel) ?_
      refine wl_mentry (κ := pairKey) (a := (r, b)) 3 rfl rfl rfl rfl rfl key_pair (place_good _) (place_ok _) rfl ?_
      (try refine wx_nil ?_)
      refine wq_held (by exact fun _ h => res_pickI [0,1] rfl rfl h) ?_
      (apply wh_take 8; exact fun _ h => res_pickI [0,1] rfl rfl h; exact hQd; rfl; exact v_extract rfl rfl; decide +kernel; decide +kernel; decide +kernel; rfl)
      refine wh_eff 9 rfl (by decide +kernel) ?_
      refine wl_mstore (κ := pairKey) (a := (r, b)) 3 h.mp rfl rfl rfl rfl key_pair ?_
      (try refine wx_nil ?_)
      refine wq_held (by exact fun _ h => res_pickI [0,1] rfl rfl h) ?_
      refine wh_done (by decide +kernel) ?_
      exact wq_cut () trivial ⟨rfl, rfl, rfl, rfl, rfl, trivial⟩ rfl
    · refine wl_mentry (κ := pairKey) (a := (r, b)) 3 rfl rfl rfl rfl rfl key_pair (place_good _) (place_ok _) rfl ?_
      (try refine wx_nil ?_)
      refine wq_held (by exact fun _ h => res_pickI [0,1] rfl rfl h) ?_
      (apply wh_take 8; exact fun _ h => res_pickI [0,1] rfl rfl h; exact hQd; rfl; exact v_extract rfl rfl; decide +kernel; decide +kernel; decide +kernel; rfl)
      refine wh_eff 5 rfl (by decide +kernel) ?_
      first
        | refine wx_val (v_agetV (κ := pairKey) (a := (r, b)) 3 0 (h.getD (r, b)) rfl rfl rfl rfl rfl rfl key_pair (place_good _) (place_ok _)) rfl ?_
        | refine wx_val (v_agetV (κ := pairKey) (a := (r, b)) 3 0 (aget_entry.trans (h.getD (r, b))) rfl rfl rfl rfl rfl rfl key_pair (place_good _) (place_ok _)) rfl ?_
      (try refine wx_nil ?_)
      refine wq_held (by exact fun _ h => res_pickI [0,1] rfl rfl h) ?_
      (apply wh_take 6; exact fun _ h => res_pickI [0,1] rfl rfl h; exact hQd; rfl; (first | exact v_addi rfl rfl (by omega) | exact v_add rfl rfl); decide +kernel; decide +kernel; decide +kernel; rfl)
      refine wh_eff 9 rfl (by decide +kernel) ?_
      refine wl_mstore (κ := pairKey) (a := (r, b)) 3 h.mp rfl rfl rfl rfl key_pair ?_
      (try refine wx_nil ?_)
      refine wq_held (by exact fun _ h => res_pickI [0,1] rfl rfl h) ?_
      refine wh_done (by decide +kernel) ?_
      exact wq_cut () trivial ⟨rfl, rfl, rfl, rfl, rfl, trivial⟩ rfl
  refine wc_seg ?_
  refine wc_pickP [1, 2, 3, 4] [0] rfl rfl ?_
  (first | refine wx_mem (by simp only [pick, List.getElem?_cons_succ, List.getElem?_cons_zero, Option.getD_some, List.cons_append, List.nil_append, List.set_cons_zero, List.set_cons_succ] <;> rfl) ?_ | refine wc_mem (by simp only [pick, List.getElem?_cons_succ, List.getElem?_cons_zero, Option.getD_some, List.cons_append, List.nil_append, List.set_cons_zero, List.set_cons_succ] <;> rfl) ?_)
  have hnew : (aget (r, b) (y.rd r b (seenN S.seen (r, b) + 1)).L).getD (.int .i64 0) = .int .i64 ((seenN S.seen (r, b) + 1 : Nat) : Int) := by
    show (aget (r, b) (aput (r, b) _ y.L y.clk)).getD _ = _
    rw [aget_put, if_pos rfl]; rfl
  (repeat refine wc_seq ?_)
  refine wc_meet (ι := Unit) (fun _ => [(0, .pointer (some ⟨y.g, 0, none⟩)), (6, .bool false), (9, .bool (S.rdHit r b).isSome)]) (fun _ => [devB S y, y.Ef, mapB (y.rd r b (seenN S.seen (r, b) + 1))]) (fun _ => True) ?_ (fun _ _ => ?_)
  ·
    refine wc_heldJ [0,1,3] (by simp only [pick, List.getElem?_cons_succ, List.getElem?_cons_zero, Option.getD_some, List.cons_append, List.nil_append, List.set_cons_zero, List.set_cons_succ] <;> rfl) rfl (by (repeat (first | with_reducible exact panicOk_body | with_reducible apply panicOk_block | with_reducible apply panicOk_then))) (fun hQd => ?_)
    (apply wh_take 0; exact fun _ h => res_pickI [0,1,3] rfl rfl h; exact hQd; rfl; exact v_move rfl; decide +kernel; decide +kernel; decide +kernel; rfl)
    (apply wh_take 1; exact fun _ h => res_pickI [0,1,3] rfl rfl h; exact hQd; rfl; exact v_move rfl; decide +kernel; decide +kernel; decide +kernel; rfl)
    (apply wh_take 2; exact fun _ h => res_pickI [0,1,3] rfl rfl h; exact hQd; rfl; exact v_move rfl; decide +kernel; decide +kernel; decide +kernel; rfl)
    (apply wh_take 3; exact fun _ h => res_pickI [0,1,3] rfl rfl h; exact hQd; rfl; exact v_move rfl; decide +kernel; decide +kernel; decide +kernel; rfl)
    (apply wh_take 4; exact fun _ h => res_pickI [0,1,3] rfl rfl h; exact hQd; rfl; exact v_nil rfl; decide +kernel; decide +kernel; decide +kernel; rfl)
    (apply wh_take 5; exact fun _ h => res_pickI [0,1,3] rfl rfl h; exact hQd; rfl; exact v_faddr rfl rfl; decide +kernel; decide +kernel; decide +kernel; rfl)
    (apply wh_take 6; exact fun _ h => res_pickI [0,1,3] rfl rfl h; exact hQd; rfl; (first | (apply v_load rfl rfl rfl; first | exact ld 0 0 rfl rfl rfl | exact ld 1 0 rfl rfl rfl | exact ld 2 0 rfl rfl rfl | exact ld 3 0 rfl rfl rfl | exact ld 4 0 rfl rfl rfl | exact ld 5 0 rfl rfl rfl) | (first | exact v_ldA 0 0 rfl rfl rfl rfl | exact v_ldA 1 0 rfl rfl rfl rfl | exact v_ldA 2 0 rfl rfl rfl rfl | exact v_ldA 3 0 rfl rfl rfl rfl | exact v_ldA 4 0 rfl rfl rfl rfl | exact v_ldA 5 0 rfl rfl rfl rfl | exact v_ldA 6 0 rfl rfl rfl rfl | exact v_ldA 7 0 rfl rfl rfl rfl) | (first | exact v_ldQ 0 0 rfl rfl rfl rfl rfl | exact v_ldQ 1 0 rfl rfl rfl rfl rfl | exact v_ldQ 2 0 rfl rfl rfl rfl rfl | exact v_ldQ 3 0 rfl rfl rfl rfl rfl)); decide +kernel; decide +kernel; decide +kernel; rfl)
    (apply wh_take 7; exact fun _ h => res_pickI [0,1,3] rfl rfl h; exact hQd; rfl; (first | (apply v_load rfl rfl rfl; first | exact ld 0 0 rfl rfl rfl | exact ld 1 0 rfl rfl rfl | exact ld 2 0 rfl rfl rfl | exact ld 3 0 rfl rfl rfl | exact ld 4 0 rfl rfl rfl | exact ld 5 0 rfl rfl rfl) | (first | exact v_ldA 0 0 rfl rfl rfl rfl | exact v_ldA 1 0 rfl rfl rfl rfl | exact v_ldA 2 0 rfl rfl rfl rfl | exact v_ldA 3 0 rfl rfl rfl rfl | exact v_ldA 4 0 rfl rfl rfl rfl | exact v_ldA 5 0 rfl rfl rfl rfl | exact v_ldA 6 0 rfl rfl rfl rfl | exact v_ldA 7 0 rfl rfl rfl rfl) | (first | exact v_ldQ 0 0 rfl rfl rfl rfl rfl | exact v_ldQ 1 0 rfl rfl rfl rfl rfl | exact v_ldQ 2 0 rfl rfl rfl rfl rfl | exact v_ldQ 3 0 rfl rfl rfl rfl rfl)); decide +kernel; decide +kernel; decide +kernel; rfl)
    (apply wh_take 8; exact fun _ h => res_pickI [0,1,3] rfl rfl h; exact hQd; rfl; (exact v_agetV (κ := pairKey) (a := (r, b)) 2 0 hnew rfl rfl rfl rfl rfl rfl key_pair (place_good _) (place_ok _)); decide +kernel; decide +kernel; decide +kernel; rfl)
    refine wh_eff2 9 13 rfl rfl (by decide +kernel) ?_ ?_
    · first
        | (refine wl_callP [1, 2] [0, 3] rfl rfl (fun w' hr ho => struck_spec h r b ((seenN S.seen (r, b) + 1 : Nat) : Int) w' ho) rfl rfl rfl rfl (fun _ _ => ?_)
           refine wx_pickP [2, 0, 1, 3] [] rfl rfl ?_)
        | (refine wl_callP [2, 3] [0, 1, 4] rfl rfl (fun w' hr ho => struck_spec h r b ((seenN S.seen (r, b) + 1 : Nat) : Int) w' ho) rfl rfl rfl rfl (fun _ _ => ?_)
           refine wx_pickP [2, 3, 0, 1, 4] [] rfl rfl ?_)
      (first | refine wx_mem (by simp only [pick, List.getElem?_cons_succ, List.getElem?_cons_zero, Option.getD_some, List.cons_append, List.nil_append, List.set_cons_zero, List.set_cons_succ] <;> rfl) ?_ | refine wc_mem (by simp only [pick, List.getElem?_cons_succ, List.getElem?_cons_zero, Option.getD_some, List.cons_append, List.nil_append, List.set_cons_zero, List.set_cons_succ] <;> rfl) ?_)
      (try refine wx_nil ?_)
      refine wq_held (by exact fun _ h => res_pickI [0,1,3] rfl rfl h) ?_
      (apply wh_take 10; exact fun _ h => res_pickI [0,1,3] rfl rfl h; exact hQd; rfl; exact v_move rfl; decide +kernel; decide +kernel; decide +kernel; rfl)
      (apply wh_take 11; exact fun _ h => res_pickI [0,1,3] rfl rfl h; exact hQd; rfl; exact v_extract rfl rfl; decide +kernel; decide +kernel; decide +kernel; rfl)
      (apply wh_take 12; exact fun _ h => res_pickI [0,1,3] rfl rfl h; exact hQd; rfl; exact v_extract rfl rfl; decide +kernel; decide +kernel; decide +kernel; rfl)
      refine wh_eff 13 rfl (by decide +kernel) ?_
      refine wl_alloc rfl rfl (fun g8 => ?_)
      (try refine wx_nil ?_)
      refine wq_held (by exact fun _ h => res_pickI [1,2,4] rfl rfl h) ?_
      refine wh_eff 14 rfl (by decide +kernel) ?_
      refine wl_stA 0 rfl rfl rfl rfl rfl (.inl (Nat.le_refl _)) rfl ?_
      (try refine wx_nil ?_)
      refine wq_held (by exact fun _ h => res_pickI [1,2,4] rfl rfl h) ?_
      (apply wh_take 15; exact fun _ h => res_pickI [1,2,4] rfl rfl h; exact hQd; rfl; exact v_assign rfl; decide +kernel; decide +kernel; decide +kernel; rfl)
      refine wh_done (by decide +kernel) ?_
      refine wq_pickP [2, 3, 4] [0, 1] rfl rfl ?_
      exact wq_cut () trivial ⟨rfl, rfl, rfl, trivial⟩ rfl
    · refine wl_alloc rfl rfl (fun g8 => ?_)
      (try refine wx_nil ?_)
      refine wq_held (by exact fun _ h => res_pickI [1,2,4] rfl rfl h) ?_
      refine wh_eff 9 rfl (by decide +kernel) ?_
      first
        | (refine wl_callP [1, 2] [0, 3] rfl rfl (fun w' hr ho => struck_spec h r b ((seenN S.seen (r, b) + 1 : Nat) : Int) w' ho) rfl rfl rfl rfl (fun _ _ => ?_)
           refine wx_pickP [2, 0, 1, 3] [] rfl rfl ?_)
        | (refine wl_callP [2, 3] [0, 1, 4] rfl rfl (fun w' hr ho => struck_spec h r b ((seenN S.seen (r, b) + 1 : Nat) : Int) w' ho) rfl rfl rfl rfl (fun _ _ => ?_)
           refine wx_pickP [2, 3, 0, 1, 4] [] rfl rfl ?_)
      (first | refine wx_mem (by simp only [pick, List.getElem?_cons_succ, List.getElem?_cons_zero, Option.getD_some, List.cons_append, List.nil_append, List.set_cons_zero, List.set_cons_succ] <;> rfl) ?_ | refine wc_mem (by simp only [pick, List.getElem?_cons_succ, List.getElem?_cons_zero, Option.getD_some, List.cons_append, List.nil_append, List.set_cons_zero, List.set_cons_succ] <;> rfl) ?_)
      (try refine wx_nil ?_)
      refine wq_held (by exact fun _ h => res_pickI [1,2,4] rfl rfl h) ?_
      (apply wh_take 10; exact fun _ h => res_pickI [1,2,4] rfl rfl h; exact hQd; rfl; exact v_move rfl; decide +kernel; decide +kernel; decide +kernel; rfl)
      (apply wh_take 11; exact fun _ h => res_pickI [1,2,4] rfl rfl h; exact hQd; rfl; exact v_extract rfl rfl; decide +kernel; decide +kernel; decide +kernel; rfl)
      (apply wh_take 12; exact fun _ h => res_pickI [1,2,4] rfl rfl h; exact hQd; rfl; exact v_extract rfl rfl; decide +kernel; decide +kernel; decide +kernel; rfl)
      refine wh_eff 14 rfl (by decide +kernel) ?_
      refine wl_stA 0 rfl rfl rfl rfl rfl (.inl (Nat.le_refl _)) rfl ?_
      (try refine wx_nil ?_)
      refine wq_held (by exact fun _ h => res_pickI [1,2,4] rfl rfl h) ?_
      (apply wh_take 15; exact fun _ h => res_pickI [1,2,4] rfl rfl h; exact hQd; rfl; exact v_assign rfl; decide +kernel; decide +kernel; decide +kernel; rfl)
      refine wh_done (by decide +kernel) ?_
      refine wq_pickP [2, 3, 4] [0, 1] rfl rfl ?_
      exact wq_cut () trivial ⟨rfl, rfl, rfl, trivial⟩ rfl
  cases hh : S.rdHit r b with
  | none =>
    have e : S.rd r b = { S with seen := S.seen ++ [(r, b)] } := by simp [DevS.rd, hh]
    rw [e]
    repeat (first | (apply wx_val; (first | exact v_move rfl | exact v_assign rfl | exact v_nil rfl | exact v_faddr rfl rfl | (apply v_load rfl rfl rfl; first | exact ld 0 0 rfl rfl rfl | exact ld 1 0 rfl rfl rfl | exact ld 2 0 rfl rfl rfl | exact ld 3 0 rfl rfl rfl | exact ld 4 0 rfl rfl rfl | exact ld 5 0 rfl rfl rfl) | exact v_extract rfl rfl | exact v_addi rfl rfl (by omega) | exact v_add rfl rfl | exact v_and rfl rfl | exact v_or rfl rfl | exact v_xor rfl rfl | exact v_shr rfl rfl (by omega) | exact v_shl rfl rfl (by omega) | (first | exact v_ldA 0 0 rfl rfl rfl rfl | exact v_ldA 1 0 rfl rfl rfl rfl | exact v_ldA 2 0 rfl rfl rfl rfl | exact v_ldA 3 0 rfl rfl rfl rfl | exact v_ldA 4 0 rfl rfl rfl rfl | exact v_ldA 5 0 rfl rfl rfl rfl | exact v_ldA 6 0 rfl rfl rfl rfl | exact v_ldA 7 0 rfl rfl rfl rfl) | (first | exact v_ldQ 0 0 rfl rfl rfl rfl rfl | exact v_ldQ 1 0 rfl rfl rfl rfl rfl | exact v_ldQ 2 0 rfl rfl rfl rfl rfl | exact v_ldQ 3 0 rfl rfl rfl rfl rfl)); rfl) | refine wx_no rfl rfl rfl ?_ | refine wx_undef rfl rfl rfl ?_ | refine wx_ungd rfl rfl ?_ | refine wc_seq ?_ | refine wc_region ?_ | refine wx_nil ?_ | refine wq_next ?_ | refine wc_block ?_ | refine wc_ret ?_ | refine wc_skip ?_ | refine wc_exit ?_ | refine wc_label ?_ | refine wq_then_ret ?_ | refine wq_then_exit ?_ | refine wq_block ?_ | refine wq_block_ret ?_ | refine wq_block_exit rfl ?_ | refine wq_block_pass rfl ?_ | refine wc_reads rfl (by decide +kernel) ?_ | refine wc_condT rfl ?_ | refine wc_condF rfl ?_ | refine wl_store 0 rfl rfl rfl rfl (Nat.le_of_ble_eq_true rfl) (.inl (Nat.le_refl _)) rfl ?_ | refine wl_store 1 rfl rfl rfl rfl (Nat.le_of_ble_eq_true rfl) (.inl (Nat.le_refl _)) rfl ?_ | refine wl_stA 0 rfl rfl rfl rfl rfl (.inl (Nat.le_refl _)) rfl ?_ | refine wl_stA 1 rfl rfl rfl rfl rfl (.inl (Nat.le_refl _)) rfl ?_ | refine wl_stA 2 rfl rfl rfl rfl rfl (.inl (Nat.le_refl _)) rfl ?_ | refine wl_stA 3 rfl rfl rfl rfl rfl (.inl (Nat.le_refl _)) rfl ?_ | refine wl_stA 4 rfl rfl rfl rfl rfl (.inl (Nat.le_refl _)) rfl ?_ | refine wl_stA 5 rfl rfl rfl rfl rfl (.inl (Nat.le_refl _)) rfl ?_ | refine wl_store 2 rfl rfl rfl rfl (Nat.le_of_ble_eq_true rfl) (.inl (Nat.le_refl _)) rfl ?_ | refine wl_store 3 rfl rfl rfl rfl (Nat.le_of_ble_eq_true rfl) (.inl (Nat.le_refl _)) rfl ?_ | refine wl_store 4 rfl rfl rfl rfl (Nat.le_of_ble_eq_true rfl) (.inl (Nat.le_refl _)) rfl ?_ | refine wl_store 5 rfl rfl rfl rfl (Nat.le_of_ble_eq_true rfl) (.inl (Nat.le_refl _)) rfl ?_)
    exact wq_ret1 () rfl rfl trivial rfl
  | some f =>
    have e : S.rd r b = { S with seen := S.seen ++ [(r, b)], ns := S.ns + 1 } := by simp [DevS.rd, hh]
    rw [e]
    repeat (first | (apply wx_val; (first | exact v_move rfl | exact v_assign rfl | exact v_nil rfl | exact v_faddr rfl rfl | (apply v_load rfl rfl rfl; first | exact ld 0 0 rfl rfl rfl | exact ld 1 0 rfl rfl rfl | exact ld 2 0 rfl rfl rfl | exact ld 3 0 rfl rfl rfl | exact ld 4 0 rfl rfl rfl | exact ld 5 0 rfl rfl rfl) | exact v_extract rfl rfl | exact v_addi rfl rfl (by omega) | exact v_add rfl rfl | exact v_and rfl rfl | exact v_or rfl rfl | exact v_xor rfl rfl | exact v_shr rfl rfl (by omega) | exact v_shl rfl rfl (by omega) | (first | exact v_ldA 0 0 rfl rfl rfl rfl | exact v_ldA 1 0 rfl rfl rfl rfl | exact v_ldA 2 0 rfl rfl rfl rfl | exact v_ldA 3 0 rfl rfl rfl rfl | exact v_ldA 4 0 rfl rfl rfl rfl | exact v_ldA 5 0 rfl rfl rfl rfl | exact v_ldA 6 0 rfl rfl rfl rfl | exact v_ldA 7 0 rfl rfl rfl rfl) | (first | exact v_ldQ 0 0 rfl rfl rfl rfl rfl | exact v_ldQ 1 0 rfl rfl rfl rfl rfl | exact v_ldQ 2 0 rfl rfl rfl rfl rfl | exact v_ldQ 3 0 rfl rfl rfl rfl rfl)); rfl) | refine wx_no rfl rfl rfl ?_ | refine wx_undef rfl rfl rfl ?_ | refine wx_ungd rfl rfl ?_ | refine wc_seq ?_ | refine wc_region ?_ | refine wx_nil ?_ | refine wq_next ?_ | refine wc_block ?_ | refine wc_ret ?_ | refine wc_skip ?_ | refine wc_exit ?_ | refine wc_label ?_ | refine wq_then_ret ?_ | refine wq_then_exit ?_ | refine wq_block ?_ | refine wq_block_ret ?_ | refine wq_block_exit rfl ?_ | refine wq_block_pass rfl ?_ | refine wc_reads rfl (by decide +kernel) ?_ | refine wc_condT rfl ?_ | refine wc_condF rfl ?_ | refine wl_store 0 rfl rfl rfl rfl (Nat.le_of_ble_eq_true rfl) (.inl (Nat.le_refl _)) rfl ?_ | refine wl_store 1 rfl rfl rfl rfl (Nat.le_of_ble_eq_true rfl) (.inl (Nat.le_refl _)) rfl ?_ | refine wl_stA 0 rfl rfl rfl rfl rfl (.inl (Nat.le_refl _)) rfl ?_ | refine wl_stA 1 rfl rfl rfl rfl rfl (.inl (Nat.le_refl _)) rfl ?_ | refine wl_stA 2 rfl rfl rfl rfl rfl (.inl (Nat.le_refl _)) rfl ?_ | refine wl_stA 3 rfl rfl rfl rfl rfl (.inl (Nat.le_refl _)) rfl ?_ | refine wl_stA 4 rfl rfl rfl rfl rfl (.inl (Nat.le_refl _)) rfl ?_ | refine wl_stA 5 rfl rfl rfl rfl rfl (.inl (Nat.le_refl _)) rfl ?_ | refine wl_store 2 rfl rfl rfl rfl (Nat.le_of_ble_eq_true rfl) (.inl (Nat.le_refl _)) rfl ?_ | refine wl_store 3 rfl rfl rfl rfl (Nat.le_of_ble_eq_true rfl) (.inl (Nat.le_refl _)) rfl ?_ | refine wl_store 4 rfl rfl rfl rfl (Nat.le_of_ble_eq_true rfl) (.inl (Nat.le_refl _)) rfl ?_ | refine wl_store 5 rfl rfl rfl rfl (Nat.le_of_ble_eq_true rfl) (.inl (Nat.le_refl _)) rfl ?_)
    exact wq_ret1 () rfl rfl trivial rfl
end Go.Proofs.Ytfdkdcopjajklaa
