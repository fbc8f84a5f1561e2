/- The document's forest: Remove, Drop; two lists compared. -/
import Derived.Test.YtjeghbachokljaaSpRf
set_option linter.unusedVariables false
set_option linter.unusedSimpArgs false
namespace Go.Proofs.Ytjeghbachokljaa
open Go
set_option maxRecDepth 20000
set_option maxHeartbeats 2000000
attribute [local irreducible] WX WC WQ Val VCall WY WR
theorem del_had {e : ByteArray × Sp} {A : Ks} (hn : A.Nodup) : decide ((delAll e A).length < A.length) = hasA e A := by
  cases h : hasA e A with
  | true =>
    have := delAll_len hn (hasA_iff.1 h)
    exact decide_eq_true (by omega)
  | false =>
    rw [delAll_none (hasA_no.1 h)]
    exact decide_eq_false (by omega)
section rf
variable {gr : Nat} {Ad : Option Addr} {c : Nat} {A : Ks} {E : Seg}
theorem rRemove_spec (x : ByteArray × Sp) (hn : A.length ≤ 2097152) (hb : RsL A Ad A.length c E) (hnd : A.Nodup) (w : World) (ho : Own w [rfB gr Ad A.length c, E]) :
    Calls Try.prog 32 #[.pointer (some ⟨gr, 0, none⟩), .agg (rsC x).toArray] w (Ret (β := Option Addr × Nat × Seg) w (ids [rfB gr Ad A.length c, E]) (fun _ => .bool (hasA x A)) (fun q => [rfB gr q.1 (delAll x A).length q.2.1, q.2.2]) (fun q => RsL (delAll x A) q.1 (delAll x A).length q.2.1 q.2.2)) := by
  refine go [.pointer (some ⟨gr, 0, none⟩), .agg (rsC x).toArray] [rfB gr Ad A.length c, E] Try.func32 Try.ntmps32 rfl rfl ho ?_
  rw [← del_had hnd]
  repeat (first | refine wc_seq ?_ | refine wc_region ?_)
  refine wl_boxA rfl rfl (fun g3 => ?_)
  repeat (first | (apply wx_val; (first | exact v_assign rfl); rfl) | refine wc_seq ?_ | refine wc_region ?_ | refine wx_nil ?_ | refine wq_next ?_ | refine wc_block ?_)
  refine wc_seg ?_
  refine wc_loopK (ι := Nat × Ks × Option Addr × Nat × Seg) [0, 3] (fun z => [(6, .int .i64 (z.1 : Nat)), (5, .slice z.2.2.1 z.2.1.length z.2.2.2.1)]) (fun z => [z.2.2.2.2]) (fun z => z.1 ≤ A.length ∧ z.2.1 = delAll x (A.take z.1) ∧ RsL z.2.1 z.2.2.1 z.2.1.length z.2.2.2.1 z.2.2.2.2) (fun z => A.length - z.1) ((0, [], none, 0, [])) rfl ?_ (by repeat (first | exact trivial | refine ⟨rfl, ?_⟩)) ?_
  · exact ⟨Nat.zero_le _, rfl, Buf.nil _ _⟩
  rintro ⟨i, L, A1, c1, E1⟩ ⟨h1, h2, h3⟩
  try dsimp only
  refine wc_fcat ?_
  refine wc_cat ?_
  dsimp only at h1 h2 h3
  have hL : L.length ≤ i := by rw [h2]; exact Nat.le_trans (List.length_filter_le _ _) (List.length_take_le _ _)
  repeat (first | (apply wx_val; (first | exact v_move rfl | exact v_nil rfl | exact v_faddr rfl rfl | exact v_ldT rfl rfl rfl (by rfl) | exact v_len rfl rfl | exact v_lt rfl rfl); rfl) | refine wc_seq ?_ | refine wc_region ?_ | refine wx_nil ?_ | refine wq_next ?_)
  refine wc_if rfl (fun hd => ?_) (fun hd => ?_)
  · obtain ⟨e, hs⟩ : ∃ s, A[i]? = some s := ⟨A[i], List.getElem?_eq_getElem (by omega)⟩
    obtain ⟨ga, hA⟩ := hb.ptr (by omega)
    have htk := take_snoc hs
    have hst : delAll x (A.take (i + 1)) = L ++ (if e = x then [] else [e]) := by
      rw [htk, h2]
      unfold delAll
      rw [List.filter_append]
      congr 1
      by_cases hc : e = x
      · rw [if_pos hc, List.filter_cons_of_neg (by simpa using hc)]; rfl
      · rw [if_neg hc, List.filter_cons_of_pos (by simpa using hc)]; rfl
    repeat (first | (apply wx_val; (first | exact v_move rfl | exact v_nil rfl | exact v_faddr rfl rfl | exact v_ldT rfl rfl rfl (by rfl) | exact v_iaddrE (by assumption) rfl rfl rfl (by omega)); rfl) | refine wc_seq ?_ | refine wq_next ?_ | refine wc_block ?_ | refine wc_skip ?_ | refine wc_reads rfl (by decide +kernel) ?_)
    (try refine wx_ungd rfl rfl ?_)
    apply wx_val
    exact v_elemT hA hb (by decide) (fun _ => rfl) hs rfl (by omega) rfl
    rfl
    repeat (first | (apply wx_val; (first | exact v_ldAT rfl (by rfl) | exact v_neA rfl rfl (by kernel_rfl)); rfl) | refine wx_nil ?_ | refine wq_next ?_)
    by_cases hc : e = x
    · rw [if_pos hc, List.append_nil] at hst
      refine wc_not rfl (by rw [eqL_rs, decide_eq_true hc]; rfl) ?_
      repeat (first | (apply wx_val; (first | exact v_move rfl | exact v_assign rfl | exact v_addi rfl rfl (by omega)); rfl) | refine wc_region ?_ | refine wx_nil ?_ | refine wq_next ?_ | refine wc_skip ?_ | refine wq_block ?_)
      refine wq_roundK ((i + 1, L, A1, c1, E1)) ?_ ?_ (by repeat (first | exact trivial | refine ⟨rfl, ?_⟩)) (by first | exact catEq | exact rfl)
      · exact ⟨by dsimp only; omega, hst.symm, h3⟩
      · show A.length - (i + 1) < A.length - i
        omega
    · rw [if_neg hc] at hst
      refine wc_yes rfl (by rw [eqL_rs, decide_eq_false hc]; rfl) ?_
      repeat (first | (apply wx_val; (first | exact v_move rfl | exact v_nil rfl | exact v_faddr rfl rfl | exact v_ldT rfl rfl rfl (by rfl) | exact v_iaddrE (by assumption) rfl rfl rfl (by omega)); rfl) | refine wc_region ?_)
      (try refine wx_ungd rfl rfl ?_)
      apply wx_val
      exact v_elemT hA hb (by decide) (fun _ => rfl) hs rfl (by omega) rfl
      rfl
      skip
      refine wl_lit rfl rfl rfl rfl rfl (by decide) rfl (fun g99 => ?_)
      refine wl_app1T (news := rsC e) rfl h3 rfl rfl rfl rfl (by omega) rfl (fun A2 c2 E2 hb2 => ?_)
      rw [snoc_len L e]
      repeat (first | (apply wx_val; (first | exact v_move rfl | exact v_assign rfl | exact v_addi rfl rfl (by omega)); rfl) | refine wc_region ?_ | refine wx_nil ?_ | refine wq_next ?_ | refine wq_block ?_)
      refine wq_roundK ((i + 1, L ++ [e], A2, c2, E2)) ?_ ?_ (by repeat (first | exact trivial | refine ⟨rfl, ?_⟩)) (by first | exact catEq | exact rfl)
      · exact ⟨by dsimp only; omega, hst.symm, RsL.snoc hb2⟩
      · show A.length - (i + 1) < A.length - i
        omega
  obtain rfl : i = A.length := by omega
  rw [List.take_length] at h2
  rw [← h2]
  repeat (first | (apply wx_val; (first | exact v_move rfl | exact v_assign rfl | exact v_nil rfl | exact v_faddr rfl rfl | exact v_ldT rfl rfl rfl (by rfl) | exact v_len rfl rfl | exact v_lt rfl rfl); rfl) | refine wc_seq ?_ | refine wc_region ?_ | refine wx_nil ?_ | refine wq_next ?_ | refine wc_ret ?_ | refine wc_exit ?_ | refine wq_then_exit ?_ | refine wq_block_exit rfl ?_ | refine wq_setn ?_ | refine wl_storeT rfl rfl rfl (by rfl) (by exact .inl (Nat.le_refl _)) rfl ?_)
  refine wq_blk gr [.slice A1 L.length c1] (by rfl) ?_
  refine wq_setn ?_
  exact wq_ret1T (A1, c1, E1) rfl (bool_val (decide_eq_decide.2 (by omega))) h3 rfl
theorem rDrop_spec (fl : Int) (hn : A.length ≤ 2097152) (hb : RsL A Ad A.length c E) (w : World) (ho : Own w [rfB gr Ad A.length c, E]) :
    Calls Try.prog 34 #[.pointer (some ⟨gr, 0, none⟩), .int .i64 fl] w (Ret (β := Option Addr × Nat × Seg) w (ids [rfB gr Ad A.length c, E]) (fun _ => .int .i64 ((A.length : Nat) - ((A.filter (fun x => decide (fl < x.2.b))).length : Nat))) (fun q => [rfB gr q.1 (A.filter (fun x => decide (fl < x.2.b))).length q.2.1, q.2.2]) (fun q => RsL (A.filter (fun x => decide (fl < x.2.b))) q.1 (A.filter (fun x => decide (fl < x.2.b))).length q.2.1 q.2.2)) := by
  refine go [.pointer (some ⟨gr, 0, none⟩), .int .i64 fl] [rfB gr Ad A.length c, E] Try.func34 Try.ntmps34 rfl rfl ho ?_
  repeat (first | (apply wx_val; (first | exact v_assign rfl); rfl) | refine wc_seq ?_ | refine wc_region ?_ | refine wx_nil ?_ | refine wq_next ?_ | refine wc_block ?_)
  refine wc_seg ?_
  refine wc_loopK (ι := Nat × Ks × Option Addr × Nat × Seg) [0, 1] (fun z => [(6, .int .i64 (z.1 : Nat)), (5, .slice z.2.2.1 z.2.1.length z.2.2.2.1)]) (fun z => [z.2.2.2.2]) (fun z => z.1 ≤ A.length ∧ z.2.1 = (A.take z.1).filter (fun x => decide (fl < x.2.b)) ∧ RsL z.2.1 z.2.2.1 z.2.1.length z.2.2.2.1 z.2.2.2.2) (fun z => A.length - z.1) ((0, [], none, 0, [])) rfl ?_ (by repeat (first | exact trivial | refine ⟨rfl, ?_⟩)) ?_
  · exact ⟨Nat.zero_le _, rfl, Buf.nil _ _⟩
  rintro ⟨i, L, A1, c1, E1⟩ ⟨h1, h2, h3⟩
  try dsimp only
  refine wc_fcat ?_
  refine wc_cat ?_
  dsimp only at h1 h2 h3
  have hL : L.length ≤ i := by rw [h2]; exact Nat.le_trans (List.length_filter_le _ _) (List.length_take_le _ _)
  repeat (first | (apply wx_val; (first | exact v_move rfl | exact v_nil rfl | exact v_faddr rfl rfl | exact v_ldT rfl rfl rfl (by rfl) | exact v_len rfl rfl | exact v_lt rfl rfl); rfl) | refine wc_seq ?_ | refine wc_region ?_ | refine wx_nil ?_ | refine wq_next ?_)
  refine wc_if rfl (fun hd => ?_) (fun hd => ?_)
  · obtain ⟨e, hs⟩ : ∃ s, A[i]? = some s := ⟨A[i], List.getElem?_eq_getElem (by omega)⟩
    obtain ⟨ga, hA⟩ := hb.ptr (by omega)
    have htk := take_snoc hs
    have hst : (A.take (i + 1)).filter (fun x => decide (fl < x.2.b)) = L ++ (if fl < e.2.b then [e] else []) := by
      rw [htk, h2, List.filter_append]
      congr 1
      by_cases hc : fl < e.2.b
      · rw [if_pos hc, List.filter_cons_of_pos (by simpa using hc)]; rfl
      · rw [if_neg hc, List.filter_cons_of_neg (by simpa using hc)]; rfl
    repeat (first | (apply wx_val; (first | exact v_move rfl | exact v_nil rfl | exact v_faddr rfl rfl | exact v_ldT rfl rfl rfl (by rfl) | exact v_iaddrE (by assumption) rfl rfl rfl (by omega)); rfl) | refine wc_seq ?_ | refine wc_region ?_ | refine wq_next ?_ | refine wc_block ?_ | refine wc_skip ?_)
    (try refine wx_ungd rfl rfl ?_)
    apply wx_val
    exact v_load rfl rfl rfl (fun w' hr => hb.elemT (i := i) hA (by decide) (fun _ => rfl) hs hr (j := 2) rfl (by omega))
    rfl
    repeat (first | (apply wx_val; (first | exact v_move rfl | exact v_gt rfl rfl); rfl) | refine wx_nil ?_ | refine wq_next ?_)
    refine wc_if rfl (fun hc => ?_) (fun hc => ?_)
    · rw [if_pos hc] at hst
      repeat (first | (apply wx_val; (first | exact v_move rfl | exact v_nil rfl | exact v_faddr rfl rfl | exact v_ldT rfl rfl rfl (by rfl) | exact v_iaddrE (by assumption) rfl rfl rfl (by omega)); rfl) | refine wc_region ?_)
      (try refine wx_ungd rfl rfl ?_)
      apply wx_val
      exact v_elemT hA hb (by decide) (fun _ => rfl) hs rfl (by omega) rfl
      rfl
      skip
      refine wl_lit rfl rfl rfl rfl rfl (by decide) rfl (fun g99 => ?_)
      refine wl_app1T (news := rsC e) rfl h3 rfl rfl rfl rfl (by omega) rfl (fun A2 c2 E2 hb2 => ?_)
      rw [snoc_len L e]
      repeat (first | (apply wx_val; (first | exact v_move rfl | exact v_assign rfl | exact v_addi rfl rfl (by omega)); rfl) | refine wc_region ?_ | refine wx_nil ?_ | refine wq_next ?_ | refine wq_block ?_)
      refine wq_roundK ((i + 1, L ++ [e], A2, c2, E2)) ?_ ?_ (by repeat (first | exact trivial | refine ⟨rfl, ?_⟩)) (by first | exact catEq | exact rfl)
      · exact ⟨by dsimp only; omega, hst.symm, RsL.snoc hb2⟩
      · show A.length - (i + 1) < A.length - i
        omega
    · rw [if_neg hc, List.append_nil] at hst
      repeat (first | (apply wx_val; (first | exact v_move rfl | exact v_assign rfl | exact v_addi rfl rfl (by omega)); rfl) | refine wc_region ?_ | refine wx_nil ?_ | refine wq_next ?_ | refine wc_skip ?_ | refine wq_block ?_)
      refine wq_roundK ((i + 1, L, A1, c1, E1)) ?_ ?_ (by repeat (first | exact trivial | refine ⟨rfl, ?_⟩)) (by first | exact catEq | exact rfl)
      · exact ⟨by dsimp only; omega, hst.symm, h3⟩
      · show A.length - (i + 1) < A.length - i
        omega
  obtain rfl : i = A.length := by omega
  rw [List.take_length] at h2
  rw [← h2]
  repeat (first | (apply wx_val; (first | exact v_move rfl | exact v_assign rfl | exact v_nil rfl | exact v_faddr rfl rfl | exact v_ldT rfl rfl rfl (by rfl) | exact v_len rfl rfl | exact v_subi rfl rfl (by omega)); rfl) | refine wc_seq ?_ | refine wc_region ?_ | refine wx_nil ?_ | refine wq_next ?_ | refine wc_ret ?_ | refine wc_exit ?_ | refine wq_then_exit ?_ | refine wq_block_exit rfl ?_ | refine wq_setn ?_ | refine wl_storeT rfl rfl rfl (by rfl) (by exact .inl (Nat.le_refl _)) rfl ?_)
  refine wq_blk gr [.slice A1 L.length c1] (by rfl) ?_
  refine wq_setn ?_
  exact wq_ret1T (A1, c1, E1) rfl rfl h3 rfl
end rf
/-- two lists that tell of the same spans -/
theorem same_spec (k : ByteArray) {l : List Sp} {A1 A2 : Option Addr} {c1 c2 : Nat} {E1 E2 : Seg} (hl : l.length ≤ 2097152) (h1 : SpL l A1 l.length c1 E1) (h2 : RsL (l.map (fun s => (k, s))) A2 l.length c2 E2) (w : World) (ho : Own w [E1, E2]) :
    Calls Try.prog 20 #[.string k, .slice A1 l.length c1, .slice A2 l.length c2] w (Ret (β := Unit) w (ids [E1, E2]) (fun _ => .bool true) (fun _ => [E1, E2]) (fun _ => True)) := by
  refine go [.string k, .slice A1 l.length c1, .slice A2 l.length c2] [E1, E2] Try.func20 Try.ntmps20 rfl rfl ho ?_
  repeat (first | (apply wx_val; (first | exact v_move rfl | exact v_assign rfl | exact v_len rfl rfl | exact v_ne rfl rfl); rfl) | refine wc_seq ?_ | refine wc_region ?_ | refine wx_nil ?_ | refine wq_next ?_)
  refine wc_not rfl (by simp) ?_
  repeat (first | (apply wx_val; (first | exact v_move rfl | exact v_len rfl rfl); rfl) | refine wc_seq ?_ | refine wc_region ?_ | refine wx_nil ?_ | refine wq_next ?_ | refine wc_block ?_ | refine wc_skip ?_)
  refine wc_loopK (ι := Nat) [0, 2, 14, 15] (fun z => [(16, .int .i64 (z : Nat))]) (fun z => []) (fun z => z ≤ l.length) (fun z => l.length - z) (0) rfl ?_ (by repeat (first | exact trivial | refine ⟨rfl, ?_⟩)) ?_
  · exact Nat.zero_le _
  rintro i hi
  try dsimp only
  refine wc_fcat ?_
  refine wc_cat ?_
  repeat (first | (apply wx_val; (first | exact v_lt rfl rfl); rfl) | refine wc_seq ?_ | refine wc_region ?_ | refine wx_nil ?_ | refine wq_next ?_)
  refine wc_if rfl (fun hd => ?_) (fun hd => ?_)
  · obtain ⟨s, hs⟩ : ∃ s, l[i]? = some s := ⟨l[i], List.getElem?_eq_getElem (by omega)⟩
    obtain ⟨ga, hA1⟩ := h1.ptr (by omega)
    obtain ⟨gb, hA2⟩ := h2.ptr (by omega)
    have hs2 : (l.map (fun s => (k, s)))[i]? = some (k, s) := by rw [List.getElem?_map, hs]; rfl
    repeat (first | (apply wx_val; (first | exact v_move rfl | exact v_iaddrE (by assumption) rfl rfl rfl (by omega)); rfl) | refine wc_seq ?_ | refine wc_region ?_ | refine wq_next ?_ | refine wc_block ?_ | refine wc_skip ?_)
    (try refine wx_ungd rfl rfl ?_)
    apply wx_val
    exact v_elemT hA1 h1 (by decide) (fun _ => rfl) hs rfl (by omega) rfl
    rfl
    skip
    refine wl_alloc rfl rfl (fun g8 => ?_)
    repeat (first | (apply wx_val; (first | exact v_assign rfl); rfl) | refine wc_seq ?_ | refine wx_nil ?_ | refine wq_next ?_ | refine wc_setn ?_ | refine wl_stAT rfl rfl (by rfl) (by rfl) (by exact .inl (Nat.le_refl _)) rfl ?_)
    refine wc_heldX [] [ssB g8 s, E2] rfl (by (repeat (first | exact panicNot_M2 rfl | exact panicNot_D3 rfl | with_reducible exact panicNot_of panicOk_body | with_reducible apply panicNot_block | with_reducible apply panicNot_then))) (fun hQd => ?_)
    (apply wh_takeX 0; (first | exact fun _ h => h | exact fun _ h => res_takes h); exact hQd; rfl; rfl; exact v_move rfl; decide +kernel; decide +kernel; decide +kernel; rfl)
    (apply wh_takeX 1; (first | exact fun _ h => res_takes h); exact hQd; rfl; rfl; (first | exact v_ldAT rfl (by rfl)); decide +kernel; decide +kernel; decide +kernel; rfl)
    (apply wh_takeX 3; (first | exact fun _ h => h | exact fun _ h => res_takes h); exact hQd; rfl; rfl; exact v_move rfl; decide +kernel; decide +kernel; decide +kernel; rfl)
    (apply wh_takeX 4; (first | exact fun _ h => h | exact fun _ h => res_takes h); exact hQd; rfl; rfl; exact v_move rfl; decide +kernel; decide +kernel; decide +kernel; rfl)
    (apply wh_takeX 5; (first | exact fun _ h => res_takes h); exact hQd; rfl; rfl; (first | exact v_iaddrE (by assumption) rfl rfl rfl (by omega)); decide +kernel; decide +kernel; decide +kernel; rfl)
    (apply wh_takeX 6; (first | exact fun _ h => h | exact fun _ h => res_takes h); exact hQd; rfl; rfl; (exact v_elemT hA2 h2 (by decide) (fun _ => rfl) hs2 rfl (by omega) rfl); decide +kernel; decide +kernel; decide +kernel; rfl)
    refine wh_eff 2 rfl (by decide +kernel) ?_
    (try refine wx_ungd rfl rfl ?_)
    refine wx_vcall (vc_pure' rfl rfl (fun w' hr => with_spec k s w')) rfl ?_
    (try refine wx_nil ?_)
    refine wq_held (by (first | exact fun _ h => h | exact fun _ h => res_takes h)) ?_
    (apply wh_takeX 7; (first | exact fun _ h => res_takes h); exact hQd; rfl; rfl; (first | exact v_neA rfl rfl (by kernel_rfl)); decide +kernel; decide +kernel; decide +kernel; rfl)
    refine wh_done (by decide +kernel) ?_
    repeat (first | refine wq_next ?_)
    refine wc_not rfl (by rw [eqL_rs]; simp) ?_
    repeat (first | (apply wx_val; (first | exact v_move rfl | exact v_addi rfl rfl (by omega)); rfl) | refine wc_region ?_ | refine wx_nil ?_ | refine wq_next ?_ | refine wc_skip ?_ | refine wq_block ?_)
    refine wq_roundK (i + 1) ?_ ?_ (by repeat (first | exact trivial | refine ⟨rfl, ?_⟩)) (by first | exact catEq | exact rfl)
    · omega
    · omega
  · skip
    repeat (first | (apply wx_val; (first | exact v_assign rfl); rfl) | refine wc_seq ?_ | refine wc_region ?_ | refine wx_nil ?_ | refine wq_next ?_ | refine wc_ret ?_ | refine wc_exit ?_ | refine wq_then_exit ?_ | refine wq_block_exit rfl ?_)
    exact wq_ret1T () rfl rfl trivial rfl
end Go.Proofs.Ytjeghbachokljaa
