/- Every script over one forest. -/
import Derived.Test.YtjeghbachokljaaSpPl
set_option linter.unusedVariables false
set_option linter.unusedSimpArgs false
namespace Go.Proofs.Ytjeghbachokljaa
open Go
set_option maxRecDepth 20000
set_option maxHeartbeats 2000000
attribute [local irreducible] WX WC WQ Val VCall WY WR
theorem Plays_law {A : Option Addr} {c : Nat} {l : List SOp} (hl : l.length ≤ 1048576) (w : World) (hv : Vw [] w A (l.flatMap SOp.cells)) :
    Calls Try.prog 8 #[.slice A l.length c] w (Holds w) := by
  refine go [.slice A l.length c] [] Try.func8 Try.ntmps8 rfl rfl (own_nil w) ?_
  repeat (first | (apply wx_val; (first | exact v_assign rfl | exact v_not rfl); rfl) | refine wc_seq ?_ | refine wc_region ?_ | refine wx_nil ?_ | refine wq_next ?_ | refine wc_skip ?_ | refine wc_condF rfl ?_ | (apply wx_vcall; exact vc_pure rfl rfl (fun w' => anchor_spec w'); rfl))
  refine wl_callT (M1 := []) (fun w' hr ho => New_law w') rfl rfl rfl ?_
  rintro ⟨gf, q⟩ hq
  dsimp only at hq ⊢
  refine wx_cat ?_
  repeat (first | (apply wx_val; (first | exact v_move rfl | exact v_assign rfl | exact v_eqnil rfl rfl rfl); rfl) | refine wc_seq ?_ | refine wc_region ?_ | refine wx_nil ?_ | refine wq_next ?_ | refine wc_skip ?_ | refine wc_condF rfl ?_)
  (try refine wx_ungd rfl rfl ?_)
  apply wx_val
  exact v_build (cs := ([.slice none 0 0]).toArray) rfl (by kernel_rfl)
  rfl
  refine wl_boxA rfl rfl (fun gr => ?_)
  repeat (first | (apply wx_val; (first | exact v_move rfl | exact v_assign rfl | exact v_len rfl rfl); rfl) | refine wc_seq ?_ | refine wc_region ?_ | refine wx_nil ?_ | refine wq_next ?_ | refine wc_block ?_)
  refine wc_flat (N := [q.seg gf ([] : Ks).length, (Rf.mk none 0 []).seg gr ([] : Ks).length]) (by
    simp only [List.flatten_cons, List.flatten_nil, List.append_nil, Rf.seg]
    exact List.perm_append_comm) ?_
  refine wc_loopK (ι := Nat × Ks × Fo × Rf) [0, 3, 4, 16, 17] (fun z => [(18, .int .i64 (z.1 : Nat))]) (fun z => [z.2.2.1.seg gf z.2.1.length, z.2.2.2.seg gr z.2.1.length]) (fun z => z.1 ≤ l.length ∧ Both z.1 z.2.1 z.2.2.1 z.2.2.2) (fun z => l.length - z.1) ((0, [], q, ⟨none, 0, []⟩)) rfl ?_ (by repeat (first | exact trivial | refine ⟨rfl, ?_⟩)) ?_
  · exact ⟨Nat.zero_le _, hq, Buf.nil _ _, Rgt.nil⟩
  clear hq q
  rintro ⟨i, B, q, R⟩ ⟨h1, h2⟩
  try dsimp only
  refine wc_fcat ?_
  refine wc_cat ?_
  dsimp only at h1 h2
  repeat (first | (apply wx_val; (first | exact v_lt rfl rfl); rfl) | refine wc_seq ?_ | refine wc_region ?_ | refine wx_nil ?_ | refine wq_next ?_)
  refine wc_if rfl (fun hd => ?_) (fun hd => ?_)
  · obtain ⟨o, hs⟩ : ∃ s, l[i]? = some s := ⟨l[i], List.getElem?_eq_getElem (by omega)⟩
    obtain ⟨ga, oa, rfl, hcell⟩ := hv.atF (f := SOp.cells) (k := 7) (fun _ => rfl) (by decide) (show 0 < l.length by omega)
    have c1 := fun w' ho => step_spec (gf := gf) (gr := gr) o (by omega) h2 w' ho
    repeat (first | (apply wx_val; (first | exact v_iaddr rfl rfl rfl (by omega)); rfl) | refine wc_seq ?_ | refine wc_region ?_ | refine wq_next ?_ | refine wc_block ?_ | refine wc_skip ?_)
    (try refine wx_ungd rfl rfl ?_)
    apply wx_val
    exact v_loadA (cs := o.cells) rfl rfl (fun w' hr j u hj => hcell i o j u hs hj hr (by rw [Int.toNat_natCast]))
    rfl
    skip
    refine wl_alloc rfl rfl (fun g6 => ?_)
    repeat (first | (apply wx_val; (first | exact v_move rfl | (first | exact v_ldQ 0 0 rfl rfl rfl rfl rfl)); rfl) | refine wc_seq ?_ | refine wc_region ?_ | refine wx_nil ?_ | refine wq_next ?_ | refine wx_setn ?_ | refine wl_stAT rfl rfl (by rfl) (by rfl) (by exact .inl (Nat.le_refl _)) rfl ?_)
    refine wl_callT (fun w' hr ho => c1 w' ho) rfl rfl rfl ?_
    rintro ⟨B2, q2, R2⟩ h3
    dsimp only at h3 ⊢
    refine wx_cat ?_
    repeat (first | (apply wx_val; (first | exact v_move rfl | exact v_addi rfl rfl (by omega) | exact v_not rfl); rfl) | refine wc_region ?_ | refine wx_nil ?_ | refine wq_next ?_ | refine wc_skip ?_ | refine wq_block ?_ | refine wc_condF rfl ?_)
    refine wq_roundK ((i + 1, B2, q2, R2)) ?_ ?_ (by repeat (first | exact trivial | refine ⟨rfl, ?_⟩)) (by first | exact catEq | exact rfl)
    · exact ⟨by dsimp only; omega, h3⟩
    · show l.length - (i + 1) < l.length - i
      omega
  obtain rfl : i = l.length := by omega
  clear hd h1
  repeat (first | (apply wx_val; (first | exact v_move rfl | exact v_len rfl rfl); rfl) | refine wc_seq ?_ | refine wc_region ?_ | refine wx_nil ?_ | refine wq_next ?_ | refine wc_block ?_ | refine wc_exit ?_ | refine wq_then_exit ?_ | refine wq_block_exit rfl ?_)
  refine wc_loopK (ι := Nat × Ks × Fo × Rf) [0, 3, 4, 28, 29] (fun z => [(30, .int .i64 (z.1 : Nat))]) (fun z => [z.2.2.1.seg gf z.2.1.length, z.2.2.2.seg gr z.2.1.length]) (fun z => z.1 ≤ l.length ∧ Both (l.length + z.1) z.2.1 z.2.2.1 z.2.2.2) (fun z => l.length - z.1) ((0, B, q, R)) rfl ?_ (by repeat (first | exact trivial | refine ⟨rfl, ?_⟩)) ?_
  · exact ⟨Nat.zero_le _, h2⟩
  clear h2 B q R
  rintro ⟨i, B, q, R⟩ ⟨h1, h2⟩
  try dsimp only
  refine wc_fcat ?_
  refine wc_cat ?_
  dsimp only at h1 h2
  repeat (first | (apply wx_val; (first | exact v_lt rfl rfl); rfl) | refine wc_seq ?_ | refine wc_region ?_ | refine wx_nil ?_ | refine wq_next ?_)
  refine wc_if rfl (fun hd => ?_) (fun hd => ?_)
  · obtain ⟨o, hs⟩ : ∃ s, l[i]? = some s := ⟨l[i], List.getElem?_eq_getElem (by omega)⟩
    obtain ⟨ga, oa, rfl, hcell⟩ := hv.atF (f := SOp.cells) (k := 7) (fun _ => rfl) (by decide) (show 0 < l.length by omega)
    obtain ⟨kd, a1, b1, key, s⟩ := o
    have c1 := fun w' ho => step_spec (gf := gf) (gr := gr) ⟨6, 0, 0, key, ⟨0, 0, 0⟩⟩ (by omega) h2 w' ho
    repeat (first | (apply wx_val; (first | exact v_iaddr rfl rfl rfl (by omega)); rfl) | refine wc_seq ?_ | refine wc_region ?_ | refine wq_next ?_ | refine wc_block ?_ | refine wc_skip ?_)
    (try refine wx_ungd rfl rfl ?_)
    apply wx_val
    exact v_loadA (cs := (SOp.mk kd a1 b1 key s).cells) rfl rfl (fun w' hr j u hj => hcell i _ j u hs hj hr (by rw [Int.toNat_natCast]))
    rfl
    skip
    refine wl_alloc rfl rfl (fun g8 => ?_)
    repeat (first | refine wc_seq ?_ | refine wx_nil ?_ | refine wq_next ?_ | refine wc_setn ?_ | refine wl_stAT rfl rfl (by rfl) (by rfl) (by exact .inl (Nat.le_refl _)) rfl ?_)
    refine wc_heldX [] [opC g8 ⟨kd, a1, b1, key, s⟩] rfl (by (repeat (first | with_reducible exact panicNot_of panicOk_body | with_reducible apply panicNot_block | with_reducible apply panicNot_then))) (fun hQd => ?_)
    (apply wh_takeX 0; (first | exact fun _ h => h | exact fun _ h => res_takes h); exact hQd; rfl; rfl; exact v_move rfl; decide +kernel; decide +kernel; decide +kernel; rfl)
    (apply wh_takeX 1; (first | exact fun _ h => h | exact fun _ h => res_takes h); exact hQd; rfl; rfl; exact v_move rfl; decide +kernel; decide +kernel; decide +kernel; rfl)
    (apply wh_takeX 2; (first | exact fun _ h => h | exact fun _ h => res_takes h); exact hQd; rfl; rfl; exact v_faddr rfl rfl; decide +kernel; decide +kernel; decide +kernel; rfl)
    (apply wh_takeX 3; (first | exact fun _ h => res_takes h); exact hQd; rfl; rfl; (first | exact v_ldT rfl rfl rfl (by rfl)); decide +kernel; decide +kernel; decide +kernel; rfl)
    (apply wh_takeX 4; (first | exact fun _ h => h | exact fun _ h => res_takes h); exact hQd; rfl; rfl; (exact v_build (cs := (SOp.mk 6 0 0 key ⟨0, 0, 0⟩).cells.toArray) rfl (by kernel_rfl)); decide +kernel; decide +kernel; decide +kernel; rfl)
    refine wh_eff 5 rfl (by decide +kernel) ?_
    refine wl_callT (fun w' hr ho => c1 w' ho) rfl rfl rfl ?_
    rintro ⟨B2, q2, R2⟩ h3
    dsimp only at h3 ⊢
    have hB : B2.length ≤ 2097152 := Nat.le_trans h3.f.lens.1 (by omega)
    have hol := ovK_len (k := key) (lo := -1) (hi := 2199023255552) (A := B2)
    refine wx_cat ?_
    (try refine wx_nil ?_)
    refine wq_held (by (first | exact fun _ h => h | exact fun _ h => res_takes h)) ?_
    (apply wh_takeX 6; (first | exact fun _ h => h | exact fun _ h => res_takes h); exact hQd; rfl; rfl; (first | exact v_not rfl | exact v_negi rfl (by omega)); decide +kernel; decide +kernel; decide +kernel; rfl)
    (apply wh_takeX 7; (first | exact fun _ h => h | exact fun _ h => res_takes h); exact hQd; rfl; rfl; exact v_move rfl; decide +kernel; decide +kernel; decide +kernel; rfl)
    (first | refine wh_not 41 rfl rfl ?_ | refine wh_not 41 rfl (decide_eq_false rfl) ?_ | refine wh_not 41 rfl (by simp) ?_)
    (first | (apply wh_takegX 8; (first | exact fun _ h => res_takes h); exact hQd; rfl; rfl; rfl; rfl; exact v_faddr rfl rfl; decide +kernel; decide +kernel; decide +kernel; rfl))
    (first | (apply wh_takegX 9; (first | exact fun _ h => res_takes h); exact hQd; rfl; rfl; rfl; rfl; (first | exact v_ldT rfl rfl rfl (by rfl)); decide +kernel; decide +kernel; decide +kernel; rfl))
    (first | (apply wh_takegX 10; (first | exact fun _ h => res_takes h); exact hQd; rfl; rfl; rfl; rfl; exact v_move rfl; decide +kernel; decide +kernel; decide +kernel; rfl))
    (first | (apply wh_takegX 11; (first | exact fun _ h => res_takes h); exact hQd; rfl; rfl; rfl; rfl; exact v_faddr rfl rfl; decide +kernel; decide +kernel; decide +kernel; rfl))
    (first | (apply wh_takegX 12; (first | exact fun _ h => res_takes h); exact hQd; rfl; rfl; rfl; rfl; (first | exact v_ldT rfl rfl rfl (by rfl)); decide +kernel; decide +kernel; decide +kernel; rfl))
    (first | (apply wh_takegX 14; (first | exact fun _ h => res_takes h); exact hQd; rfl; rfl; rfl; rfl; exact v_move rfl; decide +kernel; decide +kernel; decide +kernel; rfl))
    (first | (apply wh_takegX 15; (first | exact fun _ h => res_takes h); exact hQd; rfl; rfl; rfl; rfl; exact v_faddr rfl rfl; decide +kernel; decide +kernel; decide +kernel; rfl))
    (first | (apply wh_takegX 16; (first | exact fun _ h => res_takes h); exact hQd; rfl; rfl; rfl; rfl; (first | exact v_ldT rfl rfl rfl (by rfl)); decide +kernel; decide +kernel; decide +kernel; rfl))
    refine wh_eff 13 rfl (by decide +kernel) ?_
    refine wx_ungd rfl rfl ?_
    refine wl_callT (fun w' hr ho => Overlap_law (g := gf) key (-1) 2199023255552 h3.f (by omega) w' ho) rfl rfl rfl ?_
    rintro ⟨A7, c7, E7⟩ hb7
    dsimp only at hb7 ⊢
    refine wx_cat ?_
    (try refine wx_nil ?_)
    refine wq_held (by (first | exact fun _ h => h | exact fun _ h => res_takes h)) ?_
    refine wh_eff 17 rfl (by decide +kernel) ?_
    refine wx_ungd rfl rfl ?_
    refine wl_callT (fun w' hr ho => rOv_law (gr := gr) key (-1) 2199023255552 hB h3.r w' ho) rfl rfl rfl ?_
    rintro ⟨A8, c8, E8⟩ hb8
    dsimp only at hb8 ⊢
    refine wx_cat ?_
    (try refine wx_nil ?_)
    refine wq_held (by (first | exact fun _ h => h | exact fun _ h => res_takes h)) ?_
    refine wh_eff 18 rfl (by decide +kernel) ?_
    refine wx_ungd rfl rfl ?_
    (try refine wx_ungd rfl rfl ?_)
    refine wx_vcall (vc_callT (fun w' hr ho => (same_spec key (by omega) hb7 hb8) w' ho) rfl rfl) rfl ?_
    (try refine wx_nil ?_)
    refine wq_held (by (first | exact fun _ h => h | exact fun _ h => res_takes h)) ?_
    (first | (apply wh_takegX 19; (first | exact fun _ h => res_takes h); exact hQd; rfl; rfl; rfl; rfl; (first | exact v_not rfl); decide +kernel; decide +kernel; decide +kernel; rfl))
    (apply wh_takeX 20; (first | exact fun _ h => h | exact fun _ h => res_takes h); exact hQd; rfl; rfl; (first | exact v_pickT rfl rfl | exact v_pickF rfl rfl | exact v_pick rfl rfl rfl); decide +kernel; decide +kernel; decide +kernel; rfl)
    refine wh_done (by decide +kernel) ?_
    repeat (first | (apply wx_val; (first | exact v_move rfl | exact v_addi rfl rfl (by omega)); rfl) | refine wc_region ?_ | refine wx_nil ?_ | refine wq_next ?_ | refine wc_skip ?_ | refine wq_block ?_ | refine wc_condF rfl ?_)
    refine wq_roundK ((i + 1, B2, q2, R2)) ?_ ?_ (by repeat (first | exact trivial | refine ⟨rfl, ?_⟩)) (by first | exact catEq | exact rfl)
    · exact ⟨by dsimp only; omega, h3⟩
    · show l.length - (i + 1) < l.length - i
      omega
  have c1 := fun w' ho => Count_law (g := gf) h2.f w' ho
  repeat (first | refine wc_seq ?_ | refine wq_next ?_ | refine wc_exit ?_ | refine wq_then_exit ?_ | refine wq_block_exit rfl ?_)
  refine wc_flat (N := [q.seg gf B.length, rfB gr R.A B.length R.c, R.E]) (by
    simp only [List.flatten_cons, List.flatten_nil, List.append_nil, Rf.seg]
    exact List.Perm.refl _) ?_
  refine wc_heldX [] [rfB gr R.A B.length R.c] rfl (by (repeat (first | with_reducible exact panicNot_of panicOk_body | with_reducible apply panicNot_then))) (fun hQd => ?_)
  (apply wh_takeX 0; (first | exact fun _ h => h | exact fun _ h => res_takes h); exact hQd; rfl; rfl; exact v_move rfl; decide +kernel; decide +kernel; decide +kernel; rfl)
  (apply wh_takeX 2; (first | exact fun _ h => h | exact fun _ h => res_takes h); exact hQd; rfl; rfl; exact v_move rfl; decide +kernel; decide +kernel; decide +kernel; rfl)
  (apply wh_takeX 3; (first | exact fun _ h => h | exact fun _ h => res_takes h); exact hQd; rfl; rfl; exact v_nil rfl; decide +kernel; decide +kernel; decide +kernel; rfl)
  (apply wh_takeX 4; (first | exact fun _ h => h | exact fun _ h => res_takes h); exact hQd; rfl; rfl; exact v_faddr rfl rfl; decide +kernel; decide +kernel; decide +kernel; rfl)
  (apply wh_takeX 5; (first | exact fun _ h => res_takes h); exact hQd; rfl; rfl; (first | exact v_ldT rfl rfl rfl (by rfl)); decide +kernel; decide +kernel; decide +kernel; rfl)
  (apply wh_takeX 6; (first | exact fun _ h => h | exact fun _ h => res_takes h); exact hQd; rfl; rfl; (first | exact v_len rfl rfl | exact v_slen rfl rfl); decide +kernel; decide +kernel; decide +kernel; rfl)
  refine wh_eff 1 rfl (by decide +kernel) ?_
  (try refine wx_ungd rfl rfl ?_)
  refine wx_vcall (vc_callT (fun w' hr ho => c1 w' ho) rfl rfl) rfl ?_
  (try refine wx_nil ?_)
  refine wq_held (by (first | exact fun _ h => h | exact fun _ h => res_takes h)) ?_
  (apply wh_takeX 7; (first | exact fun _ h => res_takes h); exact hQd; rfl; rfl; (first | exact v_eq rfl rfl); decide +kernel; decide +kernel; decide +kernel; rfl)
  (apply wh_takeX 8; (first | exact fun _ h => h | exact fun _ h => res_takes h); exact hQd; rfl; rfl; exact v_assign rfl; decide +kernel; decide +kernel; decide +kernel; rfl)
  refine wh_done (by decide +kernel) ?_
  repeat (first | refine wq_next ?_ | refine wc_ret ?_)
  exact wq_clear (wq_ret1 () rfl (bool_val (by simp)) trivial rfl)
end Go.Proofs.Ytjeghbachokljaa
