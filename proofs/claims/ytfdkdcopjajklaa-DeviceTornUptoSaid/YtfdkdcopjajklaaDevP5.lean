/- Both devices made, and one step on both. -/
import Derived.Test.YtfdkdcopjajklaaDevP4
import Derived.Test.YtfdkdcopjajklaaDevR
set_option linter.unusedVariables false
set_option linter.unusedSimpArgs false
namespace Go.Proofs.Ytfdkdcopjajklaa
open Go
set_option maxRecDepth 20000
set_option maxHeartbeats 4000000
attribute [local irreducible] WX WC WQ Val VCall
theorem err_range {b s : Int} {i m : Nat} {fl : List FaultW} (h : newErr b s i m fl = 0) : 16 ≤ b ∧ b ≤ 1024 ∧ 0 ≤ s ∧ s ≤ 4096 ∧ i ≤ 4194304 ∧ (m : Int) ≤ b * s ∧ fl.length ≤ 64 ∧ ∀ f ∈ fl, f.Right b := by
  unfold newErr at h
  split at h
  · cases h
  · split at h
    · cases h
    · split at h
      · cases h
      · split at h
        · cases h
        · split at h
          · rename_i h5
            exact ⟨by omega, by omega, by omega, by omega, by omega, by omega, by omega, fun f hf => of_decide_eq_true (List.all_eq_true.1 h5 f hf)⟩
          · cases h
theorem made_no {s : SetW} (w : World) (hs : s.Rd w) (he : newErr s.blk s.sc s.inp.xs.length s.img.xs.length s.fl.xs ≠ 0) :
    Calls Try.prog 21 #[.agg s.cells.toArray] w (Ret (β := Unit) w (ids []) (fun _ => .tuple #[.pointer none, .pointer none, .bool true]) (fun _ => []) (fun _ => True)) := by
  refine go [.agg s.cells.toArray] [] Try.func21 Try.ntmps21 rfl rfl (own_nil w) ?_
  obtain ⟨u1, u2, u3, u4, u5, u6, u7, u8, u9⟩ := hs
  repeat (first | (apply wx_val; (first | exact v_move rfl | exact v_assign rfl | exact v_faddr rfl rfl | exact v_ldT rfl rfl rfl (by rfl) | exact v_ldAT rfl (by rfl) | exact v_extract rfl rfl | exact v_len rfl rfl | exact v_slen rfl rfl | exact v_eq rfl rfl | exact v_ne rfl rfl | exact v_eqnil rfl rfl rfl | exact v_nenil rfl rfl rfl | exact v_eqnn rfl rfl rfl | exact v_nenn rfl rfl rfl | exact v_streq rfl rfl | exact v_strne rfl rfl | exact v_pickT rfl rfl | exact v_pickF rfl rfl | exact v_and rfl rfl | exact v_or rfl rfl | exact v_xor rfl rfl | exact v_shr rfl rfl (by omega) | exact v_shl rfl rfl (by omega) | exact v_pick rfl rfl rfl | (first | exact v_ldQ 0 0 rfl rfl rfl rfl rfl | exact v_ldQ 1 0 rfl rfl rfl rfl rfl | exact v_ldQ 2 0 rfl rfl rfl rfl rfl | exact v_ldQ 3 0 rfl rfl rfl rfl rfl) | exact v_eqA rfl rfl (by kernel_rfl) | exact v_neA rfl rfl (by kernel_rfl) | exact v_beq rfl rfl rfl | exact v_bne rfl rfl rfl | exact v_eqsnil rfl rfl rfl | exact v_nesnil rfl rfl rfl); rfl) | refine wx_no rfl rfl rfl ?_ | refine wx_undef rfl rfl rfl ?_ | refine wx_ungd rfl rfl ?_ | refine wc_seq ?_ | refine wc_region ?_ | refine wx_nil ?_ | refine wq_next ?_ | refine wc_block ?_ | refine wc_ret ?_ | refine wc_skip ?_ | refine wc_exit ?_ | refine wc_label ?_ | refine wq_then_ret ?_ | refine wq_then_exit ?_ | refine wq_block ?_ | refine wq_block_ret ?_ | refine wq_block_exit rfl ?_ | refine wq_block_pass rfl ?_ | refine wc_reads rfl (by decide +kernel) ?_ | refine wc_condT rfl ?_ | refine wc_condF rfl ?_ | refine wx_setn ?_ | refine wc_setn ?_ | refine wq_setn ?_ | refine wx_cat ?_ | refine wc_cat ?_ | refine wq_cat ?_)
  refine wl_boxA rfl rfl (fun g1 => ?_)
  repeat (first | (apply wx_val; (first | exact v_move rfl | exact v_assign rfl | exact v_faddr rfl rfl | exact v_ldT rfl rfl rfl (by rfl) | exact v_ldAT rfl (by rfl) | exact v_extract rfl rfl | exact v_len rfl rfl | exact v_slen rfl rfl | exact v_eq rfl rfl | exact v_ne rfl rfl | exact v_eqnil rfl rfl rfl | exact v_nenil rfl rfl rfl | exact v_eqnn rfl rfl rfl | exact v_nenn rfl rfl rfl | exact v_streq rfl rfl | exact v_strne rfl rfl | exact v_pickT rfl rfl | exact v_pickF rfl rfl | exact v_and rfl rfl | exact v_or rfl rfl | exact v_xor rfl rfl | exact v_shr rfl rfl (by omega) | exact v_shl rfl rfl (by omega) | exact v_pick rfl rfl rfl | (first | exact v_ldQ 0 0 rfl rfl rfl rfl rfl | exact v_ldQ 1 0 rfl rfl rfl rfl rfl | exact v_ldQ 2 0 rfl rfl rfl rfl rfl | exact v_ldQ 3 0 rfl rfl rfl rfl rfl) | exact v_eqA rfl rfl (by kernel_rfl) | exact v_neA rfl rfl (by kernel_rfl) | exact v_beq rfl rfl rfl | exact v_bne rfl rfl rfl | exact v_eqsnil rfl rfl rfl | exact v_nesnil rfl rfl rfl); rfl) | refine wx_no rfl rfl rfl ?_ | refine wx_undef rfl rfl rfl ?_ | refine wx_ungd rfl rfl ?_ | refine wc_seq ?_ | refine wc_region ?_ | refine wx_nil ?_ | refine wq_next ?_ | refine wc_block ?_ | refine wc_ret ?_ | refine wc_skip ?_ | refine wc_exit ?_ | refine wc_label ?_ | refine wq_then_ret ?_ | refine wq_then_exit ?_ | refine wq_block ?_ | refine wq_block_ret ?_ | refine wq_block_exit rfl ?_ | refine wq_block_pass rfl ?_ | refine wc_reads rfl (by decide +kernel) ?_ | refine wc_condT rfl ?_ | refine wc_condF rfl ?_ | refine wx_setn ?_ | refine wc_setn ?_ | refine wq_setn ?_ | refine wx_cat ?_ | refine wc_cat ?_ | refine wq_cat ?_)
  refine wc_meetK (ι := Unit) [1] (fun _ => [(2, .pointer none), (5, .int .i64 (newErr s.blk s.sc s.inp.xs.length s.img.xs.length s.fl.xs))]) (fun _ => []) (M1 := []) (fun _ => True) rfl ?_ ?_
  ·
    refine wc_cat ?_
    refine wc_heldQ [setB g1 s] rfl (by (repeat (first | with_reducible exact panicOk_body | with_reducible apply panicOk_block | with_reducible apply panicOk_then))) (fun hQd => ?_)
    (apply wh_take 0; (first | exact fun _ h => h | exact fun _ h => res_takes h); exact hQd; rfl; exact v_faddr rfl rfl; decide +kernel; decide +kernel; decide +kernel; rfl)
    (apply wh_take 1; (first | exact fun _ h => h | exact fun _ h => res_takes h); exact hQd; rfl; (first | exact v_ldT rfl rfl rfl (by rfl) | exact v_ldAT rfl (by rfl) | (first | exact v_ldQ 0 0 rfl rfl rfl rfl rfl | exact v_ldQ 1 0 rfl rfl rfl rfl rfl | exact v_ldQ 2 0 rfl rfl rfl rfl rfl | exact v_ldQ 3 0 rfl rfl rfl rfl rfl)); decide +kernel; decide +kernel; decide +kernel; rfl)
    (apply wh_take 2; (first | exact fun _ h => h | exact fun _ h => res_takes h); exact hQd; rfl; exact v_faddr rfl rfl; decide +kernel; decide +kernel; decide +kernel; rfl)
    (apply wh_take 3; (first | exact fun _ h => h | exact fun _ h => res_takes h); exact hQd; rfl; (first | exact v_ldT rfl rfl rfl (by rfl) | exact v_ldAT rfl (by rfl) | (first | exact v_ldQ 0 0 rfl rfl rfl rfl rfl | exact v_ldQ 1 0 rfl rfl rfl rfl rfl | exact v_ldQ 2 0 rfl rfl rfl rfl rfl | exact v_ldQ 3 0 rfl rfl rfl rfl rfl)); decide +kernel; decide +kernel; decide +kernel; rfl)
    (apply wh_take 4; (first | exact fun _ h => h | exact fun _ h => res_takes h); exact hQd; rfl; (exact v_build (cs := (geoC s.blk s.sc).toArray) rfl (by kernel_rfl)); decide +kernel; decide +kernel; decide +kernel; rfl)
    (apply wh_take 6; (first | exact fun _ h => h | exact fun _ h => res_takes h); exact hQd; rfl; exact v_faddr rfl rfl; decide +kernel; decide +kernel; decide +kernel; rfl)
    (apply wh_take 7; (first | exact fun _ h => h | exact fun _ h => res_takes h); exact hQd; rfl; (first | exact v_ldT rfl rfl rfl (by rfl) | exact v_ldAT rfl (by rfl) | (first | exact v_ldQ 0 0 rfl rfl rfl rfl rfl | exact v_ldQ 1 0 rfl rfl rfl rfl rfl | exact v_ldQ 2 0 rfl rfl rfl rfl rfl | exact v_ldQ 3 0 rfl rfl rfl rfl rfl)); decide +kernel; decide +kernel; decide +kernel; rfl)
    (apply wh_take 10; (first | exact fun _ h => h | exact fun _ h => res_takes h); exact hQd; rfl; exact v_faddr rfl rfl; decide +kernel; decide +kernel; decide +kernel; rfl)
    (apply wh_take 11; (first | exact fun _ h => h | exact fun _ h => res_takes h); exact hQd; rfl; (first | exact v_ldT rfl rfl rfl (by rfl) | exact v_ldAT rfl (by rfl) | (first | exact v_ldQ 0 0 rfl rfl rfl rfl rfl | exact v_ldQ 1 0 rfl rfl rfl rfl rfl | exact v_ldQ 2 0 rfl rfl rfl rfl rfl | exact v_ldQ 3 0 rfl rfl rfl rfl rfl)); decide +kernel; decide +kernel; decide +kernel; rfl)
    (apply wh_take 14; (first | exact fun _ h => h | exact fun _ h => res_takes h); exact hQd; rfl; exact v_faddr rfl rfl; decide +kernel; decide +kernel; decide +kernel; rfl)
    (apply wh_take 15; (first | exact fun _ h => h | exact fun _ h => res_takes h); exact hQd; rfl; (first | exact v_ldT rfl rfl rfl (by rfl) | exact v_ldAT rfl (by rfl) | (first | exact v_ldQ 0 0 rfl rfl rfl rfl rfl | exact v_ldQ 1 0 rfl rfl rfl rfl rfl | exact v_ldQ 2 0 rfl rfl rfl rfl rfl | exact v_ldQ 3 0 rfl rfl rfl rfl rfl)); decide +kernel; decide +kernel; decide +kernel; rfl)
    refine wh_eff3 5 9 13 rfl rfl rfl (by decide +kernel) ?_ ?_ ?_
    · refine wl_lit0 rfl rfl (fun g5 E5 hb5 => ?_)
      (try refine wx_nil ?_)
      refine wq_held (by (first | exact fun _ h => h | exact fun _ h => res_takes h)) ?_
      refine wh_eff3 8 9 13 rfl rfl rfl (by decide +kernel) ?_ ?_ ?_
      · refine wl_appT rfl hb5 rfl rfl (fun w' hr => src_slice rfl (u1.keep hr).rd (by simp) (by decide) (one_bys _)) (by first | omega | (dsimp only; omega)) rfl ?_
        intro Ai ci Ei hbi
        simp only [Nat.zero_add, List.nil_append] at hbi ⊢
        try refine wx_cat ?_
        (try refine wx_nil ?_)
        refine wq_held (by (first | exact fun _ h => h | exact fun _ h => res_takes h)) ?_
        refine wh_eff2 9 13 rfl rfl (by decide +kernel) ?_ ?_
        · refine wl_lit0 rfl rfl (fun g9 E9 hb9 => ?_)
          (try refine wx_nil ?_)
          refine wq_held (by (first | exact fun _ h => h | exact fun _ h => res_takes h)) ?_
          refine wh_eff2 12 13 rfl rfl (by decide +kernel) ?_ ?_
          · refine wl_appT rfl hb9 rfl rfl (fun w' hr => src_slice rfl (u2.keep hr).rd (by simp) (by decide) (one_bys _)) (by first | omega | (dsimp only; omega)) rfl ?_
            intro Am cm Em hbm
            simp only [Nat.zero_add, List.nil_append] at hbm ⊢
            try refine wx_cat ?_
            (try refine wx_nil ?_)
            refine wq_held (by (first | exact fun _ h => h | exact fun _ h => res_takes h)) ?_
            refine wh_eff 13 rfl (by decide +kernel) ?_
            refine wl_lit0 rfl rfl (fun g13 E13 hb13 => ?_)
            (try refine wx_nil ?_)
            refine wq_held (by (first | exact fun _ h => h | exact fun _ h => res_takes h)) ?_
            refine wh_eff 16 rfl (by decide +kernel) ?_
            refine wl_appT rfl hb13 rfl rfl (fun w' hr => src_slice rfl (u3.keep hr).rd (flat_len (k := 4) (fun _ => rfl) _) (by decide) (one_flat (f := FaultW.cells) (fun _ => rfl) _)) (by first | omega | (dsimp only; omega)) rfl ?_
            intro Af cf Ef hbf
            simp only [Nat.zero_add, List.nil_append] at hbf ⊢
            try refine wx_cat ?_
            (try refine wx_nil ?_)
            refine wq_held (by (first | exact fun _ h => h | exact fun _ h => res_takes h)) ?_
            refine wh_eff 17 rfl (by decide +kernel) ?_
            refine wl_callT (M1 := []) (fun w' hr ho => New_no (fl := s.fl.xs) (by omega) (by omega) (by omega) w' (hbi.vwT hr) (hbm.vwT hr) (hbf.vwT hr) (fun e => List.eq_nil_of_length_eq_zero (hbf.none0 e)) he) rfl rfl rfl ?_
            rintro - -
            refine wx_cat ?_
            (try refine wx_nil ?_)
            refine wq_held (by (first | exact fun _ h => h | exact fun _ h => res_takes h)) ?_
            (apply wh_take 18; (first | exact fun _ h => h | exact fun _ h => res_takes h); exact hQd; rfl; exact v_move rfl; decide +kernel; decide +kernel; decide +kernel; rfl)
            (apply wh_take 19; (first | exact fun _ h => h | exact fun _ h => res_takes h); exact hQd; rfl; exact v_extract rfl rfl; decide +kernel; decide +kernel; decide +kernel; rfl)
            (apply wh_take 20; (first | exact fun _ h => h | exact fun _ h => res_takes h); exact hQd; rfl; exact v_extract rfl rfl; decide +kernel; decide +kernel; decide +kernel; rfl)
            (apply wh_take 21; (first | exact fun _ h => h | exact fun _ h => res_takes h); exact hQd; rfl; exact v_assign rfl; decide +kernel; decide +kernel; decide +kernel; rfl)
            (apply wh_take 22; (first | exact fun _ h => h | exact fun _ h => res_takes h); exact hQd; rfl; exact v_assign rfl; decide +kernel; decide +kernel; decide +kernel; rfl)
            refine wh_done (by decide +kernel) ?_
            refine wq_cutK (()) ?_ (by repeat (first | exact trivial | refine ⟨rfl, ?_⟩)) (by first | exact catEq | exact rfl)
            trivial
          · refine wl_lit0 rfl rfl (fun g13 E13 hb13 => ?_)
            (try refine wx_nil ?_)
            refine wq_held (by (first | exact fun _ h => h | exact fun _ h => res_takes h)) ?_
            refine wh_eff 12 rfl (by decide +kernel) ?_
            refine wl_appT rfl hb9 rfl rfl (fun w' hr => src_slice rfl (u2.keep hr).rd (by simp) (by decide) (one_bys _)) (by first | omega | (dsimp only; omega)) rfl ?_
            intro Am cm Em hbm
            simp only [Nat.zero_add, List.nil_append] at hbm ⊢
            try refine wx_cat ?_
            (try refine wx_nil ?_)
            refine wq_held (by (first | exact fun _ h => h | exact fun _ h => res_takes h)) ?_
            refine wh_eff 16 rfl (by decide +kernel) ?_
            refine wl_appT rfl hb13 rfl rfl (fun w' hr => src_slice rfl (u3.keep hr).rd (flat_len (k := 4) (fun _ => rfl) _) (by decide) (one_flat (f := FaultW.cells) (fun _ => rfl) _)) (by first | omega | (dsimp only; omega)) rfl ?_
            intro Af cf Ef hbf
            simp only [Nat.zero_add, List.nil_append] at hbf ⊢
            try refine wx_cat ?_
            (try refine wx_nil ?_)
            refine wq_held (by (first | exact fun _ h => h | exact fun _ h => res_takes h)) ?_
            refine wh_eff 17 rfl (by decide +kernel) ?_
            refine wl_callT (M1 := []) (fun w' hr ho => New_no (fl := s.fl.xs) (by omega) (by omega) (by omega) w' (hbi.vwT hr) (hbm.vwT hr) (hbf.vwT hr) (fun e => List.eq_nil_of_length_eq_zero (hbf.none0 e)) he) rfl rfl rfl ?_
            rintro - -
            refine wx_cat ?_
            (try refine wx_nil ?_)
            refine wq_held (by (first | exact fun _ h => h | exact fun _ h => res_takes h)) ?_
            (apply wh_take 18; (first | exact fun _ h => h | exact fun _ h => res_takes h); exact hQd; rfl; exact v_move rfl; decide +kernel; decide +kernel; decide +kernel; rfl)
            (apply wh_take 19; (first | exact fun _ h => h | exact fun _ h => res_takes h); exact hQd; rfl; exact v_extract rfl rfl; decide +kernel; decide +kernel; decide +kernel; rfl)
            (apply wh_take 20; (first | exact fun _ h => h | exact fun _ h => res_takes h); exact hQd; rfl; exact v_extract rfl rfl; decide +kernel; decide +kernel; decide +kernel; rfl)
            (apply wh_take 21; (first | exact fun _ h => h | exact fun _ h => res_takes h); exact hQd; rfl; exact v_assign rfl; decide +kernel; decide +kernel; decide +kernel; rfl)
            (apply wh_take 22; (first | exact fun _ h => h | exact fun _ h => res_takes h); exact hQd; rfl; exact v_assign rfl; decide +kernel; decide +kernel; decide +kernel; rfl)
            refine wh_done (by decide +kernel) ?_
            refine wq_cutK (()) ?_ (by repeat (first | exact trivial | refine ⟨rfl, ?_⟩)) (by first | exact catEq | exact rfl)
            trivial
        · refine wl_lit0 rfl rfl (fun g13 E13 hb13 => ?_)
          (try refine wx_nil ?_)
          refine wq_held (by (first | exact fun _ h => h | exact fun _ h => res_takes h)) ?_
          refine wh_eff 9 rfl (by decide +kernel) ?_
          refine wl_lit0 rfl rfl (fun g9 E9 hb9 => ?_)
          (try refine wx_nil ?_)
          refine wq_held (by (first | exact fun _ h => h | exact fun _ h => res_takes h)) ?_
          refine wh_eff 12 rfl (by decide +kernel) ?_
          refine wl_appT rfl hb9 rfl rfl (fun w' hr => src_slice rfl (u2.keep hr).rd (by simp) (by decide) (one_bys _)) (by first | omega | (dsimp only; omega)) rfl ?_
          intro Am cm Em hbm
          simp only [Nat.zero_add, List.nil_append] at hbm ⊢
          try refine wx_cat ?_
          (try refine wx_nil ?_)
          refine wq_held (by (first | exact fun _ h => h | exact fun _ h => res_takes h)) ?_
          refine wh_eff 16 rfl (by decide +kernel) ?_
          refine wl_appT rfl hb13 rfl rfl (fun w' hr => src_slice rfl (u3.keep hr).rd (flat_len (k := 4) (fun _ => rfl) _) (by decide) (one_flat (f := FaultW.cells) (fun _ => rfl) _)) (by first | omega | (dsimp only; omega)) rfl ?_
          intro Af cf Ef hbf
          simp only [Nat.zero_add, List.nil_append] at hbf ⊢
          try refine wx_cat ?_
          (try refine wx_nil ?_)
          refine wq_held (by (first | exact fun _ h => h | exact fun _ h => res_takes h)) ?_
          refine wh_eff 17 rfl (by decide +kernel) ?_
          refine wl_callT (M1 := []) (fun w' hr ho => New_no (fl := s.fl.xs) (by omega) (by omega) (by omega) w' (hbi.vwT hr) (hbm.vwT hr) (hbf.vwT hr) (fun e => List.eq_nil_of_length_eq_zero (hbf.none0 e)) he) rfl rfl rfl ?_
          rintro - -
          refine wx_cat ?_
          (try refine wx_nil ?_)
          refine wq_held (by (first | exact fun _ h => h | exact fun _ h => res_takes h)) ?_
          (apply wh_take 18; (first | exact fun _ h => h | exact fun _ h => res_takes h); exact hQd; rfl; exact v_move rfl; decide +kernel; decide +kernel; decide +kernel; rfl)
          (apply wh_take 19; (first | exact fun _ h => h | exact fun _ h => res_takes h); exact hQd; rfl; exact v_extract rfl rfl; decide +kernel; decide +kernel; decide +kernel; rfl)
          (apply wh_take 20; (first | exact fun _ h => h | exact fun _ h => res_takes h); exact hQd; rfl; exact v_extract rfl rfl; decide +kernel; decide +kernel; decide +kernel; rfl)
          (apply wh_take 21; (first | exact fun _ h => h | exact fun _ h => res_takes h); exact hQd; rfl; exact v_assign rfl; decide +kernel; decide +kernel; decide +kernel; rfl)
          (apply wh_take 22; (first | exact fun _ h => h | exact fun _ h => res_takes h); exact hQd; rfl; exact v_assign rfl; decide +kernel; decide +kernel; decide +kernel; rfl)
          refine wh_done (by decide +kernel) ?_
          refine wq_cutK (()) ?_ (by repeat (first | exact trivial | refine ⟨rfl, ?_⟩)) (by first | exact catEq | exact rfl)
          trivial
      · refine wl_lit0 rfl rfl (fun g9 E9 hb9 => ?_)
        (try refine wx_nil ?_)
        refine wq_held (by (first | exact fun _ h => h | exact fun _ h => res_takes h)) ?_
        refine wh_eff2 8 13 rfl rfl (by decide +kernel) ?_ ?_
        · refine wl_appT rfl hb5 rfl rfl (fun w' hr => src_slice rfl (u1.keep hr).rd (by simp) (by decide) (one_bys _)) (by first | omega | (dsimp only; omega)) rfl ?_
          intro Ai ci Ei hbi
          simp only [Nat.zero_add, List.nil_append] at hbi ⊢
          try refine wx_cat ?_
          (try refine wx_nil ?_)
          refine wq_held (by (first | exact fun _ h => h | exact fun _ h => res_takes h)) ?_
          refine wh_eff2 12 13 rfl rfl (by decide +kernel) ?_ ?_
          · refine wl_appT rfl hb9 rfl rfl (fun w' hr => src_slice rfl (u2.keep hr).rd (by simp) (by decide) (one_bys _)) (by first | omega | (dsimp only; omega)) rfl ?_
            intro Am cm Em hbm
            simp only [Nat.zero_add, List.nil_append] at hbm ⊢
            try refine wx_cat ?_
            (try refine wx_nil ?_)
            refine wq_held (by (first | exact fun _ h => h | exact fun _ h => res_takes h)) ?_
            refine wh_eff 13 rfl (by decide +kernel) ?_
            refine wl_lit0 rfl rfl (fun g13 E13 hb13 => ?_)
            (try refine wx_nil ?_)
            refine wq_held (by (first | exact fun _ h => h | exact fun _ h => res_takes h)) ?_
            refine wh_eff 16 rfl (by decide +kernel) ?_
            refine wl_appT rfl hb13 rfl rfl (fun w' hr => src_slice rfl (u3.keep hr).rd (flat_len (k := 4) (fun _ => rfl) _) (by decide) (one_flat (f := FaultW.cells) (fun _ => rfl) _)) (by first | omega | (dsimp only; omega)) rfl ?_
            intro Af cf Ef hbf
            simp only [Nat.zero_add, List.nil_append] at hbf ⊢
            try refine wx_cat ?_
            (try refine wx_nil ?_)
            refine wq_held (by (first | exact fun _ h => h | exact fun _ h => res_takes h)) ?_
            refine wh_eff 17 rfl (by decide +kernel) ?_
            refine wl_callT (M1 := []) (fun w' hr ho => New_no (fl := s.fl.xs) (by omega) (by omega) (by omega) w' (hbi.vwT hr) (hbm.vwT hr) (hbf.vwT hr) (fun e => List.eq_nil_of_length_eq_zero (hbf.none0 e)) he) rfl rfl rfl ?_
            rintro - -
            refine wx_cat ?_
            (try refine wx_nil ?_)
            refine wq_held (by (first | exact fun _ h => h | exact fun _ h => res_takes h)) ?_
            (apply wh_take 18; (first | exact fun _ h => h | exact fun _ h => res_takes h); exact hQd; rfl; exact v_move rfl; decide +kernel; decide +kernel; decide +kernel; rfl)
            (apply wh_take 19; (first | exact fun _ h => h | exact fun _ h => res_takes h); exact hQd; rfl; exact v_extract rfl rfl; decide +kernel; decide +kernel; decide +kernel; rfl)
            (apply wh_take 20; (first | exact fun _ h => h | exact fun _ h => res_takes h); exact hQd; rfl; exact v_extract rfl rfl; decide +kernel; decide +kernel; decide +kernel; rfl)
            (apply wh_take 21; (first | exact fun _ h => h | exact fun _ h => res_takes h); exact hQd; rfl; exact v_assign rfl; decide +kernel; decide +kernel; decide +kernel; rfl)
            (apply wh_take 22; (first | exact fun _ h => h | exact fun _ h => res_takes h); exact hQd; rfl; exact v_assign rfl; decide +kernel; decide +kernel; decide +kernel; rfl)
            refine wh_done (by decide +kernel) ?_
            refine wq_cutK (()) ?_ (by repeat (first | exact trivial | refine ⟨rfl, ?_⟩)) (by first | exact catEq | exact rfl)
            trivial
          · refine wl_lit0 rfl rfl (fun g13 E13 hb13 => ?_)
            (try refine wx_nil ?_)
            refine wq_held (by (first | exact fun _ h => h | exact fun _ h => res_takes h)) ?_
            refine wh_eff 12 rfl (by decide +kernel) ?_
            refine wl_appT rfl hb9 rfl rfl (fun w' hr => src_slice rfl (u2.keep hr).rd (by simp) (by decide) (one_bys _)) (by first | omega | (dsimp only; omega)) rfl ?_
            intro Am cm Em hbm
            simp only [Nat.zero_add, List.nil_append] at hbm ⊢
            try refine wx_cat ?_
            (try refine wx_nil ?_)
            refine wq_held (by (first | exact fun _ h => h | exact fun _ h => res_takes h)) ?_
            refine wh_eff 16 rfl (by decide +kernel) ?_
            refine wl_appT rfl hb13 rfl rfl (fun w' hr => src_slice rfl (u3.keep hr).rd (flat_len (k := 4) (fun _ => rfl) _) (by decide) (one_flat (f := FaultW.cells) (fun _ => rfl) _)) (by first | omega | (dsimp only; omega)) rfl ?_
            intro Af cf Ef hbf
            simp only [Nat.zero_add, List.nil_append] at hbf ⊢
            try refine wx_cat ?_
            (try refine wx_nil ?_)
            refine wq_held (by (first | exact fun _ h => h | exact fun _ h => res_takes h)) ?_
            refine wh_eff 17 rfl (by decide +kernel) ?_
            refine wl_callT (M1 := []) (fun w' hr ho => New_no (fl := s.fl.xs) (by omega) (by omega) (by omega) w' (hbi.vwT hr) (hbm.vwT hr) (hbf.vwT hr) (fun e => List.eq_nil_of_length_eq_zero (hbf.none0 e)) he) rfl rfl rfl ?_
            rintro - -
            refine wx_cat ?_
            (try refine wx_nil ?_)
            refine wq_held (by (first | exact fun _ h => h | exact fun _ h => res_takes h)) ?_
            (apply wh_take 18; (first | exact fun _ h => h | exact fun _ h => res_takes h); exact hQd; rfl; exact v_move rfl; decide +kernel; decide +kernel; decide +kernel; rfl)
            (apply wh_take 19; (first | exact fun _ h => h | exact fun _ h => res_takes h); exact hQd; rfl; exact v_extract rfl rfl; decide +kernel; decide +kernel; decide +kernel; rfl)
            (apply wh_take 20; (first | exact fun _ h => h | exact fun _ h => res_takes h); exact hQd; rfl; exact v_extract rfl rfl; decide +kernel; decide +kernel; decide +kernel; rfl)
            (apply wh_take 21; (first | exact fun _ h => h | exact fun _ h => res_takes h); exact hQd; rfl; exact v_assign rfl; decide +kernel; decide +kernel; decide +kernel; rfl)
            (apply wh_take 22; (first | exact fun _ h => h | exact fun _ h => res_takes h); exact hQd; rfl; exact v_assign rfl; decide +kernel; decide +kernel; decide +kernel; rfl)
            refine wh_done (by decide +kernel) ?_
            refine wq_cutK (()) ?_ (by repeat (first | exact trivial | refine ⟨rfl, ?_⟩)) (by first | exact catEq | exact rfl)
            trivial
        · refine wl_lit0 rfl rfl (fun g13 E13 hb13 => ?_)
          (try refine wx_nil ?_)
          refine wq_held (by (first | exact fun _ h => h | exact fun _ h => res_takes h)) ?_
          refine wh_eff 8 rfl (by decide +kernel) ?_
          refine wl_appT rfl hb5 rfl rfl (fun w' hr => src_slice rfl (u1.keep hr).rd (by simp) (by decide) (one_bys _)) (by first | omega | (dsimp only; omega)) rfl ?_
          intro Ai ci Ei hbi
          simp only [Nat.zero_add, List.nil_append] at hbi ⊢
          try refine wx_cat ?_
          (try refine wx_nil ?_)
          refine wq_held (by (first | exact fun _ h => h | exact fun _ h => res_takes h)) ?_
          refine wh_eff 12 rfl (by decide +kernel) ?_
          refine wl_appT rfl hb9 rfl rfl (fun w' hr => src_slice rfl (u2.keep hr).rd (by simp) (by decide) (one_bys _)) (by first | omega | (dsimp only; omega)) rfl ?_
          intro Am cm Em hbm
          simp only [Nat.zero_add, List.nil_append] at hbm ⊢
          try refine wx_cat ?_
          (try refine wx_nil ?_)
          refine wq_held (by (first | exact fun _ h => h | exact fun _ h => res_takes h)) ?_
          refine wh_eff 16 rfl (by decide +kernel) ?_
          refine wl_appT rfl hb13 rfl rfl (fun w' hr => src_slice rfl (u3.keep hr).rd (flat_len (k := 4) (fun _ => rfl) _) (by decide) (one_flat (f := FaultW.cells) (fun _ => rfl) _)) (by first | omega | (dsimp only; omega)) rfl ?_
          intro Af cf Ef hbf
          simp only [Nat.zero_add, List.nil_append] at hbf ⊢
          try refine wx_cat ?_
          (try refine wx_nil ?_)
          refine wq_held (by (first | exact fun _ h => h | exact fun _ h => res_takes h)) ?_
          refine wh_eff 17 rfl (by decide +kernel) ?_
          refine wl_callT (M1 := []) (fun w' hr ho => New_no (fl := s.fl.xs) (by omega) (by omega) (by omega) w' (hbi.vwT hr) (hbm.vwT hr) (hbf.vwT hr) (fun e => List.eq_nil_of_length_eq_zero (hbf.none0 e)) he) rfl rfl rfl ?_
          rintro - -
          refine wx_cat ?_
          (try refine wx_nil ?_)
          refine wq_held (by (first | exact fun _ h => h | exact fun _ h => res_takes h)) ?_
          (apply wh_take 18; (first | exact fun _ h => h | exact fun _ h => res_takes h); exact hQd; rfl; exact v_move rfl; decide +kernel; decide +kernel; decide +kernel; rfl)
          (apply wh_take 19; (first | exact fun _ h => h | exact fun _ h => res_takes h); exact hQd; rfl; exact v_extract rfl rfl; decide +kernel; decide +kernel; decide +kernel; rfl)
          (apply wh_take 20; (first | exact fun _ h => h | exact fun _ h => res_takes h); exact hQd; rfl; exact v_extract rfl rfl; decide +kernel; decide +kernel; decide +kernel; rfl)
          (apply wh_take 21; (first | exact fun _ h => h | exact fun _ h => res_takes h); exact hQd; rfl; exact v_assign rfl; decide +kernel; decide +kernel; decide +kernel; rfl)
          (apply wh_take 22; (first | exact fun _ h => h | exact fun _ h => res_takes h); exact hQd; rfl; exact v_assign rfl; decide +kernel; decide +kernel; decide +kernel; rfl)
          refine wh_done (by decide +kernel) ?_
          refine wq_cutK (()) ?_ (by repeat (first | exact trivial | refine ⟨rfl, ?_⟩)) (by first | exact catEq | exact rfl)
          trivial
      · refine wl_lit0 rfl rfl (fun g13 E13 hb13 => ?_)
        (try refine wx_nil ?_)
        refine wq_held (by (first | exact fun _ h => h | exact fun _ h => res_takes h)) ?_
        refine wh_eff2 8 9 rfl rfl (by decide +kernel) ?_ ?_
        · refine wl_appT rfl hb5 rfl rfl (fun w' hr => src_slice rfl (u1.keep hr).rd (by simp) (by decide) (one_bys _)) (by first | omega | (dsimp only; omega)) rfl ?_
          intro Ai ci Ei hbi
          simp only [Nat.zero_add, List.nil_append] at hbi ⊢
          try refine wx_cat ?_
          (try refine wx_nil ?_)
          refine wq_held (by (first | exact fun _ h => h | exact fun _ h => res_takes h)) ?_
          refine wh_eff 9 rfl (by decide +kernel) ?_
          refine wl_lit0 rfl rfl (fun g9 E9 hb9 => ?_)
          (try refine wx_nil ?_)
          refine wq_held (by (first | exact fun _ h => h | exact fun _ h => res_takes h)) ?_
          refine wh_eff 12 rfl (by decide +kernel) ?_
          refine wl_appT rfl hb9 rfl rfl (fun w' hr => src_slice rfl (u2.keep hr).rd (by simp) (by decide) (one_bys _)) (by first | omega | (dsimp only; omega)) rfl ?_
          intro Am cm Em hbm
          simp only [Nat.zero_add, List.nil_append] at hbm ⊢
          try refine wx_cat ?_
          (try refine wx_nil ?_)
          refine wq_held (by (first | exact fun _ h => h | exact fun _ h => res_takes h)) ?_
          refine wh_eff 16 rfl (by decide +kernel) ?_
          refine wl_appT rfl hb13 rfl rfl (fun w' hr => src_slice rfl (u3.keep hr).rd (flat_len (k := 4) (fun _ => rfl) _) (by decide) (one_flat (f := FaultW.cells) (fun _ => rfl) _)) (by first | omega | (dsimp only; omega)) rfl ?_
          intro Af cf Ef hbf
          simp only [Nat.zero_add, List.nil_append] at hbf ⊢
          try refine wx_cat ?_
          (try refine wx_nil ?_)
          refine wq_held (by (first | exact fun _ h => h | exact fun _ h => res_takes h)) ?_
          refine wh_eff 17 rfl (by decide +kernel) ?_
          refine wl_callT (M1 := []) (fun w' hr ho => New_no (fl := s.fl.xs) (by omega) (by omega) (by omega) w' (hbi.vwT hr) (hbm.vwT hr) (hbf.vwT hr) (fun e => List.eq_nil_of_length_eq_zero (hbf.none0 e)) he) rfl rfl rfl ?_
          rintro - -
          refine wx_cat ?_
          (try refine wx_nil ?_)
          refine wq_held (by (first | exact fun _ h => h | exact fun _ h => res_takes h)) ?_
          (apply wh_take 18; (first | exact fun _ h => h | exact fun _ h => res_takes h); exact hQd; rfl; exact v_move rfl; decide +kernel; decide +kernel; decide +kernel; rfl)
          (apply wh_take 19; (first | exact fun _ h => h | exact fun _ h => res_takes h); exact hQd; rfl; exact v_extract rfl rfl; decide +kernel; decide +kernel; decide +kernel; rfl)
          (apply wh_take 20; (first | exact fun _ h => h | exact fun _ h => res_takes h); exact hQd; rfl; exact v_extract rfl rfl; decide +kernel; decide +kernel; decide +kernel; rfl)
          (apply wh_take 21; (first | exact fun _ h => h | exact fun _ h => res_takes h); exact hQd; rfl; exact v_assign rfl; decide +kernel; decide +kernel; decide +kernel; rfl)
          (apply wh_take 22; (first | exact fun _ h => h | exact fun _ h => res_takes h); exact hQd; rfl; exact v_assign rfl; decide +kernel; decide +kernel; decide +kernel; rfl)
          refine wh_done (by decide +kernel) ?_
          refine wq_cutK (()) ?_ (by repeat (first | exact trivial | refine ⟨rfl, ?_⟩)) (by first | exact catEq | exact rfl)
          trivial
        · refine wl_lit0 rfl rfl (fun g9 E9 hb9 => ?_)
          (try refine wx_nil ?_)
          refine wq_held (by (first | exact fun _ h => h | exact fun _ h => res_takes h)) ?_
          refine wh_eff 8 rfl (by decide +kernel) ?_
          refine wl_appT rfl hb5 rfl rfl (fun w' hr => src_slice rfl (u1.keep hr).rd (by simp) (by decide) (one_bys _)) (by first | omega | (dsimp only; omega)) rfl ?_
          intro Ai ci Ei hbi
          simp only [Nat.zero_add, List.nil_append] at hbi ⊢
          try refine wx_cat ?_
          (try refine wx_nil ?_)
          refine wq_held (by (first | exact fun _ h => h | exact fun _ h => res_takes h)) ?_
          refine wh_eff 12 rfl (by decide +kernel) ?_
          refine wl_appT rfl hb9 rfl rfl (fun w' hr => src_slice rfl (u2.keep hr).rd (by simp) (by decide) (one_bys _)) (by first | omega | (dsimp only; omega)) rfl ?_
          intro Am cm Em hbm
          simp only [Nat.zero_add, List.nil_append] at hbm ⊢
          try refine wx_cat ?_
          (try refine wx_nil ?_)
          refine wq_held (by (first | exact fun _ h => h | exact fun _ h => res_takes h)) ?_
          refine wh_eff 16 rfl (by decide +kernel) ?_
          refine wl_appT rfl hb13 rfl rfl (fun w' hr => src_slice rfl (u3.keep hr).rd (flat_len (k := 4) (fun _ => rfl) _) (by decide) (one_flat (f := FaultW.cells) (fun _ => rfl) _)) (by first | omega | (dsimp only; omega)) rfl ?_
          intro Af cf Ef hbf
          simp only [Nat.zero_add, List.nil_append] at hbf ⊢
          try refine wx_cat ?_
          (try refine wx_nil ?_)
          refine wq_held (by (first | exact fun _ h => h | exact fun _ h => res_takes h)) ?_
          refine wh_eff 17 rfl (by decide +kernel) ?_
          refine wl_callT (M1 := []) (fun w' hr ho => New_no (fl := s.fl.xs) (by omega) (by omega) (by omega) w' (hbi.vwT hr) (hbm.vwT hr) (hbf.vwT hr) (fun e => List.eq_nil_of_length_eq_zero (hbf.none0 e)) he) rfl rfl rfl ?_
          rintro - -
          refine wx_cat ?_
          (try refine wx_nil ?_)
          refine wq_held (by (first | exact fun _ h => h | exact fun _ h => res_takes h)) ?_
          (apply wh_take 18; (first | exact fun _ h => h | exact fun _ h => res_takes h); exact hQd; rfl; exact v_move rfl; decide +kernel; decide +kernel; decide +kernel; rfl)
          (apply wh_take 19; (first | exact fun _ h => h | exact fun _ h => res_takes h); exact hQd; rfl; exact v_extract rfl rfl; decide +kernel; decide +kernel; decide +kernel; rfl)
          (apply wh_take 20; (first | exact fun _ h => h | exact fun _ h => res_takes h); exact hQd; rfl; exact v_extract rfl rfl; decide +kernel; decide +kernel; decide +kernel; rfl)
          (apply wh_take 21; (first | exact fun _ h => h | exact fun _ h => res_takes h); exact hQd; rfl; exact v_assign rfl; decide +kernel; decide +kernel; decide +kernel; rfl)
          (apply wh_take 22; (first | exact fun _ h => h | exact fun _ h => res_takes h); exact hQd; rfl; exact v_assign rfl; decide +kernel; decide +kernel; decide +kernel; rfl)
          refine wh_done (by decide +kernel) ?_
          refine wq_cutK (()) ?_ (by repeat (first | exact trivial | refine ⟨rfl, ?_⟩)) (by first | exact catEq | exact rfl)
          trivial
    · refine wl_lit0 rfl rfl (fun g9 E9 hb9 => ?_)
      (try refine wx_nil ?_)
      refine wq_held (by (first | exact fun _ h => h | exact fun _ h => res_takes h)) ?_
      refine wh_eff2 5 13 rfl rfl (by decide +kernel) ?_ ?_
      · refine wl_lit0 rfl rfl (fun g5 E5 hb5 => ?_)
        (try refine wx_nil ?_)
        refine wq_held (by (first | exact fun _ h => h | exact fun _ h => res_takes h)) ?_
        refine wh_eff2 8 13 rfl rfl (by decide +kernel) ?_ ?_
        · refine wl_appT rfl hb5 rfl rfl (fun w' hr => src_slice rfl (u1.keep hr).rd (by simp) (by decide) (one_bys _)) (by first | omega | (dsimp only; omega)) rfl ?_
          intro Ai ci Ei hbi
          simp only [Nat.zero_add, List.nil_append] at hbi ⊢
          try refine wx_cat ?_
          (try refine wx_nil ?_)
          refine wq_held (by (first | exact fun _ h => h | exact fun _ h => res_takes h)) ?_
          refine wh_eff2 12 13 rfl rfl (by decide +kernel) ?_ ?_
          · refine wl_appT rfl hb9 rfl rfl (fun w' hr => src_slice rfl (u2.keep hr).rd (by simp) (by decide) (one_bys _)) (by first | omega | (dsimp only; omega)) rfl ?_
            intro Am cm Em hbm
            simp only [Nat.zero_add, List.nil_append] at hbm ⊢
            try refine wx_cat ?_
            (try refine wx_nil ?_)
            refine wq_held (by (first | exact fun _ h => h | exact fun _ h => res_takes h)) ?_
            refine wh_eff 13 rfl (by decide +kernel) ?_
            refine wl_lit0 rfl rfl (fun g13 E13 hb13 => ?_)
            (try refine wx_nil ?_)
            refine wq_held (by (first | exact fun _ h => h | exact fun _ h => res_takes h)) ?_
            refine wh_eff 16 rfl (by decide +kernel) ?_
            refine wl_appT rfl hb13 rfl rfl (fun w' hr => src_slice rfl (u3.keep hr).rd (flat_len (k := 4) (fun _ => rfl) _) (by decide) (one_flat (f := FaultW.cells) (fun _ => rfl) _)) (by first | omega | (dsimp only; omega)) rfl ?_
            intro Af cf Ef hbf
            simp only [Nat.zero_add, List.nil_append] at hbf ⊢
            try refine wx_cat ?_
            (try refine wx_nil ?_)
            refine wq_held (by (first | exact fun _ h => h | exact fun _ h => res_takes h)) ?_
            refine wh_eff 17 rfl (by decide +kernel) ?_
            refine wl_callT (M1 := []) (fun w' hr ho => New_no (fl := s.fl.xs) (by omega) (by omega) (by omega) w' (hbi.vwT hr) (hbm.vwT hr) (hbf.vwT hr) (fun e => List.eq_nil_of_length_eq_zero (hbf.none0 e)) he) rfl rfl rfl ?_
            rintro - -
            refine wx_cat ?_
            (try refine wx_nil ?_)
            refine wq_held (by (first | exact fun _ h => h | exact fun _ h => res_takes h)) ?_
            (apply wh_take 18; (first | exact fun _ h => h | exact fun _ h => res_takes h); exact hQd; rfl; exact v_move rfl; decide +kernel; decide +kernel; decide +kernel; rfl)
            (apply wh_take 19; (first | exact fun _ h => h | exact fun _ h => res_takes h); exact hQd; rfl; exact v_extract rfl rfl; decide +kernel; decide +kernel; decide +kernel; rfl)
            (apply wh_take 20; (first | exact fun _ h => h | exact fun _ h => res_takes h); exact hQd; rfl; exact v_extract rfl rfl; decide +kernel; decide +kernel; decide +kernel; rfl)
            (apply wh_take 21; (first | exact fun _ h => h | exact fun _ h => res_takes h); exact hQd; rfl; exact v_assign rfl; decide +kernel; decide +kernel; decide +kernel; rfl)
            (apply wh_take 22; (first | exact fun _ h => h | exact fun _ h => res_takes h); exact hQd; rfl; exact v_assign rfl; decide +kernel; decide +kernel; decide +kernel; rfl)
            refine wh_done (by decide +kernel) ?_
            refine wq_cutK (()) ?_ (by repeat (first | exact trivial | refine ⟨rfl, ?_⟩)) (by first | exact catEq | exact rfl)
            trivial
          · refine wl_lit0 rfl rfl (fun g13 E13 hb13 => ?_)
            (try refine wx_nil ?_)
            refine wq_held (by (first | exact fun _ h => h | exact fun _ h => res_takes h)) ?_
            refine wh_eff 12 rfl (by decide +kernel) ?_
            refine wl_appT rfl hb9 rfl rfl (fun w' hr => src_slice rfl (u2.keep hr).rd (by simp) (by decide) (one_bys _)) (by first | omega | (dsimp only; omega)) rfl ?_
            intro Am cm Em hbm
            simp only [Nat.zero_add, List.nil_append] at hbm ⊢
            try refine wx_cat ?_
            (try refine wx_nil ?_)
            refine wq_held (by (first | exact fun _ h => h | exact fun _ h => res_takes h)) ?_
            refine wh_eff 16 rfl (by decide +kernel) ?_
            refine wl_appT rfl hb13 rfl rfl (fun w' hr => src_slice rfl (u3.keep hr).rd (flat_len (k := 4) (fun _ => rfl) _) (by decide) (one_flat (f := FaultW.cells) (fun _ => rfl) _)) (by first | omega | (dsimp only; omega)) rfl ?_
            intro Af cf Ef hbf
            simp only [Nat.zero_add, List.nil_append] at hbf ⊢
            try refine wx_cat ?_
            (try refine wx_nil ?_)
            refine wq_held (by (first | exact fun _ h => h | exact fun _ h => res_takes h)) ?_
            refine wh_eff 17 rfl (by decide +kernel) ?_
            refine wl_callT (M1 := []) (fun w' hr ho => New_no (fl := s.fl.xs) (by omega) (by omega) (by omega) w' (hbi.vwT hr) (hbm.vwT hr) (hbf.vwT hr) (fun e => List.eq_nil_of_length_eq_zero (hbf.none0 e)) he) rfl rfl rfl ?_
            rintro - -
            refine wx_cat ?_
            (try refine wx_nil ?_)
            refine wq_held (by (first | exact fun _ h => h | exact fun _ h => res_takes h)) ?_
            (apply wh_take 18; (first | exact fun _ h => h | exact fun _ h => res_takes h); exact hQd; rfl; exact v_move rfl; decide +kernel; decide +kernel; decide +kernel; rfl)
            (apply wh_take 19; (first | exact fun _ h => h | exact fun _ h => res_takes h); exact hQd; rfl; exact v_extract rfl rfl; decide +kernel; decide +kernel; decide +kernel; rfl)
            (apply wh_take 20; (first | exact fun _ h => h | exact fun _ h => res_takes h); exact hQd; rfl; exact v_extract rfl rfl; decide +kernel; decide +kernel; decide +kernel; rfl)
            (apply wh_take 21; (first | exact fun _ h => h | exact fun _ h => res_takes h); exact hQd; rfl; exact v_assign rfl; decide +kernel; decide +kernel; decide +kernel; rfl)
            (apply wh_take 22; (first | exact fun _ h => h | exact fun _ h => res_takes h); exact hQd; rfl; exact v_assign rfl; decide +kernel; decide +kernel; decide +kernel; rfl)
            refine wh_done (by decide +kernel) ?_
            refine wq_cutK (()) ?_ (by repeat (first | exact trivial | refine ⟨rfl, ?_⟩)) (by first | exact catEq | exact rfl)
            trivial
        · refine wl_lit0 rfl rfl (fun g13 E13 hb13 => ?_)
          (try refine wx_nil ?_)
          refine wq_held (by (first | exact fun _ h => h | exact fun _ h => res_takes h)) ?_
          refine wh_eff 8 rfl (by decide +kernel) ?_
          refine wl_appT rfl hb5 rfl rfl (fun w' hr => src_slice rfl (u1.keep hr).rd (by simp) (by decide) (one_bys _)) (by first | omega | (dsimp only; omega)) rfl ?_
          intro Ai ci Ei hbi
          simp only [Nat.zero_add, List.nil_append] at hbi ⊢
          try refine wx_cat ?_
          (try refine wx_nil ?_)
          refine wq_held (by (first | exact fun _ h => h | exact fun _ h => res_takes h)) ?_
          refine wh_eff 12 rfl (by decide +kernel) ?_
          refine wl_appT rfl hb9 rfl rfl (fun w' hr => src_slice rfl (u2.keep hr).rd (by simp) (by decide) (one_bys _)) (by first | omega | (dsimp only; omega)) rfl ?_
          intro Am cm Em hbm
          simp only [Nat.zero_add, List.nil_append] at hbm ⊢
          try refine wx_cat ?_
          (try refine wx_nil ?_)
          refine wq_held (by (first | exact fun _ h => h | exact fun _ h => res_takes h)) ?_
          refine wh_eff 16 rfl (by decide +kernel) ?_
          refine wl_appT rfl hb13 rfl rfl (fun w' hr => src_slice rfl (u3.keep hr).rd (flat_len (k := 4) (fun _ => rfl) _) (by decide) (one_flat (f := FaultW.cells) (fun _ => rfl) _)) (by first | omega | (dsimp only; omega)) rfl ?_
          intro Af cf Ef hbf
          simp only [Nat.zero_add, List.nil_append] at hbf ⊢
          try refine wx_cat ?_
          (try refine wx_nil ?_)
          refine wq_held (by (first | exact fun _ h => h | exact fun _ h => res_takes h)) ?_
          refine wh_eff 17 rfl (by decide +kernel) ?_
          refine wl_callT (M1 := []) (fun w' hr ho => New_no (fl := s.fl.xs) (by omega) (by omega) (by omega) w' (hbi.vwT hr) (hbm.vwT hr) (hbf.vwT hr) (fun e => List.eq_nil_of_length_eq_zero (hbf.none0 e)) he) rfl rfl rfl ?_
          rintro - -
          refine wx_cat ?_
          (try refine wx_nil ?_)
          refine wq_held (by (first | exact fun _ h => h | exact fun _ h => res_takes h)) ?_
          (apply wh_take 18; (first | exact fun _ h => h | exact fun _ h => res_takes h); exact hQd; rfl; exact v_move rfl; decide +kernel; decide +kernel; decide +kernel; rfl)
          (apply wh_take 19; (first | exact fun _ h => h | exact fun _ h => res_takes h); exact hQd; rfl; exact v_extract rfl rfl; decide +kernel; decide +kernel; decide +kernel; rfl)
          (apply wh_take 20; (first | exact fun _ h => h | exact fun _ h => res_takes h); exact hQd; rfl; exact v_extract rfl rfl; decide +kernel; decide +kernel; decide +kernel; rfl)
          (apply wh_take 21; (first | exact fun _ h => h | exact fun _ h => res_takes h); exact hQd; rfl; exact v_assign rfl; decide +kernel; decide +kernel; decide +kernel; rfl)
          (apply wh_take 22; (first | exact fun _ h => h | exact fun _ h => res_takes h); exact hQd; rfl; exact v_assign rfl; decide +kernel; decide +kernel; decide +kernel; rfl)
          refine wh_done (by decide +kernel) ?_
          refine wq_cutK (()) ?_ (by repeat (first | exact trivial | refine ⟨rfl, ?_⟩)) (by first | exact catEq | exact rfl)
          trivial
      · refine wl_lit0 rfl rfl (fun g13 E13 hb13 => ?_)
        (try refine wx_nil ?_)
        refine wq_held (by (first | exact fun _ h => h | exact fun _ h => res_takes h)) ?_
        refine wh_eff 5 rfl (by decide +kernel) ?_
        refine wl_lit0 rfl rfl (fun g5 E5 hb5 => ?_)
        (try refine wx_nil ?_)
        refine wq_held (by (first | exact fun _ h => h | exact fun _ h => res_takes h)) ?_
        refine wh_eff 8 rfl (by decide +kernel) ?_
        refine wl_appT rfl hb5 rfl rfl (fun w' hr => src_slice rfl (u1.keep hr).rd (by simp) (by decide) (one_bys _)) (by first | omega | (dsimp only; omega)) rfl ?_
        intro Ai ci Ei hbi
        simp only [Nat.zero_add, List.nil_append] at hbi ⊢
        try refine wx_cat ?_
        (try refine wx_nil ?_)
        refine wq_held (by (first | exact fun _ h => h | exact fun _ h => res_takes h)) ?_
        refine wh_eff 12 rfl (by decide +kernel) ?_
        refine wl_appT rfl hb9 rfl rfl (fun w' hr => src_slice rfl (u2.keep hr).rd (by simp) (by decide) (one_bys _)) (by first | omega | (dsimp only; omega)) rfl ?_
        intro Am cm Em hbm
        simp only [Nat.zero_add, List.nil_append] at hbm ⊢
        try refine wx_cat ?_
        (try refine wx_nil ?_)
        refine wq_held (by (first | exact fun _ h => h | exact fun _ h => res_takes h)) ?_
        refine wh_eff 16 rfl (by decide +kernel) ?_
        refine wl_appT rfl hb13 rfl rfl (fun w' hr => src_slice rfl (u3.keep hr).rd (flat_len (k := 4) (fun _ => rfl) _) (by decide) (one_flat (f := FaultW.cells) (fun _ => rfl) _)) (by first | omega | (dsimp only; omega)) rfl ?_
        intro Af cf Ef hbf
        simp only [Nat.zero_add, List.nil_append] at hbf ⊢
        try refine wx_cat ?_
        (try refine wx_nil ?_)
        refine wq_held (by (first | exact fun _ h => h | exact fun _ h => res_takes h)) ?_
        refine wh_eff 17 rfl (by decide +kernel) ?_
        refine wl_callT (M1 := []) (fun w' hr ho => New_no (fl := s.fl.xs) (by omega) (by omega) (by omega) w' (hbi.vwT hr) (hbm.vwT hr) (hbf.vwT hr) (fun e => List.eq_nil_of_length_eq_zero (hbf.none0 e)) he) rfl rfl rfl ?_
        rintro - -
        refine wx_cat ?_
        (try refine wx_nil ?_)
        refine wq_held (by (first | exact fun _ h => h | exact fun _ h => res_takes h)) ?_
        (apply wh_take 18; (first | exact fun _ h => h | exact fun _ h => res_takes h); exact hQd; rfl; exact v_move rfl; decide +kernel; decide +kernel; decide +kernel; rfl)
        (apply wh_take 19; (first | exact fun _ h => h | exact fun _ h => res_takes h); exact hQd; rfl; exact v_extract rfl rfl; decide +kernel; decide +kernel; decide +kernel; rfl)
        (apply wh_take 20; (first | exact fun _ h => h | exact fun _ h => res_takes h); exact hQd; rfl; exact v_extract rfl rfl; decide +kernel; decide +kernel; decide +kernel; rfl)
        (apply wh_take 21; (first | exact fun _ h => h | exact fun _ h => res_takes h); exact hQd; rfl; exact v_assign rfl; decide +kernel; decide +kernel; decide +kernel; rfl)
        (apply wh_take 22; (first | exact fun _ h => h | exact fun _ h => res_takes h); exact hQd; rfl; exact v_assign rfl; decide +kernel; decide +kernel; decide +kernel; rfl)
        refine wh_done (by decide +kernel) ?_
        refine wq_cutK (()) ?_ (by repeat (first | exact trivial | refine ⟨rfl, ?_⟩)) (by first | exact catEq | exact rfl)
        trivial
    · refine wl_lit0 rfl rfl (fun g13 E13 hb13 => ?_)
      (try refine wx_nil ?_)
      refine wq_held (by (first | exact fun _ h => h | exact fun _ h => res_takes h)) ?_
      refine wh_eff2 5 9 rfl rfl (by decide +kernel) ?_ ?_
      · refine wl_lit0 rfl rfl (fun g5 E5 hb5 => ?_)
        (try refine wx_nil ?_)
        refine wq_held (by (first | exact fun _ h => h | exact fun _ h => res_takes h)) ?_
        refine wh_eff2 8 9 rfl rfl (by decide +kernel) ?_ ?_
        · refine wl_appT rfl hb5 rfl rfl (fun w' hr => src_slice rfl (u1.keep hr).rd (by simp) (by decide) (one_bys _)) (by first | omega | (dsimp only; omega)) rfl ?_
          intro Ai ci Ei hbi
          simp only [Nat.zero_add, List.nil_append] at hbi ⊢
          try refine wx_cat ?_
          (try refine wx_nil ?_)
          refine wq_held (by (first | exact fun _ h => h | exact fun _ h => res_takes h)) ?_
          refine wh_eff 9 rfl (by decide +kernel) ?_
          refine wl_lit0 rfl rfl (fun g9 E9 hb9 => ?_)
          (try refine wx_nil ?_)
          refine wq_held (by (first | exact fun _ h => h | exact fun _ h => res_takes h)) ?_
          refine wh_eff 12 rfl (by decide +kernel) ?_
          refine wl_appT rfl hb9 rfl rfl (fun w' hr => src_slice rfl (u2.keep hr).rd (by simp) (by decide) (one_bys _)) (by first | omega | (dsimp only; omega)) rfl ?_
          intro Am cm Em hbm
          simp only [Nat.zero_add, List.nil_append] at hbm ⊢
          try refine wx_cat ?_
          (try refine wx_nil ?_)
          refine wq_held (by (first | exact fun _ h => h | exact fun _ h => res_takes h)) ?_
          refine wh_eff 16 rfl (by decide +kernel) ?_
          refine wl_appT rfl hb13 rfl rfl (fun w' hr => src_slice rfl (u3.keep hr).rd (flat_len (k := 4) (fun _ => rfl) _) (by decide) (one_flat (f := FaultW.cells) (fun _ => rfl) _)) (by first | omega | (dsimp only; omega)) rfl ?_
          intro Af cf Ef hbf
          simp only [Nat.zero_add, List.nil_append] at hbf ⊢
          try refine wx_cat ?_
          (try refine wx_nil ?_)
          refine wq_held (by (first | exact fun _ h => h | exact fun _ h => res_takes h)) ?_
          refine wh_eff 17 rfl (by decide +kernel) ?_
          refine wl_callT (M1 := []) (fun w' hr ho => New_no (fl := s.fl.xs) (by omega) (by omega) (by omega) w' (hbi.vwT hr) (hbm.vwT hr) (hbf.vwT hr) (fun e => List.eq_nil_of_length_eq_zero (hbf.none0 e)) he) rfl rfl rfl ?_
          rintro - -
          refine wx_cat ?_
          (try refine wx_nil ?_)
          refine wq_held (by (first | exact fun _ h => h | exact fun _ h => res_takes h)) ?_
          (apply wh_take 18; (first | exact fun _ h => h | exact fun _ h => res_takes h); exact hQd; rfl; exact v_move rfl; decide +kernel; decide +kernel; decide +kernel; rfl)
          (apply wh_take 19; (first | exact fun _ h => h | exact fun _ h => res_takes h); exact hQd; rfl; exact v_extract rfl rfl; decide +kernel; decide +kernel; decide +kernel; rfl)
          (apply wh_take 20; (first | exact fun _ h => h | exact fun _ h => res_takes h); exact hQd; rfl; exact v_extract rfl rfl; decide +kernel; decide +kernel; decide +kernel; rfl)
          (apply wh_take 21; (first | exact fun _ h => h | exact fun _ h => res_takes h); exact hQd; rfl; exact v_assign rfl; decide +kernel; decide +kernel; decide +kernel; rfl)
          (apply wh_take 22; (first | exact fun _ h => h | exact fun _ h => res_takes h); exact hQd; rfl; exact v_assign rfl; decide +kernel; decide +kernel; decide +kernel; rfl)
          refine wh_done (by decide +kernel) ?_
          refine wq_cutK (()) ?_ (by repeat (first | exact trivial | refine ⟨rfl, ?_⟩)) (by first | exact catEq | exact rfl)
          trivial
        · refine wl_lit0 rfl rfl (fun g9 E9 hb9 => ?_)
          (try refine wx_nil ?_)
          refine wq_held (by (first | exact fun _ h => h | exact fun _ h => res_takes h)) ?_
          refine wh_eff 8 rfl (by decide +kernel) ?_
          refine wl_appT rfl hb5 rfl rfl (fun w' hr => src_slice rfl (u1.keep hr).rd (by simp) (by decide) (one_bys _)) (by first | omega | (dsimp only; omega)) rfl ?_
          intro Ai ci Ei hbi
          simp only [Nat.zero_add, List.nil_append] at hbi ⊢
          try refine wx_cat ?_
          (try refine wx_nil ?_)
          refine wq_held (by (first | exact fun _ h => h | exact fun _ h => res_takes h)) ?_
          refine wh_eff 12 rfl (by decide +kernel) ?_
          refine wl_appT rfl hb9 rfl rfl (fun w' hr => src_slice rfl (u2.keep hr).rd (by simp) (by decide) (one_bys _)) (by first | omega | (dsimp only; omega)) rfl ?_
          intro Am cm Em hbm
          simp only [Nat.zero_add, List.nil_append] at hbm ⊢
          try refine wx_cat ?_
          (try refine wx_nil ?_)
          refine wq_held (by (first | exact fun _ h => h | exact fun _ h => res_takes h)) ?_
          refine wh_eff 16 rfl (by decide +kernel) ?_
          refine wl_appT rfl hb13 rfl rfl (fun w' hr => src_slice rfl (u3.keep hr).rd (flat_len (k := 4) (fun _ => rfl) _) (by decide) (one_flat (f := FaultW.cells) (fun _ => rfl) _)) (by first | omega | (dsimp only; omega)) rfl ?_
          intro Af cf Ef hbf
          simp only [Nat.zero_add, List.nil_append] at hbf ⊢
          try refine wx_cat ?_
          (try refine wx_nil ?_)
          refine wq_held (by (first | exact fun _ h => h | exact fun _ h => res_takes h)) ?_
          refine wh_eff 17 rfl (by decide +kernel) ?_
          refine wl_callT (M1 := []) (fun w' hr ho => New_no (fl := s.fl.xs) (by omega) (by omega) (by omega) w' (hbi.vwT hr) (hbm.vwT hr) (hbf.vwT hr) (fun e => List.eq_nil_of_length_eq_zero (hbf.none0 e)) he) rfl rfl rfl ?_
          rintro - -
          refine wx_cat ?_
          (try refine wx_nil ?_)
          refine wq_held (by (first | exact fun _ h => h | exact fun _ h => res_takes h)) ?_
          (apply wh_take 18; (first | exact fun _ h => h | exact fun _ h => res_takes h); exact hQd; rfl; exact v_move rfl; decide +kernel; decide +kernel; decide +kernel; rfl)
          (apply wh_take 19; (first | exact fun _ h => h | exact fun _ h => res_takes h); exact hQd; rfl; exact v_extract rfl rfl; decide +kernel; decide +kernel; decide +kernel; rfl)
          (apply wh_take 20; (first | exact fun _ h => h | exact fun _ h => res_takes h); exact hQd; rfl; exact v_extract rfl rfl; decide +kernel; decide +kernel; decide +kernel; rfl)
          (apply wh_take 21; (first | exact fun _ h => h | exact fun _ h => res_takes h); exact hQd; rfl; exact v_assign rfl; decide +kernel; decide +kernel; decide +kernel; rfl)
          (apply wh_take 22; (first | exact fun _ h => h | exact fun _ h => res_takes h); exact hQd; rfl; exact v_assign rfl; decide +kernel; decide +kernel; decide +kernel; rfl)
          refine wh_done (by decide +kernel) ?_
          refine wq_cutK (()) ?_ (by repeat (first | exact trivial | refine ⟨rfl, ?_⟩)) (by first | exact catEq | exact rfl)
          trivial
      · refine wl_lit0 rfl rfl (fun g9 E9 hb9 => ?_)
        (try refine wx_nil ?_)
        refine wq_held (by (first | exact fun _ h => h | exact fun _ h => res_takes h)) ?_
        refine wh_eff 5 rfl (by decide +kernel) ?_
        refine wl_lit0 rfl rfl (fun g5 E5 hb5 => ?_)
        (try refine wx_nil ?_)
        refine wq_held (by (first | exact fun _ h => h | exact fun _ h => res_takes h)) ?_
        refine wh_eff 8 rfl (by decide +kernel) ?_
        refine wl_appT rfl hb5 rfl rfl (fun w' hr => src_slice rfl (u1.keep hr).rd (by simp) (by decide) (one_bys _)) (by first | omega | (dsimp only; omega)) rfl ?_
        intro Ai ci Ei hbi
        simp only [Nat.zero_add, List.nil_append] at hbi ⊢
        try refine wx_cat ?_
        (try refine wx_nil ?_)
        refine wq_held (by (first | exact fun _ h => h | exact fun _ h => res_takes h)) ?_
        refine wh_eff 12 rfl (by decide +kernel) ?_
        refine wl_appT rfl hb9 rfl rfl (fun w' hr => src_slice rfl (u2.keep hr).rd (by simp) (by decide) (one_bys _)) (by first | omega | (dsimp only; omega)) rfl ?_
        intro Am cm Em hbm
        simp only [Nat.zero_add, List.nil_append] at hbm ⊢
        try refine wx_cat ?_
        (try refine wx_nil ?_)
        refine wq_held (by (first | exact fun _ h => h | exact fun _ h => res_takes h)) ?_
        refine wh_eff 16 rfl (by decide +kernel) ?_
        refine wl_appT rfl hb13 rfl rfl (fun w' hr => src_slice rfl (u3.keep hr).rd (flat_len (k := 4) (fun _ => rfl) _) (by decide) (one_flat (f := FaultW.cells) (fun _ => rfl) _)) (by first | omega | (dsimp only; omega)) rfl ?_
        intro Af cf Ef hbf
        simp only [Nat.zero_add, List.nil_append] at hbf ⊢
        try refine wx_cat ?_
        (try refine wx_nil ?_)
        refine wq_held (by (first | exact fun _ h => h | exact fun _ h => res_takes h)) ?_
        refine wh_eff 17 rfl (by decide +kernel) ?_
        refine wl_callT (M1 := []) (fun w' hr ho => New_no (fl := s.fl.xs) (by omega) (by omega) (by omega) w' (hbi.vwT hr) (hbm.vwT hr) (hbf.vwT hr) (fun e => List.eq_nil_of_length_eq_zero (hbf.none0 e)) he) rfl rfl rfl ?_
        rintro - -
        refine wx_cat ?_
        (try refine wx_nil ?_)
        refine wq_held (by (first | exact fun _ h => h | exact fun _ h => res_takes h)) ?_
        (apply wh_take 18; (first | exact fun _ h => h | exact fun _ h => res_takes h); exact hQd; rfl; exact v_move rfl; decide +kernel; decide +kernel; decide +kernel; rfl)
        (apply wh_take 19; (first | exact fun _ h => h | exact fun _ h => res_takes h); exact hQd; rfl; exact v_extract rfl rfl; decide +kernel; decide +kernel; decide +kernel; rfl)
        (apply wh_take 20; (first | exact fun _ h => h | exact fun _ h => res_takes h); exact hQd; rfl; exact v_extract rfl rfl; decide +kernel; decide +kernel; decide +kernel; rfl)
        (apply wh_take 21; (first | exact fun _ h => h | exact fun _ h => res_takes h); exact hQd; rfl; exact v_assign rfl; decide +kernel; decide +kernel; decide +kernel; rfl)
        (apply wh_take 22; (first | exact fun _ h => h | exact fun _ h => res_takes h); exact hQd; rfl; exact v_assign rfl; decide +kernel; decide +kernel; decide +kernel; rfl)
        refine wh_done (by decide +kernel) ?_
        refine wq_cutK (()) ?_ (by repeat (first | exact trivial | refine ⟨rfl, ?_⟩)) (by first | exact catEq | exact rfl)
        trivial
  rintro - -
  try dsimp only
  refine wc_fcat ?_
  refine wc_cat ?_
  repeat (first | (apply wx_val; (first | exact v_move rfl | exact v_assign rfl | exact v_faddr rfl rfl | exact v_ldT rfl rfl rfl (by rfl) | exact v_ldAT rfl (by rfl) | exact v_extract rfl rfl | exact v_len rfl rfl | exact v_slen rfl rfl | exact v_eq rfl rfl | exact v_ne rfl rfl | exact v_eqnil rfl rfl rfl | exact v_nenil rfl rfl rfl | exact v_eqnn rfl rfl rfl | exact v_nenn rfl rfl rfl | exact v_streq rfl rfl | exact v_strne rfl rfl | exact v_pickT rfl rfl | exact v_pickF rfl rfl | exact v_and rfl rfl | exact v_or rfl rfl | exact v_xor rfl rfl | exact v_shr rfl rfl (by omega) | exact v_shl rfl rfl (by omega) | exact v_pick rfl rfl rfl | (first | exact v_ldQ 0 0 rfl rfl rfl rfl rfl | exact v_ldQ 1 0 rfl rfl rfl rfl rfl | exact v_ldQ 2 0 rfl rfl rfl rfl rfl | exact v_ldQ 3 0 rfl rfl rfl rfl rfl) | exact v_eqA rfl rfl (by kernel_rfl) | exact v_neA rfl rfl (by kernel_rfl) | exact v_beq rfl rfl rfl | exact v_bne rfl rfl rfl | exact v_eqsnil rfl rfl rfl | exact v_nesnil rfl rfl rfl); rfl) | refine wx_no rfl rfl rfl ?_ | refine wx_undef rfl rfl rfl ?_ | refine wx_ungd rfl rfl ?_ | refine wc_seq ?_ | refine wc_region ?_ | refine wx_nil ?_ | refine wq_next ?_ | refine wc_block ?_ | refine wc_ret ?_ | refine wc_skip ?_ | refine wc_exit ?_ | refine wc_label ?_ | refine wq_then_ret ?_ | refine wq_then_exit ?_ | refine wq_block ?_ | refine wq_block_ret ?_ | refine wq_block_exit rfl ?_ | refine wq_block_pass rfl ?_ | refine wc_reads rfl (by decide +kernel) ?_ | refine wc_condT rfl ?_ | refine wc_condF rfl ?_ | refine wx_setn ?_ | refine wc_setn ?_ | refine wq_setn ?_ | refine wx_cat ?_ | refine wc_cat ?_ | refine wq_cat ?_)
  refine wc_meetK (ι := Unit) [1, 2, 5] (fun _ => [(6, .int .i64 (newErr s.blk s.sc s.inp.xs.length s.img.xs.length s.fl.xs))]) (fun _ => []) (M1 := []) (fun _ => True) rfl ?_ ?_
  ·
    refine wc_cat ?_
    refine wc_heldQ [setB g1 s] rfl (by (repeat (first | with_reducible exact panicOk_body | with_reducible apply panicOk_block | with_reducible apply panicOk_then))) (fun hQd => ?_)
    (apply wh_take 0; (first | exact fun _ h => h | exact fun _ h => res_takes h); exact hQd; rfl; exact v_faddr rfl rfl; decide +kernel; decide +kernel; decide +kernel; rfl)
    (apply wh_take 1; (first | exact fun _ h => h | exact fun _ h => res_takes h); exact hQd; rfl; (first | exact v_ldT rfl rfl rfl (by rfl) | exact v_ldAT rfl (by rfl) | (first | exact v_ldQ 0 0 rfl rfl rfl rfl rfl | exact v_ldQ 1 0 rfl rfl rfl rfl rfl | exact v_ldQ 2 0 rfl rfl rfl rfl rfl | exact v_ldQ 3 0 rfl rfl rfl rfl rfl)); decide +kernel; decide +kernel; decide +kernel; rfl)
    (apply wh_take 2; (first | exact fun _ h => h | exact fun _ h => res_takes h); exact hQd; rfl; exact v_faddr rfl rfl; decide +kernel; decide +kernel; decide +kernel; rfl)
    (apply wh_take 3; (first | exact fun _ h => h | exact fun _ h => res_takes h); exact hQd; rfl; (first | exact v_ldT rfl rfl rfl (by rfl) | exact v_ldAT rfl (by rfl) | (first | exact v_ldQ 0 0 rfl rfl rfl rfl rfl | exact v_ldQ 1 0 rfl rfl rfl rfl rfl | exact v_ldQ 2 0 rfl rfl rfl rfl rfl | exact v_ldQ 3 0 rfl rfl rfl rfl rfl)); decide +kernel; decide +kernel; decide +kernel; rfl)
    (apply wh_take 4; (first | exact fun _ h => h | exact fun _ h => res_takes h); exact hQd; rfl; exact v_faddr rfl rfl; decide +kernel; decide +kernel; decide +kernel; rfl)
    (apply wh_take 5; (first | exact fun _ h => h | exact fun _ h => res_takes h); exact hQd; rfl; (first | exact v_ldT rfl rfl rfl (by rfl) | exact v_ldAT rfl (by rfl) | (first | exact v_ldQ 0 0 rfl rfl rfl rfl rfl | exact v_ldQ 1 0 rfl rfl rfl rfl rfl | exact v_ldQ 2 0 rfl rfl rfl rfl rfl | exact v_ldQ 3 0 rfl rfl rfl rfl rfl)); decide +kernel; decide +kernel; decide +kernel; rfl)
    (apply wh_take 6; (first | exact fun _ h => h | exact fun _ h => res_takes h); exact hQd; rfl; (first | exact v_len rfl rfl | exact v_slen rfl rfl); decide +kernel; decide +kernel; decide +kernel; rfl)
    (apply wh_take 7; (first | exact fun _ h => h | exact fun _ h => res_takes h); exact hQd; rfl; exact v_faddr rfl rfl; decide +kernel; decide +kernel; decide +kernel; rfl)
    (apply wh_take 8; (first | exact fun _ h => h | exact fun _ h => res_takes h); exact hQd; rfl; (first | exact v_ldT rfl rfl rfl (by rfl) | exact v_ldAT rfl (by rfl) | (first | exact v_ldQ 0 0 rfl rfl rfl rfl rfl | exact v_ldQ 1 0 rfl rfl rfl rfl rfl | exact v_ldQ 2 0 rfl rfl rfl rfl rfl | exact v_ldQ 3 0 rfl rfl rfl rfl rfl)); decide +kernel; decide +kernel; decide +kernel; rfl)
    (apply wh_take 9; (first | exact fun _ h => h | exact fun _ h => res_takes h); exact hQd; rfl; (first | exact v_len rfl rfl | exact v_slen rfl rfl); decide +kernel; decide +kernel; decide +kernel; rfl)
    (apply wh_take 10; (first | exact fun _ h => h | exact fun _ h => res_takes h); exact hQd; rfl; exact v_faddr rfl rfl; decide +kernel; decide +kernel; decide +kernel; rfl)
    (apply wh_take 11; (first | exact fun _ h => h | exact fun _ h => res_takes h); exact hQd; rfl; (first | exact v_ldT rfl rfl rfl (by rfl) | exact v_ldAT rfl (by rfl) | (first | exact v_ldQ 0 0 rfl rfl rfl rfl rfl | exact v_ldQ 1 0 rfl rfl rfl rfl rfl | exact v_ldQ 2 0 rfl rfl rfl rfl rfl | exact v_ldQ 3 0 rfl rfl rfl rfl rfl)); decide +kernel; decide +kernel; decide +kernel; rfl)
    refine wh_eff 12 rfl (by decide +kernel) ?_
    refine wl_callT (M1 := []) (fun w' hr ho => faults_spec (fl := s.fl.xs) (by omega) w' (u3.keep hr)) rfl rfl rfl ?_
    rintro ⟨Af, cf, Ef⟩ hbf
    dsimp only at hbf ⊢
    refine wx_cat ?_
    (try refine wx_nil ?_)
    refine wq_held (by (first | exact fun _ h => h | exact fun _ h => res_takes h)) ?_
    refine wh_eff 13 rfl (by decide +kernel) ?_
    refine wl_callT (M1 := []) (fun w' hr ho => Check_spec s.blk s.sc (fl := s.fl.xs) (by omega) (by omega) (by omega) w' (hbf.vwT hr)) rfl rfl rfl ?_
    rintro - -
    refine wx_cat ?_
    (try refine wx_nil ?_)
    refine wq_held (by (first | exact fun _ h => h | exact fun _ h => res_takes h)) ?_
    (apply wh_take 14; (first | exact fun _ h => h | exact fun _ h => res_takes h); exact hQd; rfl; exact v_assign rfl; decide +kernel; decide +kernel; decide +kernel; rfl)
    refine wh_done (by decide +kernel) ?_
    refine wq_cutK (()) ?_ (by repeat (first | exact trivial | refine ⟨rfl, ?_⟩)) (by first | exact catEq | exact rfl)
    trivial
  rintro - -
  try dsimp only
  refine wc_fcat ?_
  refine wc_cat ?_
  repeat (first | (apply wx_val; (first | exact v_move rfl | exact v_assign rfl | exact v_faddr rfl rfl | exact v_ldT rfl rfl rfl (by rfl) | exact v_ldAT rfl (by rfl) | exact v_extract rfl rfl | exact v_len rfl rfl | exact v_slen rfl rfl | exact v_eq rfl rfl | exact v_ne rfl rfl | exact v_eqnil rfl rfl rfl | exact v_nenil rfl rfl rfl | exact v_eqnn rfl rfl rfl | exact v_nenn rfl rfl rfl | exact v_streq rfl rfl | exact v_strne rfl rfl | exact v_pickT rfl rfl | exact v_pickF rfl rfl | exact v_and rfl rfl | exact v_or rfl rfl | exact v_xor rfl rfl | exact v_shr rfl rfl (by omega) | exact v_shl rfl rfl (by omega) | exact v_pick rfl rfl rfl | (first | exact v_ldQ 0 0 rfl rfl rfl rfl rfl | exact v_ldQ 1 0 rfl rfl rfl rfl rfl | exact v_ldQ 2 0 rfl rfl rfl rfl rfl | exact v_ldQ 3 0 rfl rfl rfl rfl rfl) | exact v_eqA rfl rfl (by kernel_rfl) | exact v_neA rfl rfl (by kernel_rfl) | exact v_beq rfl rfl rfl | exact v_bne rfl rfl rfl | exact v_eqsnil rfl rfl rfl | exact v_nesnil rfl rfl rfl); rfl) | refine wx_no rfl rfl rfl ?_ | refine wx_undef rfl rfl rfl ?_ | refine wx_ungd rfl rfl ?_ | refine wc_seq ?_ | refine wc_region ?_ | refine wx_nil ?_ | refine wq_next ?_ | refine wc_block ?_ | refine wc_ret ?_ | refine wc_skip ?_ | refine wc_exit ?_ | refine wc_label ?_ | refine wq_then_ret ?_ | refine wq_then_exit ?_ | refine wq_block ?_ | refine wq_block_ret ?_ | refine wq_block_exit rfl ?_ | refine wq_block_pass rfl ?_ | refine wc_reads rfl (by decide +kernel) ?_ | refine wc_condT rfl ?_ | refine wc_condF rfl ?_ | refine wx_setn ?_ | refine wc_setn ?_ | refine wq_setn ?_ | refine wx_cat ?_ | refine wc_cat ?_ | refine wq_cat ?_)
  refine wx_gset false rfl rfl (by simp) ?_
  repeat (first | (apply wx_val; (first | exact v_move rfl | exact v_assign rfl | exact v_faddr rfl rfl | exact v_ldT rfl rfl rfl (by rfl) | exact v_ldAT rfl (by rfl) | exact v_extract rfl rfl | exact v_len rfl rfl | exact v_slen rfl rfl | exact v_eq rfl rfl | exact v_ne rfl rfl | exact v_eqnil rfl rfl rfl | exact v_nenil rfl rfl rfl | exact v_eqnn rfl rfl rfl | exact v_nenn rfl rfl rfl | exact v_streq rfl rfl | exact v_strne rfl rfl | exact v_pickT rfl rfl | exact v_pickF rfl rfl | exact v_and rfl rfl | exact v_or rfl rfl | exact v_xor rfl rfl | exact v_shr rfl rfl (by omega) | exact v_shl rfl rfl (by omega) | exact v_pick rfl rfl rfl | (first | exact v_ldQ 0 0 rfl rfl rfl rfl rfl | exact v_ldQ 1 0 rfl rfl rfl rfl rfl | exact v_ldQ 2 0 rfl rfl rfl rfl rfl | exact v_ldQ 3 0 rfl rfl rfl rfl rfl) | exact v_eqA rfl rfl (by kernel_rfl) | exact v_neA rfl rfl (by kernel_rfl) | exact v_beq rfl rfl rfl | exact v_bne rfl rfl rfl | exact v_eqsnil rfl rfl rfl | exact v_nesnil rfl rfl rfl); rfl) | refine wx_no rfl rfl rfl ?_ | refine wx_undef rfl rfl rfl ?_ | refine wx_ungd rfl rfl ?_ | refine wc_seq ?_ | refine wc_region ?_ | refine wx_nil ?_ | refine wq_next ?_ | refine wc_block ?_ | refine wc_ret ?_ | refine wc_skip ?_ | refine wc_exit ?_ | refine wc_label ?_ | refine wq_then_ret ?_ | refine wq_then_exit ?_ | refine wq_block ?_ | refine wq_block_ret ?_ | refine wq_block_exit rfl ?_ | refine wq_block_pass rfl ?_ | refine wc_reads rfl (by decide +kernel) ?_ | refine wc_condT rfl ?_ | refine wc_condF rfl ?_ | refine wx_setn ?_ | refine wc_setn ?_ | refine wq_setn ?_ | refine wx_cat ?_ | refine wc_cat ?_ | refine wq_cat ?_)
  refine wc_not rfl (by simp [he]) ?_
  repeat (first | (apply wx_val; (first | exact v_move rfl | exact v_assign rfl | exact v_faddr rfl rfl | exact v_ldT rfl rfl rfl (by rfl) | exact v_ldAT rfl (by rfl) | exact v_extract rfl rfl | exact v_len rfl rfl | exact v_slen rfl rfl | exact v_eq rfl rfl | exact v_ne rfl rfl | exact v_eqnil rfl rfl rfl | exact v_nenil rfl rfl rfl | exact v_eqnn rfl rfl rfl | exact v_nenn rfl rfl rfl | exact v_streq rfl rfl | exact v_strne rfl rfl | exact v_pickT rfl rfl | exact v_pickF rfl rfl | exact v_and rfl rfl | exact v_or rfl rfl | exact v_xor rfl rfl | exact v_shr rfl rfl (by omega) | exact v_shl rfl rfl (by omega) | exact v_pick rfl rfl rfl | (first | exact v_ldQ 0 0 rfl rfl rfl rfl rfl | exact v_ldQ 1 0 rfl rfl rfl rfl rfl | exact v_ldQ 2 0 rfl rfl rfl rfl rfl | exact v_ldQ 3 0 rfl rfl rfl rfl rfl) | exact v_eqA rfl rfl (by kernel_rfl) | exact v_neA rfl rfl (by kernel_rfl) | exact v_beq rfl rfl rfl | exact v_bne rfl rfl rfl | exact v_eqsnil rfl rfl rfl | exact v_nesnil rfl rfl rfl); rfl) | refine wx_no rfl rfl rfl ?_ | refine wx_undef rfl rfl rfl ?_ | refine wx_ungd rfl rfl ?_ | refine wc_seq ?_ | refine wc_region ?_ | refine wx_nil ?_ | refine wq_next ?_ | refine wc_block ?_ | refine wc_ret ?_ | refine wc_skip ?_ | refine wc_exit ?_ | refine wc_label ?_ | refine wq_then_ret ?_ | refine wq_then_exit ?_ | refine wq_block ?_ | refine wq_block_ret ?_ | refine wq_block_exit rfl ?_ | refine wq_block_pass rfl ?_ | refine wc_reads rfl (by decide +kernel) ?_ | refine wc_condT rfl ?_ | refine wc_condF rfl ?_ | refine wx_setn ?_ | refine wc_setn ?_ | refine wq_setn ?_ | refine wx_cat ?_ | refine wc_cat ?_ | refine wq_cat ?_)
  exact wq_clear (wq_ret3 () rfl rfl rfl rfl rfl trivial rfl)
theorem made_ok {K C : Nat} {inp img : LstV UInt8} {fl : LstV FaultW} {blk sck : Int} (hK : blk = K) (hC : sck = C) (w : World) (hs : (⟨blk, sck, inp, img, fl⟩ : SetW).Rd w) (he : newErr K C inp.xs.length img.xs.length fl.xs = 0) :
    Calls Try.prog 21 #[.agg (⟨blk, sck, inp, img, fl⟩ : SetW).cells.toArray] w (Ret (β := Lay × RLay) w (ids []) (fun r => .tuple #[.pointer (some ⟨r.1.g, 0, none⟩), .pointer (some ⟨r.2.g, 0, none⟩), .bool true]) (fun r => devM (DevS.fresh K C inp.xs img.xs fl.xs) r.1 ++ rM (DevS.fresh K C inp.xs img.xs fl.xs) r.2) (fun r => DevOk (DevS.fresh K C inp.xs img.xs fl.xs) r.1 ∧ RdOk (DevS.fresh K C inp.xs img.xs fl.xs) r.2)) := by
  subst hK
  subst hC
  refine go [.agg (⟨(K : Nat), (C : Nat), inp, img, fl⟩ : SetW).cells.toArray] [] Try.func21 Try.ntmps21 rfl rfl (own_nil w) ?_
  obtain ⟨u1, u2, u3, u4, u5, u6, u7, u8, u9⟩ := hs
  dsimp only at u1 u2 u3 u4 u5 u6 u7 u8 u9
  obtain ⟨q1, q2, q3, q4, q5, q6, q7, q8⟩ := err_range he
  repeat (first | (apply wx_val; (first | exact v_move rfl | exact v_assign rfl | exact v_faddr rfl rfl | exact v_ldT rfl rfl rfl (by rfl) | exact v_ldAT rfl (by rfl) | exact v_extract rfl rfl | exact v_len rfl rfl | exact v_slen rfl rfl | exact v_eq rfl rfl | exact v_ne rfl rfl | exact v_eqnil rfl rfl rfl | exact v_nenil rfl rfl rfl | exact v_eqnn rfl rfl rfl | exact v_nenn rfl rfl rfl | exact v_streq rfl rfl | exact v_strne rfl rfl | exact v_pickT rfl rfl | exact v_pickF rfl rfl | exact v_and rfl rfl | exact v_or rfl rfl | exact v_xor rfl rfl | exact v_shr rfl rfl (by omega) | exact v_shl rfl rfl (by omega) | exact v_pick rfl rfl rfl | (first | exact v_ldQ 0 0 rfl rfl rfl rfl rfl | exact v_ldQ 1 0 rfl rfl rfl rfl rfl | exact v_ldQ 2 0 rfl rfl rfl rfl rfl | exact v_ldQ 3 0 rfl rfl rfl rfl rfl) | exact v_eqA rfl rfl (by kernel_rfl) | exact v_neA rfl rfl (by kernel_rfl) | exact v_beq rfl rfl rfl | exact v_bne rfl rfl rfl | exact v_eqsnil rfl rfl rfl | exact v_nesnil rfl rfl rfl); rfl) | refine wx_no rfl rfl rfl ?_ | refine wx_undef rfl rfl rfl ?_ | refine wx_ungd rfl rfl ?_ | refine wc_seq ?_ | refine wc_region ?_ | refine wx_nil ?_ | refine wq_next ?_ | refine wc_block ?_ | refine wc_ret ?_ | refine wc_skip ?_ | refine wc_exit ?_ | refine wc_label ?_ | refine wq_then_ret ?_ | refine wq_then_exit ?_ | refine wq_block ?_ | refine wq_block_ret ?_ | refine wq_block_exit rfl ?_ | refine wq_block_pass rfl ?_ | refine wc_reads rfl (by decide +kernel) ?_ | refine wc_condT rfl ?_ | refine wc_condF rfl ?_ | refine wx_setn ?_ | refine wc_setn ?_ | refine wq_setn ?_ | refine wx_cat ?_ | refine wc_cat ?_ | refine wq_cat ?_)
  refine wl_boxA rfl rfl (fun g1 => ?_)
  repeat (first | (apply wx_val; (first | exact v_move rfl | exact v_assign rfl | exact v_faddr rfl rfl | exact v_ldT rfl rfl rfl (by rfl) | exact v_ldAT rfl (by rfl) | exact v_extract rfl rfl | exact v_len rfl rfl | exact v_slen rfl rfl | exact v_eq rfl rfl | exact v_ne rfl rfl | exact v_eqnil rfl rfl rfl | exact v_nenil rfl rfl rfl | exact v_eqnn rfl rfl rfl | exact v_nenn rfl rfl rfl | exact v_streq rfl rfl | exact v_strne rfl rfl | exact v_pickT rfl rfl | exact v_pickF rfl rfl | exact v_and rfl rfl | exact v_or rfl rfl | exact v_xor rfl rfl | exact v_shr rfl rfl (by omega) | exact v_shl rfl rfl (by omega) | exact v_pick rfl rfl rfl | (first | exact v_ldQ 0 0 rfl rfl rfl rfl rfl | exact v_ldQ 1 0 rfl rfl rfl rfl rfl | exact v_ldQ 2 0 rfl rfl rfl rfl rfl | exact v_ldQ 3 0 rfl rfl rfl rfl rfl) | exact v_eqA rfl rfl (by kernel_rfl) | exact v_neA rfl rfl (by kernel_rfl) | exact v_beq rfl rfl rfl | exact v_bne rfl rfl rfl | exact v_eqsnil rfl rfl rfl | exact v_nesnil rfl rfl rfl); rfl) | refine wx_no rfl rfl rfl ?_ | refine wx_undef rfl rfl rfl ?_ | refine wx_ungd rfl rfl ?_ | refine wc_seq ?_ | refine wc_region ?_ | refine wx_nil ?_ | refine wq_next ?_ | refine wc_block ?_ | refine wc_ret ?_ | refine wc_skip ?_ | refine wc_exit ?_ | refine wc_label ?_ | refine wq_then_ret ?_ | refine wq_then_exit ?_ | refine wq_block ?_ | refine wq_block_ret ?_ | refine wq_block_exit rfl ?_ | refine wq_block_pass rfl ?_ | refine wc_reads rfl (by decide +kernel) ?_ | refine wc_condT rfl ?_ | refine wc_condF rfl ?_ | refine wx_setn ?_ | refine wc_setn ?_ | refine wq_setn ?_ | refine wx_cat ?_ | refine wc_cat ?_ | refine wq_cat ?_)
  refine wc_meetK (ι := Lay) [1] (fun y => [(2, .pointer (some ⟨y.g, 0, none⟩)), (5, .int .i64 0)]) (fun y => devM (DevS.fresh K C inp.xs img.xs fl.xs) y) (M1 := []) (fun y => DevOk (DevS.fresh K C inp.xs img.xs fl.xs) y) rfl ?_ ?_
  ·
    refine wc_cat ?_
    refine wc_heldQ [setB g1 ⟨(K : Nat), (C : Nat), inp, img, fl⟩] rfl (by (repeat (first | with_reducible exact panicOk_body | with_reducible apply panicOk_block | with_reducible apply panicOk_then))) (fun hQd => ?_)
    (apply wh_take 0; (first | exact fun _ h => h | exact fun _ h => res_takes h); exact hQd; rfl; exact v_faddr rfl rfl; decide +kernel; decide +kernel; decide +kernel; rfl)
    (apply wh_take 1; (first | exact fun _ h => h | exact fun _ h => res_takes h); exact hQd; rfl; (first | exact v_ldT rfl rfl rfl (by rfl) | exact v_ldAT rfl (by rfl) | (first | exact v_ldQ 0 0 rfl rfl rfl rfl rfl | exact v_ldQ 1 0 rfl rfl rfl rfl rfl | exact v_ldQ 2 0 rfl rfl rfl rfl rfl | exact v_ldQ 3 0 rfl rfl rfl rfl rfl)); decide +kernel; decide +kernel; decide +kernel; rfl)
    (apply wh_take 2; (first | exact fun _ h => h | exact fun _ h => res_takes h); exact hQd; rfl; exact v_faddr rfl rfl; decide +kernel; decide +kernel; decide +kernel; rfl)
    (apply wh_take 3; (first | exact fun _ h => h | exact fun _ h => res_takes h); exact hQd; rfl; (first | exact v_ldT rfl rfl rfl (by rfl) | exact v_ldAT rfl (by rfl) | (first | exact v_ldQ 0 0 rfl rfl rfl rfl rfl | exact v_ldQ 1 0 rfl rfl rfl rfl rfl | exact v_ldQ 2 0 rfl rfl rfl rfl rfl | exact v_ldQ 3 0 rfl rfl rfl rfl rfl)); decide +kernel; decide +kernel; decide +kernel; rfl)
    (apply wh_take 4; (first | exact fun _ h => h | exact fun _ h => res_takes h); exact hQd; rfl; (exact v_build (cs := (geoC (K : Nat) (C : Nat)).toArray) rfl (by kernel_rfl)); decide +kernel; decide +kernel; decide +kernel; rfl)
    (apply wh_take 6; (first | exact fun _ h => h | exact fun _ h => res_takes h); exact hQd; rfl; exact v_faddr rfl rfl; decide +kernel; decide +kernel; decide +kernel; rfl)
    (apply wh_take 7; (first | exact fun _ h => h | exact fun _ h => res_takes h); exact hQd; rfl; (first | exact v_ldT rfl rfl rfl (by rfl) | exact v_ldAT rfl (by rfl) | (first | exact v_ldQ 0 0 rfl rfl rfl rfl rfl | exact v_ldQ 1 0 rfl rfl rfl rfl rfl | exact v_ldQ 2 0 rfl rfl rfl rfl rfl | exact v_ldQ 3 0 rfl rfl rfl rfl rfl)); decide +kernel; decide +kernel; decide +kernel; rfl)
    (apply wh_take 10; (first | exact fun _ h => h | exact fun _ h => res_takes h); exact hQd; rfl; exact v_faddr rfl rfl; decide +kernel; decide +kernel; decide +kernel; rfl)
    (apply wh_take 11; (first | exact fun _ h => h | exact fun _ h => res_takes h); exact hQd; rfl; (first | exact v_ldT rfl rfl rfl (by rfl) | exact v_ldAT rfl (by rfl) | (first | exact v_ldQ 0 0 rfl rfl rfl rfl rfl | exact v_ldQ 1 0 rfl rfl rfl rfl rfl | exact v_ldQ 2 0 rfl rfl rfl rfl rfl | exact v_ldQ 3 0 rfl rfl rfl rfl rfl)); decide +kernel; decide +kernel; decide +kernel; rfl)
    (apply wh_take 14; (first | exact fun _ h => h | exact fun _ h => res_takes h); exact hQd; rfl; exact v_faddr rfl rfl; decide +kernel; decide +kernel; decide +kernel; rfl)
    (apply wh_take 15; (first | exact fun _ h => h | exact fun _ h => res_takes h); exact hQd; rfl; (first | exact v_ldT rfl rfl rfl (by rfl) | exact v_ldAT rfl (by rfl) | (first | exact v_ldQ 0 0 rfl rfl rfl rfl rfl | exact v_ldQ 1 0 rfl rfl rfl rfl rfl | exact v_ldQ 2 0 rfl rfl rfl rfl rfl | exact v_ldQ 3 0 rfl rfl rfl rfl rfl)); decide +kernel; decide +kernel; decide +kernel; rfl)
    refine wh_eff3 5 9 13 rfl rfl rfl (by decide +kernel) ?_ ?_ ?_
    · refine wl_lit0 rfl rfl (fun g5 E5 hb5 => ?_)
      (try refine wx_nil ?_)
      refine wq_held (by (first | exact fun _ h => h | exact fun _ h => res_takes h)) ?_
      refine wh_eff3 8 9 13 rfl rfl rfl (by decide +kernel) ?_ ?_ ?_
      · refine wl_appT rfl hb5 rfl rfl (fun w' hr => src_slice rfl (u1.keep hr).rd (by simp) (by decide) (one_bys _)) (by first | omega | (dsimp only; omega)) rfl ?_
        intro Ai ci Ei hbi
        simp only [Nat.zero_add, List.nil_append] at hbi ⊢
        try refine wx_cat ?_
        (try refine wx_nil ?_)
        refine wq_held (by (first | exact fun _ h => h | exact fun _ h => res_takes h)) ?_
        refine wh_eff2 9 13 rfl rfl (by decide +kernel) ?_ ?_
        · refine wl_lit0 rfl rfl (fun g9 E9 hb9 => ?_)
          (try refine wx_nil ?_)
          refine wq_held (by (first | exact fun _ h => h | exact fun _ h => res_takes h)) ?_
          refine wh_eff2 12 13 rfl rfl (by decide +kernel) ?_ ?_
          · refine wl_appT rfl hb9 rfl rfl (fun w' hr => src_slice rfl (u2.keep hr).rd (by simp) (by decide) (one_bys _)) (by first | omega | (dsimp only; omega)) rfl ?_
            intro Am cm Em hbm
            simp only [Nat.zero_add, List.nil_append] at hbm ⊢
            try refine wx_cat ?_
            (try refine wx_nil ?_)
            refine wq_held (by (first | exact fun _ h => h | exact fun _ h => res_takes h)) ?_
            refine wh_eff 13 rfl (by decide +kernel) ?_
            refine wl_lit0 rfl rfl (fun g13 E13 hb13 => ?_)
            (try refine wx_nil ?_)
            refine wq_held (by (first | exact fun _ h => h | exact fun _ h => res_takes h)) ?_
            refine wh_eff 16 rfl (by decide +kernel) ?_
            refine wl_appT rfl hb13 rfl rfl (fun w' hr => src_slice rfl (u3.keep hr).rd (flat_len (k := 4) (fun _ => rfl) _) (by decide) (one_flat (f := FaultW.cells) (fun _ => rfl) _)) (by first | omega | (dsimp only; omega)) rfl ?_
            intro Af cf Ef hbf
            simp only [Nat.zero_add, List.nil_append] at hbf ⊢
            try refine wx_cat ?_
            (try refine wx_nil ?_)
            refine wq_held (by (first | exact fun _ h => h | exact fun _ h => res_takes h)) ?_
            refine wh_eff 17 rfl (by decide +kernel) ?_
            refine wl_callT (M1 := []) (fun w' hr ho => New_ok (fl := fl.xs) (by omega) (by omega) (by omega) w' (hbi.vwT hr) (hbm.vwT hr) (hbf.vwT hr) (fun e => List.eq_nil_of_length_eq_zero (hbf.none0 e)) he) rfl rfl rfl ?_
            rintro y hy
            refine wx_cat ?_
            (try refine wx_nil ?_)
            refine wq_held (by (first | exact fun _ h => h | exact fun _ h => res_takes h)) ?_
            (apply wh_take 18; (first | exact fun _ h => h | exact fun _ h => res_takes h); exact hQd; rfl; exact v_move rfl; decide +kernel; decide +kernel; decide +kernel; rfl)
            (apply wh_take 19; (first | exact fun _ h => h | exact fun _ h => res_takes h); exact hQd; rfl; exact v_extract rfl rfl; decide +kernel; decide +kernel; decide +kernel; rfl)
            (apply wh_take 20; (first | exact fun _ h => h | exact fun _ h => res_takes h); exact hQd; rfl; exact v_extract rfl rfl; decide +kernel; decide +kernel; decide +kernel; rfl)
            (apply wh_take 21; (first | exact fun _ h => h | exact fun _ h => res_takes h); exact hQd; rfl; exact v_assign rfl; decide +kernel; decide +kernel; decide +kernel; rfl)
            (apply wh_take 22; (first | exact fun _ h => h | exact fun _ h => res_takes h); exact hQd; rfl; exact v_assign rfl; decide +kernel; decide +kernel; decide +kernel; rfl)
            refine wh_done (by decide +kernel) ?_
            refine wq_cutK (y) ?_ (by repeat (first | exact trivial | refine ⟨rfl, ?_⟩)) (by first | exact catEq | exact rfl)
            exact hy
          · refine wl_lit0 rfl rfl (fun g13 E13 hb13 => ?_)
            (try refine wx_nil ?_)
            refine wq_held (by (first | exact fun _ h => h | exact fun _ h => res_takes h)) ?_
            refine wh_eff 12 rfl (by decide +kernel) ?_
            refine wl_appT rfl hb9 rfl rfl (fun w' hr => src_slice rfl (u2.keep hr).rd (by simp) (by decide) (one_bys _)) (by first | omega | (dsimp only; omega)) rfl ?_
            intro Am cm Em hbm
            simp only [Nat.zero_add, List.nil_append] at hbm ⊢
            try refine wx_cat ?_
            (try refine wx_nil ?_)
            refine wq_held (by (first | exact fun _ h => h | exact fun _ h => res_takes h)) ?_
            refine wh_eff 16 rfl (by decide +kernel) ?_
            refine wl_appT rfl hb13 rfl rfl (fun w' hr => src_slice rfl (u3.keep hr).rd (flat_len (k := 4) (fun _ => rfl) _) (by decide) (one_flat (f := FaultW.cells) (fun _ => rfl) _)) (by first | omega | (dsimp only; omega)) rfl ?_
            intro Af cf Ef hbf
            simp only [Nat.zero_add, List.nil_append] at hbf ⊢
            try refine wx_cat ?_
            (try refine wx_nil ?_)
            refine wq_held (by (first | exact fun _ h => h | exact fun _ h => res_takes h)) ?_
            refine wh_eff 17 rfl (by decide +kernel) ?_
            refine wl_callT (M1 := []) (fun w' hr ho => New_ok (fl := fl.xs) (by omega) (by omega) (by omega) w' (hbi.vwT hr) (hbm.vwT hr) (hbf.vwT hr) (fun e => List.eq_nil_of_length_eq_zero (hbf.none0 e)) he) rfl rfl rfl ?_
            rintro y hy
            refine wx_cat ?_
            (try refine wx_nil ?_)
            refine wq_held (by (first | exact fun _ h => h | exact fun _ h => res_takes h)) ?_
            (apply wh_take 18; (first | exact fun _ h => h | exact fun _ h => res_takes h); exact hQd; rfl; exact v_move rfl; decide +kernel; decide +kernel; decide +kernel; rfl)
            (apply wh_take 19; (first | exact fun _ h => h | exact fun _ h => res_takes h); exact hQd; rfl; exact v_extract rfl rfl; decide +kernel; decide +kernel; decide +kernel; rfl)
            (apply wh_take 20; (first | exact fun _ h => h | exact fun _ h => res_takes h); exact hQd; rfl; exact v_extract rfl rfl; decide +kernel; decide +kernel; decide +kernel; rfl)
            (apply wh_take 21; (first | exact fun _ h => h | exact fun _ h => res_takes h); exact hQd; rfl; exact v_assign rfl; decide +kernel; decide +kernel; decide +kernel; rfl)
            (apply wh_take 22; (first | exact fun _ h => h | exact fun _ h => res_takes h); exact hQd; rfl; exact v_assign rfl; decide +kernel; decide +kernel; decide +kernel; rfl)
            refine wh_done (by decide +kernel) ?_
            refine wq_cutK (y) ?_ (by repeat (first | exact trivial | refine ⟨rfl, ?_⟩)) (by first | exact catEq | exact rfl)
            exact hy
        · refine wl_lit0 rfl rfl (fun g13 E13 hb13 => ?_)
          (try refine wx_nil ?_)
          refine wq_held (by (first | exact fun _ h => h | exact fun _ h => res_takes h)) ?_
          refine wh_eff 9 rfl (by decide +kernel) ?_
          refine wl_lit0 rfl rfl (fun g9 E9 hb9 => ?_)
          (try refine wx_nil ?_)
          refine wq_held (by (first | exact fun _ h => h | exact fun _ h => res_takes h)) ?_
          refine wh_eff 12 rfl (by decide +kernel) ?_
          refine wl_appT rfl hb9 rfl rfl (fun w' hr => src_slice rfl (u2.keep hr).rd (by simp) (by decide) (one_bys _)) (by first | omega | (dsimp only; omega)) rfl ?_
          intro Am cm Em hbm
          simp only [Nat.zero_add, List.nil_append] at hbm ⊢
          try refine wx_cat ?_
          (try refine wx_nil ?_)
          refine wq_held (by (first | exact fun _ h => h | exact fun _ h => res_takes h)) ?_
          refine wh_eff 16 rfl (by decide +kernel) ?_
          refine wl_appT rfl hb13 rfl rfl (fun w' hr => src_slice rfl (u3.keep hr).rd (flat_len (k := 4) (fun _ => rfl) _) (by decide) (one_flat (f := FaultW.cells) (fun _ => rfl) _)) (by first | omega | (dsimp only; omega)) rfl ?_
          intro Af cf Ef hbf
          simp only [Nat.zero_add, List.nil_append] at hbf ⊢
          try refine wx_cat ?_
          (try refine wx_nil ?_)
          refine wq_held (by (first | exact fun _ h => h | exact fun _ h => res_takes h)) ?_
          refine wh_eff 17 rfl (by decide +kernel) ?_
          refine wl_callT (M1 := []) (fun w' hr ho => New_ok (fl := fl.xs) (by omega) (by omega) (by omega) w' (hbi.vwT hr) (hbm.vwT hr) (hbf.vwT hr) (fun e => List.eq_nil_of_length_eq_zero (hbf.none0 e)) he) rfl rfl rfl ?_
          rintro y hy
          refine wx_cat ?_
          (try refine wx_nil ?_)
          refine wq_held (by (first | exact fun _ h => h | exact fun _ h => res_takes h)) ?_
          (apply wh_take 18; (first | exact fun _ h => h | exact fun _ h => res_takes h); exact hQd; rfl; exact v_move rfl; decide +kernel; decide +kernel; decide +kernel; rfl)
          (apply wh_take 19; (first | exact fun _ h => h | exact fun _ h => res_takes h); exact hQd; rfl; exact v_extract rfl rfl; decide +kernel; decide +kernel; decide +kernel; rfl)
          (apply wh_take 20; (first | exact fun _ h => h | exact fun _ h => res_takes h); exact hQd; rfl; exact v_extract rfl rfl; decide +kernel; decide +kernel; decide +kernel; rfl)
          (apply wh_take 21; (first | exact fun _ h => h | exact fun _ h => res_takes h); exact hQd; rfl; exact v_assign rfl; decide +kernel; decide +kernel; decide +kernel; rfl)
          (apply wh_take 22; (first | exact fun _ h => h | exact fun _ h => res_takes h); exact hQd; rfl; exact v_assign rfl; decide +kernel; decide +kernel; decide +kernel; rfl)
          refine wh_done (by decide +kernel) ?_
          refine wq_cutK (y) ?_ (by repeat (first | exact trivial | refine ⟨rfl, ?_⟩)) (by first | exact catEq | exact rfl)
          exact hy
      · refine wl_lit0 rfl rfl (fun g9 E9 hb9 => ?_)
        (try refine wx_nil ?_)
        refine wq_held (by (first | exact fun _ h => h | exact fun _ h => res_takes h)) ?_
        refine wh_eff2 8 13 rfl rfl (by decide +kernel) ?_ ?_
        · refine wl_appT rfl hb5 rfl rfl (fun w' hr => src_slice rfl (u1.keep hr).rd (by simp) (by decide) (one_bys _)) (by first | omega | (dsimp only; omega)) rfl ?_
          intro Ai ci Ei hbi
          simp only [Nat.zero_add, List.nil_append] at hbi ⊢
          try refine wx_cat ?_
          (try refine wx_nil ?_)
          refine wq_held (by (first | exact fun _ h => h | exact fun _ h => res_takes h)) ?_
          refine wh_eff2 12 13 rfl rfl (by decide +kernel) ?_ ?_
          · refine wl_appT rfl hb9 rfl rfl (fun w' hr => src_slice rfl (u2.keep hr).rd (by simp) (by decide) (one_bys _)) (by first | omega | (dsimp only; omega)) rfl ?_
            intro Am cm Em hbm
            simp only [Nat.zero_add, List.nil_append] at hbm ⊢
            try refine wx_cat ?_
            (try refine wx_nil ?_)
            refine wq_held (by (first | exact fun _ h => h | exact fun _ h => res_takes h)) ?_
            refine wh_eff 13 rfl (by decide +kernel) ?_
            refine wl_lit0 rfl rfl (fun g13 E13 hb13 => ?_)
            (try refine wx_nil ?_)
            refine wq_held (by (first | exact fun _ h => h | exact fun _ h => res_takes h)) ?_
            refine wh_eff 16 rfl (by decide +kernel) ?_
            refine wl_appT rfl hb13 rfl rfl (fun w' hr => src_slice rfl (u3.keep hr).rd (flat_len (k := 4) (fun _ => rfl) _) (by decide) (one_flat (f := FaultW.cells) (fun _ => rfl) _)) (by first | omega | (dsimp only; omega)) rfl ?_
            intro Af cf Ef hbf
            simp only [Nat.zero_add, List.nil_append] at hbf ⊢
            try refine wx_cat ?_
            (try refine wx_nil ?_)
            refine wq_held (by (first | exact fun _ h => h | exact fun _ h => res_takes h)) ?_
            refine wh_eff 17 rfl (by decide +kernel) ?_
            refine wl_callT (M1 := []) (fun w' hr ho => New_ok (fl := fl.xs) (by omega) (by omega) (by omega) w' (hbi.vwT hr) (hbm.vwT hr) (hbf.vwT hr) (fun e => List.eq_nil_of_length_eq_zero (hbf.none0 e)) he) rfl rfl rfl ?_
            rintro y hy
            refine wx_cat ?_
            (try refine wx_nil ?_)
            refine wq_held (by (first | exact fun _ h => h | exact fun _ h => res_takes h)) ?_
            (apply wh_take 18; (first | exact fun _ h => h | exact fun _ h => res_takes h); exact hQd; rfl; exact v_move rfl; decide +kernel; decide +kernel; decide +kernel; rfl)
            (apply wh_take 19; (first | exact fun _ h => h | exact fun _ h => res_takes h); exact hQd; rfl; exact v_extract rfl rfl; decide +kernel; decide +kernel; decide +kernel; rfl)
            (apply wh_take 20; (first | exact fun _ h => h | exact fun _ h => res_takes h); exact hQd; rfl; exact v_extract rfl rfl; decide +kernel; decide +kernel; decide +kernel; rfl)
            (apply wh_take 21; (first | exact fun _ h => h | exact fun _ h => res_takes h); exact hQd; rfl; exact v_assign rfl; decide +kernel; decide +kernel; decide +kernel; rfl)
            (apply wh_take 22; (first | exact fun _ h => h | exact fun _ h => res_takes h); exact hQd; rfl; exact v_assign rfl; decide +kernel; decide +kernel; decide +kernel; rfl)
            refine wh_done (by decide +kernel) ?_
            refine wq_cutK (y) ?_ (by repeat (first | exact trivial | refine ⟨rfl, ?_⟩)) (by first | exact catEq | exact rfl)
            exact hy
          · refine wl_lit0 rfl rfl (fun g13 E13 hb13 => ?_)
            (try refine wx_nil ?_)
            refine wq_held (by (first | exact fun _ h => h | exact fun _ h => res_takes h)) ?_
            refine wh_eff 12 rfl (by decide +kernel) ?_
            refine wl_appT rfl hb9 rfl rfl (fun w' hr => src_slice rfl (u2.keep hr).rd (by simp) (by decide) (one_bys _)) (by first | omega | (dsimp only; omega)) rfl ?_
            intro Am cm Em hbm
            simp only [Nat.zero_add, List.nil_append] at hbm ⊢
            try refine wx_cat ?_
            (try refine wx_nil ?_)
            refine wq_held (by (first | exact fun _ h => h | exact fun _ h => res_takes h)) ?_
            refine wh_eff 16 rfl (by decide +kernel) ?_
            refine wl_appT rfl hb13 rfl rfl (fun w' hr => src_slice rfl (u3.keep hr).rd (flat_len (k := 4) (fun _ => rfl) _) (by decide) (one_flat (f := FaultW.cells) (fun _ => rfl) _)) (by first | omega | (dsimp only; omega)) rfl ?_
            intro Af cf Ef hbf
            simp only [Nat.zero_add, List.nil_append] at hbf ⊢
            try refine wx_cat ?_
            (try refine wx_nil ?_)
            refine wq_held (by (first | exact fun _ h => h | exact fun _ h => res_takes h)) ?_
            refine wh_eff 17 rfl (by decide +kernel) ?_
            refine wl_callT (M1 := []) (fun w' hr ho => New_ok (fl := fl.xs) (by omega) (by omega) (by omega) w' (hbi.vwT hr) (hbm.vwT hr) (hbf.vwT hr) (fun e => List.eq_nil_of_length_eq_zero (hbf.none0 e)) he) rfl rfl rfl ?_
            rintro y hy
            refine wx_cat ?_
            (try refine wx_nil ?_)
            refine wq_held (by (first | exact fun _ h => h | exact fun _ h => res_takes h)) ?_
            (apply wh_take 18; (first | exact fun _ h => h | exact fun _ h => res_takes h); exact hQd; rfl; exact v_move rfl; decide +kernel; decide +kernel; decide +kernel; rfl)
            (apply wh_take 19; (first | exact fun _ h => h | exact fun _ h => res_takes h); exact hQd; rfl; exact v_extract rfl rfl; decide +kernel; decide +kernel; decide +kernel; rfl)
            (apply wh_take 20; (first | exact fun _ h => h | exact fun _ h => res_takes h); exact hQd; rfl; exact v_extract rfl rfl; decide +kernel; decide +kernel; decide +kernel; rfl)
            (apply wh_take 21; (first | exact fun _ h => h | exact fun _ h => res_takes h); exact hQd; rfl; exact v_assign rfl; decide +kernel; decide +kernel; decide +kernel; rfl)
            (apply wh_take 22; (first | exact fun _ h => h | exact fun _ h => res_takes h); exact hQd; rfl; exact v_assign rfl; decide +kernel; decide +kernel; decide +kernel; rfl)
            refine wh_done (by decide +kernel) ?_
            refine wq_cutK (y) ?_ (by repeat (first | exact trivial | refine ⟨rfl, ?_⟩)) (by first | exact catEq | exact rfl)
            exact hy
        · refine wl_lit0 rfl rfl (fun g13 E13 hb13 => ?_)
          (try refine wx_nil ?_)
          refine wq_held (by (first | exact fun _ h => h | exact fun _ h => res_takes h)) ?_
          refine wh_eff 8 rfl (by decide +kernel) ?_
          refine wl_appT rfl hb5 rfl rfl (fun w' hr => src_slice rfl (u1.keep hr).rd (by simp) (by decide) (one_bys _)) (by first | omega | (dsimp only; omega)) rfl ?_
          intro Ai ci Ei hbi
          simp only [Nat.zero_add, List.nil_append] at hbi ⊢
          try refine wx_cat ?_
          (try refine wx_nil ?_)
          refine wq_held (by (first | exact fun _ h => h | exact fun _ h => res_takes h)) ?_
          refine wh_eff 12 rfl (by decide +kernel) ?_
          refine wl_appT rfl hb9 rfl rfl (fun w' hr => src_slice rfl (u2.keep hr).rd (by simp) (by decide) (one_bys _)) (by first | omega | (dsimp only; omega)) rfl ?_
          intro Am cm Em hbm
          simp only [Nat.zero_add, List.nil_append] at hbm ⊢
          try refine wx_cat ?_
          (try refine wx_nil ?_)
          refine wq_held (by (first | exact fun _ h => h | exact fun _ h => res_takes h)) ?_
          refine wh_eff 16 rfl (by decide +kernel) ?_
          refine wl_appT rfl hb13 rfl rfl (fun w' hr => src_slice rfl (u3.keep hr).rd (flat_len (k := 4) (fun _ => rfl) _) (by decide) (one_flat (f := FaultW.cells) (fun _ => rfl) _)) (by first | omega | (dsimp only; omega)) rfl ?_
          intro Af cf Ef hbf
          simp only [Nat.zero_add, List.nil_append] at hbf ⊢
          try refine wx_cat ?_
          (try refine wx_nil ?_)
          refine wq_held (by (first | exact fun _ h => h | exact fun _ h => res_takes h)) ?_
          refine wh_eff 17 rfl (by decide +kernel) ?_
          refine wl_callT (M1 := []) (fun w' hr ho => New_ok (fl := fl.xs) (by omega) (by omega) (by omega) w' (hbi.vwT hr) (hbm.vwT hr) (hbf.vwT hr) (fun e => List.eq_nil_of_length_eq_zero (hbf.none0 e)) he) rfl rfl rfl ?_
          rintro y hy
          refine wx_cat ?_
          (try refine wx_nil ?_)
          refine wq_held (by (first | exact fun _ h => h | exact fun _ h => res_takes h)) ?_
          (apply wh_take 18; (first | exact fun _ h => h | exact fun _ h => res_takes h); exact hQd; rfl; exact v_move rfl; decide +kernel; decide +kernel; decide +kernel; rfl)
          (apply wh_take 19; (first | exact fun _ h => h | exact fun _ h => res_takes h); exact hQd; rfl; exact v_extract rfl rfl; decide +kernel; decide +kernel; decide +kernel; rfl)
          (apply wh_take 20; (first | exact fun _ h => h | exact fun _ h => res_takes h); exact hQd; rfl; exact v_extract rfl rfl; decide +kernel; decide +kernel; decide +kernel; rfl)
          (apply wh_take 21; (first | exact fun _ h => h | exact fun _ h => res_takes h); exact hQd; rfl; exact v_assign rfl; decide +kernel; decide +kernel; decide +kernel; rfl)
          (apply wh_take 22; (first | exact fun _ h => h | exact fun _ h => res_takes h); exact hQd; rfl; exact v_assign rfl; decide +kernel; decide +kernel; decide +kernel; rfl)
          refine wh_done (by decide +kernel) ?_
          refine wq_cutK (y) ?_ (by repeat (first | exact trivial | refine ⟨rfl, ?_⟩)) (by first | exact catEq | exact rfl)
          exact hy
      · refine wl_lit0 rfl rfl (fun g13 E13 hb13 => ?_)
        (try refine wx_nil ?_)
        refine wq_held (by (first | exact fun _ h => h | exact fun _ h => res_takes h)) ?_
        refine wh_eff2 8 9 rfl rfl (by decide +kernel) ?_ ?_
        · refine wl_appT rfl hb5 rfl rfl (fun w' hr => src_slice rfl (u1.keep hr).rd (by simp) (by decide) (one_bys _)) (by first | omega | (dsimp only; omega)) rfl ?_
          intro Ai ci Ei hbi
          simp only [Nat.zero_add, List.nil_append] at hbi ⊢
          try refine wx_cat ?_
          (try refine wx_nil ?_)
          refine wq_held (by (first | exact fun _ h => h | exact fun _ h => res_takes h)) ?_
          refine wh_eff 9 rfl (by decide +kernel) ?_
          refine wl_lit0 rfl rfl (fun g9 E9 hb9 => ?_)
          (try refine wx_nil ?_)
          refine wq_held (by (first | exact fun _ h => h | exact fun _ h => res_takes h)) ?_
          refine wh_eff 12 rfl (by decide +kernel) ?_
          refine wl_appT rfl hb9 rfl rfl (fun w' hr => src_slice rfl (u2.keep hr).rd (by simp) (by decide) (one_bys _)) (by first | omega | (dsimp only; omega)) rfl ?_
          intro Am cm Em hbm
          simp only [Nat.zero_add, List.nil_append] at hbm ⊢
          try refine wx_cat ?_
          (try refine wx_nil ?_)
          refine wq_held (by (first | exact fun _ h => h | exact fun _ h => res_takes h)) ?_
          refine wh_eff 16 rfl (by decide +kernel) ?_
          refine wl_appT rfl hb13 rfl rfl (fun w' hr => src_slice rfl (u3.keep hr).rd (flat_len (k := 4) (fun _ => rfl) _) (by decide) (one_flat (f := FaultW.cells) (fun _ => rfl) _)) (by first | omega | (dsimp only; omega)) rfl ?_
          intro Af cf Ef hbf
          simp only [Nat.zero_add, List.nil_append] at hbf ⊢
          try refine wx_cat ?_
          (try refine wx_nil ?_)
          refine wq_held (by (first | exact fun _ h => h | exact fun _ h => res_takes h)) ?_
          refine wh_eff 17 rfl (by decide +kernel) ?_
          refine wl_callT (M1 := []) (fun w' hr ho => New_ok (fl := fl.xs) (by omega) (by omega) (by omega) w' (hbi.vwT hr) (hbm.vwT hr) (hbf.vwT hr) (fun e => List.eq_nil_of_length_eq_zero (hbf.none0 e)) he) rfl rfl rfl ?_
          rintro y hy
          refine wx_cat ?_
          (try refine wx_nil ?_)
          refine wq_held (by (first | exact fun _ h => h | exact fun _ h => res_takes h)) ?_
          (apply wh_take 18; (first | exact fun _ h => h | exact fun _ h => res_takes h); exact hQd; rfl; exact v_move rfl; decide +kernel; decide +kernel; decide +kernel; rfl)
          (apply wh_take 19; (first | exact fun _ h => h | exact fun _ h => res_takes h); exact hQd; rfl; exact v_extract rfl rfl; decide +kernel; decide +kernel; decide +kernel; rfl)
          (apply wh_take 20; (first | exact fun _ h => h | exact fun _ h => res_takes h); exact hQd; rfl; exact v_extract rfl rfl; decide +kernel; decide +kernel; decide +kernel; rfl)
          (apply wh_take 21; (first | exact fun _ h => h | exact fun _ h => res_takes h); exact hQd; rfl; exact v_assign rfl; decide +kernel; decide +kernel; decide +kernel; rfl)
          (apply wh_take 22; (first | exact fun _ h => h | exact fun _ h => res_takes h); exact hQd; rfl; exact v_assign rfl; decide +kernel; decide +kernel; decide +kernel; rfl)
          refine wh_done (by decide +kernel) ?_
          refine wq_cutK (y) ?_ (by repeat (first | exact trivial | refine ⟨rfl, ?_⟩)) (by first | exact catEq | exact rfl)
          exact hy
        · refine wl_lit0 rfl rfl (fun g9 E9 hb9 => ?_)
          (try refine wx_nil ?_)
          refine wq_held (by (first | exact fun _ h => h | exact fun _ h => res_takes h)) ?_
          refine wh_eff 8 rfl (by decide +kernel) ?_
          refine wl_appT rfl hb5 rfl rfl (fun w' hr => src_slice rfl (u1.keep hr).rd (by simp) (by decide) (one_bys _)) (by first | omega | (dsimp only; omega)) rfl ?_
          intro Ai ci Ei hbi
          simp only [Nat.zero_add, List.nil_append] at hbi ⊢
          try refine wx_cat ?_
          (try refine wx_nil ?_)
          refine wq_held (by (first | exact fun _ h => h | exact fun _ h => res_takes h)) ?_
          refine wh_eff 12 rfl (by decide +kernel) ?_
          refine wl_appT rfl hb9 rfl rfl (fun w' hr => src_slice rfl (u2.keep hr).rd (by simp) (by decide) (one_bys _)) (by first | omega | (dsimp only; omega)) rfl ?_
          intro Am cm Em hbm
          simp only [Nat.zero_add, List.nil_append] at hbm ⊢
          try refine wx_cat ?_
          (try refine wx_nil ?_)
          refine wq_held (by (first | exact fun _ h => h | exact fun _ h => res_takes h)) ?_
          refine wh_eff 16 rfl (by decide +kernel) ?_
          refine wl_appT rfl hb13 rfl rfl (fun w' hr => src_slice rfl (u3.keep hr).rd (flat_len (k := 4) (fun _ => rfl) _) (by decide) (one_flat (f := FaultW.cells) (fun _ => rfl) _)) (by first | omega | (dsimp only; omega)) rfl ?_
          intro Af cf Ef hbf
          simp only [Nat.zero_add, List.nil_append] at hbf ⊢
          try refine wx_cat ?_
          (try refine wx_nil ?_)
          refine wq_held (by (first | exact fun _ h => h | exact fun _ h => res_takes h)) ?_
          refine wh_eff 17 rfl (by decide +kernel) ?_
          refine wl_callT (M1 := []) (fun w' hr ho => New_ok (fl := fl.xs) (by omega) (by omega) (by omega) w' (hbi.vwT hr) (hbm.vwT hr) (hbf.vwT hr) (fun e => List.eq_nil_of_length_eq_zero (hbf.none0 e)) he) rfl rfl rfl ?_
          rintro y hy
          refine wx_cat ?_
          (try refine wx_nil ?_)
          refine wq_held (by (first | exact fun _ h => h | exact fun _ h => res_takes h)) ?_
          (apply wh_take 18; (first | exact fun _ h => h | exact fun _ h => res_takes h); exact hQd; rfl; exact v_move rfl; decide +kernel; decide +kernel; decide +kernel; rfl)
          (apply wh_take 19; (first | exact fun _ h => h | exact fun _ h => res_takes h); exact hQd; rfl; exact v_extract rfl rfl; decide +kernel; decide +kernel; decide +kernel; rfl)
          (apply wh_take 20; (first | exact fun _ h => h | exact fun _ h => res_takes h); exact hQd; rfl; exact v_extract rfl rfl; decide +kernel; decide +kernel; decide +kernel; rfl)
          (apply wh_take 21; (first | exact fun _ h => h | exact fun _ h => res_takes h); exact hQd; rfl; exact v_assign rfl; decide +kernel; decide +kernel; decide +kernel; rfl)
          (apply wh_take 22; (first | exact fun _ h => h | exact fun _ h => res_takes h); exact hQd; rfl; exact v_assign rfl; decide +kernel; decide +kernel; decide +kernel; rfl)
          refine wh_done (by decide +kernel) ?_
          refine wq_cutK (y) ?_ (by repeat (first | exact trivial | refine ⟨rfl, ?_⟩)) (by first | exact catEq | exact rfl)
          exact hy
    · refine wl_lit0 rfl rfl (fun g9 E9 hb9 => ?_)
      (try refine wx_nil ?_)
      refine wq_held (by (first | exact fun _ h => h | exact fun _ h => res_takes h)) ?_
      refine wh_eff2 5 13 rfl rfl (by decide +kernel) ?_ ?_
      · refine wl_lit0 rfl rfl (fun g5 E5 hb5 => ?_)
        (try refine wx_nil ?_)
        refine wq_held (by (first | exact fun _ h => h | exact fun _ h => res_takes h)) ?_
        refine wh_eff2 8 13 rfl rfl (by decide +kernel) ?_ ?_
        · refine wl_appT rfl hb5 rfl rfl (fun w' hr => src_slice rfl (u1.keep hr).rd (by simp) (by decide) (one_bys _)) (by first | omega | (dsimp only; omega)) rfl ?_
          intro Ai ci Ei hbi
          simp only [Nat.zero_add, List.nil_append] at hbi ⊢
          try refine wx_cat ?_
          (try refine wx_nil ?_)
          refine wq_held (by (first | exact fun _ h => h | exact fun _ h => res_takes h)) ?_
          refine wh_eff2 12 13 rfl rfl (by decide +kernel) ?_ ?_
          · refine wl_appT rfl hb9 rfl rfl (fun w' hr => src_slice rfl (u2.keep hr).rd (by simp) (by decide) (one_bys _)) (by first | omega | (dsimp only; omega)) rfl ?_
            intro Am cm Em hbm
            simp only [Nat.zero_add, List.nil_append] at hbm ⊢
            try refine wx_cat ?_
            (try refine wx_nil ?_)
            refine wq_held (by (first | exact fun _ h => h | exact fun _ h => res_takes h)) ?_
            refine wh_eff 13 rfl (by decide +kernel) ?_
            refine wl_lit0 rfl rfl (fun g13 E13 hb13 => ?_)
            (try refine wx_nil ?_)
            refine wq_held (by (first | exact fun _ h => h | exact fun _ h => res_takes h)) ?_
            refine wh_eff 16 rfl (by decide +kernel) ?_
            refine wl_appT rfl hb13 rfl rfl (fun w' hr => src_slice rfl (u3.keep hr).rd (flat_len (k := 4) (fun _ => rfl) _) (by decide) (one_flat (f := FaultW.cells) (fun _ => rfl) _)) (by first | omega | (dsimp only; omega)) rfl ?_
            intro Af cf Ef hbf
            simp only [Nat.zero_add, List.nil_append] at hbf ⊢
            try refine wx_cat ?_
            (try refine wx_nil ?_)
            refine wq_held (by (first | exact fun _ h => h | exact fun _ h => res_takes h)) ?_
            refine wh_eff 17 rfl (by decide +kernel) ?_
            refine wl_callT (M1 := []) (fun w' hr ho => New_ok (fl := fl.xs) (by omega) (by omega) (by omega) w' (hbi.vwT hr) (hbm.vwT hr) (hbf.vwT hr) (fun e => List.eq_nil_of_length_eq_zero (hbf.none0 e)) he) rfl rfl rfl ?_
            rintro y hy
            refine wx_cat ?_
            (try refine wx_nil ?_)
            refine wq_held (by (first | exact fun _ h => h | exact fun _ h => res_takes h)) ?_
            (apply wh_take 18; (first | exact fun _ h => h | exact fun _ h => res_takes h); exact hQd; rfl; exact v_move rfl; decide +kernel; decide +kernel; decide +kernel; rfl)
            (apply wh_take 19; (first | exact fun _ h => h | exact fun _ h => res_takes h); exact hQd; rfl; exact v_extract rfl rfl; decide +kernel; decide +kernel; decide +kernel; rfl)
            (apply wh_take 20; (first | exact fun _ h => h | exact fun _ h => res_takes h); exact hQd; rfl; exact v_extract rfl rfl; decide +kernel; decide +kernel; decide +kernel; rfl)
            (apply wh_take 21; (first | exact fun _ h => h | exact fun _ h => res_takes h); exact hQd; rfl; exact v_assign rfl; decide +kernel; decide +kernel; decide +kernel; rfl)
            (apply wh_take 22; (first | exact fun _ h => h | exact fun _ h => res_takes h); exact hQd; rfl; exact v_assign rfl; decide +kernel; decide +kernel; decide +kernel; rfl)
            refine wh_done (by decide +kernel) ?_
            refine wq_cutK (y) ?_ (by repeat (first | exact trivial | refine ⟨rfl, ?_⟩)) (by first | exact catEq | exact rfl)
            exact hy
          · refine wl_lit0 rfl rfl (fun g13 E13 hb13 => ?_)
            (try refine wx_nil ?_)
            refine wq_held (by (first | exact fun _ h => h | exact fun _ h => res_takes h)) ?_
            refine wh_eff 12 rfl (by decide +kernel) ?_
            refine wl_appT rfl hb9 rfl rfl (fun w' hr => src_slice rfl (u2.keep hr).rd (by simp) (by decide) (one_bys _)) (by first | omega | (dsimp only; omega)) rfl ?_
            intro Am cm Em hbm
            simp only [Nat.zero_add, List.nil_append] at hbm ⊢
            try refine wx_cat ?_
            (try refine wx_nil ?_)
            refine wq_held (by (first | exact fun _ h => h | exact fun _ h => res_takes h)) ?_
            refine wh_eff 16 rfl (by decide +kernel) ?_
            refine wl_appT rfl hb13 rfl rfl (fun w' hr => src_slice rfl (u3.keep hr).rd (flat_len (k := 4) (fun _ => rfl) _) (by decide) (one_flat (f := FaultW.cells) (fun _ => rfl) _)) (by first | omega | (dsimp only; omega)) rfl ?_
            intro Af cf Ef hbf
            simp only [Nat.zero_add, List.nil_append] at hbf ⊢
            try refine wx_cat ?_
            (try refine wx_nil ?_)
            refine wq_held (by (first | exact fun _ h => h | exact fun _ h => res_takes h)) ?_
            refine wh_eff 17 rfl (by decide +kernel) ?_
            refine wl_callT (M1 := []) (fun w' hr ho => New_ok (fl := fl.xs) (by omega) (by omega) (by omega) w' (hbi.vwT hr) (hbm.vwT hr) (hbf.vwT hr) (fun e => List.eq_nil_of_length_eq_zero (hbf.none0 e)) he) rfl rfl rfl ?_
            rintro y hy
            refine wx_cat ?_
            (try refine wx_nil ?_)
            refine wq_held (by (first | exact fun _ h => h | exact fun _ h => res_takes h)) ?_
            (apply wh_take 18; (first | exact fun _ h => h | exact fun _ h => res_takes h); exact hQd; rfl; exact v_move rfl; decide +kernel; decide +kernel; decide +kernel; rfl)
            (apply wh_take 19; (first | exact fun _ h => h | exact fun _ h => res_takes h); exact hQd; rfl; exact v_extract rfl rfl; decide +kernel; decide +kernel; decide +kernel; rfl)
            (apply wh_take 20; (first | exact fun _ h => h | exact fun _ h => res_takes h); exact hQd; rfl; exact v_extract rfl rfl; decide +kernel; decide +kernel; decide +kernel; rfl)
            (apply wh_take 21; (first | exact fun _ h => h | exact fun _ h => res_takes h); exact hQd; rfl; exact v_assign rfl; decide +kernel; decide +kernel; decide +kernel; rfl)
            (apply wh_take 22; (first | exact fun _ h => h | exact fun _ h => res_takes h); exact hQd; rfl; exact v_assign rfl; decide +kernel; decide +kernel; decide +kernel; rfl)
            refine wh_done (by decide +kernel) ?_
            refine wq_cutK (y) ?_ (by repeat (first | exact trivial | refine ⟨rfl, ?_⟩)) (by first | exact catEq | exact rfl)
            exact hy
        · refine wl_lit0 rfl rfl (fun g13 E13 hb13 => ?_)
          (try refine wx_nil ?_)
          refine wq_held (by (first | exact fun _ h => h | exact fun _ h => res_takes h)) ?_
          refine wh_eff 8 rfl (by decide +kernel) ?_
          refine wl_appT rfl hb5 rfl rfl (fun w' hr => src_slice rfl (u1.keep hr).rd (by simp) (by decide) (one_bys _)) (by first | omega | (dsimp only; omega)) rfl ?_
          intro Ai ci Ei hbi
          simp only [Nat.zero_add, List.nil_append] at hbi ⊢
          try refine wx_cat ?_
          (try refine wx_nil ?_)
          refine wq_held (by (first | exact fun _ h => h | exact fun _ h => res_takes h)) ?_
          refine wh_eff 12 rfl (by decide +kernel) ?_
          refine wl_appT rfl hb9 rfl rfl (fun w' hr => src_slice rfl (u2.keep hr).rd (by simp) (by decide) (one_bys _)) (by first | omega | (dsimp only; omega)) rfl ?_
          intro Am cm Em hbm
          simp only [Nat.zero_add, List.nil_append] at hbm ⊢
          try refine wx_cat ?_
          (try refine wx_nil ?_)
          refine wq_held (by (first | exact fun _ h => h | exact fun _ h => res_takes h)) ?_
          refine wh_eff 16 rfl (by decide +kernel) ?_
          refine wl_appT rfl hb13 rfl rfl (fun w' hr => src_slice rfl (u3.keep hr).rd (flat_len (k := 4) (fun _ => rfl) _) (by decide) (one_flat (f := FaultW.cells) (fun _ => rfl) _)) (by first | omega | (dsimp only; omega)) rfl ?_
          intro Af cf Ef hbf
          simp only [Nat.zero_add, List.nil_append] at hbf ⊢
          try refine wx_cat ?_
          (try refine wx_nil ?_)
          refine wq_held (by (first | exact fun _ h => h | exact fun _ h => res_takes h)) ?_
          refine wh_eff 17 rfl (by decide +kernel) ?_
          refine wl_callT (M1 := []) (fun w' hr ho => New_ok (fl := fl.xs) (by omega) (by omega) (by omega) w' (hbi.vwT hr) (hbm.vwT hr) (hbf.vwT hr) (fun e => List.eq_nil_of_length_eq_zero (hbf.none0 e)) he) rfl rfl rfl ?_
          rintro y hy
          refine wx_cat ?_
          (try refine wx_nil ?_)
          refine wq_held (by (first | exact fun _ h => h | exact fun _ h => res_takes h)) ?_
          (apply wh_take 18; (first | exact fun _ h => h | exact fun _ h => res_takes h); exact hQd; rfl; exact v_move rfl; decide +kernel; decide +kernel; decide +kernel; rfl)
          (apply wh_take 19; (first | exact fun _ h => h | exact fun _ h => res_takes h); exact hQd; rfl; exact v_extract rfl rfl; decide +kernel; decide +kernel; decide +kernel; rfl)
          (apply wh_take 20; (first | exact fun _ h => h | exact fun _ h => res_takes h); exact hQd; rfl; exact v_extract rfl rfl; decide +kernel; decide +kernel; decide +kernel; rfl)
          (apply wh_take 21; (first | exact fun _ h => h | exact fun _ h => res_takes h); exact hQd; rfl; exact v_assign rfl; decide +kernel; decide +kernel; decide +kernel; rfl)
          (apply wh_take 22; (first | exact fun _ h => h | exact fun _ h => res_takes h); exact hQd; rfl; exact v_assign rfl; decide +kernel; decide +kernel; decide +kernel; rfl)
          refine wh_done (by decide +kernel) ?_
          refine wq_cutK (y) ?_ (by repeat (first | exact trivial | refine ⟨rfl, ?_⟩)) (by first | exact catEq | exact rfl)
          exact hy
      · refine wl_lit0 rfl rfl (fun g13 E13 hb13 => ?_)
        (try refine wx_nil ?_)
        refine wq_held (by (first | exact fun _ h => h | exact fun _ h => res_takes h)) ?_
        refine wh_eff 5 rfl (by decide +kernel) ?_
        refine wl_lit0 rfl rfl (fun g5 E5 hb5 => ?_)
        (try refine wx_nil ?_)
        refine wq_held (by (first | exact fun _ h => h | exact fun _ h => res_takes h)) ?_
        refine wh_eff 8 rfl (by decide +kernel) ?_
        refine wl_appT rfl hb5 rfl rfl (fun w' hr => src_slice rfl (u1.keep hr).rd (by simp) (by decide) (one_bys _)) (by first | omega | (dsimp only; omega)) rfl ?_
        intro Ai ci Ei hbi
        simp only [Nat.zero_add, List.nil_append] at hbi ⊢
        try refine wx_cat ?_
        (try refine wx_nil ?_)
        refine wq_held (by (first | exact fun _ h => h | exact fun _ h => res_takes h)) ?_
        refine wh_eff 12 rfl (by decide +kernel) ?_
        refine wl_appT rfl hb9 rfl rfl (fun w' hr => src_slice rfl (u2.keep hr).rd (by simp) (by decide) (one_bys _)) (by first | omega | (dsimp only; omega)) rfl ?_
        intro Am cm Em hbm
        simp only [Nat.zero_add, List.nil_append] at hbm ⊢
        try refine wx_cat ?_
        (try refine wx_nil ?_)
        refine wq_held (by (first | exact fun _ h => h | exact fun _ h => res_takes h)) ?_
        refine wh_eff 16 rfl (by decide +kernel) ?_
        refine wl_appT rfl hb13 rfl rfl (fun w' hr => src_slice rfl (u3.keep hr).rd (flat_len (k := 4) (fun _ => rfl) _) (by decide) (one_flat (f := FaultW.cells) (fun _ => rfl) _)) (by first | omega | (dsimp only; omega)) rfl ?_
        intro Af cf Ef hbf
        simp only [Nat.zero_add, List.nil_append] at hbf ⊢
        try refine wx_cat ?_
        (try refine wx_nil ?_)
        refine wq_held (by (first | exact fun _ h => h | exact fun _ h => res_takes h)) ?_
        refine wh_eff 17 rfl (by decide +kernel) ?_
        refine wl_callT (M1 := []) (fun w' hr ho => New_ok (fl := fl.xs) (by omega) (by omega) (by omega) w' (hbi.vwT hr) (hbm.vwT hr) (hbf.vwT hr) (fun e => List.eq_nil_of_length_eq_zero (hbf.none0 e)) he) rfl rfl rfl ?_
        rintro y hy
        refine wx_cat ?_
        (try refine wx_nil ?_)
        refine wq_held (by (first | exact fun _ h => h | exact fun _ h => res_takes h)) ?_
        (apply wh_take 18; (first | exact fun _ h => h | exact fun _ h => res_takes h); exact hQd; rfl; exact v_move rfl; decide +kernel; decide +kernel; decide +kernel; rfl)
        (apply wh_take 19; (first | exact fun _ h => h | exact fun _ h => res_takes h); exact hQd; rfl; exact v_extract rfl rfl; decide +kernel; decide +kernel; decide +kernel; rfl)
        (apply wh_take 20; (first | exact fun _ h => h | exact fun _ h => res_takes h); exact hQd; rfl; exact v_extract rfl rfl; decide +kernel; decide +kernel; decide +kernel; rfl)
        (apply wh_take 21; (first | exact fun _ h => h | exact fun _ h => res_takes h); exact hQd; rfl; exact v_assign rfl; decide +kernel; decide +kernel; decide +kernel; rfl)
        (apply wh_take 22; (first | exact fun _ h => h | exact fun _ h => res_takes h); exact hQd; rfl; exact v_assign rfl; decide +kernel; decide +kernel; decide +kernel; rfl)
        refine wh_done (by decide +kernel) ?_
        refine wq_cutK (y) ?_ (by repeat (first | exact trivial | refine ⟨rfl, ?_⟩)) (by first | exact catEq | exact rfl)
        exact hy
    · refine wl_lit0 rfl rfl (fun g13 E13 hb13 => ?_)
      (try refine wx_nil ?_)
      refine wq_held (by (first | exact fun _ h => h | exact fun _ h => res_takes h)) ?_
      refine wh_eff2 5 9 rfl rfl (by decide +kernel) ?_ ?_
      · refine wl_lit0 rfl rfl (fun g5 E5 hb5 => ?_)
        (try refine wx_nil ?_)
        refine wq_held (by (first | exact fun _ h => h | exact fun _ h => res_takes h)) ?_
        refine wh_eff2 8 9 rfl rfl (by decide +kernel) ?_ ?_
        · refine wl_appT rfl hb5 rfl rfl (fun w' hr => src_slice rfl (u1.keep hr).rd (by simp) (by decide) (one_bys _)) (by first | omega | (dsimp only; omega)) rfl ?_
          intro Ai ci Ei hbi
          simp only [Nat.zero_add, List.nil_append] at hbi ⊢
          try refine wx_cat ?_
          (try refine wx_nil ?_)
          refine wq_held (by (first | exact fun _ h => h | exact fun _ h => res_takes h)) ?_
          refine wh_eff 9 rfl (by decide +kernel) ?_
          refine wl_lit0 rfl rfl (fun g9 E9 hb9 => ?_)
          (try refine wx_nil ?_)
          refine wq_held (by (first | exact fun _ h => h | exact fun _ h => res_takes h)) ?_
          refine wh_eff 12 rfl (by decide +kernel) ?_
          refine wl_appT rfl hb9 rfl rfl (fun w' hr => src_slice rfl (u2.keep hr).rd (by simp) (by decide) (one_bys _)) (by first | omega | (dsimp only; omega)) rfl ?_
          intro Am cm Em hbm
          simp only [Nat.zero_add, List.nil_append] at hbm ⊢
          try refine wx_cat ?_
          (try refine wx_nil ?_)
          refine wq_held (by (first | exact fun _ h => h | exact fun _ h => res_takes h)) ?_
          refine wh_eff 16 rfl (by decide +kernel) ?_
          refine wl_appT rfl hb13 rfl rfl (fun w' hr => src_slice rfl (u3.keep hr).rd (flat_len (k := 4) (fun _ => rfl) _) (by decide) (one_flat (f := FaultW.cells) (fun _ => rfl) _)) (by first | omega | (dsimp only; omega)) rfl ?_
          intro Af cf Ef hbf
          simp only [Nat.zero_add, List.nil_append] at hbf ⊢
          try refine wx_cat ?_
          (try refine wx_nil ?_)
          refine wq_held (by (first | exact fun _ h => h | exact fun _ h => res_takes h)) ?_
          refine wh_eff 17 rfl (by decide +kernel) ?_
          refine wl_callT (M1 := []) (fun w' hr ho => New_ok (fl := fl.xs) (by omega) (by omega) (by omega) w' (hbi.vwT hr) (hbm.vwT hr) (hbf.vwT hr) (fun e => List.eq_nil_of_length_eq_zero (hbf.none0 e)) he) rfl rfl rfl ?_
          rintro y hy
          refine wx_cat ?_
          (try refine wx_nil ?_)
          refine wq_held (by (first | exact fun _ h => h | exact fun _ h => res_takes h)) ?_
          (apply wh_take 18; (first | exact fun _ h => h | exact fun _ h => res_takes h); exact hQd; rfl; exact v_move rfl; decide +kernel; decide +kernel; decide +kernel; rfl)
          (apply wh_take 19; (first | exact fun _ h => h | exact fun _ h => res_takes h); exact hQd; rfl; exact v_extract rfl rfl; decide +kernel; decide +kernel; decide +kernel; rfl)
          (apply wh_take 20; (first | exact fun _ h => h | exact fun _ h => res_takes h); exact hQd; rfl; exact v_extract rfl rfl; decide +kernel; decide +kernel; decide +kernel; rfl)
          (apply wh_take 21; (first | exact fun _ h => h | exact fun _ h => res_takes h); exact hQd; rfl; exact v_assign rfl; decide +kernel; decide +kernel; decide +kernel; rfl)
          (apply wh_take 22; (first | exact fun _ h => h | exact fun _ h => res_takes h); exact hQd; rfl; exact v_assign rfl; decide +kernel; decide +kernel; decide +kernel; rfl)
          refine wh_done (by decide +kernel) ?_
          refine wq_cutK (y) ?_ (by repeat (first | exact trivial | refine ⟨rfl, ?_⟩)) (by first | exact catEq | exact rfl)
          exact hy
        · refine wl_lit0 rfl rfl (fun g9 E9 hb9 => ?_)
          (try refine wx_nil ?_)
          refine wq_held (by (first | exact fun _ h => h | exact fun _ h => res_takes h)) ?_
          refine wh_eff 8 rfl (by decide +kernel) ?_
          refine wl_appT rfl hb5 rfl rfl (fun w' hr => src_slice rfl (u1.keep hr).rd (by simp) (by decide) (one_bys _)) (by first | omega | (dsimp only; omega)) rfl ?_
          intro Ai ci Ei hbi
          simp only [Nat.zero_add, List.nil_append] at hbi ⊢
          try refine wx_cat ?_
          (try refine wx_nil ?_)
          refine wq_held (by (first | exact fun _ h => h | exact fun _ h => res_takes h)) ?_
          refine wh_eff 12 rfl (by decide +kernel) ?_
          refine wl_appT rfl hb9 rfl rfl (fun w' hr => src_slice rfl (u2.keep hr).rd (by simp) (by decide) (one_bys _)) (by first | omega | (dsimp only; omega)) rfl ?_
          intro Am cm Em hbm
          simp only [Nat.zero_add, List.nil_append] at hbm ⊢
          try refine wx_cat ?_
          (try refine wx_nil ?_)
          refine wq_held (by (first | exact fun _ h => h | exact fun _ h => res_takes h)) ?_
          refine wh_eff 16 rfl (by decide +kernel) ?_
          refine wl_appT rfl hb13 rfl rfl (fun w' hr => src_slice rfl (u3.keep hr).rd (flat_len (k := 4) (fun _ => rfl) _) (by decide) (one_flat (f := FaultW.cells) (fun _ => rfl) _)) (by first | omega | (dsimp only; omega)) rfl ?_
          intro Af cf Ef hbf
          simp only [Nat.zero_add, List.nil_append] at hbf ⊢
          try refine wx_cat ?_
          (try refine wx_nil ?_)
          refine wq_held (by (first | exact fun _ h => h | exact fun _ h => res_takes h)) ?_
          refine wh_eff 17 rfl (by decide +kernel) ?_
          refine wl_callT (M1 := []) (fun w' hr ho => New_ok (fl := fl.xs) (by omega) (by omega) (by omega) w' (hbi.vwT hr) (hbm.vwT hr) (hbf.vwT hr) (fun e => List.eq_nil_of_length_eq_zero (hbf.none0 e)) he) rfl rfl rfl ?_
          rintro y hy
          refine wx_cat ?_
          (try refine wx_nil ?_)
          refine wq_held (by (first | exact fun _ h => h | exact fun _ h => res_takes h)) ?_
          (apply wh_take 18; (first | exact fun _ h => h | exact fun _ h => res_takes h); exact hQd; rfl; exact v_move rfl; decide +kernel; decide +kernel; decide +kernel; rfl)
          (apply wh_take 19; (first | exact fun _ h => h | exact fun _ h => res_takes h); exact hQd; rfl; exact v_extract rfl rfl; decide +kernel; decide +kernel; decide +kernel; rfl)
          (apply wh_take 20; (first | exact fun _ h => h | exact fun _ h => res_takes h); exact hQd; rfl; exact v_extract rfl rfl; decide +kernel; decide +kernel; decide +kernel; rfl)
          (apply wh_take 21; (first | exact fun _ h => h | exact fun _ h => res_takes h); exact hQd; rfl; exact v_assign rfl; decide +kernel; decide +kernel; decide +kernel; rfl)
          (apply wh_take 22; (first | exact fun _ h => h | exact fun _ h => res_takes h); exact hQd; rfl; exact v_assign rfl; decide +kernel; decide +kernel; decide +kernel; rfl)
          refine wh_done (by decide +kernel) ?_
          refine wq_cutK (y) ?_ (by repeat (first | exact trivial | refine ⟨rfl, ?_⟩)) (by first | exact catEq | exact rfl)
          exact hy
      · refine wl_lit0 rfl rfl (fun g9 E9 hb9 => ?_)
        (try refine wx_nil ?_)
        refine wq_held (by (first | exact fun _ h => h | exact fun _ h => res_takes h)) ?_
        refine wh_eff 5 rfl (by decide +kernel) ?_
        refine wl_lit0 rfl rfl (fun g5 E5 hb5 => ?_)
        (try refine wx_nil ?_)
        refine wq_held (by (first | exact fun _ h => h | exact fun _ h => res_takes h)) ?_
        refine wh_eff 8 rfl (by decide +kernel) ?_
        refine wl_appT rfl hb5 rfl rfl (fun w' hr => src_slice rfl (u1.keep hr).rd (by simp) (by decide) (one_bys _)) (by first | omega | (dsimp only; omega)) rfl ?_
        intro Ai ci Ei hbi
        simp only [Nat.zero_add, List.nil_append] at hbi ⊢
        try refine wx_cat ?_
        (try refine wx_nil ?_)
        refine wq_held (by (first | exact fun _ h => h | exact fun _ h => res_takes h)) ?_
        refine wh_eff 12 rfl (by decide +kernel) ?_
        refine wl_appT rfl hb9 rfl rfl (fun w' hr => src_slice rfl (u2.keep hr).rd (by simp) (by decide) (one_bys _)) (by first | omega | (dsimp only; omega)) rfl ?_
        intro Am cm Em hbm
        simp only [Nat.zero_add, List.nil_append] at hbm ⊢
        try refine wx_cat ?_
        (try refine wx_nil ?_)
        refine wq_held (by (first | exact fun _ h => h | exact fun _ h => res_takes h)) ?_
        refine wh_eff 16 rfl (by decide +kernel) ?_
        refine wl_appT rfl hb13 rfl rfl (fun w' hr => src_slice rfl (u3.keep hr).rd (flat_len (k := 4) (fun _ => rfl) _) (by decide) (one_flat (f := FaultW.cells) (fun _ => rfl) _)) (by first | omega | (dsimp only; omega)) rfl ?_
        intro Af cf Ef hbf
        simp only [Nat.zero_add, List.nil_append] at hbf ⊢
        try refine wx_cat ?_
        (try refine wx_nil ?_)
        refine wq_held (by (first | exact fun _ h => h | exact fun _ h => res_takes h)) ?_
        refine wh_eff 17 rfl (by decide +kernel) ?_
        refine wl_callT (M1 := []) (fun w' hr ho => New_ok (fl := fl.xs) (by omega) (by omega) (by omega) w' (hbi.vwT hr) (hbm.vwT hr) (hbf.vwT hr) (fun e => List.eq_nil_of_length_eq_zero (hbf.none0 e)) he) rfl rfl rfl ?_
        rintro y hy
        refine wx_cat ?_
        (try refine wx_nil ?_)
        refine wq_held (by (first | exact fun _ h => h | exact fun _ h => res_takes h)) ?_
        (apply wh_take 18; (first | exact fun _ h => h | exact fun _ h => res_takes h); exact hQd; rfl; exact v_move rfl; decide +kernel; decide +kernel; decide +kernel; rfl)
        (apply wh_take 19; (first | exact fun _ h => h | exact fun _ h => res_takes h); exact hQd; rfl; exact v_extract rfl rfl; decide +kernel; decide +kernel; decide +kernel; rfl)
        (apply wh_take 20; (first | exact fun _ h => h | exact fun _ h => res_takes h); exact hQd; rfl; exact v_extract rfl rfl; decide +kernel; decide +kernel; decide +kernel; rfl)
        (apply wh_take 21; (first | exact fun _ h => h | exact fun _ h => res_takes h); exact hQd; rfl; exact v_assign rfl; decide +kernel; decide +kernel; decide +kernel; rfl)
        (apply wh_take 22; (first | exact fun _ h => h | exact fun _ h => res_takes h); exact hQd; rfl; exact v_assign rfl; decide +kernel; decide +kernel; decide +kernel; rfl)
        refine wh_done (by decide +kernel) ?_
        refine wq_cutK (y) ?_ (by repeat (first | exact trivial | refine ⟨rfl, ?_⟩)) (by first | exact catEq | exact rfl)
        exact hy
  rintro y hy
  try dsimp only
  refine wc_fcat ?_
  refine wc_cat ?_
  repeat (first | (apply wx_val; (first | exact v_move rfl | exact v_assign rfl | exact v_faddr rfl rfl | exact v_ldT rfl rfl rfl (by rfl) | exact v_ldAT rfl (by rfl) | exact v_extract rfl rfl | exact v_len rfl rfl | exact v_slen rfl rfl | exact v_eq rfl rfl | exact v_ne rfl rfl | exact v_eqnil rfl rfl rfl | exact v_nenil rfl rfl rfl | exact v_eqnn rfl rfl rfl | exact v_nenn rfl rfl rfl | exact v_streq rfl rfl | exact v_strne rfl rfl | exact v_pickT rfl rfl | exact v_pickF rfl rfl | exact v_and rfl rfl | exact v_or rfl rfl | exact v_xor rfl rfl | exact v_shr rfl rfl (by omega) | exact v_shl rfl rfl (by omega) | exact v_pick rfl rfl rfl | (first | exact v_ldQ 0 0 rfl rfl rfl rfl rfl | exact v_ldQ 1 0 rfl rfl rfl rfl rfl | exact v_ldQ 2 0 rfl rfl rfl rfl rfl | exact v_ldQ 3 0 rfl rfl rfl rfl rfl) | exact v_eqA rfl rfl (by kernel_rfl) | exact v_neA rfl rfl (by kernel_rfl) | exact v_beq rfl rfl rfl | exact v_bne rfl rfl rfl | exact v_eqsnil rfl rfl rfl | exact v_nesnil rfl rfl rfl); rfl) | refine wx_no rfl rfl rfl ?_ | refine wx_undef rfl rfl rfl ?_ | refine wx_ungd rfl rfl ?_ | refine wc_seq ?_ | refine wc_region ?_ | refine wx_nil ?_ | refine wq_next ?_ | refine wc_block ?_ | refine wc_ret ?_ | refine wc_skip ?_ | refine wc_exit ?_ | refine wc_label ?_ | refine wq_then_ret ?_ | refine wq_then_exit ?_ | refine wq_block ?_ | refine wq_block_ret ?_ | refine wq_block_exit rfl ?_ | refine wq_block_pass rfl ?_ | refine wc_reads rfl (by decide +kernel) ?_ | refine wc_condT rfl ?_ | refine wc_condF rfl ?_ | refine wx_setn ?_ | refine wc_setn ?_ | refine wq_setn ?_ | refine wx_cat ?_ | refine wc_cat ?_ | refine wq_cat ?_)
  refine wc_meetK (ι := Unit) [1, 2, 5] (fun _ => [(6, .int .i64 0)]) (fun _ => []) (M1 := []) (fun _ => True) rfl ?_ ?_
  ·
    refine wc_cat ?_
    refine wc_heldQ [setB g1 ⟨(K : Nat), (C : Nat), inp, img, fl⟩] rfl (by (repeat (first | with_reducible exact panicOk_body | with_reducible apply panicOk_block | with_reducible apply panicOk_then))) (fun hQd => ?_)
    (apply wh_take 0; (first | exact fun _ h => h | exact fun _ h => res_takes h); exact hQd; rfl; exact v_faddr rfl rfl; decide +kernel; decide +kernel; decide +kernel; rfl)
    (apply wh_take 1; (first | exact fun _ h => h | exact fun _ h => res_takes h); exact hQd; rfl; (first | exact v_ldT rfl rfl rfl (by rfl) | exact v_ldAT rfl (by rfl) | (first | exact v_ldQ 0 0 rfl rfl rfl rfl rfl | exact v_ldQ 1 0 rfl rfl rfl rfl rfl | exact v_ldQ 2 0 rfl rfl rfl rfl rfl | exact v_ldQ 3 0 rfl rfl rfl rfl rfl)); decide +kernel; decide +kernel; decide +kernel; rfl)
    (apply wh_take 2; (first | exact fun _ h => h | exact fun _ h => res_takes h); exact hQd; rfl; exact v_faddr rfl rfl; decide +kernel; decide +kernel; decide +kernel; rfl)
    (apply wh_take 3; (first | exact fun _ h => h | exact fun _ h => res_takes h); exact hQd; rfl; (first | exact v_ldT rfl rfl rfl (by rfl) | exact v_ldAT rfl (by rfl) | (first | exact v_ldQ 0 0 rfl rfl rfl rfl rfl | exact v_ldQ 1 0 rfl rfl rfl rfl rfl | exact v_ldQ 2 0 rfl rfl rfl rfl rfl | exact v_ldQ 3 0 rfl rfl rfl rfl rfl)); decide +kernel; decide +kernel; decide +kernel; rfl)
    (apply wh_take 4; (first | exact fun _ h => h | exact fun _ h => res_takes h); exact hQd; rfl; exact v_faddr rfl rfl; decide +kernel; decide +kernel; decide +kernel; rfl)
    (apply wh_take 5; (first | exact fun _ h => h | exact fun _ h => res_takes h); exact hQd; rfl; (first | exact v_ldT rfl rfl rfl (by rfl) | exact v_ldAT rfl (by rfl) | (first | exact v_ldQ 0 0 rfl rfl rfl rfl rfl | exact v_ldQ 1 0 rfl rfl rfl rfl rfl | exact v_ldQ 2 0 rfl rfl rfl rfl rfl | exact v_ldQ 3 0 rfl rfl rfl rfl rfl)); decide +kernel; decide +kernel; decide +kernel; rfl)
    (apply wh_take 6; (first | exact fun _ h => h | exact fun _ h => res_takes h); exact hQd; rfl; (first | exact v_len rfl rfl | exact v_slen rfl rfl); decide +kernel; decide +kernel; decide +kernel; rfl)
    (apply wh_take 7; (first | exact fun _ h => h | exact fun _ h => res_takes h); exact hQd; rfl; exact v_faddr rfl rfl; decide +kernel; decide +kernel; decide +kernel; rfl)
    (apply wh_take 8; (first | exact fun _ h => h | exact fun _ h => res_takes h); exact hQd; rfl; (first | exact v_ldT rfl rfl rfl (by rfl) | exact v_ldAT rfl (by rfl) | (first | exact v_ldQ 0 0 rfl rfl rfl rfl rfl | exact v_ldQ 1 0 rfl rfl rfl rfl rfl | exact v_ldQ 2 0 rfl rfl rfl rfl rfl | exact v_ldQ 3 0 rfl rfl rfl rfl rfl)); decide +kernel; decide +kernel; decide +kernel; rfl)
    (apply wh_take 9; (first | exact fun _ h => h | exact fun _ h => res_takes h); exact hQd; rfl; (first | exact v_len rfl rfl | exact v_slen rfl rfl); decide +kernel; decide +kernel; decide +kernel; rfl)
    (apply wh_take 10; (first | exact fun _ h => h | exact fun _ h => res_takes h); exact hQd; rfl; exact v_faddr rfl rfl; decide +kernel; decide +kernel; decide +kernel; rfl)
    (apply wh_take 11; (first | exact fun _ h => h | exact fun _ h => res_takes h); exact hQd; rfl; (first | exact v_ldT rfl rfl rfl (by rfl) | exact v_ldAT rfl (by rfl) | (first | exact v_ldQ 0 0 rfl rfl rfl rfl rfl | exact v_ldQ 1 0 rfl rfl rfl rfl rfl | exact v_ldQ 2 0 rfl rfl rfl rfl rfl | exact v_ldQ 3 0 rfl rfl rfl rfl rfl)); decide +kernel; decide +kernel; decide +kernel; rfl)
    refine wh_eff 12 rfl (by decide +kernel) ?_
    refine wl_callT (M1 := []) (fun w' hr ho => faults_spec (fl := fl.xs) (by omega) w' (u3.keep hr)) rfl rfl rfl ?_
    rintro ⟨Af, cf, Ef⟩ hbf
    dsimp only at hbf ⊢
    refine wx_cat ?_
    (try refine wx_nil ?_)
    refine wq_held (by (first | exact fun _ h => h | exact fun _ h => res_takes h)) ?_
    refine wh_eff 13 rfl (by decide +kernel) ?_
    refine wl_callT (M1 := []) (fun w' hr ho => Check_spec (K : Nat) (C : Nat) (fl := fl.xs) (by omega) (by omega) (by omega) w' (hbf.vwT hr)) rfl rfl rfl ?_
    rintro - -
    rw [he]
    refine wx_cat ?_
    (try refine wx_nil ?_)
    refine wq_held (by (first | exact fun _ h => h | exact fun _ h => res_takes h)) ?_
    (apply wh_take 14; (first | exact fun _ h => h | exact fun _ h => res_takes h); exact hQd; rfl; exact v_assign rfl; decide +kernel; decide +kernel; decide +kernel; rfl)
    refine wh_done (by decide +kernel) ?_
    refine wq_cutK (()) ?_ (by repeat (first | exact trivial | refine ⟨rfl, ?_⟩)) (by first | exact catEq | exact rfl)
    trivial
  rintro - -
  try dsimp only
  refine wc_fcat ?_
  refine wc_cat ?_
  repeat (first | (apply wx_val; (first | exact v_move rfl | exact v_assign rfl | exact v_faddr rfl rfl | exact v_ldT rfl rfl rfl (by rfl) | exact v_ldAT rfl (by rfl) | exact v_extract rfl rfl | exact v_len rfl rfl | exact v_slen rfl rfl | exact v_eq rfl rfl | exact v_ne rfl rfl | exact v_eqnil rfl rfl rfl | exact v_nenil rfl rfl rfl | exact v_eqnn rfl rfl rfl | exact v_nenn rfl rfl rfl | exact v_streq rfl rfl | exact v_strne rfl rfl | exact v_pickT rfl rfl | exact v_pickF rfl rfl | exact v_and rfl rfl | exact v_or rfl rfl | exact v_xor rfl rfl | exact v_shr rfl rfl (by omega) | exact v_shl rfl rfl (by omega) | exact v_pick rfl rfl rfl | (first | exact v_ldQ 0 0 rfl rfl rfl rfl rfl | exact v_ldQ 1 0 rfl rfl rfl rfl rfl | exact v_ldQ 2 0 rfl rfl rfl rfl rfl | exact v_ldQ 3 0 rfl rfl rfl rfl rfl) | exact v_eqA rfl rfl (by kernel_rfl) | exact v_neA rfl rfl (by kernel_rfl) | exact v_beq rfl rfl rfl | exact v_bne rfl rfl rfl | exact v_eqsnil rfl rfl rfl | exact v_nesnil rfl rfl rfl); rfl) | refine wx_no rfl rfl rfl ?_ | refine wx_undef rfl rfl rfl ?_ | refine wx_ungd rfl rfl ?_ | refine wc_seq ?_ | refine wc_region ?_ | refine wx_nil ?_ | refine wq_next ?_ | refine wc_block ?_ | refine wc_ret ?_ | refine wc_skip ?_ | refine wc_exit ?_ | refine wc_label ?_ | refine wq_then_ret ?_ | refine wq_then_exit ?_ | refine wq_block ?_ | refine wq_block_ret ?_ | refine wq_block_exit rfl ?_ | refine wq_block_pass rfl ?_ | refine wc_reads rfl (by decide +kernel) ?_ | refine wc_condT rfl ?_ | refine wc_condF rfl ?_ | refine wx_setn ?_ | refine wc_setn ?_ | refine wq_setn ?_ | refine wx_cat ?_ | refine wc_cat ?_ | refine wq_cat ?_)
  refine wc_meetK (ι := RLay) [2] (fun z => [(3, .pointer (some ⟨z.g, 0, none⟩)), (4, .bool true)]) (fun z => rM (DevS.fresh K C inp.xs img.xs fl.xs) z) (M1 := []) (fun z => RdOk (DevS.fresh K C inp.xs img.xs fl.xs) z) rfl ?_ ?_
  ·
    refine wc_cat ?_
    refine wc_heldQ [setB g1 ⟨(K : Nat), (C : Nat), inp, img, fl⟩] rfl (by (repeat (first | with_reducible exact panicOk_body | with_reducible apply panicOk_block | with_reducible apply panicOk_then))) (fun hQd => ?_)
    (apply wh_take 0; (first | exact fun _ h => h | exact fun _ h => res_takes h); exact hQd; rfl; exact v_move rfl; decide +kernel; decide +kernel; decide +kernel; rfl)
    (apply wh_take 1; (first | exact fun _ h => h | exact fun _ h => res_takes h); exact hQd; rfl; exact v_faddr rfl rfl; decide +kernel; decide +kernel; decide +kernel; rfl)
    (apply wh_take 2; (first | exact fun _ h => h | exact fun _ h => res_takes h); exact hQd; rfl; (first | exact v_ldT rfl rfl rfl (by rfl) | exact v_ldAT rfl (by rfl) | (first | exact v_ldQ 0 0 rfl rfl rfl rfl rfl | exact v_ldQ 1 0 rfl rfl rfl rfl rfl | exact v_ldQ 2 0 rfl rfl rfl rfl rfl | exact v_ldQ 3 0 rfl rfl rfl rfl rfl)); decide +kernel; decide +kernel; decide +kernel; rfl)
    (apply wh_take 3; (first | exact fun _ h => h | exact fun _ h => res_takes h); exact hQd; rfl; exact v_faddr rfl rfl; decide +kernel; decide +kernel; decide +kernel; rfl)
    (apply wh_take 4; (first | exact fun _ h => h | exact fun _ h => res_takes h); exact hQd; rfl; (first | exact v_ldT rfl rfl rfl (by rfl) | exact v_ldAT rfl (by rfl) | (first | exact v_ldQ 0 0 rfl rfl rfl rfl rfl | exact v_ldQ 1 0 rfl rfl rfl rfl rfl | exact v_ldQ 2 0 rfl rfl rfl rfl rfl | exact v_ldQ 3 0 rfl rfl rfl rfl rfl)); decide +kernel; decide +kernel; decide +kernel; rfl)
    (apply wh_take 5; (first | exact fun _ h => h | exact fun _ h => res_takes h); exact hQd; rfl; exact v_faddr rfl rfl; decide +kernel; decide +kernel; decide +kernel; rfl)
    (apply wh_take 6; (first | exact fun _ h => h | exact fun _ h => res_takes h); exact hQd; rfl; (first | exact v_ldT rfl rfl rfl (by rfl) | exact v_ldAT rfl (by rfl) | (first | exact v_ldQ 0 0 rfl rfl rfl rfl rfl | exact v_ldQ 1 0 rfl rfl rfl rfl rfl | exact v_ldQ 2 0 rfl rfl rfl rfl rfl | exact v_ldQ 3 0 rfl rfl rfl rfl rfl)); decide +kernel; decide +kernel; decide +kernel; rfl)
    (apply wh_take 7; (first | exact fun _ h => h | exact fun _ h => res_takes h); exact hQd; rfl; exact v_faddr rfl rfl; decide +kernel; decide +kernel; decide +kernel; rfl)
    (apply wh_take 8; (first | exact fun _ h => h | exact fun _ h => res_takes h); exact hQd; rfl; (first | exact v_ldT rfl rfl rfl (by rfl) | exact v_ldAT rfl (by rfl) | (first | exact v_ldQ 0 0 rfl rfl rfl rfl rfl | exact v_ldQ 1 0 rfl rfl rfl rfl rfl | exact v_ldQ 2 0 rfl rfl rfl rfl rfl | exact v_ldQ 3 0 rfl rfl rfl rfl rfl)); decide +kernel; decide +kernel; decide +kernel; rfl)
    (apply wh_take 9; (first | exact fun _ h => h | exact fun _ h => res_takes h); exact hQd; rfl; exact v_faddr rfl rfl; decide +kernel; decide +kernel; decide +kernel; rfl)
    (apply wh_take 10; (first | exact fun _ h => h | exact fun _ h => res_takes h); exact hQd; rfl; (first | exact v_ldT rfl rfl rfl (by rfl) | exact v_ldAT rfl (by rfl) | (first | exact v_ldQ 0 0 rfl rfl rfl rfl rfl | exact v_ldQ 1 0 rfl rfl rfl rfl rfl | exact v_ldQ 2 0 rfl rfl rfl rfl rfl | exact v_ldQ 3 0 rfl rfl rfl rfl rfl)); decide +kernel; decide +kernel; decide +kernel; rfl)
    refine wh_eff 11 rfl (by decide +kernel) ?_
    refine wl_callT (M1 := []) (fun w' hr ho => faults_spec (fl := fl.xs) (by omega) w' (u3.keep hr)) rfl rfl rfl ?_
    rintro ⟨Af, cf, Ef⟩ hbf
    dsimp only at hbf ⊢
    refine wx_cat ?_
    (try refine wx_nil ?_)
    refine wq_held (by (first | exact fun _ h => h | exact fun _ h => res_takes h)) ?_
    refine wh_eff 12 rfl (by decide +kernel) ?_
    refine wl_callT (M1 := []) (fun w' hr ho => rNew_spec (B := K) (C := C) (fl := fl.xs) (by omega) (by omega) (by omega) (by have : ((K * C : Nat) : Int) = K * C := Int.natCast_mul _ _; omega) (by omega) q8 w' (u1.keep hr) (u2.keep hr) (hbf.vwT hr)) rfl rfl rfl ?_
    rintro z hz
    refine wx_cat ?_
    (try refine wx_nil ?_)
    refine wq_held (by (first | exact fun _ h => h | exact fun _ h => res_takes h)) ?_
    (apply wh_take 13; (first | exact fun _ h => h | exact fun _ h => res_takes h); exact hQd; rfl; exact v_assign rfl; decide +kernel; decide +kernel; decide +kernel; rfl)
    (apply wh_take 14; (first | exact fun _ h => h | exact fun _ h => res_takes h); exact hQd; rfl; exact v_assign rfl; decide +kernel; decide +kernel; decide +kernel; rfl)
    (apply wh_take 15; (first | exact fun _ h => h | exact fun _ h => res_takes h); exact hQd; rfl; exact v_assign rfl; decide +kernel; decide +kernel; decide +kernel; rfl)
    refine wh_done (by decide +kernel) ?_
    refine wq_cutK (z) ?_ (by repeat (first | exact trivial | refine ⟨rfl, ?_⟩)) (by first | exact catEq | exact rfl)
    exact hz
  rintro z hz
  try dsimp only
  refine wc_fcat ?_
  refine wc_cat ?_
  repeat (first | (apply wx_val; (first | exact v_move rfl | exact v_assign rfl | exact v_faddr rfl rfl | exact v_ldT rfl rfl rfl (by rfl) | exact v_ldAT rfl (by rfl) | exact v_extract rfl rfl | exact v_len rfl rfl | exact v_slen rfl rfl | exact v_eq rfl rfl | exact v_ne rfl rfl | exact v_eqnil rfl rfl rfl | exact v_nenil rfl rfl rfl | exact v_eqnn rfl rfl rfl | exact v_nenn rfl rfl rfl | exact v_streq rfl rfl | exact v_strne rfl rfl | exact v_pickT rfl rfl | exact v_pickF rfl rfl | exact v_and rfl rfl | exact v_or rfl rfl | exact v_xor rfl rfl | exact v_shr rfl rfl (by omega) | exact v_shl rfl rfl (by omega) | exact v_pick rfl rfl rfl | (first | exact v_ldQ 0 0 rfl rfl rfl rfl rfl | exact v_ldQ 1 0 rfl rfl rfl rfl rfl | exact v_ldQ 2 0 rfl rfl rfl rfl rfl | exact v_ldQ 3 0 rfl rfl rfl rfl rfl) | exact v_eqA rfl rfl (by kernel_rfl) | exact v_neA rfl rfl (by kernel_rfl) | exact v_beq rfl rfl rfl | exact v_bne rfl rfl rfl | exact v_eqsnil rfl rfl rfl | exact v_nesnil rfl rfl rfl); rfl) | refine wx_no rfl rfl rfl ?_ | refine wx_undef rfl rfl rfl ?_ | refine wx_ungd rfl rfl ?_ | refine wc_seq ?_ | refine wc_region ?_ | refine wx_nil ?_ | refine wq_next ?_ | refine wc_block ?_ | refine wc_ret ?_ | refine wc_skip ?_ | refine wc_exit ?_ | refine wc_label ?_ | refine wq_then_ret ?_ | refine wq_then_exit ?_ | refine wq_block ?_ | refine wq_block_ret ?_ | refine wq_block_exit rfl ?_ | refine wq_block_pass rfl ?_ | refine wc_reads rfl (by decide +kernel) ?_ | refine wc_condT rfl ?_ | refine wc_condF rfl ?_ | refine wx_setn ?_ | refine wc_setn ?_ | refine wq_setn ?_ | refine wx_cat ?_ | refine wc_cat ?_ | refine wq_cat ?_)
  exact wq_ret3T (y, z) rfl rfl rfl rfl rfl ⟨hy, hz⟩ catEq
end Go.Proofs.Ytfdkdcopjajklaa
