/- A span asked for; a tree's height; the count. -/
import Derived.Test.YtjeghbachokljaaSpH
import Derived.Test.YtjeghbachokljaaSpM
set_option linter.unusedVariables false
set_option linter.unusedSimpArgs false
namespace Go.Proofs.Ytjeghbachokljaa
open Go
set_option maxRecDepth 20000
set_option maxHeartbeats 2000000
attribute [local irreducible] WX WC WQ Val VCall
section fs
variable {g : Nat} {y : Fa} {cnt : Int} {N : List Nd} {sp : List Nat} {E Es : Seg} {L : TE ByteArray} {clk : Nat}
/-- the root that the map holds for a key -/
abbrev RootAt (L : TE ByteArray) (k : ByteArray) (t : Tr) : Prop := (aget k L).getD (.int .i64 0) = .int .i64 (t.ix : Nat)
theorem has_spec (k : ByteArray) (s : Sp) {t : Tr} (h1 : ArO N N.length y.A y.c E) (h3 : Inb N) (ht : At N t) (hL : RootAt L k t) (w : World) (ho : Own w [fsB g y N.length sp.length cnt, E, mpB y.m L clk]) :
    Calls Try.prog 24 #[.pointer (some ⟨g, 0, none⟩), .string k, .agg s.cells.toArray] w (Ret (β := Unit) w (ids [fsB g y N.length sp.length cnt, E, mpB y.m L clk]) (fun _ => .bool (hasT t s)) (fun _ => [fsB g y N.length sp.length cnt, E, mpB y.m L clk]) (fun _ => True)) := by
  refine go [.pointer (some ⟨g, 0, none⟩), .string k, .agg s.cells.toArray] [fsB g y N.length sp.length cnt, E, mpB y.m L clk] Try.func24 Try.ntmps24 rfl rfl ho ?_
  have hp := h3.pos
  have hsm := h3.small
  obtain ⟨ga, hA⟩ := h1.ptr hp
  repeat (first | refine wc_seq ?_ | refine wc_region ?_)
  refine wl_boxA rfl rfl (fun g5 => ?_)
  repeat (first | (apply wx_val; (first | exact v_move rfl | exact v_assign rfl | exact v_nil rfl | exact v_faddr rfl rfl | exact v_ldT rfl rfl rfl (by rfl)); rfl) | refine wc_seq ?_ | refine wc_region ?_ | refine wx_nil ?_ | refine wq_next ?_)
  (try refine wx_ungd rfl rfl ?_)
  apply wx_val
  exact v_agetT (clk := clk) hL rfl rfl rfl rfl rfl
  rfl
  repeat (first | (apply wx_val; (first | exact v_assign rfl); rfl) | refine wc_seq ?_ | refine wx_nil ?_ | refine wq_next ?_ | refine wc_block ?_)
  refine wc_loopK (ι := Tr) [0, 5] (fun u => [(7, .int .i64 (u.ix : Nat))]) (fun u => []) (fun u => At N u ∧ hasT t s = hasT u s) (fun u => u.size) (t) rfl ?_ (by repeat (first | exact trivial | refine ⟨rfl, ?_⟩)) ?_
  · exact ⟨ht, rfl⟩
  rintro u ⟨hu, hh⟩
  try dsimp only
  refine wc_fcat ?_
  refine wc_cat ?_
  cases u with
  | nil =>
    rw [show (Tr.nil).ix = 0 from rfl]
    repeat (first | (apply wx_val; (first | exact v_move rfl | exact v_assign rfl | exact v_ne rfl rfl); rfl) | refine wc_seq ?_ | refine wc_region ?_ | refine wx_nil ?_ | refine wq_next ?_ | refine wc_ret ?_ | refine wc_exit ?_ | refine wq_then_exit ?_ | refine wq_block_exit rfl ?_ | refine wc_condF rfl ?_)
    rw [hh]
    skip
    exact wq_ret1T () rfl rfl trivial rfl
  | node i2 l2 s2 r2 hh2 ff2 =>
    obtain ⟨t21, t22, hnd2, hlr21, hlr22⟩ := hu
    have hNi2 := (nd_mem t22).1
    have hl2x := hlr21.ix_lt hp
    have hr2x := hlr22.ix_lt hp
    rw [hasT] at hh
    rw [show (Tr.node i2 l2 s2 r2 hh2 ff2).ix = i2 from rfl]
    repeat (first | (apply wx_val; (first | exact v_move rfl | exact v_ne rfl rfl); rfl) | refine wc_seq ?_ | refine wc_region ?_ | refine wx_nil ?_ | refine wq_next ?_)
    refine wc_if rfl (fun hd => ?_) (fun hd => absurd (by omega) hd)
    repeat (first | refine wc_seq ?_ | refine wq_next ?_ | refine wc_block ?_ | refine wc_skip ?_)
    refine wc_heldX [] [fsB g y N.length sp.length cnt, E, [(g5, .cells s.cells.toArray 28 (0, 0))]] rfl (by (repeat (first | with_reducible exact panicNot_of panicOk_body | with_reducible apply panicNot_block | with_reducible apply panicNot_then))) (fun hQd => ?_)
    (apply wh_takeX 0; (first | exact fun _ h => res_takes h); exact hQd; rfl; rfl; (first | exact v_ldAT rfl (by rfl)); decide +kernel; decide +kernel; decide +kernel; rfl)
    (apply wh_takeX 1; (first | exact fun _ h => h | exact fun _ h => res_takes h); exact hQd; rfl; rfl; exact v_move rfl; decide +kernel; decide +kernel; decide +kernel; rfl)
    (apply wh_takeX 2; (first | exact fun _ h => h | exact fun _ h => res_takes h); exact hQd; rfl; rfl; exact v_nil rfl; decide +kernel; decide +kernel; decide +kernel; rfl)
    (apply wh_takeX 3; (first | exact fun _ h => h | exact fun _ h => res_takes h); exact hQd; rfl; rfl; exact v_faddr rfl rfl; decide +kernel; decide +kernel; decide +kernel; rfl)
    (apply wh_takeX 4; (first | exact fun _ h => res_takes h); exact hQd; rfl; rfl; (first | exact v_ldT rfl rfl rfl (by rfl)); decide +kernel; decide +kernel; decide +kernel; rfl)
    (apply wh_takeX 5; (first | exact fun _ h => h | exact fun _ h => res_takes h); exact hQd; rfl; rfl; exact v_move rfl; decide +kernel; decide +kernel; decide +kernel; rfl)
    (apply wh_takeX 6; (first | exact fun _ h => res_takes h); exact hQd; rfl; rfl; (first | exact v_iaddrE (by assumption) rfl rfl rfl (by omega)); decide +kernel; decide +kernel; decide +kernel; rfl)
    (apply wh_takeX 7; (first | exact fun _ h => h | exact fun _ h => res_takes h); exact hQd; rfl; rfl; exact v_faddr rfl rfl; decide +kernel; decide +kernel; decide +kernel; rfl)
    (apply wh_takeX 8; (first | exact fun _ h => res_takes h); exact hQd; rfl; rfl; (exact v_loadA (cs := s2.cells) rfl rfl (fun w' hr j u hj => h1.elemT (i := i2) hA (by decide) (fun _ => rfl) hNi2 hr (j := j) (v := u) (by rw [hnd2]; exact sp_cell hj) (by rw [Int.toNat_natCast, Nat.add_zero]))); decide +kernel; decide +kernel; decide +kernel; rfl)
    refine wh_eff 9 rfl (by decide +kernel) ?_
    (try refine wx_ungd rfl rfl ?_)
    refine wx_vcall (vc_pure' rfl rfl (fun w' hr => compare_spec s s2 w')) rfl ?_
    (try refine wx_nil ?_)
    refine wq_held (by (first | exact fun _ h => h | exact fun _ h => res_takes h)) ?_
    (apply wh_takeX 10; (first | exact fun _ h => h | exact fun _ h => res_takes h); exact hQd; rfl; rfl; exact v_assign rfl; decide +kernel; decide +kernel; decide +kernel; rfl)
    refine wh_done (by decide +kernel) ?_
    repeat (first | (apply wx_val; (first | exact v_move rfl | exact v_eq rfl rfl); rfl) | refine wc_seq ?_ | refine wc_region ?_ | refine wx_nil ?_ | refine wq_next ?_)
    refine wc_if rfl (fun hc => ?_) (fun hc => ?_)
    · rw [if_pos hc] at hh
      rw [hh]
      repeat (first | (apply wx_val; (first | exact v_assign rfl); rfl) | refine wc_seq ?_ | refine wc_region ?_ | refine wx_nil ?_ | refine wq_next ?_ | refine wc_ret ?_ | refine wq_then_ret ?_ | refine wq_block_ret ?_)
      exact wq_ret1T () rfl rfl trivial rfl
    rw [if_neg hc] at hh
    repeat (first | (apply wx_val; (first | exact v_move rfl | exact v_lt rfl rfl); rfl) | refine wc_seq ?_ | refine wc_region ?_ | refine wx_nil ?_ | refine wq_next ?_ | refine wc_skip ?_)
    refine wc_if rfl (fun hc2 => ?_) (fun hc2 => ?_)
    · rw [if_pos hc2] at hh
      repeat (first | (apply wx_val; (first | exact v_move rfl | exact v_nil rfl | exact v_faddr rfl rfl | exact v_ldT rfl rfl rfl (by rfl) | exact v_iaddrE (by assumption) rfl rfl rfl (by omega)); rfl) | refine wc_region ?_)
      (try refine wx_ungd rfl rfl ?_)
      apply wx_val
      exact v_load rfl rfl rfl (fun w' hr => h1.elemT (i := i2) hA (by decide) (fun _ => rfl) hNi2 hr (j := 3) rfl (by rw [Int.toNat_natCast]))
      rfl
      rw [hnd2]
      repeat (first | (apply wx_val; (first | exact v_assign rfl); rfl) | refine wx_nil ?_ | refine wq_block ?_)
      refine wq_roundK (l2) ?_ ?_ (by repeat (first | exact trivial | refine ⟨rfl, ?_⟩)) (by first | exact catEq | exact rfl)
      · exact ⟨hlr21, hh⟩
      · simp only [Tr.size]; omega
    · rw [if_neg hc2] at hh
      repeat (first | (apply wx_val; (first | exact v_move rfl | exact v_nil rfl | exact v_faddr rfl rfl | exact v_ldT rfl rfl rfl (by rfl) | exact v_iaddrE (by assumption) rfl rfl rfl (by omega)); rfl) | refine wc_region ?_)
      (try refine wx_ungd rfl rfl ?_)
      apply wx_val
      exact v_load rfl rfl rfl (fun w' hr => h1.elemT (i := i2) hA (by decide) (fun _ => rfl) hNi2 hr (j := 4) rfl (by rw [Int.toNat_natCast]))
      rfl
      rw [hnd2]
      repeat (first | (apply wx_val; (first | exact v_assign rfl); rfl) | refine wx_nil ?_ | refine wq_block ?_)
      refine wq_roundK (r2) ?_ ?_ (by repeat (first | exact trivial | refine ⟨rfl, ?_⟩)) (by first | exact catEq | exact rfl)
      · exact ⟨hlr22, hh⟩
      · simp only [Tr.size]; omega
theorem height_spec (k : ByteArray) {t : Tr} (h1 : ArO N N.length y.A y.c E) (h3 : Inb N) (ht : At N t) (hL : RootAt L k t) (w : World) (ho : Own w [fsB g y N.length sp.length cnt, E, mpB y.m L clk]) :
    Calls Try.prog 16 #[.pointer (some ⟨g, 0, none⟩), .string k] w (Ret (β := Unit) w (ids [fsB g y N.length sp.length cnt, E, mpB y.m L clk]) (fun _ => .int .i64 (nd N t.ix).h) (fun _ => [fsB g y N.length sp.length cnt, E, mpB y.m L clk]) (fun _ => True)) := by
  refine go [.pointer (some ⟨g, 0, none⟩), .string k] [fsB g y N.length sp.length cnt, E, mpB y.m L clk] Try.func16 Try.ntmps16 rfl rfl ho ?_
  have hp := h3.pos
  have hsm := h3.small
  obtain ⟨ga, hA⟩ := h1.ptr hp
  have hx := ht.ix_lt hp
  have hNi := (nd_mem hx).1
  repeat (first | (apply wx_val; (first | exact v_assign rfl); rfl) | refine wc_seq ?_ | refine wc_region ?_ | refine wx_nil ?_ | refine wq_next ?_)
  refine wc_heldX [] [fsB g y N.length sp.length cnt, E, mpB y.m L clk] rfl (by (repeat (first | with_reducible exact panicNot_of panicOk_body | with_reducible apply panicNot_then))) (fun hQd => ?_)
  (apply wh_takeX 0; (first | exact fun _ h => h | exact fun _ h => res_takes h); exact hQd; rfl; rfl; exact v_move rfl; decide +kernel; decide +kernel; decide +kernel; rfl)
  (apply wh_takeX 1; (first | exact fun _ h => h | exact fun _ h => res_takes h); exact hQd; rfl; rfl; exact v_nil rfl; decide +kernel; decide +kernel; decide +kernel; rfl)
  (apply wh_takeX 2; (first | exact fun _ h => h | exact fun _ h => res_takes h); exact hQd; rfl; rfl; exact v_faddr rfl rfl; decide +kernel; decide +kernel; decide +kernel; rfl)
  (apply wh_takeX 3; (first | exact fun _ h => h); exact hQd; rfl; rfl; (first | exact v_ldT rfl rfl rfl (by rfl)); decide +kernel; decide +kernel; decide +kernel; rfl)
  (apply wh_takeX 4; (first | exact fun _ h => h | exact fun _ h => res_takes h); exact hQd; rfl; rfl; exact v_move rfl; decide +kernel; decide +kernel; decide +kernel; rfl)
  (apply wh_takeX 5; (first | exact fun _ h => h | exact fun _ h => res_takes h); exact hQd; rfl; rfl; exact v_nil rfl; decide +kernel; decide +kernel; decide +kernel; rfl)
  (apply wh_takeX 6; (first | exact fun _ h => h | exact fun _ h => res_takes h); exact hQd; rfl; rfl; exact v_faddr rfl rfl; decide +kernel; decide +kernel; decide +kernel; rfl)
  (apply wh_takeX 7; (first | exact fun _ h => h); exact hQd; rfl; rfl; (first | exact v_ldT rfl rfl rfl (by rfl)); decide +kernel; decide +kernel; decide +kernel; rfl)
  (apply wh_takeX 8; (first | exact fun _ h => h | exact fun _ h => res_takes h); exact hQd; rfl; rfl; exact v_move rfl; decide +kernel; decide +kernel; decide +kernel; rfl)
  refine wh_eff 9 rfl (by decide +kernel) ?_
  (try refine wx_ungd rfl rfl ?_)
  apply wx_val
  exact v_agetT (clk := clk) hL rfl rfl rfl rfl rfl
  rfl
  (try refine wx_nil ?_)
  refine wq_held (by (first | exact fun _ h => h | exact fun _ h => res_takes h)) ?_
  (apply wh_takeX 10; (first | exact fun _ h => h); exact hQd; rfl; rfl; (first | exact v_iaddrE (by assumption) rfl rfl rfl (by omega)); decide +kernel; decide +kernel; decide +kernel; rfl)
  (apply wh_takeX 11; (first | exact fun _ h => h | exact fun _ h => res_takes h); exact hQd; rfl; rfl; exact v_faddr rfl rfl; decide +kernel; decide +kernel; decide +kernel; rfl)
  (apply wh_takeX 12; (first | exact fun _ h => h); exact hQd; rfl; rfl; (exact v_load rfl rfl rfl (fun w' hr => h1.elemT (i := t.ix) hA (by decide) (fun _ => rfl) hNi hr (j := 5) rfl (by rw [Int.toNat_natCast]))); decide +kernel; decide +kernel; decide +kernel; rfl)
  (apply wh_takeX 13; (first | exact fun _ h => h | exact fun _ h => res_takes h); exact hQd; rfl; rfl; exact v_assign rfl; decide +kernel; decide +kernel; decide +kernel; rfl)
  refine wh_done (by decide +kernel) ?_
  repeat (first | refine wq_next ?_ | refine wc_ret ?_)
  exact wq_ret1T () rfl rfl trivial rfl
theorem count_spec {n k : Nat} (w : World) (ho : Own w [fsB g y n k cnt]) :
    Calls Try.prog 14 #[.pointer (some ⟨g, 0, none⟩)] w (Ret (β := Unit) w (ids [fsB g y n k cnt]) (fun _ => .int .i64 cnt) (fun _ => [fsB g y n k cnt]) (fun _ => True)) := by
  refine go [.pointer (some ⟨g, 0, none⟩)] [fsB g y n k cnt] Try.func14 Try.ntmps14 rfl rfl ho ?_
  repeat (first | (apply wx_val; (first | exact v_move rfl | exact v_assign rfl | exact v_nil rfl | exact v_faddr rfl rfl | exact v_ldT rfl rfl rfl (by rfl)); rfl) | refine wc_seq ?_ | refine wc_region ?_ | refine wx_nil ?_ | refine wq_next ?_ | refine wc_ret ?_)
  exact wq_ret1T () rfl rfl trivial rfl
end fs
end Go.Proofs.Ytjeghbachokljaa
