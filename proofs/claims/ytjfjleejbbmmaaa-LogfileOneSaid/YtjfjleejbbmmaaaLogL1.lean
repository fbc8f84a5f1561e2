/- What is read and written is the document's; what is written is read, what is read is the one form. -/
import Derived.Test.YtjfjleejbbmmaaaLogG
set_option linter.unusedVariables false
set_option linter.unusedSimpArgs false
namespace Go.Proofs.Ytjfjleejbbmmaaa
open Go
set_option maxRecDepth 20000
set_option maxHeartbeats 2000000
attribute [local irreducible] WX WC WQ Val VCall
theorem Decodes_law {A : Option Addr} {c : Nat} {d : List UInt8} (hd : d.length ≤ 140737488355328) (w : World) (hv : Vw [] w A (bys d)) :
    Calls Try.prog 3 #[.slice A d.length c] w (Holds w) := by
  refine go [.slice A d.length c] [] Try.func3 Try.ntmps3 rfl rfl (own_nil w) ?_
  obtain ⟨hs1, hs2⟩ := dec_small d
  repeat (first | (apply wx_val; (first | exact v_assign rfl | exact v_not rfl); rfl) | refine wc_seq ?_ | refine wc_region ?_ | refine wx_nil ?_ | refine wq_next ?_ | refine wc_skip ?_ | refine wc_condF rfl ?_ | (apply wx_vcall; exact vc_pure rfl rfl (fun w' => anchor_spec w'); rfl))
  refine wl_lit0 rfl rfl (fun g3 E0 hb0 => ?_)
  repeat (first | (apply wx_val; (first | exact v_move rfl); rfl))
  refine wl_appT rfl hb0 rfl rfl (fun w' hr => src_slice rfl (hv.keep hr).rd (by simp) (by decide) (one_bys _)) (by omega) rfl (fun Ad cd Ed hbd => ?_)
  simp only [Nat.zero_add, List.nil_append] at hbd ⊢
  try refine wx_cat ?_
  refine wl_callT (M1 := []) (fun w' hr ho => LogDec_spec (d := d) (by omega) w' (hbd.vwT hr)) rfl rfl rfl ?_
  rintro ⟨A3, c3, E3, S3, W3⟩ hq3
  dsimp only at hq3 ⊢
  try refine wx_cat ?_
  repeat (first | (apply wx_val; (first | exact v_move rfl | exact v_assign rfl | exact v_extract rfl rfl); rfl) | refine wc_seq ?_ | refine wc_region ?_ | refine wx_nil ?_ | refine wq_next ?_)
  refine wl_lit0 rfl rfl (fun g5 E0 hb0 => ?_)
  repeat (first | (apply wx_val; (first | exact v_move rfl); rfl))
  refine wl_appT rfl hb0 rfl rfl (fun w' hr => src_slice rfl (hv.keep hr).rd (by simp) (by decide) (one_bys _)) (by omega) rfl (fun Ae ce Ee hbe => ?_)
  simp only [Nat.zero_add, List.nil_append] at hbe ⊢
  try refine wx_cat ?_
  refine wl_callT (M1 := []) (fun w' hr ho => refDec_spec (d := d) hd hbe.le.1 hbe.le.2 w' (hbe.vwT hr)) rfl rfl rfl ?_
  rintro ⟨A4, c4, E4, S4, W4⟩ hq4
  dsimp only at hq4 ⊢
  repeat (first | (apply wx_val; (first | exact v_move rfl | exact v_assign rfl | exact v_extract rfl rfl | exact v_eq rfl rfl); rfl) | refine wc_seq ?_ | refine wc_region ?_ | refine wx_nil ?_ | refine wq_next ?_ | refine wx_cat ?_)
  refine wx_gset true rfl rfl (by simp) ?_
  repeat (first | (apply wx_val; (first | exact v_move rfl | exact v_eq rfl rfl | exact v_pickT rfl rfl); rfl) | refine wx_ungd rfl rfl ?_)
  refine wx_gset true rfl rfl (by simp) ?_
  repeat (first | (apply wx_val; (first | exact v_move rfl); rfl) | refine wx_ungd rfl rfl ?_)
  (try refine wx_ungd rfl rfl ?_)
  refine wx_vcall (vc_pure' rfl rfl (fun w' hr => SameList_n (W1 := W3) (W2 := W4) (hq3.map.trans hq4.map.symm) hq3.len.symm hq4.len.symm (by omega) (p_small hq3.map (fun t ht => by have := hs1 t ht; omega)) w' (hq3.vwT hr) (hq4.vwT hr) (hq3.reads hr) (hq4.reads hr))) rfl ?_
  repeat (first | (apply wx_val; (first | exact v_assign rfl | exact v_pickT rfl rfl); rfl) | refine wx_nil ?_ | refine wq_next ?_ | refine wc_ret ?_)
  exact wq_clear (wq_ret1 () rfl (bool_val (by simp)) trivial rfl)
theorem One_law {A : Option Addr} {c : Nat} {d : List UInt8} (hd : d.length ≤ 140737488355328) (w : World) (hv : Vw [] w A (bys d)) :
    Calls Try.prog 6 #[.slice A d.length c] w (Holds w) := by
  refine go [.slice A d.length c] [] Try.func6 Try.ntmps6 rfl rfl (own_nil w) ?_
  obtain ⟨hs1, hs2⟩ := dec_small d
  have hpl := dec_place d
  repeat (first | (apply wx_val; (first | exact v_assign rfl | exact v_not rfl); rfl) | refine wc_seq ?_ | refine wc_region ?_ | refine wx_nil ?_ | refine wq_next ?_ | refine wc_skip ?_ | refine wc_condF rfl ?_ | (apply wx_vcall; exact vc_pure rfl rfl (fun w' => anchor_spec w'); rfl) | (apply wx_vcall; exact vc_pure rfl rfl (fun w' => anchor_spec w'); rfl))
  refine wl_lit0 rfl rfl (fun g3 E0 hb0 => ?_)
  repeat (first | (apply wx_val; (first | exact v_move rfl); rfl))
  refine wl_appT rfl hb0 rfl rfl (fun w' hr => src_slice rfl (hv.keep hr).rd (by simp) (by decide) (one_bys _)) (by omega) rfl (fun Ad cd Ed hbd => ?_)
  simp only [Nat.zero_add, List.nil_append] at hbd ⊢
  try refine wx_cat ?_
  refine wl_callT (M1 := []) (fun w' hr ho => LogDec_spec (d := d) (by omega) w' (hbd.vwT hr)) rfl rfl rfl ?_
  rintro ⟨A3, c3, E3, S3, W3⟩ hq3
  dsimp only at hq3 ⊢
  try refine wx_cat ?_
  repeat (first | (apply wx_val; (first | exact v_move rfl | exact v_assign rfl | exact v_extract rfl rfl | exact v_ne rfl rfl); rfl) | refine wc_seq ?_ | refine wc_region ?_ | refine wx_nil ?_ | refine wq_next ?_)
  refine wc_if rfl (fun he => ?_) (fun he => ?_)
  · rw [dec_bad he] at *
    repeat (first | (apply wx_val; (first | exact v_move rfl | exact v_assign rfl | exact v_len rfl rfl | exact v_eq rfl rfl | exact v_le rfl rfl | exact v_ge rfl rfl | exact v_pickT rfl rfl); rfl) | refine wx_ungd rfl rfl ?_ | refine wc_seq ?_ | refine wc_region ?_ | refine wx_nil ?_ | refine wq_next ?_ | refine wc_ret ?_ | refine wq_then_ret ?_)
    exact wq_clear (wq_ret1 () rfl (bool_val (decide_eq_true (by omega))) trivial rfl)
  · have he' : (allD d).2.2 = 0 := Decidable.not_not.1 he
    obtain ⟨k1, k2⟩ := enc_dec he' hq3.map
    repeat (first | (apply wx_val; (first | exact v_move rfl); rfl) | refine wc_seq ?_ | refine wc_region ?_ | refine wq_next ?_ | refine wc_skip ?_)
    refine wl_callT (M1 := []) (fun w' hr ho => LogEnc_n (W := W3) hq3.len.symm (by omega) w' (hq3.vwT hr) (hq3.reads hr)) rfl rfl rfl ?_
    rintro ⟨A4, c4, E4⟩ hb4
    rw [k2] at hb4
    rw [k1, k2]
    dsimp only at hb4 ⊢
    repeat (first | (apply wx_val; (first | exact v_move rfl | exact v_assign rfl | exact v_extract rfl rfl | exact v_eq rfl rfl); rfl) | refine wx_ungd rfl rfl ?_ | refine wc_seq ?_ | refine wc_region ?_ | refine wx_nil ?_ | refine wq_next ?_ | refine wx_cat ?_)
    (try refine wx_ungd rfl rfl ?_)
    refine wx_vcall (vc_pure' rfl rfl (fun w' hr => same_spec (a := d) (b := d) (by omega) w' (hb4.vwT hr) (hv.keep hr))) rfl ?_
    repeat (first | (apply wx_val; (first | exact v_assign rfl | exact v_pickT rfl rfl); rfl) | refine wx_nil ?_ | refine wq_next ?_ | refine wc_ret ?_)
    exact wq_clear (wq_ret1 () rfl (bool_val (by simp)) trivial rfl)
section lists
variable {A : Option Addr} {c : Nat} {L : List TxnW}
theorem Encodes_law (hl : L.length ≤ 1048576) (hs : ∀ t ∈ L, t.ops.xs.length ≤ 1048576) (w : World) (hv : Vw [] w A (L.flatMap TxnW.cells)) (hrd : ∀ t ∈ L, t.Reads w) :
    Calls Try.prog 4 #[.slice A L.length c] w (Holds w) := by
  refine go [.slice A L.length c] [] Try.func4 Try.ntmps4 rfl rfl (own_nil w) ?_
  repeat (first | (apply wx_val; (first | exact v_move rfl | exact v_assign rfl | exact v_not rfl); rfl) | refine wc_seq ?_ | refine wc_region ?_ | refine wx_nil ?_ | refine wq_next ?_ | refine wc_skip ?_ | refine wc_condF rfl ?_ | (apply wx_vcall; exact vc_pure rfl rfl (fun w' => anchor_spec w'); rfl) | (apply wx_vcall; exact vc_pure rfl rfl (fun w' => anchor_spec w'); rfl) | (apply wx_vcall; exact vc_pure rfl rfl (fun w' => anchor_spec w'); rfl))
  refine wl_callT (M1 := []) (fun w' hr ho => Copies_spec hl hs w' (hv.keep hr) (fun t ht => Vw.keep (hrd t ht) hr)) rfl rfl rfl ?_
  rintro ⟨A3, c3, E3, S3, W3⟩ hq3
  dsimp only
  try refine wx_cat ?_
  refine wl_callT (M1 := []) (fun w' hr ho => LogEnc_n (W := W3) (by have := hq3.len; simpa using this.symm) (by omega) w' (hq3.vwT hr) (hq3.reads hr)) rfl rfl rfl ?_
  rintro ⟨A4, c4, E4⟩ hb4
  rw [encL_p hq3.map] at hb4
  rw [chk_p hq3.map, encL_p hq3.map]
  dsimp only at hb4 ⊢
  try refine wx_cat ?_
  repeat (first | (apply wx_val; (first | exact v_move rfl | exact v_assign rfl | exact v_extract rfl rfl); rfl) | refine wc_seq ?_ | refine wc_region ?_ | refine wx_nil ?_ | refine wq_next ?_)
  (try refine wx_ungd rfl rfl ?_)
  refine wx_vcall (vc_pure' rfl rfl (fun w' hr => LogChk_spec hl w' (hv.keep hr) (fun t ht => Vw.keep (hrd t ht) hr))) rfl ?_
  repeat (first | (apply wx_val; (first | exact v_move rfl | exact v_assign rfl | exact v_extract rfl rfl | exact v_ne rfl rfl); rfl) | refine wc_seq ?_ | refine wc_region ?_ | refine wx_nil ?_ | refine wq_next ?_)
  refine wx_gset false rfl rfl (by simp) ?_
  repeat (first | (apply wx_val; (first | exact v_move rfl | exact v_ne rfl rfl | exact v_pickF rfl rfl); rfl) | refine wx_ungd rfl rfl ?_ | refine wx_nil ?_ | refine wq_next ?_)
  refine wc_not rfl (by simp) ?_
  repeat (first | (apply wx_val; (first | exact v_move rfl | exact v_ne rfl rfl); rfl) | refine wc_seq ?_ | refine wc_region ?_ | refine wx_nil ?_ | refine wq_next ?_ | refine wc_skip ?_)
  refine wc_if rfl (fun he => ?_) (fun he => ?_)
  · rw [encL_bad he]
    repeat (first | (apply wx_val; (first | exact v_move rfl | exact v_assign rfl | exact v_len rfl rfl | exact v_eq rfl rfl); rfl) | refine wc_seq ?_ | refine wc_region ?_ | refine wx_nil ?_ | refine wq_next ?_ | refine wc_ret ?_ | refine wq_then_ret ?_)
    exact wq_clear (wq_ret1 () rfl rfl trivial rfl)
  · have he' : (chk L).2 = 0 := Decidable.not_not.1 he
    obtain ⟨k1, k2, k3⟩ := chk_inv he'
    rw [encL_ok he'] at hb4 ⊢
    have hll := logB_len (right_p k2) (by simpa using k1)
    repeat (first | (apply wx_val; (first | exact v_move rfl); rfl) | refine wc_seq ?_ | refine wc_region ?_ | refine wq_next ?_ | refine wc_skip ?_)
    refine wl_callT (M1 := []) (fun w' hr ho => LogLog_spec (L := L) k1 k2 w' (hv.keep hr) (fun t ht => Vw.keep (hrd t ht) hr)) rfl rfl rfl ?_
    rintro ⟨A5, c5, E5⟩ hb5
    dsimp only at hb5 ⊢
    refine wx_cat ?_
    (try refine wx_ungd rfl rfl ?_)
    refine wx_vcall (vc_pure' rfl rfl (fun w' hr => same_spec (a := logB (L.map TxnW.p)) (b := logB (L.map TxnW.p)) (by omega) w' (hb4.vwT hr) (hb5.vwT hr))) rfl ?_
    repeat (first | (apply wx_val; (first | exact v_assign rfl); rfl) | refine wx_nil ?_ | refine wq_next ?_ | refine wc_ret ?_)
    exact wq_clear (wq_ret1 () rfl (bool_val (by simp)) trivial rfl)
theorem Back_law (hl : L.length ≤ 1048576) (hs : ∀ t ∈ L, t.ops.xs.length ≤ 1048576) (w : World) (hv : Vw [] w A (L.flatMap TxnW.cells)) (hrd : ∀ t ∈ L, t.Reads w) :
    Calls Try.prog 5 #[.slice A L.length c] w (Holds w) := by
  refine go [.slice A L.length c] [] Try.func5 Try.ntmps5 rfl rfl (own_nil w) ?_
  repeat (first | (apply wx_val; (first | exact v_move rfl | exact v_assign rfl | exact v_not rfl); rfl) | refine wc_seq ?_ | refine wc_region ?_ | refine wx_nil ?_ | refine wq_next ?_ | refine wc_skip ?_ | refine wc_condF rfl ?_ | (apply wx_vcall; exact vc_pure rfl rfl (fun w' => anchor_spec w'); rfl) | (apply wx_vcall; exact vc_pure rfl rfl (fun w' => anchor_spec w'); rfl) | (apply wx_vcall; exact vc_pure rfl rfl (fun w' => anchor_spec w'); rfl) | (apply wx_vcall; exact vc_pure rfl rfl (fun w' => anchor_spec w'); rfl))
  (try refine wx_ungd rfl rfl ?_)
  refine wx_vcall (vc_pure' rfl rfl (fun w' hr => LogChk_spec hl w' (hv.keep hr) (fun t ht => Vw.keep (hrd t ht) hr))) rfl ?_
  repeat (first | (apply wx_val; (first | exact v_move rfl | exact v_assign rfl | exact v_extract rfl rfl | exact v_ne rfl rfl); rfl) | refine wc_seq ?_ | refine wc_region ?_ | refine wx_nil ?_ | refine wq_next ?_)
  refine wc_if rfl (fun he => ?_) (fun he => ?_)
  · repeat (first | (apply wx_val; (first | exact v_assign rfl); rfl) | refine wc_seq ?_ | refine wc_region ?_ | refine wx_nil ?_ | refine wq_next ?_ | refine wc_ret ?_ | refine wq_then_ret ?_)
    exact wq_clear (wq_ret1 () rfl rfl trivial rfl)
  · have he' : (chk L).2 = 0 := Decidable.not_not.1 he
    obtain ⟨k1, k2, k3⟩ := chk_inv he'
    have hll := logB_len (right_p k2) (by simpa using k1)
    have hdl := dec_log (right_p k2) (by simpa using k1)
    repeat (first | (apply wx_val; (first | exact v_move rfl); rfl) | refine wc_seq ?_ | refine wc_region ?_ | refine wq_next ?_ | refine wc_skip ?_)
    refine wl_callT (M1 := []) (fun w' hr ho => Copies_spec hl hs w' (hv.keep hr) (fun t ht => Vw.keep (hrd t ht) hr)) rfl rfl rfl ?_
    rintro ⟨A3, c3, E3, S3, W3⟩ hq3
    dsimp only
    try refine wx_cat ?_
    refine wl_callT (M1 := []) (fun w' hr ho => LogEnc_n (W := W3) (by have := hq3.len; simpa using this.symm) (by omega) w' (hq3.vwT hr) (hq3.reads hr)) rfl rfl rfl ?_
    rintro ⟨A4, c4, E4⟩ hb4
    rw [encL_p hq3.map] at hb4
    rw [chk_p hq3.map, encL_p hq3.map]
    dsimp only at hb4 ⊢
    try refine wx_cat ?_
    obtain ⟨B, hB⟩ : ∃ B, B = logB (L.map TxnW.p) := ⟨_, rfl⟩
    rw [encL_ok he', ← hB] at hb4
    rw [he', k3, encL_ok he', ← hB]
    rw [← hB] at hll hdl
    repeat (first | (apply wx_val; (first | exact v_move rfl | exact v_assign rfl | exact v_extract rfl rfl | exact v_ne rfl rfl | exact v_pickF rfl rfl); rfl) | refine wx_ungd rfl rfl ?_ | refine wc_seq ?_ | refine wc_region ?_ | refine wx_nil ?_ | refine wq_next ?_ | refine wc_skip ?_ | refine wc_condF rfl ?_)
    refine wl_callT (M1 := []) (fun w' hr ho => LogDec_spec (d := B) (by omega) w' (hb4.vwT hr)) rfl rfl rfl ?_
    rintro ⟨A5, c5, E5, S5, W5⟩ hq5
    dsimp only at hq5 ⊢
    try refine wx_cat ?_
    have hq5' : ListO (allD B).1 (A5, c5, E5, S5, W5) := hq5
    rw [hdl] at hq5' ⊢
    dsimp only at hq5' ⊢
    repeat (first | (apply wx_val; (first | exact v_move rfl | exact v_assign rfl | exact v_extract rfl rfl | exact v_eq rfl rfl | exact v_pickT rfl rfl); rfl) | refine wx_ungd rfl rfl ?_ | refine wc_seq ?_ | refine wc_region ?_ | refine wx_nil ?_ | refine wq_next ?_)
    (try refine wx_ungd rfl rfl ?_)
    refine wx_vcall (vc_pure' rfl rfl (fun w' hr => SameList_n (W1 := W5) (W2 := L) hq5'.map hq5'.len.symm (by have := hq5'.len; simp at this; omega) (by simp; omega) (p_small hq5'.map (fun t ht => by have := (right_p k2 t ht).ops; omega)) w' (hq5'.vwT hr) (hv.keep hr) (hq5'.reads hr) (fun t ht => Vw.keep (hrd t ht) hr))) rfl ?_
    repeat (first | (apply wx_val; (first | exact v_assign rfl | exact v_pickT rfl rfl); rfl) | refine wx_nil ?_ | refine wq_next ?_ | refine wc_ret ?_)
    exact wq_clear (wq_ret1 () rfl rfl trivial rfl)
end lists
end Go.Proofs.Ytjfjleejbbmmaaa
