/- What is written is read back; what is read is the one form of what was read. -/
import Derived.Test.YtknnkgoehkohaaaRecP2
set_option linter.unusedVariables false
set_option linter.unusedSimpArgs false
namespace Go.Proofs.Ytknnkgoehkohaaa
open Go
set_option maxRecDepth 20000
set_option maxHeartbeats 2000000
attribute [local irreducible] WX WC WQ Val VCall
theorem TxnW.w_err (t : TxnW) (A : Option Addr) (c : Nat) : (t.p.w A c).err = t.err := rfl
theorem TxnW.w_enc (t : TxnW) (A : Option Addr) (c : Nat) : (t.p.w A c).encB = t.encB := rfl
theorem formI_pos {n : Int} (h : 0 ≤ n ∧ n ≤ 72057594037927935) : 1 ≤ (formI n).length := by
  unfold formI
  rw [if_neg (by omega)]
  exact formN_pos _
theorem intsB_pos : ∀ {l : List Int}, (∀ n ∈ l, 0 ≤ n ∧ n ≤ 72057594037927935) → l.length ≤ (intsB l).length
  | [], _ => Nat.zero_le _
  | n :: r, h => by
    have h1 := formI_pos (h n (by simp))
    have h2 := intsB_pos (l := r) (fun m hm => h m (by simp [hm]))
    have e : intsB (n :: r) = formI n ++ intsB r := rfl
    rw [e, List.length_append, List.length_cons]; omega
theorem body_8 {t : TxnW} (he : t.err = 0) : 8 ≤ t.body.length ∧ t.body.length ≤ 464 := by
  obtain ⟨h1, h2, h3⟩ := t.ok_of he
  have h4 := intsB_pos (okInts h1 h2)
  have h5 : t.ints.length = 8 := rfl
  refine ⟨?_, body_len h1 h2 h3⟩
  rw [TxnW.body, List.length_append]; omega
theorem Back_law {t : TxnW} (ht : t.ops.xs.length ≤ 1048576) (w : World) (hv : t.Reads w) :
    Calls Try.prog 4 #[.agg t.cells.toArray] w (Holds w) := by
  refine go [.agg t.cells.toArray] [] Try.func4 Try.ntmps4 rfl rfl (own_nil w) ?_
  repeat (first | refine wc_seq ?_ | refine wc_region ?_)
  refine wl_boxA rfl rfl (fun g1 => ?_)
  repeat (first | (apply wx_val; (first | exact v_assign rfl | exact v_ldAT rfl (by rfl) | exact v_not rfl); rfl) | refine wc_seq ?_ | refine wc_region ?_ | refine wx_nil ?_ | refine wq_next ?_ | refine wc_skip ?_ | refine wc_condF rfl ?_ | (apply wx_vcall; exact vc_pure rfl rfl (fun w' => anchor_spec w'); rfl))
  refine wl_callT (M1 := []) (fun w' hr ho => Copy_spec ht w' (Vw.keep hv hr)) rfl rfl rfl ?_
  rintro ⟨A3, c3, E3⟩ hb3
  dsimp only at hb3 ⊢
  try refine wx_cat ?_
  refine wx_vcall (vc_pure' rfl rfl (fun w' hr => recValid_spec (t.p.w A3 c3) w' (hb3.vwT hr))) rfl ?_
  rw [TxnW.w_err]
  repeat (first | (apply wx_val; (first | exact v_ne rfl rfl); rfl) | refine wx_nil ?_ | refine wq_next ?_)
  refine wc_if rfl (fun he => ?_) (fun he => ?_)
  · repeat (first | (apply wx_val; (first | exact v_ldAT rfl (by rfl)); rfl) | refine wc_seq ?_ | refine wc_region ?_)
    refine wl_callT (M1 := []) (fun w' hr ho => Copy_spec ht w' (Vw.keep hv hr)) rfl rfl rfl ?_
    rintro ⟨A4, c4, E4⟩ hb4
    dsimp only at hb4 ⊢
    try refine wx_cat ?_
    refine wl_callT (M1 := []) (fun w' hr ho => Encode_spec (t := t.p.w A4 c4) w' (hb4.vwT hr)) rfl rfl rfl ?_
    rintro ⟨A5, c5, E5⟩ hb5
    rw [TxnW.w_enc] at hb5
    rw [TxnW.w_err, TxnW.w_enc]
    dsimp only at hb5 ⊢
    repeat (first | (apply wx_val; (first | exact v_move rfl | exact v_assign rfl | exact v_extract rfl rfl | exact v_ne rfl rfl); rfl) | refine wc_seq ?_ | refine wc_region ?_ | refine wx_nil ?_ | refine wq_next ?_ | refine wc_ret ?_ | refine wq_then_ret ?_ | refine wq_cat ?_)
    exact wq_clear (wq_ret1 () rfl (bool_val (decide_eq_true he)) trivial rfl)
  · have he' : t.err = 0 := Decidable.not_not.1 he
    obtain ⟨hl1, hl2⟩ := body_8 he'
    have eb : t.encB = t.body := if_pos he'
    repeat (first | (apply wx_val; (first | exact v_ldAT rfl (by rfl)); rfl) | refine wc_seq ?_ | refine wc_region ?_ | refine wq_next ?_ | refine wc_skip ?_)
    refine wl_callT (M1 := []) (fun w' hr ho => Copy_spec ht w' (Vw.keep hv hr)) rfl rfl rfl ?_
    rintro ⟨A4, c4, E4⟩ hb4
    dsimp only at hb4 ⊢
    try refine wx_cat ?_
    refine wl_callT (M1 := []) (fun w' hr ho => Encode_spec (t := t.p.w A4 c4) w' (hb4.vwT hr)) rfl rfl rfl ?_
    rintro ⟨A5, c5, E5⟩ hb5
    rw [TxnW.w_enc] at hb5
    rw [TxnW.w_err, TxnW.w_enc]
    dsimp only at hb5 ⊢
    rw [eb] at hb5 ⊢
    rw [he']
    repeat (first | (apply wx_val; (first | exact v_move rfl | exact v_assign rfl | exact v_extract rfl rfl | exact v_len rfl rfl | exact v_ne rfl rfl | exact v_gt rfl rfl | exact v_pickF rfl rfl); rfl) | refine wx_ungd rfl rfl ?_ | refine wc_seq ?_ | refine wc_region ?_ | refine wx_nil ?_ | refine wq_next ?_ | refine wx_cat ?_)
    refine wx_gset false rfl rfl (decide_eq_false (by omega)) ?_
    repeat (first | (apply wx_val; (first | exact v_move rfl | exact v_len rfl rfl | exact v_lt rfl rfl | exact v_pickF rfl rfl); rfl) | refine wx_ungd rfl rfl ?_ | refine wx_nil ?_ | refine wq_next ?_)
    refine wc_not rfl (decide_eq_false (by omega)) ?_
    repeat (first | (apply wx_val; (first | exact v_move rfl); rfl) | refine wc_seq ?_ | refine wc_region ?_ | refine wq_next ?_ | refine wc_skip ?_)
    refine wl_callT (M1 := []) (fun w' hr ho => Decode_spec (d := t.body) (by omega) w' (hb5.vwT hr)) rfl rfl rfl ?_
    rintro ⟨A6, c6, E6⟩ hb6
    rw [dec_body he'] at hb6 ⊢
    dsimp only at hb6 ⊢
    repeat (first | (apply wx_val; (first | exact v_move rfl | exact v_extract rfl rfl); rfl) | refine wx_cat ?_)
    refine wl_alloc rfl rfl (fun g7 => ?_)
    repeat (first | (apply wx_val; (first | exact v_move rfl | exact v_assign rfl | exact v_ldAT rfl (by rfl) | exact v_eq rfl rfl | exact v_pickT rfl rfl); rfl) | refine wx_ungd rfl rfl ?_ | refine wc_seq ?_ | refine wc_region ?_ | refine wx_nil ?_ | refine wq_next ?_ | refine wx_setn ?_ | refine wl_stAT rfl rfl (by rfl) (by rfl) (by exact .inl (Nat.le_refl _)) rfl ?_)
    refine wx_vcall (vc_pure' rfl rfl (fun w' hr => Same_spec (t := t.p) ht w' (Vw.keep hv hr) (hb6.vwT hr))) rfl ?_
    repeat (first | (apply wx_val; (first | exact v_assign rfl | exact v_pickT rfl rfl); rfl) | refine wx_nil ?_ | refine wq_next ?_ | refine wc_ret ?_)
    exact wq_clear (wq_ret1 () rfl rfl trivial rfl)
theorem One_law {A : Option Addr} {c : Nat} {d : List UInt8} (hd : d.length ≤ 140737488355328) (hc : d.length ≤ c) (w : World) (hv : Vw [] w A (bys d)) :
    Calls Try.prog 10 #[.slice A d.length c] w (Holds w) := by
  refine go [.slice A d.length c] [] Try.func10 Try.ntmps10 rfl rfl (own_nil w) ?_
  repeat (first | (apply wx_val; (first | exact v_assign rfl | exact v_not rfl); rfl) | refine wc_seq ?_ | refine wc_region ?_ | refine wx_nil ?_ | refine wq_next ?_ | refine wc_skip ?_ | refine wc_condF rfl ?_ | (apply wx_vcall; exact vc_pure rfl rfl (fun w' => anchor_spec w'); rfl) | (apply wx_vcall; exact vc_pure rfl rfl (fun w' => anchor_spec w'); rfl))
  refine wl_lit0 rfl rfl (fun g3 E0 hb0 => ?_)
  repeat (first | (apply wx_val; (first | exact v_move rfl); rfl))
  refine wl_appT rfl hb0 rfl rfl (fun w' hr => src_slice rfl (hv.keep hr).rd (by simp) (by decide) (one_bys _)) (by omega) rfl (fun Ad cd Ed hbd => ?_)
  simp only [Nat.zero_add, List.nil_append] at hbd ⊢
  try refine wx_cat ?_
  refine wl_callT (M1 := []) (fun w' hr ho => Decode_spec (d := d) hd w' (hbd.vwT hr)) rfl rfl rfl ?_
  rintro ⟨A3, c3, E4⟩ hb4
  have bad : ∀ (a : Nat) (e : Int), a ≤ d.length → e ≠ 0 → decR d = (TxnP.zero, (a : Int), e) → True := fun _ _ _ _ _ => trivial
  have hcase : (∃ t, decR d = (t, 0, 0) ∧ bodyP d 0 = .ok (t, d.length)) ∨ (∃ (a : Nat) (e : Int), decR d = (TxnP.zero, (a : Int), e) ∧ a ≤ d.length ∧ e ≠ 0) := by
    rcases dec_cases d with h | ⟨t, q, h1, _, h3⟩ | ⟨a, e, h1, _, h3, h4⟩
    · exact .inl h
    · exact .inr ⟨q, 61, h1, by omega, by decide⟩
    · exact .inr ⟨a, e, h1, h3, by omega⟩
  rcases hcase with ⟨t, hR, hB⟩ | ⟨a, e, hR, ha, he⟩
  · rw [hR] at hb4 ⊢
    obtain ⟨k1, k2, k3⟩ := dec_one hB A3 c3
    have hl := decR_len d
    rw [hR] at hl
    dsimp only at hb4 hl ⊢
    repeat (first | (apply wx_val; (first | exact v_move rfl | exact v_extract rfl rfl); rfl) | refine wx_cat ?_)
    refine wl_alloc rfl rfl (fun g5 => ?_)
    repeat (first | (apply wx_val; (first | exact v_move rfl | exact v_assign rfl | exact v_ne rfl rfl | (first | exact v_ldQ 0 0 rfl rfl rfl rfl rfl)); rfl) | refine wc_seq ?_ | refine wc_region ?_ | refine wx_nil ?_ | refine wq_next ?_ | refine wc_skip ?_ | refine wc_condF rfl ?_ | refine wx_setn ?_ | refine wl_stAT rfl rfl (by rfl) (by rfl) (by exact .inl (Nat.le_refl _)) rfl ?_)
    refine wl_callT (M1 := []) (fun w' hr ho => Encode_spec (t := t.w A3 c3) w' (hb4.vwT hr)) rfl rfl rfl ?_
    rintro ⟨A6, c6, E6⟩ hb6
    rw [k3] at hb6 ⊢
    rw [k1]
    dsimp only at hb6 ⊢
    repeat (first | (apply wx_val; (first | exact v_move rfl | exact v_assign rfl | exact v_extract rfl rfl | exact v_eq rfl rfl); rfl) | refine wx_ungd rfl rfl ?_ | refine wc_seq ?_ | refine wc_region ?_ | refine wx_nil ?_ | refine wq_next ?_ | refine wx_cat ?_)
    refine wx_vcall (vc_pure' rfl rfl (fun w' hr => same_spec (a := d) (b := d) (by omega) w' (hb6.vwT hr) (hv.keep hr))) rfl ?_
    repeat (first | (apply wx_val; (first | exact v_move rfl | exact v_pickT rfl rfl); rfl))
    refine wx_gset true rfl rfl (by simp) ?_
    repeat (first | (apply wx_val; (first | exact v_ldAT rfl (by rfl)); rfl) | refine wx_ungd rfl rfl ?_)
    refine wx_vcall (vc_pure' rfl rfl (fun w' hr => recValid_spec (t.w A3 c3) w' (hb4.vwT hr))) rfl ?_
    rw [k1]
    repeat (first | (apply wx_val; (first | exact v_move rfl | exact v_ldAT rfl (by rfl) | exact v_eq rfl rfl | exact v_pickT rfl rfl); rfl) | refine wx_ungd rfl rfl ?_)
    refine wx_vcall (vc_pure' rfl rfl (fun w' hr => Size_spec' (t := t.w A3 c3) w' (hb4.vwT hr))) rfl ?_
    rw [k3]
    repeat (first | (apply wx_val; (first | exact v_move rfl | exact v_assign rfl | exact v_len rfl rfl | exact v_eq rfl rfl | exact v_pickT rfl rfl); rfl) | refine wx_ungd rfl rfl ?_ | refine wx_nil ?_ | refine wq_next ?_ | refine wc_ret ?_)
    exact wq_clear (wq_ret1 () rfl (bool_val (by simp)) trivial rfl)
  · rw [hR] at hb4 ⊢
    dsimp only at hb4 ⊢
    repeat (first | (apply wx_val; (first | exact v_move rfl | exact v_extract rfl rfl); rfl) | refine wx_cat ?_)
    refine wl_alloc rfl rfl (fun g5 => ?_)
    repeat (first | (apply wx_val; (first | exact v_move rfl | exact v_assign rfl | exact v_ne rfl rfl); rfl) | refine wc_seq ?_ | refine wc_region ?_ | refine wx_nil ?_ | refine wq_next ?_ | refine wc_setn ?_ | refine wl_stAT rfl rfl (by rfl) (by rfl) (by exact .inl (Nat.le_refl _)) rfl ?_)
    refine wc_yes rfl (decide_eq_true he) ?_
    repeat (first | (apply wx_val; (first | exact v_move rfl | exact v_len rfl rfl | exact v_le rfl rfl | exact v_ge rfl rfl | exact v_pickT rfl rfl); rfl) | refine wx_ungd rfl rfl ?_ | refine wc_seq ?_ | refine wc_region ?_)
    refine wx_gset true rfl rfl (decide_eq_true (by omega)) ?_
    repeat (first | (apply wx_val; (first | exact v_ldAT rfl (by rfl)); rfl) | refine wx_ungd rfl rfl ?_)
    (try refine wx_ungd rfl rfl ?_)
    apply wx_val
    exact v_build (cs := ((TxnP.zero.cells none 0)).toArray) rfl (by kernel_rfl)
    rfl
    (try refine wx_ungd rfl rfl ?_)
    refine wx_vcall (vc_pure' rfl rfl (fun w' hr => Same_spec (t := TxnP.zero) (by decide) w' (hb4.vwT hr) Vw.nil)) rfl ?_
    repeat (first | (apply wx_val; (first | exact v_assign rfl | exact v_pickT rfl rfl); rfl) | refine wx_nil ?_ | refine wq_next ?_ | refine wc_ret ?_ | refine wq_then_ret ?_)
    exact wq_clear (wq_ret1 () rfl rfl trivial rfl)
end Go.Proofs.Ytknnkgoehkohaaa
