/- A body cut or with a tail; the places that are told. -/
import Derived.Test.YtknnkgoehkohaaaRecP2
set_option linter.unusedVariables false
set_option linter.unusedSimpArgs false
namespace Go.Proofs.Ytknnkgoehkohaaa
open Go
set_option maxRecDepth 20000
set_option maxHeartbeats 2000000
attribute [local irreducible] WX WC WQ Val VCall
theorem TxnW.w_err (t : TxnW) (A : Option Addr) (c : Nat) : (t.p.w A c).err = t.err := rfl
theorem TxnW.w_enc (t : TxnW) (A : Option Addr) (c : Nat) : (t.p.w A c).encB = t.encB := rfl
theorem vw_head {X : List Nat} {w : World} {A : Option Addr} {d : List UInt8} {k c : Nat} (hv : Vw X w A (bys d)) (hk : k ≤ d.length) (hc : k ≤ c) : Vw X w (cutA A 0 k c 1) (bys (d.take k)) := by
  have := vw_bytes (l := 0) (h := k) (c := c) hv (Nat.zero_le _) hk hc
  simpa using this
theorem Cut_law {t : TxnW} (ht : t.ops.xs.length ≤ 1048576) (k : Int) {B : Option Addr} {cB : Nat} {r : List UInt8} (hr : r.length ≤ 140737488351232) (w : World) (hv : t.Reads w) (hB : Vw [] w B (bys r)) :
    Calls Try.prog 5 #[.agg t.cells.toArray, .int .i64 k, .slice B r.length cB] w (Holds w) := by
  refine go [.agg t.cells.toArray, .int .i64 k, .slice B r.length cB] [] Try.func5 Try.ntmps5 rfl rfl (own_nil w) ?_
  repeat (first | refine wc_seq ?_ | refine wc_region ?_)
  refine wl_boxA rfl rfl (fun g1 => ?_)
  repeat (first | (apply wx_val; (first | exact v_assign rfl | exact v_ldAT rfl (by rfl) | exact v_not rfl); rfl) | refine wc_seq ?_ | refine wc_region ?_ | refine wx_nil ?_ | refine wq_next ?_ | refine wc_skip ?_ | refine wc_condF rfl ?_ | (apply wx_vcall; exact vc_pure rfl rfl (fun w' => anchor_spec w'); rfl))
  refine wx_vcall (vc_pure' rfl rfl (fun w' hr => refValid_spec t w' (Vw.keep hv hr))) rfl ?_
  repeat (first | (apply wx_val; (first | exact v_ne rfl rfl); rfl) | refine wx_nil ?_ | refine wq_next ?_)
  refine wc_if rfl (fun he => ?_) (fun he => ?_)
  · repeat (first | (apply wx_val; (first | exact v_assign rfl); rfl) | refine wc_seq ?_ | refine wc_region ?_ | refine wx_nil ?_ | refine wq_next ?_ | refine wc_ret ?_ | refine wq_then_ret ?_)
    exact wq_clear (wq_ret1 () rfl rfl trivial rfl)
  have he' : t.err = 0 := Decidable.not_not.1 he
  have eb : t.encB = t.body := if_pos he'
  obtain ⟨h1, h2, h3⟩ := t.ok_of he'
  have hbl := body_len h1 h2 h3
  repeat (first | (apply wx_val; (first | exact v_ldAT rfl (by rfl)); rfl) | refine wc_seq ?_ | refine wc_region ?_ | refine wq_next ?_ | refine wc_skip ?_)
  refine wl_callT (M1 := []) (fun w' hr ho => Copy_spec ht w' (Vw.keep hv hr)) rfl rfl rfl ?_
  rintro ⟨A3, c3, E3⟩ hb3
  dsimp only at hb3 ⊢
  try refine wx_cat ?_
  refine wl_callT (M1 := []) (fun w' hr ho => Encode_spec (t := t.p.w A3 c3) w' (hb3.vwT hr)) rfl rfl rfl ?_
  rintro ⟨A4, c4, E4⟩ hb4
  rw [TxnW.w_enc] at hb4
  rw [TxnW.w_err, TxnW.w_enc]
  dsimp only at hb4 ⊢
  rw [eb] at hb4 ⊢
  rw [he']
  repeat (first | (apply wx_val; (first | exact v_move rfl | exact v_assign rfl | exact v_extract rfl rfl | exact v_ne rfl rfl | exact v_ge rfl rfl); rfl) | refine wc_seq ?_ | refine wc_region ?_ | refine wx_nil ?_ | refine wq_next ?_ | refine wc_skip ?_ | refine wc_condF rfl ?_ | refine wx_cat ?_)
  have hc4 := hb4.le
  simp only [maxLen] at hc4
  by_cases hk : 0 ≤ k ∧ k < t.body.length
  case neg =>
    by_cases hk0 : 0 ≤ k
    · refine wx_gset true rfl rfl (decide_eq_true hk0) ?_
      repeat (first | (apply wx_val; (first | exact v_move rfl | exact v_len rfl rfl | exact v_lt rfl rfl | exact v_pickT rfl rfl); rfl) | refine wx_ungd rfl rfl ?_ | refine wx_nil ?_ | refine wq_next ?_)
      refine wc_not rfl (decide_eq_false (by omega)) ?_
      repeat (first | (apply wx_val; (first | exact v_move rfl | exact v_len rfl rfl | exact v_eq rfl rfl); rfl) | refine wc_seq ?_ | refine wc_region ?_ | refine wx_nil ?_ | refine wq_next ?_ | refine wc_skip ?_)
      refine wc_if rfl (fun hr0 => ?_) (fun hr0 => ?_)
      · repeat (first | (apply wx_val; (first | exact v_assign rfl); rfl) | refine wc_seq ?_ | refine wc_region ?_ | refine wx_nil ?_ | refine wq_next ?_ | refine wc_ret ?_ | refine wq_then_ret ?_)
        exact wq_clear (wq_ret1 () rfl rfl trivial rfl)
      have hrn : r ≠ [] := by rintro rfl; exact hr0 rfl
      repeat (first | refine wc_seq ?_ | refine wc_region ?_ | refine wq_next ?_ | refine wc_skip ?_)
      refine wl_lit0 rfl rfl (fun g67 E67 hb67 => ?_)
      repeat (first | (apply wx_val; (first | exact v_move rfl); rfl))
      refine wl_appT rfl hb67 rfl rfl (fun w' hr => src_slice rfl (hb4.rdT hr) (by simp) (by decide) (one_bys _)) (by omega) rfl (fun A8 c8 E8 hb8 => ?_)
      simp only [Nat.zero_add, List.nil_append] at hb8 ⊢
      repeat (first | (apply wx_val; (first | exact v_move rfl); rfl))
      refine wl_appT rfl hb8 rfl rfl (fun w' hr => src_slice rfl (hB.keep hr).rd (by simp) (by decide) (one_bys _)) (by omega) rfl (fun A9 c9 E9 hb9 => ?_)
      rw [← List.length_append] at hb9 ⊢
      rw [← bys_append] at hb9
      refine wl_callT (M1 := []) (fun w' hr ho => Decode_spec (d := t.body ++ r) (by rw [List.length_append]; omega) w' (hb9.vwT hr)) rfl rfl rfl ?_
      rintro ⟨Aa, ca, Ea⟩ hba
      rw [dec_tail he' hrn] at hba ⊢
      dsimp only at hba ⊢
      repeat (first | (apply wx_val; (first | exact v_move rfl | exact v_extract rfl rfl); rfl) | refine wx_cat ?_)
      refine wl_alloc rfl rfl (fun g12 => ?_)
      repeat (first | (apply wx_val; (first | exact v_move rfl | exact v_assign rfl | exact v_len rfl rfl | exact v_eq rfl rfl | exact v_pickT rfl rfl); rfl) | refine wx_ungd rfl rfl ?_ | refine wc_seq ?_ | refine wc_region ?_ | refine wx_nil ?_ | refine wq_next ?_ | refine wc_ret ?_ | refine wq_setn ?_ | refine wl_stAT rfl rfl (by rfl) (by rfl) (by exact .inl (Nat.le_refl _)) rfl ?_)
      exact wq_clear (wq_ret1 () rfl (bool_val (by simp)) trivial rfl)
    · refine wx_gset false rfl rfl (decide_eq_false hk0) ?_
      repeat (first | (apply wx_val; (first | exact v_move rfl | exact v_len rfl rfl | exact v_eq rfl rfl | exact v_pickF rfl rfl); rfl) | refine wx_no rfl rfl rfl ?_ | refine wc_seq ?_ | refine wc_region ?_ | refine wx_nil ?_ | refine wq_next ?_ | refine wc_skip ?_ | refine wc_condF rfl ?_)
      refine wc_if rfl (fun hr0 => ?_) (fun hr0 => ?_)
      · repeat (first | (apply wx_val; (first | exact v_assign rfl); rfl) | refine wc_seq ?_ | refine wc_region ?_ | refine wx_nil ?_ | refine wq_next ?_ | refine wc_ret ?_ | refine wq_then_ret ?_)
        exact wq_clear (wq_ret1 () rfl rfl trivial rfl)
      have hrn : r ≠ [] := by rintro rfl; exact hr0 rfl
      repeat (first | refine wc_seq ?_ | refine wc_region ?_ | refine wq_next ?_ | refine wc_skip ?_)
      refine wl_lit0 rfl rfl (fun g67 E67 hb67 => ?_)
      repeat (first | (apply wx_val; (first | exact v_move rfl); rfl))
      refine wl_appT rfl hb67 rfl rfl (fun w' hr => src_slice rfl (hb4.rdT hr) (by simp) (by decide) (one_bys _)) (by omega) rfl (fun A8 c8 E8 hb8 => ?_)
      simp only [Nat.zero_add, List.nil_append] at hb8 ⊢
      repeat (first | (apply wx_val; (first | exact v_move rfl); rfl))
      refine wl_appT rfl hb8 rfl rfl (fun w' hr => src_slice rfl (hB.keep hr).rd (by simp) (by decide) (one_bys _)) (by omega) rfl (fun A9 c9 E9 hb9 => ?_)
      rw [← List.length_append] at hb9 ⊢
      rw [← bys_append] at hb9
      refine wl_callT (M1 := []) (fun w' hr ho => Decode_spec (d := t.body ++ r) (by rw [List.length_append]; omega) w' (hb9.vwT hr)) rfl rfl rfl ?_
      rintro ⟨Aa, ca, Ea⟩ hba
      rw [dec_tail he' hrn] at hba ⊢
      dsimp only at hba ⊢
      repeat (first | (apply wx_val; (first | exact v_move rfl | exact v_extract rfl rfl); rfl) | refine wx_cat ?_)
      refine wl_alloc rfl rfl (fun g12 => ?_)
      repeat (first | (apply wx_val; (first | exact v_move rfl | exact v_assign rfl | exact v_len rfl rfl | exact v_eq rfl rfl | exact v_pickT rfl rfl); rfl) | refine wx_ungd rfl rfl ?_ | refine wc_seq ?_ | refine wc_region ?_ | refine wx_nil ?_ | refine wq_next ?_ | refine wc_ret ?_ | refine wq_setn ?_ | refine wl_stAT rfl rfl (by rfl) (by rfl) (by exact .inl (Nat.le_refl _)) rfl ?_)
      exact wq_clear (wq_ret1 () rfl (bool_val (by simp)) trivial rfl)
  obtain ⟨K, rfl⟩ : ∃ K : Nat, k = K := ⟨k.toNat, by omega⟩
  obtain ⟨a, ha, hcut⟩ := dec_cut he' (k := K) (by omega)
  refine wx_gset true rfl rfl (decide_eq_true hk.1) ?_
  repeat (first | (apply wx_val; (first | exact v_move rfl | exact v_len rfl rfl | exact v_lt rfl rfl | exact v_pickT rfl rfl); rfl) | refine wx_ungd rfl rfl ?_ | refine wx_nil ?_ | refine wq_next ?_)
  refine wc_yes rfl (decide_eq_true (by omega)) ?_
  repeat (first | refine wc_seq ?_ | refine wc_region ?_)
  refine wl_lit0 rfl rfl (fun g37 E37 hb37 => ?_)
  repeat (first | (apply wx_val; (first | exact v_move rfl); rfl))
  (try refine wx_ungd rfl rfl ?_)
  apply wx_val
  exact v_sliceN (n := t.body.length) (c := c4) (l := 0) (h := K) (m := (t.body.take K).length) rfl rfl rfl rfl (by omega) (by omega) (by rw [List.length_take]; omega)
  rfl
  refine wl_appT rfl hb37 rfl rfl (fun w' hr => src_slice rfl (vw_head (k := K) (c := c4) (hb4.vwT hr) (by omega) (by omega)).rd (by simp) (by decide) (one_bys _)) (by rw [List.length_take]; omega) rfl (fun A5 c5 E5 hb5 => ?_)
  simp only [Nat.zero_add, List.nil_append] at hb5 ⊢
  refine wl_callT (M1 := []) (fun w' hr ho => Decode_spec (d := t.body.take K) (by rw [List.length_take]; omega) w' (hb5.vwT hr)) rfl rfl rfl ?_
  rintro ⟨A6, c6, E6⟩ hb6
  rw [hcut] at hb6 ⊢
  dsimp only at hb6 ⊢
  repeat (first | (apply wx_val; (first | exact v_move rfl | exact v_extract rfl rfl); rfl) | refine wx_cat ?_)
  refine wl_alloc rfl rfl (fun g9 => ?_)
  repeat (first | (apply wx_val; (first | exact v_move rfl | exact v_assign rfl | exact v_ne rfl rfl | exact v_lt rfl rfl | exact v_gt rfl rfl | exact v_pickF rfl rfl); rfl) | refine wx_ungd rfl rfl ?_ | refine wc_seq ?_ | refine wc_region ?_ | refine wx_nil ?_ | refine wq_next ?_ | refine wx_setn ?_ | refine wl_stAT rfl rfl (by rfl) (by rfl) (by exact .inl (Nat.le_refl _)) rfl ?_)
  refine wx_gset false rfl rfl (decide_eq_false (by omega)) ?_
  repeat (first | (apply wx_val; (first | exact v_ldAT rfl (by rfl)); rfl) | refine wx_ungd rfl rfl ?_)
  (try refine wx_ungd rfl rfl ?_)
  apply wx_val
  exact v_build (cs := ((TxnP.zero.cells none 0)).toArray) rfl (by kernel_rfl)
  rfl
  (try refine wx_ungd rfl rfl ?_)
  refine wx_vcall (vc_pure' rfl rfl (fun w' hr => Same_spec (t := TxnP.zero) (by decide) w' (hb6.vwT hr) Vw.nil)) rfl ?_
  repeat (first | (apply wx_val; (first | exact v_move rfl | exact v_len rfl rfl | exact v_eq rfl rfl | exact v_not rfl | exact v_pickF rfl rfl); rfl) | refine wx_ungd rfl rfl ?_ | refine wc_seq ?_ | refine wc_region ?_ | refine wx_nil ?_ | refine wq_next ?_ | refine wc_skip ?_ | refine wc_condF rfl ?_)
  refine wc_if rfl (fun hr0 => ?_) (fun hr0 => ?_)
  · repeat (first | (apply wx_val; (first | exact v_assign rfl); rfl) | refine wc_seq ?_ | refine wc_region ?_ | refine wx_nil ?_ | refine wq_next ?_ | refine wc_ret ?_ | refine wq_then_ret ?_)
    exact wq_clear (wq_ret1 () rfl rfl trivial rfl)
  have hrn : r ≠ [] := by rintro rfl; exact hr0 rfl
  repeat (first | refine wc_seq ?_ | refine wc_region ?_ | refine wq_next ?_ | refine wc_skip ?_)
  refine wl_lit0 rfl rfl (fun g67 E67 hb67 => ?_)
  repeat (first | (apply wx_val; (first | exact v_move rfl); rfl))
  refine wl_appT rfl hb67 rfl rfl (fun w' hr => src_slice rfl (hb4.rdT hr) (by simp) (by decide) (one_bys _)) (by omega) rfl (fun A8 c8 E8 hb8 => ?_)
  simp only [Nat.zero_add, List.nil_append] at hb8 ⊢
  repeat (first | (apply wx_val; (first | exact v_move rfl); rfl))
  refine wl_appT rfl hb8 rfl rfl (fun w' hr => src_slice rfl (hB.keep hr).rd (by simp) (by decide) (one_bys _)) (by omega) rfl (fun A9 c9 E9 hb9 => ?_)
  rw [← List.length_append] at hb9 ⊢
  rw [← bys_append] at hb9
  refine wl_callT (M1 := []) (fun w' hr ho => Decode_spec (d := t.body ++ r) (by rw [List.length_append]; omega) w' (hb9.vwT hr)) rfl rfl rfl ?_
  rintro ⟨Aa, ca, Ea⟩ hba
  rw [dec_tail he' hrn] at hba ⊢
  dsimp only at hba ⊢
  repeat (first | (apply wx_val; (first | exact v_move rfl | exact v_extract rfl rfl); rfl) | refine wx_cat ?_)
  refine wl_alloc rfl rfl (fun g12 => ?_)
  repeat (first | (apply wx_val; (first | exact v_move rfl | exact v_assign rfl | exact v_len rfl rfl | exact v_eq rfl rfl | exact v_pickT rfl rfl); rfl) | refine wx_ungd rfl rfl ?_ | refine wc_seq ?_ | refine wc_region ?_ | refine wx_nil ?_ | refine wq_next ?_ | refine wc_ret ?_ | refine wq_setn ?_ | refine wl_stAT rfl rfl (by rfl) (by rfl) (by exact .inl (Nat.le_refl _)) rfl ?_)
  exact wq_clear (wq_ret1 () rfl (bool_val (by simp)) trivial rfl)
theorem Place_law {A B : Option Addr} {c cB : Nat} {d s : List UInt8} (hd : d.length ≤ 1048576) (hs : s.length ≤ 1048576) (hc : d.length ≤ c) (hcm : c ≤ maxLen) (w : World) (hv : Vw [] w A (bys d)) (hB : Vw [] w B (bys s)) :
    Calls Try.prog 6 #[.slice A d.length c, .slice B s.length cB] w (Holds w) := by
  refine go [.slice A d.length c, .slice B s.length cB] [] Try.func6 Try.ntmps6 rfl rfl (own_nil w) ?_
  simp only [maxLen] at hcm
  repeat (first | (apply wx_val; (first | exact v_assign rfl | exact v_not rfl); rfl) | refine wc_seq ?_ | refine wc_region ?_ | refine wx_nil ?_ | refine wq_next ?_ | refine wc_skip ?_ | refine wc_condF rfl ?_ | (apply wx_vcall; exact vc_pure rfl rfl (fun w' => anchor_spec w'); rfl) | (apply wx_vcall; exact vc_pure rfl rfl (fun w' => anchor_spec w'); rfl))
  refine wl_lit0 rfl rfl (fun g3 E0 hb0 => ?_)
  repeat (first | (apply wx_val; (first | exact v_move rfl); rfl))
  refine wl_appT rfl hb0 rfl rfl (fun w' hr => src_slice rfl (hv.keep hr).rd (by simp) (by decide) (one_bys _)) (by omega) rfl (fun Ad cd Ed hbd => ?_)
  simp only [Nat.zero_add, List.nil_append] at hbd ⊢
  try refine wx_cat ?_
  refine wl_callT (M1 := []) (fun w' hr ho => Decode_spec (d := d) (by omega) w' (hbd.vwT hr)) rfl rfl rfl ?_
  rintro ⟨A3, c3, E4⟩ hb4
  rcases dec_cases d with ⟨t, hR, hQ⟩ | ⟨t, q, hR, hQ, hq⟩ | ⟨a, e, hR, hQ, ha, he⟩
  · rw [hR] at hb4 ⊢
    dsimp only at hb4 ⊢
    repeat (first | (apply wx_val; (first | exact v_move rfl | exact v_extract rfl rfl); rfl) | refine wx_cat ?_)
    refine wl_alloc rfl rfl (fun g5 => ?_)
    repeat (first | (apply wx_val; (first | exact v_move rfl | exact v_assign rfl | exact v_eq rfl rfl); rfl) | refine wc_seq ?_ | refine wc_region ?_ | refine wx_nil ?_ | refine wq_next ?_ | refine wc_ret ?_ | refine wq_then_ret ?_ | refine wc_condT rfl ?_ | refine wq_setn ?_ | refine wl_stAT rfl rfl (by rfl) (by rfl) (by exact .inl (Nat.le_refl _)) rfl ?_)
    exact wq_clear (wq_ret1 () rfl rfl trivial rfl)
  · rw [hR] at hb4 ⊢
    dsimp only at hb4 ⊢
    have hl : (d.take q).length = q := by rw [List.length_take]; omega
    repeat (first | (apply wx_val; (first | exact v_move rfl | exact v_extract rfl rfl); rfl) | refine wx_cat ?_)
    refine wl_alloc rfl rfl (fun g5 => ?_)
    repeat (first | (apply wx_val; (first | exact v_move rfl | exact v_assign rfl | exact v_len rfl rfl | exact v_eq rfl rfl | exact v_lt rfl rfl | exact v_gt rfl rfl | exact v_pickF rfl rfl); rfl) | refine wx_ungd rfl rfl ?_ | refine wc_seq ?_ | refine wc_region ?_ | refine wx_nil ?_ | refine wq_next ?_ | refine wc_skip ?_ | refine wc_condF rfl ?_ | refine wc_setn ?_ | refine wl_stAT rfl rfl (by rfl) (by rfl) (by exact .inl (Nat.le_refl _)) rfl ?_)
    refine wc_not rfl (decide_eq_false (by omega)) ?_
    repeat (first | (apply wx_val; (first | exact v_move rfl | exact v_eq rfl rfl | exact v_pickF rfl rfl); rfl) | refine wx_no rfl rfl rfl ?_ | refine wc_seq ?_ | refine wc_region ?_ | refine wx_nil ?_ | refine wq_next ?_ | refine wc_skip ?_ | refine wc_condT rfl ?_ | refine wc_condF rfl ?_)
    refine wl_lit0 rfl rfl (fun g37 E37 hb37 => ?_)
    repeat (first | (apply wx_val; (first | exact v_move rfl); rfl))
    (try refine wx_ungd rfl rfl ?_)
    apply wx_val
    exact v_sliceN (n := d.length) (c := c) (l := 0) (h := q) (m := (d.take q).length) rfl rfl rfl rfl (by omega) (by omega) (by omega)
    rfl
    refine wl_appT rfl hb37 rfl rfl (fun w' hr => src_slice rfl (vw_head (k := q) (c := c) (hv.keep hr) (by omega) (by omega)).rd (by simp) (by decide) (one_bys _)) (by omega) rfl (fun A5 c5 E5 hb5 => ?_)
    simp only [Nat.zero_add, List.nil_append] at hb5 ⊢
    refine wl_callT (M1 := []) (fun w' hr ho => Decode_spec (d := d.take q) (by omega) w' (hb5.vwT hr)) rfl rfl rfl ?_
    rintro ⟨A6, c6, E6⟩ hb6
    rw [dec_tailcut hQ hq] at hb6 ⊢
    dsimp only at hb6 ⊢
    repeat (first | (apply wx_val; (first | exact v_move rfl | exact v_extract rfl rfl); rfl) | refine wx_cat ?_)
    refine wl_alloc rfl rfl (fun g9 => ?_)
    repeat (first | (apply wx_val; (first | exact v_move rfl | exact v_assign rfl | exact v_len rfl rfl | exact v_eq rfl rfl | exact v_lt rfl rfl | exact v_pickT rfl rfl); rfl) | refine wx_ungd rfl rfl ?_ | refine wc_seq ?_ | refine wc_region ?_ | refine wx_nil ?_ | refine wq_next ?_ | refine wc_ret ?_ | refine wq_then_ret ?_ | refine wq_setn ?_ | refine wl_stAT rfl rfl (by rfl) (by rfl) (by exact .inl (Nat.le_refl _)) rfl ?_)
    exact wq_clear (wq_ret1 () rfl (bool_val (decide_eq_true (by omega))) trivial rfl)
  rw [hR] at hb4 ⊢
  dsimp only at hb4 ⊢
  have hl : (d.take a).length = a := by rw [List.length_take]; omega
  rcases he with rfl | rfl | rfl | ⟨rfl, ha2⟩
  · repeat (first | (apply wx_val; (first | exact v_move rfl | exact v_extract rfl rfl); rfl) | refine wx_cat ?_)
    refine wl_alloc rfl rfl (fun g5 => ?_)
    repeat (first | (apply wx_val; (first | exact v_move rfl | exact v_assign rfl | exact v_len rfl rfl | exact v_eq rfl rfl | exact v_lt rfl rfl | exact v_gt rfl rfl | exact v_pickF rfl rfl); rfl) | refine wx_ungd rfl rfl ?_ | refine wc_seq ?_ | refine wc_region ?_ | refine wx_nil ?_ | refine wq_next ?_ | refine wc_skip ?_ | refine wc_condF rfl ?_ | refine wc_setn ?_ | refine wl_stAT rfl rfl (by rfl) (by rfl) (by exact .inl (Nat.le_refl _)) rfl ?_)
    refine wc_not rfl (decide_eq_false (by omega)) ?_
    repeat (first | (apply wx_val; (first | exact v_move rfl | exact v_eq rfl rfl | exact v_pickF rfl rfl); rfl) | refine wx_no rfl rfl rfl ?_ | refine wc_seq ?_ | refine wc_region ?_ | refine wx_nil ?_ | refine wq_next ?_ | refine wc_skip ?_ | refine wc_condT rfl ?_ | refine wc_condF rfl ?_)
    refine wl_lit0 rfl rfl (fun g37 E37 hb37 => ?_)
    repeat (first | (apply wx_val; (first | exact v_move rfl); rfl))
    (try refine wx_ungd rfl rfl ?_)
    apply wx_val
    exact v_sliceN (n := d.length) (c := c) (l := 0) (h := a) (m := (d.take a).length) rfl rfl rfl rfl (by omega) (by omega) (by omega)
    rfl
    refine wl_appT rfl hb37 rfl rfl (fun w' hr => src_slice rfl (vw_head (k := a) (c := c) (hv.keep hr) (by omega) (by omega)).rd (by simp) (by decide) (one_bys _)) (by omega) rfl (fun A5 c5 E5 hb5 => ?_)
    simp only [Nat.zero_add, List.nil_append] at hb5 ⊢
    refine wl_callT (M1 := []) (fun w' hr ho => Decode_spec (d := d.take a) (by omega) w' (hb5.vwT hr)) rfl rfl rfl ?_
    rintro ⟨A6, c6, E6⟩ hb6
    rw [dec_endcut hQ] at hb6 ⊢
    dsimp only at hb6 ⊢
    repeat (first | (apply wx_val; (first | exact v_move rfl | exact v_extract rfl rfl); rfl) | refine wx_cat ?_)
    refine wl_alloc rfl rfl (fun g9 => ?_)
    repeat (first | (apply wx_val; (first | exact v_move rfl | exact v_assign rfl | exact v_eq rfl rfl | exact v_pickT rfl rfl); rfl) | refine wx_ungd rfl rfl ?_ | refine wc_seq ?_ | refine wc_region ?_ | refine wx_nil ?_ | refine wq_next ?_ | refine wc_ret ?_ | refine wq_then_ret ?_ | refine wq_setn ?_ | refine wl_stAT rfl rfl (by rfl) (by rfl) (by exact .inl (Nat.le_refl _)) rfl ?_)
    exact wq_clear (wq_ret1 () rfl (bool_val (by simp)) trivial rfl)
  · repeat (first | (apply wx_val; (first | exact v_move rfl | exact v_extract rfl rfl); rfl) | refine wx_cat ?_)
    refine wl_alloc rfl rfl (fun g5 => ?_)
    repeat (first | (apply wx_val; (first | exact v_move rfl | exact v_assign rfl | exact v_len rfl rfl | exact v_eq rfl rfl | exact v_lt rfl rfl | exact v_gt rfl rfl | exact v_pickF rfl rfl); rfl) | refine wx_ungd rfl rfl ?_ | refine wc_seq ?_ | refine wc_region ?_ | refine wx_nil ?_ | refine wq_next ?_ | refine wc_skip ?_ | refine wc_condF rfl ?_ | refine wc_setn ?_ | refine wl_stAT rfl rfl (by rfl) (by rfl) (by exact .inl (Nat.le_refl _)) rfl ?_)
    refine wc_not rfl (decide_eq_false (by omega)) ?_
    repeat (first | (apply wx_val; (first | exact v_move rfl | exact v_assign rfl | exact v_eq rfl rfl | exact v_pickT rfl rfl | exact v_pickF rfl rfl); rfl) | refine wx_no rfl rfl rfl ?_ | refine wc_seq ?_ | refine wc_region ?_ | refine wx_nil ?_ | refine wq_next ?_ | refine wc_ret ?_ | refine wc_skip ?_ | refine wc_condF rfl ?_)
    exact wq_clear (wq_ret1 () rfl rfl trivial rfl)
  · repeat (first | (apply wx_val; (first | exact v_move rfl | exact v_extract rfl rfl); rfl) | refine wx_cat ?_)
    refine wl_alloc rfl rfl (fun g5 => ?_)
    repeat (first | (apply wx_val; (first | exact v_move rfl | exact v_assign rfl | exact v_len rfl rfl | exact v_eq rfl rfl | exact v_lt rfl rfl | exact v_gt rfl rfl | exact v_pickF rfl rfl); rfl) | refine wx_ungd rfl rfl ?_ | refine wc_seq ?_ | refine wc_region ?_ | refine wx_nil ?_ | refine wq_next ?_ | refine wc_skip ?_ | refine wc_condF rfl ?_ | refine wc_setn ?_ | refine wl_stAT rfl rfl (by rfl) (by rfl) (by exact .inl (Nat.le_refl _)) rfl ?_)
    refine wc_not rfl (decide_eq_false (by omega)) ?_
    repeat (first | (apply wx_val; (first | exact v_move rfl | exact v_assign rfl | exact v_eq rfl rfl | exact v_pickF rfl rfl); rfl) | refine wx_no rfl rfl rfl ?_ | refine wx_ungd rfl rfl ?_ | refine wc_seq ?_ | refine wc_region ?_ | refine wx_nil ?_ | refine wq_next ?_ | refine wc_ret ?_ | refine wc_skip ?_ | refine wc_condF rfl ?_)
    exact wq_clear (wq_ret1 () rfl rfl trivial rfl)
  · have hl2 : (d.take (a + 1)).length = a + 1 := by rw [List.length_take]; omega
    repeat (first | (apply wx_val; (first | exact v_move rfl | exact v_extract rfl rfl); rfl) | refine wx_cat ?_)
    refine wl_alloc rfl rfl (fun g5 => ?_)
    repeat (first | (apply wx_val; (first | exact v_move rfl | exact v_assign rfl | exact v_len rfl rfl | exact v_eq rfl rfl | exact v_lt rfl rfl | exact v_gt rfl rfl | exact v_pickF rfl rfl); rfl) | refine wx_ungd rfl rfl ?_ | refine wc_seq ?_ | refine wc_region ?_ | refine wx_nil ?_ | refine wq_next ?_ | refine wc_skip ?_ | refine wc_condF rfl ?_ | refine wc_setn ?_ | refine wl_stAT rfl rfl (by rfl) (by rfl) (by exact .inl (Nat.le_refl _)) rfl ?_)
    refine wc_not rfl (decide_eq_false (by omega)) ?_
    repeat (first | (apply wx_val; (first | exact v_move rfl | exact v_len rfl rfl | exact v_eq rfl rfl | exact v_lt rfl rfl | exact v_pickT rfl rfl); rfl) | refine wx_ungd rfl rfl ?_ | refine wc_seq ?_ | refine wc_region ?_ | refine wx_nil ?_ | refine wq_next ?_ | refine wc_skip ?_)
    refine wc_yes rfl (decide_eq_true (by omega)) ?_
    repeat (first | refine wc_seq ?_ | refine wc_region ?_)
    refine wl_lit0 rfl rfl (fun g37 E37 hb37 => ?_)
    repeat (first | (apply wx_val; (first | exact v_move rfl | exact v_addi rfl rfl (by omega)); rfl))
    (try refine wx_ungd rfl rfl ?_)
    apply wx_val
    exact v_sliceN (n := d.length) (c := c) (l := 0) (h := a + 1) (m := (d.take (a + 1)).length) rfl rfl rfl rfl (by omega) (by omega) (by omega)
    rfl
    refine wl_appT rfl hb37 rfl rfl (fun w' hr => src_slice rfl (vw_head (k := a + 1) (c := c) (hv.keep hr) (by omega) (by omega)).rd (by simp) (by decide) (one_bys _)) (by omega) rfl (fun A5 c5 E5 hb5 => ?_)
    simp only [Nat.zero_add, List.nil_append] at hb5 ⊢
    repeat (first | (apply wx_val; (first | exact v_move rfl); rfl))
    refine wl_appT rfl hb5 rfl rfl (fun w' hr => src_slice rfl (hB.keep hr).rd (by simp) (by decide) (one_bys _)) (by omega) rfl (fun A7 c7 E7 hb7 => ?_)
    rw [← List.length_append] at hb7 ⊢
    rw [← bys_append] at hb7
    refine wl_callT (M1 := []) (fun w' hr ho => Decode_spec (d := d.take (a + 1) ++ s) (by rw [List.length_append]; omega) w' (hb7.vwT hr)) rfl rfl rfl ?_
    rintro ⟨A6, c6, E6⟩ hb6
    rw [dec_tag hQ ha2] at hb6 ⊢
    dsimp only at hb6 ⊢
    repeat (first | (apply wx_val; (first | exact v_move rfl | exact v_extract rfl rfl); rfl) | refine wx_cat ?_)
    refine wl_alloc rfl rfl (fun g9 => ?_)
    repeat (first | (apply wx_val; (first | exact v_move rfl | exact v_assign rfl | exact v_eq rfl rfl | exact v_pickT rfl rfl); rfl) | refine wx_ungd rfl rfl ?_ | refine wc_seq ?_ | refine wc_region ?_ | refine wx_nil ?_ | refine wq_next ?_ | refine wc_ret ?_ | refine wq_then_ret ?_ | refine wq_setn ?_ | refine wl_stAT rfl rfl (by rfl) (by rfl) (by exact .inl (Nat.le_refl _)) rfl ?_)
    exact wq_clear (wq_ret1 () rfl (bool_val (by simp)) trivial rfl)
end Go.Proofs.Ytknnkgoehkohaaa
