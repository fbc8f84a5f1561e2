/- An operation read by the program's reader. -/
import Derived.Test.YtjfjleejbbmmaaaRecD1
set_option linter.unusedVariables false
set_option linter.unusedSimpArgs false
namespace Go.Proofs.Ytjfjleejbbmmaaa
open Go
set_option maxRecDepth 20000
set_option maxHeartbeats 2000000
attribute [local irreducible] WX WC WQ Val VCall
section cur
variable {g c : Nat} {A : Option Addr} {d : List UInt8} {E : Seg} {p : Nat}
theorem readOp_spec (hd : d.length ≤ 281474976710656) (hb : Buf 5 1 A d.length c (bys d) E) (hp : p ≤ d.length) (w : World) (ho : Own w [curB g A d.length c p 0, E]) :
    Calls Try.prog 70 #[rdV g] w (NRet w (ids [curB g A d.length c p 0, E]) (opP d p) (fun o => .agg o.cells.toArray) g A d.length c E) := by
  refine go [rdV g] [curB g A d.length c p 0, E] Try.func70 Try.ntmps70 rfl rfl ho ?_
  generalize hR : opP d p = R
  unfold opP at hR
  repeat (first | refine wc_seq ?_ | refine wc_region ?_)
  refine wl_boxA (l := [.pointer (some ⟨g, 0, none⟩)]) rfl rfl (fun g1 => ?_)
  skip
  refine wl_alloc rfl rfl (fun g2 => ?_)
  repeat (first | (apply wx_val; (first | exact v_faddr rfl rfl | exact v_ldT rfl rfl rfl (by rfl)); rfl) | refine wc_seq ?_ | refine wc_region ?_ | refine wx_nil ?_ | refine wq_next ?_)
  refine wl_callT (fun w' hr ho => Offset_spec (A := A) (n := d.length) (c := c) (p := p) (f := 0) w' ho) rfl rfl rfl ?_
  rintro - -
  repeat (first | (apply wx_val; (first | exact v_assign rfl | exact v_faddr rfl rfl | exact v_ldT rfl rfl rfl (by rfl)); rfl) | refine wc_seq ?_ | refine wc_region ?_ | refine wx_nil ?_ | refine wq_next ?_ | refine wx_cat ?_)
  refine wl_callT (fun w' hr ho => Byte_spec (f := 0) hd hb hp w' ho) rfl rfl rfl ?_
  rintro - -
  by_cases h1 : d.length ≤ p
  · rw [if_pos h1] at hR
    subst hR
    rw [show cByte d p 0 = ((0 : Int), (51 : Int), (p : Int), (51 : Int)) by unfold cByte; rw [if_neg (by simp), if_pos h1]]
    dsimp only
    repeat (first | (apply wx_val; (first | exact v_move rfl | exact v_assign rfl | exact v_ldAT rfl (by rfl) | exact v_extract rfl rfl); rfl) | refine wc_seq ?_ | refine wc_region ?_ | refine wx_nil ?_ | refine wq_next ?_ | refine wx_cat ?_)
    refine wl_callX (fun w' hr ho => check_no (q := p) (f := 51) (A := A) (n := d.length) (c := c) (show (51 : Int) ≠ 0 by decide) w' ho) rfl rfl rfl (fun _ h => h.elim) (fun _ _ => ?_)
    repeat (first | refine wq_cat ?_ | refine wq_then_panic ?_)
    exact wq_pan (γ := (Int × Int) × Int × Int) (((p : Nat), 51), (p : Nat), 51) rfl rfl rfl
  rw [if_neg h1] at hR
  rw [show cByte d p 0 = (((d.getD p 0).toNat : Int), (0 : Int), ((p + 1 : Nat) : Int), (0 : Int)) by unfold cByte; rw [if_neg (by simp), if_neg h1]; rfl]
  dsimp only
  have hgb : (d.getD p 0).toNat < 256 := by have := (d.getD p 0).toNat_lt; omega
  generalize hG : (d.getD p 0).toNat = G at hR hgb ⊢
  repeat (first | (apply wx_val; (first | exact v_move rfl | exact v_assign rfl | exact v_ldAT rfl (by rfl) | exact v_extract rfl rfl); rfl) | refine wc_seq ?_ | refine wc_region ?_ | refine wx_nil ?_ | refine wq_next ?_ | refine wx_cat ?_)
  refine wl_callT (fun w' hr ho => check_ok (q := p + 1) (f := 0) (A := A) (n := d.length) (c := c) w' ho) rfl rfl rfl ?_
  rintro - -
  repeat (first | refine wc_seq ?_ | refine wc_region ?_ | refine wx_nil ?_ | refine wq_next ?_ | refine wx_cat ?_)
  (try refine wx_ungd rfl rfl ?_)
  apply wx_val
  exact v_build (cs := ([.int .i64 1, .string ⟨#[]⟩, .bool false, .string ⟨#[]⟩]).toArray) rfl (by kernel_rfl)
  rfl
  skip
  refine wl_alloc rfl rfl (fun g6 => ?_)
  by_cases hG1 : G = 0 ∨ 4 < G
  · rw [if_pos hG1] at hR
    subst hR
    repeat (first | (apply wx_val; (first | exact v_move rfl | exact v_assign rfl | exact v_eq rfl rfl); rfl) | refine wc_seq ?_ | refine wc_region ?_ | refine wx_nil ?_ | refine wq_next ?_ | refine wc_block ?_ | refine wc_setn ?_ | refine wl_stAT rfl rfl (by rfl) (by rfl) (by exact .inl (Nat.le_refl _)) rfl ?_)
    refine wc_not rfl (decide_eq_false (by omega)) ?_
    repeat (first | (apply wx_val; (first | exact v_assign rfl | exact v_eq rfl rfl); rfl) | refine wc_seq ?_ | refine wc_region ?_ | refine wx_nil ?_ | refine wq_next ?_)
    refine wc_not rfl (decide_eq_false (by omega)) ?_
    repeat (first | (apply wx_val; (first | exact v_assign rfl | exact v_eq rfl rfl); rfl) | refine wc_seq ?_ | refine wc_region ?_ | refine wx_nil ?_ | refine wq_next ?_)
    refine wc_not rfl (decide_eq_false (by omega)) ?_
    repeat (first | (apply wx_val; (first | exact v_assign rfl | exact v_eq rfl rfl); rfl) | refine wc_seq ?_ | refine wc_region ?_ | refine wx_nil ?_ | refine wq_next ?_)
    refine wc_not rfl (decide_eq_false (by omega)) ?_
    repeat (first | (apply wx_val; (first | exact v_move rfl); rfl) | refine wc_region ?_)
    (try refine wx_ungd rfl rfl ?_)
    apply wx_val
    exact v_build (cs := ([.int .i64 (p : Nat), .int .i64 60]).toArray) rfl (by kernel_rfl)
    rfl
    repeat (first | (apply wx_val; (first | exact v_mkIface rfl rfl); rfl))
    refine wl_panic rfl ?_
    repeat (first | refine wq_then_panic ?_ | refine wq_block_panic ?_)
    exact wq_pan (γ := (Int × Int) × Int × Int) (((p : Nat), 60), ((p + 1 : Nat) : Int), 0) rfl rfl rfl
  rw [if_neg hG1] at hR
  have hG4 : G = 1 ∨ G = 2 ∨ G = 3 ∨ G = 4 := by omega
  rcases hG4 with rfl | rfl | rfl | rfl
  · repeat (first | (apply wx_val; (first | exact v_move rfl | exact v_assign rfl | exact v_faddr rfl rfl | exact v_ldAT rfl (by rfl) | exact v_eq rfl rfl); rfl) | refine wc_seq ?_ | refine wc_region ?_ | refine wx_nil ?_ | refine wq_next ?_ | refine wc_block ?_ | refine wq_block ?_ | refine wx_setn ?_ | refine wc_condT rfl ?_ | refine wl_storeT rfl rfl rfl (by rfl) (by exact .inl (Nat.le_refl _)) rfl ?_ | refine wl_stAT rfl rfl (by rfl) (by rfl) (by exact .inl (Nat.le_refl _)) rfl ?_)
    refine wl_callX (fun w' hr ho => readText_spec hd hb (p := p + 1) (by omega) 1 8 w' ho) rfl rfl rfl (fun q hq => ?_) (fun e he => ?_)
    case refine_2 =>
      repeat (first | refine wq_cat ?_ | refine wq_then_panic ?_)
      rw [he] at hR
      subst hR
      exact wq_pan e rfl rfl rfl
    obtain ⟨k, p2⟩ := q
    dsimp only at hq ⊢
    obtain ⟨k1, k2, k3, k4⟩ := textP_le (by omega) hq
    rw [hq] at hR
    dsimp only at hR
    repeat (first | (apply wx_val; (first | exact v_faddr rfl rfl | exact v_ldT rfl rfl rfl (by rfl) | exact v_ldAT rfl (by rfl)); rfl) | refine wc_seq ?_ | refine wc_region ?_ | refine wx_nil ?_ | refine wq_next ?_ | refine wx_setn ?_ | refine wx_cat ?_ | refine wc_condT rfl ?_ | refine wl_storeT rfl rfl rfl (by rfl) (by exact .inl (Nat.le_refl _)) rfl ?_)
    refine wl_callX (fun w' hr ho => readText_spec hd hb (p := p2) (by omega) 0 16 w' ho) rfl rfl rfl (fun q hq2 => ?_) (fun e he => ?_)
    case refine_2 =>
      repeat (first | refine wq_cat ?_ | refine wq_then_panic ?_)
      rw [he] at hR
      rw [if_pos (by decide)] at hR
      subst hR
      exact wq_pan e rfl rfl rfl
    obtain ⟨v, p3⟩ := q
    dsimp only at hq2 ⊢
    rw [hq2, if_pos (by decide)] at hR
    dsimp only at hR
    subst hR
    repeat (first | (apply wx_val; (first | exact v_faddr rfl rfl | (first | exact v_ldQ 2 0 rfl rfl rfl rfl rfl)); rfl) | refine wc_seq ?_ | refine wc_region ?_ | refine wx_nil ?_ | refine wq_next ?_ | refine wc_ret ?_ | refine wx_setn ?_ | refine wq_setn ?_ | refine wx_cat ?_ | refine wl_storeT rfl rfl rfl (by rfl) (by exact .inl (Nat.le_refl _)) rfl ?_ | refine wl_stAT rfl rfl (by rfl) (by rfl) (by exact .inl (Nat.le_refl _)) rfl ?_)
    exact wq_retP (wq_retAT (_, p3) rfl rfl rfl rfl rfl rfl)
  · repeat (first | (apply wx_val; (first | exact v_move rfl | exact v_assign rfl | exact v_ldAT rfl (by rfl) | exact v_eq rfl rfl); rfl) | refine wc_seq ?_ | refine wc_region ?_ | refine wx_nil ?_ | refine wq_next ?_ | refine wc_block ?_ | refine wc_skip ?_ | refine wq_block ?_ | refine wx_setn ?_ | refine wc_condT rfl ?_ | refine wc_condF rfl ?_ | refine wl_stAT rfl rfl (by rfl) (by rfl) (by exact .inl (Nat.le_refl _)) rfl ?_)
    refine wl_callX (fun w' hr ho => readText_spec hd hb (p := p + 1) (by omega) 1 8 w' ho) rfl rfl rfl (fun q hq => ?_) (fun e he => ?_)
    case refine_2 =>
      repeat (first | refine wq_cat ?_ | refine wq_then_panic ?_)
      rw [he] at hR
      subst hR
      exact wq_pan e rfl rfl rfl
    obtain ⟨k, p2⟩ := q
    dsimp only at hq ⊢
    obtain ⟨k1, k2, k3, k4⟩ := textP_le (by omega) hq
    rw [hq] at hR
    dsimp only at hR
    repeat (first | (apply wx_val; (first | exact v_faddr rfl rfl | exact v_ldT rfl rfl rfl (by rfl) | exact v_ldAT rfl (by rfl)); rfl) | refine wc_seq ?_ | refine wc_region ?_ | refine wx_nil ?_ | refine wq_next ?_ | refine wc_ret ?_ | refine wc_skip ?_ | refine wx_setn ?_ | refine wq_setn ?_ | refine wx_cat ?_ | refine wc_condF rfl ?_ | refine wl_storeT rfl rfl rfl (by rfl) (by exact .inl (Nat.le_refl _)) rfl ?_ | refine wl_stAT rfl rfl (by rfl) (by rfl) (by exact .inl (Nat.le_refl _)) rfl ?_)
    rw [if_neg (by decide)] at hR
    subst hR
    skip
    exact wq_retP (wq_retAT (_, p2) rfl rfl rfl rfl rfl rfl)
  · repeat (first | (apply wx_val; (first | exact v_move rfl | exact v_assign rfl | exact v_faddr rfl rfl | exact v_ldAT rfl (by rfl) | exact v_eq rfl rfl); rfl) | refine wc_seq ?_ | refine wc_region ?_ | refine wx_nil ?_ | refine wq_next ?_ | refine wc_block ?_ | refine wq_block ?_ | refine wx_setn ?_ | refine wc_condT rfl ?_ | refine wc_condF rfl ?_ | refine wl_storeT rfl rfl rfl (by rfl) (by exact .inl (Nat.le_refl _)) rfl ?_ | refine wl_stAT rfl rfl (by rfl) (by rfl) (by exact .inl (Nat.le_refl _)) rfl ?_)
    refine wl_callX (fun w' hr ho => readText_spec hd hb (p := p + 1) (by omega) 1 8 w' ho) rfl rfl rfl (fun q hq => ?_) (fun e he => ?_)
    case refine_2 =>
      repeat (first | refine wq_cat ?_ | refine wq_then_panic ?_)
      rw [he] at hR
      subst hR
      exact wq_pan e rfl rfl rfl
    obtain ⟨k, p2⟩ := q
    dsimp only at hq ⊢
    obtain ⟨k1, k2, k3, k4⟩ := textP_le (by omega) hq
    rw [hq] at hR
    dsimp only at hR
    repeat (first | (apply wx_val; (first | exact v_faddr rfl rfl | exact v_ldT rfl rfl rfl (by rfl) | exact v_ldAT rfl (by rfl)); rfl) | refine wc_seq ?_ | refine wc_region ?_ | refine wx_nil ?_ | refine wq_next ?_ | refine wx_setn ?_ | refine wx_cat ?_ | refine wc_condT rfl ?_ | refine wl_storeT rfl rfl rfl (by rfl) (by exact .inl (Nat.le_refl _)) rfl ?_)
    refine wl_callX (fun w' hr ho => readText_spec hd hb (p := p2) (by omega) 0 16 w' ho) rfl rfl rfl (fun q hq2 => ?_) (fun e he => ?_)
    case refine_2 =>
      repeat (first | refine wq_cat ?_ | refine wq_then_panic ?_)
      rw [he] at hR
      rw [if_pos (by decide)] at hR
      subst hR
      exact wq_pan e rfl rfl rfl
    obtain ⟨v, p3⟩ := q
    dsimp only at hq2 ⊢
    rw [hq2, if_pos (by decide)] at hR
    dsimp only at hR
    subst hR
    repeat (first | (apply wx_val; (first | exact v_faddr rfl rfl | (first | exact v_ldQ 2 0 rfl rfl rfl rfl rfl)); rfl) | refine wc_seq ?_ | refine wc_region ?_ | refine wx_nil ?_ | refine wq_next ?_ | refine wc_ret ?_ | refine wx_setn ?_ | refine wq_setn ?_ | refine wx_cat ?_ | refine wl_storeT rfl rfl rfl (by rfl) (by exact .inl (Nat.le_refl _)) rfl ?_ | refine wl_stAT rfl rfl (by rfl) (by rfl) (by exact .inl (Nat.le_refl _)) rfl ?_)
    exact wq_retP (wq_retAT (_, p3) rfl rfl rfl rfl rfl rfl)
  · repeat (first | (apply wx_val; (first | exact v_move rfl | exact v_assign rfl | exact v_faddr rfl rfl | exact v_ldAT rfl (by rfl) | exact v_eq rfl rfl); rfl) | refine wc_seq ?_ | refine wc_region ?_ | refine wx_nil ?_ | refine wq_next ?_ | refine wc_block ?_ | refine wq_block ?_ | refine wx_setn ?_ | refine wc_condT rfl ?_ | refine wc_condF rfl ?_ | refine wl_storeT rfl rfl rfl (by rfl) (by exact .inl (Nat.le_refl _)) rfl ?_ | refine wl_stAT rfl rfl (by rfl) (by rfl) (by exact .inl (Nat.le_refl _)) rfl ?_)
    refine wl_callX (fun w' hr ho => readText_spec hd hb (p := p + 1) (by omega) 1 8 w' ho) rfl rfl rfl (fun q hq => ?_) (fun e he => ?_)
    case refine_2 =>
      repeat (first | refine wq_cat ?_ | refine wq_then_panic ?_)
      rw [he] at hR
      subst hR
      exact wq_pan e rfl rfl rfl
    obtain ⟨k, p2⟩ := q
    dsimp only at hq ⊢
    obtain ⟨k1, k2, k3, k4⟩ := textP_le (by omega) hq
    rw [hq] at hR
    dsimp only at hR
    repeat (first | (apply wx_val; (first | exact v_faddr rfl rfl | exact v_ldT rfl rfl rfl (by rfl) | exact v_ldAT rfl (by rfl)); rfl) | refine wc_seq ?_ | refine wc_region ?_ | refine wx_nil ?_ | refine wq_next ?_ | refine wc_ret ?_ | refine wc_skip ?_ | refine wx_setn ?_ | refine wq_setn ?_ | refine wx_cat ?_ | refine wc_condF rfl ?_ | refine wl_storeT rfl rfl rfl (by rfl) (by exact .inl (Nat.le_refl _)) rfl ?_ | refine wl_stAT rfl rfl (by rfl) (by rfl) (by exact .inl (Nat.le_refl _)) rfl ?_)
    rw [if_neg (by decide)] at hR
    subst hR
    skip
    exact wq_retP (wq_retAT (_, p2) rfl rfl rfl rfl rfl rfl)
end cur
end Go.Proofs.Ytjfjleejbbmmaaa
