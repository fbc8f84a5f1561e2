/- The document's reading of a transaction. -/
import Derived.Test.YtjfjleejbbmmaaaRecD3
import Derived.Test.YtjfjleejbbmmaaaWire8v
set_option linter.unusedVariables false
set_option linter.unusedSimpArgs false
namespace Go.Proofs.Ytjfjleejbbmmaaa
open Go
set_option maxRecDepth 20000
set_option maxHeartbeats 2000000
attribute [local irreducible] WX WC WQ Val VCall
theorem num_step (d : List UInt8) (p : Nat) (most : Int) : (∃ e, numP d p most = .error (p, e) ∧ e ≠ 0 ∧ rStep d p 0 2 0 most = (0, [], e, p, e)) ∨ (∃ n q : Nat, numP d p most = .ok (n, q) ∧ rStep d p 0 2 0 most = (((n : Nat) : Int), [], 0, q, 0)) := by
  unfold rStep numP cNumber
  rw [if_neg (show ¬ ((2 : Int) = 1) by decide), if_pos (show (2 : Int) = 2 by rfl), if_neg (show ¬ ((0 : Int) ≠ 0) by simp)]
  by_cases h1 : (scanL 0 0 (d.drop p)).2.2 ≠ 0
  · rw [if_pos h1, if_pos h1]; exact .inl ⟨_, rfl, h1, rfl⟩
  · rw [if_neg h1, if_neg h1]
    by_cases h2 : most < (scanL 0 0 (d.drop p)).1
    · rw [if_pos h2, if_pos h2]; exact .inl ⟨53, rfl, by decide, rfl⟩
    · rw [if_neg h2, if_neg h2]; exact .inr ⟨_, _, rfl, rfl⟩
theorem text_step (d : List UInt8) (p : Nat) (least most : Int) : (∃ e, textP d p least most = .error (p, e) ∧ e ≠ 0 ∧ rStep d p 0 3 least most = (0, [], e, p, e)) ∨ (∃ (n : List UInt8) (q : Nat), textP d p least most = .ok (n, q) ∧ rStep d p 0 3 least most = (0, n, 0, q, 0)) := by
  unfold rStep textP cText
  rw [if_neg (show ¬ ((3 : Int) = 1) by decide), if_neg (show ¬ ((3 : Int) = 2) by decide), if_pos (show (3 : Int) = 3 by rfl), if_neg (show ¬ ((0 : Int) ≠ 0) by simp)]
  by_cases h1 : (scanL 0 0 (d.drop p)).2.2 ≠ 0
  · rw [if_pos h1, if_pos h1]; exact .inl ⟨_, rfl, h1, rfl⟩
  · rw [if_neg h1, if_neg h1]
    by_cases h2 : ((scanL 0 0 (d.drop p)).1 : Int) < least ∨ most < (scanL 0 0 (d.drop p)).1
    · rw [if_pos h2, if_pos h2]; exact .inl ⟨53, rfl, by decide, rfl⟩
    · rw [if_neg h2, if_neg h2]
      by_cases h4 : d.length < p + (scanL 0 0 (d.drop p)).2.1 + (scanL 0 0 (d.drop p)).1
      · rw [if_pos h4, if_pos h4]; exact .inl ⟨51, rfl, by decide, rfl⟩
      · rw [if_neg h4, if_neg h4]; exact .inr ⟨_, _, rfl, rfl⟩
theorem byte_step (d : List UInt8) (p : Nat) : rStep d p 0 1 0 0 = if d.length ≤ p then (0, [], 51, p, 51) else (((d.getD p 0).toNat : Int), [], 0, p + 1, 0) := by
  unfold rStep cByte
  rw [if_pos rfl, if_neg (show ¬ ((0 : Int) ≠ 0) by simp)]
  split
  · rfl
  · show (_, _, _, ((p : Int) + 1).toNat, _) = _
    rw [show ((p : Int) + 1).toNat = p + 1 by omega]
section cur
variable {g c : Nat} {A : Option Addr} {d : List UInt8} {p : Nat}
abbrev OpR (w : World) (X : List Nat) (r : PR OpW) (g : Nat) (A : Option Addr) (n c : Nat) : Ending → World → Prop :=
  Ret (β := OpW × Int × Int × Nat × Int) w X (fun q => .tuple #[.agg q.1.cells.toArray, .int .i64 q.2.1, .int .i64 q.2.2.1]) (fun q => [refB g A n c q.2.2.2.1 q.2.2.2.2]) (fun q => match r with
    | .error x => q.2.1 = x.1 ∧ q.2.2.1 = x.2 ∧ x.2 ≠ 0
    | .ok (o, p') => q = (o, 0, 0, p', 0))
theorem refOp_spec (hd : d.length ≤ 140737488355328) (hc : d.length ≤ c) (hcm : c ≤ maxLen) (hp : p ≤ d.length) (w : World) (hv : Vw (ids [refB g A d.length c p 0]) w A (bys d)) (ho : Own w [refB g A d.length c p 0]) :
    Calls Try.prog 73 #[.pointer (some ⟨g, 0, none⟩)] w (OpR w (ids [refB g A d.length c p 0]) (opP d p) g A d.length c) := by
  refine go [.pointer (some ⟨g, 0, none⟩)] [refB g A d.length c p 0] Try.func73 Try.ntmps73 rfl rfl ho ?_
  generalize hR : opP d p = R
  unfold opP at hR
  repeat (first | refine wc_seq ?_ | refine wc_region ?_)
  refine wl_alloc rfl rfl (fun g2 => ?_)
  repeat (first | (apply wx_val; (first | exact v_assign rfl); rfl) | refine wc_seq ?_ | refine wc_region ?_ | refine wx_nil ?_ | refine wq_next ?_)
  (try refine wx_ungd rfl rfl ?_)
  apply wx_val
  exact v_build (cs := ([.int .i64 1, .string ⟨#[]⟩, .bool false, .string ⟨#[]⟩]).toArray) rfl (by kernel_rfl)
  rfl
  skip
  refine wl_alloc rfl rfl (fun g5 => ?_)
  repeat (first | (apply wx_val; (first | exact v_move rfl | exact v_assign rfl | exact v_nil rfl | exact v_faddr rfl rfl | exact v_ldT rfl rfl rfl (by rfl)); rfl) | refine wc_seq ?_ | refine wc_region ?_ | refine wx_nil ?_ | refine wq_next ?_ | refine wx_setn ?_ | refine wl_stAT rfl rfl (by rfl) (by rfl) (by exact .inl (Nat.le_refl _)) rfl ?_)
  refine wl_callT (fun w' hr ho => StepV_spec (p := p) (f := 0) (k := 1) (a := 0) (b := 0) hd hc hcm hp (by omega) w' (hv.held hr (fun i hi => by rw [ids_append]; exact List.mem_append.2 (.inl hi))) ho) rfl rfl rfl ?_
  rintro ⟨B1, b1⟩ hcut1
  rw [byte_step]
  by_cases h1 : d.length ≤ p
  · rw [if_pos h1] at hR ⊢
    subst hR
    dsimp only
    repeat (first | (apply wx_val; (first | exact v_move rfl | exact v_assign rfl | exact v_ldAT rfl (by rfl) | exact v_extract rfl rfl | exact v_ne rfl rfl); rfl) | refine wc_seq ?_ | refine wc_region ?_ | refine wx_nil ?_ | refine wq_next ?_ | refine wc_ret ?_ | refine wq_then_ret ?_ | refine wq_setn ?_ | refine wx_cat ?_ | refine wc_condT rfl ?_ | refine wl_stAT rfl rfl (by rfl) (by rfl) (by exact .inl (Nat.le_refl _)) rfl ?_)
    exact wq_retA3T (⟨1, ⟨#[]⟩, false, ⟨#[]⟩⟩, p, 51, p, 51) rfl rfl rfl rfl rfl rfl ⟨rfl, rfl, show (51 : Int) ≠ 0 by decide⟩ rfl
  rw [if_neg h1] at hR ⊢
  dsimp only
  have hgb : (d.getD p 0).toNat < 256 := by have := (d.getD p 0).toNat_lt; omega
  generalize hG : (d.getD p 0).toNat = G at hR hgb ⊢
  repeat (first | (apply wx_val; (first | exact v_move rfl | exact v_assign rfl | exact v_extract rfl rfl | exact v_ne rfl rfl | exact v_lt rfl rfl); rfl) | refine wc_seq ?_ | refine wc_region ?_ | refine wx_nil ?_ | refine wq_next ?_ | refine wc_skip ?_ | refine wx_cat ?_ | refine wc_condF rfl ?_)
  by_cases hG1 : G = 0 ∨ 4 < G
  · rw [if_pos hG1] at hR
    subst hR
    repeat' (first | (apply wx_val; (first | exact v_move rfl | exact v_assign rfl | exact v_nil rfl | exact v_faddr rfl rfl | exact v_ldT rfl rfl rfl (by rfl) | exact v_ldAT rfl (by rfl) | exact v_eq rfl rfl | exact v_gt rfl rfl | exact v_subi rfl rfl (by omega) | exact v_pickT rfl rfl | exact v_pickF rfl rfl); rfl) | refine wx_no rfl rfl rfl ?_ | refine wx_ungd rfl rfl ?_ | refine wc_seq ?_ | refine wc_region ?_ | refine wx_nil ?_ | refine wq_next ?_ | refine wc_ret ?_ | refine wc_skip ?_ | refine wq_then_ret ?_ | refine wx_setn ?_ | refine wc_setn ?_ | refine wq_setn ?_ | refine wc_condT rfl ?_ | refine wl_storeT rfl rfl rfl (by rfl) (by exact .inl (Nat.le_refl _)) rfl ?_ | refine wl_stAT rfl rfl (by rfl) (by rfl) (by exact .inl (Nat.le_refl _)) rfl ?_ | refine wc_if rfl (fun _ => ?_) (fun _ => ?_) | refine wx_gif rfl rfl (fun _ => ?_) (fun _ => ?_))
    all_goals first
      | exact wq_retA3T (⟨1, ⟨#[]⟩, false, ⟨#[]⟩⟩, p, 60, p + 1, 0) rfl rfl rfl rfl rfl rfl ⟨rfl, rfl, show (60 : Int) ≠ 0 by decide⟩ rfl
      | (exfalso; omega)
  rw [if_neg hG1] at hR
  refine wx_gset false rfl rfl (decide_eq_false (by omega)) ?_
  repeat (first | (apply wx_val; (first | exact v_move rfl | exact v_gt rfl rfl | exact v_pickF rfl rfl); rfl) | refine wx_ungd rfl rfl ?_ | refine wx_nil ?_ | refine wq_next ?_)
  refine wc_not rfl (decide_eq_false (by omega)) ?_
  have hG4 : G = 1 ∨ G = 2 ∨ G = 3 ∨ G = 4 := by omega
  rcases hG4 with rfl | rfl | rfl | rfl
  · repeat (first | (apply wx_val; (first | exact v_move rfl | exact v_assign rfl | exact v_nil rfl | exact v_faddr rfl rfl | exact v_ldT rfl rfl rfl (by rfl) | exact v_eq rfl rfl | exact v_gt rfl rfl | exact v_pickT rfl rfl); rfl) | refine wx_no rfl rfl rfl ?_ | refine wc_seq ?_ | refine wc_region ?_ | refine wx_nil ?_ | refine wq_next ?_ | refine wc_skip ?_ | refine wx_setn ?_ | refine wc_condF rfl ?_ | refine wl_storeT rfl rfl rfl (by rfl) (by exact .inl (Nat.le_refl _)) rfl ?_)
    refine wl_callT (fun w' hr ho => StepV_spec (p := p + 1) (f := 0) (k := 3) (a := 1) (b := 8) hd hc hcm (by omega) (by omega) w' (hv.held hr (fun i hi => by rw [ids_append]; exact List.mem_append.2 (.inl hi))) ho) rfl rfl rfl ?_
    rintro ⟨B2, b2⟩ hcut2
    rcases text_step d (p + 1) 1 8 with ⟨e, t1, t2, t3⟩ | ⟨k, q, t1, t3⟩
    · rw [t1] at hR
      subst hR
      rw [t3]
      dsimp only
      repeat (first | (apply wx_val; (first | exact v_move rfl | exact v_assign rfl | exact v_extract rfl rfl | exact v_ne rfl rfl); rfl) | refine wc_seq ?_ | refine wc_region ?_ | refine wx_nil ?_ | refine wq_next ?_ | refine wc_cat ?_)
      refine wc_yes rfl (decide_eq_true t2) ?_
      repeat (first | (apply wx_val; (first | exact v_move rfl | exact v_assign rfl | exact v_ldAT rfl (by rfl)); rfl) | refine wc_seq ?_ | refine wc_region ?_ | refine wx_nil ?_ | refine wq_next ?_ | refine wc_ret ?_ | refine wq_then_ret ?_ | refine wq_setn ?_ | refine wl_stAT rfl rfl (by rfl) (by rfl) (by exact .inl (Nat.le_refl _)) rfl ?_)
      exact wq_retA3T (⟨1, ⟨#[]⟩, true, ⟨#[]⟩⟩, ((p + 1 : Nat) : Int), e, p + 1, e) rfl rfl rfl rfl rfl rfl ⟨rfl, rfl, t2⟩ rfl
    obtain ⟨k1, k2, k3, k4⟩ := textP_le (by omega) t1
    rw [t1] at hR
    dsimp only at hR
    rw [t3] at hcut2 ⊢
    dsimp only at hcut2 ⊢
    repeat (first | (apply wx_val; (first | exact v_move rfl | exact v_assign rfl | exact v_extract rfl rfl | exact v_ne rfl rfl); rfl) | refine wc_seq ?_ | refine wc_region ?_ | refine wx_nil ?_ | refine wq_next ?_ | refine wc_skip ?_ | refine wx_cat ?_ | refine wc_condF rfl ?_)
    (try refine wx_ungd rfl rfl ?_)
    apply wx_val
    exact v_str (l := k) rfl rfl rfl rfl (fun w' hr => (hcut2.vw hc (hv.keep hr)).rd) rfl
    rfl
    repeat (first | (apply wx_val; (first | exact v_move rfl | exact v_assign rfl | exact v_nil rfl | exact v_faddr rfl rfl | exact v_ldT rfl rfl rfl (by rfl)); rfl) | refine wc_seq ?_ | refine wc_region ?_ | refine wx_nil ?_ | refine wq_next ?_ | refine wx_setn ?_ | refine wc_condT rfl ?_ | refine wl_storeT rfl rfl rfl (by rfl) (by exact .inl (Nat.le_refl _)) rfl ?_)
    rw [if_pos (by decide)] at hR
    refine wl_callT (fun w' hr ho => StepV_spec (p := q) (f := 0) (k := 3) (a := 0) (b := 16) hd hc hcm (by omega) (by omega) w' (hv.held hr (fun i hi => by rw [ids_append]; exact List.mem_append.2 (.inl hi))) ho) rfl rfl rfl ?_
    rintro ⟨B3, b3⟩ hcut3
    rcases text_step d q 0 16 with ⟨e, s1, s2, s3⟩ | ⟨v, q3, s1, s3⟩
    · rw [s1] at hR
      subst hR
      rw [s3]
      dsimp only
      repeat (first | (apply wx_val; (first | exact v_move rfl | exact v_assign rfl | exact v_extract rfl rfl | exact v_ne rfl rfl); rfl) | refine wc_seq ?_ | refine wc_region ?_ | refine wx_nil ?_ | refine wq_next ?_ | refine wc_cat ?_)
      refine wc_yes rfl (decide_eq_true s2) ?_
      repeat (first | (apply wx_val; (first | exact v_move rfl | exact v_assign rfl | exact v_ldAT rfl (by rfl)); rfl) | refine wc_seq ?_ | refine wc_region ?_ | refine wx_nil ?_ | refine wq_next ?_ | refine wc_ret ?_ | refine wq_then_ret ?_ | refine wq_setn ?_ | refine wl_stAT rfl rfl (by rfl) (by rfl) (by exact .inl (Nat.le_refl _)) rfl ?_)
      exact wq_retA3T (⟨1, ⟨k.toArray⟩, true, ⟨#[]⟩⟩, (q : Int), e, q, e) rfl rfl rfl rfl rfl rfl ⟨rfl, rfl, s2⟩ rfl
    rw [s1] at hR
    dsimp only at hR
    subst hR
    rw [s3] at hcut3 ⊢
    dsimp only at hcut3 ⊢
    repeat (first | (apply wx_val; (first | exact v_move rfl | exact v_assign rfl | exact v_extract rfl rfl | exact v_ne rfl rfl); rfl) | refine wc_seq ?_ | refine wc_region ?_ | refine wx_nil ?_ | refine wq_next ?_ | refine wc_skip ?_ | refine wx_cat ?_ | refine wc_condF rfl ?_)
    (try refine wx_ungd rfl rfl ?_)
    apply wx_val
    exact v_str (l := v) rfl rfl rfl rfl (fun w' hr => (hcut3.vw hc (hv.keep hr)).rd) rfl
    rfl
    repeat (first | (apply wx_val; (first | exact v_assign rfl | exact v_faddr rfl rfl | (first | exact v_ldQ 1 0 rfl rfl rfl rfl rfl)); rfl) | refine wc_seq ?_ | refine wc_region ?_ | refine wx_nil ?_ | refine wq_next ?_ | refine wc_ret ?_ | refine wx_setn ?_ | refine wq_setn ?_ | refine wl_storeT rfl rfl rfl (by rfl) (by exact .inl (Nat.le_refl _)) rfl ?_ | refine wl_stAT rfl rfl (by rfl) (by rfl) (by exact .inl (Nat.le_refl _)) rfl ?_)
    exact wq_retA3T (⟨1, ⟨k.toArray⟩, true, ⟨v.toArray⟩⟩, 0, 0, q3, 0) rfl rfl rfl rfl rfl rfl rfl rfl
  · repeat (first | (apply wx_val; (first | exact v_move rfl | exact v_assign rfl | exact v_nil rfl | exact v_faddr rfl rfl | exact v_ldT rfl rfl rfl (by rfl) | exact v_eq rfl rfl | exact v_gt rfl rfl | exact v_pickF rfl rfl); rfl) | refine wx_ungd rfl rfl ?_ | refine wc_seq ?_ | refine wc_region ?_ | refine wx_nil ?_ | refine wq_next ?_ | refine wc_skip ?_ | refine wx_setn ?_ | refine wc_condF rfl ?_ | refine wl_storeT rfl rfl rfl (by rfl) (by exact .inl (Nat.le_refl _)) rfl ?_)
    refine wl_callT (fun w' hr ho => StepV_spec (p := p + 1) (f := 0) (k := 3) (a := 1) (b := 8) hd hc hcm (by omega) (by omega) w' (hv.held hr (fun i hi => by rw [ids_append]; exact List.mem_append.2 (.inl hi))) ho) rfl rfl rfl ?_
    rintro ⟨B2, b2⟩ hcut2
    rcases text_step d (p + 1) 1 8 with ⟨e, t1, t2, t3⟩ | ⟨k, q, t1, t3⟩
    · rw [t1] at hR
      subst hR
      rw [t3]
      dsimp only
      repeat (first | (apply wx_val; (first | exact v_move rfl | exact v_assign rfl | exact v_extract rfl rfl | exact v_ne rfl rfl); rfl) | refine wc_seq ?_ | refine wc_region ?_ | refine wx_nil ?_ | refine wq_next ?_ | refine wc_cat ?_)
      refine wc_yes rfl (decide_eq_true t2) ?_
      repeat (first | (apply wx_val; (first | exact v_move rfl | exact v_assign rfl | exact v_ldAT rfl (by rfl)); rfl) | refine wc_seq ?_ | refine wc_region ?_ | refine wx_nil ?_ | refine wq_next ?_ | refine wc_ret ?_ | refine wq_then_ret ?_ | refine wq_setn ?_ | refine wl_stAT rfl rfl (by rfl) (by rfl) (by exact .inl (Nat.le_refl _)) rfl ?_)
      exact wq_retA3T (⟨1, ⟨#[]⟩, false, ⟨#[]⟩⟩, ((p + 1 : Nat) : Int), e, p + 1, e) rfl rfl rfl rfl rfl rfl ⟨rfl, rfl, t2⟩ rfl
    obtain ⟨k1, k2, k3, k4⟩ := textP_le (by omega) t1
    rw [t1] at hR
    dsimp only at hR
    rw [t3] at hcut2 ⊢
    dsimp only at hcut2 ⊢
    repeat (first | (apply wx_val; (first | exact v_move rfl | exact v_assign rfl | exact v_extract rfl rfl | exact v_ne rfl rfl); rfl) | refine wc_seq ?_ | refine wc_region ?_ | refine wx_nil ?_ | refine wq_next ?_ | refine wc_skip ?_ | refine wx_cat ?_ | refine wc_condF rfl ?_)
    (try refine wx_ungd rfl rfl ?_)
    apply wx_val
    exact v_str (l := k) rfl rfl rfl rfl (fun w' hr => (hcut2.vw hc (hv.keep hr)).rd) rfl
    rfl
    repeat (first | (apply wx_val; (first | exact v_assign rfl | exact v_faddr rfl rfl | exact v_ldT rfl rfl rfl (by rfl) | exact v_ldAT rfl (by rfl)); rfl) | refine wc_seq ?_ | refine wc_region ?_ | refine wx_nil ?_ | refine wq_next ?_ | refine wc_ret ?_ | refine wc_skip ?_ | refine wx_setn ?_ | refine wq_setn ?_ | refine wc_condF rfl ?_ | refine wl_storeT rfl rfl rfl (by rfl) (by exact .inl (Nat.le_refl _)) rfl ?_ | refine wl_stAT rfl rfl (by rfl) (by rfl) (by exact .inl (Nat.le_refl _)) rfl ?_)
    rw [if_neg (by decide)] at hR
    subst hR
    exact wq_retA3T (⟨1, ⟨k.toArray⟩, false, ⟨#[]⟩⟩, 0, 0, q, 0) rfl rfl rfl rfl rfl rfl rfl rfl
  · repeat (first | (apply wx_val; (first | exact v_move rfl | exact v_assign rfl | exact v_nil rfl | exact v_faddr rfl rfl | exact v_ldT rfl rfl rfl (by rfl) | exact v_eq rfl rfl | exact v_gt rfl rfl | exact v_subi rfl rfl (by omega) | exact v_pickF rfl rfl); rfl) | refine wx_ungd rfl rfl ?_ | refine wc_seq ?_ | refine wc_region ?_ | refine wx_nil ?_ | refine wq_next ?_ | refine wc_skip ?_ | refine wx_setn ?_ | refine wc_condT rfl ?_ | refine wl_storeT rfl rfl rfl (by rfl) (by exact .inl (Nat.le_refl _)) rfl ?_)
    refine wl_callT (fun w' hr ho => StepV_spec (p := p + 1) (f := 0) (k := 3) (a := 1) (b := 8) hd hc hcm (by omega) (by omega) w' (hv.held hr (fun i hi => by rw [ids_append]; exact List.mem_append.2 (.inl hi))) ho) rfl rfl rfl ?_
    rintro ⟨B2, b2⟩ hcut2
    rcases text_step d (p + 1) 1 8 with ⟨e, t1, t2, t3⟩ | ⟨k, q, t1, t3⟩
    · rw [t1] at hR
      subst hR
      rw [t3]
      dsimp only
      repeat (first | (apply wx_val; (first | exact v_move rfl | exact v_assign rfl | exact v_extract rfl rfl | exact v_ne rfl rfl); rfl) | refine wc_seq ?_ | refine wc_region ?_ | refine wx_nil ?_ | refine wq_next ?_ | refine wc_cat ?_)
      refine wc_yes rfl (decide_eq_true t2) ?_
      repeat (first | (apply wx_val; (first | exact v_move rfl | exact v_assign rfl | exact v_ldAT rfl (by rfl)); rfl) | refine wc_seq ?_ | refine wc_region ?_ | refine wx_nil ?_ | refine wq_next ?_ | refine wc_ret ?_ | refine wq_then_ret ?_ | refine wq_setn ?_ | refine wl_stAT rfl rfl (by rfl) (by rfl) (by exact .inl (Nat.le_refl _)) rfl ?_)
      exact wq_retA3T (⟨2, ⟨#[]⟩, true, ⟨#[]⟩⟩, ((p + 1 : Nat) : Int), e, p + 1, e) rfl rfl rfl rfl rfl rfl ⟨rfl, rfl, t2⟩ rfl
    obtain ⟨k1, k2, k3, k4⟩ := textP_le (by omega) t1
    rw [t1] at hR
    dsimp only at hR
    rw [t3] at hcut2 ⊢
    dsimp only at hcut2 ⊢
    repeat (first | (apply wx_val; (first | exact v_move rfl | exact v_assign rfl | exact v_extract rfl rfl | exact v_ne rfl rfl); rfl) | refine wc_seq ?_ | refine wc_region ?_ | refine wx_nil ?_ | refine wq_next ?_ | refine wc_skip ?_ | refine wx_cat ?_ | refine wc_condF rfl ?_)
    (try refine wx_ungd rfl rfl ?_)
    apply wx_val
    exact v_str (l := k) rfl rfl rfl rfl (fun w' hr => (hcut2.vw hc (hv.keep hr)).rd) rfl
    rfl
    repeat (first | (apply wx_val; (first | exact v_move rfl | exact v_assign rfl | exact v_nil rfl | exact v_faddr rfl rfl | exact v_ldT rfl rfl rfl (by rfl)); rfl) | refine wc_seq ?_ | refine wc_region ?_ | refine wx_nil ?_ | refine wq_next ?_ | refine wx_setn ?_ | refine wc_condT rfl ?_ | refine wl_storeT rfl rfl rfl (by rfl) (by exact .inl (Nat.le_refl _)) rfl ?_)
    rw [if_pos (by decide)] at hR
    refine wl_callT (fun w' hr ho => StepV_spec (p := q) (f := 0) (k := 3) (a := 0) (b := 16) hd hc hcm (by omega) (by omega) w' (hv.held hr (fun i hi => by rw [ids_append]; exact List.mem_append.2 (.inl hi))) ho) rfl rfl rfl ?_
    rintro ⟨B3, b3⟩ hcut3
    rcases text_step d q 0 16 with ⟨e, s1, s2, s3⟩ | ⟨v, q3, s1, s3⟩
    · rw [s1] at hR
      subst hR
      rw [s3]
      dsimp only
      repeat (first | (apply wx_val; (first | exact v_move rfl | exact v_assign rfl | exact v_extract rfl rfl | exact v_ne rfl rfl); rfl) | refine wc_seq ?_ | refine wc_region ?_ | refine wx_nil ?_ | refine wq_next ?_ | refine wc_cat ?_)
      refine wc_yes rfl (decide_eq_true s2) ?_
      repeat (first | (apply wx_val; (first | exact v_move rfl | exact v_assign rfl | exact v_ldAT rfl (by rfl)); rfl) | refine wc_seq ?_ | refine wc_region ?_ | refine wx_nil ?_ | refine wq_next ?_ | refine wc_ret ?_ | refine wq_then_ret ?_ | refine wq_setn ?_ | refine wl_stAT rfl rfl (by rfl) (by rfl) (by exact .inl (Nat.le_refl _)) rfl ?_)
      exact wq_retA3T (⟨2, ⟨k.toArray⟩, true, ⟨#[]⟩⟩, (q : Int), e, q, e) rfl rfl rfl rfl rfl rfl ⟨rfl, rfl, s2⟩ rfl
    rw [s1] at hR
    dsimp only at hR
    subst hR
    rw [s3] at hcut3 ⊢
    dsimp only at hcut3 ⊢
    repeat (first | (apply wx_val; (first | exact v_move rfl | exact v_assign rfl | exact v_extract rfl rfl | exact v_ne rfl rfl); rfl) | refine wc_seq ?_ | refine wc_region ?_ | refine wx_nil ?_ | refine wq_next ?_ | refine wc_skip ?_ | refine wx_cat ?_ | refine wc_condF rfl ?_)
    (try refine wx_ungd rfl rfl ?_)
    apply wx_val
    exact v_str (l := v) rfl rfl rfl rfl (fun w' hr => (hcut3.vw hc (hv.keep hr)).rd) rfl
    rfl
    repeat (first | (apply wx_val; (first | exact v_assign rfl | exact v_faddr rfl rfl | (first | exact v_ldQ 1 0 rfl rfl rfl rfl rfl)); rfl) | refine wc_seq ?_ | refine wc_region ?_ | refine wx_nil ?_ | refine wq_next ?_ | refine wc_ret ?_ | refine wx_setn ?_ | refine wq_setn ?_ | refine wl_storeT rfl rfl rfl (by rfl) (by exact .inl (Nat.le_refl _)) rfl ?_ | refine wl_stAT rfl rfl (by rfl) (by rfl) (by exact .inl (Nat.le_refl _)) rfl ?_)
    exact wq_retA3T (⟨2, ⟨k.toArray⟩, true, ⟨v.toArray⟩⟩, 0, 0, q3, 0) rfl rfl rfl rfl rfl rfl rfl rfl
  · repeat (first | (apply wx_val; (first | exact v_move rfl | exact v_assign rfl | exact v_nil rfl | exact v_faddr rfl rfl | exact v_ldT rfl rfl rfl (by rfl) | exact v_eq rfl rfl | exact v_gt rfl rfl | exact v_subi rfl rfl (by omega) | exact v_pickF rfl rfl); rfl) | refine wx_ungd rfl rfl ?_ | refine wc_seq ?_ | refine wc_region ?_ | refine wx_nil ?_ | refine wq_next ?_ | refine wc_skip ?_ | refine wx_setn ?_ | refine wc_condT rfl ?_ | refine wl_storeT rfl rfl rfl (by rfl) (by exact .inl (Nat.le_refl _)) rfl ?_)
    refine wl_callT (fun w' hr ho => StepV_spec (p := p + 1) (f := 0) (k := 3) (a := 1) (b := 8) hd hc hcm (by omega) (by omega) w' (hv.held hr (fun i hi => by rw [ids_append]; exact List.mem_append.2 (.inl hi))) ho) rfl rfl rfl ?_
    rintro ⟨B2, b2⟩ hcut2
    rcases text_step d (p + 1) 1 8 with ⟨e, t1, t2, t3⟩ | ⟨k, q, t1, t3⟩
    · rw [t1] at hR
      subst hR
      rw [t3]
      dsimp only
      repeat (first | (apply wx_val; (first | exact v_move rfl | exact v_assign rfl | exact v_extract rfl rfl | exact v_ne rfl rfl); rfl) | refine wc_seq ?_ | refine wc_region ?_ | refine wx_nil ?_ | refine wq_next ?_ | refine wc_cat ?_)
      refine wc_yes rfl (decide_eq_true t2) ?_
      repeat (first | (apply wx_val; (first | exact v_move rfl | exact v_assign rfl | exact v_ldAT rfl (by rfl)); rfl) | refine wc_seq ?_ | refine wc_region ?_ | refine wx_nil ?_ | refine wq_next ?_ | refine wc_ret ?_ | refine wq_then_ret ?_ | refine wq_setn ?_ | refine wl_stAT rfl rfl (by rfl) (by rfl) (by exact .inl (Nat.le_refl _)) rfl ?_)
      exact wq_retA3T (⟨3, ⟨#[]⟩, false, ⟨#[]⟩⟩, ((p + 1 : Nat) : Int), e, p + 1, e) rfl rfl rfl rfl rfl rfl ⟨rfl, rfl, t2⟩ rfl
    obtain ⟨k1, k2, k3, k4⟩ := textP_le (by omega) t1
    rw [t1] at hR
    dsimp only at hR
    rw [t3] at hcut2 ⊢
    dsimp only at hcut2 ⊢
    repeat (first | (apply wx_val; (first | exact v_move rfl | exact v_assign rfl | exact v_extract rfl rfl | exact v_ne rfl rfl); rfl) | refine wc_seq ?_ | refine wc_region ?_ | refine wx_nil ?_ | refine wq_next ?_ | refine wc_skip ?_ | refine wx_cat ?_ | refine wc_condF rfl ?_)
    (try refine wx_ungd rfl rfl ?_)
    apply wx_val
    exact v_str (l := k) rfl rfl rfl rfl (fun w' hr => (hcut2.vw hc (hv.keep hr)).rd) rfl
    rfl
    repeat (first | (apply wx_val; (first | exact v_assign rfl | exact v_faddr rfl rfl | exact v_ldT rfl rfl rfl (by rfl) | exact v_ldAT rfl (by rfl)); rfl) | refine wc_seq ?_ | refine wc_region ?_ | refine wx_nil ?_ | refine wq_next ?_ | refine wc_ret ?_ | refine wc_skip ?_ | refine wx_setn ?_ | refine wq_setn ?_ | refine wc_condF rfl ?_ | refine wl_storeT rfl rfl rfl (by rfl) (by exact .inl (Nat.le_refl _)) rfl ?_ | refine wl_stAT rfl rfl (by rfl) (by rfl) (by exact .inl (Nat.le_refl _)) rfl ?_)
    rw [if_neg (by decide)] at hR
    subst hR
    exact wq_retA3T (⟨3, ⟨k.toArray⟩, false, ⟨#[]⟩⟩, 0, 0, q, 0) rfl rfl rfl rfl rfl rfl rfl rfl
end cur
end Go.Proofs.Ytjfjleejbbmmaaa
