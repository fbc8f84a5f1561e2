/- 4096 transactions, and one more. -/
import Derived.Test.YtjfjleejbbmmaaaLogG
set_option linter.unusedVariables false
set_option linter.unusedSimpArgs false
namespace Go.Proofs.Ytjfjleejbbmmaaa
open Go
set_option maxRecDepth 20000
set_option maxHeartbeats 4000000
attribute [local irreducible] WX WC WQ Val VCall
theorem reps_map (n : Nat) (u : TxnW) : (List.replicate n u).map TxnW.p = List.replicate n u.p := by simp
theorem reps_len (n : Nat) (t : TxnP) : (entsB (List.replicate n t)).length = n * (entB t).length := by
  induction n with
  | zero => simp [entsB]
  | succ n ih =>
    have e : entsB (List.replicate (n + 1) t) = entB t ++ entsB (List.replicate n t) := by simp [entsB, List.replicate_succ]
    rw [e, List.length_append, ih, Nat.add_mul, Nat.one_mul, Nat.add_comm]
theorem form_4096 : (formN 4096).length = 2 := by
  rw [formN_ge (by decide), formN_lt (by decide)]
  rfl
theorem reps_flat (n : Nat) (u : TxnW) : (List.replicate (n + 1) u).flatMap TxnW.cells = (List.replicate n u).flatMap TxnW.cells ++ u.cells := by
  rw [List.replicate_succ', List.flatMap_append]
  simp
theorem Many_law {t : TxnW} (ht : t.ops.xs.length ≤ 1048576) (w : World) (hv : t.Reads w) :
    Calls Try.prog 9 #[.agg t.cells.toArray] w (Holds w) := by
  refine go [.agg t.cells.toArray] [] Try.func9 Try.ntmps9 rfl rfl (own_nil w) ?_
  repeat (first | refine wc_seq ?_ | refine wc_region ?_)
  refine wl_boxA rfl rfl (fun g1 => ?_)
  repeat (first | (apply wx_val; (first | exact v_assign rfl | exact v_ldAT rfl (by rfl) | exact v_not rfl); rfl) | refine wc_seq ?_ | refine wc_region ?_ | refine wx_nil ?_ | refine wq_next ?_ | refine wc_skip ?_ | refine wc_condF rfl ?_ | (apply wx_vcall; exact vc_pure rfl rfl (fun w' => anchor_spec w'); rfl))
  (try refine wx_ungd rfl rfl ?_)
  refine wx_vcall (vc_pure' rfl rfl (fun w' hr => refValid_spec t w' (Vw.keep hv hr))) rfl ?_
  repeat (first | (apply wx_val; (first | exact v_ne rfl rfl); rfl) | refine wx_nil ?_ | refine wq_next ?_)
  refine wc_if rfl (fun he => ?_) (fun he => ?_)
  · repeat (first | (apply wx_val; (first | exact v_assign rfl); rfl) | refine wc_seq ?_ | refine wc_region ?_ | refine wx_nil ?_ | refine wq_next ?_ | refine wc_ret ?_ | refine wq_then_ret ?_)
    exact wq_clear (wq_ret1 () rfl rfl trivial rfl)
  have he' : t.err = 0 := Decidable.not_not.1 he
  repeat (first | (apply wx_val; (first | exact v_ldAT rfl (by rfl)); rfl) | refine wc_seq ?_ | refine wc_region ?_ | refine wq_next ?_ | refine wc_skip ?_)
  refine wl_callT (M1 := []) (fun w' hr ho => Copy_spec ht w' (Vw.keep hv hr)) rfl rfl rfl ?_
  rintro ⟨A3, c3, E3⟩ hb3
  dsimp only at hb3 ⊢
  repeat (first | (apply wx_val; (first | exact v_assign rfl); rfl) | refine wc_seq ?_ | refine wc_region ?_ | refine wx_nil ?_ | refine wq_next ?_ | refine wc_block ?_ | refine wc_setn ?_ | refine wx_cat ?_ | refine wl_stAT rfl rfl (by rfl) (by rfl) (by exact .inl (Nat.le_refl _)) rfl ?_)
  refine wc_seg ?_
  obtain ⟨u, hu⟩ : ∃ u, u = t.p.w A3 c3 := ⟨_, rfl⟩
  have huc : u.cells = t.p.cells A3 c3 := by rw [hu]; rfl
  have hue : u.err = 0 := by rw [hu]; exact he'
  have hup : u.p = t.p := by rw [hu]; rfl
  refine wc_loopK (ι := Nat × Option Addr × Nat × Seg) [1] (fun q => [(3, .slice q.2.1 q.1 q.2.2.1), (4, .int .i64 (q.1 : Nat))]) (fun q => [q.2.2.2]) (fun q => q.1 ≤ 4096 ∧ Buf 46 8 q.2.1 q.1 q.2.2.1 ((List.replicate q.1 u).flatMap TxnW.cells) q.2.2.2) (fun q => 4096 - q.1) ((0, none, 0, [])) rfl ?_ (by repeat (first | exact trivial | refine ⟨rfl, ?_⟩)) ?_
  · exact ⟨Nat.zero_le _, Buf.nil _ _⟩
  rintro ⟨i, A1, c1, E1⟩ ⟨hi, hb1⟩
  try dsimp only
  refine wc_fcat ?_
  refine wc_cat ?_
  dsimp only at hi hb1 ⊢
  repeat (first | (apply wx_val; (first | exact v_move rfl | exact v_lt rfl rfl); rfl) | refine wc_seq ?_ | refine wc_region ?_ | refine wx_nil ?_ | refine wq_next ?_)
  refine wc_if rfl (fun h0 => ?_) (fun h0 => ?_)
  · repeat (first | (apply wx_val; (first | exact v_move rfl | exact v_ldAT rfl (by rfl)); rfl) | refine wc_seq ?_ | refine wc_region ?_ | refine wq_next ?_ | refine wc_block ?_ | refine wc_skip ?_)
    refine wl_lit rfl rfl rfl rfl rfl (by decide) rfl (fun g9 => ?_)
    refine wl_app1T (news := t.p.cells A3 c3) rfl hb1 rfl rfl rfl rfl (by omega) rfl (fun A4 c4 E4 hb4 => ?_)
    repeat (first | (apply wx_val; (first | exact v_move rfl | exact v_assign rfl | exact v_addi rfl rfl (by omega)); rfl) | refine wc_region ?_ | refine wx_nil ?_ | refine wq_next ?_ | refine wq_block ?_)
    refine wq_roundK ((i + 1, A4, c4, E4)) ?_ ?_ (by repeat (first | exact trivial | refine ⟨rfl, ?_⟩)) (by first | exact catEq | exact rfl)
    · refine ⟨(show i + 1 ≤ 4096 by omega), ?_⟩
      dsimp only
      rw [reps_flat, huc]
      exact hb4
    · dsimp only; omega
  have hi4 : i = 4096 := by omega
  have hku : ∀ x ∈ List.replicate i u, x.err = 0 := fun x hx => by rw [List.eq_of_mem_replicate hx]; exact hue
  have hkl : (List.replicate i u).length = i := by simp
  have hkp : (List.replicate i u).map TxnW.p = List.replicate i t.p := by rw [reps_map, hup]
  have e1 := chk_ok (L := List.replicate i u) (by omega) hku
  have e2 := encL_ok (L := List.replicate i u) (by rw [e1])
  rw [hkp] at e2
  have hrp : ∀ x ∈ List.replicate i t.p, x.Right := fun x hx => by rw [List.eq_of_mem_replicate hx]; exact he'
  have hpl : (List.replicate i t.p).length = 4096 := by rw [List.length_replicate]; exact hi4
  have hdl := dec_log hrp (by omega)
  have hDm : logB (List.replicate i t.p) = magicB ++ (entsB (List.replicate i t.p) ++ (0 :: formN 4096)) := by rw [logB, hpl]
  have hel := reps_len i t.p
  have hep := entB_pos t.p
  have hll := logB_len hrp (by omega)
  have hml := fun r => log_more (t := t.p) hrp he' hpl r
  have hmem : ∀ x ∈ List.replicate i t.p, x = t.p := fun x hx => List.eq_of_mem_replicate hx
  generalize List.replicate i t.p = Lp at hmem e2 hrp hpl hdl hDm hel hll hml
  obtain ⟨D, hD⟩ : ∃ D, D = logB Lp := ⟨_, rfl⟩
  rw [← hD] at hdl hDm e2 hll
  have hDl : D.length = 4 + ((entsB Lp).length + 3) := by
    rw [hDm, List.length_append, List.length_append, List.length_cons, form_4096]
    rfl
  have hel2 : i ≤ (entsB Lp).length := by rw [hel]; exact Nat.le_mul_of_pos_right _ hep
  repeat (first | (apply wx_val; (first | exact v_move rfl); rfl) | refine wc_seq ?_ | refine wc_region ?_ | refine wq_next ?_ | refine wc_exit ?_ | refine wq_then_exit ?_ | refine wq_block_exit rfl ?_)
  refine wl_callT (M1 := []) (fun w' hr ho => LogEnc_n (W := List.replicate i u) hkl.symm (by omega) w' (hb1.vwT hr) (fun x hx => by rw [List.eq_of_mem_replicate hx, hu]; exact hb3.vwT hr)) rfl rfl rfl ?_
  rintro ⟨A5, c5, E5⟩ hb5
  rw [e2] at hb5
  rw [e1, e2]
  dsimp only at hb5 ⊢
  repeat (first | (apply wx_val; (first | exact v_move rfl | exact v_assign rfl | exact v_extract rfl rfl | exact v_len rfl rfl | exact v_ne rfl rfl | exact v_lt rfl rfl | exact v_pickF rfl rfl); rfl) | refine wx_ungd rfl rfl ?_ | refine wc_seq ?_ | refine wc_region ?_ | refine wx_nil ?_ | refine wq_next ?_ | refine wc_cat ?_)
  refine wc_not rfl (decide_eq_false (by omega)) ?_
  repeat (first | (apply wx_val; (first | exact v_move rfl); rfl) | refine wc_seq ?_ | refine wc_region ?_ | refine wq_next ?_ | refine wc_skip ?_)
  refine wl_callT (M1 := []) (fun w' hr ho => LogDec_spec (d := D) (by omega) w' (hb5.vwT hr)) rfl rfl rfl ?_
  rintro ⟨A6, c6, E6, S6, W6⟩ hq6
  dsimp only at hq6 ⊢
  try refine wx_cat ?_
  have hq6' : ListO (allD D).1 (A6, c6, E6, S6, W6) := hq6
  rw [hdl] at hq6' ⊢
  dsimp only at hq6' ⊢
  rw [hpl]
  have hq6b := hq6'.buf
  dsimp only at hq6b
  rw [hpl] at hq6b
  have hw6 := hq6'.len
  dsimp only at hw6
  obtain ⟨v, hv6⟩ : ∃ v, W6[4095]? = some v := ⟨W6[4095]'(by omega), List.getElem?_eq_getElem _⟩
  have hvp : v.p = t.p := by
    have h1 : (W6.map TxnW.p)[4095]? = some v.p := by rw [List.getElem?_map, hv6]; rfl
    rw [hq6'.map] at h1
    have h2 := List.mem_of_getElem? h1
    exact hmem _ h2
  have hvc : v.cells = t.p.cells v.ops.A v.ops.c := by rw [← hvp]; rfl
  have hvo : v.ops.xs = t.p.ops := by rw [← hvp]; rfl
  obtain ⟨gA, hgA⟩ := hq6b.ptr (by decide)
  repeat (first | (apply wx_val; (first | exact v_move rfl | exact v_assign rfl | exact v_extract rfl rfl); rfl) | refine wc_seq ?_ | refine wx_nil ?_ | refine wq_next ?_)
  refine wc_heldX [] [[(g1, .cells (t.p.cells A3 c3).toArray 46 (0, 0))], E6] rfl (by (repeat (first | with_reducible exact panicNot_of panicOk_body | with_reducible apply panicNot_then))) (fun hQd => ?_)
  (apply wh_takeX 0; (first | exact fun _ h => h | exact fun _ h => res_takes h); exact hQd; rfl; rfl; exact v_move rfl; decide +kernel; decide +kernel; decide +kernel; rfl)
  (apply wh_takeX 1; (first | exact fun _ h => res_takes h); exact hQd; rfl; rfl; (first | exact v_ne rfl rfl); decide +kernel; decide +kernel; decide +kernel; rfl)
  (apply wh_takeX 2; (first | exact fun _ h => h | exact fun _ h => res_takes h); exact hQd; rfl; rfl; exact v_move rfl; decide +kernel; decide +kernel; decide +kernel; rfl)
  (first | refine wh_not 58 rfl rfl ?_ | refine wh_not 58 rfl (decide_eq_false rfl) ?_ | refine wh_not 58 rfl (by simp) ?_)
  (first | (apply wh_takegX 3; (first | exact fun _ h => res_takes h); exact hQd; rfl; rfl; rfl; rfl; exact v_move rfl; decide +kernel; decide +kernel; decide +kernel; rfl))
  (first | (apply wh_takegX 4; (first | exact fun _ h => res_takes h); exact hQd; rfl; rfl; rfl; rfl; (first | exact v_len rfl rfl); decide +kernel; decide +kernel; decide +kernel; rfl))
  (first | (apply wh_takegX 5; (first | exact fun _ h => res_takes h); exact hQd; rfl; rfl; rfl; rfl; (first | exact v_ne rfl rfl); decide +kernel; decide +kernel; decide +kernel; rfl))
  (apply wh_takeX 6; (first | exact fun _ h => h | exact fun _ h => res_takes h); exact hQd; rfl; rfl; (first | exact v_pickT rfl rfl | exact v_pickF rfl rfl | exact v_pick rfl rfl rfl); decide +kernel; decide +kernel; decide +kernel; rfl)
  (apply wh_takeX 7; (first | exact fun _ h => h | exact fun _ h => res_takes h); exact hQd; rfl; rfl; exact v_move rfl; decide +kernel; decide +kernel; decide +kernel; rfl)
  (first | refine wh_not 63 rfl rfl ?_ | refine wh_not 63 rfl (decide_eq_false rfl) ?_ | refine wh_not 63 rfl (by simp) ?_)
  (first | (apply wh_takegX 8; (first | exact fun _ h => res_takes h); exact hQd; rfl; rfl; rfl; rfl; exact v_move rfl; decide +kernel; decide +kernel; decide +kernel; rfl))
  (first | (apply wh_takegX 9; (first | exact fun _ h => res_takes h); exact hQd; rfl; rfl; rfl; rfl; (exact v_iaddrE (e := 46) (sz := 8) hgA rfl rfl rfl (by omega)); decide +kernel; decide +kernel; decide +kernel; rfl))
  (first | (apply wh_takegX 10; (first | exact fun _ h => res_takes h); exact hQd; rfl; rfl; rfl; rfl; (exact v_loadA (cs := t.p.cells v.ops.A v.ops.c) rfl rfl (fun w' hr j u hj => Buf.elemT (i := 4095) hq6b hgA (by decide) (fun _ => rfl) hv6 hr (by rw [hvc]; exact hj) (by simp))); decide +kernel; decide +kernel; decide +kernel; rfl))
  (first | (apply wh_takegX 11; (first | exact fun _ h => res_takes h); exact hQd; rfl; rfl; rfl; rfl; (first | exact v_ldAT rfl (by rfl)); decide +kernel; decide +kernel; decide +kernel; rfl))
  refine wh_eff 12 rfl (by decide +kernel) ?_
  refine wx_ungd rfl rfl ?_
  (try refine wx_ungd rfl rfl ?_)
  refine wx_vcall (vc_pure' rfl rfl (fun w' hr => Same_spec (t := t.p) ht w' (by have := hq6'.reads hr v (List.mem_of_getElem? hv6); unfold TxnW.Reads at this; rw [hvo] at this; exact this) (hb3.vwT hr))) rfl ?_
  (try refine wx_nil ?_)
  refine wq_held (by (first | exact fun _ h => h | exact fun _ h => res_takes h)) ?_
  (first | (apply wh_takegX 13; (first | exact fun _ h => res_takes h); exact hQd; rfl; rfl; rfl; rfl; (first | exact v_not rfl); decide +kernel; decide +kernel; decide +kernel; rfl))
  (apply wh_takeX 14; (first | exact fun _ h => h | exact fun _ h => res_takes h); exact hQd; rfl; rfl; (first | exact v_pickT rfl rfl | exact v_pickF rfl rfl | exact v_pick rfl rfl rfl); decide +kernel; decide +kernel; decide +kernel; rfl)
  refine wh_done (by decide +kernel) ?_
  repeat (first | (apply wx_val; (first | exact v_move rfl | exact v_ldAT rfl (by rfl)); rfl) | refine wc_seq ?_ | refine wc_region ?_ | refine wq_next ?_ | refine wc_skip ?_ | refine wc_condF rfl ?_)
  refine wl_lit rfl rfl rfl rfl rfl (by decide) rfl (fun g74 => ?_)
  refine wl_app1T (news := t.p.cells A3 c3) rfl hb1 rfl rfl rfl rfl (by omega) rfl (fun A7 c7 E7 hb7 => ?_)
  have hb7' : Buf 46 8 A7 (i + 1) c7 ((List.replicate (i + 1) u).flatMap TxnW.cells) E7 := by
    rw [reps_flat, huc]
    exact hb7
  have hkl2 : (List.replicate (i + 1) u).length = i + 1 := by simp
  have f1 := chk_many (L := List.replicate (i + 1) u) (by omega)
  have f2 := encL_bad (L := List.replicate (i + 1) u) (by rw [f1]; show (71 : Int) ≠ 0; decide)
  skip
  refine wl_callT (M1 := []) (fun w' hr ho => LogEnc_n (W := List.replicate (i + 1) u) hkl2.symm (by omega) w' (hb7'.vwT hr) (fun x hx => by rw [List.eq_of_mem_replicate hx, hu]; exact hb3.vwT hr)) rfl rfl rfl ?_
  rintro ⟨A8, c8, E8⟩ hb8
  rw [f2] at hb8
  rw [f1, f2]
  dsimp only at hb8 ⊢
  repeat (first | (apply wx_val; (first | exact v_move rfl | exact v_assign rfl | exact v_ldAT rfl (by rfl) | exact v_extract rfl rfl); rfl) | refine wc_seq ?_ | refine wc_region ?_ | refine wx_nil ?_ | refine wq_next ?_ | refine wx_cat ?_)
  refine wl_litB rfl rfl rfl rfl rfl (by decide) rfl (fun g82 E82 hb82 => ?_)
  have hb82' : Buf 46 8 (some ⟨g82, 0, none⟩) 1 1 (([u] : List TxnW).flatMap TxnW.cells) E82 := by
    have e : ([u] : List TxnW).flatMap TxnW.cells = t.p.cells A3 c3 := by rw [← huc]; simp
    rw [e]
    exact hb82
  have o1 := chk_ok (L := [u]) (by simp) (by simpa using hue)
  have o2 := encL_ok (L := [u]) (by rw [o1])
  rw [List.map_cons, List.map_nil, hup] at o2
  obtain ⟨O, hO⟩ : ∃ O, O = logB [t.p] := ⟨_, rfl⟩
  have hOm : O = magicB ++ (entB t.p ++ (0 :: formN 1)) := by rw [hO, logB]; simp [entsB]
  have hf1 : (formN 1).length = 1 := by rw [formN_lt (by decide)]; rfl
  have hOl : O.length = 4 + ((entB t.p).length + 2) := by
    rw [hOm, List.length_append, List.length_append, List.length_cons, hf1]
    rfl
  have hep2 : 2 ≤ (entB t.p).length := by
    have h1 := t.p.body_pos he'
    have h2 := formN_pos t.p.body.length
    rw [entB, List.length_append]
    omega
  have hep3 : (entB t.p).length ≤ 480 := by
    have h1 := t.p.body_le he'
    have h3 := formN_len8 (n := t.p.body.length) (by omega)
    rw [entB, List.length_append]
    omega
  rw [← hO] at o2
  skip
  refine wl_callT (M1 := []) (fun w' hr ho => LogEnc_n (W := [u]) (n := 1) rfl (by decide) w' (hb82'.vwT hr) (fun x hx => by rw [List.mem_singleton.1 hx, hu]; exact hb3.vwT hr)) rfl rfl rfl ?_
  rintro ⟨A9, c9, E9⟩ hb9
  rw [o2] at hb9
  rw [o1, o2]
  dsimp only at hb9 ⊢
  repeat (first | (apply wx_val; (first | exact v_move rfl | exact v_assign rfl | exact v_extract rfl rfl | exact v_len rfl rfl | exact v_ne rfl rfl | exact v_lt rfl rfl | exact v_pickF rfl rfl); rfl) | refine wx_ungd rfl rfl ?_ | refine wc_seq ?_ | refine wc_region ?_ | refine wx_nil ?_ | refine wq_next ?_ | refine wc_cat ?_)
  refine wc_not rfl (decide_eq_false (by omega)) ?_
  repeat (first | (apply wx_val; (first | exact v_move rfl | exact v_assign rfl | exact v_len rfl rfl | exact v_subi rfl rfl (by omega)); rfl) | refine wc_seq ?_ | refine wc_region ?_ | refine wx_nil ?_ | refine wq_next ?_ | refine wc_skip ?_)
  obtain ⟨F, hF⟩ : ∃ F, F = D.take (D.length - 3) := ⟨_, rfl⟩
  have hFl : F.length = D.length - 3 := by rw [hF, List.length_take]; omega
  obtain ⟨G, hG⟩ : ∃ G, G = O.drop 4 := ⟨_, rfl⟩
  have hGl : G.length = O.length - 4 := by rw [hG, List.length_drop]
  have hFm : F = magicB ++ entsB Lp := by
    rw [hF, hDm, ← List.append_assoc]
    refine List.take_left' ?_
    rw [List.length_append, List.length_append, List.length_append, List.length_cons, form_4096]
    omega
  have hGm : G = entB t.p ++ (0 :: formN 1) := by
    rw [hG, hOm]
    exact List.drop_left' rfl
  have hbl5 := hb5.le.1
  have hbl9 := hb9.le.1
  have hall : allD (F ++ G) = ([], 4 + (entsB Lp).length, 71) := by
    rw [hFm, hGm, List.append_assoc]
    exact hml _
  obtain ⟨Z, hZ⟩ : ∃ Z, Z = F ++ G := ⟨_, rfl⟩
  have hZl : Z.length = F.length + G.length := by rw [hZ, List.length_append]
  rw [← hZ] at hall
  refine wc_heldX [] [] rfl (by (repeat (first | exact panicNot_D3 rfl | with_reducible exact panicNot_of panicOk_body | with_reducible apply panicNot_block | with_reducible apply panicNot_then))) (fun hQd => ?_)
  (apply wh_takeX 1; (first | exact fun _ h => h | exact fun _ h => res_takes h); exact hQd; rfl; rfl; exact v_move rfl; decide +kernel; decide +kernel; decide +kernel; rfl)
  (apply wh_takeX 2; (first | exact fun _ h => h | exact fun _ h => res_takes h); exact hQd; rfl; rfl; exact v_move rfl; decide +kernel; decide +kernel; decide +kernel; rfl)
  (apply wh_takeX 3; (first | exact fun _ h => res_takes h); exact hQd; rfl; rfl; (exact v_sliceN (l := 0) (h := D.length - 3) (m := F.length) rfl rfl rfl (congrArg some (by omega)) (by omega) hbl5 (by omega)); decide +kernel; decide +kernel; decide +kernel; rfl)
  (apply wh_takeX 5; (first | exact fun _ h => h | exact fun _ h => res_takes h); exact hQd; rfl; rfl; exact v_move rfl; decide +kernel; decide +kernel; decide +kernel; rfl)
  (apply wh_takeX 6; (first | exact fun _ h => res_takes h); exact hQd; rfl; rfl; (exact v_sliceN (l := 4) (h := O.length) (m := G.length) rfl rfl rfl rfl (by omega) hbl9 (by omega)); decide +kernel; decide +kernel; decide +kernel; rfl)
  refine wh_eff 0 rfl (by decide +kernel) ?_
  refine wl_lit0 rfl rfl (fun g106 E0 hb0 => ?_)
  (try refine wx_nil ?_)
  refine wq_held (by (first | exact fun _ h => h | exact fun _ h => res_takes h)) ?_
  refine wh_eff 4 rfl (by decide +kernel) ?_
  refine wl_appT rfl hb0 rfl rfl (fun w' hr => src_slice (m := F.length) (xs := bys F) rfl (by
    have := (vw_cut (sz := 1) (c := c5) (hb5.vwT hr) (l := 0) (h := D.length - 3) (by omega) (by simp) (by omega)).rd
    rw [hF]
    simpa [bys, List.map_drop, List.map_take] using this) (by simp) (by decide) (one_bys _)) (by omega) rfl (fun Aa ca Ea hba => ?_)
  simp only [Nat.zero_add, List.nil_append] at hba ⊢
  (try refine wx_nil ?_)
  refine wq_held (by (first | exact fun _ h => h | exact fun _ h => res_takes h)) ?_
  refine wh_eff 7 rfl (by decide +kernel) ?_
  refine wl_appT rfl hba rfl rfl (fun w' hr => src_slice (m := G.length) (xs := bys G) rfl (by
    have := (vw_cut (sz := 1) (c := c9) (hb9.vwT hr) (l := 4) (h := O.length) (by omega) (by simp) (by omega)).rd
    rw [hG]
    have e : (O.length - 4) * 1 = (bys (O.drop 4)).length := by simp
    rw [show (bys O).drop (4 * 1) = bys (O.drop 4) by simp [bys, List.map_drop], e, List.take_length] at this
    exact this) (by simp) (by decide) (one_bys _)) (by omega) rfl (fun Ab cb Eb hbb => ?_)
  rw [← bys_append, ← List.length_append, ← hZ] at hbb
  rw [← List.length_append, ← hZ]
  (try refine wx_nil ?_)
  refine wq_held (by (first | exact fun _ h => h | exact fun _ h => res_takes h)) ?_
  (apply wh_takeX 8; (first | exact fun _ h => h | exact fun _ h => res_takes h); exact hQd; rfl; rfl; exact v_assign rfl; decide +kernel; decide +kernel; decide +kernel; rfl)
  refine wh_done (by decide +kernel) ?_
  repeat (first | (apply wx_val; (first | exact v_move rfl); rfl) | refine wc_seq ?_ | refine wc_region ?_ | refine wq_next ?_)
  refine wl_callT (M1 := []) (fun w' hr ho => LogDec_spec (d := Z) (by omega) w' (hbb.vwT hr)) rfl rfl rfl ?_
  rintro ⟨Ac, cc, Ec, Sc, Wc⟩ hqc
  dsimp only at hqc ⊢
  try refine wx_cat ?_
  rw [hall]
  dsimp only
  repeat (first | (apply wx_val; (first | exact v_move rfl | exact v_assign rfl | exact v_extract rfl rfl | exact v_eq rfl rfl | exact v_pickT rfl rfl); rfl) | refine wx_ungd rfl rfl ?_ | refine wc_seq ?_ | refine wc_region ?_ | refine wx_nil ?_ | refine wq_next ?_ | refine wc_ret ?_)
  exact wq_clear (wq_ret1 () rfl (bool_val (decide_eq_true (by omega))) trivial rfl)
end Go.Proofs.Ytjfjleejbbmmaaa
