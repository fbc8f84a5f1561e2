/- One step over a forest and the document's. -/
import Derived.Test.YtjeghbachokljaaSpRh
import Derived.Test.YtjeghbachokljaaSpY
import Derived.Test.YtjeghbachokljaaSpSo
set_option linter.unusedVariables false
set_option linter.unusedSimpArgs false
namespace Go.Proofs.Ytjeghbachokljaa
open Go
set_option maxRecDepth 20000
set_option maxHeartbeats 2000000
attribute [local irreducible] WX WC WQ Val VCall WY WR
/-- the document's forest -/
structure Rf where
  A : Option Addr
  c : Nat
  E : Seg
def Rf.seg (gr : Nat) (R : Rf) (n : Nat) : Seg := rfB gr R.A n R.c ++ R.E
abbrev Rf.ok (R : Rf) (A : Ks) : Prop := RsL A R.A A.length R.c R.E
theorem rseg_perm {gr n : Nat} {R : Rf} : [R.seg gr n].flatten.Perm [rfB gr R.A n R.c, R.E].flatten := by
  simp only [List.flatten_cons, List.flatten_nil, List.append_nil, Rf.seg]
  exact List.Perm.refl _
section
variable {gr : Nat} {A : Ks} {R : Rf}
theorem rIns_law (k : ByteArray) (s : Sp) (hn : A.length ≤ 2097152) (h : R.ok A) (w : World) (ho : Own w [R.seg gr A.length]) :
    Calls Try.prog 30 #[.pointer (some ⟨gr, 0, none⟩), .agg (rsC (k, s)).toArray] w (Ret (β := Rf) w (ids [R.seg gr A.length]) (fun _ => .int .i64 (insCode k s (hasA (k, s) A))) (fun R' => [R'.seg gr (insN k s A).length]) (fun R' => R'.ok (insN k s A))) :=
  call_conv (γ := Rf) [] (M := [rfB gr R.A A.length R.c, R.E]) (by rw [List.append_nil]; exact rseg_perm) ho (fun ho => rInsert_spec k s hn h w ho) fun x hx => ⟨⟨x.1, x.2.1, x.2.2⟩, rfl, by rw [List.append_nil]; exact (rseg_perm (R := ⟨x.1, x.2.1, x.2.2⟩)).symm, hx⟩
theorem rRem_law (e : ByteArray × Sp) (hn : A.length ≤ 2097152) (h : R.ok A) (hnd : A.Nodup) (w : World) (ho : Own w [R.seg gr A.length]) :
    Calls Try.prog 32 #[.pointer (some ⟨gr, 0, none⟩), .agg (rsC e).toArray] w (Ret (β := Rf) w (ids [R.seg gr A.length]) (fun _ => .bool (hasA e A)) (fun R' => [R'.seg gr (delAll e A).length]) (fun R' => R'.ok (delAll e A))) :=
  call_conv (γ := Rf) [] (M := [rfB gr R.A A.length R.c, R.E]) (by rw [List.append_nil]; exact rseg_perm) ho (fun ho => rRemove_spec e hn h hnd w ho) fun x hx => ⟨⟨x.1, x.2.1, x.2.2⟩, rfl, by rw [List.append_nil]; exact (rseg_perm (R := ⟨x.1, x.2.1, x.2.2⟩)).symm, hx⟩
theorem rDrop_law (fl : Int) (hn : A.length ≤ 2097152) (h : R.ok A) (w : World) (ho : Own w [R.seg gr A.length]) :
    Calls Try.prog 34 #[.pointer (some ⟨gr, 0, none⟩), .int .i64 fl] w (Ret (β := Rf) w (ids [R.seg gr A.length]) (fun _ => .int .i64 ((A.length : Nat) - ((A.filter (fun x => decide (fl < x.2.b))).length : Nat))) (fun R' => [R'.seg gr (A.filter (fun x => decide (fl < x.2.b))).length]) (fun R' => R'.ok (A.filter (fun x => decide (fl < x.2.b))))) :=
  call_conv (γ := Rf) [] (M := [rfB gr R.A A.length R.c, R.E]) (by rw [List.append_nil]; exact rseg_perm) ho (fun ho => rDrop_spec fl hn h w ho) fun x hx => ⟨⟨x.1, x.2.1, x.2.2⟩, rfl, by rw [List.append_nil]; exact (rseg_perm (R := ⟨x.1, x.2.1, x.2.2⟩)).symm, hx⟩
theorem rOf_law (k : ByteArray) (hn : A.length ≤ 2097152) (h : R.ok A) (w : World) (ho : Own w [R.seg gr A.length]) :
    Calls Try.prog 35 #[.pointer (some ⟨gr, 0, none⟩), .string k] w (Ret (β := Unit) w (ids [R.seg gr A.length]) (fun _ => .int .i64 ((ofK k A).length : Nat)) (fun _ => [R.seg gr A.length]) (fun _ => True)) :=
  call_conv (γ := Unit) [] (M := [rfB gr R.A A.length R.c, R.E]) (by rw [List.append_nil]; exact rseg_perm) ho (fun ho => rOf_spec k hn h w ho) fun x hx => ⟨(), rfl, by rw [List.append_nil]; exact rseg_perm.symm, trivial⟩
theorem rFst_law (k : ByteArray) (lo hi : Int) (hn : A.length ≤ 2097152) (h : R.ok A) (hA : AOk A) (w : World) (ho : Own w [R.seg gr A.length]) :
    Calls Try.prog 33 #[.pointer (some ⟨gr, 0, none⟩), .string k, .int .i64 lo, .int .i64 hi] w (Ret (β := Unit) w (ids [R.seg gr A.length]) (fun _ => .tuple #[.agg (rsC (rF k (firstS (ovK k lo hi A)))).toArray, .bool (firstS (ovK k lo hi A)).isSome]) (fun _ => [R.seg gr A.length]) (fun _ => True)) :=
  call_conv (γ := Unit) [] (M := [rfB gr R.A A.length R.c, R.E]) (by rw [List.append_nil]; exact rseg_perm) ho (fun ho => rFirst_spec k lo hi hn h hA w ho) fun x hx => ⟨(), rfl, by rw [List.append_nil]; exact rseg_perm.symm, trivial⟩
theorem rOv_law (k : ByteArray) (lo hi : Int) (hn : A.length ≤ 2097152) (h : R.ok A) (w : World) (ho : Own w [R.seg gr A.length]) :
    Calls Try.prog 21 #[.pointer (some ⟨gr, 0, none⟩), .string k, .int .i64 lo, .int .i64 hi] w (Ret (β := Option Addr × Nat × Seg) w (ids [R.seg gr A.length]) (fun x => .slice x.1 (ovK k lo hi A).length x.2.1) (fun x => [R.seg gr A.length, x.2.2]) (fun x => RsL ((ovK k lo hi A).map (fun s => (k, s))) x.1 (ovK k lo hi A).length x.2.1 x.2.2)) := by
  refine call_conv (γ := Option Addr × Nat × Seg) [] (M := [rfB gr R.A A.length R.c, R.E]) (by rw [List.append_nil]; exact rseg_perm) ho (fun ho => rOverlap_spec k lo hi hn h w ho) fun x hx => ⟨x, ?_, ?_, ?_⟩
  · rw [ovR_eq, List.length_map]
  · rw [List.append_nil]
    have := (rseg_perm (gr := gr) (n := A.length) (R := R)).symm.append_right x.2.2
    refine List.Perm.trans ?_ (this.trans ?_)
    · simp only [List.flatten_cons, List.flatten_nil, List.append_nil, List.append_assoc]
      exact List.Perm.refl _
    · simp only [List.flatten_cons, List.flatten_nil, List.append_nil]
      exact List.Perm.refl _
  · rw [ovR_eq, List.length_map] at hx
    exact hx
end
abbrev opC (g : Nat) (o : SOp) : Seg := [(g, .cells o.cells.toArray 49 (0, 0))]
theorem drop_len (fl : Int) : ∀ A : Ks, (A.filter (fun x => decide (x.2.b ≤ fl))).length + (A.filter (fun x => decide (fl < x.2.b))).length = A.length
  | [] => rfl
  | x :: r => by
    have ih := drop_len fl r
    by_cases h : x.2.b ≤ fl
    · rw [List.filter_cons_of_pos (by simpa using h), List.filter_cons_of_neg (by simp; omega)]
      simp only [List.length_cons]
      omega
    · rw [List.filter_cons_of_neg (by simpa using h), List.filter_cons_of_pos (by simp; omega)]
      simp only [List.length_cons]
      omega
theorem rgt_ab {A : Ks} (h : Rgt A) : ∀ x ∈ A, x.2.a ≤ x.2.b := fun x hx => by
  have h1 := h x hx
  unfold insCode at h1
  split at h1
  · exact absurd h1 (by decide)
  · split at h1
    · exact absurd h1 (by decide)
    · rename_i h2 h3
      have : rightS x.2 = true := by
        cases e : rightS x.2 with
        | true => rfl
        | false => exact absurd e h3
      unfold rightS at this
      have := of_decide_eq_true this
      omega
theorem six_perm {o f : Seg} {gr n : Nat} {R : Rf} : [o, f, R.seg gr n].flatten.Perm [f, rfB gr R.A n R.c, R.E, o].flatten := by
  simp only [List.flatten_cons, List.flatten_nil, List.append_nil, Rf.seg]
  refine List.perm_append_comm.trans ?_
  simp only [List.append_assoc]
  exact List.Perm.refl _
theorem six_back {o f : Seg} {gr n : Nat} {R : Rf} : [f, rfB gr R.A n R.c, R.E, o].flatten.Perm [f, R.seg gr n, o].flatten := by
  simp only [List.flatten_cons, List.flatten_nil, List.append_nil, Rf.seg, List.append_assoc]
  exact List.Perm.refl _
/-- both forests hold the same -/
structure Both (m : Nat) (A : Ks) (q : Fo) (R : Rf) : Prop where
  f : FoOk m A q
  r : R.ok A
  g : Rgt A
section
variable {gf gr m : Nat} {A : Ks} {q : Fo} {R : Rf}
abbrev StepR (gf gr m : Nat) (w : World) (A : Ks) (q : Fo) (R : Rf) : Ending → World → Prop := Ret (β := Ks × Fo × Rf) w (ids [q.seg gf A.length, R.seg gr A.length]) (fun _ => .bool true) (fun z => [z.2.1.seg gf z.1.length, z.2.2.seg gr z.1.length]) (fun z => Both (m + 1) z.1 z.2.1 z.2.2)
theorem step_spec (o : SOp) (hm : m ≤ 2097152) (h : Both m A q R) (w : World) (ho : Own w [q.seg gf A.length, R.seg gr A.length]) :
    Calls Try.prog 19 #[.pointer (some ⟨gf, 0, none⟩), .pointer (some ⟨gr, 0, none⟩), .agg o.cells.toArray] w (StepR gf gr m w A q R) := by
  refine go [.pointer (some ⟨gf, 0, none⟩), .pointer (some ⟨gr, 0, none⟩), .agg o.cells.toArray] [q.seg gf A.length, R.seg gr A.length] Try.func19 Try.ntmps19 rfl rfl ho ?_
  obtain ⟨hf, hr, hg⟩ := h
  have hA : A.length ≤ 2097152 := Nat.le_trans hf.lens.1 hm
  obtain ⟨kd, a1, b1, key, s⟩ := o
  repeat (first | refine wc_seq ?_ | refine wc_region ?_)
  refine wl_boxA rfl rfl (fun g5 => ?_)
  by_cases k1 : kd = 1
  · subst k1
    have c1 := fun w' ho => Insert_law (g := gf) key s hf (by omega) w' ho
    have c2 := fun w' ho => rIns_law (gr := gr) key s hA hr w' ho
    repeat (first | (apply wx_val; (first | exact v_move rfl | exact v_assign rfl | exact v_faddr rfl rfl | exact v_ldT rfl rfl rfl (by rfl) | exact v_eq rfl rfl | (first | exact v_ldQ 0 0 rfl rfl rfl rfl rfl)); rfl) | refine wc_seq ?_ | refine wc_region ?_ | refine wx_nil ?_ | refine wq_next ?_ | refine wc_block ?_ | refine wc_condT rfl ?_)
    refine wl_callT (fun w' hr ho => c1 w' ho) rfl rfl rfl ?_
    intro q2 h2
    refine wx_cat ?_
    repeat (first | (apply wx_val; (first | exact v_move rfl | exact v_assign rfl | exact v_faddr rfl rfl | exact v_ldT rfl rfl rfl (by rfl) | (first | exact v_ldQ 1 0 rfl rfl rfl rfl rfl)); rfl) | refine wc_seq ?_ | refine wc_region ?_ | refine wx_nil ?_ | refine wq_next ?_)
    (try refine wx_ungd rfl rfl ?_)
    refine wx_vcall (vc_pure' rfl rfl (fun w' hr => with_spec key s w')) rfl ?_
    skip
    refine wl_callT (fun w' hr ho => c2 w' ho) rfl rfl rfl ?_
    intro R2 h3
    refine wx_cat ?_
    repeat (first | (apply wx_val; (first | exact v_assign rfl | exact v_eq rfl rfl); rfl) | refine wx_nil ?_ | refine wq_next ?_ | refine wc_ret ?_ | refine wq_then_ret ?_ | refine wq_block_ret ?_)
    exact wq_ret1T (insN key s A, q2, R2) rfl (bool_val (by simp)) ⟨h2, h3, hg.put key s⟩ rfl
  by_cases k2 : kd = 2
  · subst k2
    have c1 := fun w' ho => Remove_law (g := gf) key s hf (by omega) w' ho
    have c2 := fun w' ho => rRem_law (gr := gr) (key, s) hA hr hf.ok.nd w' ho
    repeat (first | (apply wx_val; (first | exact v_move rfl | exact v_assign rfl | exact v_faddr rfl rfl | exact v_ldT rfl rfl rfl (by rfl) | exact v_eq rfl rfl | (first | exact v_ldQ 0 0 rfl rfl rfl rfl rfl)); rfl) | refine wc_seq ?_ | refine wc_region ?_ | refine wx_nil ?_ | refine wq_next ?_ | refine wc_block ?_ | refine wc_condT rfl ?_ | refine wc_condF rfl ?_)
    refine wl_callT (fun w' hr ho => c1 w' ho) rfl rfl rfl ?_
    intro q2 h2
    refine wx_cat ?_
    repeat (first | (apply wx_val; (first | exact v_move rfl | exact v_assign rfl | exact v_faddr rfl rfl | exact v_ldT rfl rfl rfl (by rfl) | (first | exact v_ldQ 1 0 rfl rfl rfl rfl rfl)); rfl) | refine wc_seq ?_ | refine wc_region ?_ | refine wx_nil ?_ | refine wq_next ?_)
    (try refine wx_ungd rfl rfl ?_)
    refine wx_vcall (vc_pure' rfl rfl (fun w' hr => with_spec key s w')) rfl ?_
    skip
    refine wl_callT (fun w' hr ho => c2 w' ho) rfl rfl rfl ?_
    intro R2 h3
    refine wx_cat ?_
    repeat (first | (apply wx_val; (first | exact v_assign rfl | exact v_beq rfl rfl rfl); rfl) | refine wx_nil ?_ | refine wq_next ?_ | refine wc_ret ?_ | refine wq_then_ret ?_ | refine wq_block_ret ?_)
    exact wq_ret1T (delAll (key, s) A, q2, R2) rfl (bool_val (by simp)) ⟨h2.up (by omega), h3, hg.del _⟩ rfl
  by_cases k3 : kd = 3
  · subst k3
    have c1 := fun w' ho => Overlap_law (g := gf) key a1 b1 hf (by omega) w' ho
    have c2 := fun w' ho => rOv_law (gr := gr) key a1 b1 hA hr w' ho
    have hol := ovK_len (k := key) (lo := a1) (hi := b1) (A := A)
    repeat (first | (apply wx_val; (first | exact v_assign rfl | exact v_faddr rfl rfl | exact v_ldT rfl rfl rfl (by rfl) | exact v_eq rfl rfl); rfl) | refine wc_seq ?_ | refine wc_region ?_ | refine wx_nil ?_ | refine wq_next ?_ | refine wc_block ?_ | refine wc_condT rfl ?_ | refine wc_condF rfl ?_)
    refine wc_heldX [] [opC g5 ⟨3, a1, b1, key, s⟩] rfl (by (repeat (first | with_reducible exact panicNot_of panicOk_body | with_reducible apply panicNot_block | with_reducible apply panicNot_then))) (fun hQd => ?_)
    (apply wh_takeX 0; (first | exact fun _ h => h | exact fun _ h => res_takes h); exact hQd; rfl; rfl; exact v_faddr rfl rfl; decide +kernel; decide +kernel; decide +kernel; rfl)
    (apply wh_takeX 1; (first | exact fun _ h => res_takes h); exact hQd; rfl; rfl; (first | exact v_ldT rfl rfl rfl (by rfl)); decide +kernel; decide +kernel; decide +kernel; rfl)
    (apply wh_takeX 2; (first | exact fun _ h => h | exact fun _ h => res_takes h); exact hQd; rfl; rfl; exact v_move rfl; decide +kernel; decide +kernel; decide +kernel; rfl)
    (apply wh_takeX 3; (first | exact fun _ h => h | exact fun _ h => res_takes h); exact hQd; rfl; rfl; exact v_faddr rfl rfl; decide +kernel; decide +kernel; decide +kernel; rfl)
    (apply wh_takeX 4; (first | exact fun _ h => res_takes h); exact hQd; rfl; rfl; (first | exact v_ldT rfl rfl rfl (by rfl)); decide +kernel; decide +kernel; decide +kernel; rfl)
    (apply wh_takeX 5; (first | exact fun _ h => h | exact fun _ h => res_takes h); exact hQd; rfl; rfl; exact v_faddr rfl rfl; decide +kernel; decide +kernel; decide +kernel; rfl)
    (apply wh_takeX 6; (first | exact fun _ h => res_takes h); exact hQd; rfl; rfl; (first | exact v_ldT rfl rfl rfl (by rfl)); decide +kernel; decide +kernel; decide +kernel; rfl)
    (apply wh_takeX 7; (first | exact fun _ h => h | exact fun _ h => res_takes h); exact hQd; rfl; rfl; exact v_faddr rfl rfl; decide +kernel; decide +kernel; decide +kernel; rfl)
    (apply wh_takeX 8; (first | exact fun _ h => res_takes h); exact hQd; rfl; rfl; (first | exact v_ldT rfl rfl rfl (by rfl)); decide +kernel; decide +kernel; decide +kernel; rfl)
    (apply wh_takeX 10; (first | exact fun _ h => h | exact fun _ h => res_takes h); exact hQd; rfl; rfl; exact v_move rfl; decide +kernel; decide +kernel; decide +kernel; rfl)
    (apply wh_takeX 11; (first | exact fun _ h => h | exact fun _ h => res_takes h); exact hQd; rfl; rfl; exact v_faddr rfl rfl; decide +kernel; decide +kernel; decide +kernel; rfl)
    (apply wh_takeX 12; (first | exact fun _ h => res_takes h); exact hQd; rfl; rfl; (first | exact v_ldT rfl rfl rfl (by rfl)); decide +kernel; decide +kernel; decide +kernel; rfl)
    (apply wh_takeX 13; (first | exact fun _ h => h | exact fun _ h => res_takes h); exact hQd; rfl; rfl; exact v_faddr rfl rfl; decide +kernel; decide +kernel; decide +kernel; rfl)
    (apply wh_takeX 14; (first | exact fun _ h => res_takes h); exact hQd; rfl; rfl; (first | exact v_ldT rfl rfl rfl (by rfl)); decide +kernel; decide +kernel; decide +kernel; rfl)
    (apply wh_takeX 15; (first | exact fun _ h => h | exact fun _ h => res_takes h); exact hQd; rfl; rfl; exact v_faddr rfl rfl; decide +kernel; decide +kernel; decide +kernel; rfl)
    (apply wh_takeX 16; (first | exact fun _ h => res_takes h); exact hQd; rfl; rfl; (first | exact v_ldT rfl rfl rfl (by rfl)); decide +kernel; decide +kernel; decide +kernel; rfl)
    refine wh_eff 9 rfl (by decide +kernel) ?_
    refine wl_callT (fun w' hr ho => c1 w' ho) rfl rfl rfl ?_
    rintro ⟨A7, c7, E7⟩ hb7
    dsimp only at hb7 ⊢
    refine wx_cat ?_
    (try refine wx_nil ?_)
    refine wq_held (by (first | exact fun _ h => h | exact fun _ h => res_takes h)) ?_
    refine wh_eff 17 rfl (by decide +kernel) ?_
    refine wl_callT (fun w' hr ho => c2 w' ho) rfl rfl rfl ?_
    rintro ⟨A8, c8, E8⟩ hb8
    dsimp only at hb8 ⊢
    refine wx_cat ?_
    (try refine wx_nil ?_)
    refine wq_held (by (first | exact fun _ h => h | exact fun _ h => res_takes h)) ?_
    refine wh_eff 18 rfl (by decide +kernel) ?_
    (try refine wx_ungd rfl rfl ?_)
    refine wx_vcall (vc_callT (fun w' hr ho => (same_spec key (by omega) hb7 hb8) w' ho) rfl rfl) rfl ?_
    (try refine wx_nil ?_)
    refine wq_held (by (first | exact fun _ h => h | exact fun _ h => res_takes h)) ?_
    (apply wh_takeX 19; (first | exact fun _ h => h | exact fun _ h => res_takes h); exact hQd; rfl; rfl; exact v_assign rfl; decide +kernel; decide +kernel; decide +kernel; rfl)
    refine wh_done (by decide +kernel) ?_
    repeat (first | refine wq_next ?_ | refine wc_ret ?_ | refine wq_then_ret ?_ | refine wq_block_ret ?_)
    exact wq_ret1T (A, q, R) rfl rfl ⟨hf.up (by omega), hr, hg⟩ rfl
  by_cases k4 : kd = 4
  · subst k4
    have c1 := fun w' ho => First_law (g := gf) key a1 b1 hf (by omega) w' ho
    have c2 := fun w' ho => rFst_law (gr := gr) key a1 b1 hA hr hf.ok w' ho
    repeat (first | (apply wx_val; (first | exact v_move rfl | exact v_assign rfl | exact v_faddr rfl rfl | exact v_ldT rfl rfl rfl (by rfl) | exact v_eq rfl rfl); rfl) | refine wc_seq ?_ | refine wc_region ?_ | refine wx_nil ?_ | refine wq_next ?_ | refine wc_block ?_ | refine wc_condT rfl ?_ | refine wc_condF rfl ?_)
    refine wl_callT (fun w' hr ho => c1 w' ho) rfl rfl rfl ?_
    rintro - -
    refine wx_cat ?_
    cases hF : firstS (ovK key a1 b1 A) with
    | none =>
      rw [hF] at c2
      dsimp only [Option.getD_none, Option.isSome_none]
      repeat (first | (apply wx_val; (first | exact v_move rfl | exact v_extract rfl rfl); rfl))
      refine wl_alloc rfl rfl (fun g9 => ?_)
      repeat (first | (apply wx_val; (first | exact v_move rfl | exact v_assign rfl | exact v_faddr rfl rfl | exact v_ldT rfl rfl rfl (by rfl)); rfl) | refine wc_seq ?_ | refine wc_region ?_ | refine wx_nil ?_ | refine wq_next ?_ | refine wx_setn ?_ | refine wl_stAT rfl rfl (by rfl) (by rfl) (by exact .inl (Nat.le_refl _)) rfl ?_)
      refine wl_callT (fun w' hr ho => c2 w' ho) rfl rfl rfl ?_
      rintro - -
      refine wx_cat ?_
      dsimp only [Option.isSome_none]
      repeat (first | (apply wx_val; (first | exact v_move rfl | exact v_extract rfl rfl); rfl))
      refine wl_alloc rfl rfl (fun g11 => ?_)
      repeat (first | (apply wx_val; (first | exact v_move rfl | exact v_assign rfl | exact v_ldAT rfl (by rfl) | exact v_not rfl); rfl) | refine wx_ungd rfl rfl ?_ | refine wc_seq ?_ | refine wc_region ?_ | refine wx_nil ?_ | refine wq_next ?_ | refine wc_setn ?_ | refine wc_condT rfl ?_ | refine wl_stAT rfl rfl (by rfl) (by rfl) (by exact .inl (Nat.le_refl _)) rfl ?_)
      (try refine wx_ungd rfl rfl ?_)
      apply wx_val
      exact v_build (cs := ((Sp.cells Sp.zero)).toArray) rfl (by kernel_rfl)
      rfl
      repeat (first | (apply wx_val; (first | exact v_assign rfl | exact v_pickT rfl rfl | exact v_eqA rfl rfl (by kernel_rfl)); rfl) | refine wx_ungd rfl rfl ?_ | refine wx_nil ?_ | refine wq_next ?_ | refine wc_ret ?_ | refine wq_then_ret ?_ | refine wq_block_ret ?_)
      exact wq_ret1T (A, q, R) rfl (bool_val (by decide)) ⟨hf.up (by omega), hr, hg⟩ rfl
    | some f =>
      rw [hF] at c2
      dsimp only [Option.getD_some, Option.isSome_some]
      repeat (first | (apply wx_val; (first | exact v_move rfl | exact v_extract rfl rfl); rfl))
      refine wl_alloc rfl rfl (fun g9 => ?_)
      repeat (first | (apply wx_val; (first | exact v_move rfl | exact v_assign rfl | exact v_faddr rfl rfl | exact v_ldT rfl rfl rfl (by rfl)); rfl) | refine wc_seq ?_ | refine wc_region ?_ | refine wx_nil ?_ | refine wq_next ?_ | refine wx_setn ?_ | refine wl_stAT rfl rfl (by rfl) (by rfl) (by exact .inl (Nat.le_refl _)) rfl ?_)
      refine wl_callT (fun w' hr ho => c2 w' ho) rfl rfl rfl ?_
      rintro - -
      refine wx_cat ?_
      dsimp only [Option.isSome_some, rF]
      repeat (first | (apply wx_val; (first | exact v_move rfl | exact v_extract rfl rfl); rfl))
      refine wl_alloc rfl rfl (fun g11 => ?_)
      repeat (first | (apply wx_val; (first | exact v_move rfl | exact v_assign rfl | exact v_not rfl); rfl) | refine wc_seq ?_ | refine wc_region ?_ | refine wx_nil ?_ | refine wq_next ?_ | refine wc_skip ?_ | refine wc_setn ?_ | refine wc_condF rfl ?_ | refine wl_stAT rfl rfl (by rfl) (by rfl) (by exact .inl (Nat.le_refl _)) rfl ?_)
      refine wc_heldX [] [opC g5 ⟨4, a1, b1, key, s⟩, ssB g9 f, rsB g11 (key, f)] rfl (by (repeat (first | with_reducible exact panicNot_of panicOk_body | with_reducible apply panicNot_block | with_reducible apply panicNot_then))) (fun hQd => ?_)
      (apply wh_takeX 0; (first | exact fun _ h => h | exact fun _ h => res_takes h); exact hQd; rfl; rfl; exact v_move rfl; decide +kernel; decide +kernel; decide +kernel; rfl)
      (apply wh_takeX 1; (first | exact fun _ h => h | exact fun _ h => res_takes h); exact hQd; rfl; rfl; exact v_move rfl; decide +kernel; decide +kernel; decide +kernel; rfl)
      (first | refine wh_yes 105 rfl rfl ?_ | refine wh_yes 105 rfl (decide_eq_true rfl) ?_ | refine wh_yes 105 rfl (by simp) ?_)
      (first | (apply wh_takegX 2; (first | exact fun _ h => res_takes h); exact hQd; rfl; rfl; rfl; rfl; exact v_faddr rfl rfl; decide +kernel; decide +kernel; decide +kernel; rfl))
      (first | (apply wh_takegX 3; (first | exact fun _ h => res_takes h); exact hQd; rfl; rfl; rfl; rfl; (first | exact v_ldT rfl rfl rfl (by rfl)); decide +kernel; decide +kernel; decide +kernel; rfl))
      (first | (apply wh_takegX 4; (first | exact fun _ h => res_takes h); exact hQd; rfl; rfl; rfl; rfl; (first | exact v_ldAT rfl (by rfl)); decide +kernel; decide +kernel; decide +kernel; rfl))
      (first | (apply wh_takegX 6; (first | exact fun _ h => res_takes h); exact hQd; rfl; rfl; rfl; rfl; (first | exact v_ldAT rfl (by rfl)); decide +kernel; decide +kernel; decide +kernel; rfl))
      refine wh_eff 5 rfl (by decide +kernel) ?_
      refine wx_ungd rfl rfl ?_
      (try refine wx_ungd rfl rfl ?_)
      refine wx_vcall (vc_pure' rfl rfl (fun w' hr => with_spec key f w')) rfl ?_
      (try refine wx_nil ?_)
      refine wq_held (by (first | exact fun _ h => h | exact fun _ h => res_takes h)) ?_
      (first | (apply wh_takegX 7; (first | exact fun _ h => res_takes h); exact hQd; rfl; rfl; rfl; rfl; (first | exact v_eqA rfl rfl (by kernel_rfl)); decide +kernel; decide +kernel; decide +kernel; rfl))
      (apply wh_takeX 8; (first | exact fun _ h => h | exact fun _ h => res_takes h); exact hQd; rfl; rfl; (first | exact v_pickT rfl rfl | exact v_pickF rfl rfl | exact v_pick rfl rfl rfl); decide +kernel; decide +kernel; decide +kernel; rfl)
      (apply wh_takeX 9; (first | exact fun _ h => h | exact fun _ h => res_takes h); exact hQd; rfl; rfl; exact v_assign rfl; decide +kernel; decide +kernel; decide +kernel; rfl)
      refine wh_done (by decide +kernel) ?_
      repeat (first | refine wq_next ?_ | refine wc_ret ?_ | refine wq_then_ret ?_ | refine wq_block_ret ?_)
      exact wq_ret1T (A, q, R) rfl (bool_val (by rw [eqL_rs]; simp)) ⟨hf.up (by omega), hr, hg⟩ rfl
  by_cases k5 : kd = 5
  · subst k5
    have c1 := fun w' ho => Drop_law (g := gf) a1 hf (rgt_ab hg) (by omega) w' ho
    have c2 := fun w' ho => rDrop_law (gr := gr) a1 hA hr w' ho
    have hdl := drop_len a1 A
    repeat (first | (apply wx_val; (first | exact v_move rfl | exact v_assign rfl | exact v_faddr rfl rfl | exact v_ldT rfl rfl rfl (by rfl) | exact v_eq rfl rfl); rfl) | refine wc_seq ?_ | refine wc_region ?_ | refine wx_nil ?_ | refine wq_next ?_ | refine wc_block ?_ | refine wc_condT rfl ?_ | refine wc_condF rfl ?_)
    refine wl_callT (fun w' hr ho => c1 w' ho) rfl rfl rfl ?_
    intro q2 h2
    refine wx_cat ?_
    repeat (first | (apply wx_val; (first | exact v_move rfl | exact v_assign rfl | exact v_faddr rfl rfl | exact v_ldT rfl rfl rfl (by rfl)); rfl) | refine wc_seq ?_ | refine wc_region ?_ | refine wx_nil ?_ | refine wq_next ?_)
    refine wl_callT (fun w' hr ho => c2 w' ho) rfl rfl rfl ?_
    intro R2 h3
    refine wx_cat ?_
    repeat (first | (apply wx_val; (first | exact v_assign rfl | exact v_eq rfl rfl); rfl) | refine wx_nil ?_ | refine wq_next ?_ | refine wc_ret ?_ | refine wq_then_ret ?_ | refine wq_block_ret ?_)
    exact wq_ret1T (A.filter (fun x => decide (a1 < x.2.b)), q2, R2) rfl (bool_val (decide_eq_true (by omega))) ⟨h2.up (by omega), h3, fun x hx => hg x (List.mem_filter.1 hx).1⟩ rfl
  by_cases k6 : kd = 6
  · subst k6
    have c1 := fun w' ho => Count_law (g := gf) hf w' ho
    have c2 := fun w' ho => rOf_spec (gr := gr) key hA hr w' ho
    have c3 := fun w' ho => Height_law (g := gf) key hf w' ho
    have c4 := fun w' => High_law hf key (by omega) rfl w'
    refine wx_flat (N := [q.seg gf A.length, rfB gr R.A A.length R.c, R.E, opC g5 ⟨6, a1, b1, key, s⟩]) six_perm ?_
    repeat (first | (apply wx_val; (first | exact v_assign rfl | exact v_faddr rfl rfl | exact v_ldT rfl rfl rfl (by rfl) | exact v_eq rfl rfl); rfl) | refine wc_seq ?_ | refine wc_region ?_ | refine wx_nil ?_ | refine wq_next ?_ | refine wc_block ?_ | refine wc_condT rfl ?_ | refine wc_condF rfl ?_)
    refine wc_heldX [] [rfB gr R.A A.length R.c, opC g5 ⟨6, a1, b1, key, s⟩] rfl (by (repeat (first | with_reducible exact panicNot_of panicOk_body | with_reducible apply panicNot_block | with_reducible apply panicNot_then))) (fun hQd => ?_)
    (apply wh_takeX 0; (first | exact fun _ h => h | exact fun _ h => res_takes h); exact hQd; rfl; rfl; exact v_move rfl; decide +kernel; decide +kernel; decide +kernel; rfl)
    (apply wh_takeX 2; (first | exact fun _ h => h | exact fun _ h => res_takes h); exact hQd; rfl; rfl; exact v_move rfl; decide +kernel; decide +kernel; decide +kernel; rfl)
    (apply wh_takeX 3; (first | exact fun _ h => h | exact fun _ h => res_takes h); exact hQd; rfl; rfl; exact v_nil rfl; decide +kernel; decide +kernel; decide +kernel; rfl)
    (apply wh_takeX 4; (first | exact fun _ h => h | exact fun _ h => res_takes h); exact hQd; rfl; rfl; exact v_faddr rfl rfl; decide +kernel; decide +kernel; decide +kernel; rfl)
    (apply wh_takeX 5; (first | exact fun _ h => res_takes h); exact hQd; rfl; rfl; (first | exact v_ldT rfl rfl rfl (by rfl)); decide +kernel; decide +kernel; decide +kernel; rfl)
    (apply wh_takeX 6; (first | exact fun _ h => h | exact fun _ h => res_takes h); exact hQd; rfl; rfl; (first | exact v_len rfl rfl | exact v_slen rfl rfl); decide +kernel; decide +kernel; decide +kernel; rfl)
    refine wh_eff 1 rfl (by decide +kernel) ?_
    (try refine wx_ungd rfl rfl ?_)
    refine wx_vcall (vc_callT (fun w' hr ho => c1 w' ho) rfl rfl) rfl ?_
    (try refine wx_nil ?_)
    refine wq_held (by (first | exact fun _ h => h | exact fun _ h => res_takes h)) ?_
    (apply wh_takeX 7; (first | exact fun _ h => res_takes h); exact hQd; rfl; rfl; (first | exact v_eq rfl rfl); decide +kernel; decide +kernel; decide +kernel; rfl)
    (apply wh_takeX 8; (first | exact fun _ h => h | exact fun _ h => res_takes h); exact hQd; rfl; rfl; exact v_move rfl; decide +kernel; decide +kernel; decide +kernel; rfl)
    (first | refine wh_yes 135 rfl rfl ?_ | refine wh_yes 135 rfl (decide_eq_true rfl) ?_ | refine wh_yes 135 rfl (by simp) ?_)
    (first | (apply wh_takegX 9; (first | exact fun _ h => res_takes h); exact hQd; rfl; rfl; rfl; rfl; exact v_move rfl; decide +kernel; decide +kernel; decide +kernel; rfl))
    (first | (apply wh_takegX 10; (first | exact fun _ h => res_takes h); exact hQd; rfl; rfl; rfl; rfl; exact v_faddr rfl rfl; decide +kernel; decide +kernel; decide +kernel; rfl))
    (first | (apply wh_takegX 11; (first | exact fun _ h => res_takes h); exact hQd; rfl; rfl; rfl; rfl; (first | exact v_ldT rfl rfl rfl (by rfl)); decide +kernel; decide +kernel; decide +kernel; rfl))
    (first | (apply wh_takegX 13; (first | exact fun _ h => res_takes h); exact hQd; rfl; rfl; rfl; rfl; exact v_move rfl; decide +kernel; decide +kernel; decide +kernel; rfl))
    (first | (apply wh_takegX 14; (first | exact fun _ h => res_takes h); exact hQd; rfl; rfl; rfl; rfl; exact v_faddr rfl rfl; decide +kernel; decide +kernel; decide +kernel; rfl))
    (first | (apply wh_takegX 15; (first | exact fun _ h => res_takes h); exact hQd; rfl; rfl; rfl; rfl; (first | exact v_ldT rfl rfl rfl (by rfl)); decide +kernel; decide +kernel; decide +kernel; rfl))
    refine wh_eff 12 rfl (by decide +kernel) ?_
    refine wx_ungd rfl rfl ?_
    (try refine wx_ungd rfl rfl ?_)
    refine wx_vcall (vc_callT (fun w' hr ho => c2 w' ho) rfl rfl) rfl ?_
    (try refine wx_nil ?_)
    refine wq_held (by (first | exact fun _ h => h | exact fun _ h => res_takes h)) ?_
    refine wh_eff 16 rfl (by decide +kernel) ?_
    refine wx_ungd rfl rfl ?_
    (try refine wx_ungd rfl rfl ?_)
    refine wx_vcall (vc_callT (fun w' hr ho => c3 w' ho) rfl rfl) rfl ?_
    (try refine wx_nil ?_)
    refine wq_held (by (first | exact fun _ h => h | exact fun _ h => res_takes h)) ?_
    refine wh_eff 17 rfl (by decide +kernel) ?_
    refine wx_ungd rfl rfl ?_
    (try refine wx_ungd rfl rfl ?_)
    refine wx_vcall (vc_pure' rfl rfl (fun w' hr => c4 w')) rfl ?_
    (try refine wx_nil ?_)
    refine wq_held (by (first | exact fun _ h => h | exact fun _ h => res_takes h)) ?_
    (apply wh_takeX 18; (first | exact fun _ h => h | exact fun _ h => res_takes h); exact hQd; rfl; rfl; (first | exact v_pickT rfl rfl | exact v_pickF rfl rfl | exact v_pick rfl rfl rfl); decide +kernel; decide +kernel; decide +kernel; rfl)
    (apply wh_takeX 19; (first | exact fun _ h => h | exact fun _ h => res_takes h); exact hQd; rfl; rfl; exact v_assign rfl; decide +kernel; decide +kernel; decide +kernel; rfl)
    refine wh_done (by decide +kernel) ?_
    repeat (first | refine wq_next ?_ | refine wc_ret ?_ | refine wq_then_ret ?_ | refine wq_block_ret ?_)
    refine wq_flat (N := [q.seg gf A.length, R.seg gr A.length, opC g5 ⟨6, a1, b1, key, s⟩]) six_back ?_
    exact wq_ret1T (A, q, R) rfl rfl ⟨hf.up (by omega), hr, hg⟩ rfl
  have n1 : kd ≠ 1 := k1
  repeat (first | (apply wx_val; (first | exact v_assign rfl | exact v_faddr rfl rfl | exact v_ldT rfl rfl rfl (by rfl) | exact v_eq rfl rfl); rfl) | refine wc_seq ?_ | refine wc_region ?_ | refine wx_nil ?_ | refine wq_next ?_ | refine wc_block ?_)
  refine wc_not rfl (decide_eq_false k1) ?_
  repeat (first | (apply wx_val; (first | exact v_assign rfl | exact v_eq rfl rfl); rfl) | refine wc_seq ?_ | refine wc_region ?_ | refine wx_nil ?_ | refine wq_next ?_)
  refine wc_not rfl (decide_eq_false k2) ?_
  repeat (first | (apply wx_val; (first | exact v_assign rfl | exact v_eq rfl rfl); rfl) | refine wc_seq ?_ | refine wc_region ?_ | refine wx_nil ?_ | refine wq_next ?_)
  refine wc_not rfl (decide_eq_false k3) ?_
  repeat (first | (apply wx_val; (first | exact v_assign rfl | exact v_eq rfl rfl); rfl) | refine wc_seq ?_ | refine wc_region ?_ | refine wx_nil ?_ | refine wq_next ?_)
  refine wc_not rfl (decide_eq_false k4) ?_
  repeat (first | (apply wx_val; (first | exact v_assign rfl | exact v_eq rfl rfl); rfl) | refine wc_seq ?_ | refine wc_region ?_ | refine wx_nil ?_ | refine wq_next ?_)
  refine wc_not rfl (decide_eq_false k5) ?_
  repeat (first | (apply wx_val; (first | exact v_assign rfl | exact v_eq rfl rfl); rfl) | refine wc_seq ?_ | refine wc_region ?_ | refine wx_nil ?_ | refine wq_next ?_)
  refine wc_not rfl (decide_eq_false k6) ?_
  repeat (first | (apply wx_val; (first | exact v_assign rfl); rfl) | refine wc_seq ?_ | refine wc_region ?_ | refine wx_nil ?_ | refine wq_next ?_ | refine wc_ret ?_ | refine wc_skip ?_ | refine wq_block ?_)
  exact wq_ret1T (A, q, R) rfl rfl ⟨hf.up (by omega), hr, hg⟩ rfl
end
end Go.Proofs.Ytjeghbachokljaa
