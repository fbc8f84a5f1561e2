/- The document's forest: Insert, First. -/
import Derived.Test.YtjeghbachokljaaSpRg
set_option linter.unusedVariables false
set_option linter.unusedSimpArgs false
namespace Go.Proofs.Ytjeghbachokljaa
open Go
set_option maxRecDepth 20000
set_option maxHeartbeats 2000000
attribute [local irreducible] WX WC WQ Val VCall WY WR
theorem insAll_app {e : ByteArray × Sp} (r : Ks) : ∀ {l : Ks}, (∀ x ∈ l, ¬ cmpS e.2 x.2 < 0) → insAll e (l ++ r) = l ++ insAll e r
  | [], _ => rfl
  | x :: l, h => by
    rw [List.cons_append, insAll, if_neg (h x (List.mem_cons_self ..)), insAll_app r fun y hy => h y (List.mem_cons_of_mem _ hy)]
    rfl
theorem insAll_past {e : ByteArray × Sp} (r : Ks) : ∀ {l : Ks}, (∃ x ∈ l, cmpS e.2 x.2 < 0) → insAll e (l ++ r) = insAll e l ++ r
  | [], ⟨x, hx, _⟩ => by cases hx
  | y :: l, ⟨x, hx, hc⟩ => by
    rw [List.cons_append, insAll, insAll]
    by_cases h : cmpS e.2 y.2 < 0
    · rw [if_pos h, if_pos h]; rfl
    · rw [if_neg h, if_neg h]
      rcases List.mem_cons.1 hx with rfl | hx
      · exact absurd hc h
      · rw [insAll_past r ⟨x, hx, hc⟩]; rfl
theorem insAll_end {e : ByteArray × Sp} {l : Ks} (h : ∀ x ∈ l, ¬ cmpS e.2 x.2 < 0) : insAll e l = l ++ [e] := by
  have := insAll_app (e := e) [] h
  rw [List.append_nil] at this
  exact this
/-- what the document's Insert has built behind i spans -/
def InsB (e : ByteArray × Sp) (T L : Ks) (pl : Bool) : Prop := (∀ x ∈ T, x ≠ e) ∧ ((pl = false ∧ L = T ∧ ∀ x ∈ T, ¬ cmpS e.2 x.2 < 0) ∨ (pl = true ∧ L = insAll e T ∧ ∃ x ∈ T, cmpS e.2 x.2 < 0))
theorem InsB.here {e y : ByteArray × Sp} {T L : Ks} (h : InsB e T L false) (hy : y ≠ e) (hc : cmpS e.2 y.2 < 0) : InsB e (T ++ [y]) (L ++ [e] ++ [y]) true := by
  obtain ⟨h1, ⟨_, rfl, h2⟩ | ⟨h3, _⟩⟩ := h
  · refine ⟨fun x hx => ?_, .inr ⟨rfl, ?_, y, by simp, hc⟩⟩
    · rcases List.mem_append.1 hx with hx | hx
      · exact h1 x hx
      · rw [List.mem_singleton.1 hx]; exact hy
    · rw [insAll_app [y] h2]
      unfold insAll
      rw [if_pos hc]
      simp
  · cases h3
theorem InsB.on {e y : ByteArray × Sp} {T L : Ks} (h : InsB e T L false) (hy : y ≠ e) (hc : ¬ cmpS e.2 y.2 < 0) : InsB e (T ++ [y]) (L ++ [y]) false := by
  obtain ⟨h1, ⟨_, rfl, h2⟩ | ⟨h3, _⟩⟩ := h
  · refine ⟨fun x hx => ?_, .inl ⟨rfl, rfl, fun x hx => ?_⟩⟩
    · rcases List.mem_append.1 hx with hx | hx
      · exact h1 x hx
      · rw [List.mem_singleton.1 hx]; exact hy
    · rcases List.mem_append.1 hx with hx | hx
      · exact h2 x hx
      · rw [List.mem_singleton.1 hx]; exact hc
  · cases h3
theorem InsB.past {e y : ByteArray × Sp} {T L : Ks} (h : InsB e T L true) (hy : y ≠ e) : InsB e (T ++ [y]) (L ++ [y]) true := by
  obtain ⟨h1, ⟨h3, _⟩ | ⟨_, rfl, h2⟩⟩ := h
  · cases h3
  · refine ⟨fun x hx => ?_, .inr ⟨rfl, (insAll_past [y] h2).symm, ?_⟩⟩
    · rcases List.mem_append.1 hx with hx | hx
      · exact h1 x hx
      · rw [List.mem_singleton.1 hx]; exact hy
    · obtain ⟨x, hx, hc⟩ := h2
      exact ⟨x, List.mem_append.2 (.inl hx), hc⟩
theorem InsB.len {e : ByteArray × Sp} {T L : Ks} (h : InsB e T L false) : L.length = T.length := by
  obtain ⟨_, ⟨_, rfl, _⟩ | ⟨h3, _⟩⟩ := h
  · rfl
  · cases h3
theorem InsB.not {e : ByteArray × Sp} {T L : Ks} {pl : Bool} (h : InsB e T L pl) : hasA e T = false := hasA_no.2 fun hm => h.1 e hm rfl
section rf
variable {gr : Nat} {Ad : Option Addr} {c : Nat} {A : Ks} {E : Seg}
theorem rInsert_spec (k : ByteArray) (s : Sp) (hn : A.length ≤ 2097152) (hb : RsL A Ad A.length c E) (w : World) (ho : Own w [rfB gr Ad A.length c, E]) :
    Calls Try.prog 30 #[.pointer (some ⟨gr, 0, none⟩), .agg (rsC (k, s)).toArray] w (Ret (β := Option Addr × Nat × Seg) w (ids [rfB gr Ad A.length c, E]) (fun _ => .int .i64 (insCode k s (hasA (k, s) A))) (fun q => [rfB gr q.1 (insN k s A).length q.2.1, q.2.2]) (fun q => RsL (insN k s A) q.1 (insN k s A).length q.2.1 q.2.2)) := by
  refine go [.pointer (some ⟨gr, 0, none⟩), .agg (rsC (k, s)).toArray] [rfB gr Ad A.length c, E] Try.func30 Try.ntmps30 rfl rfl ho ?_
  have p0 : ((k, s) : ByteArray × Sp).1.size = k.size := rfl
  have p1 : ((k, s) : ByteArray × Sp).2.a = s.a := rfl
  have p2 : ((k, s) : ByteArray × Sp).2.b = s.b := rfl
  have p3 : ((k, s) : ByteArray × Sp).2.c = s.c := rfl
  by_cases hk : k.size < 1 ∨ 8 < k.size
  · have e1 : insCode k s (hasA (k, s) A) = 130 := if_pos hk
    have e2 : insN k s A = A := if_neg (by rw [e1]; decide)
    rw [e1, e2]
    repeat (first | refine wc_seq ?_ | refine wc_region ?_)
    refine wl_boxA rfl rfl (fun g3 => ?_)
    repeat' (first | (apply wx_val; (first | exact v_move rfl | exact v_assign rfl | exact v_faddr rfl rfl | exact v_ldT rfl rfl rfl (by rfl) | exact v_slen rfl rfl | exact v_lt rfl rfl | exact v_gt rfl rfl | exact v_pickT rfl rfl | exact v_pickF rfl rfl); rfl) | refine wx_no rfl rfl rfl ?_ | refine wx_ungd rfl rfl ?_ | refine wc_seq ?_ | refine wc_region ?_ | refine wx_nil ?_ | refine wq_next ?_ | refine wc_block ?_ | refine wc_ret ?_ | refine wc_skip ?_ | refine wq_then_ret ?_ | refine wc_condT rfl ?_ | refine wc_if rfl (fun _ => ?_) (fun _ => ?_) | refine wx_gif rfl rfl (fun _ => ?_) (fun _ => ?_))
    all_goals first
      | exact wq_ret1T (Ad, c, E) rfl rfl hb rfl
      | (exfalso; omega)
  by_cases hr : rightS s = true
  rotate_left
  · have e1 : insCode k s (hasA (k, s) A) = 140 := by
      unfold insCode
      rw [if_neg hk, if_pos (by simpa using hr)]
    have e2 : insN k s A = A := if_neg (by rw [e1]; decide)
    have hr2 : ¬ (0 ≤ s.a ∧ s.a ≤ s.b ∧ s.b ≤ 1099511627776 ∧ 0 ≤ s.c ∧ s.c < 4096) := fun h => hr (decide_eq_true h)
    rw [e1, e2]
    repeat (first | refine wc_seq ?_ | refine wc_region ?_)
    refine wl_boxA rfl rfl (fun g3 => ?_)
    repeat' (first | (apply wx_val; (first | exact v_move rfl | exact v_assign rfl | exact v_faddr rfl rfl | exact v_ldT rfl rfl rfl (by rfl) | exact v_slen rfl rfl | exact v_lt rfl rfl | exact v_gt rfl rfl | exact v_pickT rfl rfl | exact v_pickF rfl rfl); rfl) | refine wx_no rfl rfl rfl ?_ | refine wx_ungd rfl rfl ?_ | refine wc_seq ?_ | refine wc_region ?_ | refine wx_nil ?_ | refine wq_next ?_ | refine wc_block ?_ | refine wc_ret ?_ | refine wc_skip ?_ | refine wq_then_ret ?_ | refine wc_condT rfl ?_ | refine wc_if rfl (fun _ => ?_) (fun _ => ?_) | refine wx_gif rfl rfl (fun _ => ?_) (fun _ => ?_))
    all_goals first
      | exact wq_ret1T (Ad, c, E) rfl rfl hb rfl
      | (exfalso; omega)
  have hr2 : 0 ≤ s.a ∧ s.a ≤ s.b ∧ s.b ≤ 1099511627776 ∧ 0 ≤ s.c ∧ s.c < 4096 := of_decide_eq_true hr
  have ec : ∀ b, insCode k s b = if b then 141 else 0 := fun b => by
    unfold insCode
    rw [if_neg hk, if_neg (by simp [hr])]
  repeat (first | refine wc_seq ?_ | refine wc_region ?_)
  refine wl_boxA rfl rfl (fun g3 => ?_)
  repeat (first | (apply wx_val; (first | exact v_move rfl | exact v_assign rfl | exact v_faddr rfl rfl | exact v_ldT rfl rfl rfl (by rfl) | exact v_slen rfl rfl | exact v_lt rfl rfl); rfl) | refine wc_seq ?_ | refine wc_region ?_ | refine wx_nil ?_ | refine wq_next ?_)
  refine wx_gset false rfl rfl (decide_eq_false (by omega)) ?_
  repeat (first | (apply wx_val; (first | exact v_faddr rfl rfl | exact v_ldT rfl rfl rfl (by rfl) | exact v_slen rfl rfl | exact v_gt rfl rfl | exact v_pickF rfl rfl); rfl) | refine wx_ungd rfl rfl ?_ | refine wx_nil ?_ | refine wq_next ?_)
  refine wc_not rfl (decide_eq_false (by omega)) ?_
  repeat (first | (apply wx_val; (first | exact v_move rfl | exact v_faddr rfl rfl | exact v_ldT rfl rfl rfl (by rfl) | exact v_lt rfl rfl); rfl) | refine wc_seq ?_ | refine wc_region ?_ | refine wq_next ?_ | refine wc_skip ?_)
  refine wx_gset false rfl rfl (decide_eq_false (by omega)) ?_
  repeat (first | (apply wx_val; (first | exact v_move rfl | exact v_faddr rfl rfl | exact v_ldT rfl rfl rfl (by rfl) | exact v_gt rfl rfl | exact v_pickF rfl rfl); rfl) | refine wx_ungd rfl rfl ?_)
  refine wx_gset false rfl rfl (decide_eq_false (by omega)) ?_
  repeat (first | (apply wx_val; (first | exact v_move rfl | exact v_faddr rfl rfl | exact v_ldT rfl rfl rfl (by rfl) | exact v_gt rfl rfl | exact v_pickF rfl rfl); rfl) | refine wx_ungd rfl rfl ?_)
  refine wx_gset false rfl rfl (decide_eq_false (by omega)) ?_
  repeat (first | (apply wx_val; (first | exact v_move rfl | exact v_faddr rfl rfl | exact v_ldT rfl rfl rfl (by rfl) | exact v_lt rfl rfl | exact v_pickF rfl rfl); rfl) | refine wx_ungd rfl rfl ?_)
  refine wx_gset false rfl rfl (decide_eq_false (by omega)) ?_
  repeat (first | (apply wx_val; (first | exact v_faddr rfl rfl | exact v_ldT rfl rfl rfl (by rfl) | exact v_gt rfl rfl | exact v_pickF rfl rfl); rfl) | refine wx_ungd rfl rfl ?_ | refine wx_nil ?_ | refine wq_next ?_)
  refine wc_not rfl (decide_eq_false (by omega)) ?_
  repeat (first | (apply wx_val; (first | exact v_assign rfl); rfl) | refine wc_seq ?_ | refine wc_region ?_ | refine wx_nil ?_ | refine wq_next ?_ | refine wc_block ?_ | refine wc_skip ?_)
  refine wc_seg ?_
  refine wc_loopK (ι := (Nat × Bool) × Ks × Option Addr × Nat × Seg) [0, 3] (fun z => [(7, .int .i64 (z.1.1 : Nat)), (6, .bool z.1.2), (5, .slice z.2.2.1 z.2.1.length z.2.2.2.1)]) (fun z => [z.2.2.2.2]) (fun z => z.1.1 ≤ A.length ∧ z.2.1.length ≤ z.1.1 + 1 ∧ InsB (k, s) (A.take z.1.1) z.2.1 z.1.2 ∧ RsL z.2.1 z.2.2.1 z.2.1.length z.2.2.2.1 z.2.2.2.2) (fun z => A.length - z.1.1) (((0, false), [], none, 0, [])) rfl ?_ (by repeat (first | exact trivial | refine ⟨rfl, ?_⟩)) ?_
  · exact ⟨Nat.zero_le _, Nat.zero_le _, ⟨fun x hx => (by cases hx), .inl ⟨rfl, rfl, fun x hx => (by cases hx)⟩⟩, Buf.nil _ _⟩
  rintro ⟨⟨i, pl⟩, L, A1, c1, E1⟩ ⟨h1, hL, h2, h3⟩
  try dsimp only
  refine wc_fcat ?_
  refine wc_cat ?_
  dsimp only at h1 hL h2 h3
  repeat (first | (apply wx_val; (first | exact v_move rfl | exact v_nil rfl | exact v_faddr rfl rfl | exact v_ldT rfl rfl rfl (by rfl) | exact v_len rfl rfl | exact v_lt rfl rfl); rfl) | refine wc_seq ?_ | refine wc_region ?_ | refine wx_nil ?_ | refine wq_next ?_)
  refine wc_if rfl (fun hd => ?_) (fun hd => ?_)
  · obtain ⟨y, hs⟩ : ∃ s, A[i]? = some s := ⟨A[i], List.getElem?_eq_getElem (by omega)⟩
    obtain ⟨ga, hA⟩ := hb.ptr (by omega)
    have htk := take_snoc hs
    repeat (first | (apply wx_val; (first | exact v_move rfl | exact v_nil rfl | exact v_faddr rfl rfl | exact v_ldT rfl rfl rfl (by rfl) | exact v_iaddrE (by assumption) rfl rfl rfl (by omega)); rfl) | refine wc_seq ?_ | refine wq_next ?_ | refine wc_block ?_ | refine wc_skip ?_ | refine wc_reads rfl (by decide +kernel) ?_)
    (try refine wx_ungd rfl rfl ?_)
    apply wx_val
    exact v_elemT hA hb (by decide) (fun _ => rfl) hs rfl (by omega) rfl
    rfl
    repeat (first | (apply wx_val; (first | exact v_ldAT rfl (by rfl) | exact v_eqA rfl rfl (by kernel_rfl)); rfl) | refine wx_nil ?_ | refine wq_next ?_)
    by_cases hy : y = (k, s)
    · have hm : hasA (k, s) A = true := hasA_iff.2 (hy ▸ List.mem_of_getElem? hs)
      have e1 : insCode k s (hasA (k, s) A) = 141 := by rw [hm, ec]; rfl
      have e2 : insN k s A = A := if_neg (by rw [e1]; decide)
      refine wc_yes rfl (by rw [eqL_rs, decide_eq_true hy]) ?_
      rw [e1, e2]
      repeat (first | (apply wx_val; (first | exact v_assign rfl); rfl) | refine wc_seq ?_ | refine wc_region ?_ | refine wx_nil ?_ | refine wq_next ?_ | refine wc_ret ?_ | refine wq_then_ret ?_ | refine wq_block_ret ?_)
      exact wq_ret1T (Ad, c, E) rfl rfl hb rfl
    refine wc_not rfl (by rw [eqL_rs, decide_eq_false hy]) ?_
    cases pl with
    | true =>
      have h4 := h2.past hy
      rw [← htk] at h4
      repeat (first | refine wc_seq ?_ | refine wq_next ?_ | refine wc_skip ?_)
      refine wc_heldX [] [rsB g3 (k, s), rfB gr Ad A.length c, E] rfl (by (repeat (first | with_reducible exact panicNot_of panicOk_body | with_reducible apply panicNot_block | with_reducible apply panicNot_then))) (fun hQd => ?_)
      (apply wh_takeX 0; (first | exact fun _ h => h | exact fun _ h => res_takes h); exact hQd; rfl; rfl; exact v_move rfl; decide +kernel; decide +kernel; decide +kernel; rfl)
      (apply wh_takeX 1; (first | exact fun _ h => h | exact fun _ h => res_takes h); exact hQd; rfl; rfl; (first | exact v_not rfl | exact v_negi rfl (by omega)); decide +kernel; decide +kernel; decide +kernel; rfl)
      (apply wh_takeX 2; (first | exact fun _ h => h | exact fun _ h => res_takes h); exact hQd; rfl; rfl; exact v_move rfl; decide +kernel; decide +kernel; decide +kernel; rfl)
      (first | (apply wh_takenX 3; (first | exact fun _ h => res_takes h); exact hQd; rfl; rfl; rfl; (first | exact .inl rfl); decide +kernel; decide +kernel; decide +kernel; rfl))
      (first | (apply wh_takegX 4; (first | exact fun _ h => res_takes h); exact hQd; rfl; rfl; rfl; rfl; exact v_move rfl; decide +kernel; decide +kernel; decide +kernel; rfl) | (apply wh_takenX 4; (first | exact fun _ h => res_takes h); exact hQd; rfl; rfl; rfl; (first | exact .inl rfl); decide +kernel; decide +kernel; decide +kernel; rfl))
      (first | (apply wh_takegX 5; (first | exact fun _ h => res_takes h); exact hQd; rfl; rfl; rfl; rfl; exact v_nil rfl; decide +kernel; decide +kernel; decide +kernel; rfl) | (apply wh_takenX 5; (first | exact fun _ h => res_takes h); exact hQd; rfl; rfl; rfl; (first | exact .inl rfl); decide +kernel; decide +kernel; decide +kernel; rfl))
      (first | (apply wh_takegX 6; (first | exact fun _ h => res_takes h); exact hQd; rfl; rfl; rfl; rfl; exact v_faddr rfl rfl; decide +kernel; decide +kernel; decide +kernel; rfl) | (apply wh_takenX 6; (first | exact fun _ h => res_takes h); exact hQd; rfl; rfl; rfl; (first | exact .inl rfl); decide +kernel; decide +kernel; decide +kernel; rfl))
      (first | (apply wh_takenX 7; (first | exact fun _ h => res_takes h); exact hQd; rfl; rfl; rfl; (first | exact .inl rfl); decide +kernel; decide +kernel; decide +kernel; rfl))
      (first | (apply wh_takegX 8; (first | exact fun _ h => res_takes h); exact hQd; rfl; rfl; rfl; rfl; exact v_move rfl; decide +kernel; decide +kernel; decide +kernel; rfl) | (apply wh_takenX 8; (first | exact fun _ h => res_takes h); exact hQd; rfl; rfl; rfl; (first | exact .inl rfl); decide +kernel; decide +kernel; decide +kernel; rfl))
      (first | (apply wh_takenX 9; (first | exact fun _ h => res_takes h); exact hQd; rfl; rfl; rfl; (first | exact .inl rfl); decide +kernel; decide +kernel; decide +kernel; rfl))
      (first | (apply wh_takenX 10; (first | exact fun _ h => res_takes h); exact hQd; rfl; rfl; rfl; (first | exact .inl rfl); decide +kernel; decide +kernel; decide +kernel; rfl))
      (first | (apply wh_takenX 11; (first | exact fun _ h => res_takes h); exact hQd; rfl; rfl; rfl; (first | exact .inl rfl); decide +kernel; decide +kernel; decide +kernel; rfl))
      (apply wh_takeX 12; (first | exact fun _ h => h | exact fun _ h => res_takes h); exact hQd; rfl; rfl; (first | exact v_pickT rfl rfl | exact v_pickF rfl rfl | exact v_pick rfl rfl rfl); decide +kernel; decide +kernel; decide +kernel; rfl)
      refine wh_done (by decide +kernel) ?_
      repeat (first | (apply wx_val; (first | exact v_move rfl | exact v_nil rfl | exact v_faddr rfl rfl | exact v_ldT rfl rfl rfl (by rfl) | exact v_iaddrE (by assumption) rfl rfl rfl (by omega)); rfl) | refine wc_region ?_ | refine wq_next ?_ | refine wc_skip ?_ | refine wc_condF rfl ?_)
      (try refine wx_ungd rfl rfl ?_)
      apply wx_val
      exact v_elemT hA hb (by decide) (fun _ => rfl) hs rfl (by omega) rfl
      rfl
      skip
      refine wl_lit rfl rfl rfl rfl rfl (by decide) rfl (fun g99 => ?_)
      refine wl_app1T (news := rsC y) rfl h3 rfl rfl rfl rfl (by omega) rfl (fun A2 c2 E2 hb2 => ?_)
      rw [snoc_len L y]
      repeat (first | (apply wx_val; (first | exact v_move rfl | exact v_assign rfl | exact v_addi rfl rfl (by omega)); rfl) | refine wc_region ?_ | refine wx_nil ?_ | refine wq_next ?_ | refine wq_block ?_)
      refine wq_roundK (((i + 1, true), L ++ [y], A2, c2, E2)) ?_ ?_ (by repeat (first | exact trivial | refine ⟨rfl, ?_⟩)) (by first | exact catEq | exact rfl)
      · exact ⟨by dsimp only; omega, by rw [← snoc_len]; dsimp only; omega, h4, RsL.snoc hb2⟩
      · show A.length - (i + 1) < A.length - i
        omega
    | false =>
      repeat (first | refine wc_seq ?_ | refine wq_next ?_ | refine wc_skip ?_)
      refine wc_heldX [] [rsB g3 (k, s), rfB gr Ad A.length c, E] rfl (by (repeat (first | with_reducible exact panicNot_of panicOk_body | with_reducible apply panicNot_block | with_reducible apply panicNot_then))) (fun hQd => ?_)
      (apply wh_takeX 0; (first | exact fun _ h => h | exact fun _ h => res_takes h); exact hQd; rfl; rfl; exact v_move rfl; decide +kernel; decide +kernel; decide +kernel; rfl)
      (apply wh_takeX 1; (first | exact fun _ h => h | exact fun _ h => res_takes h); exact hQd; rfl; rfl; (first | exact v_not rfl | exact v_negi rfl (by omega)); decide +kernel; decide +kernel; decide +kernel; rfl)
      (apply wh_takeX 2; (first | exact fun _ h => h | exact fun _ h => res_takes h); exact hQd; rfl; rfl; exact v_move rfl; decide +kernel; decide +kernel; decide +kernel; rfl)
      (first | refine wh_yes 63 rfl rfl ?_ | refine wh_yes 63 rfl (decide_eq_true rfl) ?_ | refine wh_yes 63 rfl (by simp) ?_)
      (first | (apply wh_takegX 3; (first | exact fun _ h => res_takes h); exact hQd; rfl; rfl; rfl; rfl; (first | exact v_ldAT rfl (by rfl)); decide +kernel; decide +kernel; decide +kernel; rfl))
      (first | (apply wh_takegX 4; (first | exact fun _ h => res_takes h); exact hQd; rfl; rfl; rfl; rfl; exact v_move rfl; decide +kernel; decide +kernel; decide +kernel; rfl))
      (first | (apply wh_takegX 5; (first | exact fun _ h => res_takes h); exact hQd; rfl; rfl; rfl; rfl; exact v_nil rfl; decide +kernel; decide +kernel; decide +kernel; rfl))
      (first | (apply wh_takegX 6; (first | exact fun _ h => res_takes h); exact hQd; rfl; rfl; rfl; rfl; exact v_faddr rfl rfl; decide +kernel; decide +kernel; decide +kernel; rfl))
      (first | (apply wh_takegX 7; (first | exact fun _ h => res_takes h); exact hQd; rfl; rfl; rfl; rfl; (first | exact v_ldT rfl rfl rfl (by rfl)); decide +kernel; decide +kernel; decide +kernel; rfl))
      (first | (apply wh_takegX 8; (first | exact fun _ h => res_takes h); exact hQd; rfl; rfl; rfl; rfl; exact v_move rfl; decide +kernel; decide +kernel; decide +kernel; rfl))
      (first | (apply wh_takegX 9; (first | exact fun _ h => res_takes h); exact hQd; rfl; rfl; rfl; rfl; (first | exact v_iaddrE (by assumption) rfl rfl rfl (by omega)); decide +kernel; decide +kernel; decide +kernel; rfl))
      (first | (apply wh_takegX 10; (first | exact fun _ h => res_takes h); exact hQd; rfl; rfl; rfl; rfl; (exact v_elemT hA hb (by decide) (fun _ => rfl) hs rfl (by omega) rfl); decide +kernel; decide +kernel; decide +kernel; rfl))
      refine wh_eff 11 rfl (by decide +kernel) ?_
      refine wx_ungd rfl rfl ?_
      (try refine wx_ungd rfl rfl ?_)
      refine wx_vcall (vc_pure' rfl rfl (fun w' hr => ahead_spec (k, s) y w')) rfl ?_
      (try refine wx_nil ?_)
      refine wq_held (by (first | exact fun _ h => h | exact fun _ h => res_takes h)) ?_
      (apply wh_takeX 12; (first | exact fun _ h => h | exact fun _ h => res_takes h); exact hQd; rfl; rfl; (first | exact v_pickT rfl rfl | exact v_pickF rfl rfl | exact v_pick rfl rfl rfl); decide +kernel; decide +kernel; decide +kernel; rfl)
      refine wh_done (by decide +kernel) ?_
      repeat (first | refine wq_next ?_)
      refine wc_if rfl (fun hc => ?_) (fun hc => ?_)
      · have hLf : L.length ≤ i := by rw [h2.len]; exact List.length_take_le _ _
        have h4 := h2.here hy hc
        rw [← htk] at h4
        repeat (first | (apply wx_val; (first | exact v_move rfl | exact v_ldAT rfl (by rfl)); rfl) | refine wc_seq ?_ | refine wc_region ?_)
        refine wl_lit rfl rfl rfl rfl rfl (by decide) rfl (fun g99 => ?_)
        refine wl_app1T (news := rsC (k,s)) rfl h3 rfl rfl rfl rfl (by omega) rfl (fun A2 c2 E2 hb2 => ?_)
        have hb3 := RsL.snoc hb2
        rw [snoc_len L (k, s)]
        have hL2 : (L ++ [(k, s)]).length = L.length + 1 := (snoc_len L _).symm
        repeat (first | (apply wx_val; (first | exact v_move rfl | exact v_assign rfl | exact v_nil rfl | exact v_faddr rfl rfl | exact v_ldT rfl rfl rfl (by rfl) | exact v_iaddrE (by assumption) rfl rfl rfl (by omega)); rfl) | refine wc_region ?_ | refine wx_nil ?_ | refine wq_next ?_)
        (try refine wx_ungd rfl rfl ?_)
        apply wx_val
        exact v_elemT hA hb (by decide) (fun _ => rfl) hs rfl (by omega) rfl
        rfl
        skip
        refine wl_lit rfl rfl rfl rfl rfl (by decide) rfl (fun g99 => ?_)
        refine wl_app1T (news := rsC y) rfl hb3 rfl rfl rfl rfl (by omega) rfl (fun A4 c4 E4 hb4 => ?_)
        rw [snoc_len (L ++ [(k, s)]) y]
        repeat (first | (apply wx_val; (first | exact v_move rfl | exact v_assign rfl | exact v_addi rfl rfl (by omega)); rfl) | refine wc_region ?_ | refine wx_nil ?_ | refine wq_next ?_ | refine wq_block ?_)
        refine wq_roundK (((i + 1, true), L ++ [(k, s)] ++ [y], A4, c4, E4)) ?_ ?_ (by repeat (first | exact trivial | refine ⟨rfl, ?_⟩)) (by first | exact catEq | exact rfl)
        · exact ⟨by dsimp only; omega, by rw [← snoc_len]; dsimp only; omega, h4, RsL.snoc hb4⟩
        · show A.length - (i + 1) < A.length - i
          omega
      · have h4 := h2.on hy hc
        rw [← htk] at h4
        repeat (first | (apply wx_val; (first | exact v_move rfl | exact v_nil rfl | exact v_faddr rfl rfl | exact v_ldT rfl rfl rfl (by rfl) | exact v_iaddrE (by assumption) rfl rfl rfl (by omega)); rfl) | refine wc_region ?_ | refine wq_next ?_ | refine wc_skip ?_)
        (try refine wx_ungd rfl rfl ?_)
        apply wx_val
        exact v_elemT hA hb (by decide) (fun _ => rfl) hs rfl (by omega) rfl
        rfl
        skip
        refine wl_lit rfl rfl rfl rfl rfl (by decide) rfl (fun g99 => ?_)
        refine wl_app1T (news := rsC y) rfl h3 rfl rfl rfl rfl (by omega) rfl (fun A2 c2 E2 hb2 => ?_)
        rw [snoc_len L y]
        repeat (first | (apply wx_val; (first | exact v_move rfl | exact v_assign rfl | exact v_addi rfl rfl (by omega)); rfl) | refine wc_region ?_ | refine wx_nil ?_ | refine wq_next ?_ | refine wq_block ?_)
        refine wq_roundK (((i + 1, false), L ++ [y], A2, c2, E2)) ?_ ?_ (by repeat (first | exact trivial | refine ⟨rfl, ?_⟩)) (by first | exact catEq | exact rfl)
        · exact ⟨by dsimp only; omega, by rw [← snoc_len]; dsimp only; omega, h4, RsL.snoc hb2⟩
        · show A.length - (i + 1) < A.length - i
          omega
  obtain rfl : i = A.length := by omega
  rw [List.take_length] at h2
  have hm := h2.not
  have e1 : insCode k s (hasA (k, s) A) = 0 := by rw [hm, ec]; rfl
  have e2 : insN k s A = insAll (k, s) A := if_pos e1
  rw [e1, e2]
  obtain ⟨_, ⟨rfl, rfl, h4⟩ | ⟨rfl, rfl, _⟩⟩ := h2
  · rw [insAll_end h4]
    repeat (first | (apply wx_val; (first | exact v_move rfl | exact v_ldAT rfl (by rfl) | exact v_not rfl); rfl) | refine wc_seq ?_ | refine wc_region ?_ | refine wx_nil ?_ | refine wq_next ?_ | refine wc_exit ?_ | refine wq_then_exit ?_ | refine wq_block_exit rfl ?_ | refine wc_condT rfl ?_)
    refine wl_lit rfl rfl rfl rfl rfl (by decide) rfl (fun g99 => ?_)
    refine wl_app1T (news := rsC (k,s)) rfl h3 rfl rfl rfl rfl (by omega) rfl (fun A2 c2 E2 hb2 => ?_)
    have hb3 := RsL.snoc hb2
    rw [snoc_len L (k, s)]
    repeat (first | (apply wx_val; (first | exact v_move rfl | exact v_assign rfl | exact v_nil rfl | exact v_faddr rfl rfl); rfl) | refine wc_seq ?_ | refine wc_region ?_ | refine wx_nil ?_ | refine wq_next ?_ | refine wc_ret ?_ | refine wq_setn ?_ | refine wl_storeT rfl rfl rfl (by rfl) (by exact .inl (Nat.le_refl _)) rfl ?_)
    refine wq_blk gr [.slice A2 ((L ++ [(k,s)])).length c2] (by rfl) ?_
    refine wq_setn ?_
    exact wq_ret1T (A2, c2, E2) rfl rfl hb3 rfl
  · skip
    repeat (first | (apply wx_val; (first | exact v_move rfl | exact v_assign rfl | exact v_nil rfl | exact v_faddr rfl rfl | exact v_not rfl); rfl) | refine wc_seq ?_ | refine wc_region ?_ | refine wx_nil ?_ | refine wq_next ?_ | refine wc_ret ?_ | refine wc_skip ?_ | refine wc_exit ?_ | refine wq_then_exit ?_ | refine wq_block_exit rfl ?_ | refine wq_setn ?_ | refine wc_condF rfl ?_ | refine wl_storeT rfl rfl rfl (by rfl) (by exact .inl (Nat.le_refl _)) rfl ?_)
    refine wq_blk gr [.slice A1 ((insAll (k,s) A)).length c1] (by rfl) ?_
    refine wq_setn ?_
    exact wq_ret1T (A1, c1, E1) rfl rfl h3 rfl
/-- what the document's First gives -/
def rF (k : ByteArray) : Option Sp → ByteArray × Sp
  | some f => (k, f)
  | none => (ByteArray.empty, Sp.zero)
theorem first_min {l : List Sp} {f s : Sp} (h : firstS l = some f) (hs : s ∈ l) (hm : ∀ x ∈ l, ¬ lexF x s) : s = f := by
  rcases firstS_spec l with ⟨_, h2⟩ | ⟨_, f', h2, h3, h4⟩
  · rw [h] at h2; cases h2
  · rw [h] at h2
    injection h2 with h2
    subst h2
    have a := hm f h3
    have b := h4 s hs
    unfold lexF at a b
    obtain ⟨x1, x2, x3⟩ := s
    obtain ⟨y1, y2, y3⟩ := f
    dsimp only at a b
    have e1 : x2 = y2 := by omega
    have e2 : x3 = y3 := by omega
    have e3 : x1 = y1 := by omega
    rw [e1, e2, e3]
theorem rFirst_spec (k : ByteArray) (lo hi : Int) (hn : A.length ≤ 2097152) (hb : RsL A Ad A.length c E) (hA : AOk A) (w : World) (ho : Own w [rfB gr Ad A.length c, E]) :
    Calls Try.prog 33 #[.pointer (some ⟨gr, 0, none⟩), .string k, .int .i64 lo, .int .i64 hi] w (Ret (β := Unit) w (ids [rfB gr Ad A.length c, E]) (fun _ => .tuple #[.agg (rsC (rF k (firstS (ovK k lo hi A)))).toArray, .bool (firstS (ovK k lo hi A)).isSome]) (fun _ => [rfB gr Ad A.length c, E]) (fun _ => True)) := by
  refine go [.pointer (some ⟨gr, 0, none⟩), .string k, .int .i64 lo, .int .i64 hi] [rfB gr Ad A.length c, E] Try.func33 Try.ntmps33 rfl rfl ho ?_
  have c1 := fun w' ho => rOverlap_spec (gr := gr) k lo hi hn hb w' ho
  rw [ovR_eq, List.length_map] at c1
  have hF := firstS_spec (ovK k lo hi A)
  have hS := ovK_srt (k := k) (lo := lo) (hi := hi) hA
  have hL := ovK_len (k := k) (lo := lo) (hi := hi) (A := A)
  have hmn := fun f s => first_min (l := ovK k lo hi A) (f := f) (s := s)
  generalize ovK k lo hi A = l at *
  repeat (first | refine wc_seq ?_ | refine wc_region ?_)
  refine wl_alloc rfl rfl (fun g8 => ?_)
  repeat (first | (apply wx_val; (first | exact v_move rfl | exact v_assign rfl); rfl) | refine wc_seq ?_ | refine wc_region ?_ | refine wx_nil ?_ | refine wq_next ?_)
  refine wl_callT (fun w' hr ho => c1 w' ho) rfl rfl rfl ?_
  rintro ⟨A1, c1, E1⟩ hb1
  dsimp only at hb1 ⊢
  refine wx_cat ?_
  rcases hF with ⟨rfl, hf⟩ | ⟨hp, f, hf, hfm, hfl⟩
  · rw [hf]
    repeat (first | (apply wx_val; (first | exact v_move rfl | exact v_assign rfl | exact v_len rfl rfl | exact v_eq rfl rfl); rfl) | refine wc_seq ?_ | refine wc_region ?_ | refine wx_nil ?_ | refine wq_next ?_ | refine wc_condT rfl ?_)
    (try refine wx_ungd rfl rfl ?_)
    apply wx_val
    exact v_build (cs := ((rsC (ByteArray.empty, Sp.zero))).toArray) rfl (by kernel_rfl)
    rfl
    repeat (first | (apply wx_val; (first | exact v_assign rfl); rfl) | refine wx_nil ?_ | refine wq_next ?_ | refine wc_ret ?_ | refine wq_then_ret ?_ | refine wq_setn ?_ | refine wl_stAT rfl rfl (by rfl) (by rfl) (by exact .inl (Nat.le_refl _)) rfl ?_)
    exact wq_retA2T () rfl rfl rfl rfl rfl trivial rfl
  obtain ⟨s0, hs0⟩ : ∃ s, l[0]? = some s := ⟨l[0], List.getElem?_eq_getElem hp⟩
  have hm0 : (l.map (fun s => (k, s)))[0]? = some (k, s0) := by rw [List.getElem?_map, hs0]; rfl
  obtain ⟨g1, hA1⟩ := hb1.ptr hp
  repeat (first | (apply wx_val; (first | exact v_move rfl | exact v_assign rfl | exact v_len rfl rfl | exact v_eq rfl rfl); rfl) | refine wc_seq ?_ | refine wc_region ?_ | refine wx_nil ?_ | refine wq_next ?_)
  refine wc_not rfl (decide_eq_false (by omega)) ?_
  repeat (first | (apply wx_val; (first | exact v_move rfl | exact v_iaddrE (by assumption) rfl rfl rfl (by omega)); rfl) | refine wc_seq ?_ | refine wc_region ?_ | refine wq_next ?_ | refine wc_skip ?_)
  (try refine wx_ungd rfl rfl ?_)
  apply wx_val
  exact v_elemT hA1 hb1 (by decide) (fun _ => rfl) hm0 rfl (by omega) rfl
  rfl
  skip
  refine wl_alloc rfl rfl (fun g11 => ?_)
  repeat (first | (apply wx_val; (first | exact v_assign rfl); rfl) | refine wc_seq ?_ | refine wc_region ?_ | refine wx_nil ?_ | refine wq_next ?_ | refine wc_block ?_ | refine wc_setn ?_ | refine wl_stAT rfl rfl (by rfl) (by rfl) (by exact .inl (Nat.le_refl _)) rfl ?_)
  refine wc_loopK (ι := Nat × Sp) [8, 10, 11] (fun z => [(12, .int .i64 (z.1 : Nat))]) (fun z => [rsB g11 (k, z.2)]) (fun z => 1 ≤ z.1 ∧ z.1 ≤ l.length ∧ z.2 ∈ l.take z.1 ∧ (∀ x ∈ l.take z.1, ¬ lexF x z.2)) (fun z => l.length - z.1) ((1, s0)) rfl ?_ (by repeat (first | exact trivial | refine ⟨rfl, ?_⟩)) ?_
  · have ht : l.take 1 = [s0] := by rw [take_snoc hs0]; rfl
    refine ⟨Nat.le_refl _, hp, by rw [ht]; simp, fun x hx => ?_⟩
    rw [ht] at hx
    rw [List.mem_singleton.1 hx]
    unfold lexF
    dsimp only
    omega
  rintro ⟨i, b⟩ ⟨h1, h2, h3, h4⟩
  try dsimp only
  refine wc_fcat ?_
  refine wc_cat ?_
  dsimp only at h1 h2 h3 h4
  repeat (first | (apply wx_val; (first | exact v_move rfl | exact v_len rfl rfl | exact v_lt rfl rfl); rfl) | refine wc_seq ?_ | refine wc_region ?_ | refine wx_nil ?_ | refine wq_next ?_)
  refine wc_if rfl (fun hd => ?_) (fun hd => ?_)
  · obtain ⟨s, hs⟩ : ∃ s, l[i]? = some s := ⟨l[i], List.getElem?_eq_getElem (by omega)⟩
    have hm : (l.map (fun s => (k, s)))[i]? = some (k, s) := by rw [List.getElem?_map, hs]; rfl
    have htk := take_snoc hs
    have hbs : ltS b s := by
      have hS2 : (l.take (i + 1)).Pairwise ltS := hS.sublist (List.take_sublist _ _)
      rw [htk] at hS2
      exact (List.pairwise_append.1 hS2).2.2 b h3 s (by simp)
    unfold ltS at hbs
    have p1 : ((k, s) : ByteArray × Sp).2.b = s.b := rfl
    have p2 : ((k, s) : ByteArray × Sp).2.c = s.c := rfl
    have p3 : ((k, b) : ByteArray × Sp).2.b = b.b := rfl
    have p4 : ((k, b) : ByteArray × Sp).2.c = b.c := rfl
    repeat (first | (apply wx_val; (first | exact v_move rfl | exact v_iaddrE (by assumption) rfl rfl rfl (by omega)); rfl) | refine wc_seq ?_ | refine wc_region ?_ | refine wq_next ?_ | refine wc_block ?_ | refine wc_skip ?_)
    (try refine wx_ungd rfl rfl ?_)
    apply wx_val
    exact v_elemT hA1 hb1 (by decide) (fun _ => rfl) hm rfl (by omega) rfl
    rfl
    skip
    refine wl_alloc rfl rfl (fun g13 => ?_)
    by_cases q1 : s.b < b.b
    · skip
      repeat (first | (apply wx_val; (first | exact v_move rfl | exact v_faddr rfl rfl | exact v_ldT rfl rfl rfl (by rfl) | exact v_lt rfl rfl); rfl) | refine wc_seq ?_ | refine wc_region ?_ | refine wx_nil ?_ | refine wq_next ?_ | refine wx_setn ?_ | refine wl_stAT rfl rfl (by rfl) (by rfl) (by exact .inl (Nat.le_refl _)) rfl ?_)
      refine wx_gset true rfl rfl (decide_eq_true q1) ?_
      repeat (first | (apply wx_val; (first | exact v_move rfl | exact v_assign rfl | exact v_ldAT rfl (by rfl) | exact v_addi rfl rfl (by omega) | exact v_pickT rfl rfl); rfl) | refine wx_no rfl rfl rfl ?_ | refine wx_undef rfl rfl rfl ?_ | refine wc_region ?_ | refine wx_nil ?_ | refine wq_next ?_ | refine wq_block ?_ | refine wq_setn ?_ | refine wc_condT rfl ?_ | refine wl_stAT rfl rfl (by rfl) (by rfl) (by exact .inl (Nat.le_refl _)) rfl ?_)
      refine wq_roundK ((i + 1, s)) ?_ ?_ (by repeat (first | exact trivial | refine ⟨rfl, ?_⟩)) (by first | exact catEq | exact rfl)
      · refine ⟨by dsimp only; omega, by dsimp only; omega, by rw [htk]; simp, fun x hx => ?_⟩
        dsimp only at hx ⊢
        rw [htk] at hx
        rcases List.mem_append.1 hx with hx | hx
        · have := h4 x hx
          unfold lexF at this ⊢
          omega
        · rw [List.mem_singleton.1 hx]
          unfold lexF
          omega
      · show l.length - (i + 1) < l.length - i
        omega
    · by_cases q2 : s.b = b.b
      · by_cases q3 : s.c < b.c
        · skip
          repeat (first | (apply wx_val; (first | exact v_move rfl | exact v_faddr rfl rfl | exact v_ldT rfl rfl rfl (by rfl) | exact v_lt rfl rfl); rfl) | refine wc_seq ?_ | refine wc_region ?_ | refine wx_nil ?_ | refine wq_next ?_ | refine wx_setn ?_ | refine wl_stAT rfl rfl (by rfl) (by rfl) (by exact .inl (Nat.le_refl _)) rfl ?_)
          refine wx_gset false rfl rfl (decide_eq_false q1) ?_
          repeat (first | (apply wx_val; (first | exact v_move rfl | exact v_faddr rfl rfl | exact v_ldT rfl rfl rfl (by rfl) | exact v_eq rfl rfl); rfl) | refine wx_ungd rfl rfl ?_)
          refine wx_gset true rfl rfl (decide_eq_true q2) ?_
          repeat (first | (apply wx_val; (first | exact v_faddr rfl rfl | exact v_ldT rfl rfl rfl (by rfl) | exact v_lt rfl rfl | exact v_pickT rfl rfl | exact v_pickF rfl rfl); rfl) | refine wx_ungd rfl rfl ?_ | refine wx_nil ?_ | refine wq_next ?_)
          refine wc_yes rfl (decide_eq_true q3) ?_
          repeat (first | (apply wx_val; (first | exact v_move rfl | exact v_assign rfl | exact v_ldAT rfl (by rfl) | exact v_addi rfl rfl (by omega)); rfl) | refine wc_region ?_ | refine wx_nil ?_ | refine wq_next ?_ | refine wq_block ?_ | refine wq_setn ?_ | refine wl_stAT rfl rfl (by rfl) (by rfl) (by exact .inl (Nat.le_refl _)) rfl ?_)
          refine wq_roundK ((i + 1, s)) ?_ ?_ (by repeat (first | exact trivial | refine ⟨rfl, ?_⟩)) (by first | exact catEq | exact rfl)
          · refine ⟨by dsimp only; omega, by dsimp only; omega, by rw [htk]; simp, fun x hx => ?_⟩
            dsimp only at hx ⊢
            rw [htk] at hx
            rcases List.mem_append.1 hx with hx | hx
            · have := h4 x hx
              unfold lexF at this ⊢
              omega
            · rw [List.mem_singleton.1 hx]
              unfold lexF
              omega
          · show l.length - (i + 1) < l.length - i
            omega
        · skip
          repeat (first | (apply wx_val; (first | exact v_move rfl | exact v_faddr rfl rfl | exact v_ldT rfl rfl rfl (by rfl) | exact v_lt rfl rfl); rfl) | refine wc_seq ?_ | refine wc_region ?_ | refine wx_nil ?_ | refine wq_next ?_ | refine wx_setn ?_ | refine wl_stAT rfl rfl (by rfl) (by rfl) (by exact .inl (Nat.le_refl _)) rfl ?_)
          refine wx_gset false rfl rfl (decide_eq_false q1) ?_
          repeat (first | (apply wx_val; (first | exact v_move rfl | exact v_faddr rfl rfl | exact v_ldT rfl rfl rfl (by rfl) | exact v_eq rfl rfl); rfl) | refine wx_ungd rfl rfl ?_)
          refine wx_gset true rfl rfl (decide_eq_true q2) ?_
          repeat (first | (apply wx_val; (first | exact v_faddr rfl rfl | exact v_ldT rfl rfl rfl (by rfl) | exact v_lt rfl rfl | exact v_pickT rfl rfl | exact v_pickF rfl rfl); rfl) | refine wx_ungd rfl rfl ?_ | refine wx_nil ?_ | refine wq_next ?_)
          refine wc_not rfl (decide_eq_false q3) ?_
          repeat (first | (apply wx_val; (first | exact v_move rfl | exact v_assign rfl | exact v_addi rfl rfl (by omega)); rfl) | refine wc_region ?_ | refine wx_nil ?_ | refine wq_next ?_ | refine wc_skip ?_ | refine wq_block ?_)
          refine wq_roundK ((i + 1, b)) ?_ ?_ (by repeat (first | exact trivial | refine ⟨rfl, ?_⟩)) (by first | exact catEq | exact rfl)
          · refine ⟨by dsimp only; omega, by dsimp only; omega, by rw [htk]; exact List.mem_append.2 (.inl h3), fun x hx => ?_⟩
            dsimp only at hx ⊢
            rw [htk] at hx
            rcases List.mem_append.1 hx with hx | hx
            · exact h4 x hx
            · rw [List.mem_singleton.1 hx]
              unfold lexF
              omega
          · show l.length - (i + 1) < l.length - i
            omega
      · skip
        repeat (first | (apply wx_val; (first | exact v_move rfl | exact v_faddr rfl rfl | exact v_ldT rfl rfl rfl (by rfl) | exact v_lt rfl rfl); rfl) | refine wc_seq ?_ | refine wc_region ?_ | refine wx_nil ?_ | refine wq_next ?_ | refine wx_setn ?_ | refine wl_stAT rfl rfl (by rfl) (by rfl) (by exact .inl (Nat.le_refl _)) rfl ?_)
        refine wx_gset false rfl rfl (decide_eq_false q1) ?_
        repeat (first | (apply wx_val; (first | exact v_move rfl | exact v_faddr rfl rfl | exact v_ldT rfl rfl rfl (by rfl) | exact v_eq rfl rfl); rfl) | refine wx_ungd rfl rfl ?_)
        refine wx_gset false rfl rfl (decide_eq_false q2) ?_
        repeat (first | (apply wx_val; (first | exact v_move rfl | exact v_assign rfl | exact v_addi rfl rfl (by omega) | exact v_pickF rfl rfl); rfl) | refine wx_no rfl rfl rfl ?_ | refine wx_ungd rfl rfl ?_ | refine wc_region ?_ | refine wx_nil ?_ | refine wq_next ?_ | refine wc_skip ?_ | refine wq_block ?_ | refine wc_condF rfl ?_)
        refine wq_roundK ((i + 1, b)) ?_ ?_ (by repeat (first | exact trivial | refine ⟨rfl, ?_⟩)) (by first | exact catEq | exact rfl)
        · refine ⟨by dsimp only; omega, by dsimp only; omega, by rw [htk]; exact List.mem_append.2 (.inl h3), fun x hx => ?_⟩
          dsimp only at hx ⊢
          rw [htk] at hx
          rcases List.mem_append.1 hx with hx | hx
          · exact h4 x hx
          · rw [List.mem_singleton.1 hx]
            unfold lexF
            omega
        · show l.length - (i + 1) < l.length - i
          omega
  obtain rfl : i = l.length := by omega
  rw [List.take_length] at h3 h4
  obtain rfl := hmn f b hf h3 h4
  rw [hf]
  repeat (first | (apply wx_val; (first | exact v_assign rfl | exact v_ldAT rfl (by rfl)); rfl) | refine wc_seq ?_ | refine wc_region ?_ | refine wx_nil ?_ | refine wq_next ?_ | refine wc_ret ?_ | refine wc_exit ?_ | refine wq_then_exit ?_ | refine wq_block_exit rfl ?_ | refine wq_setn ?_ | refine wl_stAT rfl rfl (by rfl) (by rfl) (by exact .inl (Nat.le_refl _)) rfl ?_)
  exact wq_retA2T () rfl rfl rfl rfl rfl trivial rfl
end rf
end Go.Proofs.Ytjeghbachokljaa
