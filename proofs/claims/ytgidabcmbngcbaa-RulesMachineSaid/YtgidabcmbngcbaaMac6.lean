/- The document's machine: Do. -/
import Derived.Test.YtgidabcmbngcbaaMac5
set_option linter.unusedVariables false
set_option linter.unusedSimpArgs false
namespace Go.Proofs.Ytgidabcmbngcbaa
open Go
set_option maxRecDepth 20000
set_option maxHeartbeats 4000000
attribute [local irreducible] WX WC WQ Val VCall
def natM (m : Nat) : List Value := [.int .i64 (m : Nat)]
/-- the machine in memory -/
structure MSt where
  y : Mc
  L : List RunW
  E : Seg
  S : Seg
  Z : List Nat
  Ee : Seg
abbrev MSt.segs (g : Nat) (st : MSt) : List Seg := [mcB g st.y st.L.length, st.E, st.S, st.Ee]
structure MOk (ses : Int) (st : MSt) : Prop where
  runs : RunsO st.L st.y st.E st.S
  ends : Buf 3 1 st.y.Ae st.y.ne st.y.ce (st.Z.flatMap natM) st.Ee
  ne : st.y.ne = st.Z.length
  se : st.y.ses = ses
  inv : InvM ses st.y.clock st.L st.Z
abbrev opM (g : Nat) (o : StepM) : Seg := [(g, .cells o.cells.toArray 89 (0, 0))]
abbrev DoR := (Bool × ByteArray × Int × Int) × MSt
abbrev DoPost (g : Nat) (ses : Int) (st : MSt) (w : World) : Ending → World → Prop := Ret (β := DoR) w (ids (st.segs g)) (fun q => .tuple #[.bool q.1.1, .string q.1.2.1, .int .i64 q.1.2.2.1, .int .i64 q.1.2.2.2]) (fun q => q.2.segs g) (fun q => MOk ses q.2)
section mc
variable {g : Nat} {ses : Int}
theorem Do_one (o : StepM) (k1 : o.kind = 1) (st : MSt) (h : MOk ses st) (w : World) (ho : Own w (st.segs g)) :
    Calls Try.prog 38 #[.pointer (some ⟨g, 0, none⟩), .agg o.cells.toArray] w (DoPost g ses st w) := by
  refine go [.pointer (some ⟨g, 0, none⟩), .agg o.cells.toArray] (st.segs g) Try.func38 Try.ntmps38 rfl rfl ho ?_
  obtain ⟨y, L, E, S, Z, Ee⟩ := st
  obtain ⟨hr, he, hne, hse, hi⟩ := h
  dsimp only at hr he hne hse hi ⊢
  have hlen := hi.len
  have hclk := hi.clk
  repeat (first | refine wc_seq ?_ | refine wc_region ?_)
  refine wl_boxA rfl rfl (fun g3 => ?_)
  repeat (first | (apply wx_val; (first | exact v_move rfl | exact v_assign rfl | exact v_ldAT rfl (by rfl)); rfl) | refine wc_seq ?_ | refine wc_region ?_ | refine wx_nil ?_ | refine wq_next ?_)
  refine wl_callT (fun w' hr' ho => refuse_spec o hlen hr hclk w' ho) rfl rfl rfl ?_
  rintro e hre
  refine wx_cat ?_
  repeat (first | (apply wx_val; (first | exact v_move rfl | exact v_assign rfl | exact v_ne rfl rfl); rfl) | refine wc_seq ?_ | refine wc_region ?_ | refine wx_nil ?_ | refine wq_next ?_)
  refine wc_if rfl (fun he0 => ?_) (fun he0 => ?_)
  · skip
    repeat (first | (apply wx_val; (first | exact v_move rfl | exact v_assign rfl); rfl) | refine wc_seq ?_ | refine wc_region ?_ | refine wx_nil ?_ | refine wq_next ?_ | refine wc_ret ?_ | refine wq_then_ret ?_)
    exact wq_ret4T (⟨(false, ByteArray.mk #[], 0, e), ⟨y, L, E, S, Z, Ee⟩⟩ : DoR) rfl rfl rfl rfl rfl rfl ⟨hr, he, hne, hse, hi⟩ rfl
  have hok := hre (by omega)
  clear hre he0
  obtain ⟨q1, q2, q3, q4, q5, q6, q7, q8⟩ := hok
  repeat (first | (apply wx_val; (first | exact v_move rfl | exact v_assign rfl | exact v_nil rfl | exact v_faddr rfl rfl | exact v_ldT rfl rfl rfl (by rfl)); rfl) | refine wc_seq ?_ | refine wc_region ?_ | refine wx_nil ?_ | refine wq_next ?_ | refine wc_skip ?_)
  refine wc_heldX [] [opM g3 o] rfl (by (repeat (first | exact panicNot_D3 rfl | with_reducible exact panicNot_of panicOk_body | with_reducible apply panicNot_block | with_reducible apply panicNot_then))) (fun hQd => ?_)
  (apply wh_takeX 0; (first | exact fun _ h => h | exact fun _ h => res_takes h); exact hQd; rfl; rfl; exact v_move rfl; decide +kernel; decide +kernel; decide +kernel; rfl)
  (apply wh_takeX 1; (first | exact fun _ h => h | exact fun _ h => res_takes h); exact hQd; rfl; rfl; exact v_nil rfl; decide +kernel; decide +kernel; decide +kernel; rfl)
  (apply wh_takeX 2; (first | exact fun _ h => h | exact fun _ h => res_takes h); exact hQd; rfl; rfl; exact v_faddr rfl rfl; decide +kernel; decide +kernel; decide +kernel; rfl)
  (apply wh_takeX 4; (first | exact fun _ h => h | exact fun _ h => res_takes h); exact hQd; rfl; rfl; exact v_faddr rfl rfl; decide +kernel; decide +kernel; decide +kernel; rfl)
  (apply wh_takeX 5; (first | exact fun _ h => res_takes h); exact hQd; rfl; rfl; (first | exact v_ldT rfl rfl rfl (by rfl)); decide +kernel; decide +kernel; decide +kernel; rfl)
  (apply wh_takeX 6; (first | exact fun _ h => h | exact fun _ h => res_takes h); exact hQd; rfl; rfl; (first | exact v_addi rfl rfl (by omega) | exact v_add rfl rfl); decide +kernel; decide +kernel; decide +kernel; rfl)
  refine wh_eff 3 rfl (by decide +kernel) ?_
  repeat (first | (apply wx_val; (first | exact v_ldT rfl rfl rfl (by rfl)); rfl) | refine wx_nil ?_)
  (try refine wx_nil ?_)
  refine wq_held (by (first | exact fun _ h => h | exact fun _ h => res_takes h)) ?_
  (apply wh_takeX 7; (first | exact fun _ h => h | exact fun _ h => res_takes h); exact hQd; rfl; rfl; (first | exact v_addi rfl rfl (by omega) | exact v_add rfl rfl); decide +kernel; decide +kernel; decide +kernel; rfl)
  (apply wh_takeX 8; (first | exact fun _ h => h | exact fun _ h => res_takes h); exact hQd; rfl; rfl; exact v_nil rfl; decide +kernel; decide +kernel; decide +kernel; rfl)
  (apply wh_takeX 9; (first | exact fun _ h => h | exact fun _ h => res_takes h); exact hQd; rfl; rfl; exact v_faddr rfl rfl; decide +kernel; decide +kernel; decide +kernel; rfl)
  refine wh_eff 10 rfl (by decide +kernel) ?_
  repeat (first | refine wx_nil ?_ | refine wq_setn ?_ | refine wl_storeT rfl rfl rfl (by rfl) (by exact .inl (Nat.le_refl _)) rfl ?_)
  (try refine wx_nil ?_)
  refine wq_held (by (first | exact fun _ h => h | exact fun _ h => res_takes h)) ?_
  refine wh_done (by decide +kernel) ?_
  repeat (first | (apply wx_val; (first | exact v_move rfl | exact v_faddr rfl rfl | exact v_ldT rfl rfl rfl (by rfl)); rfl) | refine wc_seq ?_ | refine wc_region ?_ | refine wq_next ?_)
  have hcl : y.clock + (1 + o.gap) ≤ 1099511627776 := by omega
  obtain ⟨y2, hy2⟩ : ∃ y2 : Mc, y2 = { y with clock := y.clock + (1 + o.gap) } := ⟨_, rfl⟩
  refine wx_mem (M' := [mcB g y2 L.length, E, S, opM g3 o, Ee]) (by subst hy2; kernel_rfl) ?_
  have hr2 : RunsO L y2 E S := by subst hy2; exact ⟨hr.sp, hr.hang, hr.small⟩
  have he2 : Buf 3 1 y2.Ae y2.ne y2.ce (Z.flatMap natM) Ee := by subst hy2; exact he
  have hne2 : y2.ne = Z.length := by subst hy2; exact hne
  have hse2 : y2.ses = ses := by subst hy2; exact hse
  have hc2 : y2.clock = y.clock + (1 + o.gap) := by subst hy2; rfl
  clear hy2 he hne
  refine wl_callT (fun w' hr' ho => Active_spec o.ses hlen hr2 w' ho) rfl rfl rfl ?_
  rintro x hx
  refine wx_cat ?_
  have hzl := hi.zlen
  obtain ⟨kd, se, gp, key, value⟩ := o
  dsimp only at *
  subst k1
  obtain ⟨ha, hl4⟩ := q6 rfl
  repeat (first | (apply wx_val; (first | exact v_assign rfl | exact v_faddr rfl rfl | exact v_ldT rfl rfl rfl (by rfl) | exact v_eq rfl rfl); rfl) | refine wc_seq ?_ | refine wc_region ?_ | refine wx_nil ?_ | refine wq_next ?_ | refine wc_block ?_ | refine wc_condT rfl ?_)
  refine wc_loopK (ι := Nat) [0, 3, 9] (fun z => [(12, .int .i64 (z : Nat)), (11, .int .i64 ((cntS se (L.take z) : Nat)))]) (fun z => []) (fun z => z ≤ L.length) (fun z => L.length - z) (0) rfl ?_ (by repeat (first | exact trivial | refine ⟨rfl, ?_⟩)) ?_
  · exact Nat.zero_le _
  rintro p h1
  try dsimp only
  refine wc_fcat ?_
  refine wc_cat ?_
  have hcp := Nat.le_trans (cntS_le se (L.take p)) (List.length_take_le p L)
  repeat (first | (apply wx_val; (first | exact v_move rfl | exact v_nil rfl | exact v_faddr rfl rfl | exact v_ldT rfl rfl rfl (by rfl) | exact v_len rfl rfl | exact v_lt rfl rfl); rfl) | refine wc_seq ?_ | refine wc_region ?_ | refine wx_nil ?_ | refine wq_next ?_)
  refine wc_if rfl (fun hd => ?_) (fun hd => ?_)
  · obtain ⟨r, hs⟩ : ∃ s, L[p]? = some s := ⟨L[p], List.getElem?_eq_getElem (by omega)⟩
    obtain ⟨ga, hA⟩ := hr2.sp.ptr (by omega)
    have hcs : cntS se (L.take (p + 1)) = cntS se (L.take p) + (if r.t.session = se then 1 else 0) := by
      rw [List.take_add_one, hs]
      exact cntS_snoc ..
    repeat (first | (apply wx_val; (first | exact v_move rfl | exact v_nil rfl | exact v_faddr rfl rfl | exact v_ldT rfl rfl rfl (by rfl) | exact v_iaddrE (by assumption) rfl rfl rfl (by omega)); rfl) | refine wc_seq ?_ | refine wq_next ?_ | refine wc_block ?_ | refine wc_skip ?_ | refine wc_reads rfl (by decide +kernel) ?_)
    (try refine wx_ungd rfl rfl ?_)
    apply wx_val
    exact v_load rfl rfl rfl (fun w' hr => hr2.sp.elemT (i := p) hA (by decide) (fun _ => rfl) hs hr (j := 0) rfl (by omega))
    rfl
    repeat (first | (apply wx_val; (first | exact v_faddr rfl rfl | exact v_ldT rfl rfl rfl (by rfl) | exact v_eq rfl rfl); rfl) | refine wx_nil ?_ | refine wq_next ?_)
    refine wc_if rfl (fun q9 => ?_) (fun q9 => ?_)
    · rw [if_pos q9] at hcs
      repeat (first | (apply wx_val; (first | exact v_move rfl | exact v_assign rfl | exact v_addi rfl rfl (by omega)); rfl) | refine wc_region ?_ | refine wx_nil ?_ | refine wq_next ?_ | refine wq_block ?_)
      rw [show (cntS se (L.take p) : Int) + 1 = ((cntS se (L.take (p + 1)) : Nat) : Int) by omega]
      skip
      refine wq_roundK (p + 1) ?_ ?_ (by repeat (first | exact trivial | refine ⟨rfl, ?_⟩)) (by first | exact catEq | exact rfl)
      · omega
      · omega
    · rw [if_neg q9, Nat.add_zero] at hcs
      repeat (first | (apply wx_val; (first | exact v_move rfl | exact v_assign rfl | exact v_addi rfl rfl (by omega)); rfl) | refine wc_region ?_ | refine wx_nil ?_ | refine wq_next ?_ | refine wc_skip ?_ | refine wq_block ?_)
      rw [show (cntS se (L.take p) : Int) = ((cntS se (L.take (p + 1)) : Nat) : Int) by omega]
      refine wq_roundK (p + 1) ?_ ?_ (by repeat (first | exact trivial | refine ⟨rfl, ?_⟩)) (by first | exact catEq | exact rfl)
      · omega
      · omega
  obtain rfl : p = L.length := by omega
  rw [List.take_length] at hcp ⊢
  obtain ⟨nr, hnr⟩ : ∃ nr : RunW, nr = ⟨⟨se, (cntS se L : Nat), y2.clock, 0, y.clock, 0, 0, ⟨none, 0, []⟩⟩, 0, ⟨none, 0, []⟩⟩ := ⟨_, rfl⟩
  have fin : ∀ A2 c2 E2, Buf 108 10 A2 (L.length + 1) c2 (L.flatMap RunW.cells ++ nr.cells) E2 → MOk ses ⟨{ y2 with A := A2, c := c2 }, L ++ [nr], E2, S, Z, Ee⟩ := fun A2 c2 E2 hb2 => by
    refine ⟨⟨?_, ?_, fun r hr' => ?_⟩, he2, hne2, hse2, ?_⟩
    · dsimp only
      rw [List.length_append, List.flatMap_append]
      simpa using hb2
    · have := hr2.hang.app (HangR.one (r := nr) (E1 := []) (E2 := []) (by subst hnr; exact Buf.nil _ _) (by subst hnr; exact Buf.nil _ _))
      simpa using this
    · rcases List.mem_append.1 hr' with hr' | hr'
      · exact hr2.small r hr'
      · rw [List.mem_singleton.1 hr', hnr]
        exact ⟨Nat.zero_le _, rfl, fun o ho => by cases ho⟩
    · dsimp only
      exact hi.begin hl4 (by omega) (by omega) (s := se) (by omega) ha (by rw [hnr]) (by rw [hnr]) (by rw [hnr]) (by rw [hnr]) (by rw [hnr]; exact ⟨rfl, rfl, rfl, rfl⟩)
  repeat (first | refine wc_seq ?_ | refine wq_next ?_ | refine wc_exit ?_ | refine wq_then_exit ?_ | refine wq_block_exit rfl ?_)
  refine wc_heldX [] [opM g3 ⟨1, se, gp, key, value⟩] rfl (by (repeat (first | exact panicNot_D3 rfl | with_reducible exact panicNot_of panicOk_body | with_reducible apply panicNot_block | with_reducible apply panicNot_then))) (fun hQd => ?_)
  (apply wh_takeX 0; (first | exact fun _ h => h | exact fun _ h => res_takes h); exact hQd; rfl; rfl; exact v_move rfl; decide +kernel; decide +kernel; decide +kernel; rfl)
  (apply wh_takeX 1; (first | exact fun _ h => h | exact fun _ h => res_takes h); exact hQd; rfl; rfl; exact v_move rfl; decide +kernel; decide +kernel; decide +kernel; rfl)
  (apply wh_takeX 2; (first | exact fun _ h => h | exact fun _ h => res_takes h); exact hQd; rfl; rfl; exact v_nil rfl; decide +kernel; decide +kernel; decide +kernel; rfl)
  (apply wh_takeX 3; (first | exact fun _ h => h | exact fun _ h => res_takes h); exact hQd; rfl; rfl; exact v_faddr rfl rfl; decide +kernel; decide +kernel; decide +kernel; rfl)
  (apply wh_takeX 5; (first | exact fun _ h => h | exact fun _ h => res_takes h); exact hQd; rfl; rfl; exact v_faddr rfl rfl; decide +kernel; decide +kernel; decide +kernel; rfl)
  (apply wh_takeX 6; (first | exact fun _ h => res_takes h); exact hQd; rfl; rfl; (first | exact v_ldT rfl rfl rfl (by rfl)); decide +kernel; decide +kernel; decide +kernel; rfl)
  (apply wh_takeX 7; (first | exact fun _ h => h | exact fun _ h => res_takes h); exact hQd; rfl; rfl; exact v_move rfl; decide +kernel; decide +kernel; decide +kernel; rfl)
  (apply wh_takeX 8; (first | exact fun _ h => h | exact fun _ h => res_takes h); exact hQd; rfl; rfl; exact v_move rfl; decide +kernel; decide +kernel; decide +kernel; rfl)
  (apply wh_takeX 9; (first | exact fun _ h => h | exact fun _ h => res_takes h); exact hQd; rfl; rfl; exact v_nil rfl; decide +kernel; decide +kernel; decide +kernel; rfl)
  (apply wh_takeX 10; (first | exact fun _ h => h | exact fun _ h => res_takes h); exact hQd; rfl; rfl; exact v_faddr rfl rfl; decide +kernel; decide +kernel; decide +kernel; rfl)
  (apply wh_takeX 12; (first | exact fun _ h => h | exact fun _ h => res_takes h); exact hQd; rfl; rfl; exact v_move rfl; decide +kernel; decide +kernel; decide +kernel; rfl)
  refine wh_eff2 4 11 rfl rfl (by decide +kernel) ?_ ?_
  · repeat (first | (apply wx_val; (first | exact v_ldT rfl rfl rfl (by rfl)); rfl) | refine wx_nil ?_)
    (try refine wx_nil ?_)
    refine wq_held (by (first | exact fun _ h => h | exact fun _ h => res_takes h)) ?_
    refine wh_eff 11 rfl (by decide +kernel) ?_
    repeat (first | (apply wx_val; (first | exact v_ldT rfl rfl rfl (by rfl)); rfl) | refine wx_nil ?_)
    (try refine wx_nil ?_)
    refine wq_held (by (first | exact fun _ h => h | exact fun _ h => res_takes h)) ?_
    (apply wh_takeX 13; (first | exact fun _ h => res_takes h); exact hQd; rfl; rfl; (exact v_build (cs := (TxnW.mk se (cntS se L : Nat) y2.clock 0 y.clock 0 0 ⟨none, 0, []⟩).cells.toArray) rfl (by kernel_rfl)); decide +kernel; decide +kernel; decide +kernel; rfl)
    (apply wh_takeX 14; (first | exact fun _ h => h | exact fun _ h => res_takes h); exact hQd; rfl; rfl; (exact v_build (cs := nr.cells.toArray) rfl (by subst hnr; kernel_rfl)); decide +kernel; decide +kernel; decide +kernel; rfl)
    refine wh_eff 15 rfl (by decide +kernel) ?_
    refine wl_lit rfl rfl rfl rfl rfl (by decide) rfl (fun g83 => ?_)
    (try refine wx_nil ?_)
    refine wq_held (by (first | exact fun _ h => h | exact fun _ h => res_takes h)) ?_
    refine wh_eff 16 rfl (by decide +kernel) ?_
    refine wl_app1T (news := nr.cells) rfl hr2.sp rfl rfl rfl rfl (by omega) rfl (fun A2 c2 E2 hb2 => ?_)
    (try refine wx_nil ?_)
    refine wq_held (by (first | exact fun _ h => h | exact fun _ h => res_takes h)) ?_
    (apply wh_takeX 17; (first | exact fun _ h => h | exact fun _ h => res_takes h); exact hQd; rfl; rfl; exact v_nil rfl; decide +kernel; decide +kernel; decide +kernel; rfl)
    (apply wh_takeX 18; (first | exact fun _ h => h | exact fun _ h => res_takes h); exact hQd; rfl; rfl; exact v_faddr rfl rfl; decide +kernel; decide +kernel; decide +kernel; rfl)
    refine wh_eff 19 rfl (by decide +kernel) ?_
    repeat (first | refine wx_nil ?_ | refine wq_setn ?_ | refine wl_storeT rfl rfl rfl (by rfl) (by exact .inl (Nat.le_refl _)) rfl ?_)
    (try refine wx_nil ?_)
    refine wq_held (by (first | exact fun _ h => h | exact fun _ h => res_takes h)) ?_
    refine wh_done (by decide +kernel) ?_
    repeat (first | (apply wx_val; (first | exact v_assign rfl); rfl) | refine wc_seq ?_ | refine wc_region ?_ | refine wx_nil ?_ | refine wq_next ?_ | refine wc_ret ?_ | refine wq_then_ret ?_)
    refine wq_blk g (({ y2 with A := A2, c := c2 } : Mc).cells (L ++ [nr]).length) (by rw [List.length_append]; rfl) ?_
    refine wq_setn ?_
    exact wq_ret4T (⟨(false, ByteArray.mk #[], 0, 0), ⟨{ y2 with A := A2, c := c2 }, L ++ [nr], E2, S, Z, Ee⟩⟩ : DoR) rfl rfl rfl rfl rfl rfl (fin A2 c2 E2 hb2) rfl
  · repeat (first | (apply wx_val; (first | exact v_ldT rfl rfl rfl (by rfl)); rfl) | refine wx_nil ?_)
    (try refine wx_nil ?_)
    refine wq_held (by (first | exact fun _ h => h | exact fun _ h => res_takes h)) ?_
    (apply wh_takeX 13; (first | exact fun _ h => res_takes h); exact hQd; rfl; rfl; (exact v_build (cs := (TxnW.mk se (cntS se L : Nat) y2.clock 0 y.clock 0 0 ⟨none, 0, []⟩).cells.toArray) rfl (by kernel_rfl)); decide +kernel; decide +kernel; decide +kernel; rfl)
    (apply wh_takeX 14; (first | exact fun _ h => h | exact fun _ h => res_takes h); exact hQd; rfl; rfl; (exact v_build (cs := nr.cells.toArray) rfl (by subst hnr; kernel_rfl)); decide +kernel; decide +kernel; decide +kernel; rfl)
    refine wh_eff2 4 15 rfl rfl (by decide +kernel) ?_ ?_
    · repeat (first | (apply wx_val; (first | exact v_ldT rfl rfl rfl (by rfl)); rfl) | refine wx_nil ?_)
      (try refine wx_nil ?_)
      refine wq_held (by (first | exact fun _ h => h | exact fun _ h => res_takes h)) ?_
      refine wh_eff 15 rfl (by decide +kernel) ?_
      refine wl_lit rfl rfl rfl rfl rfl (by decide) rfl (fun g83 => ?_)
      (try refine wx_nil ?_)
      refine wq_held (by (first | exact fun _ h => h | exact fun _ h => res_takes h)) ?_
      refine wh_eff 16 rfl (by decide +kernel) ?_
      refine wl_app1T (news := nr.cells) rfl hr2.sp rfl rfl rfl rfl (by omega) rfl (fun A2 c2 E2 hb2 => ?_)
      (try refine wx_nil ?_)
      refine wq_held (by (first | exact fun _ h => h | exact fun _ h => res_takes h)) ?_
      (apply wh_takeX 17; (first | exact fun _ h => h | exact fun _ h => res_takes h); exact hQd; rfl; rfl; exact v_nil rfl; decide +kernel; decide +kernel; decide +kernel; rfl)
      (apply wh_takeX 18; (first | exact fun _ h => h | exact fun _ h => res_takes h); exact hQd; rfl; rfl; exact v_faddr rfl rfl; decide +kernel; decide +kernel; decide +kernel; rfl)
      refine wh_eff 19 rfl (by decide +kernel) ?_
      repeat (first | refine wx_nil ?_ | refine wq_setn ?_ | refine wl_storeT rfl rfl rfl (by rfl) (by exact .inl (Nat.le_refl _)) rfl ?_)
      (try refine wx_nil ?_)
      refine wq_held (by (first | exact fun _ h => h | exact fun _ h => res_takes h)) ?_
      refine wh_done (by decide +kernel) ?_
      repeat (first | (apply wx_val; (first | exact v_assign rfl); rfl) | refine wc_seq ?_ | refine wc_region ?_ | refine wx_nil ?_ | refine wq_next ?_ | refine wc_ret ?_ | refine wq_then_ret ?_)
      refine wq_blk g (({ y2 with A := A2, c := c2 } : Mc).cells (L ++ [nr]).length) (by rw [List.length_append]; rfl) ?_
      refine wq_setn ?_
      exact wq_ret4T (⟨(false, ByteArray.mk #[], 0, 0), ⟨{ y2 with A := A2, c := c2 }, L ++ [nr], E2, S, Z, Ee⟩⟩ : DoR) rfl rfl rfl rfl rfl rfl (fin A2 c2 E2 hb2) rfl
    · refine wl_lit rfl rfl rfl rfl rfl (by decide) rfl (fun g83 => ?_)
      (try refine wx_nil ?_)
      refine wq_held (by (first | exact fun _ h => h | exact fun _ h => res_takes h)) ?_
      refine wh_eff 4 rfl (by decide +kernel) ?_
      repeat (first | (apply wx_val; (first | exact v_ldT rfl rfl rfl (by rfl)); rfl) | refine wx_nil ?_)
      (try refine wx_nil ?_)
      refine wq_held (by (first | exact fun _ h => h | exact fun _ h => res_takes h)) ?_
      refine wh_eff 16 rfl (by decide +kernel) ?_
      refine wl_app1T (news := nr.cells) rfl hr2.sp rfl rfl rfl rfl (by omega) rfl (fun A2 c2 E2 hb2 => ?_)
      (try refine wx_nil ?_)
      refine wq_held (by (first | exact fun _ h => h | exact fun _ h => res_takes h)) ?_
      (apply wh_takeX 17; (first | exact fun _ h => h | exact fun _ h => res_takes h); exact hQd; rfl; rfl; exact v_nil rfl; decide +kernel; decide +kernel; decide +kernel; rfl)
      (apply wh_takeX 18; (first | exact fun _ h => h | exact fun _ h => res_takes h); exact hQd; rfl; rfl; exact v_faddr rfl rfl; decide +kernel; decide +kernel; decide +kernel; rfl)
      refine wh_eff 19 rfl (by decide +kernel) ?_
      repeat (first | refine wx_nil ?_ | refine wq_setn ?_ | refine wl_storeT rfl rfl rfl (by rfl) (by exact .inl (Nat.le_refl _)) rfl ?_)
      (try refine wx_nil ?_)
      refine wq_held (by (first | exact fun _ h => h | exact fun _ h => res_takes h)) ?_
      refine wh_done (by decide +kernel) ?_
      repeat (first | (apply wx_val; (first | exact v_assign rfl); rfl) | refine wc_seq ?_ | refine wc_region ?_ | refine wx_nil ?_ | refine wq_next ?_ | refine wc_ret ?_ | refine wq_then_ret ?_)
      refine wq_blk g (({ y2 with A := A2, c := c2 } : Mc).cells (L ++ [nr]).length) (by rw [List.length_append]; rfl) ?_
      refine wq_setn ?_
      exact wq_ret4T (⟨(false, ByteArray.mk #[], 0, 0), ⟨{ y2 with A := A2, c := c2 }, L ++ [nr], E2, S, Z, Ee⟩⟩ : DoR) rfl rfl rfl rfl rfl rfl (fin A2 c2 E2 hb2) rfl
end mc
end Go.Proofs.Ytgidabcmbngcbaa
