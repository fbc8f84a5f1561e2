/- The document's machine: Do, a transaction that ends. -/
import Derived.Test.YtgidabcmbngcbaaMac6
set_option linter.unusedVariables false
set_option linter.unusedSimpArgs false
namespace Go.Proofs.Ytgidabcmbngcbaa
open Go
set_option maxRecDepth 20000
set_option maxHeartbeats 4000000
attribute [local irreducible] WX WC WQ Val VCall
def RunW.fin1 (r : RunW) (v : Int) : RunW := { r with t := { r.t with fin := v } }
def RunW.ret1 (r : RunW) (v : Int) : RunW := { r with t := { r.t with ret := v } }
def RunW.sta1 (r : RunW) (v : Int) : RunW := { r with t := { r.t with status := v } }
def RunW.end1 (r : RunW) : RunW := { r with state := 1 }
section mc
variable {g : Nat} {ses : Int}
theorem Do_end (o : StepM) (k5 : 5 ≤ o.kind) (st : MSt) (h : MOk ses st) (w : World) (ho : Own w (st.segs g)) :
    Calls Try.prog 38 #[.pointer (some ⟨g, 0, none⟩), .agg o.cells.toArray] w (DoPost g ses st w) := by
  refine go [.pointer (some ⟨g, 0, none⟩), .agg o.cells.toArray] (st.segs g) Try.func38 Try.ntmps38 rfl rfl ho ?_
  obtain ⟨y, L, E, S, Z, Ee⟩ := st
  obtain ⟨hr, he, hne, hse, hi⟩ := h
  dsimp only at hr he hne hse hi ⊢
  have hlen := hi.len
  have hclk := hi.clk
  repeat (first | refine wc_seq ?_ | refine wc_region ?_)
  refine wl_boxA rfl rfl (fun g3 => ?_)
  repeat (first | (apply wx_val; (first | exact v_move rfl | exact v_assign rfl | exact v_ldAT rfl (by rfl)); rfl) | refine wc_seq ?_ | refine wc_region ?_ | refine wx_nil ?_ | refine wq_next ?_)
  refine wl_callT (fun w' hr' ho => refuse_spec o hlen hr hclk w' ho) rfl rfl rfl ?_
  rintro e hre
  refine wx_cat ?_
  repeat (first | (apply wx_val; (first | exact v_move rfl | exact v_assign rfl | exact v_ne rfl rfl); rfl) | refine wc_seq ?_ | refine wc_region ?_ | refine wx_nil ?_ | refine wq_next ?_)
  refine wc_if rfl (fun he0 => ?_) (fun he0 => ?_)
  · skip
    repeat (first | (apply wx_val; (first | exact v_move rfl | exact v_assign rfl); rfl) | refine wc_seq ?_ | refine wc_region ?_ | refine wx_nil ?_ | refine wq_next ?_ | refine wc_ret ?_ | refine wq_then_ret ?_)
    exact wq_ret4T (⟨(false, ByteArray.mk #[], 0, e), ⟨y, L, E, S, Z, Ee⟩⟩ : DoR) rfl rfl rfl rfl rfl rfl ⟨hr, he, hne, hse, hi⟩ rfl
  have hok := hre (by omega)
  clear hre he0
  obtain ⟨q1, q2, q3, q4, q5, q6, q7, q8⟩ := hok
  repeat (first | (apply wx_val; (first | exact v_move rfl | exact v_assign rfl | exact v_nil rfl | exact v_faddr rfl rfl | exact v_ldT rfl rfl rfl (by rfl)); rfl) | refine wc_seq ?_ | refine wc_region ?_ | refine wx_nil ?_ | refine wq_next ?_ | refine wc_skip ?_)
  refine wc_heldX [] [opM g3 o] rfl (by (repeat (first | exact panicNot_D3 rfl | with_reducible exact panicNot_of panicOk_body | with_reducible apply panicNot_block | with_reducible apply panicNot_then))) (fun hQd => ?_)
  (apply wh_takeX 0; (first | exact fun _ h => h | exact fun _ h => res_takes h); exact hQd; rfl; rfl; exact v_move rfl; decide +kernel; decide +kernel; decide +kernel; rfl)
  (apply wh_takeX 1; (first | exact fun _ h => h | exact fun _ h => res_takes h); exact hQd; rfl; rfl; exact v_nil rfl; decide +kernel; decide +kernel; decide +kernel; rfl)
  (apply wh_takeX 2; (first | exact fun _ h => h | exact fun _ h => res_takes h); exact hQd; rfl; rfl; exact v_faddr rfl rfl; decide +kernel; decide +kernel; decide +kernel; rfl)
  (apply wh_takeX 4; (first | exact fun _ h => h | exact fun _ h => res_takes h); exact hQd; rfl; rfl; exact v_faddr rfl rfl; decide +kernel; decide +kernel; decide +kernel; rfl)
  (apply wh_takeX 5; (first | exact fun _ h => res_takes h); exact hQd; rfl; rfl; (first | exact v_ldT rfl rfl rfl (by rfl)); decide +kernel; decide +kernel; decide +kernel; rfl)
  (apply wh_takeX 6; (first | exact fun _ h => h | exact fun _ h => res_takes h); exact hQd; rfl; rfl; (first | exact v_addi rfl rfl (by omega) | exact v_add rfl rfl); decide +kernel; decide +kernel; decide +kernel; rfl)
  refine wh_eff 3 rfl (by decide +kernel) ?_
  repeat (first | (apply wx_val; (first | exact v_ldT rfl rfl rfl (by rfl)); rfl) | refine wx_nil ?_)
  (try refine wx_nil ?_)
  refine wq_held (by (first | exact fun _ h => h | exact fun _ h => res_takes h)) ?_
  (apply wh_takeX 7; (first | exact fun _ h => h | exact fun _ h => res_takes h); exact hQd; rfl; rfl; (first | exact v_addi rfl rfl (by omega) | exact v_add rfl rfl); decide +kernel; decide +kernel; decide +kernel; rfl)
  (apply wh_takeX 8; (first | exact fun _ h => h | exact fun _ h => res_takes h); exact hQd; rfl; rfl; exact v_nil rfl; decide +kernel; decide +kernel; decide +kernel; rfl)
  (apply wh_takeX 9; (first | exact fun _ h => h | exact fun _ h => res_takes h); exact hQd; rfl; rfl; exact v_faddr rfl rfl; decide +kernel; decide +kernel; decide +kernel; rfl)
  refine wh_eff 10 rfl (by decide +kernel) ?_
  repeat (first | refine wx_nil ?_ | refine wq_setn ?_ | refine wl_storeT rfl rfl rfl (by rfl) (by exact .inl (Nat.le_refl _)) rfl ?_)
  (try refine wx_nil ?_)
  refine wq_held (by (first | exact fun _ h => h | exact fun _ h => res_takes h)) ?_
  refine wh_done (by decide +kernel) ?_
  repeat (first | (apply wx_val; (first | exact v_move rfl | exact v_faddr rfl rfl | exact v_ldT rfl rfl rfl (by rfl)); rfl) | refine wc_seq ?_ | refine wc_region ?_ | refine wq_next ?_)
  have hcl : y.clock + (1 + o.gap) ≤ 1099511627776 := by omega
  obtain ⟨y2, hy2⟩ : ∃ y2 : Mc, y2 = { y with clock := y.clock + (1 + o.gap) } := ⟨_, rfl⟩
  refine wx_mem (M' := [mcB g y2 L.length, E, S, opM g3 o, Ee]) (by subst hy2; kernel_rfl) ?_
  have hr2 : RunsO L y2 E S := by subst hy2; exact ⟨hr.sp, hr.hang, hr.small⟩
  have he2 : Buf 3 1 y2.Ae y2.ne y2.ce (Z.flatMap natM) Ee := by subst hy2; exact he
  have hne2 : y2.ne = Z.length := by subst hy2; exact hne
  have hse2 : y2.ses = ses := by subst hy2; exact hse
  have hc2 : y2.clock = y.clock + (1 + o.gap) := by subst hy2; rfl
  clear hy2 he hne
  refine wl_callT (fun w' hr' ho => Active_spec o.ses hlen hr2 w' ho) rfl rfl rfl ?_
  rintro x hx
  refine wx_cat ?_
  have hzl := hi.zlen
  obtain ⟨kd, se, gp, key, value⟩ := o
  dsimp only at *
  have k1 : ¬ kd = 1 := by omega
  obtain ⟨i, r, hs, r1, r2, r3, r4⟩ := q7 k1
  have hil := (List.getElem?_eq_some_iff.1 hs).1
  have hx2 : x = (i : Nat) := by
    rcases hx with ⟨_, hx⟩ | ⟨j, r', rfl, hs', p1, p2, p3⟩
    · exact absurd ⟨r1, r2⟩ (hx r (by rw [List.take_length]; exact List.mem_of_getElem? hs))
    · rcases Nat.lt_trichotomy i j with hij | hij | hij
      · exact absurd ⟨r1, r2⟩ (p3 r (List.mem_of_getElem? (i := i) (by rw [List.getElem?_take_of_lt hij]; exact hs)))
      · rw [hij]
      · exact absurd ⟨p1, p2⟩ (r3 r' (List.mem_of_getElem? (i := j) (by rw [List.getElem?_take_of_lt hij]; exact hs')))
  subst hx2
  clear hx q7
  obtain ⟨ga, hA⟩ := hr2.sp.ptr (by omega)
  repeat (first | (apply wx_val; (first | exact v_assign rfl | exact v_faddr rfl rfl | exact v_ldT rfl rfl rfl (by rfl) | exact v_eq rfl rfl); rfl) | refine wc_seq ?_ | refine wc_region ?_ | refine wx_nil ?_ | refine wq_next ?_)
  refine wc_not rfl (decide_eq_false k1) ?_
  repeat (first | (apply wx_val; (first | exact v_faddr rfl rfl | exact v_ldT rfl rfl rfl (by rfl) | exact v_ge rfl rfl); rfl) | refine wc_seq ?_ | refine wc_region ?_ | refine wx_nil ?_ | refine wq_next ?_ | refine wc_skip ?_)
  refine wc_yes rfl (decide_eq_true k5) ?_
  repeat (first | (apply wx_val; (first | exact v_move rfl | exact v_assign rfl); rfl) | refine wc_seq ?_ | refine wc_region ?_ | refine wx_nil ?_ | refine wq_next ?_)
  refine wl_callT (fun w' hr' ho => passes_spec i hlen hr2 hil w' ho) rfl rfl rfl ?_
  rintro b -
  refine wx_cat ?_
  iterate 4 (first | (apply wx_val; (first | exact v_assign rfl); rfl) | refine wc_seq ?_ | refine wx_nil ?_ | refine wq_next ?_)
  refine wc_meetK (ι := Int) [0, 3, 10] (fun s => [(13, .int .i64 s)]) (fun _ => []) (M1 := []) (fun s => s = 0 ∨ s = 1) rfl ?_ ?_
  · skip
    repeat (first | (apply wx_val; (first | exact v_move rfl | exact v_faddr rfl rfl | exact v_ldT rfl rfl rfl (by rfl) | exact v_eq rfl rfl); rfl) | refine wc_seq ?_ | refine wc_region ?_ | refine wx_cat ?_)
    refine wx_gif rfl rfl (fun q9 => ?_) (fun q9 => ?_)
    · cases b
      · skip
        repeat (first | (apply wx_val; (first | exact v_move rfl | exact v_pickT rfl rfl); rfl) | refine wx_ungd rfl rfl ?_ | refine wx_nil ?_ | refine wq_next ?_ | refine wc_skip ?_ | refine wc_condF rfl ?_)
        refine wq_cutK (0) ?_ (by repeat (first | exact trivial | refine ⟨rfl, ?_⟩)) (by first | exact catEq | exact rfl)
        exact .inl rfl
      · skip
        repeat (first | (apply wx_val; (first | exact v_move rfl | exact v_assign rfl | exact v_pickT rfl rfl); rfl) | refine wx_ungd rfl rfl ?_ | refine wc_region ?_ | refine wx_nil ?_ | refine wq_next ?_ | refine wc_condT rfl ?_)
        refine wq_cutK (1) ?_ (by repeat (first | exact trivial | refine ⟨rfl, ?_⟩)) (by first | exact catEq | exact rfl)
        exact .inr rfl
    · skip
      repeat (first | (apply wx_val; (first | exact v_pickF rfl rfl); rfl) | refine wx_no rfl rfl rfl ?_ | refine wx_nil ?_ | refine wq_next ?_ | refine wc_skip ?_ | refine wc_condF rfl ?_)
      refine wq_cutK (0) ?_ (by repeat (first | exact trivial | refine ⟨rfl, ?_⟩)) (by first | exact catEq | exact rfl)
      exact .inl rfl
  rintro sv hsv
  refine wc_fcat ?_
  refine wc_cat ?_
  have hrk := hi.run r (List.mem_of_getElem? hs)
  have hg : ∀ (x : RunW), (L.set i x)[i]? = some x := fun x => List.getElem?_set_self hil
  have hss : ∀ (x z : RunW), (L.set i x).set i z = L.set i z := fun x z => List.set_set ..
  have hn : ∀ (x : RunW), L.length = (L.set i x).length := fun x => by simp
  repeat (first | refine wc_seq ?_)
  refine wc_heldX [] [mcB g y2 L.length] rfl (by (repeat (first | exact panicNot_D3 rfl | with_reducible exact panicNot_of panicOk_body | with_reducible apply panicNot_block | with_reducible apply panicNot_then))) (fun hQd => ?_)
  (apply wh_takeX 0; (first | exact fun _ h => h | exact fun _ h => res_takes h); exact hQd; rfl; rfl; exact v_move rfl; decide +kernel; decide +kernel; decide +kernel; rfl)
  (apply wh_takeX 1; (first | exact fun _ h => h | exact fun _ h => res_takes h); exact hQd; rfl; rfl; exact v_nil rfl; decide +kernel; decide +kernel; decide +kernel; rfl)
  (apply wh_takeX 2; (first | exact fun _ h => h | exact fun _ h => res_takes h); exact hQd; rfl; rfl; exact v_faddr rfl rfl; decide +kernel; decide +kernel; decide +kernel; rfl)
  (apply wh_takeX 3; (first | exact fun _ h => res_takes h); exact hQd; rfl; rfl; (first | exact v_ldT rfl rfl rfl (by rfl)); decide +kernel; decide +kernel; decide +kernel; rfl)
  (apply wh_takeX 4; (first | exact fun _ h => h | exact fun _ h => res_takes h); exact hQd; rfl; rfl; exact v_move rfl; decide +kernel; decide +kernel; decide +kernel; rfl)
  (apply wh_takeX 5; (first | exact fun _ h => h | exact fun _ h => res_takes h); exact hQd; rfl; rfl; exact v_move rfl; decide +kernel; decide +kernel; decide +kernel; rfl)
  (apply wh_takeX 6; (first | exact fun _ h => h | exact fun _ h => res_takes h); exact hQd; rfl; rfl; exact v_nil rfl; decide +kernel; decide +kernel; decide +kernel; rfl)
  (apply wh_takeX 7; (first | exact fun _ h => h | exact fun _ h => res_takes h); exact hQd; rfl; rfl; exact v_faddr rfl rfl; decide +kernel; decide +kernel; decide +kernel; rfl)
  (apply wh_takeX 8; (first | exact fun _ h => res_takes h); exact hQd; rfl; rfl; (first | exact v_ldT rfl rfl rfl (by rfl)); decide +kernel; decide +kernel; decide +kernel; rfl)
  (apply wh_takeX 9; (first | exact fun _ h => res_takes h); exact hQd; rfl; rfl; (first | exact v_iaddrE (by assumption) rfl rfl rfl (by omega)); decide +kernel; decide +kernel; decide +kernel; rfl)
  (apply wh_takeX 10; (first | exact fun _ h => h | exact fun _ h => res_takes h); exact hQd; rfl; rfl; exact v_faddr rfl rfl; decide +kernel; decide +kernel; decide +kernel; rfl)
  (apply wh_takeX 11; (first | exact fun _ h => h | exact fun _ h => res_takes h); exact hQd; rfl; rfl; exact v_faddr rfl rfl; decide +kernel; decide +kernel; decide +kernel; rfl)
  refine wh_eff 12 rfl (by decide +kernel) ?_
  refine wl_setFT i 3 (f := RunW.cells) (k := 10) r (r.fin1 y2.clock) (fun _ => rfl) (by decide) hA hr2.sp rfl rfl (by rw [Int.toNat_natCast]; omega) hs rfl rfl rfl rfl (fun E1 hb1 => ?_)
  (try refine wx_nil ?_)
  refine wq_held (by (first | exact fun _ h => h | exact fun _ h => res_takes h)) ?_
  refine wh_done (by decide +kernel) ?_
  repeat (first | refine wc_seq ?_ | refine wq_next ?_)
  refine wc_heldX [] [mcB g y2 L.length] rfl (by (repeat (first | exact panicNot_D3 rfl | with_reducible exact panicNot_of panicOk_body | with_reducible apply panicNot_block | with_reducible apply panicNot_then))) (fun hQd => ?_)
  (apply wh_takeX 0; (first | exact fun _ h => h | exact fun _ h => res_takes h); exact hQd; rfl; rfl; exact v_move rfl; decide +kernel; decide +kernel; decide +kernel; rfl)
  (apply wh_takeX 1; (first | exact fun _ h => h | exact fun _ h => res_takes h); exact hQd; rfl; rfl; exact v_nil rfl; decide +kernel; decide +kernel; decide +kernel; rfl)
  (apply wh_takeX 2; (first | exact fun _ h => h | exact fun _ h => res_takes h); exact hQd; rfl; rfl; exact v_faddr rfl rfl; decide +kernel; decide +kernel; decide +kernel; rfl)
  (apply wh_takeX 3; (first | exact fun _ h => res_takes h); exact hQd; rfl; rfl; (first | exact v_ldT rfl rfl rfl (by rfl)); decide +kernel; decide +kernel; decide +kernel; rfl)
  (apply wh_takeX 4; (first | exact fun _ h => h | exact fun _ h => res_takes h); exact hQd; rfl; rfl; exact v_move rfl; decide +kernel; decide +kernel; decide +kernel; rfl)
  (apply wh_takeX 5; (first | exact fun _ h => h | exact fun _ h => res_takes h); exact hQd; rfl; rfl; exact v_move rfl; decide +kernel; decide +kernel; decide +kernel; rfl)
  (apply wh_takeX 6; (first | exact fun _ h => h | exact fun _ h => res_takes h); exact hQd; rfl; rfl; exact v_nil rfl; decide +kernel; decide +kernel; decide +kernel; rfl)
  (apply wh_takeX 7; (first | exact fun _ h => h | exact fun _ h => res_takes h); exact hQd; rfl; rfl; exact v_faddr rfl rfl; decide +kernel; decide +kernel; decide +kernel; rfl)
  (apply wh_takeX 8; (first | exact fun _ h => res_takes h); exact hQd; rfl; rfl; (first | exact v_ldT rfl rfl rfl (by rfl)); decide +kernel; decide +kernel; decide +kernel; rfl)
  (apply wh_takeX 9; (first | exact fun _ h => res_takes h); exact hQd; rfl; rfl; (first | exact v_iaddrE (by assumption) rfl rfl rfl (by omega)); decide +kernel; decide +kernel; decide +kernel; rfl)
  (apply wh_takeX 10; (first | exact fun _ h => h | exact fun _ h => res_takes h); exact hQd; rfl; rfl; exact v_faddr rfl rfl; decide +kernel; decide +kernel; decide +kernel; rfl)
  (apply wh_takeX 11; (first | exact fun _ h => h | exact fun _ h => res_takes h); exact hQd; rfl; rfl; exact v_faddr rfl rfl; decide +kernel; decide +kernel; decide +kernel; rfl)
  refine wh_eff 12 rfl (by decide +kernel) ?_
  refine wl_setFT i 5 (f := RunW.cells) (k := 10) (r.fin1 y2.clock) ((r.fin1 y2.clock).ret1 y2.clock) (fun _ => rfl) (by decide) hA hb1 rfl rfl (by rw [Int.toNat_natCast]; omega) (hg _) (hn _) rfl rfl rfl (fun E2 hb2 => ?_)
  (try refine wx_nil ?_)
  refine wq_held (by (first | exact fun _ h => h | exact fun _ h => res_takes h)) ?_
  refine wh_done (by decide +kernel) ?_
  rw [hss] at hb2
  repeat (first | (apply wx_val; (first | exact v_move rfl | exact v_nil rfl | exact v_faddr rfl rfl | exact v_ldT rfl rfl rfl (by rfl) | exact v_iaddrE (by assumption) rfl rfl rfl (by omega)); rfl) | refine wc_seq ?_ | refine wc_region ?_ | refine wq_next ?_)
  refine wl_setFT i 6 (f := RunW.cells) (k := 10) ((r.fin1 y2.clock).ret1 y2.clock) (((r.fin1 y2.clock).ret1 y2.clock).sta1 sv) (fun _ => rfl) (by decide) hA hb2 rfl rfl (by rw [Int.toNat_natCast]; omega) (hg _) (hn _) rfl rfl rfl (fun E3 hb3 => ?_)
  rw [hss] at hb3
  repeat (first | (apply wx_val; (first | exact v_move rfl | exact v_nil rfl | exact v_faddr rfl rfl | exact v_ldT rfl rfl rfl (by rfl) | exact v_iaddrE (by assumption) rfl rfl rfl (by omega)); rfl) | refine wc_seq ?_ | refine wc_region ?_ | refine wx_nil ?_ | refine wq_next ?_)
  refine wl_setFT i 8 (f := RunW.cells) (k := 10) (((r.fin1 y2.clock).ret1 y2.clock).sta1 sv) (((r.fin1 y2.clock).ret1 y2.clock).sta1 sv).end1 (fun _ => rfl) (by decide) hA hb3 rfl rfl (by rw [Int.toNat_natCast]; omega) (hg _) (hn _) rfl rfl rfl (fun E4 hb4 => ?_)
  rw [hss] at hb4
  obtain ⟨nr, hnr⟩ : ∃ nr, nr = (((r.fin1 y2.clock).ret1 y2.clock).sta1 sv).end1 := ⟨_, rfl⟩
  rw [← hnr] at hb4
  repeat (first | (apply wx_val; (first | exact v_move rfl | exact v_nil rfl | exact v_faddr rfl rfl | exact v_ldT rfl rfl rfl (by rfl)); rfl) | refine wc_seq ?_ | refine wc_region ?_ | refine wx_nil ?_ | refine wq_next ?_)
  refine wl_lit rfl rfl rfl rfl rfl (by decide) rfl (fun g99 => ?_)
  refine wl_app1T (news := natM i) rfl he2 rfl rfl rfl rfl (by omega) rfl (fun A2 c2 F2 hf2 => ?_)
  have hzi : i ∉ Z := fun hm => by
    obtain ⟨x, hx, hst⟩ := hi.zok i hm
    rw [hs] at hx
    injection hx with hx
    subst hx
    rw [r1] at hst
    exact absurd hst (by decide)
  have hfin : MOk ses ⟨{ y2 with Ae := A2, ne := y2.ne + 1, ce := c2 }, L.set i nr, E4, S, Z ++ [i], F2⟩ := by
    refine ⟨⟨?_, hr2.hang.same hs (by rw [hnr]; rfl) (by rw [hnr]; rfl), fun x hx => ?_⟩, ?_, ?_, hse2, ?_⟩
    · dsimp only
      rw [List.length_set]
      exact hb4
    · rcases List.mem_or_eq_of_mem_set hx with hx | rfl
      · exact hr2.small x hx
      · rw [hnr]
        exact hr2.small r (List.mem_of_getElem? hs)
    · dsimp only
      rw [List.flatMap_append]
      simpa using hf2
    · dsimp only
      rw [List.length_append, hne2]
      rfl
    · dsimp only
      refine hi.turn (by omega) (by omega) hs r1 (by rw [hnr]; rfl) (by rw [hnr]; rfl) (by rw [hnr]; rfl) ?_ (List.nodup_append.2 ⟨hi.znd, by simp, fun a ha b hb e => ?_⟩) (fun z hz => ?_)
      · obtain ⟨e1, e2, e3⟩ := hrk
        rw [hnr]
        exact ⟨e1, ⟨e2.1, e2.2.1, by show r.t.start ≤ y2.clock; omega⟩, .inr ⟨rfl, by show r.t.start < y2.clock; omega, rfl, Int.le_refl _, hsv⟩⟩
      · rw [List.mem_singleton.1 hb] at e
        exact hzi (e ▸ ha)
      · rcases List.mem_append.1 hz with hz | hz
        · exact .inl hz
        · exact .inr ⟨List.mem_singleton.1 hz, by rw [hnr]; rfl⟩
  repeat (first | (apply wx_val; (first | exact v_move rfl | exact v_assign rfl | exact v_nil rfl | exact v_faddr rfl rfl); rfl) | refine wc_seq ?_ | refine wc_region ?_ | refine wx_nil ?_ | refine wq_next ?_ | refine wc_ret ?_ | refine wq_then_ret ?_ | refine wq_setn ?_ | refine wl_storeT rfl rfl rfl (by rfl) (by exact .inl (Nat.le_refl _)) rfl ?_)
  refine wq_blk g (({ y2 with Ae := A2, ne := y2.ne + 1, ce := c2 } : Mc).cells (L.set i nr).length) (by rw [List.length_set]; rfl) ?_
  refine wq_setn ?_
  exact wq_ret4T (⟨(false, ByteArray.mk #[], sv, 0), ⟨{ y2 with Ae := A2, ne := y2.ne + 1, ce := c2 }, L.set i nr, E4, S, Z ++ [i], F2⟩⟩ : DoR) rfl rfl rfl rfl rfl rfl hfin rfl
end mc
end Go.Proofs.Ytgidabcmbngcbaa
