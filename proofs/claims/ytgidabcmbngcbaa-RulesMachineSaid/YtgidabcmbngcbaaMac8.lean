/- The document's machine: Do, an operation. -/
import Derived.Test.YtgidabcmbngcbaaMac7
set_option linter.unusedVariables false
set_option linter.unusedSimpArgs false
namespace Go.Proofs.Ytgidabcmbngcbaa
open Go
set_option maxRecDepth 20000
set_option maxHeartbeats 4000000
attribute [local irreducible] WX WC WQ Val VCall
abbrev opB (g : Nat) (o : OpW) : Seg := [(g, .cells o.cells.toArray 77 (0, 0))]
def RunW.ops1 (r : RunW) (l : LstV OpW) : RunW := { r with t := { r.t with ops := l } }
def RunW.at1 (r : RunW) (l : LstV Int) : RunW := { r with at_ := l }
theorem bufP_snoc {l : List OpW} {o : OpW} {A : Option Addr} {c : Nat} {E : Seg} (h : Buf 77 4 A (l.length + 1) c (l.flatMap OpW.cells ++ o.cells) E) : BufP ⟨A, c, l ++ [o]⟩ E := by
  show Buf _ _ _ _ _ _ _
  rw [List.length_append, List.flatMap_append]
  simpa using h
theorem bufN_snoc {l : List Int} {o : Int} {A : Option Addr} {c : Nat} {E : Seg} (h : Buf 3 1 A (l.length + 1) c (l.flatMap intC ++ intC o) E) : BufN ⟨A, c, l ++ [o]⟩ E := by
  show Buf _ _ _ _ _ _ _
  rw [List.length_append, List.flatMap_append]
  simpa using h
theorem right2 {key v : ByteArray} (hk : 1 ≤ key.size ∧ key.size ≤ 8) (hv : v.size ≤ 16) : (OpW.mk 2 key true v).Right := ⟨hk.1, hk.2, hv, .inr (.inl ⟨rfl, rfl⟩)⟩
theorem right3 {key : ByteArray} (hk : 1 ≤ key.size ∧ key.size ≤ 8) : (OpW.mk 3 key false (ByteArray.mk #[])).Right := ⟨hk.1, hk.2, Nat.zero_le _, .inr (.inr ⟨rfl, rfl, rfl⟩)⟩
theorem right1 {key v : ByteArray} {ok : Bool} (hk : 1 ≤ key.size ∧ key.size ≤ 8) (hv : VOk (v, ok)) : (OpW.mk 1 key ok v).Right := ⟨hk.1, hk.2, hv.1, .inl ⟨rfl, hv.2⟩⟩
section mc
variable {g : Nat} {ses : Int}
theorem Do_op (o : StepM) (k24 : 2 ≤ o.kind ∧ o.kind ≤ 4) (st : MSt) (h : MOk ses st) (w : World) (ho : Own w (st.segs g)) :
    Calls Try.prog 38 #[.pointer (some ⟨g, 0, none⟩), .agg o.cells.toArray] w (DoPost g ses st w) := by
  refine go [.pointer (some ⟨g, 0, none⟩), .agg o.cells.toArray] (st.segs g) Try.func38 Try.ntmps38 rfl rfl ho ?_
  obtain ⟨y, L, E, S, Z, Ee⟩ := st
  obtain ⟨hr, he, hne, hse, hi⟩ := h
  dsimp only at hr he hne hse hi ⊢
  have hlen := hi.len
  have hclk := hi.clk
  repeat (first | refine wc_seq ?_ | refine wc_region ?_)
  refine wl_boxA rfl rfl (fun g3 => ?_)
  repeat (first | (apply wx_val; (first | exact v_move rfl | exact v_assign rfl | exact v_ldAT rfl (by rfl)); rfl) | refine wc_seq ?_ | refine wc_region ?_ | refine wx_nil ?_ | refine wq_next ?_)
  refine wl_callT (fun w' hr' ho => refuse_spec o hlen hr hclk w' ho) rfl rfl rfl ?_
  rintro e hre
  refine wx_cat ?_
  repeat (first | (apply wx_val; (first | exact v_move rfl | exact v_assign rfl | exact v_ne rfl rfl); rfl) | refine wc_seq ?_ | refine wc_region ?_ | refine wx_nil ?_ | refine wq_next ?_)
  refine wc_if rfl (fun he0 => ?_) (fun he0 => ?_)
  · skip
    repeat (first | (apply wx_val; (first | exact v_move rfl | exact v_assign rfl); rfl) | refine wc_seq ?_ | refine wc_region ?_ | refine wx_nil ?_ | refine wq_next ?_ | refine wc_ret ?_ | refine wq_then_ret ?_)
    exact wq_ret4T (⟨(false, ByteArray.mk #[], 0, e), ⟨y, L, E, S, Z, Ee⟩⟩ : DoR) rfl rfl rfl rfl rfl rfl ⟨hr, he, hne, hse, hi⟩ rfl
  have hok := hre (by omega)
  clear hre he0
  obtain ⟨q1, q2, q3, q4, q5, q6, q7, q8⟩ := hok
  repeat (first | (apply wx_val; (first | exact v_move rfl | exact v_assign rfl | exact v_nil rfl | exact v_faddr rfl rfl | exact v_ldT rfl rfl rfl (by rfl)); rfl) | refine wc_seq ?_ | refine wc_region ?_ | refine wx_nil ?_ | refine wq_next ?_ | refine wc_skip ?_)
  refine wc_heldX [] [opM g3 o] rfl (by (repeat (first | exact panicNot_D3 rfl | with_reducible exact panicNot_of panicOk_body | with_reducible apply panicNot_block | with_reducible apply panicNot_then))) (fun hQd => ?_)
  (apply wh_takeX 0; (first | exact fun _ h => h | exact fun _ h => res_takes h); exact hQd; rfl; rfl; exact v_move rfl; decide +kernel; decide +kernel; decide +kernel; rfl)
  (apply wh_takeX 1; (first | exact fun _ h => h | exact fun _ h => res_takes h); exact hQd; rfl; rfl; exact v_nil rfl; decide +kernel; decide +kernel; decide +kernel; rfl)
  (apply wh_takeX 2; (first | exact fun _ h => h | exact fun _ h => res_takes h); exact hQd; rfl; rfl; exact v_faddr rfl rfl; decide +kernel; decide +kernel; decide +kernel; rfl)
  (apply wh_takeX 4; (first | exact fun _ h => h | exact fun _ h => res_takes h); exact hQd; rfl; rfl; exact v_faddr rfl rfl; decide +kernel; decide +kernel; decide +kernel; rfl)
  (apply wh_takeX 5; (first | exact fun _ h => res_takes h); exact hQd; rfl; rfl; (first | exact v_ldT rfl rfl rfl (by rfl)); decide +kernel; decide +kernel; decide +kernel; rfl)
  (apply wh_takeX 6; (first | exact fun _ h => h | exact fun _ h => res_takes h); exact hQd; rfl; rfl; (first | exact v_addi rfl rfl (by omega) | exact v_add rfl rfl); decide +kernel; decide +kernel; decide +kernel; rfl)
  refine wh_eff 3 rfl (by decide +kernel) ?_
  repeat (first | (apply wx_val; (first | exact v_ldT rfl rfl rfl (by rfl)); rfl) | refine wx_nil ?_)
  (try refine wx_nil ?_)
  refine wq_held (by (first | exact fun _ h => h | exact fun _ h => res_takes h)) ?_
  (apply wh_takeX 7; (first | exact fun _ h => h | exact fun _ h => res_takes h); exact hQd; rfl; rfl; (first | exact v_addi rfl rfl (by omega) | exact v_add rfl rfl); decide +kernel; decide +kernel; decide +kernel; rfl)
  (apply wh_takeX 8; (first | exact fun _ h => h | exact fun _ h => res_takes h); exact hQd; rfl; rfl; exact v_nil rfl; decide +kernel; decide +kernel; decide +kernel; rfl)
  (apply wh_takeX 9; (first | exact fun _ h => h | exact fun _ h => res_takes h); exact hQd; rfl; rfl; exact v_faddr rfl rfl; decide +kernel; decide +kernel; decide +kernel; rfl)
  refine wh_eff 10 rfl (by decide +kernel) ?_
  repeat (first | refine wx_nil ?_ | refine wq_setn ?_ | refine wl_storeT rfl rfl rfl (by rfl) (by exact .inl (Nat.le_refl _)) rfl ?_)
  (try refine wx_nil ?_)
  refine wq_held (by (first | exact fun _ h => h | exact fun _ h => res_takes h)) ?_
  refine wh_done (by decide +kernel) ?_
  repeat (first | (apply wx_val; (first | exact v_move rfl | exact v_faddr rfl rfl | exact v_ldT rfl rfl rfl (by rfl)); rfl) | refine wc_seq ?_ | refine wc_region ?_ | refine wq_next ?_)
  have hcl : y.clock + (1 + o.gap) ≤ 1099511627776 := by omega
  obtain ⟨y2, hy2⟩ : ∃ y2 : Mc, y2 = { y with clock := y.clock + (1 + o.gap) } := ⟨_, rfl⟩
  refine wx_mem (M' := [mcB g y2 L.length, E, S, opM g3 o, Ee]) (by subst hy2; kernel_rfl) ?_
  have hr2 : RunsO L y2 E S := by subst hy2; exact ⟨hr.sp, hr.hang, hr.small⟩
  have he2 : Buf 3 1 y2.Ae y2.ne y2.ce (Z.flatMap natM) Ee := by subst hy2; exact he
  have hne2 : y2.ne = Z.length := by subst hy2; exact hne
  have hse2 : y2.ses = ses := by subst hy2; exact hse
  have hc2 : y2.clock = y.clock + (1 + o.gap) := by subst hy2; rfl
  clear hy2 he hne
  refine wl_callT (fun w' hr' ho => Active_spec o.ses hlen hr2 w' ho) rfl rfl rfl ?_
  rintro x hx
  refine wx_cat ?_
  have hzl := hi.zlen
  obtain ⟨kd, se, gp, key, value⟩ := o
  dsimp only at *
  have k1 : ¬ kd = 1 := by omega
  obtain ⟨i, r, hs, r1, r2, r3, r4⟩ := q7 k1
  have hil := (List.getElem?_eq_some_iff.1 hs).1
  have hx2 : x = (i : Nat) := by
    rcases hx with ⟨_, hx⟩ | ⟨j, r', rfl, hs', p1, p2, p3⟩
    · exact absurd ⟨r1, r2⟩ (hx r (by rw [List.take_length]; exact List.mem_of_getElem? hs))
    · rcases Nat.lt_trichotomy i j with hij | hij | hij
      · exact absurd ⟨r1, r2⟩ (p3 r (List.mem_of_getElem? (i := i) (by rw [List.getElem?_take_of_lt hij]; exact hs)))
      · rw [hij]
      · exact absurd ⟨p1, p2⟩ (r3 r' (List.mem_of_getElem? (i := j) (by rw [List.getElem?_take_of_lt hij]; exact hs')))
  subst hx2
  clear hx q7
  obtain ⟨ga, hA⟩ := hr2.sp.ptr (by omega)
  have hr16 := r4 (by omega)
  have hky := q4 (by omega)
  have h16 := hr2.r16 hs
  obtain ⟨S1, E1, E2, S2, eS, hb1, hc1, hh1, hh2⟩ := hr2.hang.find hs
  have hrk := hi.run r (List.mem_of_getElem? hs)
  by_cases k2 : kd = 2
  · subst k2
    repeat (first | (apply wx_val; (first | exact v_assign rfl | exact v_faddr rfl rfl | exact v_ldT rfl rfl rfl (by rfl) | exact v_eq rfl rfl | exact v_ge rfl rfl | exact v_sub rfl rfl); rfl) | refine wc_seq ?_ | refine wc_region ?_ | refine wx_nil ?_ | refine wq_next ?_ | refine wc_skip ?_ | refine wc_condF rfl ?_)
    (try refine wx_ungd rfl rfl ?_)
    apply wx_val
    exact v_build (cs := ((OpW.mk 1 key false (ByteArray.mk #[])).cells).toArray) rfl (by kernel_rfl)
    rfl
    refine wl_alloc rfl rfl (fun g15 => ?_)
    repeat (first | (apply wx_val; (first | exact v_move rfl | exact v_faddr rfl rfl | exact v_ldT rfl rfl rfl (by rfl) | exact v_eq rfl rfl); rfl) | refine wc_seq ?_ | refine wc_region ?_ | refine wx_nil ?_ | refine wq_next ?_ | refine wx_setn ?_ | refine wc_condT rfl ?_ | refine wl_stAT rfl rfl (by rfl) (by rfl) (by exact .inl (Nat.le_refl _)) rfl ?_)
    refine wl_callT (fun w' hr' ho => read_spec i key hlen hr2 hil w' ho) rfl rfl rfl ?_
    rintro ⟨v, ok⟩ hv
    refine wx_cat ?_
    repeat (first | (apply wx_val; (first | exact v_move rfl | exact v_assign rfl | exact v_faddr rfl rfl | exact v_ldT rfl rfl rfl (by rfl) | exact v_extract rfl rfl | exact v_eq rfl rfl); rfl) | refine wc_seq ?_ | refine wc_region ?_ | refine wx_nil ?_ | refine wq_next ?_ | refine wc_skip ?_ | refine wx_setn ?_ | refine wc_condF rfl ?_ | refine wl_storeT rfl rfl rfl (by rfl) (by exact .inl (Nat.le_refl _)) rfl ?_)
    obtain ⟨o, ho⟩ : ∃ o : OpW, o = (OpW.mk 1 key ok v) := ⟨_, rfl⟩
    have hor : o.Right := by rw [ho]; exact (right1 hky hv)
    refine wc_blk g15 o.cells (by first | (rw [ho]; done) | (rw [ho]; rfl)) ?_
    refine wc_setn ?_
    refine wc_part S1 E1 (E2 ++ S2) (S := S) (by rw [eS]; simp) ?_
    refine wc_meetK (ι := Option Addr × Nat × Seg × Seg) [0, 3, 10, 15] (fun _ => []) (fun z => [z.2.2.1, z.2.2.2]) (M1 := [E1, E]) (fun z => BufP ⟨z.1, z.2.1, r.t.ops.xs ++ [o]⟩ z.2.2.1 ∧ Buf 108 10 y2.A L.length y2.c ((L.set i (r.ops1 ⟨z.1, z.2.1, r.t.ops.xs ++ [o]⟩)).flatMap RunW.cells) z.2.2.2) rfl ?_ ?_
    · refine wc_cat ?_
      refine wc_heldX [] [mcB g y2 L.length, opB g15 o] rfl (by (repeat (first | exact panicNot_D3 rfl | with_reducible exact panicNot_of panicOk_body | with_reducible apply panicNot_block | with_reducible apply panicNot_then))) (fun hQd => ?_)
      (apply wh_takeX 0; (first | exact fun _ h => h | exact fun _ h => res_takes h); exact hQd; rfl; rfl; exact v_move rfl; decide +kernel; decide +kernel; decide +kernel; rfl)
      (apply wh_takeX 1; (first | exact fun _ h => h | exact fun _ h => res_takes h); exact hQd; rfl; rfl; exact v_nil rfl; decide +kernel; decide +kernel; decide +kernel; rfl)
      (apply wh_takeX 2; (first | exact fun _ h => h | exact fun _ h => res_takes h); exact hQd; rfl; rfl; exact v_faddr rfl rfl; decide +kernel; decide +kernel; decide +kernel; rfl)
      (apply wh_takeX 3; (first | exact fun _ h => res_takes h); exact hQd; rfl; rfl; (first | exact v_ldT rfl rfl rfl (by rfl)); decide +kernel; decide +kernel; decide +kernel; rfl)
      (apply wh_takeX 4; (first | exact fun _ h => h | exact fun _ h => res_takes h); exact hQd; rfl; rfl; exact v_move rfl; decide +kernel; decide +kernel; decide +kernel; rfl)
      (apply wh_takeX 5; (first | exact fun _ h => h | exact fun _ h => res_takes h); exact hQd; rfl; rfl; exact v_move rfl; decide +kernel; decide +kernel; decide +kernel; rfl)
      (apply wh_takeX 6; (first | exact fun _ h => h | exact fun _ h => res_takes h); exact hQd; rfl; rfl; exact v_nil rfl; decide +kernel; decide +kernel; decide +kernel; rfl)
      (apply wh_takeX 7; (first | exact fun _ h => h | exact fun _ h => res_takes h); exact hQd; rfl; rfl; exact v_faddr rfl rfl; decide +kernel; decide +kernel; decide +kernel; rfl)
      (apply wh_takeX 8; (first | exact fun _ h => res_takes h); exact hQd; rfl; rfl; (first | exact v_ldT rfl rfl rfl (by rfl)); decide +kernel; decide +kernel; decide +kernel; rfl)
      (apply wh_takeX 9; (first | exact fun _ h => h | exact fun _ h => res_takes h); exact hQd; rfl; rfl; exact v_move rfl; decide +kernel; decide +kernel; decide +kernel; rfl)
      (apply wh_takeX 10; (first | exact fun _ h => res_takes h); exact hQd; rfl; rfl; (first | exact v_iaddrE (by assumption) rfl rfl rfl (by omega)); decide +kernel; decide +kernel; decide +kernel; rfl)
      (apply wh_takeX 11; (first | exact fun _ h => h | exact fun _ h => res_takes h); exact hQd; rfl; rfl; exact v_faddr rfl rfl; decide +kernel; decide +kernel; decide +kernel; rfl)
      (apply wh_takeX 12; (first | exact fun _ h => h | exact fun _ h => res_takes h); exact hQd; rfl; rfl; exact v_faddr rfl rfl; decide +kernel; decide +kernel; decide +kernel; rfl)
      (apply wh_takeX 14; (first | exact fun _ h => res_takes h); exact hQd; rfl; rfl; (first | exact v_ldAT rfl (by rfl)); decide +kernel; decide +kernel; decide +kernel; rfl)
      refine wh_eff2 13 15 rfl rfl (by decide +kernel) ?_ ?_
      · skip
        (try refine wx_ungd rfl rfl ?_)
        apply wx_val
        exact v_load rfl rfl rfl (fun w' hr => hr2.sp.elemT (i := i) hA (by decide) (fun _ => rfl) hs hr (j := 7) rfl (by omega))
        rfl
        (try refine wx_nil ?_)
        refine wq_held (by (first | exact fun _ h => h | exact fun _ h => res_takes h)) ?_
        refine wh_eff 15 rfl (by decide +kernel) ?_
        refine wl_lit rfl rfl rfl rfl rfl (by decide) rfl (fun g99 => ?_)
        (try refine wx_nil ?_)
        refine wq_held (by (first | exact fun _ h => h | exact fun _ h => res_takes h)) ?_
        refine wh_eff 16 rfl (by decide +kernel) ?_
        refine wl_app1T (news := o.cells) rfl hb1 rfl rfl rfl rfl (by omega) rfl (fun A2 c2 F2 hb2 => ?_)
        (try refine wx_nil ?_)
        refine wq_held (by (first | exact fun _ h => h | exact fun _ h => res_takes h)) ?_
        (apply wh_takeX 17; (first | exact fun _ h => res_takes h); exact hQd; rfl; rfl; (first | exact v_iaddrE (by assumption) rfl rfl rfl (by omega)); decide +kernel; decide +kernel; decide +kernel; rfl)
        (apply wh_takeX 18; (first | exact fun _ h => h | exact fun _ h => res_takes h); exact hQd; rfl; rfl; exact v_faddr rfl rfl; decide +kernel; decide +kernel; decide +kernel; rfl)
        (apply wh_takeX 19; (first | exact fun _ h => h | exact fun _ h => res_takes h); exact hQd; rfl; rfl; exact v_faddr rfl rfl; decide +kernel; decide +kernel; decide +kernel; rfl)
        refine wh_eff 20 rfl (by decide +kernel) ?_
        refine wl_setFT i 7 (f := RunW.cells) (k := 10) r (r.ops1 ⟨A2, c2, r.t.ops.xs ++ [o]⟩) (fun _ => rfl) (by decide) hA hr2.sp rfl rfl (by rw [Int.toNat_natCast]; omega) hs rfl rfl rfl (by simp [RunW.cells, RunW.ops1]) (fun E3 hb3 => ?_)
        (try refine wx_nil ?_)
        refine wq_held (by (first | exact fun _ h => h | exact fun _ h => res_takes h)) ?_
        refine wh_done (by decide +kernel) ?_
        refine wq_cutK (A2, c2, F2, E3) ⟨bufP_snoc hb2, hb3⟩ (by repeat (first | exact trivial | refine ⟨rfl, ?_⟩)) rfl
      · refine wl_lit rfl rfl rfl rfl rfl (by decide) rfl (fun g99 => ?_)
        (try refine wx_nil ?_)
        refine wq_held (by (first | exact fun _ h => h | exact fun _ h => res_takes h)) ?_
        refine wh_eff 13 rfl (by decide +kernel) ?_
        skip
        (try refine wx_ungd rfl rfl ?_)
        apply wx_val
        exact v_load rfl rfl rfl (fun w' hr => hr2.sp.elemT (i := i) hA (by decide) (fun _ => rfl) hs hr (j := 7) rfl (by omega))
        rfl
        (try refine wx_nil ?_)
        refine wq_held (by (first | exact fun _ h => h | exact fun _ h => res_takes h)) ?_
        refine wh_eff 16 rfl (by decide +kernel) ?_
        refine wl_app1T (news := o.cells) rfl hb1 rfl rfl rfl rfl (by omega) rfl (fun A2 c2 F2 hb2 => ?_)
        (try refine wx_nil ?_)
        refine wq_held (by (first | exact fun _ h => h | exact fun _ h => res_takes h)) ?_
        (apply wh_takeX 17; (first | exact fun _ h => res_takes h); exact hQd; rfl; rfl; (first | exact v_iaddrE (by assumption) rfl rfl rfl (by omega)); decide +kernel; decide +kernel; decide +kernel; rfl)
        (apply wh_takeX 18; (first | exact fun _ h => h | exact fun _ h => res_takes h); exact hQd; rfl; rfl; exact v_faddr rfl rfl; decide +kernel; decide +kernel; decide +kernel; rfl)
        (apply wh_takeX 19; (first | exact fun _ h => h | exact fun _ h => res_takes h); exact hQd; rfl; rfl; exact v_faddr rfl rfl; decide +kernel; decide +kernel; decide +kernel; rfl)
        refine wh_eff 20 rfl (by decide +kernel) ?_
        refine wl_setFT i 7 (f := RunW.cells) (k := 10) r (r.ops1 ⟨A2, c2, r.t.ops.xs ++ [o]⟩) (fun _ => rfl) (by decide) hA hr2.sp rfl rfl (by rw [Int.toNat_natCast]; omega) hs rfl rfl rfl (by simp [RunW.cells, RunW.ops1]) (fun E3 hb3 => ?_)
        (try refine wx_nil ?_)
        refine wq_held (by (first | exact fun _ h => h | exact fun _ h => res_takes h)) ?_
        refine wh_done (by decide +kernel) ?_
        refine wq_cutK (A2, c2, F2, E3) ⟨bufP_snoc hb2, hb3⟩ (by repeat (first | exact trivial | refine ⟨rfl, ?_⟩)) rfl
    rintro ⟨A2, c2, F2, E3⟩ ⟨hb2, hb3⟩
    dsimp only at hb2 hb3 ⊢
    refine wc_fcat ?_
    refine wc_cat ?_
    refine wc_part [] E2 S2 (S := E2 ++ S2) (by simp) ?_
    have hg : ∀ (x : RunW), (L.set i x)[i]? = some x := fun x => List.getElem?_set_self hil
    have hss : ∀ (x z : RunW), (L.set i x).set i z = L.set i z := fun x z => List.set_set ..
    have hn : ∀ (x : RunW), L.length = (L.set i x).length := fun x => by simp
    iterate 1 (first | refine wc_seq ?_)
    refine wc_meetK (ι := Option Addr × Nat × Seg × Seg) [0, 3, 10, 15] (fun _ => []) (fun z => [z.2.2.1, z.2.2.2]) (M1 := [E2, E3]) (fun z => BufN ⟨z.1, z.2.1, r.at_.xs ++ [y2.clock]⟩ z.2.2.1 ∧ Buf 108 10 y2.A L.length y2.c ((L.set i ((r.ops1 ⟨A2, c2, r.t.ops.xs ++ [o]⟩).at1 ⟨z.1, z.2.1, r.at_.xs ++ [y2.clock]⟩)).flatMap RunW.cells) z.2.2.2) rfl ?_ ?_
    · refine wc_cat ?_
      refine wc_heldX [] [mcB g y2 L.length] rfl (by (repeat (first | exact panicNot_D3 rfl | with_reducible exact panicNot_of panicOk_body | with_reducible apply panicNot_block | with_reducible apply panicNot_then))) (fun hQd => ?_)
      (apply wh_takeX 0; (first | exact fun _ h => h | exact fun _ h => res_takes h); exact hQd; rfl; rfl; exact v_move rfl; decide +kernel; decide +kernel; decide +kernel; rfl)
      (apply wh_takeX 1; (first | exact fun _ h => h | exact fun _ h => res_takes h); exact hQd; rfl; rfl; exact v_nil rfl; decide +kernel; decide +kernel; decide +kernel; rfl)
      (apply wh_takeX 2; (first | exact fun _ h => h | exact fun _ h => res_takes h); exact hQd; rfl; rfl; exact v_faddr rfl rfl; decide +kernel; decide +kernel; decide +kernel; rfl)
      (apply wh_takeX 3; (first | exact fun _ h => res_takes h); exact hQd; rfl; rfl; (first | exact v_ldT rfl rfl rfl (by rfl)); decide +kernel; decide +kernel; decide +kernel; rfl)
      (apply wh_takeX 4; (first | exact fun _ h => h | exact fun _ h => res_takes h); exact hQd; rfl; rfl; exact v_move rfl; decide +kernel; decide +kernel; decide +kernel; rfl)
      (apply wh_takeX 5; (first | exact fun _ h => h | exact fun _ h => res_takes h); exact hQd; rfl; rfl; exact v_move rfl; decide +kernel; decide +kernel; decide +kernel; rfl)
      (apply wh_takeX 6; (first | exact fun _ h => h | exact fun _ h => res_takes h); exact hQd; rfl; rfl; exact v_nil rfl; decide +kernel; decide +kernel; decide +kernel; rfl)
      (apply wh_takeX 7; (first | exact fun _ h => h | exact fun _ h => res_takes h); exact hQd; rfl; rfl; exact v_faddr rfl rfl; decide +kernel; decide +kernel; decide +kernel; rfl)
      (apply wh_takeX 8; (first | exact fun _ h => res_takes h); exact hQd; rfl; rfl; (first | exact v_ldT rfl rfl rfl (by rfl)); decide +kernel; decide +kernel; decide +kernel; rfl)
      (apply wh_takeX 9; (first | exact fun _ h => h | exact fun _ h => res_takes h); exact hQd; rfl; rfl; exact v_move rfl; decide +kernel; decide +kernel; decide +kernel; rfl)
      (apply wh_takeX 10; (first | exact fun _ h => res_takes h); exact hQd; rfl; rfl; (first | exact v_iaddrE (by assumption) rfl rfl rfl (by omega)); decide +kernel; decide +kernel; decide +kernel; rfl)
      (apply wh_takeX 11; (first | exact fun _ h => h | exact fun _ h => res_takes h); exact hQd; rfl; rfl; exact v_faddr rfl rfl; decide +kernel; decide +kernel; decide +kernel; rfl)
      (apply wh_takeX 13; (first | exact fun _ h => h | exact fun _ h => res_takes h); exact hQd; rfl; rfl; exact v_move rfl; decide +kernel; decide +kernel; decide +kernel; rfl)
      (apply wh_takeX 14; (first | exact fun _ h => h | exact fun _ h => res_takes h); exact hQd; rfl; rfl; exact v_nil rfl; decide +kernel; decide +kernel; decide +kernel; rfl)
      (apply wh_takeX 15; (first | exact fun _ h => h | exact fun _ h => res_takes h); exact hQd; rfl; rfl; exact v_faddr rfl rfl; decide +kernel; decide +kernel; decide +kernel; rfl)
      (apply wh_takeX 16; (first | exact fun _ h => res_takes h); exact hQd; rfl; rfl; (first | exact v_ldT rfl rfl rfl (by rfl)); decide +kernel; decide +kernel; decide +kernel; rfl)
      refine wh_eff2 12 17 rfl rfl (by decide +kernel) ?_ ?_
      · skip
        (try refine wx_ungd rfl rfl ?_)
        apply wx_val
        exact v_load rfl rfl rfl (fun w' hr => hb3.elemT (i := i) hA (by decide) (fun _ => rfl) (hg _) hr (j := 9) rfl (by omega))
        rfl
        (try refine wx_nil ?_)
        refine wq_held (by (first | exact fun _ h => h | exact fun _ h => res_takes h)) ?_
        refine wh_eff 17 rfl (by decide +kernel) ?_
        refine wl_lit rfl rfl rfl rfl rfl (by decide) rfl (fun g99 => ?_)
        (try refine wx_nil ?_)
        refine wq_held (by (first | exact fun _ h => h | exact fun _ h => res_takes h)) ?_
        refine wh_eff 18 rfl (by decide +kernel) ?_
        refine wl_app1T (news := intC y2.clock) rfl hc1 rfl rfl rfl rfl (by omega) rfl (fun A4 c4 F4 hb4 => ?_)
        (try refine wx_nil ?_)
        refine wq_held (by (first | exact fun _ h => h | exact fun _ h => res_takes h)) ?_
        (apply wh_takeX 19; (first | exact fun _ h => res_takes h); exact hQd; rfl; rfl; (first | exact v_iaddrE (by assumption) rfl rfl rfl (by omega)); decide +kernel; decide +kernel; decide +kernel; rfl)
        (apply wh_takeX 20; (first | exact fun _ h => h | exact fun _ h => res_takes h); exact hQd; rfl; rfl; exact v_faddr rfl rfl; decide +kernel; decide +kernel; decide +kernel; rfl)
        refine wh_eff 21 rfl (by decide +kernel) ?_
        refine wl_setFT i 9 (f := RunW.cells) (k := 10) (r.ops1 ⟨A2, c2, r.t.ops.xs ++ [o]⟩) ((r.ops1 ⟨A2, c2, r.t.ops.xs ++ [o]⟩).at1 ⟨A4, c4, r.at_.xs ++ [y2.clock]⟩) (fun _ => rfl) (by decide) hA hb3 rfl rfl (by rw [Int.toNat_natCast]; omega) (hg _) (hn _) rfl rfl (by simp [RunW.cells, RunW.at1]) (fun E5 hb5 => ?_)
        (try refine wx_nil ?_)
        refine wq_held (by (first | exact fun _ h => h | exact fun _ h => res_takes h)) ?_
        refine wh_done (by decide +kernel) ?_
        rw [hss] at hb5
        refine wq_cutK (A4, c4, F4, E5) ⟨bufN_snoc hb4, hb5⟩ (by repeat (first | exact trivial | refine ⟨rfl, ?_⟩)) rfl
      · refine wl_lit rfl rfl rfl rfl rfl (by decide) rfl (fun g99 => ?_)
        (try refine wx_nil ?_)
        refine wq_held (by (first | exact fun _ h => h | exact fun _ h => res_takes h)) ?_
        refine wh_eff 12 rfl (by decide +kernel) ?_
        skip
        (try refine wx_ungd rfl rfl ?_)
        apply wx_val
        exact v_load rfl rfl rfl (fun w' hr => hb3.elemT (i := i) hA (by decide) (fun _ => rfl) (hg _) hr (j := 9) rfl (by omega))
        rfl
        (try refine wx_nil ?_)
        refine wq_held (by (first | exact fun _ h => h | exact fun _ h => res_takes h)) ?_
        refine wh_eff 18 rfl (by decide +kernel) ?_
        refine wl_app1T (news := intC y2.clock) rfl hc1 rfl rfl rfl rfl (by omega) rfl (fun A4 c4 F4 hb4 => ?_)
        (try refine wx_nil ?_)
        refine wq_held (by (first | exact fun _ h => h | exact fun _ h => res_takes h)) ?_
        (apply wh_takeX 19; (first | exact fun _ h => res_takes h); exact hQd; rfl; rfl; (first | exact v_iaddrE (by assumption) rfl rfl rfl (by omega)); decide +kernel; decide +kernel; decide +kernel; rfl)
        (apply wh_takeX 20; (first | exact fun _ h => h | exact fun _ h => res_takes h); exact hQd; rfl; rfl; exact v_faddr rfl rfl; decide +kernel; decide +kernel; decide +kernel; rfl)
        refine wh_eff 21 rfl (by decide +kernel) ?_
        refine wl_setFT i 9 (f := RunW.cells) (k := 10) (r.ops1 ⟨A2, c2, r.t.ops.xs ++ [o]⟩) ((r.ops1 ⟨A2, c2, r.t.ops.xs ++ [o]⟩).at1 ⟨A4, c4, r.at_.xs ++ [y2.clock]⟩) (fun _ => rfl) (by decide) hA hb3 rfl rfl (by rw [Int.toNat_natCast]; omega) (hg _) (hn _) rfl rfl (by simp [RunW.cells, RunW.at1]) (fun E5 hb5 => ?_)
        (try refine wx_nil ?_)
        refine wq_held (by (first | exact fun _ h => h | exact fun _ h => res_takes h)) ?_
        refine wh_done (by decide +kernel) ?_
        rw [hss] at hb5
        refine wq_cutK (A4, c4, F4, E5) ⟨bufN_snoc hb4, hb5⟩ (by repeat (first | exact trivial | refine ⟨rfl, ?_⟩)) rfl
    rintro ⟨A4, c4, F4, E5⟩ ⟨hb4, hb5⟩
    dsimp only at hb4 hb5 ⊢
    refine wc_fcat ?_
    refine wc_cat ?_
    obtain ⟨nr, hnr⟩ : ∃ nr, nr = (r.ops1 ⟨A2, c2, r.t.ops.xs ++ [o]⟩).at1 ⟨A4, c4, r.at_.xs ++ [y2.clock]⟩ := ⟨_, rfl⟩
    rw [← hnr] at hb5
    have hfin : MOk ses ⟨y2, L.set i nr, E5, S1 ++ (F2 ++ F4) ++ S2, Z, Ee⟩ := by
      refine ⟨⟨?_, HangR.grow hs hh1 hh2 (by rw [hnr]; exact hb2) (by rw [hnr]; exact hb4), fun x hx => ?_⟩, he2, hne2, hse2, ?_⟩
      · dsimp only
        rw [List.length_set]
        exact hb5
      · rcases List.mem_or_eq_of_mem_set hx with hx | rfl
        · exact hr2.small x hx
        · rw [hnr]
          refine ⟨?_, ?_, fun q hq => ?_⟩
          · show (r.t.ops.xs ++ [o]).length ≤ 16
            rw [List.length_append]
            simp only [List.length_singleton]
            omega
          · show (r.at_.xs ++ [y2.clock]).length = (r.t.ops.xs ++ [o]).length
            rw [List.length_append, List.length_append, h16.2.1]
            rfl
          · rcases List.mem_append.1 (show q ∈ r.t.ops.xs ++ [o] from hq) with hq | hq
            · exact h16.2.2 q hq
            · rw [List.mem_singleton.1 hq]; exact hor
      · dsimp only
        refine hi.turn (by omega) (by omega) hs r1 (by rw [hnr]; rfl) (by rw [hnr]; rfl) (by rw [hnr]; rfl) ?_ hi.znd (fun z hz => .inl hz)
        obtain ⟨e1, e2, e3⟩ := hrk.up (show y.clock ≤ y2.clock by omega)
        rw [hnr]
        exact ⟨e1, e2, e3⟩
    refine wc_only [mcB g y2 L.length, E5, S1, F2, F4, S2, Ee, opB g15 o, opM g3 ⟨2, se, gp, key, value⟩] ?_
    refine wc_flat (N := [mcB g y2 (L.set i nr).length, E5, S1 ++ (F2 ++ F4) ++ S2, Ee, opB g15 o, opM g3 ⟨2, se, gp, key, value⟩]) (by
      rw [List.length_set]
      simp only [List.flatten_cons, List.append_assoc]
      exact List.Perm.refl _) ?_
    repeat (first | (apply wx_val; (first | exact v_assign rfl | exact v_faddr rfl rfl | exact v_ldT rfl rfl rfl (by rfl) | exact v_eq rfl rfl); rfl) | refine wc_seq ?_ | refine wc_region ?_ | refine wx_nil ?_ | refine wq_next ?_ | refine wc_ret ?_ | refine wq_then_ret ?_ | refine wc_reads rfl (by decide +kernel) ?_ | refine wc_condT rfl ?_)
    exact wq_ret4T (⟨(o.found, o.value, 0, 0), ⟨y2, L.set i nr, E5, S1 ++ (F2 ++ F4) ++ S2, Z, Ee⟩⟩ : DoR) rfl rfl rfl rfl rfl rfl hfin rfl
  by_cases k3 : kd = 3
  · subst k3
    repeat (first | (apply wx_val; (first | exact v_assign rfl | exact v_faddr rfl rfl | exact v_ldT rfl rfl rfl (by rfl) | exact v_eq rfl rfl | exact v_ge rfl rfl | exact v_sub rfl rfl); rfl) | refine wc_seq ?_ | refine wc_region ?_ | refine wx_nil ?_ | refine wq_next ?_ | refine wc_skip ?_ | refine wc_condF rfl ?_)
    (try refine wx_ungd rfl rfl ?_)
    apply wx_val
    exact v_build (cs := ((OpW.mk 2 key false (ByteArray.mk #[])).cells).toArray) rfl (by kernel_rfl)
    rfl
    refine wl_alloc rfl rfl (fun g15 => ?_)
    repeat (first | (apply wx_val; (first | exact v_faddr rfl rfl | exact v_ldT rfl rfl rfl (by rfl) | exact v_eq rfl rfl); rfl) | refine wc_seq ?_ | refine wc_region ?_ | refine wx_nil ?_ | refine wq_next ?_ | refine wc_skip ?_ | refine wx_setn ?_ | refine wc_setn ?_ | refine wc_condT rfl ?_ | refine wc_condF rfl ?_ | refine wl_storeT rfl rfl rfl (by rfl) (by exact .inl (Nat.le_refl _)) rfl ?_ | refine wl_stAT rfl rfl (by rfl) (by rfl) (by exact .inl (Nat.le_refl _)) rfl ?_)
    obtain ⟨o, ho⟩ : ∃ o : OpW, o = (OpW.mk 2 key true value) := ⟨_, rfl⟩
    have hor : o.Right := by rw [ho]; exact (right2 hky (q5 rfl))
    refine wc_blk g15 o.cells (by first | (rw [ho]; done) | (rw [ho]; rfl)) ?_
    refine wc_setn ?_
    refine wc_part S1 E1 (E2 ++ S2) (S := S) (by rw [eS]; simp) ?_
    refine wc_meetK (ι := Option Addr × Nat × Seg × Seg) [0, 3, 10, 15] (fun _ => []) (fun z => [z.2.2.1, z.2.2.2]) (M1 := [E1, E]) (fun z => BufP ⟨z.1, z.2.1, r.t.ops.xs ++ [o]⟩ z.2.2.1 ∧ Buf 108 10 y2.A L.length y2.c ((L.set i (r.ops1 ⟨z.1, z.2.1, r.t.ops.xs ++ [o]⟩)).flatMap RunW.cells) z.2.2.2) rfl ?_ ?_
    · refine wc_cat ?_
      refine wc_heldX [] [mcB g y2 L.length, opB g15 o] rfl (by (repeat (first | exact panicNot_D3 rfl | with_reducible exact panicNot_of panicOk_body | with_reducible apply panicNot_block | with_reducible apply panicNot_then))) (fun hQd => ?_)
      (apply wh_takeX 0; (first | exact fun _ h => h | exact fun _ h => res_takes h); exact hQd; rfl; rfl; exact v_move rfl; decide +kernel; decide +kernel; decide +kernel; rfl)
      (apply wh_takeX 1; (first | exact fun _ h => h | exact fun _ h => res_takes h); exact hQd; rfl; rfl; exact v_nil rfl; decide +kernel; decide +kernel; decide +kernel; rfl)
      (apply wh_takeX 2; (first | exact fun _ h => h | exact fun _ h => res_takes h); exact hQd; rfl; rfl; exact v_faddr rfl rfl; decide +kernel; decide +kernel; decide +kernel; rfl)
      (apply wh_takeX 3; (first | exact fun _ h => res_takes h); exact hQd; rfl; rfl; (first | exact v_ldT rfl rfl rfl (by rfl)); decide +kernel; decide +kernel; decide +kernel; rfl)
      (apply wh_takeX 4; (first | exact fun _ h => h | exact fun _ h => res_takes h); exact hQd; rfl; rfl; exact v_move rfl; decide +kernel; decide +kernel; decide +kernel; rfl)
      (apply wh_takeX 5; (first | exact fun _ h => h | exact fun _ h => res_takes h); exact hQd; rfl; rfl; exact v_move rfl; decide +kernel; decide +kernel; decide +kernel; rfl)
      (apply wh_takeX 6; (first | exact fun _ h => h | exact fun _ h => res_takes h); exact hQd; rfl; rfl; exact v_nil rfl; decide +kernel; decide +kernel; decide +kernel; rfl)
      (apply wh_takeX 7; (first | exact fun _ h => h | exact fun _ h => res_takes h); exact hQd; rfl; rfl; exact v_faddr rfl rfl; decide +kernel; decide +kernel; decide +kernel; rfl)
      (apply wh_takeX 8; (first | exact fun _ h => res_takes h); exact hQd; rfl; rfl; (first | exact v_ldT rfl rfl rfl (by rfl)); decide +kernel; decide +kernel; decide +kernel; rfl)
      (apply wh_takeX 9; (first | exact fun _ h => h | exact fun _ h => res_takes h); exact hQd; rfl; rfl; exact v_move rfl; decide +kernel; decide +kernel; decide +kernel; rfl)
      (apply wh_takeX 10; (first | exact fun _ h => res_takes h); exact hQd; rfl; rfl; (first | exact v_iaddrE (by assumption) rfl rfl rfl (by omega)); decide +kernel; decide +kernel; decide +kernel; rfl)
      (apply wh_takeX 11; (first | exact fun _ h => h | exact fun _ h => res_takes h); exact hQd; rfl; rfl; exact v_faddr rfl rfl; decide +kernel; decide +kernel; decide +kernel; rfl)
      (apply wh_takeX 12; (first | exact fun _ h => h | exact fun _ h => res_takes h); exact hQd; rfl; rfl; exact v_faddr rfl rfl; decide +kernel; decide +kernel; decide +kernel; rfl)
      (apply wh_takeX 14; (first | exact fun _ h => res_takes h); exact hQd; rfl; rfl; (first | exact v_ldAT rfl (by rfl)); decide +kernel; decide +kernel; decide +kernel; rfl)
      refine wh_eff2 13 15 rfl rfl (by decide +kernel) ?_ ?_
      · skip
        (try refine wx_ungd rfl rfl ?_)
        apply wx_val
        exact v_load rfl rfl rfl (fun w' hr => hr2.sp.elemT (i := i) hA (by decide) (fun _ => rfl) hs hr (j := 7) rfl (by omega))
        rfl
        (try refine wx_nil ?_)
        refine wq_held (by (first | exact fun _ h => h | exact fun _ h => res_takes h)) ?_
        refine wh_eff 15 rfl (by decide +kernel) ?_
        refine wl_lit rfl rfl rfl rfl rfl (by decide) rfl (fun g99 => ?_)
        (try refine wx_nil ?_)
        refine wq_held (by (first | exact fun _ h => h | exact fun _ h => res_takes h)) ?_
        refine wh_eff 16 rfl (by decide +kernel) ?_
        refine wl_app1T (news := o.cells) rfl hb1 rfl rfl rfl rfl (by omega) rfl (fun A2 c2 F2 hb2 => ?_)
        (try refine wx_nil ?_)
        refine wq_held (by (first | exact fun _ h => h | exact fun _ h => res_takes h)) ?_
        (apply wh_takeX 17; (first | exact fun _ h => res_takes h); exact hQd; rfl; rfl; (first | exact v_iaddrE (by assumption) rfl rfl rfl (by omega)); decide +kernel; decide +kernel; decide +kernel; rfl)
        (apply wh_takeX 18; (first | exact fun _ h => h | exact fun _ h => res_takes h); exact hQd; rfl; rfl; exact v_faddr rfl rfl; decide +kernel; decide +kernel; decide +kernel; rfl)
        (apply wh_takeX 19; (first | exact fun _ h => h | exact fun _ h => res_takes h); exact hQd; rfl; rfl; exact v_faddr rfl rfl; decide +kernel; decide +kernel; decide +kernel; rfl)
        refine wh_eff 20 rfl (by decide +kernel) ?_
        refine wl_setFT i 7 (f := RunW.cells) (k := 10) r (r.ops1 ⟨A2, c2, r.t.ops.xs ++ [o]⟩) (fun _ => rfl) (by decide) hA hr2.sp rfl rfl (by rw [Int.toNat_natCast]; omega) hs rfl rfl rfl (by simp [RunW.cells, RunW.ops1]) (fun E3 hb3 => ?_)
        (try refine wx_nil ?_)
        refine wq_held (by (first | exact fun _ h => h | exact fun _ h => res_takes h)) ?_
        refine wh_done (by decide +kernel) ?_
        refine wq_cutK (A2, c2, F2, E3) ⟨bufP_snoc hb2, hb3⟩ (by repeat (first | exact trivial | refine ⟨rfl, ?_⟩)) rfl
      · refine wl_lit rfl rfl rfl rfl rfl (by decide) rfl (fun g99 => ?_)
        (try refine wx_nil ?_)
        refine wq_held (by (first | exact fun _ h => h | exact fun _ h => res_takes h)) ?_
        refine wh_eff 13 rfl (by decide +kernel) ?_
        skip
        (try refine wx_ungd rfl rfl ?_)
        apply wx_val
        exact v_load rfl rfl rfl (fun w' hr => hr2.sp.elemT (i := i) hA (by decide) (fun _ => rfl) hs hr (j := 7) rfl (by omega))
        rfl
        (try refine wx_nil ?_)
        refine wq_held (by (first | exact fun _ h => h | exact fun _ h => res_takes h)) ?_
        refine wh_eff 16 rfl (by decide +kernel) ?_
        refine wl_app1T (news := o.cells) rfl hb1 rfl rfl rfl rfl (by omega) rfl (fun A2 c2 F2 hb2 => ?_)
        (try refine wx_nil ?_)
        refine wq_held (by (first | exact fun _ h => h | exact fun _ h => res_takes h)) ?_
        (apply wh_takeX 17; (first | exact fun _ h => res_takes h); exact hQd; rfl; rfl; (first | exact v_iaddrE (by assumption) rfl rfl rfl (by omega)); decide +kernel; decide +kernel; decide +kernel; rfl)
        (apply wh_takeX 18; (first | exact fun _ h => h | exact fun _ h => res_takes h); exact hQd; rfl; rfl; exact v_faddr rfl rfl; decide +kernel; decide +kernel; decide +kernel; rfl)
        (apply wh_takeX 19; (first | exact fun _ h => h | exact fun _ h => res_takes h); exact hQd; rfl; rfl; exact v_faddr rfl rfl; decide +kernel; decide +kernel; decide +kernel; rfl)
        refine wh_eff 20 rfl (by decide +kernel) ?_
        refine wl_setFT i 7 (f := RunW.cells) (k := 10) r (r.ops1 ⟨A2, c2, r.t.ops.xs ++ [o]⟩) (fun _ => rfl) (by decide) hA hr2.sp rfl rfl (by rw [Int.toNat_natCast]; omega) hs rfl rfl rfl (by simp [RunW.cells, RunW.ops1]) (fun E3 hb3 => ?_)
        (try refine wx_nil ?_)
        refine wq_held (by (first | exact fun _ h => h | exact fun _ h => res_takes h)) ?_
        refine wh_done (by decide +kernel) ?_
        refine wq_cutK (A2, c2, F2, E3) ⟨bufP_snoc hb2, hb3⟩ (by repeat (first | exact trivial | refine ⟨rfl, ?_⟩)) rfl
    rintro ⟨A2, c2, F2, E3⟩ ⟨hb2, hb3⟩
    dsimp only at hb2 hb3 ⊢
    refine wc_fcat ?_
    refine wc_cat ?_
    refine wc_part [] E2 S2 (S := E2 ++ S2) (by simp) ?_
    have hg : ∀ (x : RunW), (L.set i x)[i]? = some x := fun x => List.getElem?_set_self hil
    have hss : ∀ (x z : RunW), (L.set i x).set i z = L.set i z := fun x z => List.set_set ..
    have hn : ∀ (x : RunW), L.length = (L.set i x).length := fun x => by simp
    iterate 1 (first | refine wc_seq ?_)
    refine wc_meetK (ι := Option Addr × Nat × Seg × Seg) [0, 3, 10, 15] (fun _ => []) (fun z => [z.2.2.1, z.2.2.2]) (M1 := [E2, E3]) (fun z => BufN ⟨z.1, z.2.1, r.at_.xs ++ [y2.clock]⟩ z.2.2.1 ∧ Buf 108 10 y2.A L.length y2.c ((L.set i ((r.ops1 ⟨A2, c2, r.t.ops.xs ++ [o]⟩).at1 ⟨z.1, z.2.1, r.at_.xs ++ [y2.clock]⟩)).flatMap RunW.cells) z.2.2.2) rfl ?_ ?_
    · refine wc_cat ?_
      refine wc_heldX [] [mcB g y2 L.length] rfl (by (repeat (first | exact panicNot_D3 rfl | with_reducible exact panicNot_of panicOk_body | with_reducible apply panicNot_block | with_reducible apply panicNot_then))) (fun hQd => ?_)
      (apply wh_takeX 0; (first | exact fun _ h => h | exact fun _ h => res_takes h); exact hQd; rfl; rfl; exact v_move rfl; decide +kernel; decide +kernel; decide +kernel; rfl)
      (apply wh_takeX 1; (first | exact fun _ h => h | exact fun _ h => res_takes h); exact hQd; rfl; rfl; exact v_nil rfl; decide +kernel; decide +kernel; decide +kernel; rfl)
      (apply wh_takeX 2; (first | exact fun _ h => h | exact fun _ h => res_takes h); exact hQd; rfl; rfl; exact v_faddr rfl rfl; decide +kernel; decide +kernel; decide +kernel; rfl)
      (apply wh_takeX 3; (first | exact fun _ h => res_takes h); exact hQd; rfl; rfl; (first | exact v_ldT rfl rfl rfl (by rfl)); decide +kernel; decide +kernel; decide +kernel; rfl)
      (apply wh_takeX 4; (first | exact fun _ h => h | exact fun _ h => res_takes h); exact hQd; rfl; rfl; exact v_move rfl; decide +kernel; decide +kernel; decide +kernel; rfl)
      (apply wh_takeX 5; (first | exact fun _ h => h | exact fun _ h => res_takes h); exact hQd; rfl; rfl; exact v_move rfl; decide +kernel; decide +kernel; decide +kernel; rfl)
      (apply wh_takeX 6; (first | exact fun _ h => h | exact fun _ h => res_takes h); exact hQd; rfl; rfl; exact v_nil rfl; decide +kernel; decide +kernel; decide +kernel; rfl)
      (apply wh_takeX 7; (first | exact fun _ h => h | exact fun _ h => res_takes h); exact hQd; rfl; rfl; exact v_faddr rfl rfl; decide +kernel; decide +kernel; decide +kernel; rfl)
      (apply wh_takeX 8; (first | exact fun _ h => res_takes h); exact hQd; rfl; rfl; (first | exact v_ldT rfl rfl rfl (by rfl)); decide +kernel; decide +kernel; decide +kernel; rfl)
      (apply wh_takeX 9; (first | exact fun _ h => h | exact fun _ h => res_takes h); exact hQd; rfl; rfl; exact v_move rfl; decide +kernel; decide +kernel; decide +kernel; rfl)
      (apply wh_takeX 10; (first | exact fun _ h => res_takes h); exact hQd; rfl; rfl; (first | exact v_iaddrE (by assumption) rfl rfl rfl (by omega)); decide +kernel; decide +kernel; decide +kernel; rfl)
      (apply wh_takeX 11; (first | exact fun _ h => h | exact fun _ h => res_takes h); exact hQd; rfl; rfl; exact v_faddr rfl rfl; decide +kernel; decide +kernel; decide +kernel; rfl)
      (apply wh_takeX 13; (first | exact fun _ h => h | exact fun _ h => res_takes h); exact hQd; rfl; rfl; exact v_move rfl; decide +kernel; decide +kernel; decide +kernel; rfl)
      (apply wh_takeX 14; (first | exact fun _ h => h | exact fun _ h => res_takes h); exact hQd; rfl; rfl; exact v_nil rfl; decide +kernel; decide +kernel; decide +kernel; rfl)
      (apply wh_takeX 15; (first | exact fun _ h => h | exact fun _ h => res_takes h); exact hQd; rfl; rfl; exact v_faddr rfl rfl; decide +kernel; decide +kernel; decide +kernel; rfl)
      (apply wh_takeX 16; (first | exact fun _ h => res_takes h); exact hQd; rfl; rfl; (first | exact v_ldT rfl rfl rfl (by rfl)); decide +kernel; decide +kernel; decide +kernel; rfl)
      refine wh_eff2 12 17 rfl rfl (by decide +kernel) ?_ ?_
      · skip
        (try refine wx_ungd rfl rfl ?_)
        apply wx_val
        exact v_load rfl rfl rfl (fun w' hr => hb3.elemT (i := i) hA (by decide) (fun _ => rfl) (hg _) hr (j := 9) rfl (by omega))
        rfl
        (try refine wx_nil ?_)
        refine wq_held (by (first | exact fun _ h => h | exact fun _ h => res_takes h)) ?_
        refine wh_eff 17 rfl (by decide +kernel) ?_
        refine wl_lit rfl rfl rfl rfl rfl (by decide) rfl (fun g99 => ?_)
        (try refine wx_nil ?_)
        refine wq_held (by (first | exact fun _ h => h | exact fun _ h => res_takes h)) ?_
        refine wh_eff 18 rfl (by decide +kernel) ?_
        refine wl_app1T (news := intC y2.clock) rfl hc1 rfl rfl rfl rfl (by omega) rfl (fun A4 c4 F4 hb4 => ?_)
        (try refine wx_nil ?_)
        refine wq_held (by (first | exact fun _ h => h | exact fun _ h => res_takes h)) ?_
        (apply wh_takeX 19; (first | exact fun _ h => res_takes h); exact hQd; rfl; rfl; (first | exact v_iaddrE (by assumption) rfl rfl rfl (by omega)); decide +kernel; decide +kernel; decide +kernel; rfl)
        (apply wh_takeX 20; (first | exact fun _ h => h | exact fun _ h => res_takes h); exact hQd; rfl; rfl; exact v_faddr rfl rfl; decide +kernel; decide +kernel; decide +kernel; rfl)
        refine wh_eff 21 rfl (by decide +kernel) ?_
        refine wl_setFT i 9 (f := RunW.cells) (k := 10) (r.ops1 ⟨A2, c2, r.t.ops.xs ++ [o]⟩) ((r.ops1 ⟨A2, c2, r.t.ops.xs ++ [o]⟩).at1 ⟨A4, c4, r.at_.xs ++ [y2.clock]⟩) (fun _ => rfl) (by decide) hA hb3 rfl rfl (by rw [Int.toNat_natCast]; omega) (hg _) (hn _) rfl rfl (by simp [RunW.cells, RunW.at1]) (fun E5 hb5 => ?_)
        (try refine wx_nil ?_)
        refine wq_held (by (first | exact fun _ h => h | exact fun _ h => res_takes h)) ?_
        refine wh_done (by decide +kernel) ?_
        rw [hss] at hb5
        refine wq_cutK (A4, c4, F4, E5) ⟨bufN_snoc hb4, hb5⟩ (by repeat (first | exact trivial | refine ⟨rfl, ?_⟩)) rfl
      · refine wl_lit rfl rfl rfl rfl rfl (by decide) rfl (fun g99 => ?_)
        (try refine wx_nil ?_)
        refine wq_held (by (first | exact fun _ h => h | exact fun _ h => res_takes h)) ?_
        refine wh_eff 12 rfl (by decide +kernel) ?_
        skip
        (try refine wx_ungd rfl rfl ?_)
        apply wx_val
        exact v_load rfl rfl rfl (fun w' hr => hb3.elemT (i := i) hA (by decide) (fun _ => rfl) (hg _) hr (j := 9) rfl (by omega))
        rfl
        (try refine wx_nil ?_)
        refine wq_held (by (first | exact fun _ h => h | exact fun _ h => res_takes h)) ?_
        refine wh_eff 18 rfl (by decide +kernel) ?_
        refine wl_app1T (news := intC y2.clock) rfl hc1 rfl rfl rfl rfl (by omega) rfl (fun A4 c4 F4 hb4 => ?_)
        (try refine wx_nil ?_)
        refine wq_held (by (first | exact fun _ h => h | exact fun _ h => res_takes h)) ?_
        (apply wh_takeX 19; (first | exact fun _ h => res_takes h); exact hQd; rfl; rfl; (first | exact v_iaddrE (by assumption) rfl rfl rfl (by omega)); decide +kernel; decide +kernel; decide +kernel; rfl)
        (apply wh_takeX 20; (first | exact fun _ h => h | exact fun _ h => res_takes h); exact hQd; rfl; rfl; exact v_faddr rfl rfl; decide +kernel; decide +kernel; decide +kernel; rfl)
        refine wh_eff 21 rfl (by decide +kernel) ?_
        refine wl_setFT i 9 (f := RunW.cells) (k := 10) (r.ops1 ⟨A2, c2, r.t.ops.xs ++ [o]⟩) ((r.ops1 ⟨A2, c2, r.t.ops.xs ++ [o]⟩).at1 ⟨A4, c4, r.at_.xs ++ [y2.clock]⟩) (fun _ => rfl) (by decide) hA hb3 rfl rfl (by rw [Int.toNat_natCast]; omega) (hg _) (hn _) rfl rfl (by simp [RunW.cells, RunW.at1]) (fun E5 hb5 => ?_)
        (try refine wx_nil ?_)
        refine wq_held (by (first | exact fun _ h => h | exact fun _ h => res_takes h)) ?_
        refine wh_done (by decide +kernel) ?_
        rw [hss] at hb5
        refine wq_cutK (A4, c4, F4, E5) ⟨bufN_snoc hb4, hb5⟩ (by repeat (first | exact trivial | refine ⟨rfl, ?_⟩)) rfl
    rintro ⟨A4, c4, F4, E5⟩ ⟨hb4, hb5⟩
    dsimp only at hb4 hb5 ⊢
    refine wc_fcat ?_
    refine wc_cat ?_
    obtain ⟨nr, hnr⟩ : ∃ nr, nr = (r.ops1 ⟨A2, c2, r.t.ops.xs ++ [o]⟩).at1 ⟨A4, c4, r.at_.xs ++ [y2.clock]⟩ := ⟨_, rfl⟩
    rw [← hnr] at hb5
    have hfin : MOk ses ⟨y2, L.set i nr, E5, S1 ++ (F2 ++ F4) ++ S2, Z, Ee⟩ := by
      refine ⟨⟨?_, HangR.grow hs hh1 hh2 (by rw [hnr]; exact hb2) (by rw [hnr]; exact hb4), fun x hx => ?_⟩, he2, hne2, hse2, ?_⟩
      · dsimp only
        rw [List.length_set]
        exact hb5
      · rcases List.mem_or_eq_of_mem_set hx with hx | rfl
        · exact hr2.small x hx
        · rw [hnr]
          refine ⟨?_, ?_, fun q hq => ?_⟩
          · show (r.t.ops.xs ++ [o]).length ≤ 16
            rw [List.length_append]
            simp only [List.length_singleton]
            omega
          · show (r.at_.xs ++ [y2.clock]).length = (r.t.ops.xs ++ [o]).length
            rw [List.length_append, List.length_append, h16.2.1]
            rfl
          · rcases List.mem_append.1 (show q ∈ r.t.ops.xs ++ [o] from hq) with hq | hq
            · exact h16.2.2 q hq
            · rw [List.mem_singleton.1 hq]; exact hor
      · dsimp only
        refine hi.turn (by omega) (by omega) hs r1 (by rw [hnr]; rfl) (by rw [hnr]; rfl) (by rw [hnr]; rfl) ?_ hi.znd (fun z hz => .inl hz)
        obtain ⟨e1, e2, e3⟩ := hrk.up (show y.clock ≤ y2.clock by omega)
        rw [hnr]
        exact ⟨e1, e2, e3⟩
    refine wc_only [mcB g y2 L.length, E5, S1, F2, F4, S2, Ee, opB g15 o, opM g3 ⟨3, se, gp, key, value⟩] ?_
    refine wc_flat (N := [mcB g y2 (L.set i nr).length, E5, S1 ++ (F2 ++ F4) ++ S2, Ee, opB g15 o, opM g3 ⟨3, se, gp, key, value⟩]) (by
      rw [List.length_set]
      simp only [List.flatten_cons, List.append_assoc]
      exact List.Perm.refl _) ?_
    repeat (first | (apply wx_val; (first | exact v_assign rfl | exact v_faddr rfl rfl | exact v_ldT rfl rfl rfl (by rfl) | exact v_eq rfl rfl); rfl) | refine wc_seq ?_ | refine wc_region ?_ | refine wx_nil ?_ | refine wq_next ?_ | refine wc_ret ?_ | refine wc_skip ?_ | refine wc_condF rfl ?_)
    exact wq_ret4T (⟨(false, ByteArray.mk #[], 0, 0), ⟨y2, L.set i nr, E5, S1 ++ (F2 ++ F4) ++ S2, Z, Ee⟩⟩ : DoR) rfl rfl rfl rfl rfl rfl hfin rfl
  have k4 : kd = 4 := by omega
  subst k4
  repeat (first | (apply wx_val; (first | exact v_assign rfl | exact v_faddr rfl rfl | exact v_ldT rfl rfl rfl (by rfl) | exact v_eq rfl rfl | exact v_ge rfl rfl | exact v_sub rfl rfl); rfl) | refine wc_seq ?_ | refine wc_region ?_ | refine wx_nil ?_ | refine wq_next ?_ | refine wc_skip ?_ | refine wc_condF rfl ?_)
  (try refine wx_ungd rfl rfl ?_)
  apply wx_val
  exact v_build (cs := ((OpW.mk 3 key false (ByteArray.mk #[])).cells).toArray) rfl (by kernel_rfl)
  rfl
  refine wl_alloc rfl rfl (fun g15 => ?_)
  repeat (first | (apply wx_val; (first | exact v_faddr rfl rfl | exact v_ldT rfl rfl rfl (by rfl) | exact v_eq rfl rfl); rfl) | refine wc_seq ?_ | refine wc_region ?_ | refine wx_nil ?_ | refine wq_next ?_ | refine wc_skip ?_ | refine wx_setn ?_ | refine wc_condF rfl ?_ | refine wl_stAT rfl rfl (by rfl) (by rfl) (by exact .inl (Nat.le_refl _)) rfl ?_)
  obtain ⟨o, ho⟩ : ∃ o : OpW, o = (OpW.mk 3 key false (ByteArray.mk #[])) := ⟨_, rfl⟩
  have hor : o.Right := by rw [ho]; exact (right3 hky)
  refine wc_blk g15 o.cells (by first | (rw [ho]; done) | (rw [ho]; rfl)) ?_
  refine wc_setn ?_
  refine wc_part S1 E1 (E2 ++ S2) (S := S) (by rw [eS]; simp) ?_
  refine wc_meetK (ι := Option Addr × Nat × Seg × Seg) [0, 3, 10, 15] (fun _ => []) (fun z => [z.2.2.1, z.2.2.2]) (M1 := [E1, E]) (fun z => BufP ⟨z.1, z.2.1, r.t.ops.xs ++ [o]⟩ z.2.2.1 ∧ Buf 108 10 y2.A L.length y2.c ((L.set i (r.ops1 ⟨z.1, z.2.1, r.t.ops.xs ++ [o]⟩)).flatMap RunW.cells) z.2.2.2) rfl ?_ ?_
  · refine wc_cat ?_
    refine wc_heldX [] [mcB g y2 L.length, opB g15 o] rfl (by (repeat (first | exact panicNot_D3 rfl | with_reducible exact panicNot_of panicOk_body | with_reducible apply panicNot_block | with_reducible apply panicNot_then))) (fun hQd => ?_)
    (apply wh_takeX 0; (first | exact fun _ h => h | exact fun _ h => res_takes h); exact hQd; rfl; rfl; exact v_move rfl; decide +kernel; decide +kernel; decide +kernel; rfl)
    (apply wh_takeX 1; (first | exact fun _ h => h | exact fun _ h => res_takes h); exact hQd; rfl; rfl; exact v_nil rfl; decide +kernel; decide +kernel; decide +kernel; rfl)
    (apply wh_takeX 2; (first | exact fun _ h => h | exact fun _ h => res_takes h); exact hQd; rfl; rfl; exact v_faddr rfl rfl; decide +kernel; decide +kernel; decide +kernel; rfl)
    (apply wh_takeX 3; (first | exact fun _ h => res_takes h); exact hQd; rfl; rfl; (first | exact v_ldT rfl rfl rfl (by rfl)); decide +kernel; decide +kernel; decide +kernel; rfl)
    (apply wh_takeX 4; (first | exact fun _ h => h | exact fun _ h => res_takes h); exact hQd; rfl; rfl; exact v_move rfl; decide +kernel; decide +kernel; decide +kernel; rfl)
    (apply wh_takeX 5; (first | exact fun _ h => h | exact fun _ h => res_takes h); exact hQd; rfl; rfl; exact v_move rfl; decide +kernel; decide +kernel; decide +kernel; rfl)
    (apply wh_takeX 6; (first | exact fun _ h => h | exact fun _ h => res_takes h); exact hQd; rfl; rfl; exact v_nil rfl; decide +kernel; decide +kernel; decide +kernel; rfl)
    (apply wh_takeX 7; (first | exact fun _ h => h | exact fun _ h => res_takes h); exact hQd; rfl; rfl; exact v_faddr rfl rfl; decide +kernel; decide +kernel; decide +kernel; rfl)
    (apply wh_takeX 8; (first | exact fun _ h => res_takes h); exact hQd; rfl; rfl; (first | exact v_ldT rfl rfl rfl (by rfl)); decide +kernel; decide +kernel; decide +kernel; rfl)
    (apply wh_takeX 9; (first | exact fun _ h => h | exact fun _ h => res_takes h); exact hQd; rfl; rfl; exact v_move rfl; decide +kernel; decide +kernel; decide +kernel; rfl)
    (apply wh_takeX 10; (first | exact fun _ h => res_takes h); exact hQd; rfl; rfl; (first | exact v_iaddrE (by assumption) rfl rfl rfl (by omega)); decide +kernel; decide +kernel; decide +kernel; rfl)
    (apply wh_takeX 11; (first | exact fun _ h => h | exact fun _ h => res_takes h); exact hQd; rfl; rfl; exact v_faddr rfl rfl; decide +kernel; decide +kernel; decide +kernel; rfl)
    (apply wh_takeX 12; (first | exact fun _ h => h | exact fun _ h => res_takes h); exact hQd; rfl; rfl; exact v_faddr rfl rfl; decide +kernel; decide +kernel; decide +kernel; rfl)
    (apply wh_takeX 14; (first | exact fun _ h => res_takes h); exact hQd; rfl; rfl; (first | exact v_ldAT rfl (by rfl)); decide +kernel; decide +kernel; decide +kernel; rfl)
    refine wh_eff2 13 15 rfl rfl (by decide +kernel) ?_ ?_
    · skip
      (try refine wx_ungd rfl rfl ?_)
      apply wx_val
      exact v_load rfl rfl rfl (fun w' hr => hr2.sp.elemT (i := i) hA (by decide) (fun _ => rfl) hs hr (j := 7) rfl (by omega))
      rfl
      (try refine wx_nil ?_)
      refine wq_held (by (first | exact fun _ h => h | exact fun _ h => res_takes h)) ?_
      refine wh_eff 15 rfl (by decide +kernel) ?_
      refine wl_lit rfl rfl rfl rfl rfl (by decide) rfl (fun g99 => ?_)
      (try refine wx_nil ?_)
      refine wq_held (by (first | exact fun _ h => h | exact fun _ h => res_takes h)) ?_
      refine wh_eff 16 rfl (by decide +kernel) ?_
      refine wl_app1T (news := o.cells) rfl hb1 rfl rfl rfl rfl (by omega) rfl (fun A2 c2 F2 hb2 => ?_)
      (try refine wx_nil ?_)
      refine wq_held (by (first | exact fun _ h => h | exact fun _ h => res_takes h)) ?_
      (apply wh_takeX 17; (first | exact fun _ h => res_takes h); exact hQd; rfl; rfl; (first | exact v_iaddrE (by assumption) rfl rfl rfl (by omega)); decide +kernel; decide +kernel; decide +kernel; rfl)
      (apply wh_takeX 18; (first | exact fun _ h => h | exact fun _ h => res_takes h); exact hQd; rfl; rfl; exact v_faddr rfl rfl; decide +kernel; decide +kernel; decide +kernel; rfl)
      (apply wh_takeX 19; (first | exact fun _ h => h | exact fun _ h => res_takes h); exact hQd; rfl; rfl; exact v_faddr rfl rfl; decide +kernel; decide +kernel; decide +kernel; rfl)
      refine wh_eff 20 rfl (by decide +kernel) ?_
      refine wl_setFT i 7 (f := RunW.cells) (k := 10) r (r.ops1 ⟨A2, c2, r.t.ops.xs ++ [o]⟩) (fun _ => rfl) (by decide) hA hr2.sp rfl rfl (by rw [Int.toNat_natCast]; omega) hs rfl rfl rfl (by simp [RunW.cells, RunW.ops1]) (fun E3 hb3 => ?_)
      (try refine wx_nil ?_)
      refine wq_held (by (first | exact fun _ h => h | exact fun _ h => res_takes h)) ?_
      refine wh_done (by decide +kernel) ?_
      refine wq_cutK (A2, c2, F2, E3) ⟨bufP_snoc hb2, hb3⟩ (by repeat (first | exact trivial | refine ⟨rfl, ?_⟩)) rfl
    · refine wl_lit rfl rfl rfl rfl rfl (by decide) rfl (fun g99 => ?_)
      (try refine wx_nil ?_)
      refine wq_held (by (first | exact fun _ h => h | exact fun _ h => res_takes h)) ?_
      refine wh_eff 13 rfl (by decide +kernel) ?_
      skip
      (try refine wx_ungd rfl rfl ?_)
      apply wx_val
      exact v_load rfl rfl rfl (fun w' hr => hr2.sp.elemT (i := i) hA (by decide) (fun _ => rfl) hs hr (j := 7) rfl (by omega))
      rfl
      (try refine wx_nil ?_)
      refine wq_held (by (first | exact fun _ h => h | exact fun _ h => res_takes h)) ?_
      refine wh_eff 16 rfl (by decide +kernel) ?_
      refine wl_app1T (news := o.cells) rfl hb1 rfl rfl rfl rfl (by omega) rfl (fun A2 c2 F2 hb2 => ?_)
      (try refine wx_nil ?_)
      refine wq_held (by (first | exact fun _ h => h | exact fun _ h => res_takes h)) ?_
      (apply wh_takeX 17; (first | exact fun _ h => res_takes h); exact hQd; rfl; rfl; (first | exact v_iaddrE (by assumption) rfl rfl rfl (by omega)); decide +kernel; decide +kernel; decide +kernel; rfl)
      (apply wh_takeX 18; (first | exact fun _ h => h | exact fun _ h => res_takes h); exact hQd; rfl; rfl; exact v_faddr rfl rfl; decide +kernel; decide +kernel; decide +kernel; rfl)
      (apply wh_takeX 19; (first | exact fun _ h => h | exact fun _ h => res_takes h); exact hQd; rfl; rfl; exact v_faddr rfl rfl; decide +kernel; decide +kernel; decide +kernel; rfl)
      refine wh_eff 20 rfl (by decide +kernel) ?_
      refine wl_setFT i 7 (f := RunW.cells) (k := 10) r (r.ops1 ⟨A2, c2, r.t.ops.xs ++ [o]⟩) (fun _ => rfl) (by decide) hA hr2.sp rfl rfl (by rw [Int.toNat_natCast]; omega) hs rfl rfl rfl (by simp [RunW.cells, RunW.ops1]) (fun E3 hb3 => ?_)
      (try refine wx_nil ?_)
      refine wq_held (by (first | exact fun _ h => h | exact fun _ h => res_takes h)) ?_
      refine wh_done (by decide +kernel) ?_
      refine wq_cutK (A2, c2, F2, E3) ⟨bufP_snoc hb2, hb3⟩ (by repeat (first | exact trivial | refine ⟨rfl, ?_⟩)) rfl
  rintro ⟨A2, c2, F2, E3⟩ ⟨hb2, hb3⟩
  dsimp only at hb2 hb3 ⊢
  refine wc_fcat ?_
  refine wc_cat ?_
  refine wc_part [] E2 S2 (S := E2 ++ S2) (by simp) ?_
  have hg : ∀ (x : RunW), (L.set i x)[i]? = some x := fun x => List.getElem?_set_self hil
  have hss : ∀ (x z : RunW), (L.set i x).set i z = L.set i z := fun x z => List.set_set ..
  have hn : ∀ (x : RunW), L.length = (L.set i x).length := fun x => by simp
  iterate 1 (first | refine wc_seq ?_)
  refine wc_meetK (ι := Option Addr × Nat × Seg × Seg) [0, 3, 10, 15] (fun _ => []) (fun z => [z.2.2.1, z.2.2.2]) (M1 := [E2, E3]) (fun z => BufN ⟨z.1, z.2.1, r.at_.xs ++ [y2.clock]⟩ z.2.2.1 ∧ Buf 108 10 y2.A L.length y2.c ((L.set i ((r.ops1 ⟨A2, c2, r.t.ops.xs ++ [o]⟩).at1 ⟨z.1, z.2.1, r.at_.xs ++ [y2.clock]⟩)).flatMap RunW.cells) z.2.2.2) rfl ?_ ?_
  · refine wc_cat ?_
    refine wc_heldX [] [mcB g y2 L.length] rfl (by (repeat (first | exact panicNot_D3 rfl | with_reducible exact panicNot_of panicOk_body | with_reducible apply panicNot_block | with_reducible apply panicNot_then))) (fun hQd => ?_)
    (apply wh_takeX 0; (first | exact fun _ h => h | exact fun _ h => res_takes h); exact hQd; rfl; rfl; exact v_move rfl; decide +kernel; decide +kernel; decide +kernel; rfl)
    (apply wh_takeX 1; (first | exact fun _ h => h | exact fun _ h => res_takes h); exact hQd; rfl; rfl; exact v_nil rfl; decide +kernel; decide +kernel; decide +kernel; rfl)
    (apply wh_takeX 2; (first | exact fun _ h => h | exact fun _ h => res_takes h); exact hQd; rfl; rfl; exact v_faddr rfl rfl; decide +kernel; decide +kernel; decide +kernel; rfl)
    (apply wh_takeX 3; (first | exact fun _ h => res_takes h); exact hQd; rfl; rfl; (first | exact v_ldT rfl rfl rfl (by rfl)); decide +kernel; decide +kernel; decide +kernel; rfl)
    (apply wh_takeX 4; (first | exact fun _ h => h | exact fun _ h => res_takes h); exact hQd; rfl; rfl; exact v_move rfl; decide +kernel; decide +kernel; decide +kernel; rfl)
    (apply wh_takeX 5; (first | exact fun _ h => h | exact fun _ h => res_takes h); exact hQd; rfl; rfl; exact v_move rfl; decide +kernel; decide +kernel; decide +kernel; rfl)
    (apply wh_takeX 6; (first | exact fun _ h => h | exact fun _ h => res_takes h); exact hQd; rfl; rfl; exact v_nil rfl; decide +kernel; decide +kernel; decide +kernel; rfl)
    (apply wh_takeX 7; (first | exact fun _ h => h | exact fun _ h => res_takes h); exact hQd; rfl; rfl; exact v_faddr rfl rfl; decide +kernel; decide +kernel; decide +kernel; rfl)
    (apply wh_takeX 8; (first | exact fun _ h => res_takes h); exact hQd; rfl; rfl; (first | exact v_ldT rfl rfl rfl (by rfl)); decide +kernel; decide +kernel; decide +kernel; rfl)
    (apply wh_takeX 9; (first | exact fun _ h => h | exact fun _ h => res_takes h); exact hQd; rfl; rfl; exact v_move rfl; decide +kernel; decide +kernel; decide +kernel; rfl)
    (apply wh_takeX 10; (first | exact fun _ h => res_takes h); exact hQd; rfl; rfl; (first | exact v_iaddrE (by assumption) rfl rfl rfl (by omega)); decide +kernel; decide +kernel; decide +kernel; rfl)
    (apply wh_takeX 11; (first | exact fun _ h => h | exact fun _ h => res_takes h); exact hQd; rfl; rfl; exact v_faddr rfl rfl; decide +kernel; decide +kernel; decide +kernel; rfl)
    (apply wh_takeX 13; (first | exact fun _ h => h | exact fun _ h => res_takes h); exact hQd; rfl; rfl; exact v_move rfl; decide +kernel; decide +kernel; decide +kernel; rfl)
    (apply wh_takeX 14; (first | exact fun _ h => h | exact fun _ h => res_takes h); exact hQd; rfl; rfl; exact v_nil rfl; decide +kernel; decide +kernel; decide +kernel; rfl)
    (apply wh_takeX 15; (first | exact fun _ h => h | exact fun _ h => res_takes h); exact hQd; rfl; rfl; exact v_faddr rfl rfl; decide +kernel; decide +kernel; decide +kernel; rfl)
    (apply wh_takeX 16; (first | exact fun _ h => res_takes h); exact hQd; rfl; rfl; (first | exact v_ldT rfl rfl rfl (by rfl)); decide +kernel; decide +kernel; decide +kernel; rfl)
    refine wh_eff2 12 17 rfl rfl (by decide +kernel) ?_ ?_
    · skip
      (try refine wx_ungd rfl rfl ?_)
      apply wx_val
      exact v_load rfl rfl rfl (fun w' hr => hb3.elemT (i := i) hA (by decide) (fun _ => rfl) (hg _) hr (j := 9) rfl (by omega))
      rfl
      (try refine wx_nil ?_)
      refine wq_held (by (first | exact fun _ h => h | exact fun _ h => res_takes h)) ?_
      refine wh_eff 17 rfl (by decide +kernel) ?_
      refine wl_lit rfl rfl rfl rfl rfl (by decide) rfl (fun g99 => ?_)
      (try refine wx_nil ?_)
      refine wq_held (by (first | exact fun _ h => h | exact fun _ h => res_takes h)) ?_
      refine wh_eff 18 rfl (by decide +kernel) ?_
      refine wl_app1T (news := intC y2.clock) rfl hc1 rfl rfl rfl rfl (by omega) rfl (fun A4 c4 F4 hb4 => ?_)
      (try refine wx_nil ?_)
      refine wq_held (by (first | exact fun _ h => h | exact fun _ h => res_takes h)) ?_
      (apply wh_takeX 19; (first | exact fun _ h => res_takes h); exact hQd; rfl; rfl; (first | exact v_iaddrE (by assumption) rfl rfl rfl (by omega)); decide +kernel; decide +kernel; decide +kernel; rfl)
      (apply wh_takeX 20; (first | exact fun _ h => h | exact fun _ h => res_takes h); exact hQd; rfl; rfl; exact v_faddr rfl rfl; decide +kernel; decide +kernel; decide +kernel; rfl)
      refine wh_eff 21 rfl (by decide +kernel) ?_
      refine wl_setFT i 9 (f := RunW.cells) (k := 10) (r.ops1 ⟨A2, c2, r.t.ops.xs ++ [o]⟩) ((r.ops1 ⟨A2, c2, r.t.ops.xs ++ [o]⟩).at1 ⟨A4, c4, r.at_.xs ++ [y2.clock]⟩) (fun _ => rfl) (by decide) hA hb3 rfl rfl (by rw [Int.toNat_natCast]; omega) (hg _) (hn _) rfl rfl (by simp [RunW.cells, RunW.at1]) (fun E5 hb5 => ?_)
      (try refine wx_nil ?_)
      refine wq_held (by (first | exact fun _ h => h | exact fun _ h => res_takes h)) ?_
      refine wh_done (by decide +kernel) ?_
      rw [hss] at hb5
      refine wq_cutK (A4, c4, F4, E5) ⟨bufN_snoc hb4, hb5⟩ (by repeat (first | exact trivial | refine ⟨rfl, ?_⟩)) rfl
    · refine wl_lit rfl rfl rfl rfl rfl (by decide) rfl (fun g99 => ?_)
      (try refine wx_nil ?_)
      refine wq_held (by (first | exact fun _ h => h | exact fun _ h => res_takes h)) ?_
      refine wh_eff 12 rfl (by decide +kernel) ?_
      skip
      (try refine wx_ungd rfl rfl ?_)
      apply wx_val
      exact v_load rfl rfl rfl (fun w' hr => hb3.elemT (i := i) hA (by decide) (fun _ => rfl) (hg _) hr (j := 9) rfl (by omega))
      rfl
      (try refine wx_nil ?_)
      refine wq_held (by (first | exact fun _ h => h | exact fun _ h => res_takes h)) ?_
      refine wh_eff 18 rfl (by decide +kernel) ?_
      refine wl_app1T (news := intC y2.clock) rfl hc1 rfl rfl rfl rfl (by omega) rfl (fun A4 c4 F4 hb4 => ?_)
      (try refine wx_nil ?_)
      refine wq_held (by (first | exact fun _ h => h | exact fun _ h => res_takes h)) ?_
      (apply wh_takeX 19; (first | exact fun _ h => res_takes h); exact hQd; rfl; rfl; (first | exact v_iaddrE (by assumption) rfl rfl rfl (by omega)); decide +kernel; decide +kernel; decide +kernel; rfl)
      (apply wh_takeX 20; (first | exact fun _ h => h | exact fun _ h => res_takes h); exact hQd; rfl; rfl; exact v_faddr rfl rfl; decide +kernel; decide +kernel; decide +kernel; rfl)
      refine wh_eff 21 rfl (by decide +kernel) ?_
      refine wl_setFT i 9 (f := RunW.cells) (k := 10) (r.ops1 ⟨A2, c2, r.t.ops.xs ++ [o]⟩) ((r.ops1 ⟨A2, c2, r.t.ops.xs ++ [o]⟩).at1 ⟨A4, c4, r.at_.xs ++ [y2.clock]⟩) (fun _ => rfl) (by decide) hA hb3 rfl rfl (by rw [Int.toNat_natCast]; omega) (hg _) (hn _) rfl rfl (by simp [RunW.cells, RunW.at1]) (fun E5 hb5 => ?_)
      (try refine wx_nil ?_)
      refine wq_held (by (first | exact fun _ h => h | exact fun _ h => res_takes h)) ?_
      refine wh_done (by decide +kernel) ?_
      rw [hss] at hb5
      refine wq_cutK (A4, c4, F4, E5) ⟨bufN_snoc hb4, hb5⟩ (by repeat (first | exact trivial | refine ⟨rfl, ?_⟩)) rfl
  rintro ⟨A4, c4, F4, E5⟩ ⟨hb4, hb5⟩
  dsimp only at hb4 hb5 ⊢
  refine wc_fcat ?_
  refine wc_cat ?_
  obtain ⟨nr, hnr⟩ : ∃ nr, nr = (r.ops1 ⟨A2, c2, r.t.ops.xs ++ [o]⟩).at1 ⟨A4, c4, r.at_.xs ++ [y2.clock]⟩ := ⟨_, rfl⟩
  rw [← hnr] at hb5
  have hfin : MOk ses ⟨y2, L.set i nr, E5, S1 ++ (F2 ++ F4) ++ S2, Z, Ee⟩ := by
    refine ⟨⟨?_, HangR.grow hs hh1 hh2 (by rw [hnr]; exact hb2) (by rw [hnr]; exact hb4), fun x hx => ?_⟩, he2, hne2, hse2, ?_⟩
    · dsimp only
      rw [List.length_set]
      exact hb5
    · rcases List.mem_or_eq_of_mem_set hx with hx | rfl
      · exact hr2.small x hx
      · rw [hnr]
        refine ⟨?_, ?_, fun q hq => ?_⟩
        · show (r.t.ops.xs ++ [o]).length ≤ 16
          rw [List.length_append]
          simp only [List.length_singleton]
          omega
        · show (r.at_.xs ++ [y2.clock]).length = (r.t.ops.xs ++ [o]).length
          rw [List.length_append, List.length_append, h16.2.1]
          rfl
        · rcases List.mem_append.1 (show q ∈ r.t.ops.xs ++ [o] from hq) with hq | hq
          · exact h16.2.2 q hq
          · rw [List.mem_singleton.1 hq]; exact hor
    · dsimp only
      refine hi.turn (by omega) (by omega) hs r1 (by rw [hnr]; rfl) (by rw [hnr]; rfl) (by rw [hnr]; rfl) ?_ hi.znd (fun z hz => .inl hz)
      obtain ⟨e1, e2, e3⟩ := hrk.up (show y.clock ≤ y2.clock by omega)
      rw [hnr]
      exact ⟨e1, e2, e3⟩
  refine wc_only [mcB g y2 L.length, E5, S1, F2, F4, S2, Ee, opB g15 o, opM g3 ⟨4, se, gp, key, value⟩] ?_
  refine wc_flat (N := [mcB g y2 (L.set i nr).length, E5, S1 ++ (F2 ++ F4) ++ S2, Ee, opB g15 o, opM g3 ⟨4, se, gp, key, value⟩]) (by
    rw [List.length_set]
    simp only [List.flatten_cons, List.append_assoc]
    exact List.Perm.refl _) ?_
  repeat (first | (apply wx_val; (first | exact v_assign rfl | exact v_faddr rfl rfl | exact v_ldT rfl rfl rfl (by rfl) | exact v_eq rfl rfl); rfl) | refine wc_seq ?_ | refine wc_region ?_ | refine wx_nil ?_ | refine wq_next ?_ | refine wc_ret ?_ | refine wc_skip ?_ | refine wc_condF rfl ?_)
  exact wq_ret4T (⟨(false, ByteArray.mk #[], 0, 0), ⟨y2, L.set i nr, E5, S1 ++ (F2 ++ F4) ++ S2, Z, Ee⟩⟩ : DoR) rfl rfl rfl rfl rfl rfl hfin rfl
end mc
end Go.Proofs.Ytgidabcmbngcbaa
