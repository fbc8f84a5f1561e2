/- The document's machine: Do, Log, Emit. -/
import Derived.Test.YtgidabcmbngcbaaMac8
set_option linter.unusedVariables false
set_option linter.unusedSimpArgs false
namespace Go.Proofs.Ytgidabcmbngcbaa
open Go
set_option maxRecDepth 20000
set_option maxHeartbeats 4000000
attribute [local irreducible] WX WC WQ Val VCall
section mc
variable {g : Nat} {ses : Int}
/-- a step of no kind -/
theorem Do_none (o : StepM) (k : o.kind < 1) (st : MSt) (h : MOk ses st) (w : World) (ho : Own w (st.segs g)) :
    Calls Try.prog 38 #[.pointer (some ⟨g, 0, none⟩), .agg o.cells.toArray] w (DoPost g ses st w) := by
  refine go [.pointer (some ⟨g, 0, none⟩), .agg o.cells.toArray] (st.segs g) Try.func38 Try.ntmps38 rfl rfl ho ?_
  obtain ⟨y, L, E, S, Z, Ee⟩ := st
  obtain ⟨hr, he, hne, hse, hi⟩ := h
  dsimp only at hr he hne hse hi ⊢
  have hlen := hi.len
  have hclk := hi.clk
  repeat (first | refine wc_seq ?_ | refine wc_region ?_)
  refine wl_boxA rfl rfl (fun g3 => ?_)
  repeat (first | (apply wx_val; (first | exact v_move rfl | exact v_assign rfl | exact v_ldAT rfl (by rfl)); rfl) | refine wc_seq ?_ | refine wc_region ?_ | refine wx_nil ?_ | refine wq_next ?_)
  refine wl_callT (fun w' hr' ho => refuse_spec o hlen hr hclk w' ho) rfl rfl rfl ?_
  rintro e hre
  refine wx_cat ?_
  repeat (first | (apply wx_val; (first | exact v_move rfl | exact v_assign rfl | exact v_ne rfl rfl); rfl) | refine wc_seq ?_ | refine wc_region ?_ | refine wx_nil ?_ | refine wq_next ?_)
  refine wc_if rfl (fun he0 => ?_) (fun he0 => ?_)
  · skip
    repeat (first | (apply wx_val; (first | exact v_move rfl | exact v_assign rfl); rfl) | refine wc_seq ?_ | refine wc_region ?_ | refine wx_nil ?_ | refine wq_next ?_ | refine wc_ret ?_ | refine wq_then_ret ?_)
    exact wq_ret4T (⟨(false, ByteArray.mk #[], 0, e), ⟨y, L, E, S, Z, Ee⟩⟩ : DoR) rfl rfl rfl rfl rfl rfl ⟨hr, he, hne, hse, hi⟩ rfl
  have hok := hre (by omega)
  clear hre he0
  obtain ⟨q1, q2, q3, q4, q5, q6, q7, q8⟩ := hok
  repeat (first | (apply wx_val; (first | exact v_move rfl | exact v_assign rfl | exact v_nil rfl | exact v_faddr rfl rfl | exact v_ldT rfl rfl rfl (by rfl)); rfl) | refine wc_seq ?_ | refine wc_region ?_ | refine wx_nil ?_ | refine wq_next ?_ | refine wc_skip ?_)
  refine wc_heldX [] [opM g3 o] rfl (by (repeat (first | exact panicNot_D3 rfl | with_reducible exact panicNot_of panicOk_body | with_reducible apply panicNot_block | with_reducible apply panicNot_then))) (fun hQd => ?_)
  (apply wh_takeX 0; (first | exact fun _ h => h | exact fun _ h => res_takes h); exact hQd; rfl; rfl; exact v_move rfl; decide +kernel; decide +kernel; decide +kernel; rfl)
  (apply wh_takeX 1; (first | exact fun _ h => h | exact fun _ h => res_takes h); exact hQd; rfl; rfl; exact v_nil rfl; decide +kernel; decide +kernel; decide +kernel; rfl)
  (apply wh_takeX 2; (first | exact fun _ h => h | exact fun _ h => res_takes h); exact hQd; rfl; rfl; exact v_faddr rfl rfl; decide +kernel; decide +kernel; decide +kernel; rfl)
  (apply wh_takeX 4; (first | exact fun _ h => h | exact fun _ h => res_takes h); exact hQd; rfl; rfl; exact v_faddr rfl rfl; decide +kernel; decide +kernel; decide +kernel; rfl)
  (apply wh_takeX 5; (first | exact fun _ h => res_takes h); exact hQd; rfl; rfl; (first | exact v_ldT rfl rfl rfl (by rfl)); decide +kernel; decide +kernel; decide +kernel; rfl)
  (apply wh_takeX 6; (first | exact fun _ h => h | exact fun _ h => res_takes h); exact hQd; rfl; rfl; (first | exact v_addi rfl rfl (by omega) | exact v_add rfl rfl); decide +kernel; decide +kernel; decide +kernel; rfl)
  refine wh_eff 3 rfl (by decide +kernel) ?_
  repeat (first | (apply wx_val; (first | exact v_ldT rfl rfl rfl (by rfl)); rfl) | refine wx_nil ?_)
  (try refine wx_nil ?_)
  refine wq_held (by (first | exact fun _ h => h | exact fun _ h => res_takes h)) ?_
  (apply wh_takeX 7; (first | exact fun _ h => h | exact fun _ h => res_takes h); exact hQd; rfl; rfl; (first | exact v_addi rfl rfl (by omega) | exact v_add rfl rfl); decide +kernel; decide +kernel; decide +kernel; rfl)
  (apply wh_takeX 8; (first | exact fun _ h => h | exact fun _ h => res_takes h); exact hQd; rfl; rfl; exact v_nil rfl; decide +kernel; decide +kernel; decide +kernel; rfl)
  (apply wh_takeX 9; (first | exact fun _ h => h | exact fun _ h => res_takes h); exact hQd; rfl; rfl; exact v_faddr rfl rfl; decide +kernel; decide +kernel; decide +kernel; rfl)
  refine wh_eff 10 rfl (by decide +kernel) ?_
  repeat (first | refine wx_nil ?_ | refine wq_setn ?_ | refine wl_storeT rfl rfl rfl (by rfl) (by exact .inl (Nat.le_refl _)) rfl ?_)
  (try refine wx_nil ?_)
  refine wq_held (by (first | exact fun _ h => h | exact fun _ h => res_takes h)) ?_
  refine wh_done (by decide +kernel) ?_
  repeat (first | (apply wx_val; (first | exact v_move rfl | exact v_faddr rfl rfl | exact v_ldT rfl rfl rfl (by rfl)); rfl) | refine wc_seq ?_ | refine wc_region ?_ | refine wq_next ?_)
  have hcl : y.clock + (1 + o.gap) ≤ 1099511627776 := by omega
  obtain ⟨y2, hy2⟩ : ∃ y2 : Mc, y2 = { y with clock := y.clock + (1 + o.gap) } := ⟨_, rfl⟩
  refine wx_mem (M' := [mcB g y2 L.length, E, S, opM g3 o, Ee]) (by subst hy2; kernel_rfl) ?_
  have hr2 : RunsO L y2 E S := by subst hy2; exact ⟨hr.sp, hr.hang, hr.small⟩
  have he2 : Buf 3 1 y2.Ae y2.ne y2.ce (Z.flatMap natM) Ee := by subst hy2; exact he
  have hne2 : y2.ne = Z.length := by subst hy2; exact hne
  have hse2 : y2.ses = ses := by subst hy2; exact hse
  have hc2 : y2.clock = y.clock + (1 + o.gap) := by subst hy2; rfl
  clear hy2 he hne
  refine wl_callT (fun w' hr' ho => Active_spec o.ses hlen hr2 w' ho) rfl rfl rfl ?_
  rintro x hx
  refine wx_cat ?_
  have hzl := hi.zlen
  obtain ⟨kd, se, gp, key, value⟩ := o
  dsimp only at *
  exfalso
  omega
theorem Do_spec (o : StepM) (st : MSt) (h : MOk ses st) (w : World) (ho : Own w (st.segs g)) :
    Calls Try.prog 38 #[.pointer (some ⟨g, 0, none⟩), .agg o.cells.toArray] w (DoPost g ses st w) := by
  by_cases k0 : o.kind < 1
  · exact Do_none o k0 st h w ho
  by_cases k1 : o.kind = 1
  · exact Do_one o k1 st h w ho
  by_cases k5 : 5 ≤ o.kind
  · exact Do_end o k5 st h w ho
  · exact Do_op o (by omega) st h w ho
/-- the machine's log, in memory: the finished runs, as they were finished -/
def logL (L : List RunW) (Z : List Nat) : List TxnW := Z.filterMap (fun z => (L[z]?).map RunW.t)
theorem logL_snoc {L : List RunW} {Z : List Nat} {z : Nat} {r : RunW} (h : L[z]? = some r) : logL L (Z ++ [z]) = logL L Z ++ [r.t] := by
  unfold logL
  rw [List.filterMap_append]
  simp [h]
theorem logL_len {L : List RunW} : ∀ {Z : List Nat}, (∀ z ∈ Z, ∃ r, L[z]? = some r ∧ r.state = 1) → (logL L Z).length = Z.length
  | [], _ => rfl
  | z :: Z, h => by
    obtain ⟨r, hr, _⟩ := h z (List.mem_cons_self ..)
    have ih := logL_len (Z := Z) fun x hx => h x (List.mem_cons_of_mem _ hx)
    unfold logL at *
    rw [List.filterMap_cons, hr]
    simp only [Option.map_some, List.length_cons, ih]
theorem Log_spec (st : MSt) (h : MOk ses st) (w : World) (ho : Own w (st.segs g)) :
    Calls Try.prog 39 #[.pointer (some ⟨g, 0, none⟩)] w (Ret (β := Option Addr × Nat × Seg) w (ids (st.segs g)) (fun q => .slice q.1 st.Z.length q.2.1) (fun q => st.segs g ++ [q.2.2]) (fun q => Buf 24 8 q.1 st.Z.length q.2.1 ((logL st.L st.Z).flatMap TxnW.cells) q.2.2)) := by
  refine go [.pointer (some ⟨g, 0, none⟩)] (st.segs g) Try.func39 Try.ntmps39 rfl rfl ho ?_
  obtain ⟨y, L, E, S, Z, Ee⟩ := st
  obtain ⟨hr, he, hne, hse, hi⟩ := h
  dsimp only at hr he hne hse hi ⊢
  have hzl := hi.zlen
  have hll := hi.len
  repeat (first | (apply wx_val; (first | exact v_assign rfl); rfl) | refine wc_seq ?_ | refine wc_region ?_ | refine wx_nil ?_ | refine wq_next ?_ | refine wc_block ?_)
  refine wc_seg ?_
  refine wc_loopK (ι := Nat × Option Addr × Nat × Seg) [0] (fun z => [(4, .int .i64 (z.1 : Nat)), (3, .slice z.2.1 z.1 z.2.2.1)]) (fun z => [z.2.2.2]) (fun z => z.1 ≤ Z.length ∧ Buf 24 8 z.2.1 z.1 z.2.2.1 ((logL L (Z.take z.1)).flatMap TxnW.cells) z.2.2.2) (fun z => Z.length - z.1) ((0, none, 0, [])) rfl ?_ (by repeat (first | exact trivial | refine ⟨rfl, ?_⟩)) ?_
  · exact ⟨Nat.zero_le _, Buf.nil _ _⟩
  rintro ⟨p, A1, c1, E1⟩ ⟨h1, h2⟩
  try dsimp only
  refine wc_fcat ?_
  refine wc_cat ?_
  dsimp only at h1 h2
  refine wc_mem (M' := [E1, mcB g y L.length, E, S, Ee]) rfl ?_
  repeat (first | (apply wx_val; (first | exact v_move rfl | exact v_nil rfl | exact v_faddr rfl rfl | exact v_ldT rfl rfl rfl (by rfl) | exact v_len rfl rfl | exact v_lt rfl rfl); rfl) | refine wc_seq ?_ | refine wc_region ?_ | refine wx_nil ?_ | refine wq_next ?_)
  refine wc_if rfl (fun hd => ?_) (fun hd => ?_)
  · have hpz : p < Z.length := by omega
    obtain ⟨z, hz⟩ : ∃ z, Z[p]? = some z := ⟨Z[p], List.getElem?_eq_getElem hpz⟩
    obtain ⟨r, hs, hst⟩ := hi.zok z (List.mem_of_getElem? hz)
    have hzl2 := (List.getElem?_eq_some_iff.1 hs).1
    obtain ⟨ga, hA⟩ := hr.sp.ptr (by omega)
    obtain ⟨ge, hAe⟩ := he.ptr (by omega)
    have htk : logL L (Z.take (p + 1)) = logL L (Z.take p) ++ [r.t] := by
      rw [List.take_add_one, hz]
      exact logL_snoc hs
    repeat (first | refine wc_seq ?_ | refine wq_next ?_ | refine wc_block ?_ | refine wc_skip ?_)
    refine wc_heldX [] [mcB g y L.length, E, Ee] rfl (by (repeat (first | exact panicNot_D3 rfl | with_reducible exact panicNot_of panicOk_body | with_reducible apply panicNot_block | with_reducible apply panicNot_then))) (fun hQd => ?_)
    (apply wh_takeX 0; (first | exact fun _ h => h | exact fun _ h => res_takes h); exact hQd; rfl; rfl; exact v_move rfl; decide +kernel; decide +kernel; decide +kernel; rfl)
    (apply wh_takeX 1; (first | exact fun _ h => h | exact fun _ h => res_takes h); exact hQd; rfl; rfl; exact v_move rfl; decide +kernel; decide +kernel; decide +kernel; rfl)
    (apply wh_takeX 2; (first | exact fun _ h => h | exact fun _ h => res_takes h); exact hQd; rfl; rfl; exact v_nil rfl; decide +kernel; decide +kernel; decide +kernel; rfl)
    (apply wh_takeX 3; (first | exact fun _ h => h | exact fun _ h => res_takes h); exact hQd; rfl; rfl; exact v_faddr rfl rfl; decide +kernel; decide +kernel; decide +kernel; rfl)
    (apply wh_takeX 4; (first | exact fun _ h => res_takes h); exact hQd; rfl; rfl; (first | exact v_ldT rfl rfl rfl (by rfl)); decide +kernel; decide +kernel; decide +kernel; rfl)
    (apply wh_takeX 5; (first | exact fun _ h => h | exact fun _ h => res_takes h); exact hQd; rfl; rfl; exact v_move rfl; decide +kernel; decide +kernel; decide +kernel; rfl)
    (apply wh_takeX 6; (first | exact fun _ h => h | exact fun _ h => res_takes h); exact hQd; rfl; rfl; exact v_nil rfl; decide +kernel; decide +kernel; decide +kernel; rfl)
    (apply wh_takeX 7; (first | exact fun _ h => h | exact fun _ h => res_takes h); exact hQd; rfl; rfl; exact v_faddr rfl rfl; decide +kernel; decide +kernel; decide +kernel; rfl)
    (apply wh_takeX 8; (first | exact fun _ h => res_takes h); exact hQd; rfl; rfl; (first | exact v_ldT rfl rfl rfl (by rfl)); decide +kernel; decide +kernel; decide +kernel; rfl)
    (apply wh_takeX 9; (first | exact fun _ h => h | exact fun _ h => res_takes h); exact hQd; rfl; rfl; exact v_move rfl; decide +kernel; decide +kernel; decide +kernel; rfl)
    (apply wh_takeX 10; (first | exact fun _ h => res_takes h); exact hQd; rfl; rfl; (first | exact v_iaddrE (by assumption) rfl rfl rfl (by omega)); decide +kernel; decide +kernel; decide +kernel; rfl)
    (apply wh_takeX 11; (first | exact fun _ h => res_takes h); exact hQd; rfl; rfl; (exact v_load rfl rfl rfl (fun w' hr => he.elemT (i := p) hAe (by decide) (fun _ => rfl) hz hr (j := 0) rfl (by omega))); decide +kernel; decide +kernel; decide +kernel; rfl)
    (apply wh_takeX 12; (first | exact fun _ h => h | exact fun _ h => res_takes h); exact hQd; rfl; rfl; (exact v_iaddrE hA rfl rfl rfl (by omega)); decide +kernel; decide +kernel; decide +kernel; rfl)
    (apply wh_takeX 13; (first | exact fun _ h => h | exact fun _ h => res_takes h); exact hQd; rfl; rfl; exact v_faddr rfl rfl; decide +kernel; decide +kernel; decide +kernel; rfl)
    (apply wh_takeX 14; (first | exact fun _ h => res_takes h); exact hQd; rfl; rfl; (exact v_loadA (cs := r.t.cells) rfl rfl (fun w' hr' j u hj => hr.sp.elemT (i := z) hA (by decide) (fun _ => rfl) hs hr' (j := j) (run_part hj) (by omega))); decide +kernel; decide +kernel; decide +kernel; rfl)
    refine wh_eff 15 rfl (by decide +kernel) ?_
    refine wl_lit rfl rfl rfl rfl rfl (by decide) rfl (fun g99 => ?_)
    (try refine wx_nil ?_)
    refine wq_held (by (first | exact fun _ h => h | exact fun _ h => res_takes h)) ?_
    refine wh_eff 16 rfl (by decide +kernel) ?_
    refine wl_app1T (news := r.t.cells) rfl h2 rfl rfl rfl rfl (by omega) rfl (fun A2 c2 E2 hb2 => ?_)
    (try refine wx_nil ?_)
    refine wq_held (by (first | exact fun _ h => h | exact fun _ h => res_takes h)) ?_
    (apply wh_takeX 17; (first | exact fun _ h => h | exact fun _ h => res_takes h); exact hQd; rfl; rfl; exact v_assign rfl; decide +kernel; decide +kernel; decide +kernel; rfl)
    refine wh_done (by decide +kernel) ?_
    repeat (first | (apply wx_val; (first | exact v_move rfl | exact v_assign rfl | exact v_addi rfl rfl (by omega)); rfl) | refine wc_region ?_ | refine wx_nil ?_ | refine wq_next ?_ | refine wq_block ?_)
    refine wq_roundK ((p + 1, A2, c2, E2)) ?_ ?_ (by repeat (first | exact trivial | refine ⟨rfl, ?_⟩)) (by first | exact catEq | exact rfl)
    · refine ⟨by dsimp only; omega, ?_⟩
      dsimp only
      rw [htk, List.flatMap_append]
      simpa using hb2
    · show Z.length - (p + 1) < Z.length - p
      omega
  obtain rfl : p = Z.length := by omega
  rw [List.take_length] at h2
  repeat (first | (apply wx_val; (first | exact v_move rfl | exact v_assign rfl); rfl) | refine wc_seq ?_ | refine wc_region ?_ | refine wx_nil ?_ | refine wq_next ?_ | refine wc_ret ?_ | refine wc_exit ?_ | refine wq_then_exit ?_ | refine wq_block_exit rfl ?_)
  exact wq_ret1T (A1, c1, E1) rfl rfl h2 rfl
theorem mok0 {s f : Int} (h : 1 ≤ s ∧ s ≤ 64) : MOk s ⟨mc0 s f, [], [], [], [], []⟩ := by
  refine ⟨⟨Buf.nil _ _, rfl, fun r hr => (by cases hr)⟩, Buf.nil _ _, rfl, rfl, ⟨Nat.zero_le _, h, ⟨Int.le_refl _, by show (0 : Int) ≤ 1099511627776; decide⟩, fun r hr => (by cases hr), fun i r hr => (by simp at hr), fun i j r r' hij hr => (by simp at hr), List.nodup_nil, fun z hz => (by cases hz)⟩⟩
theorem Emit_no {A : Option Addr} {c : Nat} {l : List StepM} (s f : Int) (h : ¬ (1 ≤ s ∧ s ≤ 64 ∧ 0 ≤ f ∧ f ≤ 4)) (w : World) :
    Calls Try.prog 24 #[.int .i64 s, .int .i64 f, .slice A l.length c] w (Ret (β := Int) w (ids []) (fun e => .tuple #[.slice none 0 0, .int .i64 e]) (fun _ => []) (fun e => e ≠ 0)) := by
  refine go [.int .i64 s, .int .i64 f, .slice A l.length c] [] Try.func24 Try.ntmps24 rfl rfl (own_nil w) ?_
  repeat (first | (apply wx_val; (first | exact v_move rfl | exact v_assign rfl); rfl) | refine wc_seq ?_ | refine wc_region ?_ | refine wx_nil ?_ | refine wq_next ?_)
  refine wl_callT (M1 := []) (fun w' hr ho => mNew_no s f h w') rfl rfl rfl ?_
  rintro e he
  repeat (first | (apply wx_val; (first | exact v_move rfl | exact v_assign rfl | exact v_extract rfl rfl | exact v_ne rfl rfl); rfl) | refine wc_seq ?_ | refine wc_region ?_ | refine wx_nil ?_ | refine wq_next ?_ | refine wc_cat ?_)
  refine wc_yes rfl (decide_eq_true he) ?_
  repeat (first | (apply wx_val; (first | exact v_move rfl | exact v_assign rfl); rfl) | refine wc_seq ?_ | refine wc_region ?_ | refine wx_nil ?_ | refine wq_next ?_ | refine wc_ret ?_ | refine wq_then_ret ?_)
  exact wq_ret2T e rfl rfl rfl rfl he rfl
theorem Emit_ok {A : Option Addr} {c : Nat} {l : List StepM} (s f : Int) (h : 1 ≤ s ∧ s ≤ 64 ∧ 0 ≤ f ∧ f ≤ 4) (hl : l.length ≤ 1048576) (w : World) (hv : Vw [] w A (l.flatMap StepM.cells)) :
    Calls Try.prog 24 #[.int .i64 s, .int .i64 f, .slice A l.length c] w (Ret (β := Nat × MSt × Option Addr × Nat × Seg) w (ids []) (fun q => .tuple #[.slice q.2.2.1 q.2.1.Z.length q.2.2.2.1, .int .i64 0]) (fun q => q.2.1.segs q.1 ++ [q.2.2.2.2]) (fun q => MOk s q.2.1 ∧ Buf 24 8 q.2.2.1 q.2.1.Z.length q.2.2.2.1 ((logL q.2.1.L q.2.1.Z).flatMap TxnW.cells) q.2.2.2.2)) := by
  refine go [.int .i64 s, .int .i64 f, .slice A l.length c] [] Try.func24 Try.ntmps24 rfl rfl (own_nil w) ?_
  repeat (first | (apply wx_val; (first | exact v_move rfl | exact v_assign rfl); rfl) | refine wc_seq ?_ | refine wc_region ?_ | refine wx_nil ?_ | refine wq_next ?_)
  refine wl_callT (M1 := []) (fun w' hr ho => mNew_ok s f h w') rfl rfl rfl ?_
  rintro g -
  refine wx_cat ?_
  repeat (first | (apply wx_val; (first | exact v_move rfl | exact v_assign rfl | exact v_extract rfl rfl | exact v_ne rfl rfl); rfl) | refine wc_seq ?_ | refine wc_region ?_ | refine wx_nil ?_ | refine wq_next ?_ | refine wc_block ?_ | refine wc_skip ?_ | refine wc_condF rfl ?_)
  refine wc_flat (N := (⟨mc0 s f, [], [], [], [], []⟩ : MSt).segs g) (by simp [MSt.segs]) ?_
  refine wc_loopK (ι := Nat × MSt) [0, 2, 8] (fun z => [(10, .int .i64 (z.1 : Nat))]) (fun z => z.2.segs g) (fun z => z.1 ≤ l.length ∧ MOk s z.2) (fun z => l.length - z.1) ((0, ⟨mc0 s f, [], [], [], [], []⟩)) rfl ?_ (by repeat (first | exact trivial | refine ⟨rfl, ?_⟩)) ?_
  · exact ⟨Nat.zero_le _, mok0 ⟨h.1, h.2.1⟩⟩
  rintro ⟨i, st⟩ ⟨h1, h2⟩
  try dsimp only
  refine wc_fcat ?_
  refine wc_cat ?_
  dsimp only at h1 h2
  repeat (first | (apply wx_val; (first | exact v_move rfl | exact v_len rfl rfl | exact v_lt rfl rfl); rfl) | refine wc_seq ?_ | refine wc_region ?_ | refine wx_nil ?_ | refine wq_next ?_)
  refine wc_if rfl (fun hd => ?_) (fun hd => ?_)
  · obtain ⟨o, hs⟩ : ∃ s, l[i]? = some s := ⟨l[i], List.getElem?_eq_getElem (by omega)⟩
    obtain ⟨ga, oa, rfl, hcell⟩ := hv.atM (f := StepM.cells) (k := 5) (fun _ => rfl) (by decide) (show 0 < l.length by omega)
    repeat (first | (apply wx_val; (first | exact v_move rfl | exact v_iaddr rfl rfl rfl (by omega)); rfl) | refine wc_seq ?_ | refine wc_region ?_ | refine wq_next ?_ | refine wc_block ?_ | refine wc_skip ?_)
    (try refine wx_ungd rfl rfl ?_)
    apply wx_val
    exact v_loadA (cs := o.cells) rfl rfl (fun w' hr j u hj => hcell i o j u hs hj hr (by rw [Int.toNat_natCast]))
    rfl
    skip
    refine wl_callT (fun w' hr ho => Do_spec (g := g) o st h2 w' ho) rfl rfl rfl ?_
    rintro ⟨_, st2⟩ h3
    dsimp only at h3 ⊢
    refine wx_cat ?_
    repeat (first | (apply wx_val; (first | exact v_move rfl | exact v_assign rfl | exact v_addi rfl rfl (by omega)); rfl) | refine wc_region ?_ | refine wx_nil ?_ | refine wq_next ?_ | refine wq_block ?_)
    refine wq_roundK ((i + 1, st2)) ?_ ?_ (by repeat (first | exact trivial | refine ⟨rfl, ?_⟩)) (by first | exact catEq | exact rfl)
    · exact ⟨by dsimp only; omega, h3⟩
    · show l.length - (i + 1) < l.length - i
      omega
  clear hd h1
  repeat (first | (apply wx_val; (first | exact v_assign rfl); rfl) | refine wc_seq ?_ | refine wc_region ?_ | refine wx_nil ?_ | refine wq_next ?_ | refine wc_block ?_ | refine wc_exit ?_ | refine wq_then_exit ?_ | refine wq_block_exit rfl ?_)
  refine wc_loopK (ι := Nat × MSt) [0, 8] (fun z => [(11, .int .i64 (z.1 : Nat))]) (fun z => z.2.segs g) (fun z => (z.1 : Int) ≤ s ∧ MOk s z.2) (fun z => s.toNat - z.1) ((0, st)) rfl ?_ (by repeat (first | exact trivial | refine ⟨rfl, ?_⟩)) ?_
  · exact ⟨by show ((0 : Nat) : Int) ≤ s; omega, h2⟩
  clear h2 st
  rintro ⟨i, st⟩ ⟨h1, h2⟩
  try dsimp only
  refine wc_fcat ?_
  refine wc_cat ?_
  dsimp only at h1 h2
  repeat (first | (apply wx_val; (first | exact v_move rfl | exact v_lt rfl rfl); rfl) | refine wc_seq ?_ | refine wc_region ?_ | refine wx_nil ?_ | refine wq_next ?_)
  refine wc_if rfl (fun hd => ?_) (fun hd => ?_)
  · skip
    repeat (first | (apply wx_val; (first | exact v_move rfl); rfl) | refine wc_seq ?_ | refine wc_region ?_ | refine wq_next ?_ | refine wc_block ?_ | refine wc_skip ?_)
    (try refine wx_ungd rfl rfl ?_)
    apply wx_val
    exact v_build (cs := ((StepM.mk 6 (i : Nat) 0 (ByteArray.mk #[]) (ByteArray.mk #[])).cells).toArray) rfl (by kernel_rfl)
    rfl
    skip
    refine wl_callT (fun w' hr ho => Do_spec (g := g) ⟨6, (i : Nat), 0, ByteArray.mk #[], ByteArray.mk #[]⟩ st h2 w' ho) rfl rfl rfl ?_
    rintro ⟨_, st2⟩ h3
    dsimp only at h3 ⊢
    refine wx_cat ?_
    repeat (first | (apply wx_val; (first | exact v_move rfl | exact v_assign rfl | exact v_addi rfl rfl (by omega)); rfl) | refine wc_region ?_ | refine wx_nil ?_ | refine wq_next ?_ | refine wq_block ?_)
    refine wq_roundK ((i + 1, st2)) ?_ ?_ (by repeat (first | exact trivial | refine ⟨rfl, ?_⟩)) (by first | exact catEq | exact rfl)
    · exact ⟨by dsimp only; omega, h3⟩
    · show s.toNat - (i + 1) < s.toNat - i
      omega
  repeat (first | (apply wx_val; (first | exact v_move rfl); rfl) | refine wc_seq ?_ | refine wc_region ?_ | refine wq_next ?_ | refine wc_exit ?_ | refine wq_then_exit ?_ | refine wq_block_exit rfl ?_)
  refine wl_callT (fun w' hr ho => Log_spec (g := g) st h2 w' ho) rfl rfl rfl ?_
  rintro ⟨A2, c2, E2⟩ hb2
  dsimp only at hb2 ⊢
  refine wx_cat ?_
  repeat (first | (apply wx_val; (first | exact v_assign rfl); rfl) | refine wx_nil ?_ | refine wq_next ?_ | refine wc_ret ?_)
  exact wq_ret2T (g, st, A2, c2, E2) rfl rfl rfl rfl ⟨h2, hb2⟩ rfl
end mc
end Go.Proofs.Ytgidabcmbngcbaa
