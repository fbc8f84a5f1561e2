/- The document's machine: dirty, read, passes. -/
import Derived.Test.YtgidabcmbngcbaaMac2
set_option linter.unusedVariables false
set_option linter.unusedSimpArgs false
namespace Go.Proofs.Ytgidabcmbngcbaa
open Go
set_option maxRecDepth 20000
set_option maxHeartbeats 2000000
attribute [local irreducible] WX WC WQ Val VCall
section mc
variable {g : Nat} {y : Mc} {L : List RunW} {E S : Seg}
theorem dirty_spec (x : Int) (k : ByteArray) (hn : L.length ≤ 4096) (h : RunsO L y E S) (w : World) (ho : Own w [mcB g y L.length, E, S]) :
    Calls Try.prog 64 #[.pointer (some ⟨g, 0, none⟩), .int .i64 x, .string k] w (Ret (β := Int) w (ids [mcB g y L.length, E, S]) (fun x => .int .i64 x) (fun _ => [mcB g y L.length, E, S]) (HasLeft k L)) := by
  refine go [.pointer (some ⟨g, 0, none⟩), .int .i64 x, .string k] [mcB g y L.length, E, S] Try.func64 Try.ntmps64 rfl rfl ho ?_
  repeat (first | (apply wx_val; (first | exact v_assign rfl); rfl) | refine wc_seq ?_ | refine wc_region ?_ | refine wx_nil ?_ | refine wq_next ?_ | refine wc_block ?_)
  refine wc_loopK (ι := Nat × Int × Int) [0, 1, 2] (fun z => [(9, .int .i64 (z.1 : Nat)), (7, .int .i64 z.2.1), (8, .int .i64 z.2.2)]) (fun z => []) (fun z => z.1 ≤ L.length ∧ HasLeft k L z.2.1) (fun z => L.length - z.1) ((0, -1, -1)) rfl ?_ (by repeat (first | exact trivial | refine ⟨rfl, ?_⟩)) ?_
  · exact ⟨Nat.zero_le _, .inl rfl⟩
  rintro ⟨i, b, t⟩ ⟨h1, h2⟩
  try dsimp only
  refine wc_fcat ?_
  refine wc_cat ?_
  dsimp only at h1 h2
  repeat (first | (apply wx_val; (first | exact v_move rfl | exact v_nil rfl | exact v_faddr rfl rfl | exact v_ldT rfl rfl rfl (by rfl) | exact v_len rfl rfl | exact v_lt rfl rfl); rfl) | refine wc_seq ?_ | refine wc_region ?_ | refine wx_nil ?_ | refine wq_next ?_)
  refine wc_if rfl (fun hd => ?_) (fun hd => ?_)
  · obtain ⟨r, hs⟩ : ∃ s, L[i]? = some s := ⟨L[i], List.getElem?_eq_getElem (by omega)⟩
    obtain ⟨ga, hA⟩ := h.sp.ptr (by omega)
    have h16 := h.r16 hs
    repeat (first | (apply wx_val; (first | exact v_move rfl | exact v_nil rfl | exact v_faddr rfl rfl | exact v_ldT rfl rfl rfl (by rfl) | exact v_iaddrE (by assumption) rfl rfl rfl (by omega)); rfl) | refine wc_seq ?_ | refine wc_region ?_ | refine wq_next ?_ | refine wc_block ?_ | refine wc_skip ?_)
    (try refine wx_ungd rfl rfl ?_)
    apply wx_val
    exact v_loadA (cs := r.t.cells) rfl rfl (fun w' hr j u hj => h.sp.elemT (i := i) hA (by decide) (fun _ => rfl) hs hr (j := j) (run_part hj) (by omega))
    rfl
    repeat (first | (apply wx_val; (first | exact v_move rfl); rfl))
    (try refine wx_ungd rfl rfl ?_)
    refine wx_vcall (vc_pure' rfl rfl (fun w' hr => Left_spec r.t k (by omega) w' (h.hang.reads hr hs).1)) rfl ?_
    repeat (first | (apply wx_val; (first | exact v_move rfl | exact v_assign rfl | exact v_ne rfl rfl); rfl) | refine wc_seq ?_ | refine wc_region ?_ | refine wx_nil ?_ | refine wq_next ?_)
    refine wx_gif rfl rfl (fun q1 => ?_) (fun q1 => ?_)
    rotate_left
    · skip
      repeat (first | (apply wx_val; (first | exact v_move rfl | exact v_assign rfl | exact v_addi rfl rfl (by omega) | exact v_pickF rfl rfl); rfl) | refine wx_no rfl rfl rfl ?_ | refine wc_region ?_ | refine wx_nil ?_ | refine wq_next ?_ | refine wc_skip ?_ | refine wq_block ?_ | refine wc_condF rfl ?_)
      refine wq_roundK ((i + 1, b, t)) ?_ ?_ (by repeat (first | exact trivial | refine ⟨rfl, ?_⟩)) (by first | exact catEq | exact rfl)
      · exact ⟨by dsimp only; omega, h2⟩
      · show L.length - (i + 1) < L.length - i
        omega
    repeat (first | (apply wx_val; (first | exact v_move rfl | exact v_nil rfl | exact v_faddr rfl rfl | exact v_ldT rfl rfl rfl (by rfl) | exact v_iaddrE (by assumption) rfl rfl rfl (by omega)); rfl) | refine wx_ungd rfl rfl ?_)
    (try refine wx_ungd rfl rfl ?_)
    apply wx_val
    exact v_load rfl rfl rfl (fun w' hr => h.sp.elemT (i := i) hA (by decide) (fun _ => rfl) hs hr (j := 8) rfl (by omega))
    rfl
    repeat (first | (apply wx_val; (first | exact v_move rfl | exact v_eq rfl rfl | exact v_pickT rfl rfl); rfl) | refine wx_ungd rfl rfl ?_)
    refine wx_gif rfl rfl (fun q2 => ?_) (fun q2 => ?_)
    rotate_left
    · skip
      repeat (first | (apply wx_val; (first | exact v_move rfl | exact v_assign rfl | exact v_addi rfl rfl (by omega) | exact v_pickF rfl rfl); rfl) | refine wx_no rfl rfl rfl ?_ | refine wc_region ?_ | refine wx_nil ?_ | refine wq_next ?_ | refine wc_skip ?_ | refine wq_block ?_ | refine wc_condF rfl ?_)
      refine wq_roundK ((i + 1, b, t)) ?_ ?_ (by repeat (first | exact trivial | refine ⟨rfl, ?_⟩)) (by first | exact catEq | exact rfl)
      · exact ⟨by dsimp only; omega, h2⟩
      · show L.length - (i + 1) < L.length - i
        omega
    repeat (first | (apply wx_val; (first | exact v_move rfl | exact v_ge rfl rfl | exact v_pickT rfl rfl); rfl) | refine wx_ungd rfl rfl ?_)
    refine wx_gif rfl rfl (fun q3 => ?_) (fun q3 => ?_)
    rotate_left
    · skip
      repeat (first | (apply wx_val; (first | exact v_move rfl | exact v_assign rfl | exact v_addi rfl rfl (by omega) | exact v_pickF rfl rfl); rfl) | refine wx_no rfl rfl rfl ?_ | refine wc_region ?_ | refine wx_nil ?_ | refine wq_next ?_ | refine wc_skip ?_ | refine wq_block ?_ | refine wc_condF rfl ?_)
      refine wq_roundK ((i + 1, b, t)) ?_ ?_ (by repeat (first | exact trivial | refine ⟨rfl, ?_⟩)) (by first | exact catEq | exact rfl)
      · exact ⟨by dsimp only; omega, h2⟩
      · show L.length - (i + 1) < L.length - i
        omega
    obtain ⟨j, o, hj, ho2⟩ := leftP_get q3
    have hjl := (List.getElem?_eq_some_iff.1 ho2).1
    obtain ⟨S1, E1, E2, S2, eS, _, hc1, _, _⟩ := h.hang.find hs
    obtain ⟨u, hu⟩ : ∃ u, r.at_.xs[j]? = some u := ⟨r.at_.xs[j], List.getElem?_eq_getElem (by omega)⟩
    obtain ⟨gb, hB⟩ := hc1.ptr (by omega)
    have hin : ∀ p ∈ E2, p ∈ S := fun p hp => by rw [eS]; simp [hp]
    rw [hj]
    repeat (first | (apply wx_val; (first | exact v_move rfl | exact v_nil rfl | exact v_faddr rfl rfl | exact v_ldT rfl rfl rfl (by rfl) | exact v_iaddrE (by assumption) rfl rfl rfl (by omega)); rfl) | refine wx_ungd rfl rfl ?_)
    (try refine wx_ungd rfl rfl ?_)
    apply wx_val
    exact v_load rfl rfl rfl (fun w' hr => h.sp.elemT (i := i) hA (by decide) (fun _ => rfl) hs hr (j := 9) rfl (by omega))
    rfl
    repeat (first | (apply wx_val; (first | exact v_move rfl | exact v_iaddrE (by assumption) rfl rfl rfl (by omega)); rfl) | refine wx_ungd rfl rfl ?_)
    (try refine wx_ungd rfl rfl ?_)
    apply wx_val
    exact v_load rfl rfl rfl (fun w' hr => cellM (f := intC) (k := 1) (fun _ => rfl) (by decide) hc1 hin hB hr hu (j := 0) rfl (by omega))
    rfl
    repeat (first | (apply wx_val; (first | exact v_move rfl | exact v_gt rfl rfl | exact v_pickT rfl rfl); rfl) | refine wx_ungd rfl rfl ?_ | refine wx_nil ?_ | refine wq_next ?_)
    refine wc_if rfl (fun q4 => ?_) (fun q4 => ?_)
    · skip
      repeat (first | (apply wx_val; (first | exact v_move rfl | exact v_assign rfl | exact v_nil rfl | exact v_faddr rfl rfl | exact v_ldT rfl rfl rfl (by rfl) | exact v_iaddrE (by assumption) rfl rfl rfl (by omega)); rfl) | refine wc_seq ?_ | refine wc_region ?_ | refine wx_nil ?_ | refine wq_next ?_)
      (try refine wx_ungd rfl rfl ?_)
      apply wx_val
      exact v_load rfl rfl rfl (fun w' hr => h.sp.elemT (i := i) hA (by decide) (fun _ => rfl) hs hr (j := 9) rfl (by omega))
      rfl
      repeat (first | (apply wx_val; (first | exact v_move rfl | exact v_iaddrE (by assumption) rfl rfl rfl (by omega)); rfl))
      (try refine wx_ungd rfl rfl ?_)
      apply wx_val
      exact v_load rfl rfl rfl (fun w' hr => cellM (f := intC) (k := 1) (fun _ => rfl) (by decide) hc1 hin hB hr hu (j := 0) rfl (by omega))
      rfl
      repeat (first | (apply wx_val; (first | exact v_move rfl | exact v_assign rfl | exact v_addi rfl rfl (by omega)); rfl) | refine wc_region ?_ | refine wx_nil ?_ | refine wq_next ?_ | refine wq_block ?_)
      refine wq_roundK ((i + 1, (i : Nat), u)) ?_ ?_ (by repeat (first | exact trivial | refine ⟨rfl, ?_⟩)) (by first | exact catEq | exact rfl)
      · exact ⟨by dsimp only; omega, .inr ⟨i, r, rfl, hs, by omega⟩⟩
      · show L.length - (i + 1) < L.length - i
        omega
    · skip
      repeat (first | (apply wx_val; (first | exact v_move rfl | exact v_assign rfl | exact v_addi rfl rfl (by omega)); rfl) | refine wc_region ?_ | refine wx_nil ?_ | refine wq_next ?_ | refine wc_skip ?_ | refine wq_block ?_)
      refine wq_roundK ((i + 1, b, t)) ?_ ?_ (by repeat (first | exact trivial | refine ⟨rfl, ?_⟩)) (by first | exact catEq | exact rfl)
      · exact ⟨by dsimp only; omega, h2⟩
      · show L.length - (i + 1) < L.length - i
        omega
  · have : i = L.length := by omega
    subst this
    repeat (first | (apply wx_val; (first | exact v_move rfl | exact v_assign rfl); rfl) | refine wc_seq ?_ | refine wc_region ?_ | refine wx_nil ?_ | refine wq_next ?_ | refine wc_ret ?_ | refine wc_exit ?_ | refine wq_then_exit ?_ | refine wq_block_exit rfl ?_)
    exact wq_ret1T b rfl rfl h2 rfl
theorem read_spec (i : Nat) (k : ByteArray) (hn : L.length ≤ 4096) (h : RunsO L y E S) (hi : i < L.length) (w : World) (ho : Own w [mcB g y L.length, E, S]) :
    Calls Try.prog 52 #[.pointer (some ⟨g, 0, none⟩), .int .i64 (i : Nat), .string k] w (Ret (β := ByteArray × Bool) w (ids [mcB g y L.length, E, S]) (fun q => .tuple #[.string q.1, .bool q.2]) (fun _ => [mcB g y L.length, E, S]) VOk) := by
  refine go [.pointer (some ⟨g, 0, none⟩), .int .i64 (i : Nat), .string k] [mcB g y L.length, E, S] Try.func52 Try.ntmps52 rfl rfl ho ?_
  obtain ⟨r, hs⟩ : ∃ s, L[i]? = some s := ⟨L[i], List.getElem?_eq_getElem hi⟩
  obtain ⟨ga, hA⟩ := h.sp.ptr (by omega)
  have h16 := h.r16 hs
  repeat (first | (apply wx_val; (first | exact v_move rfl | exact v_assign rfl | exact v_nil rfl | exact v_faddr rfl rfl | exact v_ldT rfl rfl rfl (by rfl) | exact v_iaddrE (by assumption) rfl rfl rfl (by omega)); rfl) | refine wc_seq ?_ | refine wc_region ?_ | refine wx_nil ?_ | refine wq_next ?_)
  (try refine wx_ungd rfl rfl ?_)
  apply wx_val
  exact v_loadA (cs := r.t.cells) rfl rfl (fun w' hr j u hj => h.sp.elemT (i := i) hA (by decide) (fun _ => rfl) hs hr (j := j) (run_part hj) (by omega))
  rfl
  skip
  refine wl_alloc rfl rfl (fun g8 => ?_)
  repeat (first | (apply wx_val; (first | exact v_move rfl | (first | exact v_ldQ 0 0 rfl rfl rfl rfl rfl)); rfl) | refine wc_seq ?_ | refine wc_region ?_ | refine wx_nil ?_ | refine wq_next ?_ | refine wx_setn ?_ | refine wl_stAT rfl rfl (by rfl) (by rfl) (by exact .inl (Nat.le_refl _)) rfl ?_)
  (try refine wx_ungd rfl rfl ?_)
  refine wx_vcall (vc_pure' rfl rfl (fun w' hr => Left_spec r.t k (by omega) w' (h.hang.reads hr hs).1)) rfl ?_
  repeat (first | (apply wx_val; (first | exact v_ge rfl rfl); rfl) | refine wx_nil ?_ | refine wq_next ?_)
  refine wc_if rfl (fun q1 => ?_) (fun q1 => ?_)
  · skip
    repeat (first | (apply wx_val; (first | exact v_move rfl); rfl) | refine wc_seq ?_ | refine wc_region ?_)
    refine wl_callT (fun w' hr ho => held_spec k hn h (.inr ⟨i, r, rfl, hs, q1⟩) w' ho) rfl rfl rfl ?_
    rintro ⟨v, ok⟩ hv
    refine wx_cat ?_
    repeat (first | (apply wx_val; (first | exact v_assign rfl | exact v_extract rfl rfl); rfl) | refine wx_nil ?_ | refine wq_next ?_ | refine wc_ret ?_ | refine wq_then_ret ?_)
    exact wq_ret2T (v, ok) rfl rfl rfl rfl hv rfl
  repeat (first | (apply wx_val; (first | exact v_move rfl | exact v_faddr rfl rfl | exact v_ldT rfl rfl rfl (by rfl)); rfl) | refine wc_seq ?_ | refine wc_region ?_ | refine wq_next ?_ | refine wc_skip ?_)
  refine wl_callT (fun w' hr ho => Seen_spec k _ hn h w' ho) rfl rfl rfl ?_
  rintro x hx
  refine wx_cat ?_
  iterate 4 (first | (apply wx_val; (first | exact v_assign rfl); rfl) | refine wc_seq ?_ | refine wx_nil ?_ | refine wq_next ?_)
  refine wc_meetK (ι := Int) [0, 1, 2, 8] (fun x => [(9, .int .i64 x)]) (fun _ => []) (M1 := []) (HasLeft k L) rfl ?_ ?_
  · skip
    repeat (first | (apply wx_val; (first | exact v_move rfl | exact v_nil rfl | exact v_faddr rfl rfl | exact v_ldT rfl rfl rfl (by rfl) | exact v_eq rfl rfl); rfl) | refine wc_seq ?_ | refine wc_region ?_ | refine wx_nil ?_ | refine wq_next ?_ | refine wc_cat ?_)
    refine wc_if rfl (fun q2 => ?_) (fun q2 => ?_)
    · skip
      repeat (first | (apply wx_val; (first | exact v_move rfl | exact v_nil rfl | exact v_faddr rfl rfl | exact v_ldT rfl rfl rfl (by rfl)); rfl) | refine wc_region ?_)
      refine wl_callT (fun w' hr ho => Seen_spec k _ hn h w' ho) rfl rfl rfl ?_
      rintro x2 hx2
      refine wx_cat ?_
      repeat (first | (apply wx_val; (first | exact v_assign rfl); rfl) | refine wx_nil ?_)
      refine wq_cutK (x2) ?_ (by repeat (first | exact trivial | refine ⟨rfl, ?_⟩)) (by first | exact catEq | exact rfl)
      exact hx2
    · skip
      repeat (first | refine wc_skip ?_)
      refine wq_cutK (x) ?_ (by repeat (first | exact trivial | refine ⟨rfl, ?_⟩)) (by first | exact catEq | exact rfl)
      exact hx
  clear hx x
  rintro x hx
  refine wc_fcat ?_
  refine wc_cat ?_
  iterate 1 (first | refine wc_seq ?_)
  refine wc_meetK (ι := Int) [0, 1, 2, 8] (fun x => [(9, .int .i64 x)]) (fun _ => []) (M1 := []) (HasLeft k L) rfl ?_ ?_
  · skip
    repeat (first | (apply wx_val; (first | exact v_move rfl | exact v_nil rfl | exact v_faddr rfl rfl | exact v_ldT rfl rfl rfl (by rfl) | exact v_eq rfl rfl); rfl) | refine wc_seq ?_ | refine wc_region ?_ | refine wx_cat ?_)
    refine wx_gif rfl rfl (fun q2 => ?_) (fun q2 => ?_)
    rotate_left
    · skip
      repeat (first | (apply wx_val; (first | exact v_pickF rfl rfl); rfl) | refine wx_no rfl rfl rfl ?_ | refine wx_nil ?_ | refine wq_next ?_ | refine wc_skip ?_ | refine wc_condF rfl ?_)
      refine wq_cutK (x) ?_ (by repeat (first | exact trivial | refine ⟨rfl, ?_⟩)) (by first | exact catEq | exact rfl)
      exact hx
    repeat (first | (apply wx_val; (first | exact v_move rfl | exact v_ge rfl rfl | exact v_pickT rfl rfl); rfl) | refine wx_ungd rfl rfl ?_ | refine wx_nil ?_ | refine wq_next ?_)
    refine wc_if rfl (fun q3 => ?_) (fun q3 => ?_)
    rotate_left
    · skip
      repeat (first | refine wc_skip ?_)
      refine wq_cutK (x) ?_ (by repeat (first | exact trivial | refine ⟨rfl, ?_⟩)) (by first | exact catEq | exact rfl)
      exact hx
    rcases hx with rfl | ⟨j, r2, rfl, hs2, hl2⟩
    · omega
    have hjl := (List.getElem?_eq_some_iff.1 hs2).1
    repeat (first | (apply wx_val; (first | exact v_move rfl | exact v_nil rfl | exact v_faddr rfl rfl | exact v_ldT rfl rfl rfl (by rfl) | exact v_iaddrE (by assumption) rfl rfl rfl (by omega)); rfl) | refine wc_region ?_)
    (try refine wx_ungd rfl rfl ?_)
    apply wx_val
    exact v_load rfl rfl rfl (fun w' hr => h.sp.elemT (i := j) hA (by decide) (fun _ => rfl) hs2 hr (j := 3) rfl (by omega))
    rfl
    repeat (first | (apply wx_val; (first | exact v_sub rfl rfl); rfl))
    refine wl_callT (fun w' hr ho => Seen_spec k _ hn h w' ho) rfl rfl rfl ?_
    rintro x2 hx2
    refine wx_cat ?_
    repeat (first | (apply wx_val; (first | exact v_assign rfl); rfl) | refine wx_nil ?_)
    refine wq_cutK (x2) ?_ (by repeat (first | exact trivial | refine ⟨rfl, ?_⟩)) (by first | exact catEq | exact rfl)
    exact hx2
  clear hx x
  rintro x hx
  refine wc_fcat ?_
  refine wc_cat ?_
  iterate 1 (first | refine wc_seq ?_)
  refine wc_meetK (ι := Int) [0, 1, 2, 8] (fun x => [(9, .int .i64 x)]) (fun _ => []) (M1 := []) (HasLeft k L) rfl ?_ ?_
  · skip
    repeat (first | (apply wx_val; (first | exact v_move rfl | exact v_nil rfl | exact v_faddr rfl rfl | exact v_ldT rfl rfl rfl (by rfl) | exact v_eq rfl rfl); rfl) | refine wc_seq ?_ | refine wc_region ?_ | refine wx_nil ?_ | refine wq_next ?_ | refine wc_cat ?_)
    refine wc_if rfl (fun q2 => ?_) (fun q2 => ?_)
    rotate_left
    · skip
      repeat (first | refine wc_skip ?_)
      refine wq_cutK (x) ?_ (by repeat (first | exact trivial | refine ⟨rfl, ?_⟩)) (by first | exact catEq | exact rfl)
      exact hx
    repeat (first | (apply wx_val; (first | exact v_move rfl); rfl) | refine wc_seq ?_ | refine wc_region ?_)
    refine wl_callT (fun w' hr ho => dirty_spec _ k hn h w' ho) rfl rfl rfl ?_
    rintro x2 hx2
    refine wx_cat ?_
    repeat (first | (apply wx_val; (first | exact v_move rfl | exact v_assign rfl | exact v_ge rfl rfl); rfl) | refine wc_seq ?_ | refine wc_region ?_ | refine wx_nil ?_ | refine wq_next ?_)
    refine wc_if rfl (fun q3 => ?_) (fun q3 => ?_)
    · skip
      repeat (first | (apply wx_val; (first | exact v_move rfl | exact v_assign rfl); rfl) | refine wc_region ?_ | refine wx_nil ?_)
      refine wq_cutK (x2) ?_ (by repeat (first | exact trivial | refine ⟨rfl, ?_⟩)) (by first | exact catEq | exact rfl)
      exact hx2
    · skip
      repeat (first | refine wc_skip ?_)
      refine wq_cutK (x) ?_ (by repeat (first | exact trivial | refine ⟨rfl, ?_⟩)) (by first | exact catEq | exact rfl)
      exact hx
  clear hx x
  rintro x hx
  refine wc_fcat ?_
  refine wc_cat ?_
  repeat (first | (apply wx_val; (first | exact v_move rfl); rfl) | refine wc_seq ?_ | refine wc_region ?_)
  refine wl_callT (fun w' hr ho => held_spec k hn h hx w' ho) rfl rfl rfl ?_
  rintro ⟨v, ok⟩ hv
  refine wx_cat ?_
  repeat (first | (apply wx_val; (first | exact v_assign rfl | exact v_extract rfl rfl); rfl) | refine wx_nil ?_ | refine wq_next ?_ | refine wc_ret ?_)
  exact wq_ret2T (v, ok) rfl rfl rfl rfl hv rfl
theorem passes_spec (i : Nat) (hn : L.length ≤ 4096) (h : RunsO L y E S) (hi : i < L.length) (w : World) (ho : Own w [mcB g y L.length, E, S]) :
    Calls Try.prog 51 #[.pointer (some ⟨g, 0, none⟩), .int .i64 (i : Nat)] w (Ret (β := Bool) w (ids [mcB g y L.length, E, S]) (fun b => .bool b) (fun _ => [mcB g y L.length, E, S]) (fun _ => True)) := by
  refine go [.pointer (some ⟨g, 0, none⟩), .int .i64 (i : Nat)] [mcB g y L.length, E, S] Try.func51 Try.ntmps51 rfl rfl ho ?_
  obtain ⟨r, hs⟩ : ∃ s, L[i]? = some s := ⟨L[i], List.getElem?_eq_getElem hi⟩
  obtain ⟨ga, hA⟩ := h.sp.ptr (by omega)
  have h16 := h.r16 hs
  obtain ⟨S1, E1, E2, S2, eS, hb1, _, _, _⟩ := h.hang.find hs
  have hin : ∀ p ∈ E1, p ∈ S := fun p hp => by rw [eS]; simp [hp]
  repeat (first | (apply wx_val; (first | exact v_move rfl | exact v_assign rfl | exact v_nil rfl | exact v_faddr rfl rfl | exact v_ldT rfl rfl rfl (by rfl) | exact v_iaddrE (by assumption) rfl rfl rfl (by omega)); rfl) | refine wc_seq ?_ | refine wc_region ?_ | refine wx_nil ?_ | refine wq_next ?_)
  (try refine wx_ungd rfl rfl ?_)
  apply wx_val
  exact v_loadA (cs := r.t.cells) rfl rfl (fun w' hr j u hj => h.sp.elemT (i := i) hA (by decide) (fun _ => rfl) hs hr (j := j) (run_part hj) (by omega))
  rfl
  skip
  refine wl_alloc rfl rfl (fun g5 => ?_)
  repeat (first | (apply wx_val; (first | exact v_assign rfl); rfl) | refine wc_seq ?_ | refine wc_region ?_ | refine wx_nil ?_ | refine wq_next ?_ | refine wc_block ?_ | refine wc_setn ?_ | refine wl_stAT rfl rfl (by rfl) (by rfl) (by exact .inl (Nat.le_refl _)) rfl ?_)
  refine wc_loopK (ι := Nat) [0, 1, 5] (fun z => [(6, .int .i64 (z : Nat))]) (fun z => []) (fun z => z ≤ r.t.ops.xs.length) (fun z => r.t.ops.xs.length - z) (0) rfl ?_ (by repeat (first | exact trivial | refine ⟨rfl, ?_⟩)) ?_
  · exact Nat.zero_le _
  rintro p h1
  try dsimp only
  refine wc_fcat ?_
  refine wc_cat ?_
  repeat (first | (apply wx_val; (first | exact v_move rfl | exact v_faddr rfl rfl | exact v_ldT rfl rfl rfl (by rfl) | exact v_len rfl rfl | exact v_lt rfl rfl); rfl) | refine wc_seq ?_ | refine wc_region ?_)
  refine wx_gif rfl rfl (fun q1 => ?_) (fun q1 => ?_)
  rotate_left
  · skip
    repeat (first | (apply wx_val; (first | exact v_assign rfl | exact v_pickF rfl rfl); rfl) | refine wx_no rfl rfl rfl ?_ | refine wc_seq ?_ | refine wc_region ?_ | refine wx_nil ?_ | refine wq_next ?_ | refine wc_ret ?_ | refine wc_exit ?_ | refine wq_then_exit ?_ | refine wq_block_exit rfl ?_ | refine wc_condF rfl ?_)
    exact wq_ret1T true rfl rfl trivial rfl
  repeat (first | (apply wx_val; (first | exact v_move rfl | exact v_nil rfl | exact v_faddr rfl rfl | exact v_ldT rfl rfl rfl (by rfl) | exact v_ne rfl rfl | exact v_pickT rfl rfl); rfl) | refine wx_ungd rfl rfl ?_ | refine wx_nil ?_ | refine wq_next ?_)
  refine wc_if rfl (fun q2 => ?_) (fun q2 => ?_)
  rotate_left
  · skip
    repeat (first | (apply wx_val; (first | exact v_assign rfl); rfl) | refine wc_seq ?_ | refine wc_region ?_ | refine wx_nil ?_ | refine wq_next ?_ | refine wc_ret ?_ | refine wc_exit ?_ | refine wq_then_exit ?_ | refine wq_block_exit rfl ?_)
    exact wq_ret1T true rfl rfl trivial rfl
  obtain ⟨o, ho2⟩ : ∃ u, r.t.ops.xs[p]? = some u := ⟨r.t.ops.xs[p], List.getElem?_eq_getElem (by omega)⟩
  obtain ⟨gb, hB⟩ := hb1.ptr (by omega)
  repeat (first | (apply wx_val; (first | exact v_move rfl | exact v_faddr rfl rfl | exact v_ldT rfl rfl rfl (by rfl) | exact v_iaddrE (by assumption) rfl rfl rfl (by omega)); rfl) | refine wc_seq ?_ | refine wc_region ?_ | refine wq_next ?_ | refine wc_block ?_ | refine wc_skip ?_)
  (try refine wx_ungd rfl rfl ?_)
  apply wx_val
  exact v_load rfl rfl rfl (fun w' hr => cellM (f := OpW.cells) (k := 4) (fun _ => rfl) (by decide) hb1 hin hB hr ho2 (j := 0) rfl (by omega))
  rfl
  repeat (first | (apply wx_val; (first | exact v_eq rfl rfl); rfl) | refine wx_nil ?_ | refine wq_next ?_)
  refine wc_if rfl (fun q3 => ?_) (fun q3 => ?_)
  · skip
    repeat (first | (apply wx_val; (first | exact v_move rfl | exact v_assign rfl | exact v_addi rfl rfl (by omega)); rfl) | refine wc_region ?_ | refine wx_nil ?_ | refine wq_next ?_ | refine wc_exit ?_ | refine wq_then_exit ?_ | refine wq_block_exit rfl ?_)
    refine wq_roundK (p + 1) ?_ ?_ (by repeat (first | exact trivial | refine ⟨rfl, ?_⟩)) (by first | exact catEq | exact rfl)
    · omega
    · omega
  repeat (first | refine wc_seq ?_ | refine wq_next ?_ | refine wc_skip ?_)
  refine wc_heldX [] [mcB g y L.length, S, [(g5, .cells r.t.cells.toArray 24 (0, 0))]] rfl (by (repeat (first | with_reducible exact panicNot_of panicOk_body | with_reducible apply panicNot_block | with_reducible apply panicNot_then))) (fun hQd => ?_)
  (apply wh_takeX 0; (first | exact fun _ h => h | exact fun _ h => res_takes h); exact hQd; rfl; rfl; exact v_move rfl; decide +kernel; decide +kernel; decide +kernel; rfl)
  (apply wh_takeX 1; (first | exact fun _ h => h | exact fun _ h => res_takes h); exact hQd; rfl; rfl; exact v_faddr rfl rfl; decide +kernel; decide +kernel; decide +kernel; rfl)
  (apply wh_takeX 2; (first | exact fun _ h => res_takes h); exact hQd; rfl; rfl; (first | exact v_ldT rfl rfl rfl (by rfl)); decide +kernel; decide +kernel; decide +kernel; rfl)
  (apply wh_takeX 3; (first | exact fun _ h => h | exact fun _ h => res_takes h); exact hQd; rfl; rfl; exact v_move rfl; decide +kernel; decide +kernel; decide +kernel; rfl)
  (apply wh_takeX 4; (first | exact fun _ h => res_takes h); exact hQd; rfl; rfl; (first | exact v_iaddrE (by assumption) rfl rfl rfl (by omega)); decide +kernel; decide +kernel; decide +kernel; rfl)
  (apply wh_takeX 5; (first | exact fun _ h => h | exact fun _ h => res_takes h); exact hQd; rfl; rfl; exact v_faddr rfl rfl; decide +kernel; decide +kernel; decide +kernel; rfl)
  (apply wh_takeX 6; (first | exact fun _ h => res_takes h); exact hQd; rfl; rfl; (exact v_load rfl rfl rfl (fun w' hr => cellM (f := OpW.cells) (k := 4) (fun _ => rfl) (by decide) hb1 hin hB hr ho2 (j := 1) rfl (by omega))); decide +kernel; decide +kernel; decide +kernel; rfl)
  (apply wh_takeX 7; (first | exact fun _ h => h | exact fun _ h => res_takes h); exact hQd; rfl; rfl; exact v_move rfl; decide +kernel; decide +kernel; decide +kernel; rfl)
  (apply wh_takeX 8; (first | exact fun _ h => h | exact fun _ h => res_takes h); exact hQd; rfl; rfl; exact v_nil rfl; decide +kernel; decide +kernel; decide +kernel; rfl)
  (apply wh_takeX 9; (first | exact fun _ h => h | exact fun _ h => res_takes h); exact hQd; rfl; rfl; exact v_faddr rfl rfl; decide +kernel; decide +kernel; decide +kernel; rfl)
  (apply wh_takeX 10; (first | exact fun _ h => res_takes h); exact hQd; rfl; rfl; (first | exact v_ldT rfl rfl rfl (by rfl)); decide +kernel; decide +kernel; decide +kernel; rfl)
  refine wh_eff 11 rfl (by decide +kernel) ?_
  refine wl_callT (fun w' hr ho => Seen_spec o.key _ hn h w' ho) rfl rfl rfl ?_
  rintro x hx
  refine wx_cat ?_
  (try refine wx_nil ?_)
  refine wq_held (by (first | exact fun _ h => h | exact fun _ h => res_takes h)) ?_
  (apply wh_takeX 12; (first | exact fun _ h => h | exact fun _ h => res_takes h); exact hQd; rfl; rfl; exact v_assign rfl; decide +kernel; decide +kernel; decide +kernel; rfl)
  refine wh_done (by decide +kernel) ?_
  repeat (first | (apply wx_val; (first | exact v_move rfl | exact v_ge rfl rfl); rfl) | refine wc_seq ?_ | refine wq_next ?_ | refine wc_reads rfl (by decide +kernel) ?_)
  refine wx_gif rfl rfl (fun q4 => ?_) (fun q4 => ?_)
  rotate_left
  · skip
    repeat (first | (apply wx_val; (first | exact v_move rfl | exact v_assign rfl | exact v_addi rfl rfl (by omega) | exact v_pickF rfl rfl); rfl) | refine wx_no rfl rfl rfl ?_ | refine wc_region ?_ | refine wx_nil ?_ | refine wq_next ?_ | refine wc_skip ?_ | refine wq_block ?_ | refine wc_condF rfl ?_)
    refine wq_roundK (p + 1) ?_ ?_ (by repeat (first | exact trivial | refine ⟨rfl, ?_⟩)) (by first | exact catEq | exact rfl)
    · omega
    · omega
  rcases hx with rfl | ⟨j, r2, rfl, hs2, hl2⟩
  · omega
  have hjl := (List.getElem?_eq_some_iff.1 hs2).1
  repeat (first | (apply wx_val; (first | exact v_move rfl | exact v_nil rfl | exact v_faddr rfl rfl | exact v_ldT rfl rfl rfl (by rfl) | exact v_iaddrE (by assumption) rfl rfl rfl (by omega)); rfl) | refine wx_ungd rfl rfl ?_)
  (try refine wx_ungd rfl rfl ?_)
  apply wx_val
  exact v_load rfl rfl rfl (fun w' hr => h.sp.elemT (i := j) hA (by decide) (fun _ => rfl) hs2 hr (j := 3) rfl (by omega))
  rfl
  repeat (first | (apply wx_val; (first | exact v_faddr rfl rfl | exact v_ldT rfl rfl rfl (by rfl) | exact v_gt rfl rfl | exact v_pickT rfl rfl); rfl) | refine wx_ungd rfl rfl ?_ | refine wx_nil ?_ | refine wq_next ?_)
  refine wc_if rfl (fun q5 => ?_) (fun q5 => ?_)
  · skip
    repeat (first | (apply wx_val; (first | exact v_assign rfl); rfl) | refine wc_seq ?_ | refine wc_region ?_ | refine wx_nil ?_ | refine wq_next ?_ | refine wc_ret ?_ | refine wq_then_ret ?_ | refine wq_block_ret ?_)
    exact wq_ret1T false rfl rfl trivial rfl
  · skip
    repeat (first | (apply wx_val; (first | exact v_move rfl | exact v_assign rfl | exact v_addi rfl rfl (by omega)); rfl) | refine wc_region ?_ | refine wx_nil ?_ | refine wq_next ?_ | refine wc_skip ?_ | refine wq_block ?_)
    refine wq_roundK (p + 1) ?_ ?_ (by repeat (first | exact trivial | refine ⟨rfl, ?_⟩)) (by first | exact catEq | exact rfl)
    · omega
    · omega
end mc
end Go.Proofs.Ytgidabcmbngcbaa
