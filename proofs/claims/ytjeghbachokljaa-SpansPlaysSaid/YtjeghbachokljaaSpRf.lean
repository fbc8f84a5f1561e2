/- The document's forest: with, ahead, Overlap, Remove, Drop, Of. -/
import Derived.Test.YtjeghbachokljaaSpFi
set_option linter.unusedVariables false
set_option linter.unusedSimpArgs false
namespace Go.Proofs.Ytjeghbachokljaa
open Go
set_option maxRecDepth 20000
set_option maxHeartbeats 2000000
attribute [local irreducible] WX WC WQ Val VCall WY WR
def rsC (e : ByteArray × Sp) : List Value := [.string e.1, .int .i64 e.2.a, .int .i64 e.2.b, .int .i64 e.2.c]
abbrev RsL (l : Ks) (A : Option Addr) (n c : Nat) (E : Seg) : Prop := Buf 70 4 A n c (l.flatMap rsC) E
abbrev rfB (g : Nat) (A : Option Addr) (n c : Nat) : Seg := [(g, .cells [.slice A n c].toArray 47 (0, 0))]
abbrev rsB (g : Nat) (e : ByteArray × Sp) : Seg := [(g, .cells (rsC e).toArray 70 (0, 0))]
abbrev ssB (g : Nat) (s : Sp) : Seg := [(g, .cells s.cells.toArray 28 (0, 0))]
theorem eqL_rs (x y : ByteArray × Sp) : eqL (rsC x) (rsC y) = decide (x = y) := by
  obtain ⟨k, a, b, c⟩ := x
  obtain ⟨k', a', b', c'⟩ := y
  simp [rsC, eqL, eqV, Sp.mk.injEq]
theorem RsL.snoc {l : Ks} {e : ByteArray × Sp} {A : Option Addr} {c : Nat} {E : Seg} (h : Buf 70 4 A (l.length + 1) c (l.flatMap rsC ++ rsC e) E) : RsL (l ++ [e]) A (l ++ [e]).length c E := by
  rw [List.length_append]
  show Buf _ _ _ _ _ _ _
  rw [List.flatMap_append]
  simpa using h
theorem snoc_len {α : Type} (l : List α) (e : α) : l.length + 1 = (l ++ [e]).length := by simp
theorem take_snoc {α : Type} {l : List α} {i : Nat} {s : α} (h : l[i]? = some s) : l.take (i + 1) = l.take i ++ [s] := by
  rw [List.take_add_one, h]; rfl
theorem with_spec (k : ByteArray) (s : Sp) (w : World) : Calls Try.prog 31 #[.string k, .agg s.cells.toArray] w (Ret (β := Unit) w (ids []) (fun _ => .agg (rsC (k, s)).toArray) (fun _ => []) (fun _ => True)) := by
  refine go [.string k, .agg s.cells.toArray] [] Try.func31 Try.ntmps31 rfl rfl (own_nil w) ?_
  repeat (first | refine wc_seq ?_ | refine wc_region ?_)
  refine wl_boxA rfl rfl (fun g3 => ?_)
  refine wl_alloc rfl rfl (fun g4 => ?_)
  repeat (first | (apply wx_val; (first | exact v_move rfl | exact v_faddr rfl rfl | exact v_ldT rfl rfl rfl (by rfl)); rfl) | refine wc_seq ?_ | refine wc_region ?_ | refine wx_nil ?_ | refine wq_next ?_)
  (try refine wx_ungd rfl rfl ?_)
  apply wx_val
  exact v_build (cs := ((rsC (k, s))).toArray) rfl (by kernel_rfl)
  rfl
  repeat (first | refine wx_nil ?_ | refine wq_next ?_ | refine wc_ret ?_ | refine wq_setn ?_ | refine wl_stAT rfl rfl (by rfl) (by rfl) (by exact .inl (Nat.le_refl _)) rfl ?_)
  exact wq_retAT () rfl rfl rfl rfl trivial rfl
theorem cmp_iff (s t : Sp) : cmpS s t < 0 ↔ ltS s t := ⟨cmp_lt, lt_cmp⟩
theorem bool_eq {b b' : Bool} (h : b = b') : some (Value.bool b) = some (Value.bool b') := by rw [h]
theorem ahead_spec (x y : ByteArray × Sp) (w : World) : Calls Try.prog 43 #[.agg (rsC x).toArray, .agg (rsC y).toArray] w (Ret (β := Unit) w (ids []) (fun _ => .bool (decide (cmpS x.2 y.2 < 0))) (fun _ => []) (fun _ => True)) := by
  refine go [.agg (rsC x).toArray, .agg (rsC y).toArray] [] Try.func43 Try.ntmps43 rfl rfl (own_nil w) ?_
  have hc := cmp_iff x.2 y.2
  unfold ltS at hc
  repeat (first | refine wc_seq ?_ | refine wc_region ?_)
  refine wl_boxA rfl rfl (fun g2 => ?_)
  refine wl_boxA rfl rfl (fun g3 => ?_)
  repeat (first | (apply wx_val; (first | exact v_assign rfl | exact v_faddr rfl rfl | exact v_ldT rfl rfl rfl (by rfl) | exact v_ne rfl rfl); rfl) | refine wc_seq ?_ | refine wc_region ?_ | refine wx_nil ?_ | refine wq_next ?_)
  refine wc_if rfl (fun h1 => ?_) (fun h1 => ?_)
  · skip
    repeat (first | (apply wx_val; (first | exact v_assign rfl | exact v_faddr rfl rfl | exact v_ldT rfl rfl rfl (by rfl) | exact v_lt rfl rfl); rfl) | refine wc_seq ?_ | refine wc_region ?_ | refine wx_nil ?_ | refine wq_next ?_ | refine wc_ret ?_ | refine wq_then_ret ?_)
    exact wq_ret1T () rfl (bool_eq (decide_eq_decide.2 (by rw [hc]; omega))) trivial rfl
  · skip
    repeat (first | (apply wx_val; (first | exact v_faddr rfl rfl | exact v_ldT rfl rfl rfl (by rfl) | exact v_ne rfl rfl); rfl) | refine wc_seq ?_ | refine wc_region ?_ | refine wx_nil ?_ | refine wq_next ?_ | refine wc_skip ?_)
    refine wc_if rfl (fun h2 => ?_) (fun h2 => ?_)
    · skip
      repeat (first | (apply wx_val; (first | exact v_assign rfl | exact v_faddr rfl rfl | exact v_ldT rfl rfl rfl (by rfl) | exact v_lt rfl rfl); rfl) | refine wc_seq ?_ | refine wc_region ?_ | refine wx_nil ?_ | refine wq_next ?_ | refine wc_ret ?_ | refine wq_then_ret ?_)
      exact wq_ret1T () rfl (bool_eq (decide_eq_decide.2 (by rw [hc]; omega))) trivial rfl
    · skip
      repeat (first | (apply wx_val; (first | exact v_assign rfl | exact v_faddr rfl rfl | exact v_ldT rfl rfl rfl (by rfl) | exact v_lt rfl rfl); rfl) | refine wc_seq ?_ | refine wc_region ?_ | refine wx_nil ?_ | refine wq_next ?_ | refine wc_ret ?_ | refine wc_skip ?_)
      exact wq_ret1T () rfl (bool_eq (decide_eq_decide.2 (by rw [hc]; omega))) trivial rfl
def ovR (k : ByteArray) (lo hi : Int) (A : Ks) : Ks := A.filter (fun e => decide (e.1 = k ∧ e.2.a < hi ∧ lo < e.2.b))
theorem ovR_eq (k : ByteArray) (lo hi : Int) : ∀ A : Ks, ovR k lo hi A = (ovK k lo hi A).map (fun s => (k, s))
  | [] => rfl
  | x :: r => by
    have ih := ovR_eq k lo hi r
    unfold ovR ovK ovQ at *
    rw [ofK_cons]
    by_cases hk : x.1 = k
    · rw [if_pos hk]
      by_cases h2 : x.2.a < hi ∧ lo < x.2.b
      · rw [List.filter_cons_of_pos (by simpa using ⟨hk, h2⟩), List.filter_cons_of_pos (by simpa using h2), ih, List.map_cons, ← hk]
      · rw [List.filter_cons_of_neg (by simpa [hk] using h2), List.filter_cons_of_neg (by simpa using h2), ih]
    · rw [if_neg hk, List.filter_cons_of_neg (by simp [hk]), ih]
section rf
variable {gr : Nat} {Ad : Option Addr} {c : Nat} {A : Ks} {E : Seg}
theorem rOverlap_spec (k : ByteArray) (lo hi : Int) (hn : A.length ≤ 2097152) (hb : RsL A Ad A.length c E) (w : World) (ho : Own w [rfB gr Ad A.length c, E]) :
    Calls Try.prog 21 #[.pointer (some ⟨gr, 0, none⟩), .string k, .int .i64 lo, .int .i64 hi] w (Ret (β := Option Addr × Nat × Seg) w (ids [rfB gr Ad A.length c, E]) (fun q => .slice q.1 (ovR k lo hi A).length q.2.1) (fun q => [rfB gr Ad A.length c, E, q.2.2]) (fun q => RsL (ovR k lo hi A) q.1 (ovR k lo hi A).length q.2.1 q.2.2)) := by
  refine go [.pointer (some ⟨gr, 0, none⟩), .string k, .int .i64 lo, .int .i64 hi] [rfB gr Ad A.length c, E] Try.func21 Try.ntmps21 rfl rfl ho ?_
  repeat (first | (apply wx_val; (first | exact v_assign rfl); rfl) | refine wc_seq ?_ | refine wc_region ?_ | refine wx_nil ?_ | refine wq_next ?_ | refine wc_block ?_)
  refine wc_seg ?_
  refine wc_loopK (ι := Nat × Ks × Option Addr × Nat × Seg) [0, 1, 2, 3] (fun z => [(10, .int .i64 (z.1 : Nat)), (9, .slice z.2.2.1 z.2.1.length z.2.2.2.1)]) (fun z => [z.2.2.2.2]) (fun z => z.1 ≤ A.length ∧ z.2.1 = ovR k lo hi (A.take z.1) ∧ RsL z.2.1 z.2.2.1 z.2.1.length z.2.2.2.1 z.2.2.2.2) (fun z => A.length - z.1) ((0, [], none, 0, [])) rfl ?_ (by repeat (first | exact trivial | refine ⟨rfl, ?_⟩)) ?_
  · exact ⟨Nat.zero_le _, rfl, Buf.nil _ _⟩
  rintro ⟨i, L, A1, c1, E1⟩ ⟨h1, h2, h3⟩
  try dsimp only
  refine wc_fcat ?_
  refine wc_cat ?_
  dsimp only at h1 h2 h3
  have hL : L.length ≤ i := by rw [h2]; exact Nat.le_trans (List.length_filter_le _ _) (List.length_take_le _ _)
  repeat (first | (apply wx_val; (first | exact v_move rfl | exact v_nil rfl | exact v_faddr rfl rfl | exact v_ldT rfl rfl rfl (by rfl) | exact v_len rfl rfl | exact v_lt rfl rfl); rfl) | refine wc_seq ?_ | refine wc_region ?_ | refine wx_nil ?_ | refine wq_next ?_)
  refine wc_if rfl (fun hd => ?_) (fun hd => ?_)
  · obtain ⟨e, hs⟩ : ∃ s, A[i]? = some s := ⟨A[i], List.getElem?_eq_getElem (by omega)⟩
    obtain ⟨ga, hA⟩ := hb.ptr (by omega)
    have htk := take_snoc hs
    have hst : ovR k lo hi (A.take (i + 1)) = L ++ (if e.1 = k ∧ e.2.a < hi ∧ lo < e.2.b then [e] else []) := by
      rw [htk, h2]
      unfold ovR
      rw [List.filter_append]
      congr 1
      by_cases hc : e.1 = k ∧ e.2.a < hi ∧ lo < e.2.b
      · rw [if_pos hc, List.filter_cons_of_pos (by simpa using hc)]; rfl
      · rw [if_neg hc, List.filter_cons_of_neg (by simpa using hc)]; rfl
    repeat (first | (apply wx_val; (first | exact v_move rfl | exact v_nil rfl | exact v_faddr rfl rfl | exact v_ldT rfl rfl rfl (by rfl) | exact v_iaddrE (by assumption) rfl rfl rfl (by omega)); rfl) | refine wc_seq ?_ | refine wc_region ?_ | refine wq_next ?_ | refine wc_block ?_ | refine wc_skip ?_)
    (try refine wx_ungd rfl rfl ?_)
    apply wx_val
    exact v_elemT hA hb (by decide) (fun _ => rfl) hs rfl (by omega) rfl
    rfl
    skip
    refine wl_alloc rfl rfl (fun g11 => ?_)
    by_cases q1 : e.1 = k
    · by_cases q2 : e.2.a < hi
      · by_cases q3 : lo < e.2.b
        · rw [if_pos ⟨q1, q2, q3⟩] at hst
          repeat (first | (apply wx_val; (first | exact v_move rfl | exact v_faddr rfl rfl | exact v_ldT rfl rfl rfl (by rfl) | exact v_streq rfl rfl); rfl) | refine wc_seq ?_ | refine wc_region ?_ | refine wx_nil ?_ | refine wq_next ?_ | refine wx_setn ?_ | refine wl_stAT rfl rfl (by rfl) (by rfl) (by exact .inl (Nat.le_refl _)) rfl ?_)
          refine wx_gset true rfl rfl (decide_eq_true q1) ?_
          repeat (first | (apply wx_val; (first | exact v_move rfl | exact v_faddr rfl rfl | exact v_ldT rfl rfl rfl (by rfl) | exact v_lt rfl rfl | exact v_pickT rfl rfl); rfl) | refine wx_ungd rfl rfl ?_)
          refine wx_gset true rfl rfl (decide_eq_true q2) ?_
          repeat (first | (apply wx_val; (first | exact v_move rfl | exact v_faddr rfl rfl | exact v_ldT rfl rfl rfl (by rfl) | exact v_gt rfl rfl | exact v_pickT rfl rfl); rfl) | refine wx_ungd rfl rfl ?_ | refine wx_nil ?_ | refine wq_next ?_)
          refine wc_yes rfl (decide_eq_true q3) ?_
          repeat (first | (apply wx_val; (first | exact v_move rfl | exact v_ldAT rfl (by rfl)); rfl) | refine wc_region ?_)
          refine wl_lit rfl rfl rfl rfl rfl (by decide) rfl (fun g99 => ?_)
          refine wl_app1T (news := rsC e) rfl h3 rfl rfl rfl rfl (by omega) rfl (fun A2 c2 E2 hb2 => ?_)
          rw [snoc_len L e]
          repeat (first | (apply wx_val; (first | exact v_move rfl | exact v_assign rfl | exact v_addi rfl rfl (by omega)); rfl) | refine wc_region ?_ | refine wx_nil ?_ | refine wq_next ?_ | refine wq_block ?_)
          refine wq_roundK ((i + 1, L ++ [e], A2, c2, E2)) ?_ ?_ (by repeat (first | exact trivial | refine ⟨rfl, ?_⟩)) (by first | exact catEq | exact rfl)
          · exact ⟨by dsimp only; omega, hst.symm, RsL.snoc hb2⟩
          · show A.length - (i + 1) < A.length - i
            omega
        · rw [if_neg (fun h => q3 h.2.2), List.append_nil] at hst
          repeat (first | (apply wx_val; (first | exact v_move rfl | exact v_faddr rfl rfl | exact v_ldT rfl rfl rfl (by rfl) | exact v_streq rfl rfl); rfl) | refine wc_seq ?_ | refine wc_region ?_ | refine wx_nil ?_ | refine wq_next ?_ | refine wx_setn ?_ | refine wl_stAT rfl rfl (by rfl) (by rfl) (by exact .inl (Nat.le_refl _)) rfl ?_)
          refine wx_gset true rfl rfl (decide_eq_true q1) ?_
          repeat (first | (apply wx_val; (first | exact v_move rfl | exact v_faddr rfl rfl | exact v_ldT rfl rfl rfl (by rfl) | exact v_lt rfl rfl | exact v_pickT rfl rfl); rfl) | refine wx_ungd rfl rfl ?_)
          refine wx_gset true rfl rfl (decide_eq_true q2) ?_
          repeat (first | (apply wx_val; (first | exact v_move rfl | exact v_faddr rfl rfl | exact v_ldT rfl rfl rfl (by rfl) | exact v_gt rfl rfl | exact v_pickT rfl rfl); rfl) | refine wx_ungd rfl rfl ?_ | refine wx_nil ?_ | refine wq_next ?_)
          refine wc_not rfl (decide_eq_false q3) ?_
          repeat (first | (apply wx_val; (first | exact v_move rfl | exact v_assign rfl | exact v_addi rfl rfl (by omega)); rfl) | refine wc_region ?_ | refine wx_nil ?_ | refine wq_next ?_ | refine wc_skip ?_ | refine wq_block ?_)
          refine wq_roundK ((i + 1, L, A1, c1, E1)) ?_ ?_ (by repeat (first | exact trivial | refine ⟨rfl, ?_⟩)) (by first | exact catEq | exact rfl)
          · exact ⟨by dsimp only; omega, hst.symm, h3⟩
          · show A.length - (i + 1) < A.length - i
            omega
      · rw [if_neg (fun h => q2 h.2.1), List.append_nil] at hst
        repeat (first | (apply wx_val; (first | exact v_move rfl | exact v_faddr rfl rfl | exact v_ldT rfl rfl rfl (by rfl) | exact v_streq rfl rfl); rfl) | refine wc_seq ?_ | refine wc_region ?_ | refine wx_nil ?_ | refine wq_next ?_ | refine wx_setn ?_ | refine wl_stAT rfl rfl (by rfl) (by rfl) (by exact .inl (Nat.le_refl _)) rfl ?_)
        refine wx_gset true rfl rfl (decide_eq_true q1) ?_
        repeat (first | (apply wx_val; (first | exact v_move rfl | exact v_faddr rfl rfl | exact v_ldT rfl rfl rfl (by rfl) | exact v_lt rfl rfl | exact v_pickT rfl rfl); rfl) | refine wx_ungd rfl rfl ?_)
        refine wx_gset false rfl rfl (decide_eq_false q2) ?_
        repeat (first | (apply wx_val; (first | exact v_move rfl | exact v_assign rfl | exact v_addi rfl rfl (by omega) | exact v_pickF rfl rfl); rfl) | refine wx_no rfl rfl rfl ?_ | refine wc_region ?_ | refine wx_nil ?_ | refine wq_next ?_ | refine wc_skip ?_ | refine wq_block ?_ | refine wc_condF rfl ?_)
        refine wq_roundK ((i + 1, L, A1, c1, E1)) ?_ ?_ (by repeat (first | exact trivial | refine ⟨rfl, ?_⟩)) (by first | exact catEq | exact rfl)
        · exact ⟨by dsimp only; omega, hst.symm, h3⟩
        · show A.length - (i + 1) < A.length - i
          omega
    · rw [if_neg (fun h => q1 h.1), List.append_nil] at hst
      repeat (first | (apply wx_val; (first | exact v_move rfl | exact v_faddr rfl rfl | exact v_ldT rfl rfl rfl (by rfl) | exact v_streq rfl rfl); rfl) | refine wc_seq ?_ | refine wc_region ?_ | refine wx_nil ?_ | refine wq_next ?_ | refine wx_setn ?_ | refine wl_stAT rfl rfl (by rfl) (by rfl) (by exact .inl (Nat.le_refl _)) rfl ?_)
      refine wx_gset false rfl rfl (decide_eq_false q1) ?_
      repeat (first | (apply wx_val; (first | exact v_move rfl | exact v_assign rfl | exact v_addi rfl rfl (by omega) | exact v_pickF rfl rfl); rfl) | refine wx_no rfl rfl rfl ?_ | refine wc_region ?_ | refine wx_nil ?_ | refine wq_next ?_ | refine wc_skip ?_ | refine wq_block ?_ | refine wc_condF rfl ?_)
      refine wq_roundK ((i + 1, L, A1, c1, E1)) ?_ ?_ (by repeat (first | exact trivial | refine ⟨rfl, ?_⟩)) (by first | exact catEq | exact rfl)
      · exact ⟨by dsimp only; omega, hst.symm, h3⟩
      · show A.length - (i + 1) < A.length - i
        omega
  obtain rfl : i = A.length := by omega
  rw [List.take_length] at h2
  rw [← h2]
  repeat (first | (apply wx_val; (first | exact v_move rfl | exact v_assign rfl); rfl) | refine wc_seq ?_ | refine wc_region ?_ | refine wx_nil ?_ | refine wq_next ?_ | refine wc_ret ?_ | refine wc_exit ?_ | refine wq_then_exit ?_ | refine wq_block_exit rfl ?_)
  exact wq_ret1T (A1, c1, E1) rfl rfl h3 rfl
theorem rOf_spec (k : ByteArray) (hn : A.length ≤ 2097152) (hb : RsL A Ad A.length c E) (w : World) (ho : Own w [rfB gr Ad A.length c, E]) :
    Calls Try.prog 35 #[.pointer (some ⟨gr, 0, none⟩), .string k] w (Ret (β := Unit) w (ids [rfB gr Ad A.length c, E]) (fun _ => .int .i64 ((ofK k A).length : Nat)) (fun _ => [rfB gr Ad A.length c, E]) (fun _ => True)) := by
  refine go [.pointer (some ⟨gr, 0, none⟩), .string k] [rfB gr Ad A.length c, E] Try.func35 Try.ntmps35 rfl rfl ho ?_
  repeat (first | (apply wx_val; (first | exact v_assign rfl); rfl) | refine wc_seq ?_ | refine wc_region ?_ | refine wx_nil ?_ | refine wq_next ?_ | refine wc_block ?_)
  refine wc_loopK (ι := Nat) [0, 1] (fun z => [(6, .int .i64 (z : Nat)), (5, .int .i64 ((ofK k (A.take z)).length : Nat))]) (fun z => []) (fun z => z ≤ A.length) (fun z => A.length - z) (0) rfl ?_ (by repeat (first | exact trivial | refine ⟨rfl, ?_⟩)) ?_
  · exact Nat.zero_le _
  rintro i h1
  try dsimp only
  refine wc_fcat ?_
  refine wc_cat ?_
  have hL := Nat.le_trans (ofK_len k (A.take i)) (List.length_take_le i A)
  repeat (first | (apply wx_val; (first | exact v_move rfl | exact v_nil rfl | exact v_faddr rfl rfl | exact v_ldT rfl rfl rfl (by rfl) | exact v_len rfl rfl | exact v_lt rfl rfl); rfl) | refine wc_seq ?_ | refine wc_region ?_ | refine wx_nil ?_ | refine wq_next ?_)
  refine wc_if rfl (fun hd => ?_) (fun hd => ?_)
  · obtain ⟨e, hs⟩ : ∃ s, A[i]? = some s := ⟨A[i], List.getElem?_eq_getElem (by omega)⟩
    obtain ⟨ga, hA⟩ := hb.ptr (by omega)
    have htk := take_snoc hs
    have hst : ofK k (A.take (i + 1)) = ofK k (A.take i) ++ (if e.1 = k then [e.2] else []) := by
      rw [htk]
      unfold ofK
      rw [List.filter_append, List.map_append]
      congr 1
      by_cases hc : e.1 = k
      · rw [if_pos hc, List.filter_cons_of_pos (by simpa using hc)]; rfl
      · rw [if_neg hc, List.filter_cons_of_neg (by simpa using hc)]; rfl
    repeat (first | (apply wx_val; (first | exact v_move rfl | exact v_nil rfl | exact v_faddr rfl rfl | exact v_ldT rfl rfl rfl (by rfl) | exact v_iaddrE (by assumption) rfl rfl rfl (by omega)); rfl) | refine wc_seq ?_ | refine wc_region ?_ | refine wq_next ?_ | refine wc_block ?_ | refine wc_skip ?_)
    (try refine wx_ungd rfl rfl ?_)
    apply wx_val
    exact v_load rfl rfl rfl (fun w' hr => hb.elemT (i := i) hA (by decide) (fun _ => rfl) hs hr (j := 0) rfl (by omega))
    rfl
    repeat (first | (apply wx_val; (first | exact v_move rfl | exact v_streq rfl rfl); rfl) | refine wx_nil ?_ | refine wq_next ?_)
    refine wc_if rfl (fun hc => ?_) (fun hc => ?_)
    · rw [if_pos hc] at hst
      have hl : (ofK k (A.take (i + 1))).length = (ofK k (A.take i)).length + 1 := by rw [hst]; simp
      repeat (first | (apply wx_val; (first | exact v_move rfl | exact v_assign rfl | exact v_addi rfl rfl (by omega)); rfl) | refine wc_region ?_ | refine wx_nil ?_ | refine wq_next ?_ | refine wq_block ?_)
      rw [show ((ofK k (A.take i)).length : Int) + 1 = ((ofK k (A.take (i + 1))).length : Nat) by omega]
      skip
      refine wq_roundK (i + 1) ?_ ?_ (by repeat (first | exact trivial | refine ⟨rfl, ?_⟩)) (by first | exact catEq | exact rfl)
      · omega
      · omega
    · rw [if_neg hc, List.append_nil] at hst
      rw [← hst]
      repeat (first | (apply wx_val; (first | exact v_move rfl | exact v_assign rfl | exact v_addi rfl rfl (by omega)); rfl) | refine wc_region ?_ | refine wx_nil ?_ | refine wq_next ?_ | refine wc_skip ?_ | refine wq_block ?_)
      refine wq_roundK (i + 1) ?_ ?_ (by repeat (first | exact trivial | refine ⟨rfl, ?_⟩)) (by first | exact catEq | exact rfl)
      · omega
      · omega
  obtain rfl : i = A.length := by omega
  rw [List.take_length]
  repeat (first | (apply wx_val; (first | exact v_move rfl | exact v_assign rfl); rfl) | refine wc_seq ?_ | refine wc_region ?_ | refine wx_nil ?_ | refine wq_next ?_ | refine wc_ret ?_ | refine wc_exit ?_ | refine wq_then_exit ?_ | refine wq_block_exit rfl ?_)
  exact wq_ret1T () rfl rfl trivial rfl
end rf
end Go.Proofs.Ytjeghbachokljaa
