/- gather. -/
import Derived.Test.YtjeghbachokljaaSpFi
import Derived.Test.YtjeghbachokljaaSpL
set_option linter.unusedVariables false
set_option linter.unusedSimpArgs false
namespace Go.Proofs.Ytjeghbachokljaa
open Go
set_option maxRecDepth 20000
set_option maxHeartbeats 2000000
attribute [local irreducible] WX WC WQ Val VCall WY WR
def gatT (fl : Int) : Tr → List Sp
  | .nil => []
  | .node _ l s r _ _ => if fl < s.a then gatT fl l else gatT fl l ++ ((if s.b ≤ fl then [s] else []) ++ gatT fl r)
theorem gatT_len (fl : Int) : ∀ t : Tr, (gatT fl t).length ≤ t.size
  | .nil => Nat.le_refl _
  | .node i l s r h f => by
    have h1 := gatT_len fl l
    have h2 := gatT_len fl r
    unfold gatT Tr.size
    split
    · omega
    · rw [List.length_append, List.length_append]
      split
      · simp only [List.length_singleton]; omega
      · simp only [List.length_nil]; omega
theorem gatT_eq (fl : Int) : ∀ {t : Tr}, Srt t → (∀ x ∈ toL t, x.a ≤ x.b) → gatT fl t = (toL t).filter (fun s => decide (s.b ≤ fl))
  | .nil, _, _ => rfl
  | .node i l s r h f, hs, hv => by
    obtain ⟨s1, s2, s3, s4⟩ := hs.node
    rw [toL_node] at hv ⊢
    have i1 := gatT_eq fl s1 fun x hx => hv x (by simp [hx])
    have i2 := gatT_eq fl s2 fun x hx => hv x (by simp [hx])
    unfold gatT
    rw [i1, i2, List.filter_append]
    by_cases hc : fl < s.a
    · rw [if_pos hc]
      rw [(List.filter_eq_nil_iff (l := s :: toL r)).2 (fun x hx => ?_), List.append_nil]
      have h1 : s.a ≤ x.a := by
        rcases List.mem_cons.1 hx with rfl | hx
        · exact Int.le_refl _
        · have := s4 x hx
          unfold ltS at this
          omega
      have h2 := hv x (List.mem_append.2 (.inr hx))
      simp
      omega
    · rw [if_neg hc]
      congr 1
      by_cases h3 : s.b ≤ fl
      · rw [if_pos h3, List.filter_cons_of_pos (by simpa using h3)]; rfl
      · rw [if_neg h3, List.filter_cons_of_neg (by simpa using h3)]; rfl
section fs
variable {g : Nat} {y : Fa} {cnt : Int} {N : List Nd} {k : Nat} {E : Seg}
theorem gather_spec (fl : Int) (h1 : ArO N N.length y.A y.c E) (h3 : Inb N) (t : Tr) : ∀ {O : List Sp} {A : Option Addr} {c : Nat} {Eo : Seg}, At N t → O.length + t.size ≤ 1099511627776 → SpL O A O.length c Eo → ∀ (w : World), Own w [fsB g y N.length k cnt, E, Eo] →
    Calls Try.prog 36 #[.pointer (some ⟨g, 0, none⟩), .int .i64 (t.ix : Nat), .int .i64 fl, .slice A O.length c] w (Ret (β := Option Addr × Nat × Seg) w (ids [fsB g y N.length k cnt, E, Eo]) (fun q => .slice q.1 (O ++ gatT fl t).length q.2.1) (fun q => [fsB g y N.length k cnt, E, q.2.2]) (fun q => SpL (O ++ gatT fl t) q.1 (O ++ gatT fl t).length q.2.1 q.2.2)) := by
  have hp := h3.pos
  have hsm := h3.small
  obtain ⟨ga, hA⟩ := h1.ptr hp
  induction t with
  | nil =>
    intro O A c Eo ht hz hb w ho
    refine go [.pointer (some ⟨g, 0, none⟩), .int .i64 0, .int .i64 fl, .slice A O.length c] [fsB g y N.length k cnt, E, Eo] Try.func36 Try.ntmps36 rfl rfl ho ?_
    rw [show O ++ gatT fl .nil = O from List.append_nil O]
    repeat (first | (apply wx_val; (first | exact v_move rfl | exact v_assign rfl | exact v_eq rfl rfl | exact v_pickT rfl rfl); rfl) | refine wx_no rfl rfl rfl ?_ | refine wc_seq ?_ | refine wc_region ?_ | refine wx_nil ?_ | refine wq_next ?_ | refine wc_ret ?_ | refine wq_then_ret ?_ | refine wc_condT rfl ?_)
    exact wq_ret1T (A, c, Eo) rfl rfl hb rfl
  | node i l s r hh ff ihl ihr =>
    intro O A c Eo ht hz hb w ho
    refine go [.pointer (some ⟨g, 0, none⟩), .int .i64 (i : Nat), .int .i64 fl, .slice A O.length c] [fsB g y N.length k cnt, E, Eo] Try.func36 Try.ntmps36 rfl rfl ho ?_
    obtain ⟨t1, t2, hnd, hl2, hr2⟩ := ht
    have hNi := (nd_mem t2).1
    have hz : O.length + (l.size + r.size + 1) ≤ 1099511627776 := hz
    have hgl := gatT_len fl l
    repeat (first | (apply wx_val; (first | exact v_move rfl | exact v_assign rfl | exact v_eq rfl rfl); rfl) | refine wc_seq ?_ | refine wc_region ?_ | refine wx_nil ?_ | refine wq_next ?_)
    refine wx_gset false rfl rfl (decide_eq_false (by omega)) ?_
    repeat (first | (apply wx_val; (first | exact v_move rfl | exact v_nil rfl | exact v_faddr rfl rfl | exact v_ldT rfl rfl rfl (by rfl) | exact v_iaddrE (by assumption) rfl rfl rfl (by omega)); rfl) | refine wx_ungd rfl rfl ?_)
    (try refine wx_ungd rfl rfl ?_)
    apply wx_val
    exact v_load rfl rfl rfl (fun w' hr => h1.elemT (i := i) hA (by decide) (fun _ => rfl) hNi hr (j := 0) (by rw [hnd]; rfl) (by omega))
    rfl
    repeat (first | (apply wx_val; (first | exact v_move rfl | exact v_gt rfl rfl | exact v_pickF rfl rfl); rfl) | refine wx_ungd rfl rfl ?_ | refine wx_nil ?_ | refine wq_next ?_)
    refine wc_if rfl (fun hc => ?_) (fun hc => ?_)
    · have eG : gatT fl (.node i l s r hh ff) = gatT fl l := if_pos hc
      rw [eG]
      repeat (first | (apply wx_val; (first | exact v_move rfl | exact v_eq rfl rfl); rfl) | refine wc_seq ?_ | refine wc_region ?_ | refine wx_nil ?_ | refine wq_next ?_)
      refine wc_not rfl (decide_eq_false (by omega)) ?_
      repeat (first | (apply wx_val; (first | exact v_move rfl | exact v_nil rfl | exact v_faddr rfl rfl | exact v_ldT rfl rfl rfl (by rfl) | exact v_iaddrE (by assumption) rfl rfl rfl (by omega)); rfl) | refine wc_seq ?_ | refine wc_region ?_ | refine wq_next ?_ | refine wc_skip ?_)
      (try refine wx_ungd rfl rfl ?_)
      apply wx_val
      exact v_load rfl rfl rfl (fun w' hr => h1.elemT (i := i) hA (by decide) (fun _ => rfl) hNi hr (j := 3) (by rw [hnd]; rfl) (by omega))
      rfl
      repeat (first | (apply wx_val; (first | exact v_move rfl); rfl))
      refine wl_callT (fun w' hr ho => ihl (O := O) (A := A) (c := c) (Eo := Eo) hl2 (by omega) hb w' ho) rfl rfl rfl ?_
      rintro ⟨A2, c2, E2⟩ hb2
      dsimp only at hb2 ⊢
      refine wx_cat ?_
      repeat (first | (apply wx_val; (first | exact v_assign rfl); rfl) | refine wx_nil ?_ | refine wq_next ?_ | refine wc_ret ?_ | refine wq_then_ret ?_)
      exact wq_ret1T (A2, c2, E2) rfl rfl hb2 rfl
    have eG : gatT fl (.node i l s r hh ff) = gatT fl l ++ ((if s.b ≤ fl then [s] else []) ++ gatT fl r) := if_neg hc
    rw [eG]
    repeat (first | (apply wx_val; (first | exact v_move rfl | exact v_nil rfl | exact v_faddr rfl rfl | exact v_ldT rfl rfl rfl (by rfl) | exact v_iaddrE (by assumption) rfl rfl rfl (by omega)); rfl) | refine wc_seq ?_ | refine wc_region ?_ | refine wq_next ?_ | refine wc_skip ?_)
    (try refine wx_ungd rfl rfl ?_)
    apply wx_val
    exact v_load rfl rfl rfl (fun w' hr => h1.elemT (i := i) hA (by decide) (fun _ => rfl) hNi hr (j := 3) (by rw [hnd]; rfl) (by omega))
    rfl
    repeat (first | (apply wx_val; (first | exact v_move rfl); rfl))
    refine wl_callT (fun w' hr ho => ihl (O := O) (A := A) (c := c) (Eo := Eo) hl2 (by omega) hb w' ho) rfl rfl rfl ?_
    rintro ⟨A2, c2, E2⟩ hb2
    dsimp only at hb2 ⊢
    refine wx_cat ?_
    repeat (first | (apply wx_val; (first | exact v_move rfl | exact v_assign rfl | exact v_nil rfl | exact v_faddr rfl rfl | exact v_ldT rfl rfl rfl (by rfl) | exact v_iaddrE (by assumption) rfl rfl rfl (by omega)); rfl) | refine wc_seq ?_ | refine wc_region ?_ | refine wx_nil ?_ | refine wq_next ?_)
    (try refine wx_ungd rfl rfl ?_)
    apply wx_val
    exact v_load rfl rfl rfl (fun w' hr => h1.elemT (i := i) hA (by decide) (fun _ => rfl) hNi hr (j := 1) (by rw [hnd]; rfl) (by omega))
    rfl
    repeat (first | (apply wx_val; (first | exact v_move rfl | exact v_le rfl rfl); rfl) | refine wx_nil ?_ | refine wq_next ?_)
    have hlen : (O ++ gatT fl l).length = O.length + (gatT fl l).length := List.length_append
    refine wc_if rfl (fun hc2 => ?_) (fun hc2 => ?_)
    · rw [if_pos hc2, show O ++ (gatT fl l ++ ([s] ++ gatT fl r)) = O ++ gatT fl l ++ [s] ++ gatT fl r by simp only [List.append_assoc]]
      repeat (first | (apply wx_val; (first | exact v_move rfl | exact v_nil rfl | exact v_faddr rfl rfl | exact v_ldT rfl rfl rfl (by rfl) | exact v_iaddrE (by assumption) rfl rfl rfl (by omega)); rfl) | refine wc_region ?_)
      (try refine wx_ungd rfl rfl ?_)
      apply wx_val
      exact v_loadA (cs := s.cells) rfl rfl (fun w' hr j u hj => h1.elemT (i := i) hA (by decide) (fun _ => rfl) hNi hr (j := j) (v := u) (by rw [hnd]; exact sp_cell hj) (by omega))
      rfl
      skip
      refine wl_lit rfl rfl rfl rfl rfl (by decide) rfl (fun g71 => ?_)
      refine wl_app1T (news := s.cells) rfl hb2 rfl rfl rfl rfl (by omega) rfl (fun A4 c4 E4 hb4 => ?_)
      have hb5 : SpL (O ++ gatT fl l ++ [s]) A4 (O ++ gatT fl l ++ [s]).length c4 E4 := by
        rw [List.length_append]
        show Buf _ _ _ _ _ _ _
        rw [List.flatMap_append]
        simpa using hb4
      rw [show (O ++ gatT fl l).length + 1 = (O ++ gatT fl l ++ [s]).length from (by generalize O ++ gatT fl l = Z; simp)]
      repeat (first | (apply wx_val; (first | exact v_move rfl | exact v_assign rfl | exact v_nil rfl | exact v_faddr rfl rfl | exact v_ldT rfl rfl rfl (by rfl) | exact v_iaddrE (by assumption) rfl rfl rfl (by omega)); rfl) | refine wc_seq ?_ | refine wc_region ?_ | refine wx_nil ?_ | refine wq_next ?_)
      (try refine wx_ungd rfl rfl ?_)
      apply wx_val
      exact v_load rfl rfl rfl (fun w' hr => h1.elemT (i := i) hA (by decide) (fun _ => rfl) hNi hr (j := 4) (by rw [hnd]; rfl) (by omega))
      rfl
      repeat (first | (apply wx_val; (first | exact v_move rfl); rfl))
      refine wl_callT (fun w' hr ho => ihr (O := (O ++ gatT fl l ++ [s])) (A := A4) (c := c4) (Eo := E4) hr2 (by simp only [List.length_append, List.length_singleton]; omega) (by assumption) w' ho) rfl rfl rfl ?_
      rintro ⟨A3, c3, E3⟩ hb3
      dsimp only at hb3 ⊢
      refine wx_cat ?_
      repeat (first | (apply wx_val; (first | exact v_assign rfl); rfl) | refine wx_nil ?_ | refine wq_next ?_ | refine wc_ret ?_)
      exact wq_ret1T (A3, c3, E3) rfl rfl hb3 rfl
    · rw [if_neg hc2, show O ++ (gatT fl l ++ ([] ++ gatT fl r)) = O ++ gatT fl l ++ gatT fl r by simp only [List.append_assoc, List.nil_append]]
      repeat (first | (apply wx_val; (first | exact v_move rfl | exact v_nil rfl | exact v_faddr rfl rfl | exact v_ldT rfl rfl rfl (by rfl) | exact v_iaddrE (by assumption) rfl rfl rfl (by omega)); rfl) | refine wc_seq ?_ | refine wc_region ?_ | refine wq_next ?_ | refine wc_skip ?_)
      (try refine wx_ungd rfl rfl ?_)
      apply wx_val
      exact v_load rfl rfl rfl (fun w' hr => h1.elemT (i := i) hA (by decide) (fun _ => rfl) hNi hr (j := 4) (by rw [hnd]; rfl) (by omega))
      rfl
      repeat (first | (apply wx_val; (first | exact v_move rfl); rfl))
      refine wl_callT (fun w' hr ho => ihr (O := (O ++ gatT fl l)) (A := A2) (c := c2) (Eo := E2) hr2 (by simp only [List.length_append, List.length_singleton]; omega) (by assumption) w' ho) rfl rfl rfl ?_
      rintro ⟨A3, c3, E3⟩ hb3
      dsimp only at hb3 ⊢
      refine wx_cat ?_
      repeat (first | (apply wx_val; (first | exact v_assign rfl); rfl) | refine wx_nil ?_ | refine wq_next ?_ | refine wc_ret ?_)
      exact wq_ret1T (A3, c3, E3) rfl rfl hb3 rfl
end fs
end Go.Proofs.Ytjeghbachokljaa
