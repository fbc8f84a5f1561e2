/- The document's bytes of a transaction. -/
import Derived.Test.YtjfjleejbbmmaaaRec3
set_option linter.unusedVariables false
set_option linter.unusedSimpArgs false
namespace Go.Proofs.Ytjfjleejbbmmaaa
open Go
set_option maxRecDepth 20000
set_option maxHeartbeats 4000000
attribute [local irreducible] WX WC WQ Val VCall
theorem refNumber_spec {A : Option Addr} {c : Nat} {l : List UInt8} {E : Seg} (hl : l.length ≤ 1048576) (hb : BufB l (A, c, E)) (n : Int) (w : World) (ho : Own w [E]) :
    Calls Try.prog 53 #[.slice A l.length c, .int .i64 n] w (RetB w (ids [E]) (l ++ formI n)) := by
  refine go [.slice A l.length c, .int .i64 n] [E] Try.func53 Try.ntmps53 rfl rfl ho ?_
  repeat (first | (apply wx_val; (first | exact v_move rfl | exact v_assign rfl); rfl) | refine wc_seq ?_ | refine wc_region ?_ | refine wx_nil ?_ | refine wq_next ?_)
  refine wl_callP [] [0] rfl rfl (fun w' hr ho => Form_spec n w') rfl rfl rfl rfl ?_
  rintro ⟨A2, c2, E2⟩ hb2
  dsimp only at hb2 ⊢
  (first | refine wx_mem (by simp only [pick, List.getElem?_cons_succ, List.getElem?_cons_zero, Option.getD_some, List.cons_append, List.nil_append, List.set_cons_zero, List.set_cons_succ] <;> rfl) ?_)
  repeat (first | (apply wx_val; (first | exact v_move rfl | exact v_assign rfl); rfl) | refine wc_seq ?_ | refine wc_region ?_ | refine wx_nil ?_ | refine wq_next ?_)
  have h8 := formI_len8 n
  refine wl_append 1 rfl rfl hb rfl rfl (fun w' hr => src_slice rfl (hb2.rd hr (i := 0) rfl) (by simp) (by decide) (one_bys _)) (by omega) rfl (fun A8 c8 E8 hb8 => ?_)
  have el : l.length + (formI n).length = (l ++ formI n).length := by simp
  rw [el, ← bys_append] at hb8
  rw [el]
  (first | refine wx_mem (by simp only [pick, List.getElem?_cons_succ, List.getElem?_cons_zero, Option.getD_some, List.cons_append, List.nil_append, List.set_cons_zero, List.set_cons_succ] <;> rfl) ?_)
  repeat (first | (apply wx_val; (first | exact v_assign rfl); rfl) | refine wx_nil ?_ | refine wq_next ?_ | refine wc_ret ?_)
  refine wq_pickP [1] [0] rfl rfl ?_
  exact wq_ret1 (A8, c8, E8) rfl rfl hb8 rfl
theorem Body_spec {t : TxnW} (w : World) (hv : t.Reads w) (he : t.err = 0) : Calls Try.prog 36 #[.agg t.cells.toArray] w (RetB w (ids []) t.body) := by
  obtain ⟨hf, hn, hr⟩ : t.FieldsOk ∧ t.ops.xs.length ≤ 16 ∧ ∀ o ∈ t.ops.xs, o.Right := by
    unfold TxnW.err at he
    split at he
    · cases he
    · split at he
      · cases he
      · split at he
        · rename_i h1 h2 h3; exact ⟨by simpa using h1, by omega, h3⟩
        · cases he
  refine go [.agg t.cells.toArray] [] Try.func36 Try.ntmps36 rfl rfl (own_nil w) ?_
  repeat (first | refine wc_seq ?_ | refine wc_region ?_)
  refine wl_box rfl rfl (fun g => ?_)
  refine wx_mem (M' := [[(g, .cells t.cells.toArray 46 (0, 0))]]) rfl ?_
  repeat (first | (apply wx_val; (first | exact v_move rfl | exact v_assign rfl | exact v_faddr rfl rfl | (apply v_load rfl rfl rfl; first | exact ld 0 0 rfl rfl rfl | exact ld 1 0 rfl rfl rfl | exact ld 2 0 rfl rfl rfl | exact ld 3 0 rfl rfl rfl | exact ld 4 0 rfl rfl rfl | exact ld 5 0 rfl rfl rfl)); rfl) | refine wc_seq ?_ | refine wc_region ?_ | refine wx_nil ?_ | refine wq_next ?_)
  have l1 := formI_len8 t.session
  have l2 := formI_len8 t.seq
  have l3 := formI_len8 t.start
  have l4 := formI_len8 t.fin
  have l5 := formI_len8 t.invoke
  have l6 := formI_len8 t.ret
  have l7 := formI_len8 t.status
  have l8 := formI_len8 (t.ops.xs.length : Nat)
  have hb : BufB [] (none, 0, []) := Buf.nil _ _
  refine wx_seg ?_
  refine wl_callP [0] [1] rfl rfl (fun w' hr ho => refNumber_spec (by simp only [List.length_append, List.length_nil]; omega) hb (t.session) w' ho) rfl rfl rfl rfl ?_
  clear hb
  rintro ⟨A, c, E⟩ hb
  dsimp only at hb ⊢
  (first | refine wx_mem (by simp only [pick, List.getElem?_cons_succ, List.getElem?_cons_zero, Option.getD_some, List.cons_append, List.nil_append, List.set_cons_zero, List.set_cons_succ] <;> rfl) ?_)
  repeat (first | (apply wx_val; (first | exact v_move rfl | exact v_assign rfl | exact v_faddr rfl rfl | (apply v_load rfl rfl rfl; first | exact ld 0 0 rfl rfl rfl | exact ld 1 0 rfl rfl rfl | exact ld 2 0 rfl rfl rfl | exact ld 3 0 rfl rfl rfl | exact ld 4 0 rfl rfl rfl | exact ld 5 0 rfl rfl rfl)); rfl) | refine wc_seq ?_ | refine wc_region ?_ | refine wx_nil ?_ | refine wq_next ?_)
  refine wl_callP [0] [1] rfl rfl (fun w' hr ho => refNumber_spec (by simp only [List.length_append, List.length_nil]; omega) hb (t.seq) w' ho) rfl rfl rfl rfl ?_
  clear hb
  rintro ⟨A, c, E⟩ hb
  dsimp only at hb ⊢
  (first | refine wx_mem (by simp only [pick, List.getElem?_cons_succ, List.getElem?_cons_zero, Option.getD_some, List.cons_append, List.nil_append, List.set_cons_zero, List.set_cons_succ] <;> rfl) ?_)
  repeat (first | (apply wx_val; (first | exact v_move rfl | exact v_assign rfl | exact v_faddr rfl rfl | (apply v_load rfl rfl rfl; first | exact ld 0 0 rfl rfl rfl | exact ld 1 0 rfl rfl rfl | exact ld 2 0 rfl rfl rfl | exact ld 3 0 rfl rfl rfl | exact ld 4 0 rfl rfl rfl | exact ld 5 0 rfl rfl rfl)); rfl) | refine wc_seq ?_ | refine wc_region ?_ | refine wx_nil ?_ | refine wq_next ?_)
  refine wl_callP [0] [1] rfl rfl (fun w' hr ho => refNumber_spec (by simp only [List.length_append, List.length_nil]; omega) hb (t.start) w' ho) rfl rfl rfl rfl ?_
  clear hb
  rintro ⟨A, c, E⟩ hb
  dsimp only at hb ⊢
  (first | refine wx_mem (by simp only [pick, List.getElem?_cons_succ, List.getElem?_cons_zero, Option.getD_some, List.cons_append, List.nil_append, List.set_cons_zero, List.set_cons_succ] <;> rfl) ?_)
  repeat (first | (apply wx_val; (first | exact v_move rfl | exact v_assign rfl | exact v_faddr rfl rfl | (apply v_load rfl rfl rfl; first | exact ld 0 0 rfl rfl rfl | exact ld 1 0 rfl rfl rfl | exact ld 2 0 rfl rfl rfl | exact ld 3 0 rfl rfl rfl | exact ld 4 0 rfl rfl rfl | exact ld 5 0 rfl rfl rfl)); rfl) | refine wc_seq ?_ | refine wc_region ?_ | refine wx_nil ?_ | refine wq_next ?_)
  refine wl_callP [0] [1] rfl rfl (fun w' hr ho => refNumber_spec (by simp only [List.length_append, List.length_nil]; omega) hb (t.fin) w' ho) rfl rfl rfl rfl ?_
  clear hb
  rintro ⟨A, c, E⟩ hb
  dsimp only at hb ⊢
  (first | refine wx_mem (by simp only [pick, List.getElem?_cons_succ, List.getElem?_cons_zero, Option.getD_some, List.cons_append, List.nil_append, List.set_cons_zero, List.set_cons_succ] <;> rfl) ?_)
  repeat (first | (apply wx_val; (first | exact v_move rfl | exact v_assign rfl | exact v_faddr rfl rfl | (apply v_load rfl rfl rfl; first | exact ld 0 0 rfl rfl rfl | exact ld 1 0 rfl rfl rfl | exact ld 2 0 rfl rfl rfl | exact ld 3 0 rfl rfl rfl | exact ld 4 0 rfl rfl rfl | exact ld 5 0 rfl rfl rfl)); rfl) | refine wc_seq ?_ | refine wc_region ?_ | refine wx_nil ?_ | refine wq_next ?_)
  refine wl_callP [0] [1] rfl rfl (fun w' hr ho => refNumber_spec (by simp only [List.length_append, List.length_nil]; omega) hb (t.invoke) w' ho) rfl rfl rfl rfl ?_
  clear hb
  rintro ⟨A, c, E⟩ hb
  dsimp only at hb ⊢
  (first | refine wx_mem (by simp only [pick, List.getElem?_cons_succ, List.getElem?_cons_zero, Option.getD_some, List.cons_append, List.nil_append, List.set_cons_zero, List.set_cons_succ] <;> rfl) ?_)
  repeat (first | (apply wx_val; (first | exact v_move rfl | exact v_assign rfl | exact v_faddr rfl rfl | (apply v_load rfl rfl rfl; first | exact ld 0 0 rfl rfl rfl | exact ld 1 0 rfl rfl rfl | exact ld 2 0 rfl rfl rfl | exact ld 3 0 rfl rfl rfl | exact ld 4 0 rfl rfl rfl | exact ld 5 0 rfl rfl rfl)); rfl) | refine wc_seq ?_ | refine wc_region ?_ | refine wx_nil ?_ | refine wq_next ?_)
  refine wl_callP [0] [1] rfl rfl (fun w' hr ho => refNumber_spec (by simp only [List.length_append, List.length_nil]; omega) hb (t.ret) w' ho) rfl rfl rfl rfl ?_
  clear hb
  rintro ⟨A, c, E⟩ hb
  dsimp only at hb ⊢
  (first | refine wx_mem (by simp only [pick, List.getElem?_cons_succ, List.getElem?_cons_zero, Option.getD_some, List.cons_append, List.nil_append, List.set_cons_zero, List.set_cons_succ] <;> rfl) ?_)
  repeat (first | (apply wx_val; (first | exact v_move rfl | exact v_assign rfl | exact v_faddr rfl rfl | (apply v_load rfl rfl rfl; first | exact ld 0 0 rfl rfl rfl | exact ld 1 0 rfl rfl rfl | exact ld 2 0 rfl rfl rfl | exact ld 3 0 rfl rfl rfl | exact ld 4 0 rfl rfl rfl | exact ld 5 0 rfl rfl rfl)); rfl) | refine wc_seq ?_ | refine wc_region ?_ | refine wx_nil ?_ | refine wq_next ?_)
  refine wl_callP [0] [1] rfl rfl (fun w' hr ho => refNumber_spec (by simp only [List.length_append, List.length_nil]; omega) hb (t.status) w' ho) rfl rfl rfl rfl ?_
  clear hb
  rintro ⟨A, c, E⟩ hb
  dsimp only at hb ⊢
  (first | refine wx_mem (by simp only [pick, List.getElem?_cons_succ, List.getElem?_cons_zero, Option.getD_some, List.cons_append, List.nil_append, List.set_cons_zero, List.set_cons_succ] <;> rfl) ?_)
  repeat (first | (apply wx_val; (first | exact v_move rfl | exact v_assign rfl | exact v_faddr rfl rfl | (apply v_load rfl rfl rfl; first | exact ld 0 0 rfl rfl rfl | exact ld 1 0 rfl rfl rfl | exact ld 2 0 rfl rfl rfl | exact ld 3 0 rfl rfl rfl | exact ld 4 0 rfl rfl rfl | exact ld 5 0 rfl rfl rfl) | exact v_len rfl rfl); rfl) | refine wc_seq ?_ | refine wc_region ?_ | refine wx_nil ?_ | refine wq_next ?_)
  refine wl_callP [0] [1] rfl rfl (fun w' hr ho => refNumber_spec (by simp only [List.length_append, List.length_nil]; omega) hb ((t.ops.xs.length : Nat)) w' ho) rfl rfl rfl rfl ?_
  clear hb
  rintro ⟨A, c, E⟩ hb
  dsimp only at hb ⊢
  (first | refine wx_mem (by simp only [pick, List.getElem?_cons_succ, List.getElem?_cons_zero, Option.getD_some, List.cons_append, List.nil_append, List.set_cons_zero, List.set_cons_succ] <;> rfl) ?_)
  repeat (first | (apply wx_val; (first | exact v_assign rfl); rfl) | refine wc_seq ?_ | refine wc_region ?_ | refine wx_nil ?_ | refine wq_next ?_ | refine wc_block ?_)
  have e0 : [] ++ formI t.session ++ formI t.seq ++ formI t.start ++ formI t.fin ++ formI t.invoke ++ formI t.ret ++ formI t.status ++ formI (t.ops.xs.length : Nat) = intsB t.ints ++ opsB (t.ops.xs.take 0) := by simp [intsB, opsB, TxnW.ints]
  rw [e0] at hb ⊢
  refine wc_loop (ι := Nat × Option Addr × Nat × Seg) (fun i => [(1, .pointer (some ⟨g, 0, none⟩)), (3, .slice i.2.1 (intsB t.ints ++ opsB (t.ops.xs.take i.1)).length i.2.2.1), (4, .int .i64 (i.1 : Nat))]) (fun i => [i.2.2.2, [(g, .cells t.cells.toArray 46 (0, 0))]])
    (fun i => i.1 ≤ t.ops.xs.length ∧ BufB (intsB t.ints ++ opsB (t.ops.xs.take i.1)) i.2) (fun i => t.ops.xs.length - i.1) (0, A, c, E) ⟨by simp, hb⟩ ⟨rfl, rfl, rfl, trivial⟩ rfl ?_
  clear hb e0
  rintro ⟨i, A, c, E⟩ ⟨hi, hb⟩
  dsimp only at hi hb ⊢
  have hl1 := intsB_len t.ints
  have hil : t.ints.length = 8 := rfl
  have hl2 := opsB_len (l := t.ops.xs.take i) (fun o ho => hr o (List.mem_of_mem_take ho))
  have hl3 : (t.ops.xs.take i).length ≤ 16 := by simp; omega
  have hl4 : (intsB t.ints ++ opsB (t.ops.xs.take i)).length ≤ 496 := by rw [List.length_append]; omega
  repeat (first | (apply wx_val; (first | exact v_move rfl | exact v_faddr rfl rfl | (apply v_load rfl rfl rfl; first | exact ld 0 0 rfl rfl rfl | exact ld 1 0 rfl rfl rfl | exact ld 2 0 rfl rfl rfl | exact ld 3 0 rfl rfl rfl | exact ld 4 0 rfl rfl rfl | exact ld 5 0 rfl rfl rfl) | exact v_len rfl rfl | exact v_lt rfl rfl); rfl) | refine wc_seq ?_ | refine wc_region ?_ | refine wx_nil ?_ | refine wq_next ?_)
  refine wc_if rfl (fun h1 => ?_) (fun h1 => ?_)
  case refine_2 =>
    have hi' : i = t.ops.xs.length := by omega
    subst hi'
    have e0 : intsB t.ints ++ opsB (t.ops.xs.take t.ops.xs.length) = t.body := by rw [List.take_length]; rfl
    rw [e0] at hb ⊢
    repeat (first | (apply wx_val; (first | exact v_move rfl | exact v_assign rfl); rfl) | refine wc_seq ?_ | refine wc_region ?_ | refine wx_nil ?_ | refine wq_next ?_ | refine wc_ret ?_ | refine wc_exit ?_ | refine wq_then_exit ?_ | refine wq_block_exit rfl ?_)
    refine wq_pickP [0] [1] rfl rfl ?_
    exact wq_ret1 (A, c, E) rfl rfl hb rfl
  obtain ⟨a, ha⟩ : ∃ a, t.ops.xs[i]? = some a := ⟨t.ops.xs[i]'(by omega), List.getElem?_eq_getElem _⟩
  have har := hr a (List.mem_of_getElem? ha)
  obtain ⟨gB, oB, hA, hcell⟩ := cells_at (k := 4) (by decide) (fun _ => rfl) hv ha
  have en : intsB t.ints ++ opsB (t.ops.xs.take (i + 1)) = intsB t.ints ++ opsB (t.ops.xs.take i) ++ a.bytes := by rw [List.append_assoc]; congr 1; exact flat_take ha
  have hks : a.key.size ≤ 8 := har.2.1
  have hvs : a.value.size ≤ 16 := har.2.2.1
  repeat (first | (apply wx_val; (first | exact v_move rfl | exact v_faddr rfl rfl | (apply v_load rfl rfl rfl; first | exact ld 0 0 rfl rfl rfl | exact ld 1 0 rfl rfl rfl | exact ld 2 0 rfl rfl rfl | exact ld 3 0 rfl rfl rfl | exact ld 4 0 rfl rfl rfl | exact ld 5 0 rfl rfl rfl)); rfl) | refine wc_seq ?_ | refine wc_region ?_ | refine wq_next ?_ | refine wc_block ?_ | refine wc_skip ?_)
  apply wx_val
  exact v_iaddr rfl (by rw [← hA]; rfl) rfl (by omega)
  rfl
  apply wx_val
  exact v_loadA (cs := OpW.cells a) rfl rfl (fun w' hr j v hj => by
    have := hcell i a ha hr j v hj
    rw [show (i : Int).toNat = i by omega]
    exact this)
  rfl
  refine wl_alloc rfl rfl (fun g2 => ?_)
  repeat (first | (apply wx_val; (first | exact v_assign rfl | exact v_faddr rfl rfl | (apply v_load rfl rfl rfl; first | exact ld 0 0 rfl rfl rfl | exact ld 1 0 rfl rfl rfl | exact ld 2 0 rfl rfl rfl | exact ld 3 0 rfl rfl rfl | exact ld 4 0 rfl rfl rfl | exact ld 5 0 rfl rfl rfl)); rfl) | refine wc_seq ?_ | refine wc_region ?_ | refine wx_nil ?_ | refine wq_next ?_ | refine wl_stA 0 rfl rfl rfl rfl rfl (.inl (Nat.le_refl _)) rfl ?_)
  have hki := har.2.2.2
  clear hcell ha har
  obtain ⟨k, key, found, value⟩ := a
  dsimp only at hks hvs hki en
  rcases hki with ⟨rfl, hfv⟩ | ⟨rfl, rfl⟩ | ⟨rfl, rfl, hv0⟩
  · cases found
    case false =>
      repeat (first | (apply wx_val; (first | exact v_move rfl | exact v_faddr rfl rfl | (apply v_load rfl rfl rfl; first | exact ld 0 0 rfl rfl rfl | exact ld 1 0 rfl rfl rfl | exact ld 2 0 rfl rfl rfl | exact ld 3 0 rfl rfl rfl | exact ld 4 0 rfl rfl rfl | exact ld 5 0 rfl rfl rfl) | exact v_eq rfl rfl); rfl) | refine wc_seq ?_ | refine wc_region ?_ | refine wx_nil ?_ | refine wq_next ?_ | refine wc_skip ?_ | refine wc_condF rfl ?_)
      refine wl_lit rfl rfl rfl rfl rfl (by decide) rfl (fun g3 => ?_)
      refine wl_append1 1 rfl rfl rfl hb rfl rfl rfl (by intro u hu; simp [catL, cellsL] at hu; subst hu; rfl) (by omega) rfl (fun A3 c3 E3 hb3 => ?_)
      rw [lit_bys (by omega), ← bys_append] at hb3
      have ek : (intsB t.ints ++ opsB (t.ops.xs.take i)).length + 1 = (intsB t.ints ++ opsB (t.ops.xs.take i) ++ [UInt8.ofNat (2 : Int).toNat]).length := by simp only [List.length_append, List.length_cons, List.length_nil]
      rw [ek] at hb3 ⊢
      (first | refine wx_mem (by simp only [pick, List.getElem?_cons_succ, List.getElem?_cons_zero, Option.getD_some, List.cons_append, List.nil_append, List.set_cons_zero, List.set_cons_succ] <;> rfl) ?_)
      repeat (first | (apply wx_val; (first | exact v_assign rfl | exact v_faddr rfl rfl | (apply v_load rfl rfl rfl; first | exact ld 0 0 rfl rfl rfl | exact ld 1 0 rfl rfl rfl | exact ld 2 0 rfl rfl rfl | exact ld 3 0 rfl rfl rfl | exact ld 4 0 rfl rfl rfl | exact ld 5 0 rfl rfl rfl)); rfl) | refine wc_seq ?_ | refine wc_region ?_ | refine wx_nil ?_ | refine wq_next ?_)
      refine wl_callP [] [0, 1, 2] rfl rfl (fun w' hr ho => refText_spec (s := key) (by omega) w') rfl rfl rfl rfl ?_
      rintro ⟨A5, c5, E5⟩ hb5
      dsimp only at hb5 ⊢
      (first | refine wx_mem (by simp only [pick, List.getElem?_cons_succ, List.getElem?_cons_zero, Option.getD_some, List.cons_append, List.nil_append, List.set_cons_zero, List.set_cons_succ] <;> rfl) ?_)
      repeat (first | (apply wx_val; (first | exact v_move rfl | exact v_assign rfl); rfl) | refine wc_seq ?_ | refine wc_region ?_ | refine wx_nil ?_ | refine wq_next ?_)
      have l5 := textB_short (s := key) (by omega)
      refine wl_append 2 rfl rfl hb3 rfl rfl (fun w' hr => src_slice rfl (hb5.rd hr (i := 0) rfl) (by simp) (by decide) (one_bys _)) (by simp only [List.length_append, List.length_cons, List.length_nil] at hl4 ⊢; omega) rfl (fun A6 c6 E6 hb6 => ?_)
      have el : (intsB t.ints ++ opsB (t.ops.xs.take i) ++ [UInt8.ofNat (2 : Int).toNat]).length + (textB key).length = (intsB t.ints ++ opsB (t.ops.xs.take i) ++ [UInt8.ofNat (2 : Int).toNat] ++ textB key).length := by simp only [List.length_append]
      rw [el, ← bys_append] at hb6
      rw [el]
      (first | refine wx_mem (by simp only [pick, List.getElem?_cons_succ, List.getElem?_cons_zero, Option.getD_some, List.cons_append, List.nil_append, List.set_cons_zero, List.set_cons_succ] <;> rfl) ?_)
      refine wx_pickP [1, 2, 3] [0] rfl rfl ?_
      (first | refine wx_mem (by simp only [pick, List.getElem?_cons_succ, List.getElem?_cons_zero, Option.getD_some, List.cons_append, List.nil_append, List.set_cons_zero, List.set_cons_succ] <;> rfl) ?_)
      repeat (first | (apply wx_val; (first | exact v_move rfl | exact v_assign rfl | exact v_faddr rfl rfl | (apply v_load rfl rfl rfl; first | exact ld 0 0 rfl rfl rfl | exact ld 1 0 rfl rfl rfl | exact ld 2 0 rfl rfl rfl | exact ld 3 0 rfl rfl rfl | exact ld 4 0 rfl rfl rfl | exact ld 5 0 rfl rfl rfl) | exact v_addi rfl rfl (by omega)); rfl) | refine wc_seq ?_ | refine wc_region ?_ | refine wx_nil ?_ | refine wq_next ?_ | refine wc_skip ?_ | refine wq_block ?_ | refine wc_condF rfl ?_)
      have en2 : intsB t.ints ++ opsB (t.ops.xs.take i) ++ [UInt8.ofNat (2 : Int).toNat] ++ textB key = intsB t.ints ++ opsB (t.ops.xs.take (i + 1)) := by rw [en]; simp [OpW.bytes, OpW.tag]
      rw [en2] at hb6 ⊢
      refine wq_pickP [1, 2] [0] rfl rfl ?_
      exact wq_round (i + 1, A6, c6, E6) ⟨by (try dsimp only); omega, hb6⟩ (by (try dsimp only); omega) ⟨rfl, rfl, rfl, trivial⟩ rfl
    case true =>
      repeat (first | (apply wx_val; (first | exact v_move rfl | exact v_assign rfl | exact v_faddr rfl rfl | (apply v_load rfl rfl rfl; first | exact ld 0 0 rfl rfl rfl | exact ld 1 0 rfl rfl rfl | exact ld 2 0 rfl rfl rfl | exact ld 3 0 rfl rfl rfl | exact ld 4 0 rfl rfl rfl | exact ld 5 0 rfl rfl rfl) | exact v_eq rfl rfl); rfl) | refine wc_seq ?_ | refine wc_region ?_ | refine wx_nil ?_ | refine wq_next ?_ | refine wc_skip ?_ | refine wc_condT rfl ?_ | refine wc_condF rfl ?_)
      refine wl_lit rfl rfl rfl rfl rfl (by decide) rfl (fun g3 => ?_)
      refine wl_append1 1 rfl rfl rfl hb rfl rfl rfl (by intro u hu; simp [catL, cellsL] at hu; subst hu; rfl) (by omega) rfl (fun A3 c3 E3 hb3 => ?_)
      rw [lit_bys (by omega), ← bys_append] at hb3
      have ek : (intsB t.ints ++ opsB (t.ops.xs.take i)).length + 1 = (intsB t.ints ++ opsB (t.ops.xs.take i) ++ [UInt8.ofNat (1 : Int).toNat]).length := by simp only [List.length_append, List.length_cons, List.length_nil]
      rw [ek] at hb3 ⊢
      (first | refine wx_mem (by simp only [pick, List.getElem?_cons_succ, List.getElem?_cons_zero, Option.getD_some, List.cons_append, List.nil_append, List.set_cons_zero, List.set_cons_succ] <;> rfl) ?_)
      repeat (first | (apply wx_val; (first | exact v_assign rfl | exact v_faddr rfl rfl | (apply v_load rfl rfl rfl; first | exact ld 0 0 rfl rfl rfl | exact ld 1 0 rfl rfl rfl | exact ld 2 0 rfl rfl rfl | exact ld 3 0 rfl rfl rfl | exact ld 4 0 rfl rfl rfl | exact ld 5 0 rfl rfl rfl)); rfl) | refine wc_seq ?_ | refine wc_region ?_ | refine wx_nil ?_ | refine wq_next ?_)
      refine wl_callP [] [0, 1, 2] rfl rfl (fun w' hr ho => refText_spec (s := key) (by omega) w') rfl rfl rfl rfl ?_
      rintro ⟨A5, c5, E5⟩ hb5
      dsimp only at hb5 ⊢
      (first | refine wx_mem (by simp only [pick, List.getElem?_cons_succ, List.getElem?_cons_zero, Option.getD_some, List.cons_append, List.nil_append, List.set_cons_zero, List.set_cons_succ] <;> rfl) ?_)
      repeat (first | (apply wx_val; (first | exact v_move rfl | exact v_assign rfl); rfl) | refine wc_seq ?_ | refine wc_region ?_ | refine wx_nil ?_ | refine wq_next ?_)
      have l5 := textB_short (s := key) (by omega)
      refine wl_append 2 rfl rfl hb3 rfl rfl (fun w' hr => src_slice rfl (hb5.rd hr (i := 0) rfl) (by simp) (by decide) (one_bys _)) (by simp only [List.length_append, List.length_cons, List.length_nil] at hl4 ⊢; omega) rfl (fun A6 c6 E6 hb6 => ?_)
      have el : (intsB t.ints ++ opsB (t.ops.xs.take i) ++ [UInt8.ofNat (1 : Int).toNat]).length + (textB key).length = (intsB t.ints ++ opsB (t.ops.xs.take i) ++ [UInt8.ofNat (1 : Int).toNat] ++ textB key).length := by simp only [List.length_append]
      rw [el, ← bys_append] at hb6
      rw [el]
      (first | refine wx_mem (by simp only [pick, List.getElem?_cons_succ, List.getElem?_cons_zero, Option.getD_some, List.cons_append, List.nil_append, List.set_cons_zero, List.set_cons_succ] <;> rfl) ?_)
      refine wx_pickP [1, 2, 3] [0] rfl rfl ?_
      (first | refine wx_mem (by simp only [pick, List.getElem?_cons_succ, List.getElem?_cons_zero, Option.getD_some, List.cons_append, List.nil_append, List.set_cons_zero, List.set_cons_succ] <;> rfl) ?_)
      repeat (first | (apply wx_val; (first | exact v_assign rfl | exact v_faddr rfl rfl | (apply v_load rfl rfl rfl; first | exact ld 0 0 rfl rfl rfl | exact ld 1 0 rfl rfl rfl | exact ld 2 0 rfl rfl rfl | exact ld 3 0 rfl rfl rfl | exact ld 4 0 rfl rfl rfl | exact ld 5 0 rfl rfl rfl)); rfl) | refine wc_seq ?_ | refine wc_region ?_ | refine wx_nil ?_ | refine wq_next ?_ | refine wc_condT rfl ?_)
      refine wl_callP [] [0, 1, 2] rfl rfl (fun w' hr ho => refText_spec (s := value) (by omega) w') rfl rfl rfl rfl ?_
      rintro ⟨A7, c7, E7⟩ hb7
      dsimp only at hb7 ⊢
      (first | refine wx_mem (by simp only [pick, List.getElem?_cons_succ, List.getElem?_cons_zero, Option.getD_some, List.cons_append, List.nil_append, List.set_cons_zero, List.set_cons_succ] <;> rfl) ?_)
      repeat (first | (apply wx_val; (first | exact v_move rfl | exact v_assign rfl); rfl) | refine wc_region ?_ | refine wx_nil ?_ | refine wq_next ?_)
      have l7 := textB_short (s := value) (by omega)
      refine wl_append 2 rfl rfl hb6 rfl rfl (fun w' hr => src_slice rfl (hb7.rd hr (i := 0) rfl) (by simp) (by decide) (one_bys _)) (by simp only [List.length_append, List.length_cons, List.length_nil] at hl4 ⊢; omega) rfl (fun A8 c8 E8 hb8 => ?_)
      have el2 : (intsB t.ints ++ opsB (t.ops.xs.take i) ++ [UInt8.ofNat (1 : Int).toNat] ++ textB key).length + (textB value).length = (intsB t.ints ++ opsB (t.ops.xs.take i) ++ [UInt8.ofNat (1 : Int).toNat] ++ textB key ++ textB value).length := by simp only [List.length_append]
      rw [el2, ← bys_append] at hb8
      rw [el2]
      have en2 : intsB t.ints ++ opsB (t.ops.xs.take i) ++ [UInt8.ofNat (1 : Int).toNat] ++ textB key ++ textB value = intsB t.ints ++ opsB (t.ops.xs.take (i + 1)) := by rw [en]; simp [OpW.bytes, OpW.tag]
      rw [en2] at hb8 ⊢
      (first | refine wx_mem (by simp only [pick, List.getElem?_cons_succ, List.getElem?_cons_zero, Option.getD_some, List.cons_append, List.nil_append, List.set_cons_zero, List.set_cons_succ] <;> rfl) ?_)
      repeat (first | (apply wx_val; (first | exact v_move rfl | exact v_assign rfl | exact v_addi rfl rfl (by omega)); rfl) | refine wc_region ?_ | refine wx_nil ?_ | refine wq_next ?_ | refine wq_block ?_)
      refine wq_pickP [2, 3] [0, 1] rfl rfl ?_
      exact wq_round (i + 1, A8, c8, E8) ⟨by (try dsimp only); omega, hb8⟩ (by (try dsimp only); omega) ⟨rfl, rfl, rfl, trivial⟩ rfl
  · skip
    repeat (first | (apply wx_val; (first | exact v_move rfl | exact v_assign rfl | exact v_faddr rfl rfl | (apply v_load rfl rfl rfl; first | exact ld 0 0 rfl rfl rfl | exact ld 1 0 rfl rfl rfl | exact ld 2 0 rfl rfl rfl | exact ld 3 0 rfl rfl rfl | exact ld 4 0 rfl rfl rfl | exact ld 5 0 rfl rfl rfl) | exact v_eq rfl rfl); rfl) | refine wc_seq ?_ | refine wc_region ?_ | refine wx_nil ?_ | refine wq_next ?_ | refine wc_skip ?_ | refine wc_condT rfl ?_ | refine wc_condF rfl ?_)
    refine wl_lit rfl rfl rfl rfl rfl (by decide) rfl (fun g3 => ?_)
    refine wl_append1 1 rfl rfl rfl hb rfl rfl rfl (by intro u hu; simp [catL, cellsL] at hu; subst hu; rfl) (by omega) rfl (fun A3 c3 E3 hb3 => ?_)
    rw [lit_bys (by omega), ← bys_append] at hb3
    have ek : (intsB t.ints ++ opsB (t.ops.xs.take i)).length + 1 = (intsB t.ints ++ opsB (t.ops.xs.take i) ++ [UInt8.ofNat (3 : Int).toNat]).length := by simp only [List.length_append, List.length_cons, List.length_nil]
    rw [ek] at hb3 ⊢
    (first | refine wx_mem (by simp only [pick, List.getElem?_cons_succ, List.getElem?_cons_zero, Option.getD_some, List.cons_append, List.nil_append, List.set_cons_zero, List.set_cons_succ] <;> rfl) ?_)
    repeat (first | (apply wx_val; (first | exact v_assign rfl | exact v_faddr rfl rfl | (apply v_load rfl rfl rfl; first | exact ld 0 0 rfl rfl rfl | exact ld 1 0 rfl rfl rfl | exact ld 2 0 rfl rfl rfl | exact ld 3 0 rfl rfl rfl | exact ld 4 0 rfl rfl rfl | exact ld 5 0 rfl rfl rfl)); rfl) | refine wc_seq ?_ | refine wc_region ?_ | refine wx_nil ?_ | refine wq_next ?_)
    refine wl_callP [] [0, 1, 2] rfl rfl (fun w' hr ho => refText_spec (s := key) (by omega) w') rfl rfl rfl rfl ?_
    rintro ⟨A5, c5, E5⟩ hb5
    dsimp only at hb5 ⊢
    (first | refine wx_mem (by simp only [pick, List.getElem?_cons_succ, List.getElem?_cons_zero, Option.getD_some, List.cons_append, List.nil_append, List.set_cons_zero, List.set_cons_succ] <;> rfl) ?_)
    repeat (first | (apply wx_val; (first | exact v_move rfl | exact v_assign rfl); rfl) | refine wc_seq ?_ | refine wc_region ?_ | refine wx_nil ?_ | refine wq_next ?_)
    have l5 := textB_short (s := key) (by omega)
    refine wl_append 2 rfl rfl hb3 rfl rfl (fun w' hr => src_slice rfl (hb5.rd hr (i := 0) rfl) (by simp) (by decide) (one_bys _)) (by simp only [List.length_append, List.length_cons, List.length_nil] at hl4 ⊢; omega) rfl (fun A6 c6 E6 hb6 => ?_)
    have el : (intsB t.ints ++ opsB (t.ops.xs.take i) ++ [UInt8.ofNat (3 : Int).toNat]).length + (textB key).length = (intsB t.ints ++ opsB (t.ops.xs.take i) ++ [UInt8.ofNat (3 : Int).toNat] ++ textB key).length := by simp only [List.length_append]
    rw [el, ← bys_append] at hb6
    rw [el]
    (first | refine wx_mem (by simp only [pick, List.getElem?_cons_succ, List.getElem?_cons_zero, Option.getD_some, List.cons_append, List.nil_append, List.set_cons_zero, List.set_cons_succ] <;> rfl) ?_)
    refine wx_pickP [1, 2, 3] [0] rfl rfl ?_
    (first | refine wx_mem (by simp only [pick, List.getElem?_cons_succ, List.getElem?_cons_zero, Option.getD_some, List.cons_append, List.nil_append, List.set_cons_zero, List.set_cons_succ] <;> rfl) ?_)
    repeat (first | (apply wx_val; (first | exact v_assign rfl | exact v_faddr rfl rfl | (apply v_load rfl rfl rfl; first | exact ld 0 0 rfl rfl rfl | exact ld 1 0 rfl rfl rfl | exact ld 2 0 rfl rfl rfl | exact ld 3 0 rfl rfl rfl | exact ld 4 0 rfl rfl rfl | exact ld 5 0 rfl rfl rfl)); rfl) | refine wc_seq ?_ | refine wc_region ?_ | refine wx_nil ?_ | refine wq_next ?_ | refine wc_condT rfl ?_)
    refine wl_callP [] [0, 1, 2] rfl rfl (fun w' hr ho => refText_spec (s := value) (by omega) w') rfl rfl rfl rfl ?_
    rintro ⟨A7, c7, E7⟩ hb7
    dsimp only at hb7 ⊢
    (first | refine wx_mem (by simp only [pick, List.getElem?_cons_succ, List.getElem?_cons_zero, Option.getD_some, List.cons_append, List.nil_append, List.set_cons_zero, List.set_cons_succ] <;> rfl) ?_)
    repeat (first | (apply wx_val; (first | exact v_move rfl | exact v_assign rfl); rfl) | refine wc_region ?_ | refine wx_nil ?_ | refine wq_next ?_)
    have l7 := textB_short (s := value) (by omega)
    refine wl_append 2 rfl rfl hb6 rfl rfl (fun w' hr => src_slice rfl (hb7.rd hr (i := 0) rfl) (by simp) (by decide) (one_bys _)) (by simp only [List.length_append, List.length_cons, List.length_nil] at hl4 ⊢; omega) rfl (fun A8 c8 E8 hb8 => ?_)
    have el2 : (intsB t.ints ++ opsB (t.ops.xs.take i) ++ [UInt8.ofNat (3 : Int).toNat] ++ textB key).length + (textB value).length = (intsB t.ints ++ opsB (t.ops.xs.take i) ++ [UInt8.ofNat (3 : Int).toNat] ++ textB key ++ textB value).length := by simp only [List.length_append]
    rw [el2, ← bys_append] at hb8
    rw [el2]
    have en2 : intsB t.ints ++ opsB (t.ops.xs.take i) ++ [UInt8.ofNat (3 : Int).toNat] ++ textB key ++ textB value = intsB t.ints ++ opsB (t.ops.xs.take (i + 1)) := by rw [en]; simp [OpW.bytes, OpW.tag]
    rw [en2] at hb8 ⊢
    (first | refine wx_mem (by simp only [pick, List.getElem?_cons_succ, List.getElem?_cons_zero, Option.getD_some, List.cons_append, List.nil_append, List.set_cons_zero, List.set_cons_succ] <;> rfl) ?_)
    repeat (first | (apply wx_val; (first | exact v_move rfl | exact v_assign rfl | exact v_addi rfl rfl (by omega)); rfl) | refine wc_region ?_ | refine wx_nil ?_ | refine wq_next ?_ | refine wq_block ?_)
    refine wq_pickP [2, 3] [0, 1] rfl rfl ?_
    exact wq_round (i + 1, A8, c8, E8) ⟨by (try dsimp only); omega, hb8⟩ (by (try dsimp only); omega) ⟨rfl, rfl, rfl, trivial⟩ rfl
  · skip
    repeat (first | (apply wx_val; (first | exact v_move rfl | exact v_assign rfl | exact v_faddr rfl rfl | (apply v_load rfl rfl rfl; first | exact ld 0 0 rfl rfl rfl | exact ld 1 0 rfl rfl rfl | exact ld 2 0 rfl rfl rfl | exact ld 3 0 rfl rfl rfl | exact ld 4 0 rfl rfl rfl | exact ld 5 0 rfl rfl rfl) | exact v_eq rfl rfl); rfl) | refine wc_seq ?_ | refine wc_region ?_ | refine wx_nil ?_ | refine wq_next ?_ | refine wc_skip ?_ | refine wc_condT rfl ?_ | refine wc_condF rfl ?_)
    refine wl_lit rfl rfl rfl rfl rfl (by decide) rfl (fun g3 => ?_)
    refine wl_append1 1 rfl rfl rfl hb rfl rfl rfl (by intro u hu; simp [catL, cellsL] at hu; subst hu; rfl) (by omega) rfl (fun A3 c3 E3 hb3 => ?_)
    rw [lit_bys (by omega), ← bys_append] at hb3
    have ek : (intsB t.ints ++ opsB (t.ops.xs.take i)).length + 1 = (intsB t.ints ++ opsB (t.ops.xs.take i) ++ [UInt8.ofNat (4 : Int).toNat]).length := by simp only [List.length_append, List.length_cons, List.length_nil]
    rw [ek] at hb3 ⊢
    (first | refine wx_mem (by simp only [pick, List.getElem?_cons_succ, List.getElem?_cons_zero, Option.getD_some, List.cons_append, List.nil_append, List.set_cons_zero, List.set_cons_succ] <;> rfl) ?_)
    repeat (first | (apply wx_val; (first | exact v_assign rfl | exact v_faddr rfl rfl | (apply v_load rfl rfl rfl; first | exact ld 0 0 rfl rfl rfl | exact ld 1 0 rfl rfl rfl | exact ld 2 0 rfl rfl rfl | exact ld 3 0 rfl rfl rfl | exact ld 4 0 rfl rfl rfl | exact ld 5 0 rfl rfl rfl)); rfl) | refine wc_seq ?_ | refine wc_region ?_ | refine wx_nil ?_ | refine wq_next ?_)
    refine wl_callP [] [0, 1, 2] rfl rfl (fun w' hr ho => refText_spec (s := key) (by omega) w') rfl rfl rfl rfl ?_
    rintro ⟨A5, c5, E5⟩ hb5
    dsimp only at hb5 ⊢
    (first | refine wx_mem (by simp only [pick, List.getElem?_cons_succ, List.getElem?_cons_zero, Option.getD_some, List.cons_append, List.nil_append, List.set_cons_zero, List.set_cons_succ] <;> rfl) ?_)
    repeat (first | (apply wx_val; (first | exact v_move rfl | exact v_assign rfl); rfl) | refine wc_seq ?_ | refine wc_region ?_ | refine wx_nil ?_ | refine wq_next ?_)
    have l5 := textB_short (s := key) (by omega)
    refine wl_append 2 rfl rfl hb3 rfl rfl (fun w' hr => src_slice rfl (hb5.rd hr (i := 0) rfl) (by simp) (by decide) (one_bys _)) (by simp only [List.length_append, List.length_cons, List.length_nil] at hl4 ⊢; omega) rfl (fun A6 c6 E6 hb6 => ?_)
    have el : (intsB t.ints ++ opsB (t.ops.xs.take i) ++ [UInt8.ofNat (4 : Int).toNat]).length + (textB key).length = (intsB t.ints ++ opsB (t.ops.xs.take i) ++ [UInt8.ofNat (4 : Int).toNat] ++ textB key).length := by simp only [List.length_append]
    rw [el, ← bys_append] at hb6
    rw [el]
    (first | refine wx_mem (by simp only [pick, List.getElem?_cons_succ, List.getElem?_cons_zero, Option.getD_some, List.cons_append, List.nil_append, List.set_cons_zero, List.set_cons_succ] <;> rfl) ?_)
    refine wx_pickP [1, 2, 3] [0] rfl rfl ?_
    (first | refine wx_mem (by simp only [pick, List.getElem?_cons_succ, List.getElem?_cons_zero, Option.getD_some, List.cons_append, List.nil_append, List.set_cons_zero, List.set_cons_succ] <;> rfl) ?_)
    repeat (first | (apply wx_val; (first | exact v_move rfl | exact v_assign rfl | exact v_faddr rfl rfl | (apply v_load rfl rfl rfl; first | exact ld 0 0 rfl rfl rfl | exact ld 1 0 rfl rfl rfl | exact ld 2 0 rfl rfl rfl | exact ld 3 0 rfl rfl rfl | exact ld 4 0 rfl rfl rfl | exact ld 5 0 rfl rfl rfl) | exact v_addi rfl rfl (by omega)); rfl) | refine wc_seq ?_ | refine wc_region ?_ | refine wx_nil ?_ | refine wq_next ?_ | refine wc_skip ?_ | refine wq_block ?_ | refine wc_condF rfl ?_)
    have en2 : intsB t.ints ++ opsB (t.ops.xs.take i) ++ [UInt8.ofNat (4 : Int).toNat] ++ textB key = intsB t.ints ++ opsB (t.ops.xs.take (i + 1)) := by rw [en]; simp [OpW.bytes, OpW.tag]
    rw [en2] at hb6 ⊢
    refine wq_pickP [1, 2] [0] rfl rfl ?_
    exact wq_round (i + 1, A6, c6, E6) ⟨by (try dsimp only); omega, hb6⟩ (by (try dsimp only); omega) ⟨rfl, rfl, rfl, trivial⟩ rfl
end Go.Proofs.Ytjfjleejbbmmaaa
