/- The bytes of a transaction: the program's and the document's. -/
import Derived.Test.YtjfjleejbbmmaaaRec2
import Derived.Test.YtjfjleejbbmmaaaWire5a
set_option linter.unusedVariables false
set_option linter.unusedSimpArgs false
namespace Go.Proofs.Ytjfjleejbbmmaaa
open Go
set_option maxRecDepth 20000
set_option maxHeartbeats 4000000
attribute [local irreducible] WX WC WQ Val VCall
def OpW.tag (o : OpW) : Nat := if o.kind = 2 then 3 else if o.kind = 3 then 4 else if o.found then 1 else 2
def OpW.bytes (o : OpW) : List UInt8 := [UInt8.ofNat o.tag] ++ textB o.key ++ (if o.tag = 1 ∨ o.tag = 3 then textB o.value else [])
def TxnW.ints (t : TxnW) : List Int := [t.session, t.seq, t.start, t.fin, t.invoke, t.ret, t.status, (t.ops.xs.length : Nat)]
def intsB (l : List Int) : List UInt8 := l.flatMap formI
def opsB (l : List OpW) : List UInt8 := l.flatMap OpW.bytes
def TxnW.body (t : TxnW) : List UInt8 := intsB t.ints ++ opsB t.ops.xs
theorem formI_len8 (n : Int) : (formI n).length ≤ 8 := by
  unfold formI
  split
  · simp
  · exact formN_len8 (by omega)
theorem intsB_len : ∀ l : List Int, (intsB l).length ≤ 8 * l.length
  | [] => by simp [intsB]
  | x :: r => by
    have h1 := intsB_len r
    have h2 := formI_len8 x
    simp only [intsB, List.flatMap_cons, List.length_append, List.length_cons] at h1 ⊢
    omega
theorem textB_le {s : ByteArray} {n : Nat} (hn : n ≤ 1048576) (h : s.size ≤ n) : (textB s).length ≤ n + 8 := by
  have := formN_len8 (n := s.size) (by omega)
  have e : s.data.size = s.size := rfl
  simp only [textB, List.length_append, Array.length_toList]
  omega
theorem textB_short {s : ByteArray} (h : s.size ≤ 127) : (textB s).length = s.size + 1 := by
  have e : s.data.size = s.size := rfl
  simp only [textB, formN_lt (show s.size < 128 by omega), List.length_append, Array.length_toList, List.length_cons, List.length_nil]
  omega
theorem OpW.bytes_len {o : OpW} (h : o.Right) : o.bytes.length ≤ 27 := by
  obtain ⟨_, h1, h2, _⟩ := h
  have h3 := textB_short (s := o.key) (by omega)
  have h4 := textB_short (s := o.value) (by omega)
  unfold OpW.bytes
  split <;> simp only [List.length_append, List.length_cons, List.length_nil] <;> omega
theorem opsB_len : ∀ {l : List OpW}, (∀ o ∈ l, o.Right) → (opsB l).length ≤ 27 * l.length
  | [], _ => by simp [opsB]
  | x :: r, h => by
    have h1 := opsB_len (l := r) (fun o ho => h o (by simp [ho]))
    have h2 := OpW.bytes_len (h x (by simp))
    simp only [opsB, List.flatMap_cons, List.length_append, List.length_cons] at h1 ⊢
    omega
theorem formI_le {n : Int} (k : Nat) (h : n < 128 ^ (k + 1)) : (formI n).length ≤ k + 1 := by
  unfold formI
  split
  · simp
  · refine formN_len k _ ?_
    have : ((n.toNat : Nat) : Int) < ((128 ^ (k + 1) : Nat) : Int) := by
      rw [Int.toNat_of_nonneg (by omega)]; push_cast; exact h
    exact Int.ofNat_lt.1 this
theorem body_len {t : TxnW} (h : t.FieldsOk) (h2 : t.ops.xs.length ≤ 16) (h3 : ∀ o ∈ t.ops.xs, o.Right) : t.body.length ≤ 464 := by
  have h4 := opsB_len h3
  simp only [TxnW.FieldsOk] at h
  have a1 := formI_le (n := t.session) 2 (by omega)
  have a2 := formI_le (n := t.seq) 2 (by omega)
  have a3 := formI_le (n := t.start) 5 (by omega)
  have a4 := formI_le (n := t.fin) 5 (by omega)
  have a5 := formI_le (n := t.invoke) 5 (by omega)
  have a6 := formI_le (n := t.ret) 5 (by omega)
  have a7 := formI_le (n := t.status) 0 (by omega)
  have a8 := formI_le (n := ((t.ops.xs.length : Nat) : Int)) 0 (by omega)
  simp only [TxnW.body, intsB, TxnW.ints, List.flatMap_cons, List.flatMap_nil, List.length_append, List.length_nil]
  omega
theorem flat_take {α : Type} {f : α → List UInt8} {l : List α} {i : Nat} {a : α} (h : l[i]? = some a) : (l.take (i + 1)).flatMap f = (l.take i).flatMap f ++ f a := by
  rw [List.take_add_one, h]; simp
theorem tag_spec (o : OpW) (w : World) : Calls Try.prog 48 #[.agg o.cells.toArray] w (Ret (β := Unit) w (ids []) (fun _ => .int .u8 (o.tag : Nat)) (fun _ => []) (fun _ => True)) := by
  obtain ⟨k, key, found, value⟩ := o
  refine go [.agg (OpW.cells ⟨k, key, found, value⟩).toArray] [] Try.func48 Try.ntmps48 rfl rfl (own_nil w) ?_
  repeat (first | refine wc_seq ?_ | refine wc_region ?_)
  cases found
  case false =>
    refine wl_box rfl rfl (fun g => ?_)
    repeat' (first | (apply wx_val; (first | exact v_assign rfl | exact v_faddr rfl rfl | (apply v_load rfl rfl rfl; first | exact ld 0 0 rfl rfl rfl | exact ld 1 0 rfl rfl rfl | exact ld 2 0 rfl rfl rfl | exact ld 3 0 rfl rfl rfl | exact ld 4 0 rfl rfl rfl | exact ld 5 0 rfl rfl rfl) | exact v_eq rfl rfl); rfl) | refine wc_seq ?_ | refine wc_region ?_ | refine wx_nil ?_ | refine wq_next ?_ | refine wc_block ?_ | refine wc_ret ?_ | refine wc_skip ?_ | refine wq_then_ret ?_ | refine wq_block ?_ | refine wq_block_ret ?_ | refine wc_condF rfl ?_ | refine wc_if rfl (fun _ => ?_) (fun _ => ?_))
    all_goals exact wq_clear (wq_ret1 () rfl (by unfold OpW.tag; (repeat' split); all_goals (first | rfl | (exfalso; simp_all; done))) trivial rfl)
  case true =>
    refine wl_box rfl rfl (fun g => ?_)
    repeat' (first | (apply wx_val; (first | exact v_assign rfl | exact v_faddr rfl rfl | (apply v_load rfl rfl rfl; first | exact ld 0 0 rfl rfl rfl | exact ld 1 0 rfl rfl rfl | exact ld 2 0 rfl rfl rfl | exact ld 3 0 rfl rfl rfl | exact ld 4 0 rfl rfl rfl | exact ld 5 0 rfl rfl rfl) | exact v_eq rfl rfl); rfl) | refine wc_seq ?_ | refine wc_region ?_ | refine wx_nil ?_ | refine wq_next ?_ | refine wc_block ?_ | refine wc_ret ?_ | refine wq_then_ret ?_ | refine wq_block_ret ?_ | refine wc_condT rfl ?_ | refine wc_if rfl (fun _ => ?_) (fun _ => ?_))
    all_goals exact wq_clear (wq_ret1 () rfl (by unfold OpW.tag; (repeat' split); all_goals (first | rfl | (exfalso; simp_all; done))) trivial rfl)
def TxnW.encB (t : TxnW) : List UInt8 := if t.err = 0 then t.body else []
theorem okInts {t : TxnW} (h : t.FieldsOk) (h2 : t.ops.xs.length ≤ 16) : ∀ n ∈ t.ints, 0 ≤ n ∧ n ≤ 72057594037927935 := by
  simp only [TxnW.FieldsOk] at h
  intro n hn
  simp only [TxnW.ints, List.mem_cons, List.not_mem_nil, or_false] at hn
  omega
theorem Encode_spec {t : TxnW} (w : World) (hv : t.Reads w) : Calls Try.prog 34 #[.agg t.cells.toArray] w (Ret w (ids []) (fun r : Option Addr × Nat × Seg => .tuple #[.slice r.1 t.encB.length r.2.1, .int .i64 t.err]) (fun r => [r.2.2]) (BufB t.encB)) := by
  refine go [.agg t.cells.toArray] [] Try.func34 Try.ntmps34 rfl rfl (own_nil w) ?_
  repeat (first | refine wc_seq ?_ | refine wc_region ?_)
  refine wl_box rfl rfl (fun g => ?_)
  repeat (first | (apply wx_val; (first | exact v_assign rfl | (first | exact v_ldA 0 0 rfl rfl rfl rfl)); rfl) | refine wc_seq ?_ | refine wc_region ?_ | refine wx_nil ?_ | refine wq_next ?_)
  refine wx_vcall (vc_pure' rfl rfl (fun w' hr => recValid_spec t w' (hv.keep hr))) rfl ?_
  by_cases he : t.err = 0
  case neg =>
    have eb : t.encB = [] := if_neg he
    rw [eb]
    repeat (first | (apply wx_val; (first | exact v_move rfl | exact v_assign rfl | exact v_ne rfl rfl); rfl) | refine wc_seq ?_ | refine wc_region ?_ | refine wx_nil ?_ | refine wq_next ?_)
    refine wc_yes rfl (decide_eq_true he) ?_
    repeat (first | (apply wx_val; (first | exact v_move rfl | exact v_assign rfl); rfl) | refine wc_seq ?_ | refine wc_region ?_ | refine wx_nil ?_ | refine wq_next ?_ | refine wc_ret ?_ | refine wq_then_ret ?_)
    exact wq_clear (wq_seg (wq_ret2 (none, 0, []) rfl rfl rfl rfl (Buf.nil _ _) rfl))
  have eb : t.encB = t.body := if_pos he
  obtain ⟨hf, hn, hr⟩ : t.FieldsOk ∧ t.ops.xs.length ≤ 16 ∧ ∀ o ∈ t.ops.xs, o.Right := by
    unfold TxnW.err at he
    split at he
    · cases he
    · split at he
      · cases he
      · split at he
        · rename_i h1 h2 h3; exact ⟨by simpa using h1, by omega, h3⟩
        · cases he
  have hok := okInts hf hn
  rw [eb, he]
  repeat (first | (apply wx_val; (first | exact v_move rfl | exact v_assign rfl | exact v_faddr rfl rfl | (apply v_load rfl rfl rfl; first | exact ld 0 0 rfl rfl rfl | exact ld 1 0 rfl rfl rfl | exact ld 2 0 rfl rfl rfl | exact ld 3 0 rfl rfl rfl | exact ld 4 0 rfl rfl rfl | exact ld 5 0 rfl rfl rfl) | exact v_len rfl rfl | exact v_ne rfl rfl); rfl) | refine wc_seq ?_ | refine wc_region ?_ | refine wx_nil ?_ | refine wq_next ?_ | refine wc_skip ?_ | refine wc_condF rfl ?_)
  (try refine wx_ungd rfl rfl ?_)
  apply wx_val
  exact v_build (cs := ((nts t.ints)).toArray) rfl (by kernel_rfl)
  rfl
  repeat (first | (apply wx_val; (first | exact v_move rfl); rfl) | refine wx_nil ?_ | refine wq_next ?_ | refine wc_block ?_)
  refine wc_seg ?_
  have hil : t.ints.length = 8 := rfl
  refine wc_loop (ι := Nat × Option Addr × Nat × Seg) (fun i => [(1, .pointer (some ⟨g, 0, none⟩)), (5, .slice i.2.1 (intsB (t.ints.take i.1)).length i.2.2.1), (33, .agg (nts t.ints).toArray), (34, .int .i64 (i.1 : Nat))]) (fun i => [i.2.2.2, [(g, .cells t.cells.toArray 46 (0, 0))]])
    (fun i => i.1 ≤ 8 ∧ BufB (intsB (t.ints.take i.1)) i.2) (fun i => 8 - i.1) (0, none, 0, []) ⟨by simp, Buf.nil _ _⟩ ⟨rfl, rfl, rfl, rfl, trivial⟩ rfl ?_
  rintro ⟨i, A, c, E⟩ ⟨hi, hb⟩
  dsimp only at hi hb ⊢
  have hl1 := intsB_len (t.ints.take i)
  have hl2 : (t.ints.take i).length ≤ 8 := by simp; omega
  repeat (first | (apply wx_val; (first | exact v_lt rfl rfl); rfl) | refine wc_seq ?_ | refine wc_region ?_ | refine wx_nil ?_ | refine wq_next ?_)
  refine wc_if rfl (fun h1 => ?_) (fun h1 => ?_)
  · obtain ⟨a, ha⟩ : ∃ a, t.ints[i]? = some a := ⟨t.ints[i]'(by omega), List.getElem?_eq_getElem _⟩
    obtain ⟨hp, hm⟩ := hok a (List.mem_of_getElem? ha)
    obtain ⟨N, rfl⟩ : ∃ N : Nat, a = N := ⟨a.toNat, by omega⟩
    have ef : formI N = formN N := by rw [formI, if_neg (by omega)]; rfl
    have en : intsB (t.ints.take (i + 1)) = intsB (t.ints.take i) ++ formN N := by rw [← ef]; exact flat_take ha
    repeat (first | refine wc_seq ?_ | refine wc_region ?_ | refine wq_next ?_ | refine wc_block ?_ | refine wc_skip ?_)
    apply wx_val
    exact v_idxP (v := .int .i64 N) (sz := 1) rfl rfl rfl (by omega) (by rw [show (i : Int).toNat * 1 = i by omega, nts, List.getElem?_map, ha]; rfl)
    rfl
    repeat (first | (apply wx_val; (first | exact v_move rfl | exact v_assign rfl); rfl) | refine wc_region ?_ | refine wx_nil ?_ | refine wq_next ?_)
    refine wl_callP [] [0, 1] rfl rfl (fun w' hr ho => Append_spec (N := N) (by omega) (by omega) w' (hb.vw hr (i := 0) rfl)) rfl rfl rfl rfl ?_
    rintro ⟨A5, c5, E5⟩ hb5
    dsimp only at hb5 ⊢
    rw [← en] at hb5 ⊢
    (first | refine wx_mem (by simp only [pick, List.getElem?_cons_succ, List.getElem?_cons_zero, Option.getD_some, List.cons_append, List.nil_append, List.set_cons_zero, List.set_cons_succ] <;> rfl) ?_)
    repeat (first | (apply wx_val; (first | exact v_move rfl | exact v_assign rfl | exact v_extract rfl rfl | exact v_addi rfl rfl (by omega)); rfl) | refine wc_region ?_ | refine wx_nil ?_ | refine wq_next ?_ | refine wq_block ?_)
    refine wq_pickP [0, 2] [1] rfl rfl ?_
    exact wq_round (i + 1, A5, c5, E5) ⟨by (try dsimp only); omega, hb5⟩ (by (try dsimp only); omega) ⟨rfl, rfl, rfl, rfl, trivial⟩ rfl
  · have hi' : i = 8 := by omega
    subst hi'
    have e0 : intsB (t.ints.take 8) = intsB t.ints ++ opsB (t.ops.xs.take 0) := by simp [opsB, TxnW.ints]
    rw [e0] at hb ⊢
    repeat (first | (apply wx_val; (first | exact v_move rfl | exact v_faddr rfl rfl | (apply v_load rfl rfl rfl; first | exact ld 0 0 rfl rfl rfl | exact ld 1 0 rfl rfl rfl | exact ld 2 0 rfl rfl rfl | exact ld 3 0 rfl rfl rfl | exact ld 4 0 rfl rfl rfl | exact ld 5 0 rfl rfl rfl) | exact v_len rfl rfl); rfl) | refine wc_seq ?_ | refine wc_region ?_ | refine wx_nil ?_ | refine wq_next ?_ | refine wc_block ?_ | refine wc_exit ?_ | refine wq_then_exit ?_ | refine wq_block_exit rfl ?_)
    refine wc_pickP [0] [1] rfl rfl ?_
    refine wc_loop (ι := Nat × Option Addr × Nat × Seg) (fun i => [(5, .slice i.2.1 (intsB t.ints ++ opsB (t.ops.xs.take i.1)).length i.2.2.1), (45, .slice t.ops.A t.ops.xs.length t.ops.c), (46, .int .i64 (t.ops.xs.length : Nat)), (47, .int .i64 (i.1 : Nat))]) (fun i => [i.2.2.2])
      (fun i => i.1 ≤ t.ops.xs.length ∧ BufB (intsB t.ints ++ opsB (t.ops.xs.take i.1)) i.2) (fun i => t.ops.xs.length - i.1) (0, A, c, E) ⟨by simp, hb⟩ ⟨rfl, rfl, rfl, rfl, trivial⟩ rfl ?_
    clear hb hl1 hl2 e0 hi h1
    rintro ⟨i, A, c, E⟩ ⟨hi, hb⟩
    dsimp only at hi hb ⊢
    have hl1 := intsB_len t.ints
    have hl2 := opsB_len (l := t.ops.xs.take i) (fun o ho => hr o (List.mem_of_mem_take ho))
    have hl3 : (t.ops.xs.take i).length ≤ 16 := by simp; omega
    have hl4 : (intsB t.ints ++ opsB (t.ops.xs.take i)).length ≤ 496 := by rw [List.length_append]; omega
    repeat (first | (apply wx_val; (first | exact v_lt rfl rfl); rfl) | refine wc_seq ?_ | refine wc_region ?_ | refine wx_nil ?_ | refine wq_next ?_)
    refine wc_if rfl (fun h1 => ?_) (fun h1 => ?_)
    case refine_2 =>
      have hi' : i = t.ops.xs.length := by omega
      subst hi'
      have e0 : intsB t.ints ++ opsB (t.ops.xs.take t.ops.xs.length) = t.body := by rw [List.take_length]; rfl
      rw [e0] at hb ⊢
      repeat (first | (apply wx_val; (first | exact v_move rfl | exact v_assign rfl); rfl) | refine wc_seq ?_ | refine wc_region ?_ | refine wx_nil ?_ | refine wq_next ?_ | refine wc_ret ?_ | refine wc_exit ?_ | refine wq_then_exit ?_ | refine wq_block_exit rfl ?_)
      exact wq_ret2 (A, c, E) rfl rfl rfl rfl hb rfl
    obtain ⟨a, ha⟩ : ∃ a, t.ops.xs[i]? = some a := ⟨t.ops.xs[i]'(by omega), List.getElem?_eq_getElem _⟩
    have har := hr a (List.mem_of_getElem? ha)
    obtain ⟨gB, oB, hA, hcell⟩ := cells_at (k := 4) (by decide) (fun _ => rfl) hv ha
    have en : intsB t.ints ++ opsB (t.ops.xs.take (i + 1)) = intsB t.ints ++ opsB (t.ops.xs.take i) ++ a.bytes := by rw [List.append_assoc]; congr 1; exact flat_take ha
    have htg : a.tag ≤ 255 := by unfold OpW.tag; (repeat' split) <;> omega
    have hks : a.key.size ≤ 8 := har.2.1
    have hvs : a.value.size ≤ 16 := har.2.2.1
    repeat (first | refine wc_seq ?_ | refine wc_region ?_ | refine wq_next ?_ | refine wc_block ?_ | refine wc_skip ?_)
    apply wx_val
    exact v_iaddr rfl (by rw [← hA]; rfl) rfl (by omega)
    rfl
    apply wx_val
    exact v_loadA (cs := OpW.cells a) rfl rfl (fun w' hr j v hj => by
      have := hcell i a ha hr j v hj
      rw [show (i : Int).toNat = i by omega]
      exact this)
    rfl
    refine wl_alloc rfl rfl (fun g2 => ?_)
    repeat (first | (apply wx_val; (first | (first | exact v_ldA 0 0 rfl rfl rfl rfl)); rfl) | refine wc_seq ?_ | refine wc_region ?_ | refine wx_nil ?_ | refine wq_next ?_ | refine wl_stA 0 rfl rfl rfl rfl rfl (.inl (Nat.le_refl _)) rfl ?_)
    refine wx_vcall (vc_pure rfl rfl (fun w' => tag_spec a w')) rfl ?_
    repeat (first | (apply wx_val; (first | exact v_move rfl | exact v_assign rfl); rfl) | refine wc_seq ?_ | refine wc_region ?_ | refine wx_nil ?_ | refine wq_next ?_)
    refine wl_lit rfl rfl rfl rfl rfl (by decide) rfl (fun g3 => ?_)
    refine wl_append1 1 rfl rfl rfl hb rfl rfl rfl (by intro u hu; simp [catL, cellsL] at hu; subst hu; rfl) (by omega) rfl (fun A3 c3 E3 hb3 => ?_)
    rw [lit_bys (by omega), ← bys_append] at hb3
    have ek : (intsB t.ints ++ opsB (t.ops.xs.take i)).length + 1 = (intsB t.ints ++ opsB (t.ops.xs.take i) ++ [UInt8.ofNat ((a.tag : Nat) : Int).toNat]).length := by simp only [List.length_append, List.length_cons, List.length_nil]
    rw [ek] at hb3 ⊢
    rw [Int.toNat_natCast] at hb3 ⊢
    (first | refine wx_mem (by simp only [pick, List.getElem?_cons_succ, List.getElem?_cons_zero, Option.getD_some, List.cons_append, List.nil_append, List.set_cons_zero, List.set_cons_succ] <;> rfl) ?_)
    repeat (first | (apply wx_val; (first | exact v_move rfl | exact v_assign rfl | exact v_faddr rfl rfl | (apply v_load rfl rfl rfl; first | exact ld 0 0 rfl rfl rfl | exact ld 1 0 rfl rfl rfl | exact ld 2 0 rfl rfl rfl | exact ld 3 0 rfl rfl rfl | exact ld 4 0 rfl rfl rfl | exact ld 5 0 rfl rfl rfl)); rfl) | refine wc_seq ?_ | refine wc_region ?_ | refine wx_nil ?_ | refine wq_next ?_)
    refine wl_callP [] [0, 1] rfl rfl (fun w' hr ho => AppendText_spec (l := intsB t.ints ++ opsB (t.ops.xs.take i) ++ [UInt8.ofNat a.tag]) (s := a.key) (by rw [List.length_append]; simp only [List.length_cons, List.length_nil]; omega) w' (hb3.vw hr (i := 1) rfl)) rfl rfl rfl rfl ?_
    rintro ⟨A5, c5, E5⟩ hb5
    dsimp only at hb5 ⊢
    (first | refine wx_mem (by simp only [pick, List.getElem?_cons_succ, List.getElem?_cons_zero, Option.getD_some, List.cons_append, List.nil_append, List.set_cons_zero, List.set_cons_succ] <;> rfl) ?_)
    refine wx_pickP [0, 1] [2] rfl rfl ?_
    (first | refine wx_mem (by simp only [pick, List.getElem?_cons_succ, List.getElem?_cons_zero, Option.getD_some, List.cons_append, List.nil_append, List.set_cons_zero, List.set_cons_succ] <;> rfl) ?_)
    repeat (first | (apply wx_val; (first | exact v_move rfl | exact v_assign rfl | exact v_extract rfl rfl | exact v_eq rfl rfl); rfl) | refine wc_seq ?_ | refine wc_region ?_ | refine wx_nil ?_ | refine wq_next ?_)
    repeat' (first | (apply wx_val; (first | exact v_move rfl | exact v_faddr rfl rfl | (apply v_load rfl rfl rfl; first | exact ld 0 0 rfl rfl rfl | exact ld 1 0 rfl rfl rfl | exact ld 2 0 rfl rfl rfl | exact ld 3 0 rfl rfl rfl | exact ld 4 0 rfl rfl rfl | exact ld 5 0 rfl rfl rfl) | exact v_eq rfl rfl | exact v_addi rfl rfl (by omega) | exact v_pickT rfl rfl | exact v_pickF rfl rfl); rfl) | refine wx_no rfl rfl rfl ?_ | refine wx_ungd rfl rfl ?_ | refine wc_region ?_ | refine wx_nil ?_ | refine wq_next ?_ | refine wc_skip ?_ | refine wq_block ?_ | refine wc_condT rfl ?_ | refine wc_if rfl (fun _ => ?_) (fun _ => ?_) | refine wx_gif rfl rfl (fun _ => ?_) (fun _ => ?_))
    all_goals first
      | (have eb : a.bytes = [UInt8.ofNat a.tag] ++ textB a.key := by unfold OpW.bytes; rw [if_neg (by omega), List.append_nil]
         have en2 : intsB t.ints ++ opsB (t.ops.xs.take i) ++ [UInt8.ofNat a.tag] ++ textB a.key = intsB t.ints ++ opsB (t.ops.xs.take (i + 1)) := by rw [en, eb]; simp only [List.append_assoc]
         rw [en2] at hb5 ⊢
         refine wq_pickP [0] [1] rfl rfl ?_
         exact wq_round (i + 1, A5, c5, E5) ⟨by (try dsimp only); omega, hb5⟩ (by (try dsimp only); omega) ⟨rfl, rfl, rfl, rfl, trivial⟩ rfl)
      | skip
        (have eb : a.bytes = [UInt8.ofNat a.tag] ++ textB a.key ++ textB a.value := by unfold OpW.bytes; rw [if_pos (by omega)]
         have hl5 := textB_short (s := a.key) (by omega)
         refine wl_callP [] [0, 1] rfl rfl (fun w' hr ho => AppendText_spec (l := intsB t.ints ++ opsB (t.ops.xs.take i) ++ [UInt8.ofNat a.tag] ++ textB a.key) (s := a.value) (by simp only [List.length_append, List.length_cons, List.length_nil] at hl4 ⊢; omega) w' (hb5.vw hr (i := 0) rfl)) rfl rfl rfl rfl ?_
         rintro ⟨A6, c6, E6⟩ hb6
         dsimp only at hb6 ⊢
         have en2 : intsB t.ints ++ opsB (t.ops.xs.take i) ++ [UInt8.ofNat a.tag] ++ textB a.key ++ textB a.value = intsB t.ints ++ opsB (t.ops.xs.take (i + 1)) := by rw [en, eb]; simp only [List.append_assoc]
         rw [en2] at hb6 ⊢
         (first | refine wx_mem (by simp only [pick, List.getElem?_cons_succ, List.getElem?_cons_zero, Option.getD_some, List.cons_append, List.nil_append, List.set_cons_zero, List.set_cons_succ] <;> rfl) ?_)
         repeat (first | (apply wx_val; (first | exact v_move rfl | exact v_assign rfl | exact v_extract rfl rfl | exact v_addi rfl rfl (by omega)); rfl) | refine wc_region ?_ | refine wx_nil ?_ | refine wq_next ?_ | refine wq_block ?_)
         refine wq_pickP [0] [1, 2] rfl rfl ?_
         exact wq_round (i + 1, A6, c6, E6) ⟨by (try dsimp only); omega, hb6⟩ (by (try dsimp only); omega) ⟨rfl, rfl, rfl, rfl, trivial⟩ rfl)
end Go.Proofs.Ytjfjleejbbmmaaa
