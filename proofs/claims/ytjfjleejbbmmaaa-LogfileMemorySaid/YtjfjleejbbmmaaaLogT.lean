/- Lists of transactions: of one's own, held against each other, copied. -/
import Derived.Test.YtjfjleejbbmmaaaRecS
import Derived.Test.YtjfjleejbbmmaaaKit2
set_option linter.unusedVariables false
set_option linter.unusedSimpArgs false
namespace Go.Proofs.Ytjfjleejbbmmaaa
open Go
set_option maxRecDepth 20000
set_option maxHeartbeats 2000000
attribute [local irreducible] WX WC WQ Val VCall
/-- the operations of a list's transactions, in one segment -/
def OpsIn : List TxnW → Seg → Prop
  | [], S => S = []
  | t :: L, S => ∃ E S', S = E ++ S' ∧ BufO t.ops.xs (t.ops.A, t.ops.c, E) ∧ OpsIn L S'
theorem OpsIn.app : ∀ {L1 L2 : List TxnW} {S1 S2 : Seg}, OpsIn L1 S1 → OpsIn L2 S2 → OpsIn (L1 ++ L2) (S1 ++ S2)
  | [], L2, S1, S2, h1, h2 => by
    have : S1 = [] := h1
    subst this
    exact h2
  | t :: L1, L2, S1, S2, ⟨E, S', e, hb, h⟩, h2 => ⟨E, S' ++ S2, by rw [e, List.append_assoc], hb, h.app h2⟩
theorem OpsIn.one {t : TxnW} {E : Seg} (h : BufO t.ops.xs (t.ops.A, t.ops.c, E)) : OpsIn [t] E := ⟨E, [], by simp, h, rfl⟩
theorem OpsIn.snoc {L : List TxnW} {S : Seg} (h : OpsIn L S) (t : TxnP) {A : Option Addr} {c : Nat} {E : Seg} (hb : BufO t.ops (A, c, E)) : OpsIn (L ++ [t.w A c]) (S ++ E) := h.app (OpsIn.one (t := t.w A c) hb)
theorem OpsIn.find : ∀ {L : List TxnW} {S : Seg}, OpsIn L S → ∀ {i : Nat} {t : TxnW}, L[i]? = some t → ∃ S1 E S2, S = S1 ++ E ++ S2 ∧ BufO t.ops.xs (t.ops.A, t.ops.c, E) ∧ OpsIn (L.take i) S1 ∧ OpsIn (L.drop (i + 1)) S2
  | [], S, h, i, t, hi => by simp at hi
  | t :: L, S, ⟨E, S', e, hb, h⟩, 0, u, hi => by
    simp at hi
    subst hi
    exact ⟨[], E, S', by simpa using e, hb, rfl, by simpa using h⟩
  | t :: L, S, ⟨E, S', e, hb, h⟩, i + 1, u, hi => by
    obtain ⟨S1, E1, S2, e1, h1, h2, h3⟩ := h.find (i := i) (by simpa using hi)
    exact ⟨E ++ S1, E1, S2, by rw [e, e1]; simp, h1, ⟨E, S1, rfl, hb, by simpa using h2⟩, by simpa using h3⟩
theorem OpsIn.reads {L : List TxnW} {S : Seg} (h : OpsIn L S) {w0 w : World} {X : List Nat} {M : List Seg} (hr : Res w0 X w M) [k : Has S M] {t : TxnW} (ht : t ∈ L) : t.Reads w := by
  obtain ⟨i, hi⟩ := List.mem_iff_getElem?.1 ht
  obtain ⟨S1, E, S2, e, hb, _, _⟩ := h.find hi
  exact hb.vwS (S := S) (fun p hp => by rw [e]; simp [hp]) hr
/-- a list of transactions of one's own: its spine E and its operations S; W: where they lie -/
abbrev LstO := Option Addr × Nat × Seg × Seg × List TxnW
structure ListO (L : List TxnP) (q : LstO) : Prop where
  map : q.2.2.2.2.map TxnW.p = L
  buf : Buf 46 8 q.1 L.length q.2.1 (q.2.2.2.2.flatMap TxnW.cells) q.2.2.1
  ops : OpsIn q.2.2.2.2 q.2.2.2.1
theorem ListO.nil : ListO [] (none, 0, [], [], []) := ⟨rfl, Buf.nil _ _, rfl⟩
theorem ListO.len {L : List TxnP} {q : LstO} (h : ListO L q) : q.2.2.2.2.length = L.length := by rw [← h.map, List.length_map]
theorem ListO.vwT {L : List TxnP} {A : Option Addr} {c : Nat} {E S : Seg} {W : List TxnW} (h : ListO L (A, c, E, S, W)) {w0 w : World} {X : List Nat} {M : List Seg} (hr : Res w0 X w M) [k : Has E M] : Vw [] w A (W.flatMap TxnW.cells) := h.buf.vwT hr
theorem ListO.reads {L : List TxnP} {A : Option Addr} {c : Nat} {E S : Seg} {W : List TxnW} (h : ListO L (A, c, E, S, W)) {w0 w : World} {X : List Nat} {M : List Seg} (hr : Res w0 X w M) [k : Has S M] : ∀ t ∈ W, t.Reads w := fun t ht => h.ops.reads hr ht
theorem ListO.snoc {L : List TxnP} {A A' A3 : Option Addr} {c c' c3 : Nat} {E S E' E3 : Seg} {W : List TxnW} (h : ListO L (A, c, E, S, W)) (t : TxnP) (hb : BufO t.ops (A3, c3, E3)) (h2 : Buf 46 8 A' (L.length + 1) c' (W.flatMap TxnW.cells ++ (t.w A3 c3).cells) E') : ListO (L ++ [t]) (A', c', E', S ++ E3, W ++ [t.w A3 c3]) := by
  refine ⟨?_, ?_, h.ops.snoc t hb⟩
  · have := h.map
    dsimp only at this ⊢
    rw [List.map_append, this]
    rfl
  · dsimp only
    rw [List.flatMap_append, List.length_append]
    simpa using h2
theorem txn_small {t : TxnW} {L : List TxnW} (h : ∀ t ∈ L, t.ops.xs.length ≤ 1048576) (ht : t ∈ L) : t.ops.xs.length ≤ 1048576 := h t ht
theorem SameList_spec {W1 W2 : List TxnW} {A1 A2 : Option Addr} {c1 c2 : Nat} (hm : W1.map TxnW.p = W2.map TxnW.p) (hl : W1.length ≤ 1048576) (hs : ∀ t ∈ W1, t.ops.xs.length ≤ 1048576) (w : World) (hv1 : Vw [] w A1 (W1.flatMap TxnW.cells)) (hv2 : Vw [] w A2 (W2.flatMap TxnW.cells)) (hr1 : ∀ t ∈ W1, t.Reads w) (hr2 : ∀ t ∈ W2, t.Reads w) :
    Calls Try.prog 16 #[.slice A1 W1.length c1, .slice A2 W1.length c2] w (Ret (β := Unit) w (ids []) (fun _ => .bool true) (fun _ => []) (fun _ => True)) := by
  refine go [.slice A1 W1.length c1, .slice A2 W1.length c2] [] Try.func16 Try.ntmps16 rfl rfl (own_nil w) ?_
  have hll : W2.length = W1.length := by have := congrArg List.length hm; simpa using this.symm
  repeat (first | (apply wx_val; (first | exact v_move rfl | exact v_assign rfl | exact v_len rfl rfl | exact v_ne rfl rfl); rfl) | refine wc_seq ?_ | refine wc_region ?_ | refine wx_nil ?_ | refine wq_next ?_)
  refine wc_not rfl (by simp) ?_
  repeat (first | (apply wx_val; (first | exact v_assign rfl); rfl) | refine wc_seq ?_ | refine wc_region ?_ | refine wx_nil ?_ | refine wq_next ?_ | refine wc_block ?_ | refine wc_skip ?_)
  refine wc_loopK (ι := Nat) [0, 1] (fun i => [(5, .int .i64 (i : Nat))]) (fun i => []) (fun i => i ≤ W1.length) (fun i => W1.length - i) (0) rfl ?_ (by repeat (first | exact trivial | refine ⟨rfl, ?_⟩)) ?_
  · exact Nat.zero_le _
  rintro i hi
  try dsimp only
  refine wc_fcat ?_
  refine wc_cat ?_
  repeat (first | (apply wx_val; (first | exact v_move rfl | exact v_len rfl rfl | exact v_lt rfl rfl); rfl) | refine wc_seq ?_ | refine wc_region ?_ | refine wx_nil ?_ | refine wq_next ?_)
  refine wc_if rfl (fun h0 => ?_) (fun h0 => ?_)
  · obtain ⟨t1, h1⟩ : ∃ t, W1[i]? = some t := ⟨W1[i]'(by omega), List.getElem?_eq_getElem _⟩
    obtain ⟨t2, h2⟩ : ∃ t, W2[i]? = some t := ⟨W2[i]'(by omega), List.getElem?_eq_getElem _⟩
    have ep : t2.p = t1.p := by
      have := congrArg (fun l => l[i]?) hm
      simpa [h1, h2] using this.symm
    have hm1 := List.mem_of_getElem? h1
    have hm2 := List.mem_of_getElem? h2
    obtain ⟨ga, oa, hA1, hca⟩ := hv1.elT (k := 8) (by decide) (fun _ => rfl) (by omega)
    obtain ⟨gb, ob, hA2, hcb⟩ := hv2.elT (k := 8) (by decide) (fun _ => rfl) (by omega)
    have hc2 : t2.cells = t1.p.cells t2.ops.A t2.ops.c := by rw [← ep]; rfl
    have ho2 : t2.ops.xs = t1.p.ops := by rw [← ep]; rfl
    repeat (first | refine wc_seq ?_ | refine wq_next ?_ | refine wc_block ?_ | refine wc_skip ?_)
    refine wc_heldX [] [] rfl (by (repeat (first | exact panicNot_D3 rfl | with_reducible exact panicNot_of panicOk_body | with_reducible apply panicNot_block | with_reducible apply panicNot_then))) (fun hQd => ?_)
    (apply wh_takeX 0; (first | exact fun _ h => h | exact fun _ h => res_takes h); exact hQd; rfl; rfl; exact v_move rfl; decide +kernel; decide +kernel; decide +kernel; rfl)
    (apply wh_takeX 1; (first | exact fun _ h => h | exact fun _ h => res_takes h); exact hQd; rfl; rfl; exact v_move rfl; decide +kernel; decide +kernel; decide +kernel; rfl)
    (apply wh_takeX 2; (first | exact fun _ h => h); exact hQd; rfl; rfl; (first | exact v_iaddrE (by assumption) rfl rfl rfl (by omega)); decide +kernel; decide +kernel; decide +kernel; rfl)
    (apply wh_takeX 3; (first | exact fun _ h => h); exact hQd; rfl; rfl; (exact v_loadA (cs := t1.p.cells t1.ops.A t1.ops.c) rfl rfl (fun w' hr j u hj => hca h1 hr hj (by rw [Int.toNat_natCast]))); decide +kernel; decide +kernel; decide +kernel; rfl)
    (apply wh_takeX 4; (first | exact fun _ h => h | exact fun _ h => res_takes h); exact hQd; rfl; rfl; exact v_move rfl; decide +kernel; decide +kernel; decide +kernel; rfl)
    (apply wh_takeX 5; (first | exact fun _ h => h | exact fun _ h => res_takes h); exact hQd; rfl; rfl; exact v_move rfl; decide +kernel; decide +kernel; decide +kernel; rfl)
    (apply wh_takeX 6; (first | exact fun _ h => h); exact hQd; rfl; rfl; (first | exact v_iaddrE (by assumption) rfl rfl rfl (by omega)); decide +kernel; decide +kernel; decide +kernel; rfl)
    (apply wh_takeX 7; (first | exact fun _ h => h); exact hQd; rfl; rfl; (exact v_loadA (cs := t1.p.cells t2.ops.A t2.ops.c) rfl rfl (fun w' hr j u hj => hcb h2 hr (by rw [hc2]; exact hj) (by rw [Int.toNat_natCast]))); decide +kernel; decide +kernel; decide +kernel; rfl)
    refine wh_eff 8 rfl (by decide +kernel) ?_
    (try refine wx_ungd rfl rfl ?_)
    refine wx_vcall (vc_pure' rfl rfl (fun w' hr => Same_spec (t := t1.p) (hs t1 hm1) w' (Vw.keep (hr1 t1 hm1) hr) (by have := Vw.keep (hr2 t2 hm2) hr; rw [ho2] at this; exact this))) rfl ?_
    (try refine wx_nil ?_)
    refine wq_held (by (first | exact fun _ h => h | exact fun _ h => res_takes h)) ?_
    (apply wh_takeX 9; (first | exact fun _ h => h | exact fun _ h => res_takes h); exact hQd; rfl; rfl; exact v_assign rfl; decide +kernel; decide +kernel; decide +kernel; rfl)
    refine wh_done (by decide +kernel) ?_
    repeat (first | (apply wx_val; (first | exact v_move rfl | exact v_assign rfl | exact v_addi rfl rfl (by omega) | exact v_not rfl); rfl) | refine wc_seq ?_ | refine wc_region ?_ | refine wx_nil ?_ | refine wq_next ?_ | refine wc_skip ?_ | refine wq_block ?_ | refine wc_condF rfl ?_)
    refine wq_roundK (i + 1) ?_ ?_ (by repeat (first | exact trivial | refine ⟨rfl, ?_⟩)) (by first | exact catEq | exact rfl)
    · show _ ≤ _; omega
    · omega
  · repeat (first | (apply wx_val; (first | exact v_assign rfl); rfl) | refine wc_seq ?_ | refine wc_region ?_ | refine wx_nil ?_ | refine wq_next ?_ | refine wc_ret ?_ | refine wc_exit ?_ | refine wq_then_exit ?_ | refine wq_block_exit rfl ?_)
    exact wq_ret1 () rfl rfl trivial rfl
theorem Copies_spec {L : List TxnW} {A : Option Addr} {c : Nat} (hl : L.length ≤ 1048576) (hs : ∀ t ∈ L, t.ops.xs.length ≤ 1048576) (w : World) (hv : Vw [] w A (L.flatMap TxnW.cells)) (hr1 : ∀ t ∈ L, t.Reads w) :
    Calls Try.prog 18 #[.slice A L.length c] w (Ret (β := LstO) w (ids []) (fun q => .slice q.1 L.length q.2.1) (fun q => [q.2.2.1, q.2.2.2.1]) (fun q => ListO (L.map TxnW.p) q)) := by
  refine go [.slice A L.length c] [] Try.func18 Try.ntmps18 rfl rfl (own_nil w) ?_
  repeat (first | (apply wx_val; (first | exact v_assign rfl); rfl) | refine wc_seq ?_ | refine wc_region ?_ | refine wx_nil ?_ | refine wq_next ?_ | refine wc_block ?_)
  refine wc_seg ?_
  refine wc_seg ?_
  refine wc_loopK (ι := Nat × LstO) [0] (fun q => [(3, .slice q.2.1 q.1 q.2.2.1), (4, .int .i64 (q.1 : Nat))]) (fun q => [q.2.2.2.1, q.2.2.2.2.1]) (fun q => q.1 ≤ L.length ∧ ListO ((L.take q.1).map TxnW.p) q.2) (fun q => L.length - q.1) ((0, none, 0, [], [], [])) rfl ?_ (by repeat (first | exact trivial | refine ⟨rfl, ?_⟩)) ?_
  · exact ⟨Nat.zero_le _, ListO.nil⟩
  rintro ⟨i, A1, c1, E1, S1, W⟩ ⟨hi, hq⟩
  try dsimp only
  refine wc_fcat ?_
  refine wc_cat ?_
  dsimp only at hi hq ⊢
  have hln : ((L.take i).map TxnW.p).length = i := by simp; omega
  have hb := hq.buf
  rw [hln] at hb
  dsimp only at hb
  repeat (first | (apply wx_val; (first | exact v_move rfl | exact v_len rfl rfl | exact v_lt rfl rfl); rfl) | refine wc_seq ?_ | refine wc_region ?_ | refine wx_nil ?_ | refine wq_next ?_)
  refine wc_if rfl (fun h0 => ?_) (fun h0 => ?_)
  · obtain ⟨t, ht⟩ : ∃ t, L[i]? = some t := ⟨L[i]'(by omega), List.getElem?_eq_getElem _⟩
    have hm := List.mem_of_getElem? ht
    obtain ⟨ga, oa, hA1, hca⟩ := hv.elT (k := 8) (by decide) (fun _ => rfl) (by omega)
    repeat (first | (apply wx_val; (first | exact v_move rfl | exact v_iaddrE (by assumption) rfl rfl rfl (by omega)); rfl) | refine wc_seq ?_ | refine wc_region ?_ | refine wq_next ?_ | refine wc_block ?_ | refine wc_skip ?_)
    (try refine wx_ungd rfl rfl ?_)
    apply wx_val
    exact v_loadA (cs := t.cells) rfl rfl (fun w' hr j u hj => hca ht hr hj (by rw [Int.toNat_natCast]))
    rfl
    refine wl_callT (M1 := []) (fun w' hr ho => Copy_spec (hs t hm) w' (Vw.keep (hr1 t hm) hr)) rfl rfl rfl ?_
    rintro ⟨A3, c3, E3⟩ hb3
    dsimp only at hb3 ⊢
    refine wx_cat ?_
    refine wl_alloc rfl rfl (fun g5 => ?_)
    repeat (first | (apply wx_val; (first | exact v_move rfl | (first | exact v_ldQ 0 0 rfl rfl rfl rfl rfl)); rfl) | refine wc_region ?_ | refine wx_nil ?_ | refine wq_next ?_ | refine wx_setn ?_ | refine wl_stAT rfl rfl (by rfl) (by rfl) (by exact .inl (Nat.le_refl _)) rfl ?_)
    refine wl_lit rfl rfl rfl rfl rfl (by decide) rfl (fun g9 => ?_)
    refine wl_app1T (news := (t.p.cells A3 c3)) rfl hb rfl rfl rfl rfl (by omega) rfl (fun A4 c4 E4 hb4 => ?_)
    repeat (first | (apply wx_val; (first | exact v_move rfl | exact v_assign rfl | exact v_addi rfl rfl (by omega)); rfl) | refine wc_region ?_ | refine wx_nil ?_ | refine wq_next ?_ | refine wq_block ?_)
    refine wq_join S1 E3 ?_
    refine wq_roundK ((i + 1, A4, c4, E4, S1 ++ E3, W ++ [t.p.w A3 c3])) ?_ ?_ (by repeat (first | exact trivial | refine ⟨rfl, ?_⟩)) (by first | exact catEq | exact rfl)
    · have e : (L.take (i + 1)).map TxnW.p = (L.take i).map TxnW.p ++ [t.p] := by rw [List.take_add_one, ht]; simp
      refine ⟨(show i + 1 ≤ L.length by omega), ?_⟩
      dsimp only
      rw [e]
      exact hq.snoc t.p hb3 (by rw [hln]; exact hb4)
    · dsimp only; omega
  · obtain rfl : i = L.length := by omega
    rw [List.take_length] at hq
    repeat (first | (apply wx_val; (first | exact v_move rfl | exact v_assign rfl); rfl) | refine wc_seq ?_ | refine wc_region ?_ | refine wx_nil ?_ | refine wq_next ?_ | refine wc_ret ?_ | refine wc_exit ?_ | refine wq_then_exit ?_ | refine wq_block_exit rfl ?_)
    exact wq_ret1T (A1, c1, E1, S1, W) rfl rfl hq rfl
end Go.Proofs.Ytjfjleejbbmmaaa
