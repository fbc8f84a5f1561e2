/- The scanner's entries. -/
import Derived.Test.YtjfjleejbbmmaaaLogW4
set_option linter.unusedVariables false
set_option linter.unusedSimpArgs false
namespace Go.Proofs.Ytjfjleejbbmmaaa
open Go
set_option maxRecDepth 20000
set_option maxHeartbeats 2000000
attribute [local irreducible] WX WC WQ Val VCall
theorem number_cases (S : Scn) {p : Nat} (hp : p ≤ S.rest.length) (most : Int) : (∃ n size, S.number p most = ((n, size, true, 0), S) ∧ p + size ≤ S.rest.length ∧ 1 ≤ size ∧ (n : Int) ≤ most) ∨ (∃ e S', S.number p most = ((0, 0, false, e), S') ∧ S'.rest = S.rest) := by
  unfold Scn.number
  cases h : numP S.rest p most with
  | error e =>
    dsimp only
    split
    · exact .inr ⟨_, _, rfl, short_rest⟩
    · exact .inr ⟨_, _, rfl, rfl⟩
  | ok r =>
    obtain ⟨n, q⟩ := r
    obtain ⟨h1, h2, h3⟩ := numP_le hp h
    exact .inl ⟨_, _, rfl, by omega, by omega, h3⟩
theorem fail_rest {S : Scn} {p : Nat} {e : Int} : (S.fail p e).rest = S.rest := rfl
section sc
variable {g c : Nat} {A : Option Addr} {S : Scn} {E : Seg}
theorem scFoot_spec (p : Nat) (hb : RestO S E (A, c)) (hn : p ≤ S.rest.length) (hl : S.rest.length ≤ 140737488355328) (hp : S.at_ + S.rest.length ≤ 1152921504606846976) (w : World) (ho : Own w [scB g A c S, E]) :
    Calls Try.prog 58 #[.pointer (some ⟨g, 0, none⟩), .int .i64 (p : Nat)] w (Ret (β := Option Addr × Nat) w (ids [scB g A c S, E]) (fun _ => .int .i64 (S.foot p).1) (fun q => [scB g q.1 q.2 (S.foot p).2, E]) (fun q => RestO (S.foot p).2 E q)) := by
  refine go [.pointer (some ⟨g, 0, none⟩), .int .i64 (p : Nat)] [scB g A c S, E] Try.func58 Try.ntmps58 rfl rfl ho ?_
  have hcl := hb.le
  dsimp only at hcl
  have hcm := hcl.2
  simp only [maxLen] at hcm
  repeat (first | (apply wx_val; (first | exact v_move rfl | exact v_assign rfl); rfl) | refine wc_seq ?_ | refine wc_region ?_ | refine wx_nil ?_ | refine wq_next ?_)
  refine wl_callT (fun w' hr ho => scNumber_spec (A := A) (c := c) (S := S) (E := E) p 4096 hb hn (by omega) hl w' ho) rfl rfl rfl ?_
  rintro - -
  rcases number_cases S hn 4096 with ⟨n, size, hN, h1, h2, h3⟩ | ⟨e, S', hN, h1⟩
  · have eF : S.foot p = if n ≠ S.count then (72, S.fail p 72) else if p + size < S.rest.length then (61, { S.read (p + size) with state := 2, fault := 61 }) else (0, { S.read (p + size) with state := 2 }) := by unfold Scn.foot; rw [hN]
    rw [hN]
    dsimp only
    repeat (first | (apply wx_val; (first | exact v_move rfl | exact v_assign rfl | exact v_nil rfl | exact v_faddr rfl rfl | exact v_ldT rfl rfl rfl (by rfl) | exact v_extract rfl rfl | exact v_ne rfl rfl | exact v_not rfl); rfl) | refine wc_seq ?_ | refine wc_region ?_ | refine wx_nil ?_ | refine wq_next ?_ | refine wc_skip ?_ | refine wc_cat ?_ | refine wc_condF rfl ?_)
    refine wc_if rfl (fun h4 => ?_) (fun h4 => ?_)
    · rw [if_pos (by omega)] at eF
      rw [eF]
      repeat (first | (apply wx_val; (first | exact v_move rfl); rfl) | refine wc_seq ?_ | refine wc_region ?_)
      refine wl_callT (fun w' hr ho => scFail_spec (A := A) (c := c) (S := S) p 72 (by omega) w' ho) rfl rfl rfl ?_
      rintro - -
      repeat (first | (apply wx_val; (first | exact v_assign rfl); rfl) | refine wx_nil ?_ | refine wq_next ?_ | refine wc_ret ?_ | refine wq_then_ret ?_ | refine wq_cat ?_)
      exact wq_ret1T (A, c) rfl rfl (hb.same rfl) rfl
    · rw [if_neg (by omega)] at eF
      repeat (first | (apply wx_val; (first | exact v_move rfl | exact v_addi rfl rfl (by omega)); rfl) | refine wc_seq ?_ | refine wc_region ?_ | refine wq_next ?_ | refine wc_skip ?_)
      refine wl_callT (fun w' hr ho => scRead_spec (A := A) (c := c) (S := S) (p + size) (by omega) hcl (by omega) w' ho) rfl rfl rfl ?_
      rintro - -
      have hbr := hb.cut (n := p + size) (by omega)
      have hrl : (S.read (p + size)).rest.length = S.rest.length - (p + size) := by show (S.rest.drop _).length = _; rw [List.length_drop]
      repeat (first | (apply wx_val; (first | exact v_move rfl | exact v_nil rfl | exact v_faddr rfl rfl | exact v_ldT rfl rfl rfl (by rfl) | exact v_len rfl rfl | exact v_gt rfl rfl); rfl) | refine wc_seq ?_ | refine wc_region ?_ | refine wx_nil ?_ | refine wq_next ?_ | refine wx_setn ?_ | refine wx_cat ?_ | refine wl_storeT rfl rfl rfl (by rfl) (by exact .inl (Nat.le_refl _)) rfl ?_)
      refine wc_blk g (scC { S.read (p + size) with state := 2 } (cutA A (p + size) S.rest.length c 1) (c - (p + size))) (by rfl) ?_
      refine wc_setn ?_
      refine wc_if rfl (fun h5 => ?_) (fun h5 => ?_)
      · have h5' : (0 : Int) < ((S.read (p + size)).rest.length : Nat) := h5
        rw [if_pos (by omega)] at eF
        rw [eF]
        repeat (first | (apply wx_val; (first | exact v_move rfl); rfl) | refine wc_seq ?_ | refine wc_region ?_)
        refine wl_callT (fun w' hr ho => scFail_spec (A := cutA A (p + size) S.rest.length c 1) (c := c - (p + size)) (S := { S.read (p + size) with state := 2 }) 0 61 (by show S.at_ + (p + size) + 0 ≤ _; omega) w' ho) rfl rfl rfl ?_
        rintro - -
        repeat (first | (apply wx_val; (first | exact v_assign rfl); rfl) | refine wx_nil ?_ | refine wq_next ?_ | refine wc_ret ?_ | refine wq_then_ret ?_ | refine wq_cat ?_)
        refine wq_blk g (scC { S.read (p + size) with state := 2, fault := 61 } (cutA A (p + size) S.rest.length c 1) (c - (p + size))) (by rfl) ?_
        refine wq_setn ?_
        exact wq_ret1T (cutA A (p + size) S.rest.length c 1, c - (p + size)) rfl rfl (hbr.same rfl) rfl
      · have h5' : ¬ (0 : Int) < ((S.read (p + size)).rest.length : Nat) := h5
        rw [if_neg (by omega)] at eF
        rw [eF]
        repeat (first | (apply wx_val; (first | exact v_assign rfl); rfl) | refine wc_seq ?_ | refine wc_region ?_ | refine wx_nil ?_ | refine wq_next ?_ | refine wc_ret ?_ | refine wc_skip ?_)
        exact wq_ret1T (cutA A (p + size) S.rest.length c 1, c - (p + size)) rfl rfl (hbr.same rfl) rfl
  · have eF : S.foot p = (e, S') := by unfold Scn.foot; rw [hN]
    rw [hN, eF]
    dsimp only
    repeat (first | (apply wx_val; (first | exact v_move rfl | exact v_assign rfl | exact v_extract rfl rfl | exact v_not rfl); rfl) | refine wc_seq ?_ | refine wc_region ?_ | refine wx_nil ?_ | refine wq_next ?_ | refine wc_ret ?_ | refine wq_then_ret ?_ | refine wc_cat ?_ | refine wc_condT rfl ?_)
    exact wq_ret1T (A, c) rfl rfl (hb.same h1) rfl
abbrev NextO (X : (TxnP × Bool × Int) × Scn) (E : Seg) (q : (Option Addr × Nat) × (Option Addr × Nat × Seg)) : Prop := RestO X.2 E q.1 ∧ BufO X.1.1.ops q.2
abbrev NextR (X : (TxnP × Bool × Int) × Scn) (g : Nat) (E : Seg) (w : World) (Y : List Nat) : Ending → World → Prop :=
  Ret (β := (Option Addr × Nat) × (Option Addr × Nat × Seg)) w Y (fun q => .tuple #[.agg (X.1.1.cells q.2.1 q.2.2.1).toArray, .bool X.1.2.1, .int .i64 X.1.2.2]) (fun q => [scB g q.1.1 q.1.2 X.2, E, q.2.2.2]) (fun q => NextO X E q)
theorem scEntry_spec (hb : RestO S E (A, c)) (hl : S.rest.length ≤ 140737488355328) (hp : S.at_ + S.rest.length ≤ 1152921504606846976) (hk : S.count ≤ 4096) (w : World) (ho : Own w [scB g A c S, E]) :
    Calls Try.prog 39 #[.pointer (some ⟨g, 0, none⟩)] w (NextR S.entry g E w (ids [scB g A c S, E])) := by
  refine go [.pointer (some ⟨g, 0, none⟩)] [scB g A c S, E] Try.func39 Try.ntmps39 rfl rfl ho ?_
  have hcl := hb.le
  dsimp only at hcl
  have hcm := hcl.2
  simp only [maxLen] at hcm
  unfold NextR
  repeat (first | refine wc_seq ?_ | refine wc_region ?_)
  refine wl_alloc rfl rfl (fun g2 => ?_)
  repeat (first | (apply wx_val; (first | exact v_move rfl | exact v_assign rfl); rfl) | refine wc_seq ?_ | refine wc_region ?_ | refine wx_nil ?_ | refine wq_next ?_)
  refine wl_callT (fun w' hr ho => scNumber_spec (A := A) (c := c) (S := S) (E := E) 0 512 hb (Nat.zero_le _) (by omega) hl w' ho) rfl rfl rfl ?_
  rintro - -
  rcases number_cases S (Nat.zero_le _) 512 with ⟨n, size, hN, h1, h2, h3⟩ | ⟨e, S', hN, h1⟩
  case inr =>
    have eE : S.entry = ((TxnP.zero, false, e), S') := by unfold Scn.entry; rw [hN]
    rw [hN, eE]
    dsimp only
    repeat (first | (apply wx_val; (first | exact v_move rfl | exact v_assign rfl | exact v_extract rfl rfl | exact v_not rfl); rfl) | refine wc_seq ?_ | refine wc_region ?_ | refine wx_nil ?_ | refine wq_next ?_ | refine wc_cat ?_ | refine wc_condT rfl ?_)
    (try refine wx_ungd rfl rfl ?_)
    apply wx_val
    exact v_build (cs := (txnZ).toArray) rfl (by kernel_rfl)
    rfl
    repeat (first | (apply wx_val; (first | exact v_move rfl | exact v_assign rfl); rfl) | refine wx_nil ?_ | refine wq_next ?_ | refine wc_ret ?_ | refine wq_then_ret ?_ | refine wq_setn ?_ | refine wl_stAT rfl rfl (by rfl) (by rfl) (by exact .inl (Nat.le_refl _)) rfl ?_)
    refine wq_seg ?_
    exact wq_retA3T (cs := txnZ) ((A, c), (none, 0, [])) rfl rfl rfl rfl rfl rfl ⟨hb.same h1, Buf.nil _ _⟩ rfl
  have eE : S.entry = (if n = 0 then ((TxnP.zero, false, (S.foot size).1), (S.foot size).2) else
    if S.count = 4096 then ((TxnP.zero, false, 71), S.fail 0 71) else
    if S.rest.length < size + n then ((TxnP.zero, false, (S.short 0).1), (S.short 0).2) else
    if (decR ((S.rest.drop size).take n)).2.2 ≠ 0 then ((TxnP.zero, false, (decR ((S.rest.drop size).take n)).2.2), S.fail (size + (decR ((S.rest.drop size).take n)).2.1.toNat) (decR ((S.rest.drop size).take n)).2.2) else
    (((decR ((S.rest.drop size).take n)).1, true, 0), { S.read (size + n) with count := S.count + 1 })) := by unfold Scn.entry; rw [hN]
  rw [hN]
  dsimp only
  repeat (first | (apply wx_val; (first | exact v_move rfl | exact v_assign rfl | exact v_extract rfl rfl | exact v_eq rfl rfl | exact v_not rfl); rfl) | refine wc_seq ?_ | refine wc_region ?_ | refine wx_nil ?_ | refine wq_next ?_ | refine wc_skip ?_ | refine wc_cat ?_ | refine wc_condF rfl ?_)
  refine wc_if rfl (fun h4 => ?_) (fun h4 => ?_)
  · rw [if_pos (by omega)] at eE
    rw [eE]
    dsimp only
    repeat (first | refine wc_seq ?_ | refine wc_region ?_)
    (try refine wx_ungd rfl rfl ?_)
    apply wx_val
    exact v_build (cs := (txnZ).toArray) rfl (by kernel_rfl)
    rfl
    repeat (first | (apply wx_val; (first | exact v_move rfl); rfl))
    refine wl_callT (fun w' hr ho => scFoot_spec (A := A) (c := c) (S := S) (E := E) size hb (by omega) hl hp w' ho) rfl rfl rfl ?_
    rintro ⟨A3, c3⟩ hb3
    repeat (first | (apply wx_val; (first | exact v_assign rfl); rfl) | refine wx_nil ?_ | refine wq_next ?_ | refine wc_ret ?_ | refine wq_then_ret ?_ | refine wq_setn ?_ | refine wx_cat ?_ | refine wl_stAT rfl rfl (by rfl) (by rfl) (by exact .inl (Nat.le_refl _)) rfl ?_)
    refine wq_seg ?_
    exact wq_retA3T (cs := txnZ) ((A3, c3), (none, 0, [])) rfl rfl rfl rfl rfl rfl ⟨hb3, Buf.nil _ _⟩ rfl
  rw [if_neg (by omega)] at eE
  repeat (first | (apply wx_val; (first | exact v_move rfl | exact v_nil rfl | exact v_faddr rfl rfl | exact v_ldT rfl rfl rfl (by rfl) | exact v_eq rfl rfl); rfl) | refine wc_seq ?_ | refine wc_region ?_ | refine wx_nil ?_ | refine wq_next ?_ | refine wc_skip ?_)
  refine wc_if rfl (fun h5 => ?_) (fun h5 => ?_)
  · rw [if_pos (by omega)] at eE
    rw [eE]
    dsimp only
    repeat (first | refine wc_seq ?_ | refine wc_region ?_)
    (try refine wx_ungd rfl rfl ?_)
    apply wx_val
    exact v_build (cs := (txnZ).toArray) rfl (by kernel_rfl)
    rfl
    repeat (first | (apply wx_val; (first | exact v_move rfl); rfl))
    refine wl_callT (fun w' hr ho => scFail_spec (A := A) (c := c) (S := S) 0 71 (by omega) w' ho) rfl rfl rfl ?_
    rintro - -
    repeat (first | (apply wx_val; (first | exact v_assign rfl); rfl) | refine wx_nil ?_ | refine wq_next ?_ | refine wc_ret ?_ | refine wq_then_ret ?_ | refine wq_setn ?_ | refine wx_cat ?_ | refine wl_stAT rfl rfl (by rfl) (by rfl) (by exact .inl (Nat.le_refl _)) rfl ?_)
    refine wq_seg ?_
    exact wq_retA3T (cs := txnZ) ((A, c), (none, 0, [])) rfl rfl rfl rfl rfl rfl ⟨hb.same rfl, Buf.nil _ _⟩ rfl
  rw [if_neg (by omega)] at eE
  repeat (first | (apply wx_val; (first | exact v_move rfl | exact v_nil rfl | exact v_faddr rfl rfl | exact v_ldT rfl rfl rfl (by rfl) | exact v_len rfl rfl | exact v_lt rfl rfl | exact v_addi rfl rfl (by omega)); rfl) | refine wc_seq ?_ | refine wc_region ?_ | refine wx_nil ?_ | refine wq_next ?_ | refine wc_skip ?_)
  refine wc_if rfl (fun h6 => ?_) (fun h6 => ?_)
  · rw [if_pos (by omega)] at eE
    rw [eE]
    dsimp only
    repeat (first | refine wc_seq ?_ | refine wc_region ?_)
    (try refine wx_ungd rfl rfl ?_)
    apply wx_val
    exact v_build (cs := (txnZ).toArray) rfl (by kernel_rfl)
    rfl
    repeat (first | (apply wx_val; (first | exact v_move rfl); rfl))
    refine wl_callT (fun w' hr ho => scShort_spec (A := A) (c := c) (S := S) 0 (by omega) w' ho) rfl rfl rfl ?_
    rintro - -
    repeat (first | (apply wx_val; (first | exact v_assign rfl); rfl) | refine wx_nil ?_ | refine wq_next ?_ | refine wc_ret ?_ | refine wq_then_ret ?_ | refine wq_setn ?_ | refine wx_cat ?_ | refine wl_stAT rfl rfl (by rfl) (by rfl) (by exact .inl (Nat.le_refl _)) rfl ?_)
    refine wq_seg ?_
    exact wq_retA3T (cs := txnZ) ((A, c), (none, 0, [])) rfl rfl rfl rfl rfl rfl ⟨hb.same short_rest, Buf.nil _ _⟩ rfl
  rw [if_neg (by omega)] at eE
  obtain ⟨D, hD⟩ : ∃ D, D = (S.rest.drop size).take n := ⟨_, rfl⟩
  have hDl : D.length = n := by rw [hD, List.length_take, List.length_drop]; omega
  rw [← hD] at eE
  repeat (first | (apply wx_val; (first | exact v_move rfl | exact v_nil rfl | exact v_faddr rfl rfl | exact v_ldT rfl rfl rfl (by rfl) | exact v_addi rfl rfl (by omega)); rfl) | refine wc_seq ?_ | refine wc_region ?_ | refine wq_next ?_ | refine wc_skip ?_)
  (try refine wx_ungd rfl rfl ?_)
  apply wx_val
  exact v_sliceN (l := size) (h := size + n) (m := D.length) rfl rfl rfl rfl (by omega) hcl.1 (by omega)
  rfl
  refine wl_callT (M1 := []) (fun w' hr ho => Decode_spec (d := D) (by omega) w' (by
    have := vw_cut (sz := 1) (c := c) (h := size + n) (hb.vwT hr) (l := size) (by omega) (by simp; omega) (by omega)
    rw [Nat.add_sub_cancel_left] at this
    rw [hD]
    simpa [bys, List.map_drop, List.map_take] using this)) rfl rfl rfl ?_
  rintro ⟨A3, c3, E3⟩ hb3
  dsimp only at hb3 ⊢
  refine wx_cat ?_
  repeat (first | (apply wx_val; (first | exact v_move rfl | exact v_extract rfl rfl); rfl))
  refine wl_alloc rfl rfl (fun g9 => ?_)
  have hpl : 0 ≤ (decR D).2.1 ∧ (decR D).2.1 ≤ D.length := by
    rcases dec_cases D with ⟨t, e1, _⟩ | ⟨t, a, e1, _, e2⟩ | ⟨a, e, e1, _, e2, _⟩ <;> rw [e1] <;> dsimp only <;> omega
  generalize decR D = R at eE hb3 hpl ⊢
  obtain ⟨t, pl, er⟩ := R
  dsimp only at eE hb3 hpl ⊢
  obtain ⟨pn, rfl⟩ : ∃ pn : Nat, pl = pn := ⟨pl.toNat, by omega⟩
  rw [Int.toNat_natCast] at eE
  repeat (first | (apply wx_val; (first | exact v_move rfl | exact v_assign rfl | exact v_ne rfl rfl); rfl) | refine wc_seq ?_ | refine wc_region ?_ | refine wx_nil ?_ | refine wq_next ?_ | refine wc_setn ?_ | refine wl_stAT rfl rfl (by rfl) (by rfl) (by exact .inl (Nat.le_refl _)) rfl ?_)
  refine wc_if rfl (fun h7 => ?_) (fun h7 => ?_)
  · rw [if_pos h7] at eE
    rw [eE]
    dsimp only
    repeat (first | refine wc_seq ?_ | refine wc_region ?_)
    (try refine wx_ungd rfl rfl ?_)
    apply wx_val
    exact v_build (cs := (txnZ).toArray) rfl (by kernel_rfl)
    rfl
    repeat (first | (apply wx_val; (first | exact v_move rfl | exact v_addi rfl rfl (by omega)); rfl))
    refine wl_callT (fun w' hr ho => scFail_spec (A := A) (c := c) (S := S) (size + pn) er (by omega) w' ho) rfl rfl rfl ?_
    rintro - -
    repeat (first | (apply wx_val; (first | exact v_assign rfl); rfl) | refine wx_nil ?_ | refine wq_next ?_ | refine wc_ret ?_ | refine wq_then_ret ?_ | refine wq_setn ?_ | refine wx_cat ?_ | refine wl_stAT rfl rfl (by rfl) (by rfl) (by exact .inl (Nat.le_refl _)) rfl ?_)
    refine wq_seg ?_
    exact wq_retA3T (cs := txnZ) ((A, c), (none, 0, [])) rfl rfl rfl rfl rfl rfl ⟨hb.same rfl, Buf.nil _ _⟩ rfl
  rw [if_neg h7] at eE
  rw [eE]
  dsimp only
  repeat (first | (apply wx_val; (first | exact v_move rfl | exact v_addi rfl rfl (by omega)); rfl) | refine wc_seq ?_ | refine wc_region ?_ | refine wq_next ?_ | refine wc_skip ?_)
  refine wl_callT (fun w' hr ho => scRead_spec (A := A) (c := c) (S := S) (size + n) (by omega) hcl (by omega) w' ho) rfl rfl rfl ?_
  rintro - -
  have hbr := hb.cut (n := size + n) (by omega)
  have hcn : (S.read (size + n)).count = S.count := rfl
  repeat (first | (apply wx_val; (first | exact v_move rfl | exact v_assign rfl | exact v_nil rfl | exact v_faddr rfl rfl | exact v_ldT rfl rfl rfl (by rfl) | exact v_addi rfl rfl (by omega) | (first | exact v_ldQ 1 0 rfl rfl rfl rfl rfl)); rfl) | refine wc_seq ?_ | refine wc_region ?_ | refine wx_nil ?_ | refine wq_next ?_ | refine wc_ret ?_ | refine wx_setn ?_ | refine wq_setn ?_ | refine wx_cat ?_ | refine wl_storeT rfl rfl rfl (by rfl) (by exact .inl (Nat.le_refl _)) rfl ?_ | refine wl_stAT rfl rfl (by rfl) (by rfl) (by exact .inl (Nat.le_refl _)) rfl ?_)
  refine wq_blk g (scC { S.read (size + n) with count := S.count + 1 } (cutA A (size + n) S.rest.length c 1) (c - (size + n))) (by rfl) ?_
  refine wq_setn ?_
  exact wq_retA3T (cs := t.cells A3 c3) ((cutA A (size + n) S.rest.length c 1, c - (size + n)), (A3, c3, E3)) rfl rfl rfl rfl rfl rfl ⟨hbr.same rfl, hb3⟩ rfl
theorem head_cases (S : Scn) : (S.head = ((true, 0), { S.read 4 with state := 1 }) ∧ 4 ≤ S.rest.length) ∨ (∃ e S', S.head = ((false, e), S') ∧ S'.rest = S.rest) := by
  unfold Scn.head
  cases hh : headAt magicB S.rest 0 with
  | none => exact .inl ⟨rfl, headAt_none _ _ _ hh⟩
  | some r =>
    obtain ⟨i, b⟩ := r
    cases b
    · exact .inr ⟨_, _, rfl, rfl⟩
    · exact .inr ⟨_, _, rfl, short_rest⟩
theorem scNext_spec (hb : RestO S E (A, c)) (hl : S.rest.length ≤ 140737488355328) (hp : S.at_ + S.rest.length ≤ 1152921504606846976) (hk : S.count ≤ 4096) (w : World) (ho : Own w [scB g A c S, E]) :
    Calls Try.prog 24 #[.pointer (some ⟨g, 0, none⟩)] w (NextR S.next g E w (ids [scB g A c S, E])) := by
  refine go [.pointer (some ⟨g, 0, none⟩)] [scB g A c S, E] Try.func24 Try.ntmps24 rfl rfl ho ?_
  unfold NextR
  generalize hX : S.next = X
  unfold Scn.next at hX
  repeat (first | refine wc_seq ?_ | refine wc_region ?_)
  refine wl_alloc rfl rfl (fun g2 => ?_)
  repeat (first | (apply wx_val; (first | exact v_move rfl | exact v_assign rfl | exact v_nil rfl | exact v_faddr rfl rfl | exact v_ldT rfl rfl rfl (by rfl) | exact v_ne rfl rfl); rfl) | refine wc_seq ?_ | refine wc_region ?_ | refine wx_nil ?_ | refine wq_next ?_)
  refine wc_if rfl (fun h0 => ?_) (fun h0 => ?_)
  · rw [if_pos h0] at hX
    subst hX
    dsimp only
    repeat (first | refine wc_seq ?_)
    refine wc_heldX [] [scB g A c S] rfl (by (repeat (first | exact panicNot_D3 rfl | with_reducible exact panicNot_of panicOk_body | with_reducible apply panicNot_block | with_reducible apply panicNot_then))) (fun hQd => ?_)
    (apply wh_takeX 0; (first | exact fun _ h => h | exact fun _ h => res_takes h); exact hQd; rfl; rfl; (exact v_build (cs := txnZ.toArray) rfl (by kernel_rfl)); decide +kernel; decide +kernel; decide +kernel; rfl)
    (apply wh_takeX 1; (first | exact fun _ h => h | exact fun _ h => res_takes h); exact hQd; rfl; rfl; exact v_move rfl; decide +kernel; decide +kernel; decide +kernel; rfl)
    (apply wh_takeX 2; (first | exact fun _ h => h | exact fun _ h => res_takes h); exact hQd; rfl; rfl; exact v_nil rfl; decide +kernel; decide +kernel; decide +kernel; rfl)
    (apply wh_takeX 3; (first | exact fun _ h => h | exact fun _ h => res_takes h); exact hQd; rfl; rfl; exact v_faddr rfl rfl; decide +kernel; decide +kernel; decide +kernel; rfl)
    (apply wh_takeX 4; (first | exact fun _ h => res_takes h); exact hQd; rfl; rfl; (first | exact v_ldT rfl rfl rfl (by rfl)); decide +kernel; decide +kernel; decide +kernel; rfl)
    refine wh_eff 5 rfl (by decide +kernel) ?_
    refine wl_stAT (vs := txnZ) rfl rfl (by rfl) (by rfl) (by exact .inl (Nat.le_refl _)) rfl ?_
    refine wx_setn ?_
    (try refine wx_nil ?_)
    refine wq_held (by (first | exact fun _ h => h | exact fun _ h => res_takes h)) ?_
    (apply wh_takeX 6; (first | exact fun _ h => h | exact fun _ h => res_takes h); exact hQd; rfl; rfl; exact v_assign rfl; decide +kernel; decide +kernel; decide +kernel; rfl)
    (apply wh_takeX 7; (first | exact fun _ h => h | exact fun _ h => res_takes h); exact hQd; rfl; rfl; exact v_assign rfl; decide +kernel; decide +kernel; decide +kernel; rfl)
    refine wh_done (by decide +kernel) ?_
    repeat (first | refine wq_next ?_ | refine wc_ret ?_ | refine wq_then_ret ?_)
    refine wq_seg ?_
    exact wq_retA3T (cs := txnZ) ((A, c), (none, 0, [])) rfl rfl rfl rfl rfl rfl ⟨hb, Buf.nil _ _⟩ rfl
  rw [if_neg h0] at hX
  repeat (first | (apply wx_val; (first | exact v_move rfl | exact v_nil rfl | exact v_faddr rfl rfl | exact v_ldT rfl rfl rfl (by rfl) | exact v_eq rfl rfl); rfl) | refine wc_seq ?_ | refine wc_region ?_ | refine wx_nil ?_ | refine wq_next ?_ | refine wc_skip ?_)
  refine wc_if rfl (fun h1 => ?_) (fun h1 => ?_)
  · rw [if_pos (by omega)] at hX
    repeat (first | (apply wx_val; (first | exact v_move rfl); rfl) | refine wc_seq ?_ | refine wc_region ?_)
    refine wl_callT (fun w' hr ho => scHead_spec (A := A) (c := c) (S := S) (E := E) hb hp w' ho) rfl rfl rfl ?_
    rintro ⟨A2, c2⟩ hb2
    dsimp only at hb2 ⊢
    rcases head_cases S with ⟨e, h4⟩ | ⟨e, S', e1, h4⟩
    · rw [e] at hX hb2 ⊢
      dsimp only at hX hb2 ⊢
      subst hX
      repeat (first | (apply wx_val; (first | exact v_move rfl | exact v_assign rfl | exact v_nil rfl | exact v_faddr rfl rfl | exact v_ldT rfl rfl rfl (by rfl) | exact v_extract rfl rfl | exact v_eq rfl rfl | exact v_not rfl); rfl) | refine wc_seq ?_ | refine wc_region ?_ | refine wx_nil ?_ | refine wq_next ?_ | refine wc_skip ?_ | refine wc_cat ?_ | refine wc_condT rfl ?_ | refine wc_condF rfl ?_)
      refine wl_callT (fun w' hr ho => scEntry_spec (A := A2) (c := c2) (S := { S.read 4 with state := 1 }) (E := E) hb2 (by show (S.rest.drop 4).length ≤ _; rw [List.length_drop]; omega) (by show S.at_ + 4 + (S.rest.drop 4).length ≤ _; rw [List.length_drop]; omega) hk w' ho) rfl rfl rfl ?_
      rintro ⟨⟨A3, c3⟩, ⟨A4, c4, E4⟩⟩ hb3
      dsimp only at hb3 ⊢
      repeat (first | (apply wx_val; (first | exact v_assign rfl | exact v_extract rfl rfl); rfl) | refine wx_nil ?_ | refine wq_next ?_ | refine wc_ret ?_ | refine wq_then_ret ?_ | refine wq_setn ?_ | refine wx_cat ?_ | refine wl_stAT rfl rfl (by rfl) (by rfl) (by exact .inl (Nat.le_refl _)) rfl ?_)
      exact wq_retA3T (cs := TxnP.cells _ A4 c4) ((A3, c3), (A4, c4, E4)) rfl rfl rfl rfl rfl rfl hb3 rfl
    · rw [e1] at hX hb2 ⊢
      dsimp only at hX hb2 ⊢
      subst hX
      repeat (first | (apply wx_val; (first | exact v_move rfl | exact v_assign rfl | exact v_extract rfl rfl | exact v_not rfl); rfl) | refine wc_seq ?_ | refine wc_region ?_ | refine wx_nil ?_ | refine wq_next ?_ | refine wc_cat ?_ | refine wc_condT rfl ?_)
      (try refine wx_ungd rfl rfl ?_)
      apply wx_val
      exact v_build (cs := (txnZ).toArray) rfl (by kernel_rfl)
      rfl
      repeat (first | (apply wx_val; (first | exact v_move rfl | exact v_assign rfl); rfl) | refine wx_nil ?_ | refine wq_next ?_ | refine wc_ret ?_ | refine wq_then_ret ?_ | refine wq_setn ?_ | refine wl_stAT rfl rfl (by rfl) (by rfl) (by exact .inl (Nat.le_refl _)) rfl ?_)
      refine wq_seg ?_
      exact wq_retA3T (cs := txnZ) ((A2, c2), (none, 0, [])) rfl rfl rfl rfl rfl rfl ⟨hb2, Buf.nil _ _⟩ rfl
  rw [if_neg (by omega)] at hX
  repeat (first | (apply wx_val; (first | exact v_move rfl | exact v_nil rfl | exact v_faddr rfl rfl | exact v_ldT rfl rfl rfl (by rfl) | exact v_eq rfl rfl); rfl) | refine wc_seq ?_ | refine wc_region ?_ | refine wx_nil ?_ | refine wq_next ?_ | refine wc_skip ?_)
  refine wc_if rfl (fun h2 => ?_) (fun h2 => ?_)
  · rw [if_pos (by omega)] at hX
    subst hX
    repeat (first | (apply wx_val; (first | exact v_move rfl); rfl) | refine wc_seq ?_ | refine wc_region ?_)
    refine wl_callT (fun w' hr ho => scEntry_spec (A := A) (c := c) (S := S) (E := E) hb hl hp hk w' ho) rfl rfl rfl ?_
    rintro ⟨⟨A3, c3⟩, ⟨A4, c4, E4⟩⟩ hb3
    dsimp only at hb3 ⊢
    repeat (first | (apply wx_val; (first | exact v_assign rfl | exact v_extract rfl rfl); rfl) | refine wx_nil ?_ | refine wq_next ?_ | refine wc_ret ?_ | refine wq_then_ret ?_ | refine wq_setn ?_ | refine wx_cat ?_ | refine wl_stAT rfl rfl (by rfl) (by rfl) (by exact .inl (Nat.le_refl _)) rfl ?_)
    exact wq_retA3T (cs := TxnP.cells _ A4 c4) ((A3, c3), (A4, c4, E4)) rfl rfl rfl rfl rfl rfl hb3 rfl
  rw [if_neg (by omega)] at hX
  repeat (first | (apply wx_val; (first | exact v_move rfl | exact v_nil rfl | exact v_faddr rfl rfl | exact v_ldT rfl rfl rfl (by rfl) | exact v_len rfl rfl | exact v_gt rfl rfl); rfl) | refine wc_seq ?_ | refine wc_region ?_ | refine wx_nil ?_ | refine wq_next ?_ | refine wc_skip ?_)
  refine wc_if rfl (fun h3 => ?_) (fun h3 => ?_)
  · rw [if_pos (by intro e; rw [e] at h3; simp at h3)] at hX
    subst hX
    dsimp only
    repeat (first | refine wc_seq ?_ | refine wc_region ?_)
    (try refine wx_ungd rfl rfl ?_)
    apply wx_val
    exact v_build (cs := (txnZ).toArray) rfl (by kernel_rfl)
    rfl
    repeat (first | (apply wx_val; (first | exact v_move rfl); rfl))
    refine wl_callT (fun w' hr ho => scFail_spec (A := A) (c := c) (S := S) 0 61 (by omega) w' ho) rfl rfl rfl ?_
    rintro - -
    repeat (first | (apply wx_val; (first | exact v_assign rfl); rfl) | refine wx_nil ?_ | refine wq_next ?_ | refine wc_ret ?_ | refine wq_then_ret ?_ | refine wq_setn ?_ | refine wx_cat ?_ | refine wl_stAT rfl rfl (by rfl) (by rfl) (by exact .inl (Nat.le_refl _)) rfl ?_)
    refine wq_seg ?_
    exact wq_retA3T (cs := txnZ) ((A, c), (none, 0, [])) rfl rfl rfl rfl rfl rfl ⟨hb.same rfl, Buf.nil _ _⟩ rfl
  · rw [if_neg (by intro e; exact e (List.eq_nil_of_length_eq_zero (by omega)))] at hX
    subst hX
    dsimp only
    repeat (first | refine wc_seq ?_ | refine wc_region ?_ | refine wq_next ?_ | refine wc_skip ?_)
    (try refine wx_ungd rfl rfl ?_)
    apply wx_val
    exact v_build (cs := (txnZ).toArray) rfl (by kernel_rfl)
    rfl
    repeat (first | (apply wx_val; (first | exact v_assign rfl); rfl) | refine wx_nil ?_ | refine wq_next ?_ | refine wc_ret ?_ | refine wq_setn ?_ | refine wl_stAT rfl rfl (by rfl) (by rfl) (by exact .inl (Nat.le_refl _)) rfl ?_)
    refine wq_seg ?_
    exact wq_retA3T (cs := txnZ) ((A, c), (none, 0, [])) rfl rfl rfl rfl rfl rfl ⟨hb, Buf.nil _ _⟩ rfl
end sc
end Go.Proofs.Ytjfjleejbbmmaaa
