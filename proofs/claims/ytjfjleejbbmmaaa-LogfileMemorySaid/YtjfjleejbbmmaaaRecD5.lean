/- The document's reading of a transaction, whole. -/
import Derived.Test.YtjfjleejbbmmaaaRecD4
set_option linter.unusedVariables false
set_option linter.unusedSimpArgs false
namespace Go.Proofs.Ytjfjleejbbmmaaa
open Go
set_option maxRecDepth 20000
set_option maxHeartbeats 2000000
attribute [local irreducible] WX WC WQ Val VCall
def nsC (ns : List Nat) : List Value := ns.map (fun n => .int .i64 (n : Nat)) ++ List.replicate (8 - ns.length) (.int .i64 0)
theorem nsC_len {ns : List Nat} (h : ns.length ≤ 8) : (nsC ns).length = 8 := by simp [nsC]; omega
theorem nsC_set {ns : List Nat} (h : ns.length < 8) (n : Nat) : (nsC ns).set ns.length (.int .i64 (n : Nat)) = nsC (ns ++ [n]) := by
  unfold nsC
  rw [List.set_append_right _ _ (by simp), List.length_map, Nat.sub_self, show 8 - ns.length = (8 - (ns ++ [n]).length) + 1 by simp; omega, List.replicate_succ, List.set_cons_zero]
  simp
theorem len8 {l : List Nat} (h : l.length = 8) : ∃ n0 n1 n2 n3 n4 n5 n6 n7, l = [n0, n1, n2, n3, n4, n5, n6, n7] := by
  rcases l with _ | ⟨n0, _ | ⟨n1, _ | ⟨n2, _ | ⟨n3, _ | ⟨n4, _ | ⟨n5, _ | ⟨n6, _ | ⟨n7, _ | ⟨n8, l⟩⟩⟩⟩⟩⟩⟩⟩⟩ <;> simp at h
  exact ⟨n0, n1, n2, n3, n4, n5, n6, n7, rfl⟩
theorem numsP_le {d : List UInt8} : ∀ {ms : List Int} {p q : Nat} {l : List Nat}, p ≤ d.length → numsP d ms p = .ok (l, q) → q ≤ d.length ∧ l.length = ms.length
  | [], p, q, l, hp, h => by
    unfold numsP at h
    injection h with h
    injection h with h1 h2
    subst h1; subst h2
    exact ⟨hp, rfl⟩
  | m :: r, p, q, l, hp, h => by
    unfold numsP at h
    split at h
    · cases h
    · rename_i n p2 hn
      have h1 := numP_le hp hn
      split at h
      · cases h
      · rename_i l2 p3 hl
        have h2 := numsP_le h1.1 hl
        injection h with h
        injection h with h3 h4
        subst h3; subst h4
        exact ⟨h2.1, by simp [h2.2]⟩
theorem opsP_len {d : List UInt8} : ∀ {n p q : Nat} {l : List OpW}, opsP d n p = .ok (l, q) → l.length = n
  | 0, p, q, l, h => by
    unfold opsP at h
    injection h with h
    injection h with h1 h2
    subst h1; rfl
  | n + 1, p, q, l, h => by
    unfold opsP at h
    split at h
    · cases h
    · split at h
      · cases h
      · rename_i hl
        injection h with h
        injection h with h1 h2
        subst h1
        simp [opsP_len hl]
theorem nums_max {d : List UInt8} : ∀ {ms : List Int} {p q : Nat} {l : List Nat}, p ≤ d.length → numsP d ms p = .ok (l, q) → ∀ (k n : Nat) (m : Int), l[k]? = some n → ms[k]? = some m → (n : Int) ≤ m
  | [], p, q, l, hp, h => fun k n m _ hm => by simp at hm
  | m0 :: r, p, q, l, hp, h => by
    unfold numsP at h
    split at h
    · cases h
    · rename_i n0 p2 hn
      have h1 := numP_le hp hn
      split at h
      · cases h
      · rename_i l2 p3 hl
        injection h with h
        injection h with h3 h4
        subst h3
        intro k n m hk hm
        cases k with
        | zero =>
          simp at hk hm
          subst hk; subst hm
          exact h1.2.2
        | succ k => exact nums_max h1.1 hl k n m (by simpa using hk) (by simpa using hm)
theorem decR_len (d : List UInt8) : (decR d).1.ops.length ≤ 16 := by
  unfold decR decP
  cases h : numsP d decMax 0 with
  | error e => exact Nat.zero_le _
  | ok r =>
    obtain ⟨ns, p⟩ := r
    obtain ⟨h1, h2⟩ := numsP_le (Nat.zero_le _) h
    obtain ⟨n0, n1, n2, n3, n4, n5, n6, n7, rfl⟩ := len8 h2
    have h7 := nums_max (Nat.zero_le _) h 7 n7 16 rfl rfl
    dsimp only
    cases h3 : opsP d ([n0, n1, n2, n3, n4, n5, n6, n7].getD 7 0) p with
    | error e => exact Nat.zero_le _
    | ok r =>
      obtain ⟨l, q⟩ := r
      have h4 := opsP_len h3
      have h5 : l.length = n7 := h4
      dsimp only
      split
      · exact Nat.zero_le _
      · rename_i e; split at e
        · cases e
        · injection e with e
          subst e
          show l.length ≤ 16
          omega
theorem refDecode_spec {A : Option Addr} {c : Nat} {d : List UInt8} (hd : d.length ≤ 140737488355328) (hc : d.length ≤ c) (hcm : c ≤ maxLen) (w : World) (hv : Vw [] w A (bys d)) :
    Calls Try.prog 62 #[.slice A d.length c] w (DecRet w (ids []) (decR d)) := by
  refine go [.slice A d.length c] [] Try.func62 Try.ntmps62 rfl rfl (own_nil w) ?_
  generalize hR : decR d = R
  unfold decR decP at hR
  obtain ⟨O, hO⟩ : ∃ O, O = numsP d decMax 0 := ⟨_, rfl⟩
  rw [← hO] at hR
  repeat (first | refine wc_seq ?_ | refine wc_region ?_)
  refine wl_alloc rfl rfl (fun g2 => ?_)
  repeat (first | (apply wx_val; (first | exact v_move rfl | exact v_assign rfl); rfl) | refine wc_seq ?_ | refine wc_region ?_ | refine wx_nil ?_ | refine wq_next ?_)
  (try refine wx_ungd rfl rfl ?_)
  apply wx_val
  exact v_build (cs := ([.slice A d.length c, .int .i64 0, .int .i64 0]).toArray) rfl (by kernel_rfl)
  rfl
  refine wl_boxA (l := [.slice A d.length c, .int .i64 0, .int .i64 0]) rfl rfl (fun g => ?_)
  repeat (first | (apply wx_val; (first | exact v_assign rfl); rfl) | refine wc_seq ?_ | refine wc_region ?_ | refine wx_nil ?_ | refine wq_next ?_)
  (try refine wx_ungd rfl rfl ?_)
  apply wx_val
  exact v_build (cs := ((decMax.map (fun n => Value.int .i64 n))).toArray) rfl (by kernel_rfl)
  rfl
  refine wl_alloc rfl rfl (fun g6 => ?_)
  refine wl_stAT (vs := decMax.map (fun n => Value.int .i64 n)) rfl rfl (by rfl) (by rfl) (by exact .inl (Nat.le_refl _)) rfl ?_
  repeat (first | refine wc_seq ?_ | refine wc_region ?_ | refine wx_nil ?_ | refine wq_next ?_ | refine wx_setn ?_)
  refine wl_alloc rfl rfl (fun g7 => ?_)
  refine wx_blk g7 (nsC []) rfl ?_
  repeat (first | (apply wx_val; (first | exact v_assign rfl); rfl) | refine wc_seq ?_ | refine wc_region ?_ | refine wx_nil ?_ | refine wq_next ?_ | refine wc_block ?_ | refine wc_setn ?_)
  refine wc_as 2 (refB g A d.length c 0 0) rfl ?_
  refine wc_setn ?_
  refine wc_loopK (ι := Nat × Nat × List Nat) [0, 2, 5, 6, 7] (fun q => [(8, .int .i64 (q.1 : Nat))]) (fun q => [refB g A d.length c (q.2.1 : Nat) 0, [(g7, .cells (nsC q.2.2).toArray 85 (0, 0))]]) (fun q => q.2.2.length = q.1 ∧ q.1 ≤ 8 ∧ q.2.1 ≤ d.length ∧ (∀ (k n : Nat) (m : Int), q.2.2[k]? = some n → decMax[k]? = some m → (n : Int) ≤ m) ∧ O = (match numsP d (decMax.drop q.1) q.2.1 with | .error e => .error e | .ok (l, q') => .ok (q.2.2 ++ l, q'))) (fun q => 8 - q.1) ((0, 0, [])) rfl ?_ (by repeat (first | exact trivial | refine ⟨rfl, ?_⟩)) ?_
  · refine ⟨rfl, by decide, Nat.zero_le _, fun k n m h => by simp at h, ?_⟩
    dsimp only
    rw [hO, List.drop_zero]
    cases numsP d decMax 0 with
    | error e => rfl
    | ok r => rfl
  rintro ⟨i, p, ns⟩ ⟨hns, hi, hp, hbd, ho⟩
  try dsimp only
  refine wc_fcat ?_
  refine wc_cat ?_
  dsimp only at hns hi hp hbd ho ⊢
  repeat (first | (apply wx_val; (first | exact v_move rfl | exact v_lt rfl rfl); rfl) | refine wc_seq ?_ | refine wc_region ?_ | refine wx_nil ?_ | refine wq_next ?_)
  refine wc_if rfl (fun h1 => ?_) (fun h1 => ?_)
  · obtain ⟨m, hm⟩ : ∃ m, decMax[i]? = some m := ⟨decMax[i]'(by show i < 8; omega), List.getElem?_eq_getElem _⟩
    have hdr : decMax.drop i = m :: decMax.drop (i + 1) := by
      obtain ⟨h5, rfl⟩ := List.getElem?_eq_some_iff.1 hm
      exact List.drop_eq_getElem_cons h5
    rw [hdr] at ho
    unfold numsP at ho
    have hmv : (decMax.map (fun n => Value.int .i64 n))[i]? = some (.int .i64 m) := by rw [List.getElem?_map, hm]; rfl
    repeat (first | (apply wx_val; (first | exact v_move rfl | exact v_assign rfl | exact v_nil rfl | exact v_faddr rfl rfl | exact v_ldT rfl rfl rfl (by rfl) | exact v_paddr rfl rfl rfl (by omega)); rfl) | refine wc_seq ?_ | refine wc_region ?_ | refine wx_nil ?_ | refine wq_next ?_ | refine wc_block ?_ | refine wc_skip ?_)
    (try refine wx_ungd rfl rfl ?_)
    apply wx_val
    exact v_ldO i rfl rfl rfl (by show 0 + ((i : Nat) : Int).toNat * 1 = i; rw [Int.toNat_natCast]; omega) hmv
    rfl
    refine wl_callT (fun w' hr ho => StepV_spec (p := p) (f := 0) (k := 2) (a := 0) (b := m) hd hc hcm hp (by omega) w' (hv.held hr (fun i hi => by rw [ids_append]; exact List.mem_append.2 (.inl hi))) ho) rfl rfl rfl ?_
    rintro ⟨B1, b1⟩ hcut1
    rcases num_step d p m with ⟨e, t1, t2, t3⟩ | ⟨n, q, t1, t3⟩
    · rw [t1] at ho
      dsimp only at ho
      rw [ho] at hR
      dsimp only at hR
      subst hR
      rw [t3]
      dsimp only
      repeat (first | (apply wx_val; (first | exact v_move rfl | exact v_assign rfl | exact v_extract rfl rfl | exact v_ne rfl rfl); rfl) | refine wc_seq ?_ | refine wc_region ?_ | refine wx_nil ?_ | refine wq_next ?_ | refine wc_cat ?_)
      refine wc_yes rfl (decide_eq_true t2) ?_
      repeat (first | refine wc_seq ?_ | refine wc_region ?_)
      (try refine wx_ungd rfl rfl ?_)
      apply wx_val
      exact v_build (cs := (txnZ).toArray) rfl (by kernel_rfl)
      rfl
      repeat (first | (apply wx_val; (first | exact v_move rfl | exact v_assign rfl); rfl) | refine wx_nil ?_ | refine wq_next ?_ | refine wc_ret ?_ | refine wq_then_ret ?_ | refine wq_block_ret ?_ | refine wq_setn ?_ | refine wl_stAT rfl rfl (by rfl) (by rfl) (by exact .inl (Nat.le_refl _)) rfl ?_)
      refine wq_seg ?_
      exact wq_retA3T (cs := txnZ) (none, 0, []) rfl rfl rfl rfl rfl rfl (Buf.nil _ _) rfl
    have hq := numP_le hp t1
    rw [t1] at ho
    dsimp only at ho
    rw [t3]
    dsimp only
    repeat (first | (apply wx_val; (first | exact v_move rfl | exact v_assign rfl | exact v_extract rfl rfl | exact v_ne rfl rfl | exact v_paddr rfl rfl rfl (by omega)); rfl) | refine wc_seq ?_ | refine wc_region ?_ | refine wx_nil ?_ | refine wq_next ?_ | refine wc_skip ?_ | refine wx_cat ?_ | refine wc_condF rfl ?_)
    refine wl_storeO i rfl rfl rfl (by show 0 + ((i : Nat) : Int).toNat * 1 = i; rw [Int.toNat_natCast]; omega) (by rw [nsC_len (by omega)]; omega) (by exact .inl (Nat.le_refl _)) rfl ?_
    rw [← hns, nsC_set (by omega) n]
    repeat (first | (apply wx_val; (first | exact v_move rfl | exact v_assign rfl | exact v_addi rfl rfl (by omega)); rfl) | refine wc_region ?_ | refine wx_nil ?_ | refine wq_next ?_ | refine wq_block ?_ | refine wq_setn ?_)
    refine wq_roundK ((ns.length + 1, q, ns ++ [n])) ?_ ?_ (by repeat (first | exact trivial | refine ⟨rfl, ?_⟩)) (by first | exact catEq | exact rfl)
    · refine ⟨by simp, (show ns.length + 1 ≤ 8 by omega), hq.1, fun k n' m' hk hm' => ?_, ?_⟩
      · by_cases hkl : k < ns.length
        · exact hbd k n' m' (by simpa [List.getElem?_append_left hkl] using hk) hm'
        · have hk2 : k = ns.length := by
            have := (List.getElem?_eq_some_iff.1 hk).1
            simp at this; omega
          subst hk2
          have e1 : n = n' := by simpa using hk
          have e2 : m = m' := by rw [hns, hm] at hm'; exact Option.some.inj hm'
          subst e1; subst e2
          exact hq.2.2
      dsimp only
      rw [ho, hns]
      cases numsP d (decMax.drop (i + 1)) q with
      | error e => rfl
      | ok r => simp
    · dsimp only; omega
  · obtain rfl : i = 8 := by omega
    obtain ⟨n0, n1, n2, n3, n4, n5, n6, n7, rfl⟩ := len8 hns
    rw [show decMax.drop 8 = [] from rfl] at ho
    unfold numsP at ho
    dsimp only at ho
    rw [List.append_nil] at ho
    rw [ho] at hR
    dsimp only at hR
    rw [show (n0 :: n1 :: n2 :: n3 :: n4 :: n5 :: n6 :: n7 :: ([] : List Nat)).getD 7 0 = n7 from rfl] at hR
    have hn7 : n7 ≤ 16 := by have := hbd 7 n7 16 rfl rfl; omega
    refine wc_blk g7 [.int .i64 (n0 : Nat), .int .i64 (n1 : Nat), .int .i64 (n2 : Nat), .int .i64 (n3 : Nat), .int .i64 (n4 : Nat), .int .i64 (n5 : Nat), .int .i64 (n6 : Nat), .int .i64 (n7 : Nat)] rfl ?_
    refine wc_setn ?_
    repeat (first | (apply wx_val; (first | exact v_ldT rfl rfl rfl (by rfl) | exact v_paddr rfl rfl rfl (by omega)); rfl) | refine wc_seq ?_ | refine wc_region ?_ | refine wq_next ?_ | refine wc_exit ?_ | refine wq_then_exit ?_ | refine wq_block_exit rfl ?_)
    (try refine wx_ungd rfl rfl ?_)
    apply wx_val
    exact v_build (cs := (((⟨(n0 : Nat), (n1 : Nat), (n2 : Nat), (n3 : Nat), (n4 : Nat), (n5 : Nat), (n6 : Nat), []⟩ : TxnP).cells none 0)).toArray) rfl (by kernel_rfl)
    rfl
    skip
    refine wl_alloc rfl rfl (fun g13 => ?_)
    repeat (first | (apply wx_val; (first | exact v_assign rfl); rfl) | refine wc_seq ?_ | refine wc_region ?_ | refine wx_nil ?_ | refine wq_next ?_ | refine wc_block ?_ | refine wc_setn ?_ | refine wl_stAT rfl rfl (by rfl) (by rfl) (by exact .inl (Nat.le_refl _)) rfl ?_)
    refine wc_seg ?_
    obtain ⟨O, hO⟩ : ∃ O, O = opsP d n7 p := ⟨_, rfl⟩
    rw [← hO] at hR
    refine wc_loopK (ι := Nat × Nat × List OpW × Option Addr × Nat × Seg) [0, 2, 5, 7, 13] (fun q => [(14, .int .i64 (q.1 : Nat))]) (fun q => [refB g A d.length c (q.2.1 : Nat) 0, [(g13, .cells ((⟨(n0 : Nat), (n1 : Nat), (n2 : Nat), (n3 : Nat), (n4 : Nat), (n5 : Nat), (n6 : Nat), q.2.2.1⟩ : TxnP).cells q.2.2.2.1 q.2.2.2.2.1).toArray 46 (0, 0))], q.2.2.2.2.2]) (fun q => q.1 ≤ n7 ∧ q.2.1 ≤ d.length ∧ q.2.2.1.length = q.1 ∧ BufO q.2.2.1 q.2.2.2 ∧ O = (match opsP d (n7 - q.1) q.2.1 with | .error e => .error e | .ok (l, q') => .ok (q.2.2.1 ++ l, q'))) (fun q => n7 - q.1) ((0, p, [], none, 0, [])) rfl ?_ (by repeat (first | exact trivial | refine ⟨rfl, ?_⟩)) ?_
    · refine ⟨Nat.zero_le _, hp, rfl, Buf.nil _ _, ?_⟩
      simp only [Nat.sub_zero]
      rw [hO]
      cases opsP d n7 p with
      | error e => rfl
      | ok r => rfl
    clear hp hO
    rintro ⟨i, p, l, A3, c3, E3⟩ ⟨hi, hp, hl, hbo, ho⟩
    try dsimp only
    refine wc_fcat ?_
    refine wc_cat ?_
    dsimp only at hi hp hl hbo ho ⊢
    repeat (first | (apply wx_val; (first | exact v_move rfl | exact v_ldT rfl rfl rfl (by rfl) | exact v_lt rfl rfl | exact v_paddr rfl rfl rfl (by omega)); rfl) | refine wc_seq ?_ | refine wc_region ?_ | refine wx_nil ?_ | refine wq_next ?_)
    refine wc_if rfl (fun h1 => ?_) (fun h1 => ?_)
    · rw [show n7 - i = (n7 - (i + 1)) + 1 by omega] at ho
      unfold opsP at ho
      repeat (first | (apply wx_val; (first | exact v_move rfl); rfl) | refine wc_seq ?_ | refine wc_region ?_ | refine wq_next ?_ | refine wc_block ?_ | refine wc_skip ?_)
      refine wl_callT (fun w' hr ho => refOp_spec (p := p) hd hc hcm hp w' (hv.held hr (fun i hi => by rw [ids_append]; exact List.mem_append.2 (.inl hi))) ho) rfl rfl rfl ?_
      rintro ⟨o, at_, er, p', f'⟩ hq
      dsimp only at hq ⊢
      cases hop : opP d p with
      | error x =>
        rw [hop] at hq ho
        obtain ⟨rfl, rfl, hx⟩ := hq
        dsimp only at ho
        rw [ho] at hR
        dsimp only at hR
        subst hR
        repeat (first | (apply wx_val; (first | exact v_move rfl | exact v_extract rfl rfl); rfl) | refine wx_cat ?_)
        refine wl_alloc rfl rfl (fun g15 => ?_)
        repeat (first | (apply wx_val; (first | exact v_move rfl | exact v_assign rfl | exact v_ne rfl rfl); rfl) | refine wc_seq ?_ | refine wc_region ?_ | refine wx_nil ?_ | refine wq_next ?_ | refine wc_setn ?_ | refine wl_stAT rfl rfl (by rfl) (by rfl) (by exact .inl (Nat.le_refl _)) rfl ?_)
        refine wc_yes rfl (decide_eq_true hx) ?_
        repeat (first | refine wc_seq ?_ | refine wc_region ?_)
        (try refine wx_ungd rfl rfl ?_)
        apply wx_val
        exact v_build (cs := (txnZ).toArray) rfl (by kernel_rfl)
        rfl
        repeat (first | (apply wx_val; (first | exact v_move rfl | exact v_assign rfl); rfl) | refine wx_nil ?_ | refine wq_next ?_ | refine wc_ret ?_ | refine wq_then_ret ?_ | refine wq_block_ret ?_ | refine wq_setn ?_ | refine wl_stAT rfl rfl (by rfl) (by rfl) (by exact .inl (Nat.le_refl _)) rfl ?_)
        refine wq_seg ?_
        exact wq_retA3T (cs := txnZ) (none, 0, []) rfl rfl rfl rfl rfl rfl (Buf.nil _ _) rfl
      | ok r =>
        obtain ⟨o2, p2⟩ := r
        rw [hop] at hq ho
        dsimp only at hq ho
        cases hq
        have hpl := opP_le hp hop
        repeat (first | (apply wx_val; (first | exact v_move rfl | exact v_extract rfl rfl); rfl) | refine wx_cat ?_)
        refine wl_alloc rfl rfl (fun g15 => ?_)
        repeat (first | (apply wx_val; (first | exact v_move rfl | exact v_assign rfl | exact v_faddr rfl rfl | exact v_ldT rfl rfl rfl (by rfl) | exact v_ldAT rfl (by rfl) | exact v_ne rfl rfl); rfl) | refine wc_seq ?_ | refine wc_region ?_ | refine wx_nil ?_ | refine wq_next ?_ | refine wc_skip ?_ | refine wx_setn ?_ | refine wc_condF rfl ?_ | refine wl_stAT rfl rfl (by rfl) (by rfl) (by exact .inl (Nat.le_refl _)) rfl ?_)
        refine wl_lit rfl rfl rfl rfl rfl (by decide) rfl (fun g9 => ?_)
        refine wl_app1T rfl hbo rfl rfl rfl rfl (by omega) rfl (fun A4 c4 E4 hb4 => ?_)
        rw [show l.length + 1 = (l ++ [o]).length from by simp] at hb4 ⊢
        repeat (first | (apply wx_val; (first | exact v_move rfl | exact v_assign rfl | exact v_faddr rfl rfl | exact v_addi rfl rfl (by omega)); rfl) | refine wc_region ?_ | refine wx_nil ?_ | refine wq_next ?_ | refine wq_block ?_ | refine wq_setn ?_ | refine wl_storeT rfl rfl rfl (by rfl) (by exact .inl (Nat.le_refl _)) rfl ?_)
        refine wq_blk g13 ((⟨(n0 : Nat), (n1 : Nat), (n2 : Nat), (n3 : Nat), (n4 : Nat), (n5 : Nat), (n6 : Nat), l ++ [o]⟩ : TxnP).cells A4 c4) rfl ?_
        refine wq_setn ?_
        refine wq_roundK ((i + 1, p', l ++ [o], A4, c4, E4)) ?_ ?_ (by repeat (first | exact trivial | refine ⟨rfl, ?_⟩)) (by first | exact catEq | exact rfl)
        · refine ⟨(show i + 1 ≤ n7 by omega), hpl, (show (l ++ [o]).length = i + 1 by simp [hl]), ?_, ?_⟩
          · show Buf _ _ _ _ _ _ _
            rw [List.flatMap_append]; exact hb4
          · show O = _
            rw [ho]
            cases opsP d (n7 - (i + 1)) p' with
            | error e => rfl
            | ok r => simp
        · show n7 - (i + 1) < n7 - i
          omega
    · obtain rfl : i = n7 := by omega
      rw [Nat.sub_self] at ho
      unfold opsP at ho
      dsimp only at ho
      rw [List.append_nil] at ho
      rw [ho] at hR
      dsimp only at hR
      repeat (first | (apply wx_val; (first | exact v_move rfl | exact v_nil rfl | exact v_faddr rfl rfl | exact v_ldT rfl rfl rfl (by rfl) | exact v_len rfl rfl | exact v_lt rfl rfl); rfl) | refine wc_seq ?_ | refine wc_region ?_ | refine wx_nil ?_ | refine wq_next ?_ | refine wc_exit ?_ | refine wq_then_exit ?_ | refine wq_block_exit rfl ?_)
      refine wc_if rfl (fun h2 => ?_) (fun h2 => ?_)
      · rw [if_pos (by omega)] at hR
        dsimp only at hR
        subst hR
        repeat (first | refine wc_seq ?_)
        refine wc_heldX [] [refB g A d.length c (p : Nat) 0] rfl (by (repeat (first | exact panicNot_D3 rfl | with_reducible exact panicNot_of panicOk_body | with_reducible apply panicNot_block | with_reducible apply panicNot_then))) (fun hQd => ?_)
        (apply wh_takeX 0; (first | exact fun _ h => h | exact fun _ h => res_takes h); exact hQd; rfl; rfl; (exact v_build (cs := txnZ.toArray) rfl (by kernel_rfl)); decide +kernel; decide +kernel; decide +kernel; rfl)
        (apply wh_takeX 1; (first | exact fun _ h => h | exact fun _ h => res_takes h); exact hQd; rfl; rfl; exact v_move rfl; decide +kernel; decide +kernel; decide +kernel; rfl)
        (apply wh_takeX 2; (first | exact fun _ h => h | exact fun _ h => res_takes h); exact hQd; rfl; rfl; exact v_nil rfl; decide +kernel; decide +kernel; decide +kernel; rfl)
        (apply wh_takeX 3; (first | exact fun _ h => h | exact fun _ h => res_takes h); exact hQd; rfl; rfl; exact v_faddr rfl rfl; decide +kernel; decide +kernel; decide +kernel; rfl)
        (apply wh_takeX 4; (first | exact fun _ h => res_takes h); exact hQd; rfl; rfl; (first | exact v_ldT rfl rfl rfl (by rfl)); decide +kernel; decide +kernel; decide +kernel; rfl)
        refine wh_eff 5 rfl (by decide +kernel) ?_
        refine wl_stAT (vs := txnZ) rfl rfl (by rfl) (by rfl) (by exact .inl (Nat.le_refl _)) rfl ?_
        refine wx_setn ?_
        (try refine wx_nil ?_)
        refine wq_held (by (first | exact fun _ h => h | exact fun _ h => res_takes h)) ?_
        (apply wh_takeX 6; (first | exact fun _ h => h | exact fun _ h => res_takes h); exact hQd; rfl; rfl; exact v_assign rfl; decide +kernel; decide +kernel; decide +kernel; rfl)
        (apply wh_takeX 7; (first | exact fun _ h => h | exact fun _ h => res_takes h); exact hQd; rfl; rfl; exact v_assign rfl; decide +kernel; decide +kernel; decide +kernel; rfl)
        refine wh_done (by decide +kernel) ?_
        repeat (first | refine wq_next ?_ | refine wc_ret ?_ | refine wq_then_ret ?_)
        refine wq_seg ?_
        exact wq_retA3T (cs := txnZ) (none, 0, []) rfl rfl rfl rfl rfl rfl (Buf.nil _ _) rfl
      · rw [if_neg (by omega)] at hR
        dsimp only at hR
        subst hR
        repeat (first | (apply wx_val; (first | exact v_assign rfl | exact v_ldAT rfl (by rfl)); rfl) | refine wc_seq ?_ | refine wc_region ?_ | refine wx_nil ?_ | refine wq_next ?_ | refine wc_ret ?_ | refine wc_skip ?_ | refine wq_setn ?_ | refine wl_stAT rfl rfl (by rfl) (by rfl) (by exact .inl (Nat.le_refl _)) rfl ?_)
        exact wq_retA3T (cs := (⟨(n0 : Nat), (n1 : Nat), (n2 : Nat), (n3 : Nat), (n4 : Nat), (n5 : Nat), (n6 : Nat), l⟩ : TxnP).cells A3 c3) (A3, c3, E3) rfl rfl rfl rfl rfl rfl hbo rfl
end Go.Proofs.Ytjfjleejbbmmaaa
