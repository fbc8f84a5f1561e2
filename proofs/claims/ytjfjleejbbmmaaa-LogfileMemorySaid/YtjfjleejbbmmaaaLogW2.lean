/- What is written of a whole log. -/
import Derived.Test.YtjfjleejbbmmaaaLogT
import Derived.Test.YtjfjleejbbmmaaaLogF
set_option linter.unusedVariables false
set_option linter.unusedSimpArgs false
namespace Go.Proofs.Ytjfjleejbbmmaaa
open Go
set_option maxRecDepth 20000
set_option maxHeartbeats 2000000
attribute [local irreducible] WX WC WQ Val VCall
def chkL : List TxnW → Nat → Nat × Int
  | [], _ => (0, 0)
  | t :: r, i => if t.err ≠ 0 then (i, t.err) else chkL r (i + 1)
def chk (L : List TxnW) : Nat × Int := if 4096 < L.length then (0, 71) else chkL L 0
def encL (L : List TxnW) : List UInt8 := if (chk L).2 = 0 then logB (L.map TxnW.p) else []
theorem chkL_bad : ∀ {L : List TxnW} {i : Nat} {t : TxnW} (k : Nat), L[i]? = some t → t.err ≠ 0 → (∀ u ∈ L.take i, u.err = 0) → chkL L k = (k + i, t.err)
  | [], i, t, k, h, _, _ => by simp at h
  | u :: L, 0, t, k, h, he, _ => by
    simp at h
    subst h
    rw [chkL, if_pos he]
    rfl
  | u :: L, i + 1, t, k, h, he, hb => by
    rw [chkL, if_neg (by have := hb u (by simp); simp [this]), chkL_bad (k + 1) (by simpa using h) he (fun x hx => hb x (by simp [hx]))]
    congr 1
    omega
theorem chkL_ok : ∀ {L : List TxnW} (k : Nat), (∀ u ∈ L, u.err = 0) → chkL L k = (0, 0)
  | [], k, h => rfl
  | u :: L, k, h => by
    rw [chkL, if_neg (by have := h u (by simp); simp [this])]
    exact chkL_ok (k + 1) (fun x hx => h x (by simp [hx]))
theorem chkL_err : ∀ {L : List TxnW} {k : Nat}, (chkL L k).2 = 0 → ∀ u ∈ L, u.err = 0
  | [], k, h => by simp
  | u :: L, k, h => by
    rw [chkL] at h
    by_cases he : u.err ≠ 0
    · rw [if_pos he] at h
      exact absurd h he
    · rw [if_neg he] at h
      intro x hx
      rcases List.mem_cons.1 hx with rfl | hx
      · exact Decidable.not_not.1 he
      · exact chkL_err h x hx
theorem chk_many {L : List TxnW} (h : 4096 < L.length) : chk L = (0, 71) := if_pos h
theorem chk_bad {L : List TxnW} {i : Nat} {t : TxnW} (hl : L.length ≤ 4096) (hi : L[i]? = some t) (he : t.err ≠ 0) (hb : ∀ u ∈ L.take i, u.err = 0) : chk L = (i, t.err) := by
  unfold chk
  rw [if_neg (by omega), chkL_bad 0 hi he hb, Nat.zero_add]
theorem chk_ok {L : List TxnW} (hl : L.length ≤ 4096) (h : ∀ u ∈ L, u.err = 0) : chk L = (0, 0) := by
  unfold chk
  rw [if_neg (by omega), chkL_ok 0 h]
theorem chk_inv {L : List TxnW} (h : (chk L).2 = 0) : L.length ≤ 4096 ∧ (∀ u ∈ L, u.err = 0) ∧ (chk L).1 = 0 := by
  unfold chk at h
  by_cases hl : 4096 < L.length
  · rw [if_pos hl] at h
    have h' : (71 : Int) = 0 := h
    cases h'
  · rw [if_neg hl] at h
    have h2 := chkL_err h
    refine ⟨by omega, h2, ?_⟩
    unfold chk
    rw [if_neg hl, chkL_ok 0 h2]
theorem TxnW.p_body (t : TxnW) : t.p.body = t.body := rfl
theorem TxnW.p_right {t : TxnW} (h : t.err = 0) : t.p.Right := h
/-- the bytes behind i entries -/
def outB (L : List TxnW) (i : Nat) : List UInt8 := magicB ++ entsB ((L.take i).map TxnW.p)
theorem outB_zero (L : List TxnW) : outB L 0 = magicB := by simp [outB, entsB]
theorem outB_succ {L : List TxnW} {i : Nat} {t : TxnW} (h : L[i]? = some t) : outB L (i + 1) = (outB L i ++ formN t.body.length) ++ t.body := by
  unfold outB
  rw [List.take_add_one, h]
  simp [entsB, entB, TxnW.p_body]
theorem outB_all (L : List TxnW) : (outB L L.length ++ [0]) ++ formN L.length = logB (L.map TxnW.p) := by
  unfold outB logB
  rw [List.take_length]
  simp
theorem outB_len {L : List TxnW} : ∀ {i : Nat}, i ≤ L.length → (∀ u ∈ L.take i, u.err = 0) → (outB L i).length ≤ 4 + i * 480
  | 0, _, _ => by rw [outB_zero]; decide
  | i + 1, hi, h => by
    obtain ⟨t, ht⟩ : ∃ t, L[i]? = some t := ⟨L[i]'(by omega), List.getElem?_eq_getElem _⟩
    have hm : t ∈ L.take (i + 1) := by rw [List.take_add_one, ht]; simp
    have h1 := outB_len (L := L) (i := i) (by omega) (fun u hu => h u (by rw [List.take_add_one]; simp [hu]))
    have h2 := t.p.body_le (h t hm)
    rw [t.p_body] at h2
    have h3 := formN_len8 (n := t.body.length) (by omega)
    rw [outB_succ ht, List.length_append, List.length_append]
    omega
abbrev EncR (L : List TxnW) (w : World) : Ending → World → Prop :=
  Ret (β := Option Addr × Nat × Seg) w (ids []) (fun q => .tuple #[.slice q.1 (encL L).length q.2.1, .int .i64 ((chk L).1 : Nat), .int .i64 (chk L).2]) (fun q => [q.2.2]) (fun q => BufB (encL L) q)
theorem encL_bad {L : List TxnW} (h : (chk L).2 ≠ 0) : encL L = [] := if_neg h
theorem LogEnc_spec {L : List TxnW} {A : Option Addr} {c : Nat} (hl : L.length ≤ 1048576) (w : World) (hv : Vw [] w A (L.flatMap TxnW.cells)) (hr1 : ∀ t ∈ L, t.Reads w) :
    Calls Try.prog 17 #[.slice A L.length c] w (EncR L w) := by
  refine go [.slice A L.length c] [] Try.func17 Try.ntmps17 rfl rfl (own_nil w) ?_
  unfold EncR
  repeat (first | (apply wx_val; (first | exact v_move rfl | exact v_assign rfl | exact v_len rfl rfl | exact v_gt rfl rfl); rfl) | refine wc_seq ?_ | refine wc_region ?_ | refine wx_nil ?_ | refine wq_next ?_)
  refine wc_if rfl (fun h0 => ?_) (fun h0 => ?_)
  · have e := chk_many (L := L) (by omega)
    have e2 := encL_bad (L := L) (by rw [e]; show (71 : Int) ≠ 0; decide)
    rw [e, e2]
    repeat (first | (apply wx_val; (first | exact v_assign rfl); rfl) | refine wc_seq ?_ | refine wc_region ?_ | refine wx_nil ?_ | refine wq_next ?_ | refine wc_ret ?_ | refine wq_then_ret ?_)
    refine wq_seg ?_
    exact wq_ret3T (none, 0, []) rfl rfl rfl rfl rfl (Buf.nil _ _) rfl
  have hl4 : L.length ≤ 4096 := by omega
  repeat (first | refine wc_seq ?_ | refine wc_region ?_ | refine wq_next ?_ | refine wc_skip ?_)
  refine wl_lit rfl rfl rfl rfl rfl (by decide) rfl (fun g1 => ?_)
  refine wl_mark (n := 4) rfl rfl rfl (by rfl) (by decide) rfl (fun E1 hb1 => ?_)
  have hb1' : BufB (outB L 0) (some ⟨g1, 0, none⟩, 4, E1) := by rw [outB_zero]; exact hb1
  repeat (first | (apply wx_val; (first | exact v_move rfl | exact v_assign rfl | exact v_len rfl rfl); rfl) | refine wc_seq ?_ | refine wc_region ?_ | refine wx_nil ?_ | refine wq_next ?_ | refine wc_block ?_)
  refine wc_loopK (ι := Nat × Option Addr × Nat × Seg) [0, 19, 20] (fun q => [(5, .slice q.2.1 (outB L q.1).length q.2.2.1), (21, .int .i64 (q.1 : Nat))]) (fun q => [q.2.2.2]) (fun q => q.1 ≤ L.length ∧ BufB (outB L q.1) q.2 ∧ (∀ u ∈ L.take q.1, u.err = 0)) (fun q => L.length - q.1) ((0, some ⟨g1, 0, none⟩, 4, E1)) rfl ?_ (by repeat (first | exact trivial | refine ⟨rfl, ?_⟩)) ?_
  · exact ⟨Nat.zero_le _, hb1', by simp⟩
  clear hb1 hb1'
  rintro ⟨i, A1, c1, E1⟩ ⟨hi, hb1, hok⟩
  try dsimp only
  refine wc_fcat ?_
  refine wc_cat ?_
  dsimp only at hi hb1 hok ⊢
  have hol := outB_len hi hok
  repeat (first | (apply wx_val; (first | exact v_lt rfl rfl); rfl) | refine wc_seq ?_ | refine wc_region ?_ | refine wx_nil ?_ | refine wq_next ?_)
  refine wc_if rfl (fun h1 => ?_) (fun h1 => ?_)
  · obtain ⟨t, ht⟩ : ∃ t, L[i]? = some t := ⟨L[i]'(by omega), List.getElem?_eq_getElem _⟩
    have hm := List.mem_of_getElem? ht
    obtain ⟨ga, oa, hA1, hca⟩ := hv.elT (k := 8) (by decide) (fun _ => rfl) (by omega)
    repeat (first | (apply wx_val; (first | exact v_move rfl | exact v_iaddrE (by assumption) rfl rfl rfl (by omega)); rfl) | refine wc_seq ?_ | refine wc_region ?_ | refine wq_next ?_ | refine wc_block ?_ | refine wc_skip ?_)
    (try refine wx_ungd rfl rfl ?_)
    apply wx_val
    exact v_loadA (cs := t.cells) rfl rfl (fun w' hr j u hj => hca ht hr hj (by rw [Int.toNat_natCast]))
    rfl
    refine wl_alloc rfl rfl (fun g7 => ?_)
    repeat (first | (apply wx_val; (first | exact v_assign rfl | (first | exact v_ldQ 0 0 rfl rfl rfl rfl rfl)); rfl) | refine wc_seq ?_ | refine wc_region ?_ | refine wx_nil ?_ | refine wq_next ?_ | refine wx_setn ?_ | refine wl_stAT rfl rfl (by rfl) (by rfl) (by exact .inl (Nat.le_refl _)) rfl ?_)
    refine wl_callT (M1 := []) (fun w' hr ho => Encode_spec (t := t) w' (Vw.keep (hr1 t hm) hr)) rfl rfl rfl ?_
    rintro ⟨A3, c3, E3⟩ hb3
    dsimp only at hb3 ⊢
    repeat (first | (apply wx_val; (first | exact v_move rfl | exact v_assign rfl | exact v_extract rfl rfl | exact v_ne rfl rfl); rfl) | refine wc_seq ?_ | refine wc_region ?_ | refine wx_nil ?_ | refine wq_next ?_ | refine wc_cat ?_)
    refine wc_if rfl (fun he => ?_) (fun he => ?_)
    · have he' : t.err ≠ 0 := he
      have e := chk_bad hl4 ht he' hok
      have e2 := encL_bad (L := L) (by rw [e]; exact he')
      rw [e, e2]
      repeat (first | (apply wx_val; (first | exact v_move rfl | exact v_assign rfl); rfl) | refine wc_seq ?_ | refine wc_region ?_ | refine wx_nil ?_ | refine wq_next ?_ | refine wc_ret ?_ | refine wq_then_ret ?_ | refine wq_block_ret ?_)
      refine wq_seg ?_
      exact wq_ret3T (none, 0, []) rfl rfl rfl rfl rfl (Buf.nil _ _) rfl
    have he' : t.err = 0 := Decidable.not_not.1 he
    have eb : t.encB = t.body := if_pos he'
    have hbl := t.p.body_le (t.p_right he')
    rw [t.p_body] at hbl
    rw [eb] at hb3 ⊢
    repeat (first | (apply wx_val; (first | exact v_move rfl | exact v_len rfl rfl); rfl) | refine wc_seq ?_ | refine wc_region ?_ | refine wq_next ?_ | refine wc_skip ?_)
    refine wl_callT (M1 := []) (fun w' hr ho => Append_spec (A := none) (c := 0) (l := []) (N := t.body.length) (by omega) (by decide) w' Vw.nil) rfl rfl rfl ?_
    rintro ⟨A4, c4, E4⟩ hb4
    rw [List.nil_append] at hb4 ⊢
    dsimp only at hb4 ⊢
    have hfl := formN_len8 (n := t.body.length) (by omega)
    repeat (first | (apply wx_val; (first | exact v_move rfl | exact v_assign rfl | exact v_extract rfl rfl); rfl) | refine wc_region ?_ | refine wx_nil ?_ | refine wq_next ?_ | refine wx_cat ?_)
    refine wl_appT rfl hb1 rfl rfl (fun w' hr => src_slice rfl (hb4.rdT hr) (by simp) (by decide) (one_bys _)) (by omega) rfl (fun A5 c5 E5 hb5 => ?_)
    repeat (first | (apply wx_val; (first | exact v_move rfl); rfl))
    rw [← bys_append, ← List.length_append] at hb5
    rw [← List.length_append]
    skip
    have hl5 : (outB L i ++ formN t.body.length).length ≤ 4 + i * 480 + 8 := by rw [List.length_append]; omega
    refine wl_appT rfl hb5 rfl rfl (fun w' hr => src_slice rfl (hb3.rdT hr) (by simp) (by decide) (one_bys _)) (by omega) rfl (fun A6 c6 E6 hb6 => ?_)
    rw [← bys_append, ← List.length_append, ← outB_succ ht] at hb6
    rw [← List.length_append, ← outB_succ ht]
    repeat (first | (apply wx_val; (first | exact v_move rfl | exact v_assign rfl | exact v_addi rfl rfl (by omega)); rfl) | refine wc_region ?_ | refine wx_nil ?_ | refine wq_next ?_ | refine wq_block ?_)
    refine wq_roundK ((i + 1, A6, c6, E6)) ?_ ?_ (by repeat (first | exact trivial | refine ⟨rfl, ?_⟩)) (by first | exact catEq | exact rfl)
    · refine ⟨(show i + 1 ≤ L.length by omega), hb6, fun u hu => ?_⟩
      rw [List.take_add_one, ht] at hu
      rcases List.mem_append.1 hu with hu | hu
      · exact hok u hu
      · obtain rfl : u = t := by simpa using hu
        exact he'
    · dsimp only; omega
  · obtain rfl : i = L.length := by omega
    rw [List.take_length] at hok
    have e := chk_ok hl4 hok
    have e2 : encL L = logB (L.map TxnW.p) := if_pos (by rw [e])
    rw [e, e2]
    repeat (first | (apply wx_val; (first | exact v_move rfl | exact v_len rfl rfl); rfl) | refine wc_seq ?_ | refine wc_region ?_ | refine wq_next ?_ | refine wc_exit ?_ | refine wq_then_exit ?_ | refine wq_block_exit rfl ?_)
    refine wl_callT (M1 := []) (fun w' hr ho => Append_spec (A := none) (c := 0) (l := []) (N := L.length) (by omega) (by decide) w' Vw.nil) rfl rfl rfl ?_
    rintro ⟨A4, c4, E4⟩ hb4
    rw [List.nil_append] at hb4 ⊢
    dsimp only at hb4 ⊢
    have hfl := formN_len8 (n := L.length) (by omega)
    repeat (first | (apply wx_val; (first | exact v_move rfl | exact v_assign rfl | exact v_extract rfl rfl); rfl) | refine wc_seq ?_ | refine wc_region ?_ | refine wx_nil ?_ | refine wq_next ?_ | refine wx_cat ?_)
    refine wl_lit rfl rfl rfl rfl rfl (by decide) rfl (fun g9 => ?_)
    refine wl_app1T (news := bys [0]) rfl hb1 rfl rfl rfl rfl (by omega) rfl (fun A5 c5 E5 hb5 => ?_)
    rw [← bys_append, show (outB L L.length).length + 1 = (outB L L.length ++ [0]).length by simp] at hb5
    rw [show (outB L L.length).length + 1 = (outB L L.length ++ [0]).length by simp]
    have hl5 : (outB L L.length ++ [0]).length ≤ 4 + L.length * 480 + 8 := by simp; omega
    repeat (first | (apply wx_val; (first | exact v_move rfl); rfl))
    refine wl_appT rfl hb5 rfl rfl (fun w' hr => src_slice rfl (hb4.rdT hr) (by simp) (by decide) (one_bys _)) (by omega) rfl (fun A6 c6 E6 hb6 => ?_)
    rw [← bys_append, ← List.length_append, outB_all] at hb6
    rw [← List.length_append, outB_all]
    repeat (first | (apply wx_val; (first | exact v_assign rfl); rfl) | refine wx_nil ?_ | refine wq_next ?_ | refine wc_ret ?_)
    exact wq_ret3T (A6, c6, E6) rfl rfl rfl rfl rfl hb6 rfl
theorem LogChk_spec {L : List TxnW} {A : Option Addr} {c : Nat} (hl : L.length ≤ 1048576) (w : World) (hv : Vw [] w A (L.flatMap TxnW.cells)) (hr1 : ∀ t ∈ L, t.Reads w) :
    Calls Try.prog 19 #[.slice A L.length c] w (Ret (β := Unit) w (ids []) (fun _ => .tuple #[.int .i64 ((chk L).1 : Nat), .int .i64 (chk L).2]) (fun _ => []) (fun _ => True)) := by
  refine go [.slice A L.length c] [] Try.func19 Try.ntmps19 rfl rfl (own_nil w) ?_
  repeat (first | (apply wx_val; (first | exact v_move rfl | exact v_assign rfl | exact v_len rfl rfl | exact v_gt rfl rfl); rfl) | refine wc_seq ?_ | refine wc_region ?_ | refine wx_nil ?_ | refine wq_next ?_)
  refine wc_if rfl (fun h0 => ?_) (fun h0 => ?_)
  · rw [chk_many (L := L) (by omega)]
    repeat (first | (apply wx_val; (first | exact v_assign rfl); rfl) | refine wc_seq ?_ | refine wc_region ?_ | refine wx_nil ?_ | refine wq_next ?_ | refine wc_ret ?_ | refine wq_then_ret ?_)
    exact wq_ret2T () rfl rfl rfl rfl trivial rfl
  have hl4 : L.length ≤ 4096 := by omega
  repeat (first | (apply wx_val; (first | exact v_assign rfl); rfl) | refine wc_seq ?_ | refine wc_region ?_ | refine wx_nil ?_ | refine wq_next ?_ | refine wc_block ?_ | refine wc_skip ?_)
  refine wc_loopK (ι := Nat) [0] (fun i => [(4, .int .i64 (i : Nat))]) (fun i => []) (fun i => i ≤ L.length ∧ (∀ u ∈ L.take i, u.err = 0)) (fun i => L.length - i) (0) rfl ?_ (by repeat (first | exact trivial | refine ⟨rfl, ?_⟩)) ?_
  · exact ⟨Nat.zero_le _, by simp⟩
  rintro i ⟨hi, hok⟩
  try dsimp only
  refine wc_fcat ?_
  refine wc_cat ?_
  repeat (first | (apply wx_val; (first | exact v_move rfl | exact v_len rfl rfl | exact v_lt rfl rfl); rfl) | refine wc_seq ?_ | refine wc_region ?_ | refine wx_nil ?_ | refine wq_next ?_)
  refine wc_if rfl (fun h1 => ?_) (fun h1 => ?_)
  · obtain ⟨t, ht⟩ : ∃ t, L[i]? = some t := ⟨L[i]'(by omega), List.getElem?_eq_getElem _⟩
    have hm := List.mem_of_getElem? ht
    obtain ⟨ga, oa, hA1, hca⟩ := hv.elT (k := 8) (by decide) (fun _ => rfl) (by omega)
    repeat (first | (apply wx_val; (first | exact v_move rfl | exact v_iaddrE (by assumption) rfl rfl rfl (by omega)); rfl) | refine wc_seq ?_ | refine wc_region ?_ | refine wq_next ?_ | refine wc_block ?_ | refine wc_skip ?_)
    (try refine wx_ungd rfl rfl ?_)
    apply wx_val
    exact v_loadA (cs := t.cells) rfl rfl (fun w' hr j u hj => hca ht hr hj (by rw [Int.toNat_natCast]))
    rfl
    (try refine wx_ungd rfl rfl ?_)
    refine wx_vcall (vc_pure' rfl rfl (fun w' hr => refValid_spec t w' (Vw.keep (hr1 t hm) hr))) rfl ?_
    repeat (first | (apply wx_val; (first | exact v_move rfl | exact v_assign rfl | exact v_ne rfl rfl); rfl) | refine wc_seq ?_ | refine wc_region ?_ | refine wx_nil ?_ | refine wq_next ?_)
    refine wc_if rfl (fun he => ?_) (fun he => ?_)
    · rw [chk_bad hl4 ht he hok]
      repeat (first | (apply wx_val; (first | exact v_move rfl | exact v_assign rfl); rfl) | refine wc_seq ?_ | refine wc_region ?_ | refine wx_nil ?_ | refine wq_next ?_ | refine wc_ret ?_ | refine wq_then_ret ?_ | refine wq_block_ret ?_)
      exact wq_ret2T () rfl rfl rfl rfl trivial rfl
    · repeat (first | (apply wx_val; (first | exact v_move rfl | exact v_assign rfl | exact v_addi rfl rfl (by omega)); rfl) | refine wc_region ?_ | refine wx_nil ?_ | refine wq_next ?_ | refine wc_skip ?_ | refine wq_block ?_)
      refine wq_roundK (i + 1) ?_ ?_ (by repeat (first | exact trivial | refine ⟨rfl, ?_⟩)) (by first | exact catEq | exact rfl)
      · refine ⟨(show i + 1 ≤ L.length by omega), fun u hu => ?_⟩
        rw [List.take_add_one, ht] at hu
        rcases List.mem_append.1 hu with hu | hu
        · exact hok u hu
        · obtain rfl : u = t := by simpa using hu
          exact Decidable.not_not.1 he
      · omega
  · obtain rfl : i = L.length := by omega
    rw [List.take_length] at hok
    rw [chk_ok hl4 hok]
    repeat (first | (apply wx_val; (first | exact v_assign rfl); rfl) | refine wc_seq ?_ | refine wc_region ?_ | refine wx_nil ?_ | refine wq_next ?_ | refine wc_ret ?_ | refine wc_exit ?_ | refine wq_then_exit ?_ | refine wq_block_exit rfl ?_)
    exact wq_ret2T () rfl rfl rfl rfl trivial rfl
theorem LogLog_spec {L : List TxnW} {A : Option Addr} {c : Nat} (hl : L.length ≤ 4096) (he : ∀ u ∈ L, u.err = 0) (w : World) (hv : Vw [] w A (L.flatMap TxnW.cells)) (hr1 : ∀ t ∈ L, t.Reads w) :
    Calls Try.prog 21 #[.slice A L.length c] w (RetB w (ids []) (logB (L.map TxnW.p))) := by
  refine go [.slice A L.length c] [] Try.func21 Try.ntmps21 rfl rfl (own_nil w) ?_
  repeat (first | (apply wx_val; (first | exact v_assign rfl); rfl) | refine wc_seq ?_ | refine wc_region ?_ | refine wx_nil ?_ | refine wq_next ?_)
  refine wl_litB rfl rfl rfl rfl rfl (by decide) rfl (fun g1 E1 hb1 => ?_)
  have hb1' : BufB (outB L 0) (some ⟨g1, 0, none⟩, 4, E1) := by rw [outB_zero]; exact hb1
  repeat (first | (apply wx_val; (first | exact v_assign rfl); rfl) | refine wc_seq ?_ | refine wc_region ?_ | refine wx_nil ?_ | refine wq_next ?_ | refine wc_block ?_)
  refine wc_loopK (ι := Nat × Option Addr × Nat × Seg) [0] (fun q => [(3, .slice q.2.1 (outB L q.1).length q.2.2.1), (4, .int .i64 (q.1 : Nat))]) (fun q => [q.2.2.2]) (fun q => q.1 ≤ L.length ∧ BufB (outB L q.1) q.2) (fun q => L.length - q.1) ((0, some ⟨g1, 0, none⟩, 4, E1)) rfl ?_ (by repeat (first | exact trivial | refine ⟨rfl, ?_⟩)) ?_
  · exact ⟨Nat.zero_le _, hb1'⟩
  clear hb1 hb1'
  rintro ⟨i, A1, c1, E1⟩ ⟨hi, hb1⟩
  try dsimp only
  refine wc_fcat ?_
  refine wc_cat ?_
  dsimp only at hi hb1 ⊢
  have hol := outB_len hi (fun u hu => he u (List.mem_of_mem_take hu))
  repeat (first | (apply wx_val; (first | exact v_move rfl | exact v_len rfl rfl | exact v_lt rfl rfl); rfl) | refine wc_seq ?_ | refine wc_region ?_ | refine wx_nil ?_ | refine wq_next ?_)
  refine wc_if rfl (fun h1 => ?_) (fun h1 => ?_)
  · obtain ⟨t, ht⟩ : ∃ t, L[i]? = some t := ⟨L[i]'(by omega), List.getElem?_eq_getElem _⟩
    have hm := List.mem_of_getElem? ht
    have he' := he t hm
    have hbl := t.p.body_le (t.p_right he')
    rw [t.p_body] at hbl
    obtain ⟨ga, oa, hA1, hca⟩ := hv.elT (k := 8) (by decide) (fun _ => rfl) (by omega)
    repeat (first | (apply wx_val; (first | exact v_move rfl | exact v_iaddrE (by assumption) rfl rfl rfl (by omega)); rfl) | refine wc_seq ?_ | refine wc_region ?_ | refine wq_next ?_ | refine wc_block ?_ | refine wc_skip ?_)
    (try refine wx_ungd rfl rfl ?_)
    apply wx_val
    exact v_loadA (cs := t.cells) rfl rfl (fun w' hr j u hj => hca ht hr hj (by rw [Int.toNat_natCast]))
    rfl
    refine wl_callT (M1 := []) (fun w' hr ho => Body_spec (t := t) w' (Vw.keep (hr1 t hm) hr) he') rfl rfl rfl ?_
    rintro ⟨A3, c3, E3⟩ hb3
    dsimp only at hb3 ⊢
    repeat (first | (apply wx_val; (first | exact v_move rfl | exact v_assign rfl | exact v_len rfl rfl); rfl) | refine wc_seq ?_ | refine wc_region ?_ | refine wx_nil ?_ | refine wq_next ?_ | refine wx_cat ?_)
    refine wl_callT (M1 := []) (fun w' hr ho => Form_spec (t.body.length : Nat) w') rfl rfl rfl ?_
    rintro ⟨A4, c4, E4⟩ hb4
    have ef : formI (t.body.length : Nat) = formN t.body.length := by rw [formI, if_neg (by omega)]; rfl
    rw [ef] at hb4 ⊢
    dsimp only at hb4 ⊢
    have hfl := formN_len8 (n := t.body.length) (by omega)
    repeat (first | (apply wx_val; (first | exact v_move rfl | exact v_assign rfl); rfl) | refine wc_seq ?_ | refine wc_region ?_ | refine wx_nil ?_ | refine wq_next ?_ | refine wx_cat ?_)
    refine wl_appT rfl hb1 rfl rfl (fun w' hr => src_slice rfl (hb4.rdT hr) (by simp) (by decide) (one_bys _)) (by omega) rfl (fun A5 c5 E5 hb5 => ?_)
    rw [← bys_append, ← List.length_append] at hb5
    rw [← List.length_append]
    repeat (first | (apply wx_val; (first | exact v_move rfl | exact v_assign rfl); rfl) | refine wc_region ?_ | refine wx_nil ?_ | refine wq_next ?_)
    have hl5 : (outB L i ++ formN t.body.length).length ≤ 4 + i * 480 + 8 := by rw [List.length_append]; omega
    refine wl_appT rfl hb5 rfl rfl (fun w' hr => src_slice rfl (hb3.rdT hr) (by simp) (by decide) (one_bys _)) (by omega) rfl (fun A6 c6 E6 hb6 => ?_)
    rw [← bys_append, ← List.length_append, ← outB_succ ht] at hb6
    rw [← List.length_append, ← outB_succ ht]
    repeat (first | (apply wx_val; (first | exact v_move rfl | exact v_assign rfl | exact v_addi rfl rfl (by omega)); rfl) | refine wc_region ?_ | refine wx_nil ?_ | refine wq_next ?_ | refine wq_block ?_)
    refine wq_roundK ((i + 1, A6, c6, E6)) ?_ ?_ (by repeat (first | exact trivial | refine ⟨rfl, ?_⟩)) (by first | exact catEq | exact rfl)
    · exact ⟨(show i + 1 ≤ L.length by omega), hb6⟩
    · dsimp only; omega
  · obtain rfl : i = L.length := by omega
    repeat (first | (apply wx_val; (first | exact v_move rfl | exact v_len rfl rfl); rfl) | refine wc_seq ?_ | refine wc_region ?_ | refine wq_next ?_ | refine wc_exit ?_ | refine wq_then_exit ?_ | refine wq_block_exit rfl ?_)
    refine wl_callT (M1 := []) (fun w' hr ho => Form_spec (L.length : Nat) w') rfl rfl rfl ?_
    rintro ⟨A4, c4, E4⟩ hb4
    have ef : formI (L.length : Nat) = formN L.length := by rw [formI, if_neg (by omega)]; rfl
    rw [ef] at hb4 ⊢
    dsimp only at hb4 ⊢
    have hfl := formN_len8 (n := L.length) (by omega)
    repeat (first | (apply wx_val; (first | exact v_move rfl | exact v_assign rfl); rfl) | refine wc_seq ?_ | refine wc_region ?_ | refine wx_nil ?_ | refine wq_next ?_ | refine wx_cat ?_)
    refine wl_lit rfl rfl rfl rfl rfl (by decide) rfl (fun g9 => ?_)
    refine wl_app1T (news := bys [0]) rfl hb1 rfl rfl rfl rfl (by omega) rfl (fun A5 c5 E5 hb5 => ?_)
    rw [← bys_append, show (outB L L.length).length + 1 = (outB L L.length ++ [0]).length by simp] at hb5
    rw [show (outB L L.length).length + 1 = (outB L L.length ++ [0]).length by simp]
    have hl5 : (outB L L.length ++ [0]).length ≤ 4 + L.length * 480 + 8 := by simp; omega
    repeat (first | (apply wx_val; (first | exact v_move rfl | exact v_assign rfl); rfl) | refine wc_seq ?_ | refine wc_region ?_ | refine wx_nil ?_ | refine wq_next ?_)
    refine wl_appT rfl hb5 rfl rfl (fun w' hr => src_slice rfl (hb4.rdT hr) (by simp) (by decide) (one_bys _)) (by omega) rfl (fun A6 c6 E6 hb6 => ?_)
    rw [← bys_append, ← List.length_append, outB_all] at hb6
    rw [← List.length_append, outB_all]
    repeat (first | (apply wx_val; (first | exact v_assign rfl); rfl) | refine wx_nil ?_ | refine wq_next ?_ | refine wc_ret ?_)
    exact wq_ret1T (A6, c6, E6) rfl rfl hb6 rfl
end Go.Proofs.Ytjfjleejbbmmaaa
