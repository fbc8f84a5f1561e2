/- Answers of logs are memory of their own. -/
import Derived.Test.YtjfjleejbbmmaaaLogK
set_option linter.unusedVariables false
set_option linter.unusedSimpArgs false
namespace Go.Proofs.Ytjfjleejbbmmaaa
open Go
set_option maxRecDepth 20000
set_option maxHeartbeats 4000000
attribute [local irreducible] WX WC WQ Val VCall
theorem bys_setC (l : List UInt8) (i n : Nat) (h : n < 256) : (bys l).set i (.int .u8 n) = bys (l.set i (UInt8.ofNat n)) := by
  have e : (UInt8.ofNat n).toNat = n := by simp; omega
  have : (bys l).set i (.int .u8 (UInt8.ofNat n).toNat) = bys (l.set i (UInt8.ofNat n)) := by simp [bys, List.map_set]
  rw [e] at this
  exact this
/-- a scanner over a whole log, k transactions read -/
structure Reads (L : List TxnP) (S : Scn) (D : Dsc) (k : Nat) : Prop where
  keeps : Keeps S D
  fault : D.fault = 0
  foot : D.foot = false
  data : D.data = logB L
  count : D.count = k
  at_ : (D.place = 0 ∧ k = 0) ∨ (0 < D.place ∧ (logB L).drop D.place = entsB (L.drop k) ++ (0 :: formN L.length))
theorem log_drop (L : List TxnP) : (logB L).drop 4 = entsB L ++ (0 :: formN L.length) := by
  unfold logB
  rw [List.drop_left' (show magicB.length = 4 from rfl)]
theorem ents_drop {L : List TxnP} {k : Nat} {t : TxnP} (h : L[k]? = some t) : entsB (L.drop k) = entB t ++ entsB (L.drop (k + 1)) := by
  obtain ⟨h1, rfl⟩ := List.getElem?_eq_some_iff.1 h
  rw [List.drop_eq_getElem_cons h1]
  rfl
theorem Reads.next {L : List TxnP} {S : Scn} {D : Dsc} {k : Nat} {t : TxnP} (h : Reads L S D k) (hr : ∀ t ∈ L, t.Right) (hl : L.length ≤ 4096) (ht : L[k]? = some t) :
    D.next.1 = (t, true, 0) ∧ Reads L S.next.2 D.next.2 (k + 1) := by
  have hkl := (List.getElem?_eq_some_iff.1 ht).1
  have htr := hr t (List.mem_of_getElem? ht)
  obtain ⟨n1, n2⟩ := next_rel h.keeps
  have key : ∀ p : Nat, 0 < p → (logB L).drop p = entsB (L.drop k) ++ (0 :: formN L.length) → D.next = (⟨D.data, D.ended, p, D.count, D.foot, D.fault⟩ : Dsc).entry → D.next.1 = (t, true, 0) ∧ Reads L S.next.2 D.next.2 (k + 1) := fun p hp hd hn => by
    have he : (⟨D.data, D.ended, p, D.count, D.foot, D.fault⟩ : Dsc).data.drop p = entB t ++ (entsB (L.drop (k + 1)) ++ (0 :: formN L.length)) := by
      show D.data.drop p = _
      rw [h.data, hd, ents_drop ht, List.append_assoc]
    have e := entry_at (D := ⟨D.data, D.ended, p, D.count, D.foot, D.fault⟩) he htr (by show D.count < 4096; rw [h.count]; omega)
    rw [hn, e] at n2 ⊢
    refine ⟨rfl, ⟨n2, h.fault, h.foot, h.data, ?_, .inr ⟨?_, ?_⟩⟩⟩
    · show D.count + 1 = k + 1
      rw [h.count]
    · show 0 < p + _
      omega
    · show (logB L).drop (p + (entB t).length) = _
      refine drop_more (l := entB t) ?_
      rw [hd, ents_drop ht, List.append_assoc]
  rcases h.at_ with ⟨a1, rfl⟩ | ⟨a1, a2⟩
  · refine key 4 (by decide) (by rw [log_drop, List.drop_zero]) ?_
    have hh : headAt magicB D.data 0 = none := by rw [h.data]; rfl
    unfold Dsc.next
    rw [if_neg (by simp [h.fault]), if_pos a1, hh]
  · refine key D.place a1 a2 ?_
    unfold Dsc.next
    rw [if_neg (by simp [h.fault]), if_neg (by omega), if_neg (by simp [h.foot])]
theorem reads_new (L : List TxnP) : Reads L (Scn.new.feed (logB L)) ⟨logB L, false, 0, 0, false, 0⟩ 0 := ⟨feed_rel new_rel (logB L), rfl, rfl, rfl, rfl, .inl ⟨rfl, rfl⟩⟩
section lists
variable {A : Option Addr} {c : Nat} {L : List TxnW}
theorem Mem_law (hl : L.length ≤ 1048576) (hs : ∀ t ∈ L, t.ops.xs.length ≤ 1048576) (w : World) (hv : Vw [] w A (L.flatMap TxnW.cells)) (hrd : ∀ t ∈ L, t.Reads w) :
    Calls Try.prog 10 #[.slice A L.length c] w (Holds w) := by
  refine go [.slice A L.length c] [] Try.func10 Try.ntmps10 rfl rfl (own_nil w) ?_
  repeat (first | (apply wx_val; (first | exact v_move rfl | exact v_assign rfl | exact v_not rfl); rfl) | refine wc_seq ?_ | refine wc_region ?_ | refine wx_nil ?_ | refine wq_next ?_ | refine wc_skip ?_ | refine wc_condF rfl ?_ | (apply wx_vcall; exact vc_pure rfl rfl (fun w' => anchor_spec w'); rfl))
  (try refine wx_ungd rfl rfl ?_)
  refine wx_vcall (vc_pure' rfl rfl (fun w' hr => LogChk_spec hl w' (hv.keep hr) (fun t ht => Vw.keep (hrd t ht) hr))) rfl ?_
  repeat (first | (apply wx_val; (first | exact v_move rfl | exact v_assign rfl | exact v_extract rfl rfl | exact v_ne rfl rfl); rfl) | refine wc_seq ?_ | refine wc_region ?_ | refine wx_nil ?_ | refine wq_next ?_)
  by_cases hq : (chk L).2 = 0 ∧ 1 ≤ L.length
  case neg =>
    refine wx_gif rfl rfl (fun h1 => ?_) (fun h1 => ?_)
    · repeat (first | (apply wx_val; (first | exact v_assign rfl | exact v_pickT rfl rfl); rfl) | refine wx_no rfl rfl rfl ?_ | refine wc_seq ?_ | refine wc_region ?_ | refine wx_nil ?_ | refine wq_next ?_ | refine wc_ret ?_ | refine wq_then_ret ?_ | refine wc_condT rfl ?_)
      exact wq_clear (wq_ret1 () rfl rfl trivial rfl)
    · repeat (first | (apply wx_val; (first | exact v_move rfl | exact v_len rfl rfl | exact v_lt rfl rfl | exact v_pickF rfl rfl); rfl) | refine wx_ungd rfl rfl ?_ | refine wx_nil ?_ | refine wq_next ?_)
      refine wc_yes rfl (decide_eq_true (by omega)) ?_
      repeat (first | (apply wx_val; (first | exact v_assign rfl); rfl) | refine wc_seq ?_ | refine wc_region ?_ | refine wx_nil ?_ | refine wq_next ?_ | refine wc_ret ?_ | refine wq_then_ret ?_)
      exact wq_clear (wq_ret1 () rfl rfl trivial rfl)
  obtain ⟨he', hl1⟩ := hq
  obtain ⟨k1, k2, k3⟩ := chk_inv he'
  have hrp := right_p k2
  have hlp : (L.map TxnW.p).length = L.length := by simp
  have hll := logB_len hrp (by omega)
  have hdl := dec_log hrp (by omega)
  have hdr := fun (S : Scn) (D : Dsc) (k : Nat) (t : TxnP) (h : Reads (L.map TxnW.p) S D k) (ht : (L.map TxnW.p)[k]? = some t) => h.next hrp (by omega) ht
  have hnew := reads_new (L.map TxnW.p)
  have e0 := encL_ok he'
  obtain ⟨B, hB⟩ : ∃ B, B = logB (L.map TxnW.p) := ⟨_, rfl⟩
  rw [← hB] at hll hdl e0 hnew
  have hsp : ∀ t ∈ L.map TxnW.p, t.ops.length ≤ 1048576 := fun t ht => by have := (hrp t ht).ops; omega
  refine wx_gset false rfl rfl (by rw [he']; rfl) ?_
  repeat (first | (apply wx_val; (first | exact v_move rfl | exact v_len rfl rfl | exact v_lt rfl rfl | exact v_pickF rfl rfl); rfl) | refine wx_ungd rfl rfl ?_ | refine wx_nil ?_ | refine wq_next ?_)
  refine wc_not rfl (decide_eq_false (by omega)) ?_
  repeat (first | (apply wx_val; (first | exact v_move rfl); rfl) | refine wc_seq ?_ | refine wc_region ?_ | refine wq_next ?_ | refine wc_skip ?_)
  refine wl_callT (M1 := []) (fun w' hr ho => Copies_spec hl hs w' (hv.keep hr) (fun t ht => Vw.keep (hrd t ht) hr)) rfl rfl rfl ?_
  rintro ⟨A3, c3, E3, S3, W3⟩ hq3
  dsimp only
  try refine wx_cat ?_
  repeat (first | (apply wx_val; (first | exact v_move rfl | exact v_assign rfl); rfl) | refine wc_seq ?_ | refine wc_region ?_ | refine wx_nil ?_ | refine wq_next ?_)
  refine wl_callT (M1 := []) (fun w' hr ho => LogEnc_n (W := W3) (by have := hq3.len; simpa using this.symm) (by omega) w' (hq3.vwT hr) (hq3.reads hr)) rfl rfl rfl ?_
  rintro ⟨A4, c4, E4⟩ hb4
  rw [encL_p hq3.map] at hb4
  rw [chk_p hq3.map, encL_p hq3.map]
  dsimp only at hb4 ⊢
  try refine wx_cat ?_
  rw [e0] at hb4
  rw [he', k3, e0]
  repeat (first | (apply wx_val; (first | exact v_move rfl | exact v_assign rfl | exact v_extract rfl rfl | exact v_ne rfl rfl); rfl) | refine wx_ungd rfl rfl ?_ | refine wc_seq ?_ | refine wc_region ?_ | refine wx_nil ?_ | refine wq_next ?_)
  (try refine wx_ungd rfl rfl ?_)
  refine wx_vcall (vc_pure' rfl rfl (fun w' hr => SameList_n (W1 := W3) (W2 := L) hq3.map (by have := hq3.len; simpa using this.symm) rfl (by omega) (p_small hq3.map hsp) w' (hq3.vwT hr) (hv.keep hr) (hq3.reads hr) (fun t ht => Vw.keep (hrd t ht) hr))) rfl ?_
  repeat (first | (apply wx_val; (first | exact v_not rfl | exact v_pickF rfl rfl); rfl) | refine wx_ungd rfl rfl ?_ | refine wc_seq ?_ | refine wc_region ?_ | refine wx_nil ?_ | refine wq_next ?_ | refine wc_skip ?_ | refine wc_condF rfl ?_)
  refine wl_lit0 rfl rfl (fun g56 E0 hb0 => ?_)
  repeat (first | (apply wx_val; (first | exact v_move rfl); rfl))
  refine wl_appT rfl hb0 rfl rfl (fun w' hr => src_slice rfl (hb4.rdT hr) (by simp) (by decide) (one_bys _)) (by omega) rfl (fun A5 c5 E5 hb5 => ?_)
  simp only [Nat.zero_add, List.nil_append] at hb5 ⊢
  try refine wx_cat ?_
  repeat (first | (apply wx_val; (first | exact v_move rfl | exact v_assign rfl); rfl) | refine wc_seq ?_ | refine wc_region ?_ | refine wx_nil ?_ | refine wq_next ?_)
  refine wl_callT (M1 := []) (fun w' hr ho => LogDec_spec (d := B) (by omega) w' (hb4.vwT hr)) rfl rfl rfl ?_
  rintro ⟨A6, c6, E6, S6, W6⟩ hq6
  dsimp only at hq6 ⊢
  try refine wx_cat ?_
  have hq6' : ListO (allD B).1 (A6, c6, E6, S6, W6) := hq6
  rw [hdl] at hq6' ⊢
  dsimp only at hq6' ⊢
  repeat (first | (apply wx_val; (first | exact v_move rfl | exact v_assign rfl | exact v_extract rfl rfl); rfl) | refine wc_seq ?_ | refine wc_region ?_ | refine wx_nil ?_ | refine wq_next ?_)
  refine wl_callT (M1 := []) (fun w' hr ho => LogDec_spec (d := B) (by omega) w' (hb4.vwT hr)) rfl rfl rfl ?_
  rintro ⟨A7, c7, E7, S7, W7⟩ hq7
  dsimp only at hq7 ⊢
  try refine wx_cat ?_
  have hq7' : ListO (allD B).1 (A7, c7, E7, S7, W7) := hq7
  rw [hdl] at hq7' ⊢
  dsimp only at hq7' ⊢
  repeat (first | (apply wx_val; (first | exact v_move rfl | exact v_assign rfl | exact v_extract rfl rfl); rfl) | refine wc_seq ?_ | refine wc_region ?_ | refine wx_nil ?_ | refine wq_next ?_)
  refine wl_callT (M1 := []) (fun w' hr ho => scNew_spec w') rfl rfl rfl ?_
  rintro g -
  refine wx_cat ?_
  repeat (first | (apply wx_val; (first | exact v_move rfl | exact v_assign rfl | exact v_ne rfl rfl | exact v_eqnil rfl rfl rfl | exact v_pickF rfl rfl); rfl) | refine wx_ungd rfl rfl ?_ | refine wc_seq ?_ | refine wc_region ?_ | refine wx_nil ?_ | refine wq_next ?_ | refine wc_skip ?_ | refine wc_condF rfl ?_)
  (try refine wx_ungd rfl rfl ?_)
  refine wx_vcall (vc_pure' rfl rfl (fun w' hr => same_spec (a := B) (b := B) (by omega) w' (hb4.vwT hr) (hb5.vwT hr))) rfl ?_
  repeat (first | (apply wx_val; (first | exact v_move rfl | exact v_not rfl | exact v_pickF rfl rfl); rfl) | refine wx_ungd rfl rfl ?_)
  refine wx_gset false rfl rfl (by simp) ?_
  repeat (first | (apply wx_val; (first | exact v_move rfl); rfl) | refine wx_ungd rfl rfl ?_)
  refine wx_seg ?_
  (try refine wx_ungd rfl rfl ?_)
  refine wl_callT (M1 := [scB g none 0 Scn.new, []]) (fun w' hr ho => scFeed_spec (A := none) (c := 0) (S := Scn.new) (E := []) (l := B) (Buf.nil _ _).r (by show 0 + B.length ≤ _; omega) w' (hb4.vwO hr) ho) rfl rfl rfl ?_
  rintro ⟨A8, c8, E8⟩ hb8
  rw [if_neg (by decide)]
  dsimp only at hb8 ⊢
  rw [hlp]
  generalize Scn.new.feed B = S0 at hb8 hnew ⊢
  repeat (first | (apply wx_val; (first | exact v_move rfl | exact v_len rfl rfl | exact v_ne rfl rfl | exact v_pickF rfl rfl); rfl) | refine wx_ungd rfl rfl ?_ | refine wc_seq ?_ | refine wc_region ?_ | refine wx_nil ?_ | refine wq_next ?_ | refine wc_block ?_ | refine wc_skip ?_ | refine wc_cat ?_ | refine wc_condF rfl ?_)
  refine wc_loopK (ι := Nat × List UInt8 × Seg) [0, 6, 10, 13, 16, 93] (fun q => [(94, .int .i64 (q.1 : Nat))]) (fun q => [q.2.2]) (fun q => q.1 ≤ B.length ∧ q.2.1.length = B.length ∧ Buf 5 1 A4 B.length c4 (bys q.2.1) q.2.2) (fun q => B.length - q.1) ((0, B, E4)) rfl ?_ (by repeat (first | exact trivial | refine ⟨rfl, ?_⟩)) ?_
  · exact ⟨Nat.zero_le _, rfl, hb4⟩
  clear hb4
  rintro ⟨i, l4, E4'⟩ ⟨hi, hl4, hb4⟩
  try dsimp only
  refine wc_fcat ?_
  refine wc_cat ?_
  dsimp only at hi hl4 hb4 ⊢
  repeat (first | (apply wx_val; (first | exact v_lt rfl rfl); rfl) | refine wc_seq ?_ | refine wc_region ?_ | refine wx_nil ?_ | refine wq_next ?_)
  refine wc_if rfl (fun hx => ?_) (fun hx => ?_)
  · obtain ⟨gA, hgA⟩ := hb4.ptr (by omega)
    repeat (first | (apply wx_val; (first | exact v_move rfl | exact v_assign rfl | exact v_iaddrE (by assumption) rfl rfl rfl (by omega)); rfl) | refine wc_seq ?_ | refine wc_region ?_ | refine wx_nil ?_ | refine wq_next ?_ | refine wc_block ?_ | refine wc_skip ?_)
    refine wl_bsetT i hgA hb4 rfl rfl (by rw [Int.toNat_natCast]; omega) (by omega) (v := .int .u8 ((1 : Nat) : Int)) rfl rfl (fun E' hb' => ?_)
    rw [bys_setC _ _ _ (by decide)] at hb'
    repeat (first | (apply wx_val; (first | exact v_move rfl | exact v_addi rfl rfl (by omega)); rfl) | refine wc_region ?_ | refine wx_nil ?_ | refine wq_next ?_ | refine wq_block ?_)
    refine wq_roundK ((i + 1, l4.set i (UInt8.ofNat 1), E')) ?_ ?_ (by repeat (first | exact trivial | refine ⟨rfl, ?_⟩)) (by first | exact catEq | exact rfl)
    · exact ⟨by dsimp only; omega, by dsimp only; rw [List.length_set]; exact hl4, hb'⟩
    · dsimp only; omega
  clear hx hi
  have hw6 := hq6'.len
  dsimp only at hw6
  rw [hlp] at hw6
  have hb6 := hq6'.buf
  dsimp only at hb6
  rw [hlp] at hb6
  have ho6 := hq6'.ops
  dsimp only at ho6
  have hs6 : ∀ t ∈ W6, t.ops.xs.length ≤ 16 := fun t ht => (hrp t.p (by rw [← hq6'.map]; exact List.mem_map_of_mem ht)).ops
  repeat (first | (apply wx_val; (first | exact v_move rfl | exact v_len rfl rfl); rfl) | refine wc_seq ?_ | refine wc_region ?_ | refine wx_nil ?_ | refine wq_next ?_ | refine wc_block ?_ | refine wc_exit ?_ | refine wq_then_exit ?_ | refine wq_block_exit rfl ?_)
  refine wc_loopK (ι := Nat × List TxnW × Seg × Seg) [0, 10, 13, 16, 102] (fun q => [(103, .int .i64 (q.1 : Nat))]) (fun q => [q.2.2.1, q.2.2.2]) (fun q => q.1 ≤ L.length ∧ q.2.1.length = L.length ∧ Buf 46 8 A6 L.length c6 (q.2.1.flatMap TxnW.cells) q.2.2.1 ∧ OpsIn (q.2.1.drop q.1) q.2.2.2 ∧ (∀ t ∈ q.2.1.drop q.1, t.ops.xs.length ≤ 16)) (fun q => L.length - q.1) ((0, W6, E6, S6)) rfl ?_ (by repeat (first | exact trivial | refine ⟨rfl, ?_⟩)) ?_
  · exact ⟨Nat.zero_le _, hw6, hb6, ho6, hs6⟩
  clear hb6 ho6 hs6 hw6
  rintro ⟨i, Wr, Er, Sr⟩ ⟨hi, hwl, hbr, hor, hsr⟩
  try dsimp only
  refine wc_fcat ?_
  refine wc_cat ?_
  dsimp only at hi hwl hbr hor hsr ⊢
  repeat (first | (apply wx_val; (first | exact v_lt rfl rfl); rfl) | refine wc_seq ?_ | refine wc_region ?_ | refine wx_nil ?_ | refine wq_next ?_)
  refine wc_if rfl (fun hx => ?_) (fun hx => ?_)
  · obtain ⟨t, ht⟩ : ∃ t, Wr[i]? = some t := ⟨Wr[i]'(by omega), List.getElem?_eq_getElem _⟩
    have hdr2 : Wr.drop i = t :: Wr.drop (i + 1) := by
      obtain ⟨h1, rfl⟩ := List.getElem?_eq_some_iff.1 ht
      exact List.drop_eq_getElem_cons h1
    rw [hdr2] at hor hsr
    obtain ⟨Et, St, eS, hbt, hot⟩ := hor
    have htl := hsr t (by simp)
    obtain ⟨gA, hgA⟩ := hbr.ptr (by omega)
    have hcell : ∀ {w' : World} {M : List Seg} [Has Er M], Res w (ids []) w' M → w'.cell? ⟨gA, 0 + ((i : Nat) : Int).toNat * 8 + 7, none⟩ = some (.slice t.ops.A t.ops.xs.length t.ops.c) := fun hr => hbr.elemT (i := i) hgA (by decide) (fun _ => rfl) ht hr (j := 7) rfl (by rw [Int.toNat_natCast])
    repeat (first | (apply wx_val; (first | exact v_move rfl | exact v_assign rfl | exact v_faddr rfl rfl | exact v_iaddrE (by assumption) rfl rfl rfl (by omega)); rfl) | refine wc_seq ?_ | refine wc_region ?_ | refine wx_nil ?_ | refine wq_next ?_ | refine wc_block ?_ | refine wc_skip ?_)
    (try refine wx_ungd rfl rfl ?_)
    apply wx_val
    exact v_load rfl rfl rfl (fun w' hr => hcell hr)
    rfl
    repeat (first | (apply wx_val; (first | exact v_move rfl | exact v_len rfl rfl); rfl) | refine wx_nil ?_ | refine wq_next ?_ | refine wc_block ?_)
    refine wc_part [] Et St (S := Sr) (by rw [eS]; rfl) ?_
    refine wc_loopK (ι := Nat × List OpW × Seg) [0, 10, 13, 16, 18, 102, 103, 111] (fun q => [(112, .int .i64 (q.1 : Nat))]) (fun q => [q.2.2]) (fun q => q.1 ≤ t.ops.xs.length ∧ q.2.1.length = t.ops.xs.length ∧ Buf 55 4 t.ops.A t.ops.xs.length t.ops.c (q.2.1.flatMap OpW.cells) q.2.2) (fun q => t.ops.xs.length - q.1) ((0, t.ops.xs, Et)) rfl ?_ (by repeat (first | exact trivial | refine ⟨rfl, ?_⟩)) ?_
    · exact ⟨Nat.zero_le _, rfl, hbt⟩
    clear hbt
    rintro ⟨k, lo, Et'⟩ ⟨hk, hlo, hbt⟩
    try dsimp only
    refine wc_fcat ?_
    refine wc_cat ?_
    dsimp only at hk hlo hbt ⊢
    repeat (first | (apply wx_val; (first | exact v_lt rfl rfl); rfl) | refine wc_seq ?_ | refine wc_region ?_ | refine wx_nil ?_ | refine wq_next ?_)
    refine wc_if rfl (fun hy => ?_) (fun hy => ?_)
    · obtain ⟨gO, hgO⟩ := hbt.ptr (by omega)
      repeat (first | (apply wx_val; (first | exact v_move rfl | exact v_assign rfl | exact v_faddr rfl rfl | exact v_iaddrE (by assumption) rfl rfl rfl (by omega)); rfl) | refine wc_seq ?_ | refine wc_region ?_ | refine wx_nil ?_ | refine wq_next ?_ | refine wc_block ?_ | refine wc_skip ?_)
      (try refine wx_ungd rfl rfl ?_)
      apply wx_val
      exact v_load rfl rfl rfl (fun w' hr => hcell hr)
      rfl
      repeat (first | (apply wx_val; (first | exact v_move rfl); rfl))
      (try refine wx_ungd rfl rfl ?_)
      apply wx_val
      exact v_build (cs := ((OpW.cells ⟨77, ⟨#[]⟩, false, ⟨#[]⟩⟩)).toArray) rfl (by kernel_rfl)
      rfl
      repeat (first | (apply wx_val; (first | exact v_iaddrE (by assumption) rfl rfl rfl (by omega)); rfl))
      refine wl_setAT k (f := OpW.cells) (k := 4) ⟨77, ⟨#[]⟩, false, ⟨#[]⟩⟩ (fun _ => rfl) hgO hbt rfl rfl (by rw [Int.toNat_natCast]; exact Nat.zero_add _) rfl hlo.symm (by omega) rfl (fun E' hb' => ?_)
      repeat (first | (apply wx_val; (first | exact v_move rfl | exact v_addi rfl rfl (by omega)); rfl) | refine wc_region ?_ | refine wx_nil ?_ | refine wq_next ?_ | refine wq_block ?_)
      refine wq_roundK ((k + 1, lo.set k ⟨77, ⟨#[]⟩, false, ⟨#[]⟩⟩, E')) ?_ ?_ (by repeat (first | exact trivial | refine ⟨rfl, ?_⟩)) (by first | exact catEq | exact rfl)
      · exact ⟨by dsimp only; omega, by dsimp only; rw [List.length_set]; exact hlo, hb'⟩
      · dsimp only; omega
    repeat (first | (apply wx_val; (first | exact v_move rfl | exact v_faddr rfl rfl | exact v_iaddrE (by assumption) rfl rfl rfl (by omega)); rfl) | refine wc_seq ?_ | refine wc_region ?_ | refine wq_next ?_ | refine wc_exit ?_ | refine wq_then_exit ?_ | refine wq_block_exit rfl ?_)
    (try refine wx_ungd rfl rfl ?_)
    apply wx_val
    exact v_load rfl rfl rfl (fun w' hr => hcell hr)
    rfl
    skip
    (try refine wx_ungd rfl rfl ?_)
    apply wx_val
    exact v_build (cs := ((OpW.cells ⟨76, ⟨#[]⟩, false, ⟨#[]⟩⟩)).toArray) rfl (by kernel_rfl)
    rfl
    skip
    (try refine wx_ungd rfl rfl ?_)
    apply wx_val
    exact v_build (cs := ((OpW.cells ⟨75, ⟨#[]⟩, false, ⟨#[]⟩⟩)).toArray) rfl (by kernel_rfl)
    rfl
    refine wl_litB rfl rfl rfl rfl rfl (by decide) rfl (fun g131 E131 hbl => ?_)
    have hbl' : Buf 55 4 (some ⟨g131, 0, none⟩) 2 2 (([⟨76, ⟨#[]⟩, false, ⟨#[]⟩⟩, ⟨75, ⟨#[]⟩, false, ⟨#[]⟩⟩] : List OpW).flatMap OpW.cells) E131 := hbl
    refine wl_appT rfl hbt rfl rfl (fun w' hr => src_slice rfl (hbl'.rdT hr) rfl (by decide) (fun u hu => by
      obtain ⟨a, _, h⟩ := List.mem_flatMap.1 hu
      exact List.all_eq_true.1 (show a.cells.all Value.oneCell' = true from rfl) u h)) (by omega) rfl (fun Ax cx Ex hbx => ?_)
    obtain ⟨nt, hnt⟩ : ∃ nt : TxnW, nt = ⟨9, 0, 0, 0, 0, 0, 0, ⟨Ax, cx, lo ++ [⟨76, ⟨#[]⟩, false, ⟨#[]⟩⟩, ⟨75, ⟨#[]⟩, false, ⟨#[]⟩⟩]⟩⟩ := ⟨_, rfl⟩
    have hntc : nt.cells = [.int .i64 9, .int .i64 0, .int .i64 0, .int .i64 0, .int .i64 0, .int .i64 0, .int .i64 0, .slice Ax (t.ops.xs.length + 2) cx] := by
      rw [hnt, TxnW.cells]
      dsimp only
      rw [List.length_append, hlo]
      rfl
    repeat (first | (apply wx_val; (first | exact v_move rfl | exact v_assign rfl); rfl) | refine wc_region ?_ | refine wx_nil ?_ | refine wq_next ?_)
    (try refine wx_ungd rfl rfl ?_)
    apply wx_val
    exact v_build (cs := ([.int .i64 9, .int .i64 0, .int .i64 0, .int .i64 0, .int .i64 0, .int .i64 0, .int .i64 0, .slice Ax (t.ops.xs.length + 2) cx]).toArray) rfl (by kernel_rfl)
    rfl
    rw [← hntc]
    repeat (first | (apply wx_val; (first | exact v_iaddrE (by assumption) rfl rfl rfl (by omega)); rfl))
    refine wl_setAT i (f := TxnW.cells) (k := 8) nt (fun _ => rfl) hgA hbr rfl rfl (by rw [Int.toNat_natCast]; exact Nat.zero_add _) rfl hwl.symm (by omega) rfl (fun E' hb' => ?_)
    repeat (first | (apply wx_val; (first | exact v_move rfl | exact v_addi rfl rfl (by omega)); rfl) | refine wc_region ?_ | refine wx_nil ?_ | refine wq_next ?_ | refine wq_block ?_)
    have hds : (Wr.set i nt).drop (i + 1) = Wr.drop (i + 1) := by rw [List.drop_set_of_lt (by omega)]
    refine wq_roundK ((i + 1, Wr.set i nt, E', St)) ?_ ?_ (by repeat (first | exact trivial | refine ⟨rfl, ?_⟩)) (by first | exact catEq | exact rfl)
    · refine ⟨by dsimp only; omega, by dsimp only; rw [List.length_set]; exact hwl, hb', ?_, ?_⟩
      · dsimp only
        rw [hds]
        exact hot
      · dsimp only
        rw [hds]
        exact fun x hx => hsr x (by simp [hx])
    · dsimp only; omega
  clear hx hi hbr hor hsr hwl
  repeat (first | (apply wx_val; (first | exact v_move rfl); rfl) | refine wc_seq ?_ | refine wc_region ?_ | refine wq_next ?_ | refine wc_exit ?_ | refine wq_then_exit ?_ | refine wq_block_exit rfl ?_)
  (try refine wx_ungd rfl rfl ?_)
  refine wx_vcall (vc_pure' rfl rfl (fun w' hr => SameList_n (W1 := W7) (W2 := L) hq7'.map (by have := hq7'.len; simpa using this.symm) rfl (by omega) (p_small hq7'.map hsp) w' (hq7'.vwT hr) (hv.keep hr) (hq7'.reads hr) (fun t ht => Vw.keep (hrd t ht) hr))) rfl ?_
  repeat (first | (apply wx_val; (first | exact v_move rfl | exact v_len rfl rfl | exact v_not rfl); rfl) | refine wc_seq ?_ | refine wc_region ?_ | refine wx_nil ?_ | refine wq_next ?_ | refine wc_block ?_ | refine wc_skip ?_ | refine wc_condF rfl ?_)
  refine wc_loopK (ι := Nat × (Scn × Dsc) × ((Option Addr × Nat) × Seg)) [16, 143, 144] (fun q => [(145, .int .i64 (q.1 : Nat))]) (fun q => [scB g q.2.2.1.1 q.2.2.1.2 q.2.1.1, q.2.2.2]) (fun q => q.1 ≤ L.length ∧ RestO q.2.1.1 q.2.2.2 q.2.2.1 ∧ Reads (L.map TxnW.p) q.2.1.1 q.2.1.2 q.1) (fun q => L.length - q.1) ((0, (S0, ⟨B, false, 0, 0, false, 0⟩), ((A8, c8), E8))) rfl ?_ (by repeat (first | exact trivial | refine ⟨rfl, ?_⟩)) ?_
  · exact ⟨Nat.zero_le _, hb8, hnew⟩
  clear hb8 hnew
  rintro ⟨i, ⟨S, D⟩, ⟨⟨Ac, cc⟩, Ec⟩⟩ ⟨hi, hbs, hkr⟩
  try dsimp only
  refine wc_fcat ?_
  refine wc_cat ?_
  dsimp only at hi hbs hkr ⊢
  repeat (first | (apply wx_val; (first | exact v_lt rfl rfl); rfl) | refine wc_seq ?_ | refine wc_region ?_ | refine wx_nil ?_ | refine wq_next ?_)
  refine wc_if rfl (fun hx => ?_) (fun hx => ?_)
  · obtain ⟨t, ht⟩ : ∃ t, L[i]? = some t := ⟨L[i]'(by omega), List.getElem?_eq_getElem _⟩
    have htm := List.mem_of_getElem? ht
    obtain ⟨ga, oa, hA1, hca⟩ := hv.elT (k := 8) (by decide) (fun _ => rfl) (by omega)
    obtain ⟨y1, y2⟩ := hdr S D i t.p hkr (by rw [List.getElem?_map, ht]; rfl)
    have hpl := keeps_place hkr.keeps hkr.fault
    rw [hkr.data, ← hB] at hpl
    have hkc := hkr.keeps.count
    have hkd := hkr.count
    obtain ⟨n1, n2⟩ := next_rel hkr.keeps
    rw [y1] at n1
    repeat (first | (apply wx_val; (first | exact v_iaddrE (by assumption) rfl rfl rfl (by omega)); rfl) | refine wc_seq ?_ | refine wc_region ?_ | refine wq_next ?_ | refine wc_block ?_ | refine wc_skip ?_)
    (try refine wx_ungd rfl rfl ?_)
    apply wx_val
    exact v_loadA (cs := t.cells) rfl rfl (fun w' hr j u hj => hca ht hr hj (by rw [Int.toNat_natCast]))
    rfl
    refine wl_alloc rfl rfl (fun g22 => ?_)
    repeat (first | (apply wx_val; (first | exact v_move rfl); rfl) | refine wc_seq ?_ | refine wc_region ?_ | refine wx_nil ?_ | refine wq_next ?_ | refine wx_setn ?_ | refine wl_stAT rfl rfl (by rfl) (by rfl) (by exact .inl (Nat.le_refl _)) rfl ?_)
    refine wl_callT (fun w' hr ho => scNext_spec (A := Ac) (c := cc) (S := S) (E := Ec) hbs (by omega) (by omega) (by omega) w' ho) rfl rfl rfl ?_
    rintro ⟨⟨A9, c9⟩, ⟨Aa, ca, Ea⟩⟩ ⟨hb9, hba⟩
    dsimp only at hb9 hba ⊢
    rw [n1] at hba ⊢
    dsimp only at hba ⊢
    repeat (first | (apply wx_val; (first | exact v_move rfl | exact v_extract rfl rfl); rfl) | refine wx_cat ?_)
    refine wl_alloc rfl rfl (fun g23 => ?_)
    repeat (first | (apply wx_val; (first | exact v_move rfl | exact v_assign rfl | exact v_ldAT rfl (by rfl) | exact v_ne rfl rfl | exact v_not rfl | exact v_pickF rfl rfl); rfl) | refine wx_ungd rfl rfl ?_ | refine wc_seq ?_ | refine wc_region ?_ | refine wx_nil ?_ | refine wq_next ?_ | refine wx_setn ?_ | refine wl_stAT rfl rfl (by rfl) (by rfl) (by exact .inl (Nat.le_refl _)) rfl ?_)
    (try refine wx_ungd rfl rfl ?_)
    refine wx_vcall (vc_pure' rfl rfl (fun w' hr => Same_spec (t := t.p) (hs t htm) w' (Vw.keep (hrd t htm) hr) (hba.vwT hr))) rfl ?_
    repeat (first | (apply wx_val; (first | exact v_move rfl | exact v_addi rfl rfl (by omega) | exact v_not rfl | exact v_pickF rfl rfl); rfl) | refine wx_ungd rfl rfl ?_ | refine wc_region ?_ | refine wx_nil ?_ | refine wq_next ?_ | refine wc_skip ?_ | refine wq_block ?_ | refine wc_condF rfl ?_)
    refine wq_roundK ((i + 1, (S.next.2, D.next.2), ((A9, c9), Ec))) ?_ ?_ (by repeat (first | exact trivial | refine ⟨rfl, ?_⟩)) (by first | exact catEq | exact rfl)
    · exact ⟨by dsimp only; omega, hb9, y2⟩
    · dsimp only; omega
  · repeat (first | (apply wx_val; (first | exact v_assign rfl); rfl) | refine wc_seq ?_ | refine wc_region ?_ | refine wx_nil ?_ | refine wq_next ?_ | refine wc_ret ?_ | refine wc_exit ?_ | refine wq_then_exit ?_ | refine wq_block_exit rfl ?_)
    exact wq_clear (wq_ret1 () rfl rfl trivial rfl)
end lists
end Go.Proofs.Ytjfjleejbbmmaaa
