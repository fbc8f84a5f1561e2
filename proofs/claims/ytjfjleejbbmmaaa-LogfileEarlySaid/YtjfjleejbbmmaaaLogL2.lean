/- A log cut anywhere; a fault told early. -/
import Derived.Test.YtjfjleejbbmmaaaLogG
set_option linter.unusedVariables false
set_option linter.unusedSimpArgs false
namespace Go.Proofs.Ytjfjleejbbmmaaa
open Go
set_option maxRecDepth 20000
set_option maxHeartbeats 2000000
attribute [local irreducible] WX WC WQ Val VCall
theorem cut_log {L : List TxnP} (h : ∀ t ∈ L, t.Right) (hl : L.length ≤ 4096) {k : Nat} (hk : k < (logB L).length) : ∃ q, q ≤ k ∧ allD ((logB L).take k) = ([], q, 51) := log_cut h hl hk
theorem log_tail {L : List TxnP} (h : ∀ t ∈ L, t.Right) (hl : L.length ≤ 4096) (r : List UInt8) : allD (logB L ++ r) = if r = [] then (L, 0, 0) else ([], (logB L).length, 61) := log_at h hl r true
section lists
variable {A B : Option Addr} {c cB : Nat} {L : List TxnW} {r : List UInt8}
theorem Cut_law (hl : L.length ≤ 1048576) (hs : ∀ t ∈ L, t.ops.xs.length ≤ 1048576) (cut : Int) (hrl : r.length ≤ 1048576) (w : World) (hv : Vw [] w A (L.flatMap TxnW.cells)) (hrd : ∀ t ∈ L, t.Reads w) (hv2 : Vw [] w B (bys r)) :
    Calls Try.prog 7 #[.slice A L.length c, .int .i64 cut, .slice B r.length cB] w (Holds w) := by
  refine go [.slice A L.length c, .int .i64 cut, .slice B r.length cB] [] Try.func7 Try.ntmps7 rfl rfl (own_nil w) ?_
  repeat (first | (apply wx_val; (first | exact v_move rfl | exact v_assign rfl | exact v_not rfl); rfl) | refine wc_seq ?_ | refine wc_region ?_ | refine wx_nil ?_ | refine wq_next ?_ | refine wc_skip ?_ | refine wc_condF rfl ?_ | (apply wx_vcall; exact vc_pure rfl rfl (fun w' => anchor_spec w'); rfl))
  (try refine wx_ungd rfl rfl ?_)
  refine wx_vcall (vc_pure' rfl rfl (fun w' hr => LogChk_spec hl w' (hv.keep hr) (fun t ht => Vw.keep (hrd t ht) hr))) rfl ?_
  repeat (first | (apply wx_val; (first | exact v_move rfl | exact v_assign rfl | exact v_extract rfl rfl | exact v_ne rfl rfl); rfl) | refine wc_seq ?_ | refine wc_region ?_ | refine wx_nil ?_ | refine wq_next ?_)
  refine wc_if rfl (fun he => ?_) (fun he => ?_)
  · repeat (first | (apply wx_val; (first | exact v_assign rfl); rfl) | refine wc_seq ?_ | refine wc_region ?_ | refine wx_nil ?_ | refine wq_next ?_ | refine wc_ret ?_ | refine wq_then_ret ?_)
    exact wq_clear (wq_ret1 () rfl rfl trivial rfl)
  have he' : (chk L).2 = 0 := Decidable.not_not.1 he
  obtain ⟨k1, k2, k3⟩ := chk_inv he'
  have hrp := right_p k2
  have hlp : (L.map TxnW.p).length ≤ 4096 := by simpa using k1
  have hll := logB_len hrp hlp
  obtain ⟨C, hC⟩ : ∃ C, C = logB (L.map TxnW.p) ++ r := ⟨_, rfl⟩
  have hcl := log_tail hrp hlp r
  have hCl : C.length = (logB (L.map TxnW.p)).length + r.length := by rw [hC, List.length_append]
  rw [← hC] at hcl
  have hcut := fun k => cut_log hrp hlp (k := k)
  obtain ⟨D, hD⟩ : ∃ D, D = logB (L.map TxnW.p) := ⟨_, rfl⟩
  rw [← hD] at hll hcl hCl hcut hC
  repeat (first | (apply wx_val; (first | exact v_move rfl); rfl) | refine wc_seq ?_ | refine wc_region ?_ | refine wq_next ?_ | refine wc_skip ?_)
  refine wl_callT (M1 := []) (fun w' hr ho => Copies_spec hl hs w' (hv.keep hr) (fun t ht => Vw.keep (hrd t ht) hr)) rfl rfl rfl ?_
  rintro ⟨A3, c3, E3, S3, W3⟩ hq3
  dsimp only
  try refine wx_cat ?_
  refine wl_callT (M1 := []) (fun w' hr ho => LogEnc_n (W := W3) (by have := hq3.len; simpa using this.symm) (by omega) w' (hq3.vwT hr) (hq3.reads hr)) rfl rfl rfl ?_
  rintro ⟨A4, c4, E4⟩ hb4
  rw [encL_p hq3.map] at hb4
  rw [chk_p hq3.map, encL_p hq3.map]
  dsimp only at hb4 ⊢
  try refine wx_cat ?_
  rw [encL_ok he', ← hD] at hb4
  rw [he', k3, encL_ok he', ← hD]
  repeat (first | (apply wx_val; (first | exact v_move rfl | exact v_assign rfl | exact v_extract rfl rfl | exact v_ne rfl rfl | exact v_ge rfl rfl); rfl) | refine wc_seq ?_ | refine wc_region ?_ | refine wx_nil ?_ | refine wq_next ?_ | refine wc_skip ?_ | refine wc_condF rfl ?_)
  refine wx_gif rfl rfl (fun h1 => ?_) (fun h1 => ?_)
  · obtain ⟨K, rfl⟩ : ∃ K : Nat, cut = K := ⟨cut.toNat, by omega⟩
    repeat (first | (apply wx_val; (first | exact v_move rfl | exact v_len rfl rfl | exact v_lt rfl rfl | exact v_pickT rfl rfl); rfl) | refine wx_ungd rfl rfl ?_ | refine wx_nil ?_ | refine wq_next ?_)
    refine wc_if rfl (fun h2 => ?_) (fun h2 => ?_)
    · obtain ⟨q, q1, q2⟩ := hcut K (by omega)
      obtain ⟨F, hF⟩ : ∃ F, F = D.take K := ⟨_, rfl⟩
      have hFl : F.length = K := by rw [hF, List.length_take]; omega
      rw [← hF] at q2
      have hbl := hb4.le
      try dsimp only at hbl
      repeat (first | refine wc_seq ?_ | refine wc_region ?_)
      refine wl_lit0 rfl rfl (fun g45 E0 hb0 => ?_)
      repeat (first | (apply wx_val; (first | exact v_move rfl); rfl))
      (try refine wx_ungd rfl rfl ?_)
      apply wx_val
      exact v_sliceN (l := 0) (h := K) (m := F.length) rfl rfl rfl rfl (by omega) hbl.1 (by omega)
      rfl
      refine wl_appT rfl hb0 rfl rfl (fun w' hr => src_slice (m := F.length) (xs := bys F) rfl (by
        have := (vw_cut (sz := 1) (c := c4) (hb4.vwT hr) (l := 0) (h := K) (by omega) (by simp; omega) (by omega)).rd
        rw [hF]
        simpa [bys, List.map_drop, List.map_take] using this) (by simp) (by decide) (one_bys _)) (by omega) rfl (fun A5 c5 E5 hb5 => ?_)
      simp only [Nat.zero_add, List.nil_append] at hb5 ⊢
      try refine wx_cat ?_
      refine wl_callT (M1 := []) (fun w' hr ho => LogDec_spec (d := F) (by omega) w' (hb5.vwT hr)) rfl rfl rfl ?_
      rintro ⟨A6, c6, E6, S6, W6⟩ hq6
      dsimp only at hq6 ⊢
      try refine wx_cat ?_
      rw [q2]
      dsimp only
      repeat (first | (apply wx_val; (first | exact v_move rfl | exact v_assign rfl | exact v_extract rfl rfl | exact v_ne rfl rfl | exact v_lt rfl rfl | exact v_gt rfl rfl | exact v_pickF rfl rfl); rfl) | refine wx_ungd rfl rfl ?_ | refine wc_seq ?_ | refine wc_region ?_ | refine wx_nil ?_ | refine wq_next ?_)
      refine wc_not rfl (decide_eq_false (by omega)) ?_
      refine wc_keep [2, 9] rfl ?_
      repeat (first | refine wc_seq ?_ | refine wc_region ?_ | refine wq_next ?_ | refine wc_skip ?_)
      refine wl_lit0 rfl rfl (fun g66 E0 hb0 => ?_)
      repeat (first | (apply wx_val; (first | exact v_move rfl); rfl))
      refine wl_appT rfl hb0 rfl rfl (fun w' hr => src_slice rfl (hb4.rdT hr) (by simp) (by decide) (one_bys _)) (by omega) rfl (fun Ad cd Ed hbd => ?_)
      simp only [Nat.zero_add, List.nil_append] at hbd ⊢
      try refine wx_cat ?_
      repeat (first | (apply wx_val; (first | exact v_move rfl); rfl))
      refine wl_appT rfl hbd rfl rfl (fun w' hr => src_slice rfl (hv2.keep hr).rd (by simp) (by decide) (one_bys _)) (by omega) rfl (fun Ae ce Ee hbe => ?_)
      rw [← bys_append, ← List.length_append, ← hC] at hbe
      rw [← List.length_append, ← hC]
      skip
      refine wl_callT (M1 := []) (fun w' hr ho => LogDec_spec (d := C) (by omega) w' (hbe.vwT hr)) rfl rfl rfl ?_
      rintro ⟨A7, c7, E7, S7, W7⟩ hq7
      dsimp only at hq7 ⊢
      try refine wx_cat ?_
      rw [hcl]
      by_cases hr0 : r = []
      · rw [if_pos hr0]
        dsimp only
        repeat (first | (apply wx_val; (first | exact v_move rfl | exact v_assign rfl | exact v_extract rfl rfl | exact v_len rfl rfl | exact v_eq rfl rfl); rfl) | refine wc_seq ?_ | refine wc_region ?_ | refine wx_nil ?_ | refine wq_next ?_)
        refine wc_yes rfl (decide_eq_true (by rw [hr0]; rfl)) ?_
        repeat (first | (apply wx_val; (first | exact v_move rfl | exact v_assign rfl | exact v_eq rfl rfl | exact v_pickT rfl rfl); rfl) | refine wx_ungd rfl rfl ?_ | refine wc_seq ?_ | refine wc_region ?_ | refine wx_nil ?_ | refine wq_next ?_ | refine wc_ret ?_ | refine wq_then_ret ?_)
        exact wq_clear (wq_ret1 () rfl rfl trivial rfl)
      · rw [if_neg hr0]
        have hr1 : 0 < r.length := List.length_pos_iff.2 hr0
        dsimp only
        repeat (first | (apply wx_val; (first | exact v_move rfl | exact v_assign rfl | exact v_extract rfl rfl | exact v_len rfl rfl | exact v_eq rfl rfl); rfl) | refine wc_seq ?_ | refine wc_region ?_ | refine wx_nil ?_ | refine wq_next ?_)
        refine wc_not rfl (decide_eq_false (by omega)) ?_
        repeat (first | (apply wx_val; (first | exact v_move rfl | exact v_assign rfl | exact v_len rfl rfl | exact v_eq rfl rfl | exact v_pickT rfl rfl); rfl) | refine wx_ungd rfl rfl ?_ | refine wc_seq ?_ | refine wc_region ?_ | refine wx_nil ?_ | refine wq_next ?_ | refine wc_ret ?_ | refine wc_skip ?_)
        exact wq_clear (wq_ret1 () rfl (bool_val (by simp)) trivial rfl)
    · skip
      refine wc_keep [2, 9] rfl ?_
      repeat (first | refine wc_seq ?_ | refine wc_region ?_ | refine wq_next ?_ | refine wc_skip ?_)
      refine wl_lit0 rfl rfl (fun g66 E0 hb0 => ?_)
      repeat (first | (apply wx_val; (first | exact v_move rfl); rfl))
      refine wl_appT rfl hb0 rfl rfl (fun w' hr => src_slice rfl (hb4.rdT hr) (by simp) (by decide) (one_bys _)) (by omega) rfl (fun Ad cd Ed hbd => ?_)
      simp only [Nat.zero_add, List.nil_append] at hbd ⊢
      try refine wx_cat ?_
      repeat (first | (apply wx_val; (first | exact v_move rfl); rfl))
      refine wl_appT rfl hbd rfl rfl (fun w' hr => src_slice rfl (hv2.keep hr).rd (by simp) (by decide) (one_bys _)) (by omega) rfl (fun Ae ce Ee hbe => ?_)
      rw [← bys_append, ← List.length_append, ← hC] at hbe
      rw [← List.length_append, ← hC]
      skip
      refine wl_callT (M1 := []) (fun w' hr ho => LogDec_spec (d := C) (by omega) w' (hbe.vwT hr)) rfl rfl rfl ?_
      rintro ⟨A7, c7, E7, S7, W7⟩ hq7
      dsimp only at hq7 ⊢
      try refine wx_cat ?_
      rw [hcl]
      by_cases hr0 : r = []
      · rw [if_pos hr0]
        dsimp only
        repeat (first | (apply wx_val; (first | exact v_move rfl | exact v_assign rfl | exact v_extract rfl rfl | exact v_len rfl rfl | exact v_eq rfl rfl); rfl) | refine wc_seq ?_ | refine wc_region ?_ | refine wx_nil ?_ | refine wq_next ?_)
        refine wc_yes rfl (decide_eq_true (by rw [hr0]; rfl)) ?_
        repeat (first | (apply wx_val; (first | exact v_move rfl | exact v_assign rfl | exact v_eq rfl rfl | exact v_pickT rfl rfl); rfl) | refine wx_ungd rfl rfl ?_ | refine wc_seq ?_ | refine wc_region ?_ | refine wx_nil ?_ | refine wq_next ?_ | refine wc_ret ?_ | refine wq_then_ret ?_)
        exact wq_clear (wq_ret1 () rfl rfl trivial rfl)
      · rw [if_neg hr0]
        have hr1 : 0 < r.length := List.length_pos_iff.2 hr0
        dsimp only
        repeat (first | (apply wx_val; (first | exact v_move rfl | exact v_assign rfl | exact v_extract rfl rfl | exact v_len rfl rfl | exact v_eq rfl rfl); rfl) | refine wc_seq ?_ | refine wc_region ?_ | refine wx_nil ?_ | refine wq_next ?_)
        refine wc_not rfl (decide_eq_false (by omega)) ?_
        repeat (first | (apply wx_val; (first | exact v_move rfl | exact v_assign rfl | exact v_len rfl rfl | exact v_eq rfl rfl | exact v_pickT rfl rfl); rfl) | refine wx_ungd rfl rfl ?_ | refine wc_seq ?_ | refine wc_region ?_ | refine wx_nil ?_ | refine wq_next ?_ | refine wc_ret ?_ | refine wc_skip ?_)
        exact wq_clear (wq_ret1 () rfl (bool_val (by simp)) trivial rfl)
  · repeat (first | (apply wx_val; (first | exact v_pickF rfl rfl); rfl) | refine wx_no rfl rfl rfl ?_ | refine wc_seq ?_ | refine wc_region ?_ | refine wx_nil ?_ | refine wq_next ?_ | refine wc_skip ?_ | refine wc_condF rfl ?_)
    refine wl_lit0 rfl rfl (fun g66 E0 hb0 => ?_)
    repeat (first | (apply wx_val; (first | exact v_move rfl); rfl))
    refine wl_appT rfl hb0 rfl rfl (fun w' hr => src_slice rfl (hb4.rdT hr) (by simp) (by decide) (one_bys _)) (by omega) rfl (fun Ad cd Ed hbd => ?_)
    simp only [Nat.zero_add, List.nil_append] at hbd ⊢
    try refine wx_cat ?_
    repeat (first | (apply wx_val; (first | exact v_move rfl); rfl))
    refine wl_appT rfl hbd rfl rfl (fun w' hr => src_slice rfl (hv2.keep hr).rd (by simp) (by decide) (one_bys _)) (by omega) rfl (fun Ae ce Ee hbe => ?_)
    rw [← bys_append, ← List.length_append, ← hC] at hbe
    rw [← List.length_append, ← hC]
    skip
    refine wl_callT (M1 := []) (fun w' hr ho => LogDec_spec (d := C) (by omega) w' (hbe.vwT hr)) rfl rfl rfl ?_
    rintro ⟨A7, c7, E7, S7, W7⟩ hq7
    dsimp only at hq7 ⊢
    try refine wx_cat ?_
    rw [hcl]
    by_cases hr0 : r = []
    · rw [if_pos hr0]
      dsimp only
      repeat (first | (apply wx_val; (first | exact v_move rfl | exact v_assign rfl | exact v_extract rfl rfl | exact v_len rfl rfl | exact v_eq rfl rfl); rfl) | refine wc_seq ?_ | refine wc_region ?_ | refine wx_nil ?_ | refine wq_next ?_)
      refine wc_yes rfl (decide_eq_true (by rw [hr0]; rfl)) ?_
      repeat (first | (apply wx_val; (first | exact v_move rfl | exact v_assign rfl | exact v_eq rfl rfl | exact v_pickT rfl rfl); rfl) | refine wx_ungd rfl rfl ?_ | refine wc_seq ?_ | refine wc_region ?_ | refine wx_nil ?_ | refine wq_next ?_ | refine wc_ret ?_ | refine wq_then_ret ?_)
      exact wq_clear (wq_ret1 () rfl rfl trivial rfl)
    · rw [if_neg hr0]
      have hr1 : 0 < r.length := List.length_pos_iff.2 hr0
      dsimp only
      repeat (first | (apply wx_val; (first | exact v_move rfl | exact v_assign rfl | exact v_extract rfl rfl | exact v_len rfl rfl | exact v_eq rfl rfl); rfl) | refine wc_seq ?_ | refine wc_region ?_ | refine wx_nil ?_ | refine wq_next ?_)
      refine wc_not rfl (decide_eq_false (by omega)) ?_
      repeat (first | (apply wx_val; (first | exact v_move rfl | exact v_assign rfl | exact v_len rfl rfl | exact v_eq rfl rfl | exact v_pickT rfl rfl); rfl) | refine wx_ungd rfl rfl ?_ | refine wc_seq ?_ | refine wc_region ?_ | refine wx_nil ?_ | refine wq_next ?_ | refine wc_ret ?_ | refine wc_skip ?_)
      exact wq_clear (wq_ret1 () rfl (bool_val (by simp)) trivial rfl)
end lists
/-- a scanner under way of which two ends are asked: with r behind, and with nothing -/
structure Early (d r : List UInt8) (S : Scn) (D : Dsc) (n : Nat) (got : List TxnP) : Prop where
  keeps : Keeps S D
  more : Under (d ++ r) (allD (d ++ r)) D got r
  here : Under d (allD d) D got []
  open_ : D.ended = false
  data : D.data = d
  num : n = D.count
structure Shown (d r : List UInt8) (S : Scn) (f : Int) : Prop where
  ok : f = 0 → S.at_ ≤ d.length
  bad : f ≠ 0 → allD (d ++ r) = ([], S.at_, f) ∧ allD d = ([], S.at_, f)
theorem early_new (d r : List UInt8) : Early d r ⟨d, 0, 0, 0, false, 0⟩ ⟨d, false, 0, 0, false, 0⟩ 0 [] := by
  have h1 := (Under.feed (data := d ++ r) (l := d) (rest := r) (under_new (d ++ r)) rfl).1
  have h2 := (Under.feed (data := d ++ []) (l := d) (rest := []) (under_new (d ++ [])) rfl).1
  have e : Dsc.new.feed d = ⟨d, false, 0, 0, false, 0⟩ := rfl
  rw [e] at h1 h2
  rw [List.append_nil] at h2
  exact ⟨⟨rfl, rfl, rfl, rfl, ⟨fun h => absurd h (show ¬ 0 = 2 by decide), fun h => absurd h (show ¬ false = true by decide)⟩, Nat.zero_le _, fun _ => ⟨Nat.zero_le _, rfl, Nat.zero_le _, ⟨fun _ => rfl, fun _ => rfl⟩⟩⟩, h1, h2, rfl, rfl, rfl⟩
theorem Early.next {d r : List UInt8} {S : Scn} {D : Dsc} {n : Nat} {got : List TxnP} (h : Early d r S D n got) :
    (D.next.1.2.1 = true ∧ D.next.1.2.2 = 0 ∧ Early d r S.next.2 D.next.2 (n + 1) (got ++ [D.next.1.1])) ∨ (D.next.1.2.1 = false ∧ Shown d r S.next.2 D.next.1.2.2) := by
  obtain ⟨n1, n2⟩ := next_rel h.keeps
  cases hn : D.next.1.2.1 with
  | true =>
    obtain ⟨a1, a2, a3, a4, a5⟩ := h.more.ok hn
    obtain ⟨b1, b2, b3, b4, b5⟩ := h.here.ok hn
    exact .inl ⟨rfl, a1, ⟨n2, a2, b2, a4.trans h.open_, a5.trans h.data, by rw [a3, h.num]⟩⟩
  | false =>
    refine .inr ⟨rfl, ⟨fun he => ?_, fun he => ?_⟩⟩
    · obtain ⟨a1, a2, a3⟩ := h.here.wait h.open_ hn he
      have := a1.le
      rw [n2.place]
      rw [a3, h.data] at this
      exact this
    · obtain ⟨a1, a2, a3, a4⟩ := h.more.bad he
      obtain ⟨b1, b2, b3, b4⟩ := h.here.bad he
      rw [n2.place]
      exact ⟨a1, b1⟩
section early
variable {A B : Option Addr} {c cB : Nat} {d r : List UInt8}
theorem Early_law (hd : d.length ≤ 1048576) (hrl : r.length ≤ 1048576) (w : World) (hv : Vw [] w A (bys d)) (hv2 : Vw [] w B (bys r)) :
    Calls Try.prog 8 #[.slice A d.length c, .slice B r.length cB] w (Holds w) := by
  refine go [.slice A d.length c, .slice B r.length cB] [] Try.func8 Try.ntmps8 rfl rfl (own_nil w) ?_
  repeat (first | (apply wx_val; (first | exact v_assign rfl | exact v_not rfl); rfl) | refine wc_seq ?_ | refine wc_region ?_ | refine wx_nil ?_ | refine wq_next ?_ | refine wc_skip ?_ | refine wc_condF rfl ?_ | (apply wx_vcall; exact vc_pure rfl rfl (fun w' => anchor_spec w'); rfl) | (apply wx_vcall; exact vc_pure rfl rfl (fun w' => anchor_spec w'); rfl))
  refine wl_callT (M1 := []) (fun w' hr ho => scNew_spec w') rfl rfl rfl ?_
  rintro g -
  refine wx_cat ?_
  repeat (first | (apply wx_val; (first | exact v_move rfl | exact v_assign rfl | exact v_eqnil rfl rfl rfl); rfl) | refine wc_seq ?_ | refine wc_region ?_ | refine wx_nil ?_ | refine wq_next ?_ | refine wc_skip ?_ | refine wc_condF rfl ?_)
  refine wl_lit0 rfl rfl (fun g21 E0 hb0 => ?_)
  repeat (first | (apply wx_val; (first | exact v_move rfl); rfl))
  refine wl_appT rfl hb0 rfl rfl (fun w' hr => src_slice rfl (hv.keep hr).rd (by simp) (by decide) (one_bys _)) (by omega) rfl (fun A2 c2 E2 hb2 => ?_)
  simp only [Nat.zero_add, List.nil_append] at hb2 ⊢
  refine wx_seg ?_
  refine wl_callT (M1 := [scB g none 0 Scn.new, []]) (fun w' hr ho => scFeed_spec (A := none) (c := 0) (S := Scn.new) (E := []) (l := d) (Buf.nil _ _).r (by show 0 + d.length ≤ _; omega) w' (hb2.vwO hr) ho) rfl rfl rfl ?_
  rintro ⟨A1, c1, E1⟩ hb1
  have eS : Scn.new.feed d = ⟨d, 0, 0, 0, false, 0⟩ := rfl
  rw [eS] at hb1 ⊢
  dsimp only at hb1 ⊢
  repeat (first | (apply wx_val; (first | exact v_assign rfl); rfl) | refine wc_seq ?_ | refine wc_region ?_ | refine wx_nil ?_ | refine wq_next ?_ | refine wc_block ?_ | refine wc_cat ?_)
  refine wc_loopK (ι := (Bool × Int × Nat) × (Scn × Dsc × List TxnP) × ((Option Addr × Nat) × Seg)) [0, 1, 5] (fun q => [(6, .bool q.1.1), (7, .int .i64 q.1.2.1), (8, .int .i64 (q.1.2.2 : Nat))]) (fun q => [scB g q.2.2.1.1 q.2.2.1.2 q.2.1.1, q.2.2.2]) (fun q => RestO q.2.1.1 q.2.2.2 q.2.2.1 ∧ ((q.1.1 = true ∧ q.1.2.1 = 0 ∧ Early d r q.2.1.1 q.2.1.2.1 q.1.2.2 q.2.1.2.2) ∨ (q.1.1 = false ∧ Shown d r q.2.1.1 q.1.2.1))) (fun q => if q.1.1 then 4098 - q.1.2.2 else 0) (((true, 0, 0), (⟨d, 0, 0, 0, false, 0⟩, ⟨d, false, 0, 0, false, 0⟩, []), ((A1, c1), E1))) rfl ?_ (by repeat (first | exact trivial | refine ⟨rfl, ?_⟩)) ?_
  · exact ⟨hb1, .inl ⟨rfl, rfl, early_new d r⟩⟩
  clear hb1
  rintro ⟨⟨more, f, n⟩, ⟨S, D, got⟩, ⟨⟨A3, c3⟩, E3⟩⟩ ⟨hb, hok⟩
  try dsimp only
  refine wc_fcat ?_
  refine wc_cat ?_
  dsimp only at hb hok ⊢
  rcases hok with ⟨rfl, rfl, hk⟩ | ⟨rfl, hk⟩
  · have hpl := keeps_place hk.keeps hk.here.fault
    rw [hk.data] at hpl
    have hcn := hk.here.count
    have hsm := hk.here.small
    have hle := hk.here.le
    rw [hk.data] at hle
    have hkc := hk.keeps.count
    have hnn := hk.num
    repeat (first | (apply wx_val; (first | exact v_move rfl | exact v_len rfl rfl | exact v_le rfl rfl | exact v_pickT rfl rfl); rfl) | refine wx_ungd rfl rfl ?_ | refine wc_seq ?_ | refine wc_region ?_ | refine wx_nil ?_ | refine wq_next ?_)
    refine wc_yes rfl (decide_eq_true (by omega)) ?_
    repeat (first | (apply wx_val; (first | exact v_move rfl); rfl) | refine wc_seq ?_ | refine wc_region ?_ | refine wq_next ?_ | refine wc_block ?_ | refine wc_skip ?_)
    refine wl_callT (fun w' hr ho => scNext_spec (A := A3) (c := c3) (S := S) (E := E3) hb (by omega) (by omega) (by omega) w' ho) rfl rfl rfl ?_
    rintro ⟨⟨A4, c4⟩, ⟨A5, c5, E5⟩⟩ ⟨hb4, hb5⟩
    obtain ⟨n1, n2⟩ := next_rel hk.keeps
    have hx := hk.next
    dsimp only at hb4 hb5 ⊢
    rw [n1] at hb5 ⊢
    repeat (first | (apply wx_val; (first | exact v_move rfl | exact v_assign rfl | exact v_extract rfl rfl | exact v_addi rfl rfl (by omega)); rfl) | refine wc_region ?_ | refine wx_nil ?_ | refine wq_next ?_ | refine wq_block ?_ | refine wq_cat ?_)
    rcases hx with ⟨h1, h2, h3⟩ | ⟨h1, h3⟩
    · rw [h1, h2]
      refine wq_roundK (((true, 0, n + 1), (S.next.2, D.next.2, got ++ [D.next.1.1]), ((A4, c4), E3))) ?_ ?_ (by repeat (first | exact trivial | refine ⟨rfl, ?_⟩)) (by first | exact catEq | exact rfl)
      · exact ⟨hb4, .inl ⟨rfl, rfl, h3⟩⟩
      · dsimp only
        rw [if_pos rfl, if_pos rfl]
        omega
    · rw [h1]
      refine wq_roundK (((false, D.next.1.2.2, n + 1), (S.next.2, D.next.2, got), ((A4, c4), E3))) ?_ ?_ (by repeat (first | exact trivial | refine ⟨rfl, ?_⟩)) (by first | exact catEq | exact rfl)
      · exact ⟨hb4, .inr ⟨rfl, h3⟩⟩
      · dsimp only
        rw [if_pos rfl, if_neg (by decide)]
        omega
  · repeat (first | (apply wx_val; (first | exact v_move rfl | exact v_eq rfl rfl | exact v_pickF rfl rfl); rfl) | refine wx_no rfl rfl rfl ?_ | refine wc_seq ?_ | refine wc_region ?_ | refine wx_nil ?_ | refine wq_next ?_ | refine wc_exit ?_ | refine wq_then_exit ?_ | refine wq_block_exit rfl ?_ | refine wc_condF rfl ?_)
    refine wc_if rfl (fun hf => ?_) (fun hf => ?_)
    · have hpl := hk.ok hf
      repeat (first | (apply wx_val; (first | exact v_move rfl); rfl) | refine wc_seq ?_ | refine wc_region ?_)
      refine wl_callT (fun w' hr ho => scOffset_spec (A := A3) (c := c3) (S := S) w' ho) rfl rfl rfl ?_
      rintro - -
      repeat (first | (apply wx_val; (first | exact v_move rfl | exact v_ge rfl rfl); rfl) | refine wx_ungd rfl rfl ?_ | refine wx_cat ?_)
      (try refine wx_ungd rfl rfl ?_)
      refine wl_callT (fun w' hr ho => scOffset_spec (A := A3) (c := c3) (S := S) w' ho) rfl rfl rfl ?_
      rintro - -
      repeat (first | (apply wx_val; (first | exact v_move rfl | exact v_assign rfl | exact v_len rfl rfl | exact v_le rfl rfl | exact v_pickT rfl rfl); rfl) | refine wx_ungd rfl rfl ?_ | refine wx_nil ?_ | refine wq_next ?_ | refine wc_ret ?_ | refine wq_then_ret ?_ | refine wq_cat ?_)
      exact wq_clear (wq_ret1 () rfl (bool_val (decide_eq_true (by omega))) trivial rfl)
    obtain ⟨k1, k2⟩ := hk.bad hf
    obtain ⟨C, hC⟩ : ∃ C, C = d ++ r := ⟨_, rfl⟩
    rw [← hC] at k1
    have hCl : C.length = d.length + r.length := by rw [hC, List.length_append]
    repeat (first | refine wc_seq ?_ | refine wc_region ?_ | refine wq_next ?_ | refine wc_skip ?_)
    refine wl_lit0 rfl rfl (fun g53 E0 hb0 => ?_)
    repeat (first | (apply wx_val; (first | exact v_move rfl); rfl))
    refine wl_appT rfl hb0 rfl rfl (fun w' hr => src_slice rfl (hv.keep hr).rd (by simp) (by decide) (one_bys _)) (by omega) rfl (fun Ad cd Ed hbd => ?_)
    simp only [Nat.zero_add, List.nil_append] at hbd ⊢
    try refine wx_cat ?_
    repeat (first | (apply wx_val; (first | exact v_move rfl); rfl))
    refine wl_appT rfl hbd rfl rfl (fun w' hr => src_slice rfl (hv2.keep hr).rd (by simp) (by decide) (one_bys _)) (by omega) rfl (fun Ae ce Ee hbe => ?_)
    rw [← bys_append, ← List.length_append, ← hC] at hbe
    rw [← List.length_append, ← hC]
    skip
    refine wl_callT (M1 := []) (fun w' hr ho => LogDec_spec (d := C) (by omega) w' (hbe.vwT hr)) rfl rfl rfl ?_
    rintro ⟨A7, c7, E7, S7, W7⟩ hq7
    dsimp only at hq7 ⊢
    try refine wx_cat ?_
    rw [k1]
    dsimp only
    repeat (first | (apply wx_val; (first | exact v_move rfl | exact v_assign rfl | exact v_extract rfl rfl); rfl) | refine wc_seq ?_ | refine wc_region ?_ | refine wx_nil ?_ | refine wq_next ?_)
    refine wl_lit0 rfl rfl (fun g63 E0 hb0 => ?_)
    repeat (first | (apply wx_val; (first | exact v_move rfl); rfl))
    refine wl_appT rfl hb0 rfl rfl (fun w' hr => src_slice rfl (hv.keep hr).rd (by simp) (by decide) (one_bys _)) (by omega) rfl (fun Af cf Ef hbf => ?_)
    simp only [Nat.zero_add, List.nil_append] at hbf ⊢
    try refine wx_cat ?_
    skip
    refine wl_callT (M1 := []) (fun w' hr ho => LogDec_spec (d := d) (by omega) w' (hbf.vwT hr)) rfl rfl rfl ?_
    rintro ⟨A8, c8, E8, S8, W8⟩ hq8
    dsimp only at hq8 ⊢
    try refine wx_cat ?_
    rw [k2]
    dsimp only
    repeat (first | (apply wx_val; (first | exact v_move rfl | exact v_assign rfl | exact v_extract rfl rfl | exact v_eq rfl rfl); rfl) | refine wc_seq ?_ | refine wc_region ?_ | refine wx_nil ?_ | refine wq_next ?_)
    refine wx_gset true rfl rfl (decide_eq_true rfl) ?_
    repeat (first | (apply wx_val; (first | exact v_move rfl | exact v_eq rfl rfl | exact v_pickT rfl rfl); rfl) | refine wx_ungd rfl rfl ?_)
    refine wx_gset true rfl rfl (decide_eq_true rfl) ?_
    repeat (first | (apply wx_val; (first | exact v_move rfl); rfl) | refine wx_ungd rfl rfl ?_)
    (try refine wx_ungd rfl rfl ?_)
    refine wl_callT (fun w' hr ho => scOffset_spec (A := A3) (c := c3) (S := S) w' ho) rfl rfl rfl ?_
    rintro - -
    repeat (first | (apply wx_val; (first | exact v_move rfl | exact v_eq rfl rfl | exact v_pickT rfl rfl); rfl) | refine wx_ungd rfl rfl ?_ | refine wx_cat ?_)
    refine wx_gset true rfl rfl (decide_eq_true rfl) ?_
    repeat (first | (apply wx_val; (first | exact v_move rfl | exact v_eq rfl rfl | exact v_pickT rfl rfl); rfl) | refine wx_ungd rfl rfl ?_)
    refine wx_gset true rfl rfl (decide_eq_true rfl) ?_
    repeat (first | (apply wx_val; (first | exact v_move rfl | exact v_assign rfl | exact v_len rfl rfl | exact v_eq rfl rfl | exact v_pickT rfl rfl); rfl) | refine wx_ungd rfl rfl ?_ | refine wx_nil ?_ | refine wq_next ?_ | refine wc_ret ?_)
    exact wq_clear (wq_ret1 () rfl rfl trivial rfl)
end early
end Go.Proofs.Ytjfjleejbbmmaaa
