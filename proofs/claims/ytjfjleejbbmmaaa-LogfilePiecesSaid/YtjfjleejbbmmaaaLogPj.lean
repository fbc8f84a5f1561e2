/- However a log is cut into pieces, the scanner answers what a reading of the whole does: the law. -/
import Derived.Test.YtjfjleejbbmmaaaLogPi
set_option linter.unusedVariables false
set_option linter.unusedSimpArgs false
namespace Go.Proofs.Ytjfjleejbbmmaaa
open Go
set_option maxRecDepth 20000
set_option maxHeartbeats 4000000
attribute [local irreducible] WX WC WQ Val VCall
/-- what stands behind the readings of one piece; b: the end was said -/
def After (d : List UInt8) (b : Bool) (S : Scn) (D : Dsc) (got : List TxnP) (n : Nat) (f : Int) : Prop :=
  (Told d S D got f ∧ (f ≠ 0 ∨ b = true)) ∨ (f = 0 ∧ b = false ∧ Cuts d S D got n ∧ D.ended = false)
abbrev PSt := (Scn × Dsc × List TxnP) × ((Option Addr × Nat) × Seg) × LstO
theorem Pieces_law {A0 B : Option Addr} {c0 cB : Nat} {d : List UInt8} {k : List Int} (hd : d.length ≤ 1048576) (hkl : k.length ≤ 1048576) (hc : d.length ≤ c0) (w : World) (hv : Vw [] w A0 (bys d)) (hv1 : Vw [] w B (k.flatMap intC)) :
    Calls Try.prog 12 #[.slice A0 d.length c0, .slice B k.length cB] w (Holds w) := by
  refine go [.slice A0 d.length c0, .slice B k.length cB] [] Try.func12 Try.ntmps12 rfl rfl (own_nil w) ?_
  have hdn := (dec_small d).2
  repeat (first | (apply wx_val; (first | exact v_assign rfl | exact v_not rfl); rfl) | refine wc_seq ?_ | refine wc_region ?_ | refine wx_nil ?_ | refine wq_next ?_ | refine wc_skip ?_ | refine wc_condF rfl ?_ | (apply wx_vcall; exact vc_pure rfl rfl (fun w' => anchor_spec w'); rfl))
  refine wl_callT (M1 := []) (fun w' hr ho => scNew_spec w') rfl rfl rfl ?_
  rintro g -
  refine wx_cat ?_
  repeat (first | (apply wx_val; (first | exact v_move rfl | exact v_assign rfl | exact v_eqnil rfl rfl rfl); rfl) | refine wc_seq ?_ | refine wc_region ?_ | refine wx_nil ?_ | refine wq_next ?_ | refine wc_skip ?_ | refine wc_condF rfl ?_)
  refine wl_lit0 rfl rfl (fun g23 E0 hb0 => ?_)
  repeat (first | (apply wx_val; (first | exact v_move rfl); rfl))
  refine wl_appT rfl hb0 rfl rfl (fun w' hr => src_slice rfl (hv.keep hr).rd (by simp) (by decide) (one_bys _)) (by omega) rfl (fun Ad cd Ed hbd => ?_)
  simp only [Nat.zero_add, List.nil_append] at hbd ⊢
  try refine wx_cat ?_
  refine wl_callT (M1 := []) (fun w' hr ho => LogDec_spec (d := d) (by omega) w' (hbd.vwT hr)) rfl rfl rfl ?_
  rintro ⟨A8, c8, E8, S8, W8⟩ hq8
  dsimp only at hq8 ⊢
  try refine wx_cat ?_
  repeat (first | (apply wx_val; (first | exact v_move rfl | exact v_assign rfl | exact v_extract rfl rfl); rfl) | refine wc_seq ?_ | refine wc_region ?_ | refine wx_nil ?_ | refine wq_next ?_ | refine wc_block ?_)
  refine wc_seg ?_
  refine wc_seg ?_
  refine wc_seg ?_
  refine wc_loopK (ι := (Nat × Int × Nat) × PSt) [0, 1, 5, 6, 7, 8] (fun q => [(12, .int .i64 (q.1.1 : Nat)), (11, .int .i64 q.1.2.1), (9, .int .i64 (q.1.2.2 : Nat)), (10, .slice q.2.2.2.1 q.2.1.2.2.length q.2.2.2.2.1)]) (fun q => [scB g q.2.2.1.1.1 q.2.2.1.1.2 q.2.1.1, q.2.2.1.2, q.2.2.2.2.2.1, q.2.2.2.2.2.2.1]) (fun q => q.1.1 ≤ k.length + 2 ∧ RestO q.2.1.1 q.2.2.1.2 q.2.2.1.1 ∧ ListO q.2.1.2.2 q.2.2.2 ∧ ((q.1.2.1 = 0 ∧ ∃ n, Cuts d q.2.1.1 q.2.1.2.1 q.2.1.2.2 n ∧ q.2.1.2.1.ended = false ∧ (q.1.1 ≤ k.length → n = q.1.2.2) ∧ (k.length < q.1.1 → n = d.length) ∧ q.1.1 ≤ k.length + 1) ∨ (Told d q.2.1.1 q.2.1.2.1 q.2.1.2.2 q.1.2.1 ∧ (q.1.2.1 ≠ 0 ∨ q.1.1 = k.length + 2)))) (fun q => k.length + 2 - q.1.1) (((0, 0, 0), (Scn.new, Dsc.new, []), ((none, 0), []), (none, 0, [], [], []))) rfl ?_ (by repeat (first | exact trivial | refine ⟨rfl, ?_⟩)) ?_
  · exact ⟨Nat.zero_le _, (Buf.nil _ _).r, ListO.nil, .inl ⟨rfl, 0, cuts_new d, rfl, fun _ => rfl, fun h => absurd h (by dsimp only; omega), by dsimp only; omega⟩⟩
  rintro ⟨⟨i, f, fr⟩, ⟨S, D, got⟩, ⟨⟨A, c⟩, E⟩, A3, c3, E3, S3, W3⟩ ⟨hi, hb, hq, hok⟩
  try dsimp only
  refine wc_fcat ?_
  refine wc_cat ?_
  dsimp only at hi hb hq hok ⊢
  rcases hok with ⟨rfl, n, hk, hen, hn1, hn2, hi1⟩ | ⟨hT, hT2⟩
  case inr =>
    by_cases hi2 : i ≤ k.length + 1
    · have hf0 : f ≠ 0 := by rcases hT2 with h | h; exact h; omega
      repeat (first | (apply wx_val; (first | exact v_move rfl | exact v_len rfl rfl | exact v_le rfl rfl | exact v_addi rfl rfl (by omega)); rfl) | refine wc_seq ?_ | refine wc_region ?_)
      refine wx_gset true rfl rfl (decide_eq_true (by omega)) ?_
      repeat (first | (apply wx_val; (first | exact v_move rfl | exact v_eq rfl rfl | exact v_pickT rfl rfl); rfl) | refine wx_ungd rfl rfl ?_ | refine wx_nil ?_ | refine wq_next ?_)
      refine wc_not rfl (decide_eq_false hf0) ?_
      repeat (first | (apply wx_val; (first | exact v_move rfl | exact v_ne rfl rfl); rfl) | refine wc_seq ?_ | refine wc_region ?_ | refine wx_nil ?_ | refine wq_next ?_ | refine wc_exit ?_ | refine wq_then_exit ?_ | refine wq_block_exit rfl ?_)
      cases hT with
      | fault e he hf hd =>
        rw [hf]
        dsimp only
        skip
        refine wc_yes rfl (decide_eq_true he) ?_
        repeat (first | (apply wx_val; (first | exact v_move rfl | exact v_eq rfl rfl); rfl) | refine wc_seq ?_ | refine wc_region ?_)
        refine wx_gset true rfl rfl (decide_eq_true rfl) ?_
        repeat (first | (apply wx_val; (first | exact v_move rfl); rfl) | refine wx_ungd rfl rfl ?_)
        (try refine wx_ungd rfl rfl ?_)
        refine wl_callT (fun w' hr ho => scOffset_spec (A := A) (c := c) (S := S) w' ho) rfl rfl rfl ?_
        rintro - -
        repeat (first | (apply wx_val; (first | exact v_move rfl | exact v_eq rfl rfl | exact v_pickT rfl rfl); rfl) | refine wx_ungd rfl rfl ?_ | refine wx_cat ?_)
        refine wx_gset true rfl rfl (decide_eq_true rfl) ?_
        repeat (first | (apply wx_val; (first | exact v_move rfl); rfl) | refine wx_ungd rfl rfl ?_)
        (try refine wx_ungd rfl rfl ?_)
        refine wl_callT (fun w' hr ho => scFinished_spec (A := A) (c := c) (S := S) w' ho) rfl rfl rfl ?_
        rintro - -
        rw [hd]
        repeat (first | (apply wx_val; (first | exact v_assign rfl | exact v_not rfl | exact v_pickT rfl rfl); rfl) | refine wx_ungd rfl rfl ?_ | refine wx_nil ?_ | refine wq_next ?_ | refine wc_ret ?_ | refine wq_then_ret ?_ | refine wq_cat ?_)
        exact wq_clear (wq_ret1 () rfl rfl trivial rfl)
      | fin hf hd hp hc =>
        have hf1 : (allD d).1 = got := by rw [hf]
        have hsm := (dec_small d).1
        rw [hf1] at hsm hdn
        have hq8' : ListO got (A8, c8, E8, S8, W8) := by rw [← hf1]; exact hq8
        rw [hf]
        dsimp only
        repeat (first | (apply wx_val; (first | exact v_move rfl | exact v_eq rfl rfl); rfl) | refine wx_ungd rfl rfl ?_ | refine wc_seq ?_ | refine wc_region ?_ | refine wq_next ?_ | refine wc_skip ?_ | refine wc_condF rfl ?_)
        (try refine wx_ungd rfl rfl ?_)
        refine wl_callT (fun w' hr ho => scFinished_spec (A := A) (c := c) (S := S) w' ho) rfl rfl rfl ?_
        rintro - -
        rw [hd]
        repeat (first | (apply wx_val; (first | exact v_move rfl | exact v_pickT rfl rfl); rfl) | refine wx_ungd rfl rfl ?_ | refine wx_cat ?_)
        (try refine wx_ungd rfl rfl ?_)
        refine wl_callT (fun w' hr ho => scOffset_spec (A := A) (c := c) (S := S) w' ho) rfl rfl rfl ?_
        rintro - -
        repeat (first | (apply wx_val; (first | exact v_move rfl | exact v_len rfl rfl | exact v_eq rfl rfl | exact v_pickT rfl rfl); rfl) | refine wx_ungd rfl rfl ?_ | refine wx_cat ?_)
        refine wx_gset true rfl rfl (decide_eq_true (by omega)) ?_
        repeat (first | (apply wx_val; (first | exact v_move rfl); rfl) | refine wx_ungd rfl rfl ?_)
        (try refine wx_ungd rfl rfl ?_)
        refine wl_callT (fun w' hr ho => scCount_spec (A := A) (c := c) (S := S) w' ho) rfl rfl rfl ?_
        rintro - -
        repeat (first | (apply wx_val; (first | exact v_move rfl | exact v_len rfl rfl | exact v_eq rfl rfl | exact v_pickT rfl rfl); rfl) | refine wx_ungd rfl rfl ?_ | refine wx_cat ?_)
        refine wx_gset true rfl rfl (decide_eq_true (by omega)) ?_
        repeat (first | (apply wx_val; (first | exact v_move rfl); rfl) | refine wx_ungd rfl rfl ?_)
        (try refine wx_ungd rfl rfl ?_)
        refine wx_vcall (vc_pure' rfl rfl (fun w' hr => SameList_n (W1 := W3) (W2 := W8) (hq.map.trans hq8'.map.symm) hq.len.symm hq8'.len.symm (by omega) (p_small hq.map (fun t ht => by have := hsm t ht; omega)) w' (hq.vwT hr) (hq8'.vwT hr) (hq.reads hr) (hq8'.reads hr))) rfl ?_
        repeat (first | (apply wx_val; (first | exact v_assign rfl | exact v_pickT rfl rfl); rfl) | refine wx_nil ?_ | refine wq_next ?_ | refine wc_ret ?_)
        exact wq_clear (wq_ret1 () rfl (bool_val (by simp)) trivial rfl)
    · repeat (first | (apply wx_val; (first | exact v_move rfl | exact v_len rfl rfl | exact v_le rfl rfl | exact v_addi rfl rfl (by omega)); rfl) | refine wc_seq ?_ | refine wc_region ?_)
      refine wx_gset false rfl rfl (decide_eq_false (by omega)) ?_
      repeat (first | (apply wx_val; (first | exact v_move rfl | exact v_ne rfl rfl | exact v_pickF rfl rfl); rfl) | refine wx_no rfl rfl rfl ?_ | refine wc_seq ?_ | refine wc_region ?_ | refine wx_nil ?_ | refine wq_next ?_ | refine wc_exit ?_ | refine wq_then_exit ?_ | refine wq_block_exit rfl ?_ | refine wc_condF rfl ?_)
      cases hT with
      | fault e he hf hd =>
        rw [hf]
        dsimp only
        skip
        refine wc_yes rfl (decide_eq_true he) ?_
        repeat (first | (apply wx_val; (first | exact v_move rfl | exact v_eq rfl rfl); rfl) | refine wc_seq ?_ | refine wc_region ?_)
        refine wx_gset true rfl rfl (decide_eq_true rfl) ?_
        repeat (first | (apply wx_val; (first | exact v_move rfl); rfl) | refine wx_ungd rfl rfl ?_)
        (try refine wx_ungd rfl rfl ?_)
        refine wl_callT (fun w' hr ho => scOffset_spec (A := A) (c := c) (S := S) w' ho) rfl rfl rfl ?_
        rintro - -
        repeat (first | (apply wx_val; (first | exact v_move rfl | exact v_eq rfl rfl | exact v_pickT rfl rfl); rfl) | refine wx_ungd rfl rfl ?_ | refine wx_cat ?_)
        refine wx_gset true rfl rfl (decide_eq_true rfl) ?_
        repeat (first | (apply wx_val; (first | exact v_move rfl); rfl) | refine wx_ungd rfl rfl ?_)
        (try refine wx_ungd rfl rfl ?_)
        refine wl_callT (fun w' hr ho => scFinished_spec (A := A) (c := c) (S := S) w' ho) rfl rfl rfl ?_
        rintro - -
        rw [hd]
        repeat (first | (apply wx_val; (first | exact v_assign rfl | exact v_not rfl | exact v_pickT rfl rfl); rfl) | refine wx_ungd rfl rfl ?_ | refine wx_nil ?_ | refine wq_next ?_ | refine wc_ret ?_ | refine wq_then_ret ?_ | refine wq_cat ?_)
        exact wq_clear (wq_ret1 () rfl rfl trivial rfl)
      | fin hf hd hp hc =>
        have hf1 : (allD d).1 = got := by rw [hf]
        have hsm := (dec_small d).1
        rw [hf1] at hsm hdn
        have hq8' : ListO got (A8, c8, E8, S8, W8) := by rw [← hf1]; exact hq8
        rw [hf]
        dsimp only
        repeat (first | (apply wx_val; (first | exact v_move rfl | exact v_eq rfl rfl); rfl) | refine wx_ungd rfl rfl ?_ | refine wc_seq ?_ | refine wc_region ?_ | refine wq_next ?_ | refine wc_skip ?_ | refine wc_condF rfl ?_)
        (try refine wx_ungd rfl rfl ?_)
        refine wl_callT (fun w' hr ho => scFinished_spec (A := A) (c := c) (S := S) w' ho) rfl rfl rfl ?_
        rintro - -
        rw [hd]
        repeat (first | (apply wx_val; (first | exact v_move rfl | exact v_pickT rfl rfl); rfl) | refine wx_ungd rfl rfl ?_ | refine wx_cat ?_)
        (try refine wx_ungd rfl rfl ?_)
        refine wl_callT (fun w' hr ho => scOffset_spec (A := A) (c := c) (S := S) w' ho) rfl rfl rfl ?_
        rintro - -
        repeat (first | (apply wx_val; (first | exact v_move rfl | exact v_len rfl rfl | exact v_eq rfl rfl | exact v_pickT rfl rfl); rfl) | refine wx_ungd rfl rfl ?_ | refine wx_cat ?_)
        refine wx_gset true rfl rfl (decide_eq_true (by omega)) ?_
        repeat (first | (apply wx_val; (first | exact v_move rfl); rfl) | refine wx_ungd rfl rfl ?_)
        (try refine wx_ungd rfl rfl ?_)
        refine wl_callT (fun w' hr ho => scCount_spec (A := A) (c := c) (S := S) w' ho) rfl rfl rfl ?_
        rintro - -
        repeat (first | (apply wx_val; (first | exact v_move rfl | exact v_len rfl rfl | exact v_eq rfl rfl | exact v_pickT rfl rfl); rfl) | refine wx_ungd rfl rfl ?_ | refine wx_cat ?_)
        refine wx_gset true rfl rfl (decide_eq_true (by omega)) ?_
        repeat (first | (apply wx_val; (first | exact v_move rfl); rfl) | refine wx_ungd rfl rfl ?_)
        (try refine wx_ungd rfl rfl ?_)
        refine wx_vcall (vc_pure' rfl rfl (fun w' hr => SameList_n (W1 := W3) (W2 := W8) (hq.map.trans hq8'.map.symm) hq.len.symm hq8'.len.symm (by omega) (p_small hq.map (fun t ht => by have := hsm t ht; omega)) w' (hq.vwT hr) (hq8'.vwT hr) (hq.reads hr) (hq8'.reads hr))) rfl ?_
        repeat (first | (apply wx_val; (first | exact v_assign rfl | exact v_pickT rfl rfl); rfl) | refine wx_nil ?_ | refine wq_next ?_ | refine wc_ret ?_)
        exact wq_clear (wq_ret1 () rfl (bool_val (by simp)) trivial rfl)
  obtain ⟨j1, j2, j3, j4, j5⟩ := hk.bounds
  have hnle := hk.le
  repeat (first | (apply wx_val; (first | exact v_move rfl | exact v_len rfl rfl | exact v_le rfl rfl | exact v_addi rfl rfl (by omega)); rfl) | refine wc_seq ?_ | refine wc_region ?_)
  refine wx_gset true rfl rfl (decide_eq_true (by omega)) ?_
  repeat (first | (apply wx_val; (first | exact v_move rfl | exact v_len rfl rfl | exact v_eq rfl rfl | exact v_lt rfl rfl | exact v_pickT rfl rfl); rfl) | refine wx_ungd rfl rfl ?_ | refine wc_seq ?_ | refine wc_region ?_ | refine wx_nil ?_ | refine wq_next ?_ | refine wc_block ?_ | refine wc_skip ?_ | refine wc_condT rfl ?_)
  by_cases hlt : i < k.length
  · refine wx_gset true rfl rfl (decide_eq_true (by omega)) ?_
    obtain rfl := hn1 (by omega)
    obtain ⟨x, hx⟩ : ∃ x, k[i]? = some x := ⟨k[i]'(by omega), List.getElem?_eq_getElem _⟩
    obtain ⟨ga, oa, hA1, hca⟩ := hv1.elT (k := 1) (by decide) (fun _ => rfl) (by omega)
    have hld : ∀ {w' : World} {M : List Seg}, Res w (ids []) w' M → w'.cell? ⟨ga, oa + ((i : Nat) : Int).toNat * 1, none⟩ = some (.int .i64 x) := fun hr => hca hx hr (j := 0) rfl (by rw [Int.toNat_natCast]; omega)
    repeat (first | (apply wx_val; (first | exact v_move rfl | exact v_iaddrE (by assumption) rfl rfl rfl (by omega)); rfl) | refine wx_ungd rfl rfl ?_)
    (try refine wx_ungd rfl rfl ?_)
    apply wx_val
    exact v_load rfl rfl rfl (fun w' hr => hld hr)
    rfl
    repeat (first | (apply wx_val; (first | exact v_move rfl | exact v_ge rfl rfl | exact v_pickT rfl rfl); rfl) | refine wx_ungd rfl rfl ?_)
    refine wx_gif rfl rfl (fun h1 => ?_) (fun h1 => ?_)
    · obtain ⟨m, rfl⟩ : ∃ m : Nat, x = m := ⟨x.toNat, by omega⟩
      repeat (first | (apply wx_val; (first | exact v_move rfl | exact v_iaddrE (by assumption) rfl rfl rfl (by omega)); rfl) | refine wx_ungd rfl rfl ?_)
      (try refine wx_ungd rfl rfl ?_)
      apply wx_val
      exact v_load rfl rfl rfl (fun w' hr => hld hr)
      rfl
      repeat (first | (apply wx_val; (first | exact v_move rfl | exact v_len rfl rfl | exact v_le rfl rfl | exact v_subi rfl rfl (by omega) | exact v_pickT rfl rfl); rfl) | refine wx_ungd rfl rfl ?_ | refine wx_nil ?_ | refine wq_next ?_)
      refine wc_if rfl (fun h2 => ?_) (fun h2 => ?_)
      · obtain ⟨l, hlm⟩ : ∃ l, l = (d.drop n).take m := ⟨_, rfl⟩
        have hll : l.length = m := by rw [hlm, List.length_take, List.length_drop]; omega
        repeat (first | (apply wx_val; (first | exact v_move rfl); rfl) | refine wc_seq ?_ | refine wc_region ?_)
        refine wl_lit0 rfl rfl (fun g64 E0 hb0 => ?_)
        repeat (first | (apply wx_val; (first | exact v_move rfl | exact v_iaddrE (by assumption) rfl rfl rfl (by omega)); rfl))
        (try refine wx_ungd rfl rfl ?_)
        apply wx_val
        exact v_load rfl rfl rfl (fun w' hr => hld hr)
        rfl
        repeat (first | (apply wx_val; (first | exact v_addi rfl rfl (by omega)); rfl))
        (try refine wx_ungd rfl rfl ?_)
        apply wx_val
        exact v_sliceN (l := n) (h := n + m) (m := l.length) rfl rfl rfl rfl (by omega) hc (by omega)
        rfl
        refine wl_appT rfl hb0 rfl rfl (fun w' hr => src_slice (m := l.length) (xs := bys l) rfl (by
          have := (vw_cut (sz := 1) (c := c0) (hv.keep hr) (l := n) (h := n + m) (by omega) (by simp; omega) (by omega)).rd
          rw [Nat.add_sub_cancel_left] at this
          rw [hlm]
          simpa [bys, List.map_drop, List.map_take] using this) (by simp) (by decide) (one_bys _)) (by omega) rfl (fun A2 c2 E2 hb2 => ?_)
        simp only [Nat.zero_add, List.nil_append] at hb2 ⊢
        refine wl_callT (M1 := [scB g A c S, E]) (fun w' hr ho => scFeed_spec (A := A) (c := c) (S := S) (E := E) (l := l) hb (by omega) w' (hb2.vwO hr) ho) rfl rfl rfl ?_
        rintro ⟨A5, c5, E5⟩ hbI
        dsimp only at hbI ⊢
        obtain ⟨hkI, heI⟩ := hk.feed (m := m) hen (by omega) hlm
        have hqI := hq
        repeat (first | (apply wx_val; (first | exact v_move rfl | exact v_iaddrE (by assumption) rfl rfl rfl (by omega)); rfl) | refine wc_region ?_ | refine wx_nil ?_ | refine wq_next ?_ | refine wx_cat ?_)
        (try refine wx_ungd rfl rfl ?_)
        apply wx_val
        exact v_load rfl rfl rfl (fun w' hr => hld hr)
        rfl
        repeat (first | (apply wx_val; (first | exact v_move rfl | exact v_assign rfl | exact v_len rfl rfl | exact v_eq rfl rfl | exact v_addi rfl rfl (by omega)); rfl) | refine wc_seq ?_ | refine wc_region ?_ | refine wx_nil ?_ | refine wq_next ?_)
        refine wc_not rfl (decide_eq_false (by omega)) ?_
        repeat (first | (apply wx_val; (first | exact v_move rfl | exact v_len rfl rfl | exact v_gt rfl rfl); rfl) | refine wc_seq ?_ | refine wc_region ?_ | refine wx_nil ?_ | refine wq_next ?_ | refine wc_skip ?_)
        refine wc_not rfl (decide_eq_false (by omega)) ?_
        repeat (first | (apply wx_val; (first | exact v_assign rfl); rfl) | refine wc_seq ?_ | refine wc_region ?_ | refine wx_nil ?_ | refine wq_next ?_ | refine wc_block ?_ | refine wc_skip ?_)
        generalize S.feed l = S1 at hbI hkI ⊢
        generalize D.feed l = D1 at hkI heI
        refine wc_loopK (ι := (Bool × Int) × PSt) [0, 1, 5, 6, 7, 8, 9, 12] (fun q => [(13, .bool q.1.1), (11, .int .i64 q.1.2), (10, .slice q.2.2.2.1 q.2.1.2.2.length q.2.2.2.2.1)]) (fun q => [scB g q.2.2.1.1.1 q.2.2.1.1.2 q.2.1.1, q.2.2.1.2, q.2.2.2.2.2.1, q.2.2.2.2.2.2.1]) (fun q => RestO q.2.1.1 q.2.2.1.2 q.2.2.1.1 ∧ ListO q.2.1.2.2 q.2.2.2 ∧ ((q.1.1 = true ∧ q.1.2 = 0 ∧ Cuts d q.2.1.1 q.2.1.2.1 q.2.1.2.2 (n+m) ∧ q.2.1.2.1.ended = false) ∨ (q.1.1 = false ∧ After d false q.2.1.1 q.2.1.2.1 q.2.1.2.2 (n+m) q.1.2))) (fun q => if q.1.1 then 4098 - q.2.1.2.1.count else 0) (((true, 0), (S1, D1, got), ((A5, c5), E5), (A3, c3, E3, S3, W3))) rfl ?_ (by repeat (first | exact trivial | refine ⟨rfl, ?_⟩)) ?_
        · exact ⟨hbI, hq, .inl ⟨rfl, rfl, hkI, heI⟩⟩
        rintro ⟨⟨more, f⟩, ⟨S', D', got'⟩, ⟨⟨A', c'⟩, E'⟩, A4, c4, E4, S4, W4⟩ ⟨hb', hq', hok⟩
        try dsimp only
        refine wc_fcat ?_
        refine wc_cat ?_
        dsimp only at hb' hq' hok ⊢
        rcases hok with ⟨rfl, rfl, hk', he'⟩ | ⟨rfl, ha'⟩
        · obtain ⟨y1, y2, y3, y4, y5⟩ := hk'.bounds
          have hqb := hq'.buf
          dsimp only at hqb
          repeat (first | (apply wx_val; (first | exact v_move rfl | exact v_len rfl rfl | exact v_le rfl rfl | exact v_pickT rfl rfl); rfl) | refine wx_ungd rfl rfl ?_ | refine wc_seq ?_ | refine wc_region ?_ | refine wx_nil ?_ | refine wq_next ?_)
          refine wc_yes rfl (decide_eq_true (by omega)) ?_
          repeat (first | (apply wx_val; (first | exact v_move rfl); rfl) | refine wc_seq ?_ | refine wc_region ?_ | refine wq_next ?_ | refine wc_block ?_ | refine wc_skip ?_)
          refine wl_callT (fun w' hr ho => scNext_spec (A := A') (c := c') (S := S') (E := E') hb' (by omega) (by omega) (by omega) w' ho) rfl rfl rfl ?_
          rintro ⟨⟨A5, c5⟩, ⟨A6, c6, E6⟩⟩ ⟨hb5, hb6⟩
          obtain ⟨x1, x2⟩ := next_rel hk'.keeps
          dsimp only at hb5 hb6 ⊢
          rw [x1] at hb6 ⊢
          repeat (first | (apply wx_val; (first | exact v_move rfl | exact v_extract rfl rfl); rfl) | refine wx_cat ?_)
          refine wl_alloc rfl rfl (fun g14 => ?_)
          repeat (first | (apply wx_val; (first | exact v_move rfl | exact v_assign rfl); rfl) | refine wc_seq ?_ | refine wc_region ?_ | refine wx_nil ?_ | refine wq_next ?_ | refine wc_setn ?_ | refine wl_stAT rfl rfl (by rfl) (by rfl) (by exact .inl (Nat.le_refl _)) rfl ?_)
          rcases hk'.step with ⟨m1, m2, m3, m4, m5⟩ | ⟨m1, m3⟩
          · rw [m1, m2]
            repeat (first | (apply wx_val; (first | exact v_move rfl | exact v_ldAT rfl (by rfl)); rfl) | refine wc_region ?_ | refine wc_condT rfl ?_)
            refine wl_lit rfl rfl rfl rfl rfl (by decide) rfl (fun g9 => ?_)
            refine wl_app1T (news := D'.next.1.1.cells A6 c6) rfl hqb rfl rfl rfl rfl (by omega) rfl (fun A7 c7 E7 hb7 => ?_)
            rw [show got'.length + 1 = (got' ++ [D'.next.1.1]).length by simp]
            repeat (first | (apply wx_val; (first | exact v_move rfl | exact v_assign rfl); rfl) | refine wc_region ?_ | refine wx_nil ?_ | refine wq_next ?_ | refine wq_block ?_)
            refine wq_join S4 E6 ?_
            refine wq_roundK (((true, 0), (S'.next.2, D'.next.2, got' ++ [D'.next.1.1]), ((A5, c5), E'), (A7, c7, E7, S4 ++ E6, W4 ++ [D'.next.1.1.w A6 c6]))) ?_ ?_ (by repeat (first | exact trivial | refine ⟨rfl, ?_⟩)) (by first | exact catEq | exact rfl)
            · exact ⟨hb5, hq'.snoc D'.next.1.1 hb6 hb7, .inl ⟨rfl, rfl, m3, m4.trans he'⟩⟩
            · dsimp only
              rw [if_pos rfl, if_pos rfl]
              omega
          · rw [m1]
            repeat (first | (apply wx_val; (first | exact v_move rfl | exact v_assign rfl); rfl) | refine wc_region ?_ | refine wx_nil ?_ | refine wq_next ?_ | refine wc_skip ?_ | refine wq_block ?_ | refine wc_condF rfl ?_)
            refine wq_roundK (((false, D'.next.1.2.2), (S'.next.2, D'.next.2, got'), ((A5, c5), E'), (A4, c4, E4, S4, W4))) ?_ ?_ (by repeat (first | exact trivial | refine ⟨rfl, ?_⟩)) (by first | exact catEq | exact rfl)
            · refine ⟨hb5, hq', .inr ⟨rfl, ?_⟩⟩
              dsimp only
              rcases m3 with ⟨p1, p2⟩ | ⟨p1, p2, p3, p4⟩ | ⟨p1, p2, p3⟩
              · exact .inl ⟨p2, .inl p1⟩
              · exact .inr ⟨p1, he'.symm.trans p2, p3, p4⟩
              · rw [p1]
                exact .inl ⟨p3, .inr (he'.symm.trans p2)⟩
            · dsimp only
              rw [if_pos rfl, if_neg (by decide)]
              omega
        · repeat (first | (apply wx_val; (first | exact v_move rfl | exact v_assign rfl | exact v_addi rfl rfl (by omega) | exact v_pickF rfl rfl); rfl) | refine wx_no rfl rfl rfl ?_ | refine wc_seq ?_ | refine wc_region ?_ | refine wx_nil ?_ | refine wq_next ?_ | refine wc_exit ?_ | refine wq_then_exit ?_ | refine wq_block ?_ | refine wq_block_exit rfl ?_ | refine wc_condF rfl ?_)
          refine wq_roundK (((i + 1, f, n+m), (S', D', got'), ((A', c'), E'), (A4, c4, E4, S4, W4))) ?_ ?_ (by repeat (first | exact trivial | refine ⟨rfl, ?_⟩)) (by first | exact catEq | exact rfl)
          · refine ⟨by dsimp only; omega, hb', hq', ?_⟩
            dsimp only
            rcases ha' with ⟨p1, p2⟩ | ⟨p1, p2, p3, p4⟩
            · refine .inr ⟨p1, ?_⟩
              rcases p2 with p2 | p2
              · exact .inl p2
              · first
                | exact .inr (by omega)
                | exact absurd p2 (by decide)
            · first
              | exact .inl ⟨p1, _, p3, p4, by omega, by omega, by omega⟩
              | exact absurd p2 (by decide)
          · dsimp only; omega
      · have hbI := hb
        have hkI := hk
        have heI := hen
        repeat (first | (apply wx_val; (first | exact v_move rfl | exact v_len rfl rfl | exact v_eq rfl rfl); rfl) | refine wc_seq ?_ | refine wc_region ?_ | refine wx_nil ?_ | refine wq_next ?_ | refine wc_skip ?_)
        refine wc_not rfl (decide_eq_false (by omega)) ?_
        repeat (first | (apply wx_val; (first | exact v_move rfl | exact v_len rfl rfl | exact v_gt rfl rfl); rfl) | refine wc_seq ?_ | refine wc_region ?_ | refine wx_nil ?_ | refine wq_next ?_ | refine wc_skip ?_)
        refine wc_not rfl (decide_eq_false (by omega)) ?_
        repeat (first | (apply wx_val; (first | exact v_assign rfl); rfl) | refine wc_seq ?_ | refine wc_region ?_ | refine wx_nil ?_ | refine wq_next ?_ | refine wc_block ?_ | refine wc_skip ?_)
        refine wc_loopK (ι := (Bool × Int) × PSt) [0, 1, 5, 6, 7, 8, 9, 12] (fun q => [(13, .bool q.1.1), (11, .int .i64 q.1.2), (10, .slice q.2.2.2.1 q.2.1.2.2.length q.2.2.2.2.1)]) (fun q => [scB g q.2.2.1.1.1 q.2.2.1.1.2 q.2.1.1, q.2.2.1.2, q.2.2.2.2.2.1, q.2.2.2.2.2.2.1]) (fun q => RestO q.2.1.1 q.2.2.1.2 q.2.2.1.1 ∧ ListO q.2.1.2.2 q.2.2.2 ∧ ((q.1.1 = true ∧ q.1.2 = 0 ∧ Cuts d q.2.1.1 q.2.1.2.1 q.2.1.2.2 n ∧ q.2.1.2.1.ended = false) ∨ (q.1.1 = false ∧ After d false q.2.1.1 q.2.1.2.1 q.2.1.2.2 n q.1.2))) (fun q => if q.1.1 then 4098 - q.2.1.2.1.count else 0) (((true, 0), (S, D, got), ((A, c), E), (A3, c3, E3, S3, W3))) rfl ?_ (by repeat (first | exact trivial | refine ⟨rfl, ?_⟩)) ?_
        · exact ⟨hbI, hq, .inl ⟨rfl, rfl, hkI, heI⟩⟩
        rintro ⟨⟨more, f⟩, ⟨S', D', got'⟩, ⟨⟨A', c'⟩, E'⟩, A4, c4, E4, S4, W4⟩ ⟨hb', hq', hok⟩
        try dsimp only
        refine wc_fcat ?_
        refine wc_cat ?_
        dsimp only at hb' hq' hok ⊢
        rcases hok with ⟨rfl, rfl, hk', he'⟩ | ⟨rfl, ha'⟩
        · obtain ⟨y1, y2, y3, y4, y5⟩ := hk'.bounds
          have hqb := hq'.buf
          dsimp only at hqb
          repeat (first | (apply wx_val; (first | exact v_move rfl | exact v_len rfl rfl | exact v_le rfl rfl | exact v_pickT rfl rfl); rfl) | refine wx_ungd rfl rfl ?_ | refine wc_seq ?_ | refine wc_region ?_ | refine wx_nil ?_ | refine wq_next ?_)
          refine wc_yes rfl (decide_eq_true (by omega)) ?_
          repeat (first | (apply wx_val; (first | exact v_move rfl); rfl) | refine wc_seq ?_ | refine wc_region ?_ | refine wq_next ?_ | refine wc_block ?_ | refine wc_skip ?_)
          refine wl_callT (fun w' hr ho => scNext_spec (A := A') (c := c') (S := S') (E := E') hb' (by omega) (by omega) (by omega) w' ho) rfl rfl rfl ?_
          rintro ⟨⟨A5, c5⟩, ⟨A6, c6, E6⟩⟩ ⟨hb5, hb6⟩
          obtain ⟨x1, x2⟩ := next_rel hk'.keeps
          dsimp only at hb5 hb6 ⊢
          rw [x1] at hb6 ⊢
          repeat (first | (apply wx_val; (first | exact v_move rfl | exact v_extract rfl rfl); rfl) | refine wx_cat ?_)
          refine wl_alloc rfl rfl (fun g14 => ?_)
          repeat (first | (apply wx_val; (first | exact v_move rfl | exact v_assign rfl); rfl) | refine wc_seq ?_ | refine wc_region ?_ | refine wx_nil ?_ | refine wq_next ?_ | refine wc_setn ?_ | refine wl_stAT rfl rfl (by rfl) (by rfl) (by exact .inl (Nat.le_refl _)) rfl ?_)
          rcases hk'.step with ⟨m1, m2, m3, m4, m5⟩ | ⟨m1, m3⟩
          · rw [m1, m2]
            repeat (first | (apply wx_val; (first | exact v_move rfl | exact v_ldAT rfl (by rfl)); rfl) | refine wc_region ?_ | refine wc_condT rfl ?_)
            refine wl_lit rfl rfl rfl rfl rfl (by decide) rfl (fun g9 => ?_)
            refine wl_app1T (news := D'.next.1.1.cells A6 c6) rfl hqb rfl rfl rfl rfl (by omega) rfl (fun A7 c7 E7 hb7 => ?_)
            rw [show got'.length + 1 = (got' ++ [D'.next.1.1]).length by simp]
            repeat (first | (apply wx_val; (first | exact v_move rfl | exact v_assign rfl); rfl) | refine wc_region ?_ | refine wx_nil ?_ | refine wq_next ?_ | refine wq_block ?_)
            refine wq_join S4 E6 ?_
            refine wq_roundK (((true, 0), (S'.next.2, D'.next.2, got' ++ [D'.next.1.1]), ((A5, c5), E'), (A7, c7, E7, S4 ++ E6, W4 ++ [D'.next.1.1.w A6 c6]))) ?_ ?_ (by repeat (first | exact trivial | refine ⟨rfl, ?_⟩)) (by first | exact catEq | exact rfl)
            · exact ⟨hb5, hq'.snoc D'.next.1.1 hb6 hb7, .inl ⟨rfl, rfl, m3, m4.trans he'⟩⟩
            · dsimp only
              rw [if_pos rfl, if_pos rfl]
              omega
          · rw [m1]
            repeat (first | (apply wx_val; (first | exact v_move rfl | exact v_assign rfl); rfl) | refine wc_region ?_ | refine wx_nil ?_ | refine wq_next ?_ | refine wc_skip ?_ | refine wq_block ?_ | refine wc_condF rfl ?_)
            refine wq_roundK (((false, D'.next.1.2.2), (S'.next.2, D'.next.2, got'), ((A5, c5), E'), (A4, c4, E4, S4, W4))) ?_ ?_ (by repeat (first | exact trivial | refine ⟨rfl, ?_⟩)) (by first | exact catEq | exact rfl)
            · refine ⟨hb5, hq', .inr ⟨rfl, ?_⟩⟩
              dsimp only
              rcases m3 with ⟨p1, p2⟩ | ⟨p1, p2, p3, p4⟩ | ⟨p1, p2, p3⟩
              · exact .inl ⟨p2, .inl p1⟩
              · exact .inr ⟨p1, he'.symm.trans p2, p3, p4⟩
              · rw [p1]
                exact .inl ⟨p3, .inr (he'.symm.trans p2)⟩
            · dsimp only
              rw [if_pos rfl, if_neg (by decide)]
              omega
        · repeat (first | (apply wx_val; (first | exact v_move rfl | exact v_assign rfl | exact v_addi rfl rfl (by omega) | exact v_pickF rfl rfl); rfl) | refine wx_no rfl rfl rfl ?_ | refine wc_seq ?_ | refine wc_region ?_ | refine wx_nil ?_ | refine wq_next ?_ | refine wc_exit ?_ | refine wq_then_exit ?_ | refine wq_block ?_ | refine wq_block_exit rfl ?_ | refine wc_condF rfl ?_)
          refine wq_roundK (((i + 1, f, n), (S', D', got'), ((A', c'), E'), (A4, c4, E4, S4, W4))) ?_ ?_ (by repeat (first | exact trivial | refine ⟨rfl, ?_⟩)) (by first | exact catEq | exact rfl)
          · refine ⟨by dsimp only; omega, hb', hq', ?_⟩
            dsimp only
            rcases ha' with ⟨p1, p2⟩ | ⟨p1, p2, p3, p4⟩
            · refine .inr ⟨p1, ?_⟩
              rcases p2 with p2 | p2
              · exact .inl p2
              · first
                | exact .inr (by omega)
                | exact absurd p2 (by decide)
            · first
              | exact .inl ⟨p1, _, p3, p4, by omega, by omega, by omega⟩
              | exact absurd p2 (by decide)
          · dsimp only; omega
    · have hbI := hb
      have hkI := hk
      have heI := hen
      repeat (first | (apply wx_val; (first | exact v_move rfl | exact v_len rfl rfl | exact v_eq rfl rfl | exact v_pickF rfl rfl); rfl) | refine wx_no rfl rfl rfl ?_ | refine wc_seq ?_ | refine wc_region ?_ | refine wx_nil ?_ | refine wq_next ?_ | refine wc_skip ?_ | refine wc_condF rfl ?_)
      refine wc_not rfl (decide_eq_false (by omega)) ?_
      repeat (first | (apply wx_val; (first | exact v_move rfl | exact v_len rfl rfl | exact v_gt rfl rfl); rfl) | refine wc_seq ?_ | refine wc_region ?_ | refine wx_nil ?_ | refine wq_next ?_ | refine wc_skip ?_)
      refine wc_not rfl (decide_eq_false (by omega)) ?_
      repeat (first | (apply wx_val; (first | exact v_assign rfl); rfl) | refine wc_seq ?_ | refine wc_region ?_ | refine wx_nil ?_ | refine wq_next ?_ | refine wc_block ?_ | refine wc_skip ?_)
      refine wc_loopK (ι := (Bool × Int) × PSt) [0, 1, 5, 6, 7, 8, 9, 12] (fun q => [(13, .bool q.1.1), (11, .int .i64 q.1.2), (10, .slice q.2.2.2.1 q.2.1.2.2.length q.2.2.2.2.1)]) (fun q => [scB g q.2.2.1.1.1 q.2.2.1.1.2 q.2.1.1, q.2.2.1.2, q.2.2.2.2.2.1, q.2.2.2.2.2.2.1]) (fun q => RestO q.2.1.1 q.2.2.1.2 q.2.2.1.1 ∧ ListO q.2.1.2.2 q.2.2.2 ∧ ((q.1.1 = true ∧ q.1.2 = 0 ∧ Cuts d q.2.1.1 q.2.1.2.1 q.2.1.2.2 n ∧ q.2.1.2.1.ended = false) ∨ (q.1.1 = false ∧ After d false q.2.1.1 q.2.1.2.1 q.2.1.2.2 n q.1.2))) (fun q => if q.1.1 then 4098 - q.2.1.2.1.count else 0) (((true, 0), (S, D, got), ((A, c), E), (A3, c3, E3, S3, W3))) rfl ?_ (by repeat (first | exact trivial | refine ⟨rfl, ?_⟩)) ?_
      · exact ⟨hbI, hq, .inl ⟨rfl, rfl, hkI, heI⟩⟩
      rintro ⟨⟨more, f⟩, ⟨S', D', got'⟩, ⟨⟨A', c'⟩, E'⟩, A4, c4, E4, S4, W4⟩ ⟨hb', hq', hok⟩
      try dsimp only
      refine wc_fcat ?_
      refine wc_cat ?_
      dsimp only at hb' hq' hok ⊢
      rcases hok with ⟨rfl, rfl, hk', he'⟩ | ⟨rfl, ha'⟩
      · obtain ⟨y1, y2, y3, y4, y5⟩ := hk'.bounds
        have hqb := hq'.buf
        dsimp only at hqb
        repeat (first | (apply wx_val; (first | exact v_move rfl | exact v_len rfl rfl | exact v_le rfl rfl | exact v_pickT rfl rfl); rfl) | refine wx_ungd rfl rfl ?_ | refine wc_seq ?_ | refine wc_region ?_ | refine wx_nil ?_ | refine wq_next ?_)
        refine wc_yes rfl (decide_eq_true (by omega)) ?_
        repeat (first | (apply wx_val; (first | exact v_move rfl); rfl) | refine wc_seq ?_ | refine wc_region ?_ | refine wq_next ?_ | refine wc_block ?_ | refine wc_skip ?_)
        refine wl_callT (fun w' hr ho => scNext_spec (A := A') (c := c') (S := S') (E := E') hb' (by omega) (by omega) (by omega) w' ho) rfl rfl rfl ?_
        rintro ⟨⟨A5, c5⟩, ⟨A6, c6, E6⟩⟩ ⟨hb5, hb6⟩
        obtain ⟨x1, x2⟩ := next_rel hk'.keeps
        dsimp only at hb5 hb6 ⊢
        rw [x1] at hb6 ⊢
        repeat (first | (apply wx_val; (first | exact v_move rfl | exact v_extract rfl rfl); rfl) | refine wx_cat ?_)
        refine wl_alloc rfl rfl (fun g14 => ?_)
        repeat (first | (apply wx_val; (first | exact v_move rfl | exact v_assign rfl); rfl) | refine wc_seq ?_ | refine wc_region ?_ | refine wx_nil ?_ | refine wq_next ?_ | refine wc_setn ?_ | refine wl_stAT rfl rfl (by rfl) (by rfl) (by exact .inl (Nat.le_refl _)) rfl ?_)
        rcases hk'.step with ⟨m1, m2, m3, m4, m5⟩ | ⟨m1, m3⟩
        · rw [m1, m2]
          repeat (first | (apply wx_val; (first | exact v_move rfl | exact v_ldAT rfl (by rfl)); rfl) | refine wc_region ?_ | refine wc_condT rfl ?_)
          refine wl_lit rfl rfl rfl rfl rfl (by decide) rfl (fun g9 => ?_)
          refine wl_app1T (news := D'.next.1.1.cells A6 c6) rfl hqb rfl rfl rfl rfl (by omega) rfl (fun A7 c7 E7 hb7 => ?_)
          rw [show got'.length + 1 = (got' ++ [D'.next.1.1]).length by simp]
          repeat (first | (apply wx_val; (first | exact v_move rfl | exact v_assign rfl); rfl) | refine wc_region ?_ | refine wx_nil ?_ | refine wq_next ?_ | refine wq_block ?_)
          refine wq_join S4 E6 ?_
          refine wq_roundK (((true, 0), (S'.next.2, D'.next.2, got' ++ [D'.next.1.1]), ((A5, c5), E'), (A7, c7, E7, S4 ++ E6, W4 ++ [D'.next.1.1.w A6 c6]))) ?_ ?_ (by repeat (first | exact trivial | refine ⟨rfl, ?_⟩)) (by first | exact catEq | exact rfl)
          · exact ⟨hb5, hq'.snoc D'.next.1.1 hb6 hb7, .inl ⟨rfl, rfl, m3, m4.trans he'⟩⟩
          · dsimp only
            rw [if_pos rfl, if_pos rfl]
            omega
        · rw [m1]
          repeat (first | (apply wx_val; (first | exact v_move rfl | exact v_assign rfl); rfl) | refine wc_region ?_ | refine wx_nil ?_ | refine wq_next ?_ | refine wc_skip ?_ | refine wq_block ?_ | refine wc_condF rfl ?_)
          refine wq_roundK (((false, D'.next.1.2.2), (S'.next.2, D'.next.2, got'), ((A5, c5), E'), (A4, c4, E4, S4, W4))) ?_ ?_ (by repeat (first | exact trivial | refine ⟨rfl, ?_⟩)) (by first | exact catEq | exact rfl)
          · refine ⟨hb5, hq', .inr ⟨rfl, ?_⟩⟩
            dsimp only
            rcases m3 with ⟨p1, p2⟩ | ⟨p1, p2, p3, p4⟩ | ⟨p1, p2, p3⟩
            · exact .inl ⟨p2, .inl p1⟩
            · exact .inr ⟨p1, he'.symm.trans p2, p3, p4⟩
            · rw [p1]
              exact .inl ⟨p3, .inr (he'.symm.trans p2)⟩
          · dsimp only
            rw [if_pos rfl, if_neg (by decide)]
            omega
      · repeat (first | (apply wx_val; (first | exact v_move rfl | exact v_assign rfl | exact v_addi rfl rfl (by omega) | exact v_pickF rfl rfl); rfl) | refine wx_no rfl rfl rfl ?_ | refine wc_seq ?_ | refine wc_region ?_ | refine wx_nil ?_ | refine wq_next ?_ | refine wc_exit ?_ | refine wq_then_exit ?_ | refine wq_block ?_ | refine wq_block_exit rfl ?_ | refine wc_condF rfl ?_)
        refine wq_roundK (((i + 1, f, n), (S', D', got'), ((A', c'), E'), (A4, c4, E4, S4, W4))) ?_ ?_ (by repeat (first | exact trivial | refine ⟨rfl, ?_⟩)) (by first | exact catEq | exact rfl)
        · refine ⟨by dsimp only; omega, hb', hq', ?_⟩
          dsimp only
          rcases ha' with ⟨p1, p2⟩ | ⟨p1, p2, p3, p4⟩
          · refine .inr ⟨p1, ?_⟩
            rcases p2 with p2 | p2
            · exact .inl p2
            · first
              | exact .inr (by omega)
              | exact absurd p2 (by decide)
          · first
            | exact .inl ⟨p1, _, p3, p4, by omega, by omega, by omega⟩
            | exact absurd p2 (by decide)
        · dsimp only; omega
  · refine wx_gset false rfl rfl (decide_eq_false (by omega)) ?_
    repeat (first | (apply wx_val; (first | exact v_move rfl | exact v_len rfl rfl | exact v_eq rfl rfl | exact v_pickF rfl rfl); rfl) | refine wx_no rfl rfl rfl ?_ | refine wc_seq ?_ | refine wc_region ?_ | refine wx_nil ?_ | refine wq_next ?_ | refine wc_skip ?_ | refine wc_condF rfl ?_)
    by_cases hik : i = k.length
    · obtain rfl := hn1 (by omega)
      refine wc_yes rfl (decide_eq_true (by omega)) ?_
      obtain ⟨l, hlm⟩ : ∃ l, l = d.drop n := ⟨_, rfl⟩
      have hll : l.length = d.length - n := by rw [hlm, List.length_drop]
      repeat (first | (apply wx_val; (first | exact v_move rfl); rfl) | refine wc_region ?_)
      refine wl_lit0 rfl rfl (fun g87 E0 hb0 => ?_)
      repeat (first | (apply wx_val; (first | exact v_move rfl); rfl))
      (try refine wx_ungd rfl rfl ?_)
      apply wx_val
      exact v_sliceN (l := n) (h := d.length) (m := l.length) rfl rfl rfl rfl (by omega) hc (by omega)
      rfl
      refine wl_appT rfl hb0 rfl rfl (fun w' hr => src_slice (m := l.length) (xs := bys l) rfl (by
        have := (vw_cut (sz := 1) (c := c0) (hv.keep hr) (l := n) (h := d.length) (by omega) (by simp) (by omega)).rd
        have e : (d.length - n) * 1 = (bys (d.drop n)).length := by simp
        rw [show (bys d).drop (n * 1) = bys (d.drop n) by simp [bys, List.map_drop], e, List.take_length] at this
        rw [hlm]
        exact this) (by simp) (by decide) (one_bys _)) (by omega) rfl (fun A2 c2 E2 hb2 => ?_)
      simp only [Nat.zero_add, List.nil_append] at hb2 ⊢
      refine wl_callT (M1 := [scB g A c S, E]) (fun w' hr ho => scFeed_spec (A := A) (c := c) (S := S) (E := E) (l := l) hb (by omega) w' (hb2.vwO hr) ho) rfl rfl rfl ?_
      rintro ⟨A5, c5, E5⟩ hbI
      dsimp only at hbI ⊢
      obtain ⟨hkI, heI⟩ := hk.feed (m := d.length - n) hen (by omega) (l := l) (by rw [hlm, List.take_of_length_le (by rw [List.length_drop]; omega)])
      rw [show n + (d.length - n) = d.length by omega] at hkI
      repeat (first | (apply wx_val; (first | exact v_move rfl | exact v_len rfl rfl | exact v_gt rfl rfl); rfl) | refine wc_seq ?_ | refine wc_region ?_ | refine wx_nil ?_ | refine wq_next ?_ | refine wc_cat ?_)
      refine wc_not rfl (decide_eq_false (by omega)) ?_
      repeat (first | (apply wx_val; (first | exact v_assign rfl); rfl) | refine wc_seq ?_ | refine wc_region ?_ | refine wx_nil ?_ | refine wq_next ?_ | refine wc_block ?_ | refine wc_skip ?_)
      generalize S.feed l = S1 at hbI hkI ⊢
      generalize D.feed l = D1 at hkI heI
      refine wc_loopK (ι := (Bool × Int) × PSt) [0, 1, 5, 6, 7, 8, 9, 12] (fun q => [(13, .bool q.1.1), (11, .int .i64 q.1.2), (10, .slice q.2.2.2.1 q.2.1.2.2.length q.2.2.2.2.1)]) (fun q => [scB g q.2.2.1.1.1 q.2.2.1.1.2 q.2.1.1, q.2.2.1.2, q.2.2.2.2.2.1, q.2.2.2.2.2.2.1]) (fun q => RestO q.2.1.1 q.2.2.1.2 q.2.2.1.1 ∧ ListO q.2.1.2.2 q.2.2.2 ∧ ((q.1.1 = true ∧ q.1.2 = 0 ∧ Cuts d q.2.1.1 q.2.1.2.1 q.2.1.2.2 d.length ∧ q.2.1.2.1.ended = false) ∨ (q.1.1 = false ∧ After d false q.2.1.1 q.2.1.2.1 q.2.1.2.2 d.length q.1.2))) (fun q => if q.1.1 then 4098 - q.2.1.2.1.count else 0) (((true, 0), (S1, D1, got), ((A5, c5), E5), (A3, c3, E3, S3, W3))) rfl ?_ (by repeat (first | exact trivial | refine ⟨rfl, ?_⟩)) ?_
      · exact ⟨hbI, hq, .inl ⟨rfl, rfl, hkI, heI⟩⟩
      rintro ⟨⟨more, f⟩, ⟨S', D', got'⟩, ⟨⟨A', c'⟩, E'⟩, A4, c4, E4, S4, W4⟩ ⟨hb', hq', hok⟩
      try dsimp only
      refine wc_fcat ?_
      refine wc_cat ?_
      dsimp only at hb' hq' hok ⊢
      rcases hok with ⟨rfl, rfl, hk', he'⟩ | ⟨rfl, ha'⟩
      · obtain ⟨y1, y2, y3, y4, y5⟩ := hk'.bounds
        have hqb := hq'.buf
        dsimp only at hqb
        repeat (first | (apply wx_val; (first | exact v_move rfl | exact v_len rfl rfl | exact v_le rfl rfl | exact v_pickT rfl rfl); rfl) | refine wx_ungd rfl rfl ?_ | refine wc_seq ?_ | refine wc_region ?_ | refine wx_nil ?_ | refine wq_next ?_)
        refine wc_yes rfl (decide_eq_true (by omega)) ?_
        repeat (first | (apply wx_val; (first | exact v_move rfl); rfl) | refine wc_seq ?_ | refine wc_region ?_ | refine wq_next ?_ | refine wc_block ?_ | refine wc_skip ?_)
        refine wl_callT (fun w' hr ho => scNext_spec (A := A') (c := c') (S := S') (E := E') hb' (by omega) (by omega) (by omega) w' ho) rfl rfl rfl ?_
        rintro ⟨⟨A5, c5⟩, ⟨A6, c6, E6⟩⟩ ⟨hb5, hb6⟩
        obtain ⟨x1, x2⟩ := next_rel hk'.keeps
        dsimp only at hb5 hb6 ⊢
        rw [x1] at hb6 ⊢
        repeat (first | (apply wx_val; (first | exact v_move rfl | exact v_extract rfl rfl); rfl) | refine wx_cat ?_)
        refine wl_alloc rfl rfl (fun g14 => ?_)
        repeat (first | (apply wx_val; (first | exact v_move rfl | exact v_assign rfl); rfl) | refine wc_seq ?_ | refine wc_region ?_ | refine wx_nil ?_ | refine wq_next ?_ | refine wc_setn ?_ | refine wl_stAT rfl rfl (by rfl) (by rfl) (by exact .inl (Nat.le_refl _)) rfl ?_)
        rcases hk'.step with ⟨m1, m2, m3, m4, m5⟩ | ⟨m1, m3⟩
        · rw [m1, m2]
          repeat (first | (apply wx_val; (first | exact v_move rfl | exact v_ldAT rfl (by rfl)); rfl) | refine wc_region ?_ | refine wc_condT rfl ?_)
          refine wl_lit rfl rfl rfl rfl rfl (by decide) rfl (fun g9 => ?_)
          refine wl_app1T (news := D'.next.1.1.cells A6 c6) rfl hqb rfl rfl rfl rfl (by omega) rfl (fun A7 c7 E7 hb7 => ?_)
          rw [show got'.length + 1 = (got' ++ [D'.next.1.1]).length by simp]
          repeat (first | (apply wx_val; (first | exact v_move rfl | exact v_assign rfl); rfl) | refine wc_region ?_ | refine wx_nil ?_ | refine wq_next ?_ | refine wq_block ?_)
          refine wq_join S4 E6 ?_
          refine wq_roundK (((true, 0), (S'.next.2, D'.next.2, got' ++ [D'.next.1.1]), ((A5, c5), E'), (A7, c7, E7, S4 ++ E6, W4 ++ [D'.next.1.1.w A6 c6]))) ?_ ?_ (by repeat (first | exact trivial | refine ⟨rfl, ?_⟩)) (by first | exact catEq | exact rfl)
          · exact ⟨hb5, hq'.snoc D'.next.1.1 hb6 hb7, .inl ⟨rfl, rfl, m3, m4.trans he'⟩⟩
          · dsimp only
            rw [if_pos rfl, if_pos rfl]
            omega
        · rw [m1]
          repeat (first | (apply wx_val; (first | exact v_move rfl | exact v_assign rfl); rfl) | refine wc_region ?_ | refine wx_nil ?_ | refine wq_next ?_ | refine wc_skip ?_ | refine wq_block ?_ | refine wc_condF rfl ?_)
          refine wq_roundK (((false, D'.next.1.2.2), (S'.next.2, D'.next.2, got'), ((A5, c5), E'), (A4, c4, E4, S4, W4))) ?_ ?_ (by repeat (first | exact trivial | refine ⟨rfl, ?_⟩)) (by first | exact catEq | exact rfl)
          · refine ⟨hb5, hq', .inr ⟨rfl, ?_⟩⟩
            dsimp only
            rcases m3 with ⟨p1, p2⟩ | ⟨p1, p2, p3, p4⟩ | ⟨p1, p2, p3⟩
            · exact .inl ⟨p2, .inl p1⟩
            · exact .inr ⟨p1, he'.symm.trans p2, p3, p4⟩
            · rw [p1]
              exact .inl ⟨p3, .inr (he'.symm.trans p2)⟩
          · dsimp only
            rw [if_pos rfl, if_neg (by decide)]
            omega
      · repeat (first | (apply wx_val; (first | exact v_move rfl | exact v_assign rfl | exact v_addi rfl rfl (by omega) | exact v_pickF rfl rfl); rfl) | refine wx_no rfl rfl rfl ?_ | refine wc_seq ?_ | refine wc_region ?_ | refine wx_nil ?_ | refine wq_next ?_ | refine wc_exit ?_ | refine wq_then_exit ?_ | refine wq_block ?_ | refine wq_block_exit rfl ?_ | refine wc_condF rfl ?_)
        refine wq_roundK (((i + 1, f, n), (S', D', got'), ((A', c'), E'), (A4, c4, E4, S4, W4))) ?_ ?_ (by repeat (first | exact trivial | refine ⟨rfl, ?_⟩)) (by first | exact catEq | exact rfl)
        · refine ⟨by dsimp only; omega, hb', hq', ?_⟩
          dsimp only
          rcases ha' with ⟨p1, p2⟩ | ⟨p1, p2, p3, p4⟩
          · refine .inr ⟨p1, ?_⟩
            rcases p2 with p2 | p2
            · exact .inl p2
            · first
              | exact .inr (by omega)
              | exact absurd p2 (by decide)
          · first
            | exact .inl ⟨p1, _, p3, p4, by omega, by omega, by omega⟩
            | exact absurd p2 (by decide)
        · dsimp only; omega
    · have hil : i = k.length + 1 := by omega
      obtain rfl := hn2 (by omega)
      refine wc_not rfl (decide_eq_false (by omega)) ?_
      repeat (first | (apply wx_val; (first | exact v_move rfl | exact v_len rfl rfl | exact v_gt rfl rfl); rfl) | refine wc_seq ?_ | refine wc_region ?_ | refine wx_nil ?_ | refine wq_next ?_ | refine wc_skip ?_)
      refine wc_yes rfl (decide_eq_true (by omega)) ?_
      repeat (first | (apply wx_val; (first | exact v_move rfl); rfl) | refine wc_region ?_)
      refine wl_callT (fun w' hr ho => scEnd_spec (A := A) (c := c) (S := S) w' ho) rfl rfl rfl ?_
      rintro - -
      have hkI := hk.stop
      have hbI : RestO { S with ended := true } E (A, c) := hb.same rfl
      have heI : ({ D with ended := true } : Dsc).ended = true := rfl
      generalize ({ S with ended := true } : Scn) = S1 at hbI hkI ⊢
      generalize ({ D with ended := true } : Dsc) = D1 at hkI heI
      repeat (first | (apply wx_val; (first | exact v_assign rfl); rfl) | refine wc_seq ?_ | refine wc_region ?_ | refine wx_nil ?_ | refine wq_next ?_ | refine wc_block ?_ | refine wc_cat ?_)
      refine wc_loopK (ι := (Bool × Int) × PSt) [0, 1, 5, 6, 7, 8, 9, 12] (fun q => [(13, .bool q.1.1), (11, .int .i64 q.1.2), (10, .slice q.2.2.2.1 q.2.1.2.2.length q.2.2.2.2.1)]) (fun q => [scB g q.2.2.1.1.1 q.2.2.1.1.2 q.2.1.1, q.2.2.1.2, q.2.2.2.2.2.1, q.2.2.2.2.2.2.1]) (fun q => RestO q.2.1.1 q.2.2.1.2 q.2.2.1.1 ∧ ListO q.2.1.2.2 q.2.2.2 ∧ ((q.1.1 = true ∧ q.1.2 = 0 ∧ Cuts d q.2.1.1 q.2.1.2.1 q.2.1.2.2 d.length ∧ q.2.1.2.1.ended = true) ∨ (q.1.1 = false ∧ After d true q.2.1.1 q.2.1.2.1 q.2.1.2.2 d.length q.1.2))) (fun q => if q.1.1 then 4098 - q.2.1.2.1.count else 0) (((true, 0), (S1, D1, got), ((A, c), E), (A3, c3, E3, S3, W3))) rfl ?_ (by repeat (first | exact trivial | refine ⟨rfl, ?_⟩)) ?_
      · exact ⟨hbI, hq, .inl ⟨rfl, rfl, hkI, heI⟩⟩
      rintro ⟨⟨more, f⟩, ⟨S', D', got'⟩, ⟨⟨A', c'⟩, E'⟩, A4, c4, E4, S4, W4⟩ ⟨hb', hq', hok⟩
      try dsimp only
      refine wc_fcat ?_
      refine wc_cat ?_
      dsimp only at hb' hq' hok ⊢
      rcases hok with ⟨rfl, rfl, hk', he'⟩ | ⟨rfl, ha'⟩
      · obtain ⟨y1, y2, y3, y4, y5⟩ := hk'.bounds
        have hqb := hq'.buf
        dsimp only at hqb
        repeat (first | (apply wx_val; (first | exact v_move rfl | exact v_len rfl rfl | exact v_le rfl rfl | exact v_pickT rfl rfl); rfl) | refine wx_ungd rfl rfl ?_ | refine wc_seq ?_ | refine wc_region ?_ | refine wx_nil ?_ | refine wq_next ?_)
        refine wc_yes rfl (decide_eq_true (by omega)) ?_
        repeat (first | (apply wx_val; (first | exact v_move rfl); rfl) | refine wc_seq ?_ | refine wc_region ?_ | refine wq_next ?_ | refine wc_block ?_ | refine wc_skip ?_)
        refine wl_callT (fun w' hr ho => scNext_spec (A := A') (c := c') (S := S') (E := E') hb' (by omega) (by omega) (by omega) w' ho) rfl rfl rfl ?_
        rintro ⟨⟨A5, c5⟩, ⟨A6, c6, E6⟩⟩ ⟨hb5, hb6⟩
        obtain ⟨x1, x2⟩ := next_rel hk'.keeps
        dsimp only at hb5 hb6 ⊢
        rw [x1] at hb6 ⊢
        repeat (first | (apply wx_val; (first | exact v_move rfl | exact v_extract rfl rfl); rfl) | refine wx_cat ?_)
        refine wl_alloc rfl rfl (fun g14 => ?_)
        repeat (first | (apply wx_val; (first | exact v_move rfl | exact v_assign rfl); rfl) | refine wc_seq ?_ | refine wc_region ?_ | refine wx_nil ?_ | refine wq_next ?_ | refine wc_setn ?_ | refine wl_stAT rfl rfl (by rfl) (by rfl) (by exact .inl (Nat.le_refl _)) rfl ?_)
        rcases hk'.step with ⟨m1, m2, m3, m4, m5⟩ | ⟨m1, m3⟩
        · rw [m1, m2]
          repeat (first | (apply wx_val; (first | exact v_move rfl | exact v_ldAT rfl (by rfl)); rfl) | refine wc_region ?_ | refine wc_condT rfl ?_)
          refine wl_lit rfl rfl rfl rfl rfl (by decide) rfl (fun g9 => ?_)
          refine wl_app1T (news := D'.next.1.1.cells A6 c6) rfl hqb rfl rfl rfl rfl (by omega) rfl (fun A7 c7 E7 hb7 => ?_)
          rw [show got'.length + 1 = (got' ++ [D'.next.1.1]).length by simp]
          repeat (first | (apply wx_val; (first | exact v_move rfl | exact v_assign rfl); rfl) | refine wc_region ?_ | refine wx_nil ?_ | refine wq_next ?_ | refine wq_block ?_)
          refine wq_join S4 E6 ?_
          refine wq_roundK (((true, 0), (S'.next.2, D'.next.2, got' ++ [D'.next.1.1]), ((A5, c5), E'), (A7, c7, E7, S4 ++ E6, W4 ++ [D'.next.1.1.w A6 c6]))) ?_ ?_ (by repeat (first | exact trivial | refine ⟨rfl, ?_⟩)) (by first | exact catEq | exact rfl)
          · exact ⟨hb5, hq'.snoc D'.next.1.1 hb6 hb7, .inl ⟨rfl, rfl, m3, m4.trans he'⟩⟩
          · dsimp only
            rw [if_pos rfl, if_pos rfl]
            omega
        · rw [m1]
          repeat (first | (apply wx_val; (first | exact v_move rfl | exact v_assign rfl); rfl) | refine wc_region ?_ | refine wx_nil ?_ | refine wq_next ?_ | refine wc_skip ?_ | refine wq_block ?_ | refine wc_condF rfl ?_)
          refine wq_roundK (((false, D'.next.1.2.2), (S'.next.2, D'.next.2, got'), ((A5, c5), E'), (A4, c4, E4, S4, W4))) ?_ ?_ (by repeat (first | exact trivial | refine ⟨rfl, ?_⟩)) (by first | exact catEq | exact rfl)
          · refine ⟨hb5, hq', .inr ⟨rfl, ?_⟩⟩
            dsimp only
            rcases m3 with ⟨p1, p2⟩ | ⟨p1, p2, p3, p4⟩ | ⟨p1, p2, p3⟩
            · exact .inl ⟨p2, .inl p1⟩
            · exact .inr ⟨p1, he'.symm.trans p2, p3, p4⟩
            · rw [p1]
              exact .inl ⟨p3, .inr (he'.symm.trans p2)⟩
          · dsimp only
            rw [if_pos rfl, if_neg (by decide)]
            omega
      · repeat (first | (apply wx_val; (first | exact v_move rfl | exact v_assign rfl | exact v_addi rfl rfl (by omega) | exact v_pickF rfl rfl); rfl) | refine wx_no rfl rfl rfl ?_ | refine wc_seq ?_ | refine wc_region ?_ | refine wx_nil ?_ | refine wq_next ?_ | refine wc_exit ?_ | refine wq_then_exit ?_ | refine wq_block ?_ | refine wq_block_exit rfl ?_ | refine wc_condF rfl ?_)
        refine wq_roundK (((i + 1, f, fr), (S', D', got'), ((A', c'), E'), (A4, c4, E4, S4, W4))) ?_ ?_ (by repeat (first | exact trivial | refine ⟨rfl, ?_⟩)) (by first | exact catEq | exact rfl)
        · refine ⟨by dsimp only; omega, hb', hq', ?_⟩
          dsimp only
          rcases ha' with ⟨p1, p2⟩ | ⟨p1, p2, p3, p4⟩
          · refine .inr ⟨p1, ?_⟩
            rcases p2 with p2 | p2
            · exact .inl p2
            · first
              | exact .inr (by omega)
              | exact absurd p2 (by decide)
          · first
            | exact .inl ⟨p1, _, p3, p4, by omega, by omega, by omega⟩
            | exact absurd p2 (by decide)
        · dsimp only; omega
end Go.Proofs.Ytjfjleejbbmmaaa
