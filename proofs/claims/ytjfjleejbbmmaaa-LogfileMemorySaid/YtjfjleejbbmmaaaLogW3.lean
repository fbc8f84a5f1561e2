/- The scanner's steps. -/
import Derived.Test.YtjfjleejbbmmaaaLogT
import Derived.Test.YtjfjleejbbmmaaaLogB
import Derived.Test.YtjfjleejbbmmaaaWire7
set_option linter.unusedVariables false
set_option linter.unusedSimpArgs false
namespace Go.Proofs.Ytjfjleejbbmmaaa
open Go
set_option maxRecDepth 20000
set_option maxHeartbeats 2000000
attribute [local irreducible] WX WC WQ Val VCall
def scC (S : Scn) (A : Option Addr) (c : Nat) : List Value := [.slice A S.rest.length c, .int .i64 (S.at_ : Nat), .int .i64 (S.state : Nat), .int .i64 (S.count : Nat), .bool S.ended, .int .i64 S.fault]
abbrev scB (g : Nat) (A : Option Addr) (c : Nat) (S : Scn) : Seg := [(g, .cells (scC S A c).toArray 75 (0, 0))]
/-- where the rest lies -/
abbrev RestO (S : Scn) (E : Seg) (q : Option Addr × Nat) : Prop := BufR 5 1 q.1 S.rest.length q.2 (bys S.rest) E
section sc
variable {g c : Nat} {A : Option Addr} {S : Scn} {E : Seg}
theorem scNew_spec (w : World) : Calls Try.prog 22 #[] w (Ret (β := Nat) w (ids []) (fun g => .pointer (some ⟨g, 0, none⟩)) (fun g => [scB g none 0 Scn.new]) (fun _ => True)) := by
  refine go [] [] Try.func22 Try.ntmps22 rfl rfl (own_nil w) ?_
  repeat (first | (apply wx_val; (first | exact v_assign rfl); rfl) | refine wc_seq ?_ | refine wc_region ?_ | refine wx_nil ?_ | refine wq_next ?_)
  (try refine wx_ungd rfl rfl ?_)
  apply wx_val
  exact v_build (cs := (scC Scn.new none 0).toArray) rfl (by kernel_rfl)
  rfl
  refine wl_boxA (l := scC Scn.new none 0) rfl rfl (fun g => ?_)
  repeat (first | (apply wx_val; (first | exact v_assign rfl); rfl) | refine wx_nil ?_ | refine wq_next ?_ | refine wc_ret ?_)
  exact wq_ret1T g rfl rfl trivial rfl
theorem scFail_spec (p : Nat) (e : Int) (hp : S.at_ + p ≤ 4611686018427387904) (w : World) (ho : Own w [scB g A c S]) :
    Calls Try.prog 40 #[.pointer (some ⟨g, 0, none⟩), .int .i64 (p : Nat), .int .i64 e] w (Ret (β := Unit) w (ids [scB g A c S]) (fun _ => .int .i64 e) (fun _ => [scB g A c (S.fail p e)]) (fun _ => True)) := by
  refine go [.pointer (some ⟨g, 0, none⟩), .int .i64 (p : Nat), .int .i64 e] [scB g A c S] Try.func40 Try.ntmps40 rfl rfl ho ?_
  repeat (first | (apply wx_val; (first | exact v_move rfl | exact v_assign rfl | exact v_nil rfl | exact v_faddr rfl rfl | exact v_ldT rfl rfl rfl (by rfl) | exact v_addi rfl rfl (by omega)); rfl) | refine wc_seq ?_ | refine wc_region ?_ | refine wx_nil ?_ | refine wq_next ?_ | refine wc_ret ?_ | refine wx_setn ?_ | refine wq_setn ?_ | refine wl_storeT rfl rfl rfl (by rfl) (by exact .inl (Nat.le_refl _)) rfl ?_)
  refine wq_blk g (scC (S.fail p e) A c) (by rfl) ?_
  refine wq_setn ?_
  exact wq_ret1T () rfl rfl trivial rfl
theorem scShort_spec (p : Nat) (hp : S.at_ + p ≤ 4611686018427387904) (w : World) (ho : Own w [scB g A c S]) :
    Calls Try.prog 55 #[.pointer (some ⟨g, 0, none⟩), .int .i64 (p : Nat)] w (Ret (β := Unit) w (ids [scB g A c S]) (fun _ => .int .i64 (S.short p).1) (fun _ => [scB g A c (S.short p).2]) (fun _ => True)) := by
  refine go [.pointer (some ⟨g, 0, none⟩), .int .i64 (p : Nat)] [scB g A c S] Try.func55 Try.ntmps55 rfl rfl ho ?_
  unfold Scn.short
  repeat (first | (apply wx_val; (first | exact v_move rfl | exact v_assign rfl | exact v_nil rfl | exact v_faddr rfl rfl | exact v_ldT rfl rfl rfl (by rfl)); rfl) | refine wc_seq ?_ | refine wc_region ?_ | refine wx_nil ?_ | refine wq_next ?_)
  refine wc_bool rfl (fun he => ?_) (fun he => ?_)
  · rw [if_pos he]
    repeat (first | (apply wx_val; (first | exact v_move rfl); rfl) | refine wc_seq ?_ | refine wc_region ?_)
    refine wl_callT (fun w' hr ho => scFail_spec (A := A) (c := c) (S := S) p 51 hp w' ho) rfl rfl rfl ?_
    rintro - -
    repeat (first | (apply wx_val; (first | exact v_assign rfl); rfl) | refine wx_nil ?_ | refine wq_next ?_ | refine wc_ret ?_ | refine wq_then_ret ?_ | refine wq_cat ?_)
    exact wq_ret1T () rfl rfl trivial rfl
  · rw [if_neg (by rw [he]; decide)]
    repeat (first | (apply wx_val; (first | exact v_assign rfl); rfl) | refine wc_seq ?_ | refine wc_region ?_ | refine wx_nil ?_ | refine wq_next ?_ | refine wc_ret ?_ | refine wc_skip ?_)
    exact wq_ret1T () rfl rfl trivial rfl
theorem scRead_spec (n : Nat) (hn : n ≤ S.rest.length) (hc : S.rest.length ≤ c ∧ c ≤ maxLen) (hp : S.at_ + n ≤ 4611686018427387904) (w : World) (ho : Own w [scB g A c S]) :
    Calls Try.prog 56 #[.pointer (some ⟨g, 0, none⟩), .int .i64 (n : Nat)] w (Ret (β := Unit) w (ids [scB g A c S]) (fun _ => .tuple #[]) (fun _ => [scB g (cutA A n S.rest.length c 1) (c - n) (S.read n)]) (fun _ => True)) := by
  refine go [.pointer (some ⟨g, 0, none⟩), .int .i64 (n : Nat)] [scB g A c S] Try.func56 Try.ntmps56 rfl rfl ho ?_
  repeat (first | (apply wx_val; (first | exact v_move rfl | exact v_nil rfl | exact v_faddr rfl rfl | exact v_ldT rfl rfl rfl (by rfl) | exact v_addi rfl rfl (by omega)); rfl) | refine wc_seq ?_ | refine wc_region ?_ | refine wx_nil ?_ | refine wq_next ?_ | refine wx_setn ?_ | refine wl_storeT rfl rfl rfl (by rfl) (by exact .inl (Nat.le_refl _)) rfl ?_)
  (try refine wx_ungd rfl rfl ?_)
  apply wx_val
  exact v_sliceN (l := n) (h := S.rest.length) (m := (S.rest.drop n).length) rfl rfl rfl rfl ⟨hn, hc.1⟩ hc.1 (by simp)
  rfl
  repeat (first | (apply wx_val; (first | exact v_nil rfl | exact v_faddr rfl rfl); rfl) | refine wx_nil ?_ | refine wq_setn ?_ | refine wl_storeT rfl rfl rfl (by rfl) (by exact .inl (Nat.le_refl _)) rfl ?_)
  refine wq_normR ?_
  refine wq_blk g (scC (S.read n) (cutA A n S.rest.length c 1) (c - n)) (by rfl) ?_
  refine wq_setn ?_
  exact wq_ret0T () rfl rfl trivial
theorem win_number (d : List UInt8) (p : Nat) (most : Int) : (∃ n q : Nat, numP d p most = .ok (n, q) ∧ cNumber ((d.drop p).take 8) 0 0 most = (((n : Nat) : Int), 0, q - p, 0)) ∨ (∃ e, numP d p most = .error ((p : Int), e) ∧ e ≠ 0 ∧ cNumber ((d.drop p).take 8) 0 0 most = (0, e, 0, e)) := by
  unfold numP cNumber
  rw [List.drop_zero, scan_win, if_neg (show ¬ ((0 : Int) ≠ 0) by simp)]
  by_cases h1 : (scanL 0 0 (d.drop p)).2.2 ≠ 0
  · rw [if_pos h1, if_pos h1]; exact .inr ⟨_, rfl, h1, rfl⟩
  · rw [if_neg h1, if_neg h1]
    by_cases h2 : most < (scanL 0 0 (d.drop p)).1
    · rw [if_pos h2, if_pos h2]; exact .inr ⟨53, rfl, by decide, rfl⟩
    · rw [if_neg h2, if_neg h2]
      refine .inl ⟨_, _, rfl, ?_⟩
      rw [Nat.add_sub_cancel_left, Nat.zero_add]
theorem scNumber_spec (p : Nat) (most : Int) (hb : RestO S E (A, c)) (hn : p ≤ S.rest.length) (hp : S.at_ + p ≤ 4611686018427387904) (hl : S.rest.length ≤ 140737488355328) (w : World) (ho : Own w [scB g A c S, E]) :
    Calls Try.prog 57 #[.pointer (some ⟨g, 0, none⟩), .int .i64 (p : Nat), .int .i64 most] w (Ret (β := Unit) w (ids [scB g A c S, E]) (fun _ => .tuple #[.int .i64 ((S.number p most).1.1 : Nat), .int .i64 ((S.number p most).1.2.1 : Nat), .bool (S.number p most).1.2.2.1, .int .i64 (S.number p most).1.2.2.2]) (fun _ => [scB g A c (S.number p most).2, E]) (fun _ => True)) := by
  refine go [.pointer (some ⟨g, 0, none⟩), .int .i64 (p : Nat), .int .i64 most] [scB g A c S, E] Try.func57 Try.ntmps57 rfl rfl ho ?_
  have hcl := hb.le
  obtain ⟨W, hW⟩ : ∃ W, W = (S.rest.drop p).take 8 := ⟨_, rfl⟩
  have hWl : W.length = min S.rest.length (p + 8) - p := by rw [hW, List.length_take, List.length_drop]; omega
  have hWm : W = (S.rest.drop p).take (min S.rest.length (p + 8) - p) := by
    rw [hW]
    by_cases h : p + 8 ≤ S.rest.length
    · rw [Nat.min_eq_right h, Nat.add_sub_cancel_left]
    · rw [Nat.min_eq_left (by omega), List.take_of_length_le (by rw [List.length_drop]; omega), List.take_of_length_le (by rw [List.length_drop]; omega)]
  repeat (first | (apply wx_val; (first | exact v_assign rfl); rfl) | refine wc_seq ?_ | refine wc_region ?_ | refine wx_nil ?_ | refine wq_next ?_)
  refine wc_heldX [] [scB g A c S, E] rfl (by (repeat (first | exact panicNot_D3 rfl | with_reducible exact panicNot_of panicOk_body | with_reducible apply panicNot_block | with_reducible apply panicNot_then))) (fun hQd => ?_)
  (apply wh_takeX 0; (first | exact fun _ h => h | exact fun _ h => res_takes h); exact hQd; rfl; rfl; exact v_move rfl; decide +kernel; decide +kernel; decide +kernel; rfl)
  (apply wh_takeX 1; (first | exact fun _ h => h | exact fun _ h => res_takes h); exact hQd; rfl; rfl; exact v_nil rfl; decide +kernel; decide +kernel; decide +kernel; rfl)
  (apply wh_takeX 2; (first | exact fun _ h => h | exact fun _ h => res_takes h); exact hQd; rfl; rfl; exact v_faddr rfl rfl; decide +kernel; decide +kernel; decide +kernel; rfl)
  (apply wh_takeX 3; (first | exact fun _ h => h); exact hQd; rfl; rfl; (first | exact v_ldT rfl rfl rfl (by rfl)); decide +kernel; decide +kernel; decide +kernel; rfl)
  (apply wh_takeX 4; (first | exact fun _ h => h | exact fun _ h => res_takes h); exact hQd; rfl; rfl; exact v_move rfl; decide +kernel; decide +kernel; decide +kernel; rfl)
  (apply wh_takeX 5; (first | exact fun _ h => h | exact fun _ h => res_takes h); exact hQd; rfl; rfl; exact v_move rfl; decide +kernel; decide +kernel; decide +kernel; rfl)
  (apply wh_takeX 6; (first | exact fun _ h => h | exact fun _ h => res_takes h); exact hQd; rfl; rfl; exact v_nil rfl; decide +kernel; decide +kernel; decide +kernel; rfl)
  (apply wh_takeX 7; (first | exact fun _ h => h | exact fun _ h => res_takes h); exact hQd; rfl; rfl; exact v_faddr rfl rfl; decide +kernel; decide +kernel; decide +kernel; rfl)
  (apply wh_takeX 8; (first | exact fun _ h => h); exact hQd; rfl; rfl; (first | exact v_ldT rfl rfl rfl (by rfl)); decide +kernel; decide +kernel; decide +kernel; rfl)
  (apply wh_takeX 9; (first | exact fun _ h => h | exact fun _ h => res_takes h); exact hQd; rfl; rfl; (first | exact v_len rfl rfl | exact v_slen rfl rfl); decide +kernel; decide +kernel; decide +kernel; rfl)
  (apply wh_takeX 10; (first | exact fun _ h => h | exact fun _ h => res_takes h); exact hQd; rfl; rfl; exact v_move rfl; decide +kernel; decide +kernel; decide +kernel; rfl)
  (apply wh_takeX 11; (first | exact fun _ h => h | exact fun _ h => res_takes h); exact hQd; rfl; rfl; (first | exact v_addi rfl rfl (by omega) | exact v_add rfl rfl); decide +kernel; decide +kernel; decide +kernel; rfl)
  (apply wh_takeX 12; (first | exact fun _ h => h | exact fun _ h => res_takes h); exact hQd; rfl; rfl; exact v_min rfl rfl; decide +kernel; decide +kernel; decide +kernel; rfl)
  (apply wh_takeX 13; (first | exact fun _ h => h); exact hQd; rfl; rfl; (exact v_sliceN (l := p) (h := min S.rest.length (p + 8)) (m := W.length) rfl rfl rfl (congrArg some (by split <;> omega)) (by omega) hcl.1 hWl.symm); decide +kernel; decide +kernel; decide +kernel; rfl)
  refine wh_eff 14 rfl (by decide +kernel) ?_
  refine wl_callT (M1 := []) (fun w' hr ho => Open_spec (d := W) (by omega) w' (by
    have := vw_cut (sz := 1) (c := c) (h := min S.rest.length (p + 8)) (hb.vwT hr) (l := p) (by omega) (by simp; omega) (by omega)
    rw [hWm]
    simpa [bys, List.map_drop, List.map_take] using this)) rfl rfl rfl ?_
  rintro ⟨gc, Ac, cc, Ec⟩ hbc
  dsimp only at hbc ⊢
  (try refine wx_nil ?_)
  refine wq_held (by (first | exact fun _ h => h | exact fun _ h => res_takes h)) ?_
  (apply wh_takeX 15; (first | exact fun _ h => h | exact fun _ h => res_takes h); exact hQd; rfl; rfl; exact v_assign rfl; decide +kernel; decide +kernel; decide +kernel; rfl)
  refine wh_done (by decide +kernel) ?_
  refine wq_cat ?_
  repeat (first | (apply wx_val; (first | exact v_move rfl); rfl) | refine wc_seq ?_ | refine wc_region ?_ | refine wq_next ?_)
  refine wl_callT (fun w' hr ho => Number_spec (d := W) (p := 0) (f := 0) (by omega) hbc (Nat.zero_le _) most w' ho) rfl rfl rfl ?_
  rintro - -
  rcases win_number S.rest p most with ⟨n, q, h1, h2⟩ | ⟨e, h1, he, h2⟩
  · rw [← hW] at h2
    have e1 : S.number p most = ((n, q - p, true, 0), S) := by unfold Scn.number; rw [h1]
    rw [h2, e1]
    dsimp only
    repeat (first | (apply wx_val; (first | exact v_move rfl | exact v_assign rfl | exact v_extract rfl rfl | exact v_eq rfl rfl | exact v_ne rfl rfl); rfl) | refine wc_seq ?_ | refine wc_region ?_ | refine wx_nil ?_ | refine wq_next ?_ | refine wc_skip ?_ | refine wc_cat ?_ | refine wc_condF rfl ?_)
    refine wl_callT (fun w' hr ho => Offset_spec (A := Ac) (n := W.length) (c := cc) (p := q - p) (f := 0) w' ho) rfl rfl rfl ?_
    rintro - -
    repeat (first | (apply wx_val; (first | exact v_assign rfl); rfl) | refine wx_nil ?_ | refine wq_next ?_ | refine wc_ret ?_ | refine wq_cat ?_)
    exact wq_ret4T () rfl rfl rfl rfl rfl rfl trivial rfl
  · rw [← hW] at h2
    rw [h2]
    dsimp only
    repeat (first | (apply wx_val; (first | exact v_move rfl | exact v_assign rfl | exact v_extract rfl rfl | exact v_eq rfl rfl); rfl) | refine wc_seq ?_ | refine wc_region ?_ | refine wx_nil ?_ | refine wq_next ?_ | refine wc_cat ?_)
    refine wc_if rfl (fun h5 => ?_) (fun h5 => ?_)
    · have e1 : S.number p most = ((0, 0, false, (S.short p).1), (S.short p).2) := by unfold Scn.number; rw [h1]; dsimp only; rw [if_pos h5]
      rw [e1]
      repeat (first | (apply wx_val; (first | exact v_move rfl); rfl) | refine wc_seq ?_ | refine wc_region ?_)
      refine wl_callT (fun w' hr ho => scShort_spec (A := A) (c := c) (S := S) p hp w' ho) rfl rfl rfl ?_
      rintro - -
      repeat (first | (apply wx_val; (first | exact v_assign rfl); rfl) | refine wx_nil ?_ | refine wq_next ?_ | refine wc_ret ?_ | refine wq_then_ret ?_ | refine wq_cat ?_)
      exact wq_ret4T () rfl rfl rfl rfl rfl rfl trivial rfl
    · have e1 : S.number p most = ((0, 0, false, e), S.fail p e) := by unfold Scn.number; rw [h1]; dsimp only; rw [if_neg h5]
      rw [e1]
      repeat (first | (apply wx_val; (first | exact v_move rfl | exact v_ne rfl rfl); rfl) | refine wc_seq ?_ | refine wc_region ?_ | refine wx_nil ?_ | refine wq_next ?_ | refine wc_skip ?_)
      refine wc_yes rfl (decide_eq_true he) ?_
      repeat (first | (apply wx_val; (first | exact v_move rfl); rfl) | refine wc_seq ?_ | refine wc_region ?_)
      refine wl_callT (fun w' hr ho => scFail_spec (A := A) (c := c) (S := S) p e hp w' ho) rfl rfl rfl ?_
      rintro - -
      repeat (first | (apply wx_val; (first | exact v_assign rfl); rfl) | refine wx_nil ?_ | refine wq_next ?_ | refine wc_ret ?_ | refine wq_then_ret ?_ | refine wq_cat ?_)
      exact wq_ret4T () rfl rfl rfl rfl rfl rfl trivial rfl
end sc
end Go.Proofs.Ytjfjleejbbmmaaa
