/- The document's reading of a log. -/
import Derived.Test.YtjfjleejbbmmaaaLogT
import Derived.Test.YtjfjleejbbmmaaaLogE
import Derived.Test.YtjfjleejbbmmaaaWire7
import Derived.Test.YtjfjleejbbmmaaaLogW4
set_option linter.unusedVariables false
set_option linter.unusedSimpArgs false
namespace Go.Proofs.Ytjfjleejbbmmaaa
open Go
set_option maxRecDepth 20000
set_option maxHeartbeats 2000000
attribute [local irreducible] WX WC WQ Val VCall
def dcC (D : Dsc) (A : Option Addr) (c : Nat) : List Value := [.slice A D.data.length c, .bool D.ended, .int .i64 (D.place : Nat), .int .i64 (D.count : Nat), .bool D.foot, .int .i64 D.fault]
abbrev dcB (g : Nat) (A : Option Addr) (c : Nat) (D : Dsc) : Seg := [(g, .cells (dcC D A c).toArray 59 (0, 0))]
theorem magic_at {i : Nat} (h : i < 4) : (bys magicB)[i]? = some (.int .u8 ((magicB.getD i 0).toNat : Nat)) := by
  obtain rfl | rfl | rfl | rfl : i = 0 ∨ i = 1 ∨ i = 2 ∨ i = 3 := by omega
  all_goals rfl
section dc
variable {g c : Nat} {A : Option Addr} {D : Dsc}
theorem dcFail_spec (p : Nat) (e : Int) (w : World) (ho : Own w [dcB g A c D]) :
    Calls Try.prog 44 #[.pointer (some ⟨g, 0, none⟩), .int .i64 (p : Nat), .int .i64 e] w (Ret (β := Unit) w (ids [dcB g A c D]) (fun _ => .int .i64 e) (fun _ => [dcB g A c (D.fail p e)]) (fun _ => True)) := by
  refine go [.pointer (some ⟨g, 0, none⟩), .int .i64 (p : Nat), .int .i64 e] [dcB g A c D] Try.func44 Try.ntmps44 rfl rfl ho ?_
  repeat (first | (apply wx_val; (first | exact v_move rfl | exact v_assign rfl | exact v_nil rfl | exact v_faddr rfl rfl); rfl) | refine wc_seq ?_ | refine wc_region ?_ | refine wx_nil ?_ | refine wq_next ?_ | refine wc_ret ?_ | refine wx_setn ?_ | refine wq_setn ?_ | refine wl_storeT rfl rfl rfl (by rfl) (by exact .inl (Nat.le_refl _)) rfl ?_)
  refine wq_blk g (dcC (D.fail p e) A c) (by rfl) ?_
  refine wq_setn ?_
  exact wq_ret1T () rfl rfl trivial rfl
theorem dcMiss_spec (p : Nat) (hf : D.fault = 0) (w : World) (ho : Own w [dcB g A c D]) :
    Calls Try.prog 43 #[.pointer (some ⟨g, 0, none⟩), .int .i64 (p : Nat)] w (Ret (β := Unit) w (ids [dcB g A c D]) (fun _ => .int .i64 (D.miss p).1) (fun _ => [dcB g A c (D.miss p).2]) (fun _ => True)) := by
  refine go [.pointer (some ⟨g, 0, none⟩), .int .i64 (p : Nat)] [dcB g A c D] Try.func43 Try.ntmps43 rfl rfl ho ?_
  unfold Dsc.miss
  repeat (first | (apply wx_val; (first | exact v_move rfl | exact v_assign rfl | exact v_nil rfl | exact v_faddr rfl rfl | exact v_ldT rfl rfl rfl (by rfl)); rfl) | refine wc_seq ?_ | refine wc_region ?_ | refine wx_nil ?_ | refine wq_next ?_)
  refine wc_bool rfl (fun he => ?_) (fun he => ?_)
  · rw [if_pos he]
    repeat (first | (apply wx_val; (first | exact v_move rfl | exact v_assign rfl | exact v_nil rfl | exact v_faddr rfl rfl | exact v_ldT rfl rfl rfl (by rfl)); rfl) | refine wc_seq ?_ | refine wc_region ?_ | refine wx_nil ?_ | refine wq_next ?_ | refine wc_ret ?_ | refine wx_setn ?_ | refine wl_storeT rfl rfl rfl (by rfl) (by exact .inl (Nat.le_refl _)) rfl ?_)
    refine wq_blk g (dcC (D.fail p 51) A c) (by rfl) ?_
    refine wq_setn ?_
    exact wq_ret1T () rfl rfl trivial rfl
  · rw [if_neg (by rw [he]; decide)]
    repeat (first | (apply wx_val; (first | exact v_move rfl | exact v_assign rfl | exact v_nil rfl | exact v_faddr rfl rfl | exact v_ldT rfl rfl rfl (by rfl)); rfl) | refine wc_seq ?_ | refine wc_region ?_ | refine wx_nil ?_ | refine wq_next ?_ | refine wc_ret ?_ | refine wc_skip ?_)
    exact wq_ret1T () rfl (by rw [hf]; rfl) trivial rfl
def Dsc.done (D : Dsc) : Bool := D.foot && D.ended && decide ((D.place : Int) = D.data.length) && decide (D.fault = 0)
theorem dcFinished_spec (w : World) (ho : Own w [dcB g A c D]) :
    Calls Try.prog 46 #[.pointer (some ⟨g, 0, none⟩)] w (Ret (β := Unit) w (ids [dcB g A c D]) (fun _ => .bool D.done) (fun _ => [dcB g A c D]) (fun _ => True)) := by
  refine go [.pointer (some ⟨g, 0, none⟩)] [dcB g A c D] Try.func46 Try.ntmps46 rfl rfl ho ?_
  unfold Dsc.done
  repeat' (first | (apply wx_val; (first | exact v_move rfl | exact v_assign rfl | exact v_nil rfl | exact v_faddr rfl rfl | exact v_ldT rfl rfl rfl (by rfl) | exact v_len rfl rfl | exact v_eq rfl rfl | exact v_pickT rfl rfl | exact v_pickF rfl rfl); rfl) | refine wx_no rfl rfl rfl ?_ | refine wx_ungd rfl rfl ?_ | refine wc_seq ?_ | refine wc_region ?_ | refine wx_nil ?_ | refine wq_next ?_ | refine wc_ret ?_ | refine wc_reads rfl (by decide +kernel) ?_ | refine wx_gif rfl rfl (fun _ => ?_) (fun _ => ?_) | refine wx_gbool rfl rfl (fun _ => ?_) (fun _ => ?_))
  all_goals exact wq_ret1T () rfl (bool_val (by simp_all)) trivial rfl
theorem at_num (d : List UInt8) (p : Nat) (most : Nat) : (∃ e, numP d p (most : Nat) = .error ((p : Int), e) ∧ e ≠ 0 ∧ (scanL 0 0 (d.drop p)).2.2 = e) ∨ (numP d p (most : Nat) = .error ((p : Int), 53) ∧ (scanL 0 0 (d.drop p)).2.2 = 0 ∧ most < (scanL 0 0 (d.drop p)).1) ∨
    (numP d p (most : Nat) = .ok ((scanL 0 0 (d.drop p)).1, p + (scanL 0 0 (d.drop p)).2.1) ∧ (scanL 0 0 (d.drop p)).2.2 = 0 ∧ (scanL 0 0 (d.drop p)).1 ≤ most) := by
  unfold numP
  by_cases h1 : (scanL 0 0 (d.drop p)).2.2 ≠ 0
  · rw [if_pos h1]; exact .inl ⟨_, rfl, h1, rfl⟩
  · rw [if_neg h1]
    by_cases h2 : (most : Int) < (scanL 0 0 (d.drop p)).1
    · rw [if_pos h2]; exact .inr (.inl ⟨rfl, Decidable.not_not.1 h1, by omega⟩)
    · rw [if_neg h2]; exact .inr (.inr ⟨rfl, Decidable.not_not.1 h1, by omega⟩)
theorem dcFoot_spec (hd : D.data.length ≤ 140737488355328) (hp : D.place + 1 ≤ D.data.length) (hf : D.fault = 0) (w : World) (hv : Vw (ids [dcB g A c D]) w A (bys D.data)) (ho : Own w [dcB g A c D]) :
    Calls Try.prog 61 #[.pointer (some ⟨g, 0, none⟩)] w (Ret (β := Unit) w (ids [dcB g A c D]) (fun _ => .int .i64 D.footer.1) (fun _ => [dcB g A c D.footer.2]) (fun _ => True)) := by
  refine go [.pointer (some ⟨g, 0, none⟩)] [dcB g A c D] Try.func61 Try.ntmps61 rfl rfl ho ?_
  generalize hX : D.footer = X
  unfold Dsc.footer at hX
  repeat (first | (apply wx_val; (first | exact v_move rfl | exact v_assign rfl | exact v_nil rfl | exact v_faddr rfl rfl | exact v_ldT rfl rfl rfl (by rfl) | exact v_addi rfl rfl (by omega)); rfl) | refine wc_seq ?_ | refine wc_region ?_ | refine wx_nil ?_ | refine wq_next ?_)
  refine wl_callT (M1 := []) (fun w' hr ho => At_spec (c := c) (p := D.place + 1) hd hp w' ((hv.keep hr).sub (by simp [ids]))) rfl rfl rfl ?_
  rintro - -
  rcases at_num D.data (D.place + 1) 4096 with ⟨e, h1, h2, h3⟩ | ⟨h1, h2, h3⟩ | ⟨h1, h2, h3⟩
  · rw [show ((4096 : Nat) : Int) = 4096 from rfl] at h1
    rw [h1] at hX
    rw [h3]
    dsimp only at hX
    repeat (first | (apply wx_val; (first | exact v_move rfl | exact v_assign rfl | exact v_extract rfl rfl | exact v_eq rfl rfl); rfl) | refine wc_seq ?_ | refine wc_region ?_ | refine wx_nil ?_ | refine wq_next ?_ | refine wc_block ?_ | refine wc_cat ?_)
    refine wc_if rfl (fun h4 => ?_) (fun h4 => ?_)
    · rw [if_pos h4] at hX
      subst hX
      repeat (first | (apply wx_val; (first | exact v_move rfl); rfl) | refine wc_seq ?_ | refine wc_region ?_)
      refine wl_callT (fun w' hr ho => dcMiss_spec (A := A) (c := c) (D := D) (D.place + 1) hf w' ho) rfl rfl rfl ?_
      rintro - -
      repeat (first | (apply wx_val; (first | exact v_assign rfl); rfl) | refine wx_nil ?_ | refine wq_next ?_ | refine wc_ret ?_ | refine wq_then_ret ?_ | refine wq_block_ret ?_ | refine wq_cat ?_)
      exact wq_ret1T () rfl rfl trivial rfl
    · rw [if_neg h4] at hX
      subst hX
      repeat (first | (apply wx_val; (first | exact v_move rfl | exact v_assign rfl | exact v_ne rfl rfl); rfl) | refine wc_seq ?_ | refine wc_region ?_ | refine wx_nil ?_ | refine wq_next ?_)
      refine wc_yes rfl (decide_eq_true h2) ?_
      repeat (first | (apply wx_val; (first | exact v_move rfl); rfl) | refine wc_seq ?_ | refine wc_region ?_)
      refine wl_callT (fun w' hr ho => dcFail_spec (A := A) (c := c) (D := D) (D.place + 1) e w' ho) rfl rfl rfl ?_
      rintro - -
      repeat (first | (apply wx_val; (first | exact v_assign rfl); rfl) | refine wx_nil ?_ | refine wq_next ?_ | refine wc_ret ?_ | refine wq_then_ret ?_ | refine wq_block_ret ?_ | refine wq_cat ?_)
      exact wq_ret1T () rfl rfl trivial rfl
  · rw [show ((4096 : Nat) : Int) = 4096 from rfl] at h1
    rw [h1] at hX
    rw [h2]
    dsimp only at hX
    rw [if_neg (by decide)] at hX
    subst hX
    repeat (first | (apply wx_val; (first | exact v_move rfl | exact v_assign rfl | exact v_extract rfl rfl | exact v_eq rfl rfl | exact v_ne rfl rfl | exact v_gt rfl rfl); rfl) | refine wc_seq ?_ | refine wc_region ?_ | refine wx_nil ?_ | refine wq_next ?_ | refine wc_block ?_ | refine wc_cat ?_ | refine wc_condF rfl ?_)
    refine wc_yes rfl (decide_eq_true (by omega)) ?_
    repeat (first | (apply wx_val; (first | exact v_move rfl); rfl) | refine wc_seq ?_ | refine wc_region ?_)
    refine wl_callT (fun w' hr ho => dcFail_spec (A := A) (c := c) (D := D) (D.place + 1) 53 w' ho) rfl rfl rfl ?_
    rintro - -
    repeat (first | (apply wx_val; (first | exact v_assign rfl); rfl) | refine wx_nil ?_ | refine wq_next ?_ | refine wc_ret ?_ | refine wq_then_ret ?_ | refine wq_block_ret ?_ | refine wq_cat ?_)
    exact wq_ret1T () rfl rfl trivial rfl
  · rw [show ((4096 : Nat) : Int) = 4096 from rfl] at h1
    rw [h1] at hX
    rw [h2]
    obtain ⟨z1, z2, z3⟩ := numP_le hp h1
    generalize (scanL 0 0 (D.data.drop (D.place + 1))).1 = n at *
    generalize (scanL 0 0 (D.data.drop (D.place + 1))).2.1 = size at *
    dsimp only at hX
    repeat (first | (apply wx_val; (first | exact v_move rfl | exact v_assign rfl | exact v_extract rfl rfl | exact v_eq rfl rfl | exact v_ne rfl rfl | exact v_gt rfl rfl); rfl) | refine wc_seq ?_ | refine wc_region ?_ | refine wx_nil ?_ | refine wq_next ?_ | refine wc_block ?_ | refine wc_cat ?_ | refine wc_condF rfl ?_)
    refine wc_not rfl (decide_eq_false (by omega)) ?_
    repeat (first | (apply wx_val; (first | exact v_move rfl | exact v_assign rfl | exact v_nil rfl | exact v_faddr rfl rfl | exact v_ldT rfl rfl rfl (by rfl) | exact v_ne rfl rfl); rfl) | refine wc_seq ?_ | refine wc_region ?_ | refine wx_nil ?_ | refine wq_next ?_)
    refine wc_if rfl (fun h4 => ?_) (fun h4 => ?_)
    · rw [if_pos (by omega)] at hX
      subst hX
      repeat (first | (apply wx_val; (first | exact v_move rfl); rfl) | refine wc_seq ?_ | refine wc_region ?_)
      refine wl_callT (fun w' hr ho => dcFail_spec (A := A) (c := c) (D := D) (D.place + 1) 72 w' ho) rfl rfl rfl ?_
      rintro - -
      repeat (first | (apply wx_val; (first | exact v_assign rfl); rfl) | refine wx_nil ?_ | refine wq_next ?_ | refine wc_ret ?_ | refine wq_then_ret ?_ | refine wq_block_ret ?_ | refine wq_cat ?_)
      exact wq_ret1T () rfl rfl trivial rfl
    · rw [if_neg (by omega)] at hX
      repeat (first | (apply wx_val; (first | exact v_move rfl | exact v_nil rfl | exact v_faddr rfl rfl | exact v_ldT rfl rfl rfl (by rfl) | exact v_len rfl rfl | exact v_lt rfl rfl | exact v_addi rfl rfl (by omega)); rfl) | refine wc_seq ?_ | refine wc_region ?_ | refine wx_nil ?_ | refine wq_next ?_ | refine wc_skip ?_ | refine wq_block ?_ | refine wx_setn ?_ | refine wc_setn ?_ | refine wc_reads rfl (by decide +kernel) ?_ | refine wl_storeT rfl rfl rfl (by rfl) (by exact .inl (Nat.le_refl _)) rfl ?_)
      refine wc_if rfl (fun h5 => ?_) (fun h5 => ?_)
      · rw [if_pos (by have h5' : ((D.place + 1 : Nat) : Int) + (size : Nat) < (D.data.length : Nat) := h5; omega)] at hX
        subst hX
        repeat (first | (apply wx_val; (first | exact v_move rfl | exact v_nil rfl | exact v_faddr rfl rfl | exact v_ldT rfl rfl rfl (by rfl)); rfl) | refine wc_seq ?_ | refine wc_region ?_)
        refine wx_blk g (dcC { D with place := D.place + 1 + size, foot := true } A c) (by rfl) ?_
        refine wx_setn ?_
        refine wl_callT (fun w' hr ho => dcFail_spec (A := A) (c := c) (D := { D with place := D.place + 1 + size, foot := true }) (D.place + 1 + size) 61 w' ho) rfl rfl rfl ?_
        rintro - -
        repeat (first | (apply wx_val; (first | exact v_assign rfl); rfl) | refine wx_nil ?_ | refine wq_next ?_ | refine wc_ret ?_ | refine wq_then_ret ?_ | refine wq_cat ?_)
        refine wq_blk g (dcC { D with place := D.place + 1 + size, foot := true, fault := 61 } A c) (by rfl) ?_
        refine wq_setn ?_
        exact wq_ret1T () rfl rfl trivial rfl
      · rw [if_neg (by have h5' : ¬ ((D.place + 1 : Nat) : Int) + (size : Nat) < (D.data.length : Nat) := h5; omega)] at hX
        subst hX
        repeat (first | (apply wx_val; (first | exact v_assign rfl); rfl) | refine wc_seq ?_ | refine wc_region ?_ | refine wx_nil ?_ | refine wq_next ?_ | refine wc_ret ?_ | refine wc_skip ?_)
        refine wq_blk g (dcC { D with place := D.place + 1 + size, foot := true } A c) (by rfl) ?_
        refine wq_setn ?_
        exact wq_ret1T () rfl rfl trivial rfl
abbrev DNextR (X : (TxnP × Bool × Int) × Dsc) (g : Nat) (A : Option Addr) (c : Nat) (w : World) (Y : List Nat) : Ending → World → Prop :=
  Ret (β := Option Addr × Nat × Seg) w Y (fun q => .tuple #[.agg (X.1.1.cells q.1 q.2.1).toArray, .bool X.1.2.1, .int .i64 X.1.2.2]) (fun q => [dcB g A c X.2, q.2.2]) (fun q => BufO X.1.1.ops q)
theorem dcEntry_spec (hd : D.data.length ≤ 140737488355328) (hdc : D.data.length ≤ c) (hcm : c ≤ maxLen) (hp : D.place ≤ D.data.length) (hf : D.fault = 0) (hk : D.count ≤ 4096) (w : World) (hv : Vw (ids [dcB g A c D]) w A (bys D.data)) (ho : Own w [dcB g A c D]) :
    Calls Try.prog 45 #[.pointer (some ⟨g, 0, none⟩)] w (DNextR D.entry g A c w (ids [dcB g A c D])) := by
  refine go [.pointer (some ⟨g, 0, none⟩)] [dcB g A c D] Try.func45 Try.ntmps45 rfl rfl ho ?_
  have hcm' := hcm
  simp only [maxLen] at hcm'
  unfold DNextR
  generalize hX : D.entry = X
  unfold Dsc.entry at hX
  repeat (first | refine wc_seq ?_ | refine wc_region ?_)
  refine wl_alloc rfl rfl (fun g2 => ?_)
  repeat (first | (apply wx_val; (first | exact v_assign rfl); rfl) | refine wc_seq ?_ | refine wc_region ?_ | refine wx_nil ?_ | refine wq_next ?_)
  refine wl_alloc rfl rfl (fun g5 => ?_)
  refine wx_blk g5 txnZ rfl ?_
  refine wx_setn ?_
  repeat (first | refine wc_seq ?_ | refine wx_nil ?_ | refine wq_next ?_)
  refine wc_heldX [] [dcB g A c D] rfl (by (repeat (first | exact panicNot_D3 rfl | with_reducible exact panicNot_of panicOk_body | with_reducible apply panicNot_block | with_reducible apply panicNot_then))) (fun hQd => ?_)
  (apply wh_takeX 0; (first | exact fun _ h => h | exact fun _ h => res_takes h); exact hQd; rfl; rfl; exact v_move rfl; decide +kernel; decide +kernel; decide +kernel; rfl)
  (apply wh_takeX 1; (first | exact fun _ h => h | exact fun _ h => res_takes h); exact hQd; rfl; rfl; exact v_nil rfl; decide +kernel; decide +kernel; decide +kernel; rfl)
  (apply wh_takeX 2; (first | exact fun _ h => h | exact fun _ h => res_takes h); exact hQd; rfl; rfl; exact v_faddr rfl rfl; decide +kernel; decide +kernel; decide +kernel; rfl)
  (apply wh_takeX 3; (first | exact fun _ h => res_takes h); exact hQd; rfl; rfl; (first | exact v_ldT rfl rfl rfl (by rfl)); decide +kernel; decide +kernel; decide +kernel; rfl)
  (apply wh_takeX 4; (first | exact fun _ h => h | exact fun _ h => res_takes h); exact hQd; rfl; rfl; exact v_move rfl; decide +kernel; decide +kernel; decide +kernel; rfl)
  (apply wh_takeX 5; (first | exact fun _ h => h | exact fun _ h => res_takes h); exact hQd; rfl; rfl; exact v_nil rfl; decide +kernel; decide +kernel; decide +kernel; rfl)
  (apply wh_takeX 6; (first | exact fun _ h => h | exact fun _ h => res_takes h); exact hQd; rfl; rfl; exact v_faddr rfl rfl; decide +kernel; decide +kernel; decide +kernel; rfl)
  (apply wh_takeX 7; (first | exact fun _ h => res_takes h); exact hQd; rfl; rfl; (first | exact v_ldT rfl rfl rfl (by rfl)); decide +kernel; decide +kernel; decide +kernel; rfl)
  refine wh_eff 8 rfl (by decide +kernel) ?_
  refine wl_callT (M1 := []) (fun w' hr ho => At_spec (c := c) (p := D.place) hd hp w' ((hv.keep hr).sub (by simp [ids]))) rfl rfl rfl ?_
  rintro - -
  refine wx_cat ?_
  (try refine wx_nil ?_)
  refine wq_held (by (first | exact fun _ h => h | exact fun _ h => res_takes h)) ?_
  (apply wh_takeX 9; (first | exact fun _ h => h | exact fun _ h => res_takes h); exact hQd; rfl; rfl; exact v_move rfl; decide +kernel; decide +kernel; decide +kernel; rfl)
  (apply wh_takeX 10; (first | exact fun _ h => h | exact fun _ h => res_takes h); exact hQd; rfl; rfl; exact v_extract rfl rfl; decide +kernel; decide +kernel; decide +kernel; rfl)
  (apply wh_takeX 11; (first | exact fun _ h => h | exact fun _ h => res_takes h); exact hQd; rfl; rfl; exact v_extract rfl rfl; decide +kernel; decide +kernel; decide +kernel; rfl)
  (apply wh_takeX 12; (first | exact fun _ h => h | exact fun _ h => res_takes h); exact hQd; rfl; rfl; exact v_extract rfl rfl; decide +kernel; decide +kernel; decide +kernel; rfl)
  (apply wh_takeX 13; (first | exact fun _ h => h | exact fun _ h => res_takes h); exact hQd; rfl; rfl; exact v_assign rfl; decide +kernel; decide +kernel; decide +kernel; rfl)
  (apply wh_takeX 14; (first | exact fun _ h => h | exact fun _ h => res_takes h); exact hQd; rfl; rfl; exact v_assign rfl; decide +kernel; decide +kernel; decide +kernel; rfl)
  (apply wh_takeX 15; (first | exact fun _ h => h | exact fun _ h => res_takes h); exact hQd; rfl; rfl; exact v_assign rfl; decide +kernel; decide +kernel; decide +kernel; rfl)
  refine wh_done (by decide +kernel) ?_
  rcases at_num D.data D.place 512 with ⟨e, h1, h2, h3⟩ | ⟨h1, h2, h3⟩ | ⟨h1, h2, h3⟩
  · rw [show ((512 : Nat) : Int) = 512 from rfl] at h1
    rw [h1] at hX
    rw [h3]
    dsimp only at hX
    repeat (first | (apply wx_val; (first | exact v_move rfl | exact v_assign rfl | exact v_eq rfl rfl); rfl) | refine wc_seq ?_ | refine wc_region ?_ | refine wx_nil ?_ | refine wq_next ?_ | refine wc_block ?_)
    refine wc_if rfl (fun h4 => ?_) (fun h4 => ?_)
    · rw [if_pos h4] at hX
      subst hX
      dsimp only
      repeat (first | refine wc_seq ?_)
      refine wc_heldX [] [[(g5, .cells txnZ.toArray 46 (0, 0))]] rfl (by (repeat (first | with_reducible exact panicNot_of panicOk_body | with_reducible apply panicNot_block | with_reducible apply panicNot_then))) (fun hQd => ?_)
      (apply wh_takeX 0; (first | exact fun _ h => res_takes h); exact hQd; rfl; rfl; (first | exact v_ldAT rfl (by rfl)); decide +kernel; decide +kernel; decide +kernel; rfl)
      (apply wh_takeX 1; (first | exact fun _ h => h | exact fun _ h => res_takes h); exact hQd; rfl; rfl; exact v_move rfl; decide +kernel; decide +kernel; decide +kernel; rfl)
      (apply wh_takeX 2; (first | exact fun _ h => h | exact fun _ h => res_takes h); exact hQd; rfl; rfl; exact v_move rfl; decide +kernel; decide +kernel; decide +kernel; rfl)
      (apply wh_takeX 3; (first | exact fun _ h => h | exact fun _ h => res_takes h); exact hQd; rfl; rfl; exact v_nil rfl; decide +kernel; decide +kernel; decide +kernel; rfl)
      (apply wh_takeX 4; (first | exact fun _ h => h | exact fun _ h => res_takes h); exact hQd; rfl; rfl; exact v_faddr rfl rfl; decide +kernel; decide +kernel; decide +kernel; rfl)
      refine wh_eff 5 rfl (by decide +kernel) ?_
      repeat (first | (apply wx_val; (first | exact v_ldT rfl rfl rfl (by rfl)); rfl) | refine wx_nil ?_)
      (try refine wx_nil ?_)
      refine wq_held (by (first | exact fun _ h => h | exact fun _ h => res_takes h)) ?_
      refine wh_eff 6 rfl (by decide +kernel) ?_
      refine wl_callT (fun w' hr ho => dcMiss_spec (A := A) (c := c) (D := D) D.place hf w' ho) rfl rfl rfl ?_
      rintro - -
      refine wx_cat ?_
      (try refine wx_nil ?_)
      refine wq_held (by (first | exact fun _ h => h | exact fun _ h => res_takes h)) ?_
      refine wh_eff 7 rfl (by decide +kernel) ?_
      refine wl_stAT (vs := txnZ) rfl rfl (by rfl) (by rfl) (by exact .inl (Nat.le_refl _)) rfl ?_
      refine wx_setn ?_
      (try refine wx_nil ?_)
      refine wq_held (by (first | exact fun _ h => h | exact fun _ h => res_takes h)) ?_
      (apply wh_takeX 8; (first | exact fun _ h => h | exact fun _ h => res_takes h); exact hQd; rfl; rfl; exact v_assign rfl; decide +kernel; decide +kernel; decide +kernel; rfl)
      (apply wh_takeX 9; (first | exact fun _ h => h | exact fun _ h => res_takes h); exact hQd; rfl; rfl; exact v_assign rfl; decide +kernel; decide +kernel; decide +kernel; rfl)
      refine wh_done (by decide +kernel) ?_
      repeat (first | refine wq_next ?_ | refine wc_ret ?_ | refine wq_then_ret ?_ | refine wq_block_ret ?_)
      refine wq_seg ?_
      exact wq_retA3T (cs := txnZ) (none, 0, []) rfl rfl rfl rfl rfl rfl (Buf.nil _ _) rfl
    · rw [if_neg h4] at hX
      subst hX
      dsimp only
      repeat (first | (apply wx_val; (first | exact v_move rfl | exact v_assign rfl | exact v_ne rfl rfl); rfl) | refine wc_seq ?_ | refine wc_region ?_ | refine wx_nil ?_ | refine wq_next ?_)
      refine wc_yes rfl (decide_eq_true h2) ?_
      repeat (first | refine wc_seq ?_)
      refine wc_heldX [] [[(g5, .cells txnZ.toArray 46 (0, 0))]] rfl (by (repeat (first | with_reducible exact panicNot_of panicOk_body | with_reducible apply panicNot_block | with_reducible apply panicNot_then))) (fun hQd => ?_)
      (apply wh_takeX 0; (first | exact fun _ h => res_takes h); exact hQd; rfl; rfl; (first | exact v_ldAT rfl (by rfl)); decide +kernel; decide +kernel; decide +kernel; rfl)
      (apply wh_takeX 1; (first | exact fun _ h => h | exact fun _ h => res_takes h); exact hQd; rfl; rfl; exact v_move rfl; decide +kernel; decide +kernel; decide +kernel; rfl)
      (apply wh_takeX 2; (first | exact fun _ h => h | exact fun _ h => res_takes h); exact hQd; rfl; rfl; exact v_move rfl; decide +kernel; decide +kernel; decide +kernel; rfl)
      (apply wh_takeX 3; (first | exact fun _ h => h | exact fun _ h => res_takes h); exact hQd; rfl; rfl; exact v_nil rfl; decide +kernel; decide +kernel; decide +kernel; rfl)
      (apply wh_takeX 4; (first | exact fun _ h => h | exact fun _ h => res_takes h); exact hQd; rfl; rfl; exact v_faddr rfl rfl; decide +kernel; decide +kernel; decide +kernel; rfl)
      (apply wh_takeX 6; (first | exact fun _ h => h | exact fun _ h => res_takes h); exact hQd; rfl; rfl; exact v_move rfl; decide +kernel; decide +kernel; decide +kernel; rfl)
      refine wh_eff 5 rfl (by decide +kernel) ?_
      repeat (first | (apply wx_val; (first | exact v_ldT rfl rfl rfl (by rfl)); rfl) | refine wx_nil ?_)
      (try refine wx_nil ?_)
      refine wq_held (by (first | exact fun _ h => h | exact fun _ h => res_takes h)) ?_
      refine wh_eff 7 rfl (by decide +kernel) ?_
      refine wl_callT (fun w' hr ho => dcFail_spec (A := A) (c := c) (D := D) D.place e w' ho) rfl rfl rfl ?_
      rintro - -
      refine wx_cat ?_
      (try refine wx_nil ?_)
      refine wq_held (by (first | exact fun _ h => h | exact fun _ h => res_takes h)) ?_
      refine wh_eff 8 rfl (by decide +kernel) ?_
      refine wl_stAT (vs := txnZ) rfl rfl (by rfl) (by rfl) (by exact .inl (Nat.le_refl _)) rfl ?_
      refine wx_setn ?_
      (try refine wx_nil ?_)
      refine wq_held (by (first | exact fun _ h => h | exact fun _ h => res_takes h)) ?_
      (apply wh_takeX 9; (first | exact fun _ h => h | exact fun _ h => res_takes h); exact hQd; rfl; rfl; exact v_assign rfl; decide +kernel; decide +kernel; decide +kernel; rfl)
      (apply wh_takeX 10; (first | exact fun _ h => h | exact fun _ h => res_takes h); exact hQd; rfl; rfl; exact v_assign rfl; decide +kernel; decide +kernel; decide +kernel; rfl)
      refine wh_done (by decide +kernel) ?_
      repeat (first | refine wq_next ?_ | refine wc_ret ?_ | refine wq_then_ret ?_ | refine wq_block_ret ?_)
      refine wq_seg ?_
      exact wq_retA3T (cs := txnZ) (none, 0, []) rfl rfl rfl rfl rfl rfl (Buf.nil _ _) rfl
  · rw [show ((512 : Nat) : Int) = 512 from rfl] at h1
    rw [h1] at hX
    rw [h2]
    dsimp only at hX
    rw [if_neg (by decide)] at hX
    subst hX
    dsimp only
    repeat (first | (apply wx_val; (first | exact v_move rfl | exact v_assign rfl | exact v_eq rfl rfl | exact v_ne rfl rfl | exact v_gt rfl rfl); rfl) | refine wc_seq ?_ | refine wc_region ?_ | refine wx_nil ?_ | refine wq_next ?_ | refine wc_block ?_ | refine wc_condF rfl ?_)
    refine wc_yes rfl (decide_eq_true (by omega)) ?_
    repeat (first | refine wc_seq ?_)
    refine wc_heldX [] [[(g5, .cells txnZ.toArray 46 (0, 0))]] rfl (by (repeat (first | with_reducible exact panicNot_of panicOk_body | with_reducible apply panicNot_block | with_reducible apply panicNot_then))) (fun hQd => ?_)
    (apply wh_takeX 0; (first | exact fun _ h => res_takes h); exact hQd; rfl; rfl; (first | exact v_ldAT rfl (by rfl)); decide +kernel; decide +kernel; decide +kernel; rfl)
    (apply wh_takeX 1; (first | exact fun _ h => h | exact fun _ h => res_takes h); exact hQd; rfl; rfl; exact v_move rfl; decide +kernel; decide +kernel; decide +kernel; rfl)
    (apply wh_takeX 2; (first | exact fun _ h => h | exact fun _ h => res_takes h); exact hQd; rfl; rfl; exact v_move rfl; decide +kernel; decide +kernel; decide +kernel; rfl)
    (apply wh_takeX 3; (first | exact fun _ h => h | exact fun _ h => res_takes h); exact hQd; rfl; rfl; exact v_nil rfl; decide +kernel; decide +kernel; decide +kernel; rfl)
    (apply wh_takeX 4; (first | exact fun _ h => h | exact fun _ h => res_takes h); exact hQd; rfl; rfl; exact v_faddr rfl rfl; decide +kernel; decide +kernel; decide +kernel; rfl)
    refine wh_eff 5 rfl (by decide +kernel) ?_
    repeat (first | (apply wx_val; (first | exact v_ldT rfl rfl rfl (by rfl)); rfl) | refine wx_nil ?_)
    (try refine wx_nil ?_)
    refine wq_held (by (first | exact fun _ h => h | exact fun _ h => res_takes h)) ?_
    refine wh_eff 6 rfl (by decide +kernel) ?_
    refine wl_callT (fun w' hr ho => dcFail_spec (A := A) (c := c) (D := D) D.place 53 w' ho) rfl rfl rfl ?_
    rintro - -
    refine wx_cat ?_
    (try refine wx_nil ?_)
    refine wq_held (by (first | exact fun _ h => h | exact fun _ h => res_takes h)) ?_
    refine wh_eff 7 rfl (by decide +kernel) ?_
    refine wl_stAT (vs := txnZ) rfl rfl (by rfl) (by rfl) (by exact .inl (Nat.le_refl _)) rfl ?_
    refine wx_setn ?_
    (try refine wx_nil ?_)
    refine wq_held (by (first | exact fun _ h => h | exact fun _ h => res_takes h)) ?_
    (apply wh_takeX 8; (first | exact fun _ h => h | exact fun _ h => res_takes h); exact hQd; rfl; rfl; exact v_assign rfl; decide +kernel; decide +kernel; decide +kernel; rfl)
    (apply wh_takeX 9; (first | exact fun _ h => h | exact fun _ h => res_takes h); exact hQd; rfl; rfl; exact v_assign rfl; decide +kernel; decide +kernel; decide +kernel; rfl)
    refine wh_done (by decide +kernel) ?_
    repeat (first | refine wq_next ?_ | refine wc_ret ?_ | refine wq_then_ret ?_ | refine wq_block_ret ?_)
    refine wq_seg ?_
    exact wq_retA3T (cs := txnZ) (none, 0, []) rfl rfl rfl rfl rfl rfl (Buf.nil _ _) rfl
  rw [show ((512 : Nat) : Int) = 512 from rfl] at h1
  rw [h1] at hX
  rw [h2]
  obtain ⟨z1, z2, z3⟩ := numP_le hp h1
  generalize (scanL 0 0 (D.data.drop D.place)).1 = n at *
  generalize (scanL 0 0 (D.data.drop D.place)).2.1 = size at *
  dsimp only at hX
  repeat (first | (apply wx_val; (first | exact v_move rfl | exact v_assign rfl | exact v_eq rfl rfl | exact v_ne rfl rfl | exact v_gt rfl rfl); rfl) | refine wc_seq ?_ | refine wc_region ?_ | refine wx_nil ?_ | refine wq_next ?_ | refine wc_block ?_ | refine wc_condF rfl ?_)
  refine wc_not rfl (decide_eq_false (by omega)) ?_
  repeat (first | (apply wx_val; (first | exact v_move rfl | exact v_assign rfl | exact v_eq rfl rfl); rfl) | refine wc_seq ?_ | refine wc_region ?_ | refine wx_nil ?_ | refine wq_next ?_)
  refine wc_if rfl (fun h4 => ?_) (fun h4 => ?_)
  · rw [if_pos (by omega)] at hX
    subst hX
    dsimp only
    have hsz : size = 1 := by
      have h0 : n = 0 := by omega
      subst h0
      have := numP_zero h1
      omega
    repeat (first | refine wc_seq ?_)
    refine wc_heldX [] [[(g5, .cells txnZ.toArray 46 (0, 0))]] rfl (by (repeat (first | with_reducible exact panicNot_of panicOk_body | with_reducible apply panicNot_block | with_reducible apply panicNot_then))) (fun hQd => ?_)
    (apply wh_takeX 0; (first | exact fun _ h => res_takes h); exact hQd; rfl; rfl; (first | exact v_ldAT rfl (by rfl)); decide +kernel; decide +kernel; decide +kernel; rfl)
    (apply wh_takeX 1; (first | exact fun _ h => h | exact fun _ h => res_takes h); exact hQd; rfl; rfl; exact v_move rfl; decide +kernel; decide +kernel; decide +kernel; rfl)
    refine wh_eff 2 rfl (by decide +kernel) ?_
    refine wl_callT (fun w' hr ho => dcFoot_spec (A := A) (c := c) (D := D) hd (by omega) hf w' (hv.held hr (fun i hi => by rw [ids_append]; exact List.mem_append.2 (.inl hi))) ho) rfl rfl rfl ?_
    rintro - -
    refine wx_cat ?_
    (try refine wx_nil ?_)
    refine wq_held (by (first | exact fun _ h => h | exact fun _ h => res_takes h)) ?_
    refine wh_eff 3 rfl (by decide +kernel) ?_
    refine wl_stAT (vs := txnZ) rfl rfl (by rfl) (by rfl) (by exact .inl (Nat.le_refl _)) rfl ?_
    refine wx_setn ?_
    (try refine wx_nil ?_)
    refine wq_held (by (first | exact fun _ h => h | exact fun _ h => res_takes h)) ?_
    (apply wh_takeX 4; (first | exact fun _ h => h | exact fun _ h => res_takes h); exact hQd; rfl; rfl; exact v_assign rfl; decide +kernel; decide +kernel; decide +kernel; rfl)
    (apply wh_takeX 5; (first | exact fun _ h => h | exact fun _ h => res_takes h); exact hQd; rfl; rfl; exact v_assign rfl; decide +kernel; decide +kernel; decide +kernel; rfl)
    refine wh_done (by decide +kernel) ?_
    repeat (first | refine wq_next ?_ | refine wc_ret ?_ | refine wq_then_ret ?_ | refine wq_block_ret ?_)
    refine wq_seg ?_
    exact wq_retA3T (cs := txnZ) (none, 0, []) rfl rfl rfl rfl rfl rfl (Buf.nil _ _) rfl
  rw [if_neg (by omega)] at hX
  repeat (first | (apply wx_val; (first | exact v_move rfl | exact v_assign rfl | exact v_nil rfl | exact v_faddr rfl rfl | exact v_ldT rfl rfl rfl (by rfl) | exact v_ge rfl rfl); rfl) | refine wc_seq ?_ | refine wc_region ?_ | refine wx_nil ?_ | refine wq_next ?_)
  refine wc_if rfl (fun h5 => ?_) (fun h5 => ?_)
  · rw [if_pos (by omega)] at hX
    subst hX
    dsimp only
    repeat (first | refine wc_seq ?_)
    refine wc_heldX [] [[(g5, .cells txnZ.toArray 46 (0, 0))]] rfl (by (repeat (first | with_reducible exact panicNot_of panicOk_body | with_reducible apply panicNot_block | with_reducible apply panicNot_then))) (fun hQd => ?_)
    (apply wh_takeX 0; (first | exact fun _ h => res_takes h); exact hQd; rfl; rfl; (first | exact v_ldAT rfl (by rfl)); decide +kernel; decide +kernel; decide +kernel; rfl)
    (apply wh_takeX 1; (first | exact fun _ h => h | exact fun _ h => res_takes h); exact hQd; rfl; rfl; exact v_move rfl; decide +kernel; decide +kernel; decide +kernel; rfl)
    (apply wh_takeX 2; (first | exact fun _ h => h | exact fun _ h => res_takes h); exact hQd; rfl; rfl; exact v_move rfl; decide +kernel; decide +kernel; decide +kernel; rfl)
    (apply wh_takeX 3; (first | exact fun _ h => h | exact fun _ h => res_takes h); exact hQd; rfl; rfl; exact v_nil rfl; decide +kernel; decide +kernel; decide +kernel; rfl)
    (apply wh_takeX 4; (first | exact fun _ h => h | exact fun _ h => res_takes h); exact hQd; rfl; rfl; exact v_faddr rfl rfl; decide +kernel; decide +kernel; decide +kernel; rfl)
    refine wh_eff 5 rfl (by decide +kernel) ?_
    repeat (first | (apply wx_val; (first | exact v_ldT rfl rfl rfl (by rfl)); rfl) | refine wx_nil ?_)
    (try refine wx_nil ?_)
    refine wq_held (by (first | exact fun _ h => h | exact fun _ h => res_takes h)) ?_
    refine wh_eff 6 rfl (by decide +kernel) ?_
    refine wl_callT (fun w' hr ho => dcFail_spec (A := A) (c := c) (D := D) D.place 71 w' ho) rfl rfl rfl ?_
    rintro - -
    refine wx_cat ?_
    (try refine wx_nil ?_)
    refine wq_held (by (first | exact fun _ h => h | exact fun _ h => res_takes h)) ?_
    refine wh_eff 7 rfl (by decide +kernel) ?_
    refine wl_stAT (vs := txnZ) rfl rfl (by rfl) (by rfl) (by exact .inl (Nat.le_refl _)) rfl ?_
    refine wx_setn ?_
    (try refine wx_nil ?_)
    refine wq_held (by (first | exact fun _ h => h | exact fun _ h => res_takes h)) ?_
    (apply wh_takeX 8; (first | exact fun _ h => h | exact fun _ h => res_takes h); exact hQd; rfl; rfl; exact v_assign rfl; decide +kernel; decide +kernel; decide +kernel; rfl)
    (apply wh_takeX 9; (first | exact fun _ h => h | exact fun _ h => res_takes h); exact hQd; rfl; rfl; exact v_assign rfl; decide +kernel; decide +kernel; decide +kernel; rfl)
    refine wh_done (by decide +kernel) ?_
    repeat (first | refine wq_next ?_ | refine wc_ret ?_ | refine wq_then_ret ?_ | refine wq_block_ret ?_)
    refine wq_seg ?_
    exact wq_retA3T (cs := txnZ) (none, 0, []) rfl rfl rfl rfl rfl rfl (Buf.nil _ _) rfl
  rw [if_neg (by omega)] at hX
  repeat (first | (apply wx_val; (first | exact v_move rfl | exact v_assign rfl | exact v_nil rfl | exact v_faddr rfl rfl | exact v_ldT rfl rfl rfl (by rfl) | exact v_len rfl rfl | exact v_gt rfl rfl | exact v_subi rfl rfl (by omega)); rfl) | refine wc_seq ?_ | refine wx_nil ?_ | refine wq_next ?_ | refine wc_reads rfl (by decide +kernel) ?_)
  refine wc_if rfl (fun h6 => ?_) (fun h6 => ?_)
  · rw [if_pos (by omega)] at hX
    subst hX
    dsimp only
    repeat (first | refine wc_seq ?_)
    refine wc_heldX [] [[(g5, .cells txnZ.toArray 46 (0, 0))]] rfl (by (repeat (first | with_reducible exact panicNot_of panicOk_body | with_reducible apply panicNot_block | with_reducible apply panicNot_then))) (fun hQd => ?_)
    (apply wh_takeX 0; (first | exact fun _ h => res_takes h); exact hQd; rfl; rfl; (first | exact v_ldAT rfl (by rfl)); decide +kernel; decide +kernel; decide +kernel; rfl)
    (apply wh_takeX 1; (first | exact fun _ h => h | exact fun _ h => res_takes h); exact hQd; rfl; rfl; exact v_move rfl; decide +kernel; decide +kernel; decide +kernel; rfl)
    (apply wh_takeX 2; (first | exact fun _ h => h | exact fun _ h => res_takes h); exact hQd; rfl; rfl; exact v_move rfl; decide +kernel; decide +kernel; decide +kernel; rfl)
    (apply wh_takeX 3; (first | exact fun _ h => h | exact fun _ h => res_takes h); exact hQd; rfl; rfl; exact v_nil rfl; decide +kernel; decide +kernel; decide +kernel; rfl)
    (apply wh_takeX 4; (first | exact fun _ h => h | exact fun _ h => res_takes h); exact hQd; rfl; rfl; exact v_faddr rfl rfl; decide +kernel; decide +kernel; decide +kernel; rfl)
    refine wh_eff 5 rfl (by decide +kernel) ?_
    repeat (first | (apply wx_val; (first | exact v_ldT rfl rfl rfl (by rfl)); rfl) | refine wx_nil ?_)
    (try refine wx_nil ?_)
    refine wq_held (by (first | exact fun _ h => h | exact fun _ h => res_takes h)) ?_
    refine wh_eff 6 rfl (by decide +kernel) ?_
    refine wl_callT (fun w' hr ho => dcMiss_spec (A := A) (c := c) (D := D) D.place hf w' ho) rfl rfl rfl ?_
    rintro - -
    refine wx_cat ?_
    (try refine wx_nil ?_)
    refine wq_held (by (first | exact fun _ h => h | exact fun _ h => res_takes h)) ?_
    refine wh_eff 7 rfl (by decide +kernel) ?_
    refine wl_stAT (vs := txnZ) rfl rfl (by rfl) (by rfl) (by exact .inl (Nat.le_refl _)) rfl ?_
    refine wx_setn ?_
    (try refine wx_nil ?_)
    refine wq_held (by (first | exact fun _ h => h | exact fun _ h => res_takes h)) ?_
    (apply wh_takeX 8; (first | exact fun _ h => h | exact fun _ h => res_takes h); exact hQd; rfl; rfl; exact v_assign rfl; decide +kernel; decide +kernel; decide +kernel; rfl)
    (apply wh_takeX 9; (first | exact fun _ h => h | exact fun _ h => res_takes h); exact hQd; rfl; rfl; exact v_assign rfl; decide +kernel; decide +kernel; decide +kernel; rfl)
    refine wh_done (by decide +kernel) ?_
    repeat (first | refine wq_next ?_ | refine wc_ret ?_ | refine wq_then_ret ?_ | refine wq_block_ret ?_)
    refine wq_seg ?_
    exact wq_retA3T (cs := txnZ) (none, 0, []) rfl rfl rfl rfl rfl rfl (Buf.nil _ _) rfl
  rw [if_neg (by omega)] at hX
  obtain ⟨B, hB⟩ : ∃ B, B = (D.data.drop (D.place + size)).take n := ⟨_, rfl⟩
  have hBl : B.length = n := by rw [hB, List.length_take, List.length_drop]; omega
  rw [← hB] at hX
  repeat (first | (apply wx_val; (first | exact v_move rfl | exact v_assign rfl | exact v_nil rfl | exact v_faddr rfl rfl | exact v_ldT rfl rfl rfl (by rfl) | exact v_addi rfl rfl (by omega)); rfl) | refine wc_seq ?_ | refine wc_region ?_ | refine wx_nil ?_ | refine wq_next ?_ | refine wc_skip ?_ | refine wq_block ?_)
  (try refine wx_ungd rfl rfl ?_)
  apply wx_val
  exact v_sliceN (l := D.place + size) (h := D.place + size + n) (m := B.length) rfl rfl rfl rfl (by omega) hdc (by omega)
  rfl
  refine wl_callT (M1 := []) (fun w' hr ho => refDecode_spec (d := B) (by omega) (by omega) (by simp only [maxLen]; omega) w' (by
    have := vw_cut (sz := 1) (c := c) (h := D.place + size + n) ((hv.keep hr).sub (Y := []) (by simp)) (l := D.place + size) (by omega) (by simp; omega) (by omega)
    rw [Nat.add_sub_cancel_left] at this
    rw [hB]
    simpa [bys, List.map_drop, List.map_take] using this)) rfl rfl rfl ?_
  rintro ⟨A3, c3, E3⟩ hb3
  dsimp only at hb3 ⊢
  refine wx_cat ?_
  have hpl : 0 ≤ (decR B).2.1 ∧ (decR B).2.1 ≤ B.length := by
    rcases dec_cases B with ⟨t, e1, _⟩ | ⟨t, a, e1, _, e2⟩ | ⟨a, e, e1, _, e2, _⟩ <;> rw [e1] <;> dsimp only <;> omega
  generalize decR B = R at hX hb3 hpl ⊢
  obtain ⟨t, pl, er⟩ := R
  dsimp only at hX hb3 hpl ⊢
  obtain ⟨pn, rfl⟩ : ∃ pn : Nat, pl = pn := ⟨pl.toNat, by omega⟩
  rw [Int.toNat_natCast] at hX
  repeat (first | (apply wx_val; (first | exact v_move rfl | exact v_extract rfl rfl); rfl))
  refine wl_alloc rfl rfl (fun g10 => ?_)
  repeat (first | (apply wx_val; (first | exact v_move rfl | exact v_assign rfl | exact v_ne rfl rfl); rfl) | refine wc_seq ?_ | refine wc_region ?_ | refine wx_nil ?_ | refine wq_next ?_ | refine wc_setn ?_ | refine wl_stAT rfl rfl (by rfl) (by rfl) (by exact .inl (Nat.le_refl _)) rfl ?_)
  refine wc_if rfl (fun h7 => ?_) (fun h7 => ?_)
  · rw [if_pos h7] at hX
    subst hX
    dsimp only
    repeat (first | refine wc_seq ?_)
    refine wc_heldX [] [[(g5, .cells txnZ.toArray 46 (0, 0))]] rfl (by (repeat (first | with_reducible exact panicNot_of panicOk_body | with_reducible apply panicNot_then))) (fun hQd => ?_)
    (apply wh_takeX 0; (first | exact fun _ h => res_takes h); exact hQd; rfl; rfl; (first | exact v_ldAT rfl (by rfl)); decide +kernel; decide +kernel; decide +kernel; rfl)
    (apply wh_takeX 1; (first | exact fun _ h => h | exact fun _ h => res_takes h); exact hQd; rfl; rfl; exact v_move rfl; decide +kernel; decide +kernel; decide +kernel; rfl)
    (apply wh_takeX 2; (first | exact fun _ h => h | exact fun _ h => res_takes h); exact hQd; rfl; rfl; exact v_move rfl; decide +kernel; decide +kernel; decide +kernel; rfl)
    (apply wh_takeX 3; (first | exact fun _ h => h | exact fun _ h => res_takes h); exact hQd; rfl; rfl; exact v_move rfl; decide +kernel; decide +kernel; decide +kernel; rfl)
    (apply wh_takeX 4; (first | exact fun _ h => h | exact fun _ h => res_takes h); exact hQd; rfl; rfl; (first | exact v_addi rfl rfl (by omega) | exact v_add rfl rfl); decide +kernel; decide +kernel; decide +kernel; rfl)
    (apply wh_takeX 5; (first | exact fun _ h => h | exact fun _ h => res_takes h); exact hQd; rfl; rfl; exact v_move rfl; decide +kernel; decide +kernel; decide +kernel; rfl)
    refine wh_eff 6 rfl (by decide +kernel) ?_
    refine wl_callT (fun w' hr ho => dcFail_spec (A := A) (c := c) (D := D) (D.place + size + pn) er w' ho) rfl rfl rfl ?_
    rintro - -
    refine wx_cat ?_
    (try refine wx_nil ?_)
    refine wq_held (by (first | exact fun _ h => h | exact fun _ h => res_takes h)) ?_
    refine wh_eff 7 rfl (by decide +kernel) ?_
    refine wl_stAT (vs := txnZ) rfl rfl (by rfl) (by rfl) (by exact .inl (Nat.le_refl _)) rfl ?_
    refine wx_setn ?_
    (try refine wx_nil ?_)
    refine wq_held (by (first | exact fun _ h => h | exact fun _ h => res_takes h)) ?_
    (apply wh_takeX 8; (first | exact fun _ h => h | exact fun _ h => res_takes h); exact hQd; rfl; rfl; exact v_assign rfl; decide +kernel; decide +kernel; decide +kernel; rfl)
    (apply wh_takeX 9; (first | exact fun _ h => h | exact fun _ h => res_takes h); exact hQd; rfl; rfl; exact v_assign rfl; decide +kernel; decide +kernel; decide +kernel; rfl)
    refine wh_done (by decide +kernel) ?_
    repeat (first | refine wq_next ?_ | refine wc_ret ?_ | refine wq_then_ret ?_)
    refine wq_seg ?_
    exact wq_retA3T (cs := txnZ) (none, 0, []) rfl rfl rfl rfl rfl rfl (Buf.nil _ _) rfl
  rw [if_neg h7] at hX
  subst hX
  dsimp only
  repeat (first | (apply wx_val; (first | exact v_move rfl | exact v_assign rfl | exact v_nil rfl | exact v_faddr rfl rfl | exact v_ldT rfl rfl rfl (by rfl) | exact v_addi rfl rfl (by omega) | (first | exact v_ldQ 0 0 rfl rfl rfl rfl rfl)); rfl) | refine wc_seq ?_ | refine wc_region ?_ | refine wx_nil ?_ | refine wq_next ?_ | refine wc_ret ?_ | refine wc_skip ?_ | refine wx_setn ?_ | refine wq_setn ?_ | refine wl_storeT rfl rfl rfl (by rfl) (by exact .inl (Nat.le_refl _)) rfl ?_ | refine wl_stAT rfl rfl (by rfl) (by rfl) (by exact .inl (Nat.le_refl _)) rfl ?_)
  refine wq_blk g (dcC { D with place := D.place + size + n, count := D.count + 1 } A c) (by rfl) ?_
  refine wq_setn ?_
  exact wq_retA3T (cs := t.cells A3 c3) (A3, c3, E3) rfl rfl rfl rfl rfl rfl hb3 rfl
theorem dcNext_spec (hd : D.data.length ≤ 140737488355328) (hdc : D.data.length ≤ c) (hcm : c ≤ maxLen) (hp : D.fault = 0 → D.place ≤ D.data.length) (hk : D.count ≤ 4096) (hpf : D.fault = 0 → D.place = 0 → D.foot = false) (w : World) (hv : Vw (ids [dcB g A c D]) w A (bys D.data)) (ho : Own w [dcB g A c D]) :
    Calls Try.prog 30 #[.pointer (some ⟨g, 0, none⟩)] w (DNextR D.next g A c w (ids [dcB g A c D])) := by
  refine go [.pointer (some ⟨g, 0, none⟩)] [dcB g A c D] Try.func30 Try.ntmps30 rfl rfl ho ?_
  unfold DNextR
  generalize hX : D.next = X
  unfold Dsc.next at hX
  repeat (first | refine wc_seq ?_ | refine wc_region ?_)
  refine wl_alloc rfl rfl (fun g2 => ?_)
  repeat (first | (apply wx_val; (first | exact v_assign rfl); rfl) | refine wc_seq ?_ | refine wc_region ?_ | refine wx_nil ?_ | refine wq_next ?_)
  refine wl_alloc rfl rfl (fun g5 => ?_)
  refine wx_blk g5 txnZ rfl ?_
  refine wx_setn ?_
  repeat (first | (apply wx_val; (first | exact v_move rfl | exact v_nil rfl | exact v_faddr rfl rfl | exact v_ldT rfl rfl rfl (by rfl) | exact v_ne rfl rfl); rfl) | refine wc_seq ?_ | refine wc_region ?_ | refine wx_nil ?_ | refine wq_next ?_)
  refine wc_if rfl (fun h0 => ?_) (fun h0 => ?_)
  · rw [if_pos h0] at hX
    subst hX
    dsimp only
    repeat (first | refine wc_seq ?_)
    refine wc_heldX [] [dcB g A c D, [(g5, .cells txnZ.toArray 46 (0, 0))]] rfl (by (repeat (first | with_reducible exact panicNot_of panicOk_body | with_reducible apply panicNot_then))) (fun hQd => ?_)
    (apply wh_takeX 0; (first | exact fun _ h => res_takes h); exact hQd; rfl; rfl; (first | exact v_ldAT rfl (by rfl)); decide +kernel; decide +kernel; decide +kernel; rfl)
    (apply wh_takeX 1; (first | exact fun _ h => h | exact fun _ h => res_takes h); exact hQd; rfl; rfl; exact v_move rfl; decide +kernel; decide +kernel; decide +kernel; rfl)
    (apply wh_takeX 2; (first | exact fun _ h => h | exact fun _ h => res_takes h); exact hQd; rfl; rfl; exact v_nil rfl; decide +kernel; decide +kernel; decide +kernel; rfl)
    (apply wh_takeX 3; (first | exact fun _ h => h | exact fun _ h => res_takes h); exact hQd; rfl; rfl; exact v_faddr rfl rfl; decide +kernel; decide +kernel; decide +kernel; rfl)
    (apply wh_takeX 4; (first | exact fun _ h => res_takes h); exact hQd; rfl; rfl; (first | exact v_ldT rfl rfl rfl (by rfl)); decide +kernel; decide +kernel; decide +kernel; rfl)
    refine wh_eff 5 rfl (by decide +kernel) ?_
    refine wl_stAT (vs := txnZ) rfl rfl (by rfl) (by rfl) (by exact .inl (Nat.le_refl _)) rfl ?_
    refine wx_setn ?_
    (try refine wx_nil ?_)
    refine wq_held (by (first | exact fun _ h => h | exact fun _ h => res_takes h)) ?_
    (apply wh_takeX 6; (first | exact fun _ h => h | exact fun _ h => res_takes h); exact hQd; rfl; rfl; exact v_assign rfl; decide +kernel; decide +kernel; decide +kernel; rfl)
    (apply wh_takeX 7; (first | exact fun _ h => h | exact fun _ h => res_takes h); exact hQd; rfl; rfl; exact v_assign rfl; decide +kernel; decide +kernel; decide +kernel; rfl)
    refine wh_done (by decide +kernel) ?_
    repeat (first | refine wq_next ?_ | refine wc_ret ?_ | refine wq_then_ret ?_)
    refine wq_seg ?_
    exact wq_retA3T (cs := txnZ) (none, 0, []) rfl rfl rfl rfl rfl rfl (Buf.nil _ _) rfl
  rw [if_neg h0] at hX
  have hf : D.fault = 0 := Decidable.not_not.1 h0
  have hp' := hp hf
  repeat (first | refine wc_seq ?_ | refine wc_region ?_ | refine wq_next ?_ | refine wc_skip ?_)
  (try refine wx_ungd rfl rfl ?_)
  apply wx_val
  exact v_build (cs := ((bys magicB)).toArray) rfl (by kernel_rfl)
  rfl
  refine wl_alloc rfl rfl (fun g6 => ?_)
  refine wl_stAT (vs := bys magicB) rfl rfl (by rfl) (by rfl) (by exact .inl (Nat.le_refl _)) rfl ?_
  repeat (first | (apply wx_val; (first | exact v_move rfl | exact v_nil rfl | exact v_faddr rfl rfl | exact v_ldT rfl rfl rfl (by rfl) | exact v_eq rfl rfl); rfl) | refine wc_seq ?_ | refine wc_region ?_ | refine wx_nil ?_ | refine wq_next ?_ | refine wx_setn ?_)
  refine wc_if rfl (fun h1 => ?_) (fun h1 => ?_)
  · rw [if_pos (by omega)] at hX
    have hfo := hpf hf (by omega)
    repeat (first | (apply wx_val; (first | exact v_assign rfl); rfl) | refine wc_seq ?_ | refine wc_region ?_ | refine wx_nil ?_ | refine wq_next ?_ | refine wc_block ?_)
    refine wc_loopK (ι := Nat) [0, 2, 5, 6] (fun i => [(7, .int .i64 (i : Nat))]) (fun i => [dcB g A c D, [(g6, .cells (bys magicB).toArray 81 (0, 0))]]) (fun i => i ≤ 4 ∧ i ≤ D.data.length ∧ headAt magicB D.data 0 = headAt (magicB.drop i) (D.data.drop i) i) (fun i => 4 - i) (0) rfl ?_ (by repeat (first | exact trivial | refine ⟨rfl, ?_⟩)) ?_
    · exact ⟨by decide, Nat.zero_le _, rfl⟩
    rintro i ⟨hi, hil, hh⟩
    try dsimp only
    refine wc_fcat ?_
    refine wc_cat ?_
    repeat (first | (apply wx_val; (first | exact v_move rfl | exact v_lt rfl rfl); rfl) | refine wc_seq ?_ | refine wc_region ?_ | refine wx_nil ?_ | refine wq_next ?_)
    refine wc_if rfl (fun h2 => ?_) (fun h2 => ?_)
    · repeat (first | (apply wx_val; (first | exact v_move rfl | exact v_nil rfl | exact v_faddr rfl rfl | exact v_ldT rfl rfl rfl (by rfl) | exact v_len rfl rfl | exact v_ge rfl rfl); rfl) | refine wc_seq ?_ | refine wc_region ?_ | refine wx_nil ?_ | refine wq_next ?_ | refine wc_block ?_ | refine wc_skip ?_)
      refine wc_if rfl (fun h3 => ?_) (fun h3 => ?_)
      · rw [head_end (by omega) (by omega)] at hh
        rw [hh] at hX
        subst hX
        dsimp only
        repeat (first | refine wc_seq ?_)
        refine wc_heldX [] [[(g5, .cells txnZ.toArray 46 (0, 0))]] rfl (by (repeat (first | with_reducible exact panicNot_of panicOk_body | with_reducible apply panicNot_block | with_reducible apply panicNot_then))) (fun hQd => ?_)
        (apply wh_takeX 0; (first | exact fun _ h => res_takes h); exact hQd; rfl; rfl; (first | exact v_ldAT rfl (by rfl)); decide +kernel; decide +kernel; decide +kernel; rfl)
        (apply wh_takeX 1; (first | exact fun _ h => h | exact fun _ h => res_takes h); exact hQd; rfl; rfl; exact v_move rfl; decide +kernel; decide +kernel; decide +kernel; rfl)
        (apply wh_takeX 2; (first | exact fun _ h => h | exact fun _ h => res_takes h); exact hQd; rfl; rfl; exact v_move rfl; decide +kernel; decide +kernel; decide +kernel; rfl)
        refine wh_eff 3 rfl (by decide +kernel) ?_
        refine wl_callT (fun w' hr ho => dcMiss_spec (A := A) (c := c) (D := D) i hf w' ho) rfl rfl rfl ?_
        rintro - -
        refine wx_cat ?_
        (try refine wx_nil ?_)
        refine wq_held (by (first | exact fun _ h => h | exact fun _ h => res_takes h)) ?_
        refine wh_eff 4 rfl (by decide +kernel) ?_
        refine wl_stAT (vs := txnZ) rfl rfl (by rfl) (by rfl) (by exact .inl (Nat.le_refl _)) rfl ?_
        refine wx_setn ?_
        (try refine wx_nil ?_)
        refine wq_held (by (first | exact fun _ h => h | exact fun _ h => res_takes h)) ?_
        (apply wh_takeX 5; (first | exact fun _ h => h | exact fun _ h => res_takes h); exact hQd; rfl; rfl; exact v_assign rfl; decide +kernel; decide +kernel; decide +kernel; rfl)
        (apply wh_takeX 6; (first | exact fun _ h => h | exact fun _ h => res_takes h); exact hQd; rfl; rfl; exact v_assign rfl; decide +kernel; decide +kernel; decide +kernel; rfl)
        refine wh_done (by decide +kernel) ?_
        repeat (first | refine wq_next ?_ | refine wc_ret ?_ | refine wq_then_ret ?_ | refine wq_block_ret ?_)
        refine wq_seg ?_
        exact wq_retA3T (cs := txnZ) (none, 0, []) rfl rfl rfl rfl rfl rfl (Buf.nil _ _) rfl
      rw [head_go (by omega) (by omega)] at hh
      obtain ⟨gA, oA, hA, hcA⟩ := hv.atB (i := i) (by omega)
      repeat (first | (apply wx_val; (first | exact v_move rfl | exact v_nil rfl | exact v_faddr rfl rfl | exact v_ldT rfl rfl rfl (by rfl) | exact v_iaddrE (by assumption) rfl rfl rfl (by omega)); rfl) | refine wc_seq ?_ | refine wq_next ?_ | refine wc_skip ?_ | refine wc_reads rfl (by decide +kernel) ?_)
      (try refine wx_ungd rfl rfl ?_)
      apply wx_val
      exact v_load rfl rfl rfl (fun w' hr => by rw [show oA + ((i : Nat) : Int).toNat * 1 = oA + i by rw [Int.toNat_natCast, Nat.mul_one]]; exact hcA i w' _ (by omega) hr)
      rfl
      repeat (first | (apply wx_val; (first | exact v_move rfl | exact v_paddr rfl rfl rfl (by omega)); rfl))
      (try refine wx_ungd rfl rfl ?_)
      apply wx_val
      exact v_ldO i rfl rfl rfl (by show 0 + ((i : Nat) : Int).toNat * 1 = i; rw [Int.toNat_natCast]; omega) (magic_at (by omega))
      rfl
      repeat (first | (apply wx_val; (first | exact v_ne rfl rfl); rfl) | refine wx_nil ?_ | refine wq_next ?_)
      refine wc_if rfl (fun h4 => ?_) (fun h4 => ?_)
      · rw [if_neg (by intro e; exact h4 (by rw [e]))] at hh
        rw [hh] at hX
        subst hX
        dsimp only
        repeat (first | refine wc_seq ?_)
        refine wc_heldX [] [[(g5, .cells txnZ.toArray 46 (0, 0))]] rfl (by (repeat (first | with_reducible exact panicNot_of panicOk_body | with_reducible apply panicNot_block | with_reducible apply panicNot_then))) (fun hQd => ?_)
        (apply wh_takeX 0; (first | exact fun _ h => res_takes h); exact hQd; rfl; rfl; (first | exact v_ldAT rfl (by rfl)); decide +kernel; decide +kernel; decide +kernel; rfl)
        (apply wh_takeX 1; (first | exact fun _ h => h | exact fun _ h => res_takes h); exact hQd; rfl; rfl; exact v_move rfl; decide +kernel; decide +kernel; decide +kernel; rfl)
        (apply wh_takeX 2; (first | exact fun _ h => h | exact fun _ h => res_takes h); exact hQd; rfl; rfl; exact v_move rfl; decide +kernel; decide +kernel; decide +kernel; rfl)
        refine wh_eff 3 rfl (by decide +kernel) ?_
        refine wl_callT (fun w' hr ho => dcFail_spec (A := A) (c := c) (D := D) i 70 w' ho) rfl rfl rfl ?_
        rintro - -
        refine wx_cat ?_
        (try refine wx_nil ?_)
        refine wq_held (by (first | exact fun _ h => h | exact fun _ h => res_takes h)) ?_
        refine wh_eff 4 rfl (by decide +kernel) ?_
        refine wl_stAT (vs := txnZ) rfl rfl (by rfl) (by rfl) (by exact .inl (Nat.le_refl _)) rfl ?_
        refine wx_setn ?_
        (try refine wx_nil ?_)
        refine wq_held (by (first | exact fun _ h => h | exact fun _ h => res_takes h)) ?_
        (apply wh_takeX 5; (first | exact fun _ h => h | exact fun _ h => res_takes h); exact hQd; rfl; rfl; exact v_assign rfl; decide +kernel; decide +kernel; decide +kernel; rfl)
        (apply wh_takeX 6; (first | exact fun _ h => h | exact fun _ h => res_takes h); exact hQd; rfl; rfl; exact v_assign rfl; decide +kernel; decide +kernel; decide +kernel; rfl)
        refine wh_done (by decide +kernel) ?_
        repeat (first | refine wq_next ?_ | refine wc_ret ?_ | refine wq_then_ret ?_ | refine wq_block_ret ?_)
        refine wq_seg ?_
        exact wq_retA3T (cs := txnZ) (none, 0, []) rfl rfl rfl rfl rfl rfl (Buf.nil _ _) rfl
      · have h4' : D.data.getD i 0 = magicB.getD i 0 := by
          have : ¬ ((D.data.getD i 0).toNat : Int) ≠ (magicB.getD i 0).toNat := h4
          exact UInt8.toNat_inj.1 (by omega)
        rw [if_pos h4'] at hh
        repeat (first | (apply wx_val; (first | exact v_move rfl | exact v_assign rfl | exact v_addi rfl rfl (by omega)); rfl) | refine wc_region ?_ | refine wx_nil ?_ | refine wq_next ?_ | refine wc_skip ?_ | refine wq_block ?_)
        refine wq_roundK (i + 1) ?_ ?_ (by repeat (first | exact trivial | refine ⟨rfl, ?_⟩)) (by first | exact catEq | exact rfl)
        · exact ⟨by omega, by omega, hh⟩
        · omega
    · obtain rfl : i = 4 := by omega
      have hh' : headAt magicB D.data 0 = none := by rw [hh]; rfl
      rw [hh'] at hX
      dsimp only at hX
      subst hX
      repeat (first | (apply wx_val; (first | exact v_move rfl | exact v_nil rfl | exact v_faddr rfl rfl | exact v_ldT rfl rfl rfl (by rfl)); rfl) | refine wc_seq ?_ | refine wc_region ?_ | refine wx_nil ?_ | refine wq_next ?_ | refine wc_exit ?_ | refine wq_then_exit ?_ | refine wq_block_exit rfl ?_ | refine wx_setn ?_ | refine wl_storeT rfl rfl rfl (by rfl) (by exact .inl (Nat.le_refl _)) rfl ?_)
      refine wc_blk g (dcC { D with place := 4 } A c) (by rfl) ?_
      refine wc_setn ?_
      refine wc_bool rfl (fun h5 => ?_) (fun _ => ?_)
      · have h5' : D.foot = true := h5
        rw [hfo] at h5'
        cases h5'
      repeat (first | (apply wx_val; (first | exact v_move rfl); rfl) | refine wc_seq ?_ | refine wc_region ?_ | refine wq_next ?_ | refine wc_skip ?_)
      refine wl_callT (fun w' hr ho => dcEntry_spec (A := A) (c := c) (D := { D with place := 4 }) hd hdc hcm hil hf hk w' (hv.held hr (fun i hi => by rw [ids_append]; exact List.mem_append.2 (.inl hi))) ho) rfl rfl rfl ?_
      rintro ⟨A4, c4, E4⟩ hb3
      dsimp only at hb3 ⊢
      repeat (first | (apply wx_val; (first | exact v_assign rfl | exact v_extract rfl rfl); rfl) | refine wx_nil ?_ | refine wq_next ?_ | refine wc_ret ?_ | refine wq_setn ?_ | refine wx_cat ?_ | refine wl_stAT rfl rfl (by rfl) (by rfl) (by exact .inl (Nat.le_refl _)) rfl ?_)
      exact wq_retA3T (cs := TxnP.cells _ A4 c4) (A4, c4, E4) rfl rfl rfl rfl rfl rfl hb3 rfl
  rw [if_neg (by omega)] at hX
  repeat (first | (apply wx_val; (first | exact v_move rfl | exact v_nil rfl | exact v_faddr rfl rfl | exact v_ldT rfl rfl rfl (by rfl)); rfl) | refine wc_seq ?_ | refine wc_region ?_ | refine wx_nil ?_ | refine wq_next ?_ | refine wc_skip ?_)
  refine wc_bool rfl (fun h2 => ?_) (fun h2 => ?_)
  · rw [if_pos h2] at hX
    repeat (first | (apply wx_val; (first | exact v_move rfl | exact v_nil rfl | exact v_faddr rfl rfl | exact v_ldT rfl rfl rfl (by rfl) | exact v_len rfl rfl | exact v_lt rfl rfl); rfl) | refine wc_seq ?_ | refine wx_nil ?_ | refine wq_next ?_ | refine wc_reads rfl (by decide +kernel) ?_)
    refine wc_if rfl (fun h3 => ?_) (fun h3 => ?_)
    · rw [if_pos (by omega)] at hX
      subst hX
      dsimp only
      repeat (first | refine wc_seq ?_)
      refine wc_heldX [] [[(g5, .cells txnZ.toArray 46 (0, 0))]] rfl (by (repeat (first | with_reducible exact panicNot_of panicOk_body | with_reducible apply panicNot_then))) (fun hQd => ?_)
      (apply wh_takeX 0; (first | exact fun _ h => res_takes h); exact hQd; rfl; rfl; (first | exact v_ldAT rfl (by rfl)); decide +kernel; decide +kernel; decide +kernel; rfl)
      (apply wh_takeX 1; (first | exact fun _ h => h | exact fun _ h => res_takes h); exact hQd; rfl; rfl; exact v_move rfl; decide +kernel; decide +kernel; decide +kernel; rfl)
      (apply wh_takeX 2; (first | exact fun _ h => h | exact fun _ h => res_takes h); exact hQd; rfl; rfl; exact v_move rfl; decide +kernel; decide +kernel; decide +kernel; rfl)
      (apply wh_takeX 3; (first | exact fun _ h => h | exact fun _ h => res_takes h); exact hQd; rfl; rfl; exact v_nil rfl; decide +kernel; decide +kernel; decide +kernel; rfl)
      (apply wh_takeX 4; (first | exact fun _ h => h | exact fun _ h => res_takes h); exact hQd; rfl; rfl; exact v_faddr rfl rfl; decide +kernel; decide +kernel; decide +kernel; rfl)
      refine wh_eff 5 rfl (by decide +kernel) ?_
      repeat (first | (apply wx_val; (first | exact v_ldT rfl rfl rfl (by rfl)); rfl) | refine wx_nil ?_)
      (try refine wx_nil ?_)
      refine wq_held (by (first | exact fun _ h => h | exact fun _ h => res_takes h)) ?_
      refine wh_eff 6 rfl (by decide +kernel) ?_
      refine wl_callT (fun w' hr ho => dcFail_spec (A := A) (c := c) (D := D) D.place 61 w' ho) rfl rfl rfl ?_
      rintro - -
      refine wx_cat ?_
      (try refine wx_nil ?_)
      refine wq_held (by (first | exact fun _ h => h | exact fun _ h => res_takes h)) ?_
      refine wh_eff 7 rfl (by decide +kernel) ?_
      refine wl_stAT (vs := txnZ) rfl rfl (by rfl) (by rfl) (by exact .inl (Nat.le_refl _)) rfl ?_
      refine wx_setn ?_
      (try refine wx_nil ?_)
      refine wq_held (by (first | exact fun _ h => h | exact fun _ h => res_takes h)) ?_
      (apply wh_takeX 8; (first | exact fun _ h => h | exact fun _ h => res_takes h); exact hQd; rfl; rfl; exact v_assign rfl; decide +kernel; decide +kernel; decide +kernel; rfl)
      (apply wh_takeX 9; (first | exact fun _ h => h | exact fun _ h => res_takes h); exact hQd; rfl; rfl; exact v_assign rfl; decide +kernel; decide +kernel; decide +kernel; rfl)
      refine wh_done (by decide +kernel) ?_
      repeat (first | refine wq_next ?_ | refine wc_ret ?_ | refine wq_then_ret ?_)
      refine wq_seg ?_
      exact wq_retA3T (cs := txnZ) (none, 0, []) rfl rfl rfl rfl rfl rfl (Buf.nil _ _) rfl
    · rw [if_neg (by omega)] at hX
      subst hX
      dsimp only
      repeat (first | (apply wx_val; (first | exact v_assign rfl | exact v_ldAT rfl (by rfl)); rfl) | refine wc_seq ?_ | refine wc_region ?_ | refine wx_nil ?_ | refine wq_next ?_ | refine wc_ret ?_ | refine wc_skip ?_ | refine wq_then_ret ?_ | refine wq_setn ?_ | refine wl_stAT rfl rfl (by rfl) (by rfl) (by exact .inl (Nat.le_refl _)) rfl ?_)
      refine wq_seg ?_
      exact wq_retA3T (cs := txnZ) (none, 0, []) rfl rfl rfl rfl rfl rfl (Buf.nil _ _) rfl
  · rw [if_neg (by rw [h2]; decide)] at hX
    subst hX
    repeat (first | (apply wx_val; (first | exact v_move rfl); rfl) | refine wc_seq ?_ | refine wc_region ?_ | refine wq_next ?_ | refine wc_skip ?_)
    refine wl_callT (fun w' hr ho => dcEntry_spec (A := A) (c := c) (D := D) hd hdc hcm hp' hf hk w' (hv.held hr (fun i hi => by rw [ids_append]; exact List.mem_append.2 (.inl hi))) ho) rfl rfl rfl ?_
    rintro ⟨A4, c4, E4⟩ hb3
    dsimp only at hb3 ⊢
    repeat (first | (apply wx_val; (first | exact v_assign rfl | exact v_extract rfl rfl); rfl) | refine wx_nil ?_ | refine wq_next ?_ | refine wc_ret ?_ | refine wq_setn ?_ | refine wx_cat ?_ | refine wl_stAT rfl rfl (by rfl) (by rfl) (by exact .inl (Nat.le_refl _)) rfl ?_)
    exact wq_retA3T (cs := TxnP.cells _ A4 c4) (A4, c4, E4) rfl rfl rfl rfl rfl rfl hb3 rfl
end dc
end Go.Proofs.Ytjfjleejbbmmaaa
