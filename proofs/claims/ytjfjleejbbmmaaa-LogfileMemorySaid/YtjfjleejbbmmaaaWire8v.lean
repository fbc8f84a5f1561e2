/- The reference's cursor, over bytes of older memory. -/
import Derived.Test.YtjfjleejbbmmaaaWire8a
set_option linter.unusedVariables false
set_option linter.unusedSimpArgs false
set_option maxRecDepth 20000
namespace Go.Proofs.Ytjfjleejbbmmaaa
open Go
attribute [local irreducible] WX WC WQ Val VCall
/-- the bytes that a call hands back: a part of the cursor's -/
def CutOf (A : Option Addr) (c : Nat) (d l : List UInt8) (r : Option Addr × Nat) : Prop := l = [] ∨ ∃ a b, a ≤ b ∧ b ≤ d.length ∧ r.1 = cutA A a b c 1 ∧ r.2 = c - a ∧ l = (d.drop a).take (b - a)
theorem CutOf.vw {A : Option Addr} {c : Nat} {d l : List UInt8} {r : Option Addr × Nat} (h : CutOf A c d l r) (hc : d.length ≤ c) {X : List Nat} {w : World} (hv : Vw X w A (bys d)) : Vw X w r.1 (bys l) := by
  rcases h with rfl | ⟨a, b, h1, h2, h3, _, rfl⟩
  · exact Vw.nil
  · have := vw_cut (sz := 1) (c := c) hv h1 (by simpa using h2) (by omega)
    rw [h3]
    simpa [bys, List.map_drop, List.map_take] using this
set_option maxHeartbeats 2000000 in
theorem StepV_spec {g : Nat} {A : Option Addr} {c p : Nat} {d : List UInt8} {f k a b : Int} (hd : d.length ≤ 140737488355328) (hc : d.length ≤ c) (hcm : c ≤ maxLen) (hp : p ≤ d.length) (hk : 1 ≤ k ∧ k ≤ 4) (w : World) (hv : Vw (ids [refB g A d.length c p f]) w A (bys d)) (ho : Own w [refB g A d.length c p f]) :
    Calls Try.prog 72 #[.pointer (some ⟨g, 0, none⟩), .int .i64 k, .int .i64 a, .int .i64 b] w (Ret (β := Option Addr × Nat) w (ids [refB g A d.length c p f]) (fun r => .tuple #[.int .i64 (rStep d p f k a b).1, .slice r.1 (rStep d p f k a b).2.1.length r.2, .int .i64 (rStep d p f k a b).2.2.1])
      (fun _ => [refB g A d.length c (rStep d p f k a b).2.2.2.1 (rStep d p f k a b).2.2.2.2]) (CutOf A c d (rStep d p f k a b).2.1)) := by
  refine go [.pointer (some ⟨g, 0, none⟩), .int .i64 k, .int .i64 a, .int .i64 b] [refB g A d.length c p f] Try.func72 Try.ntmps72 rfl rfl ho ?_
  simp only [maxLen] at hcm
  by_cases hf : f = 0
  · subst hf
    obtain rfl | rfl | rfl | rfl : k = 1 ∨ k = 2 ∨ k = 3 ∨ k = 4 := by omega
    · repeat (first | (apply wx_val; (first | exact v_move rfl | exact v_assign rfl | exact v_nil rfl | exact v_faddr rfl rfl | (apply v_load rfl rfl rfl; first | exact ld 0 0 rfl rfl rfl | exact ld 1 0 rfl rfl rfl | exact ld 2 0 rfl rfl rfl | exact ld 3 0 rfl rfl rfl | exact ld 4 0 rfl rfl rfl | exact ld 5 0 rfl rfl rfl) | exact v_len rfl rfl | exact v_eq rfl rfl | exact v_ne rfl rfl | exact v_lt rfl rfl | exact v_subi rfl rfl (by omega) | exact v_pickT rfl rfl | exact v_pickF rfl rfl); rfl) | refine wx_ungd rfl rfl ?_ | refine wc_seq ?_ | refine wc_region ?_ | refine wx_nil ?_ | refine wq_next ?_ | refine wc_block ?_ | refine wc_skip ?_ | refine wc_reads rfl (by decide +kernel) ?_ | refine wc_condF rfl ?_)
      refine wc_if rfl (fun h1 => ?_) (fun h1 => ?_)
      · have er : rStep d p 0 1 a b = (0, [], 51, p, 51) := by
          have eb : cByte d p 0 = ((0, 51, ((p : Nat) : Int), 51) : Int × Int × Int × Int) := by rw [cByte, if_neg (by omega), if_pos (by omega)]
          rw [rStep, if_pos rfl, eb]; rfl
        rw [er]
        repeat (first | (apply wx_val; (first | exact v_move rfl | exact v_assign rfl | exact v_nil rfl | exact v_faddr rfl rfl | (apply v_load rfl rfl rfl; first | exact ld 0 0 rfl rfl rfl | exact ld 1 0 rfl rfl rfl | exact ld 2 0 rfl rfl rfl | exact ld 3 0 rfl rfl rfl | exact ld 4 0 rfl rfl rfl | exact ld 5 0 rfl rfl rfl) | exact v_ne rfl rfl); rfl) | refine wc_seq ?_ | refine wc_region ?_ | refine wx_nil ?_ | refine wq_next ?_ | refine wc_ret ?_ | refine wq_then_ret ?_ | refine wq_block ?_ | refine wc_reads rfl (by decide +kernel) ?_ | refine wc_condT rfl ?_ | refine wl_store 0 rfl rfl rfl rfl (Nat.le_of_ble_eq_true rfl) (.inl (Nat.le_refl _)) rfl ?_)
        exact wq_ret3 (none, 0) rfl rfl rfl rfl rfl (.inl rfl) rfl
      · have er : rStep d p 0 1 a b = (((((d.getD p 0).toNat : Nat) : Int), [], 0, p + 1, 0) : Int × List UInt8 × Int × Nat × Int) := by
          have eb : cByte d p 0 = ((((d.getD p 0).toNat : Int), 0, ((p : Nat) : Int) + 1, 0) : Int × Int × Int × Int) := by rw [cByte, if_neg (by omega), if_neg (by omega)]
          rw [rStep, if_pos rfl, eb]
          show (_, _, _, ((p : Int) + 1).toNat, _) = _
          rw [show ((p : Int) + 1).toNat = p + 1 by omega]
        rw [er]
        obtain ⟨gd, od, rfl, hc⟩ := hv.atB (i := p) (by omega)
        have hbt : (d.getD p 0).toNat < 256 := (d.getD p 0).toNat_lt
        generalize hx : (d.getD p 0).toNat = x at hbt ⊢
        repeat (first | (apply wx_val; (first | exact v_move rfl | exact v_assign rfl | exact v_nil rfl | exact v_faddr rfl rfl | (apply v_load rfl rfl rfl; first | exact ld 0 0 rfl rfl rfl | exact ld 1 0 rfl rfl rfl | exact ld 2 0 rfl rfl rfl | exact ld 3 0 rfl rfl rfl | exact ld 4 0 rfl rfl rfl | exact ld 5 0 rfl rfl rfl) | exact v_eq rfl rfl | exact v_ne rfl rfl | exact v_addi rfl rfl (by omega) | exact v_pickF rfl rfl | exact v_iaddr rfl rfl rfl (by omega)); rfl) | refine wx_no rfl rfl rfl ?_ | refine wx_undef rfl rfl rfl ?_ | refine wc_seq ?_ | refine wc_region ?_ | refine wx_nil ?_ | refine wq_next ?_ | refine wc_block ?_ | refine wc_skip ?_ | refine wq_block ?_ | refine wc_condT rfl ?_ | refine wc_condF rfl ?_ | refine wl_store 0 rfl rfl rfl rfl (Nat.le_of_ble_eq_true rfl) (.inl (Nat.le_refl _)) rfl ?_)
        apply wx_val
        exact v_ldx rfl rfl rfl (fun w' hr => hc p w' _ (by omega) hr) (by omega)
        rfl
        rw [hx]
        repeat (first | (apply wx_val; (first | exact v_assign rfl | exact v_convi rfl rfl rfl (by omega)); rfl) | refine wx_nil ?_ | refine wq_next ?_ | refine wc_ret ?_ | refine wq_then_ret ?_ | refine wq_block_ret ?_)
        exact wq_ret3 (none, 0) rfl rfl rfl rfl rfl (.inl rfl) rfl
    · have hsz := scanL_size (d.drop p) 0 0
      have hsz2 := scanL_err (d.drop p) 0 0
      have hvl := scanL_val (d.drop p) 0 0 (by omega) (by omega)
      generalize hsc : scanL 0 0 (d.drop p) = sc at hsz hsz2 hvl
      obtain ⟨n, size, e0⟩ := sc
      simp only [List.length_drop] at hsz hsz2 hvl
      have hn : n < 72057594037927936 := hvl
      have hsz3 : size ≤ d.length - p := by
        by_cases h : e0 = 0
        · have := hsz h; omega
        · have := (hsz2 h).2; omega
      repeat (first | (apply wx_val; (first | exact v_move rfl | exact v_assign rfl | exact v_nil rfl | exact v_faddr rfl rfl | (apply v_load rfl rfl rfl; first | exact ld 0 0 rfl rfl rfl | exact ld 1 0 rfl rfl rfl | exact ld 2 0 rfl rfl rfl | exact ld 3 0 rfl rfl rfl | exact ld 4 0 rfl rfl rfl | exact ld 5 0 rfl rfl rfl) | exact v_eq rfl rfl | exact v_ne rfl rfl | exact v_pickT rfl rfl); rfl) | refine wx_no rfl rfl rfl ?_ | refine wc_seq ?_ | refine wc_region ?_ | refine wx_nil ?_ | refine wq_next ?_ | refine wc_skip ?_ | refine wc_condT rfl ?_ | refine wc_condF rfl ?_)
      refine wc_held [refB g A d.length c p 0] rfl ?_
      (apply wh_take 0; (first | exact fun _ h => h); (repeat (first | with_reducible exact panicOk_body | with_reducible apply panicOk_then)); rfl; exact v_move rfl; decide +kernel; decide +kernel; decide +kernel; rfl)
      (apply wh_take 1; (first | exact fun _ h => h); (repeat (first | with_reducible exact panicOk_body | with_reducible apply panicOk_then)); rfl; exact v_nil rfl; decide +kernel; decide +kernel; decide +kernel; rfl)
      (apply wh_take 2; (first | exact fun _ h => h); (repeat (first | with_reducible exact panicOk_body | with_reducible apply panicOk_then)); rfl; exact v_faddr rfl rfl; decide +kernel; decide +kernel; decide +kernel; rfl)
      (apply wh_take 3; (first | exact fun _ h => h); (repeat (first | with_reducible exact panicOk_body | with_reducible apply panicOk_then)); rfl; (apply v_load rfl rfl rfl; first | exact ld 0 0 rfl rfl rfl | exact ld 1 0 rfl rfl rfl | exact ld 2 0 rfl rfl rfl | exact ld 3 0 rfl rfl rfl | exact ld 4 0 rfl rfl rfl | exact ld 5 0 rfl rfl rfl); decide +kernel; decide +kernel; decide +kernel; rfl)
      (apply wh_take 4; (first | exact fun _ h => h); (repeat (first | with_reducible exact panicOk_body | with_reducible apply panicOk_then)); rfl; exact v_move rfl; decide +kernel; decide +kernel; decide +kernel; rfl)
      (apply wh_take 5; (first | exact fun _ h => h); (repeat (first | with_reducible exact panicOk_body | with_reducible apply panicOk_then)); rfl; exact v_nil rfl; decide +kernel; decide +kernel; decide +kernel; rfl)
      (apply wh_take 6; (first | exact fun _ h => h); (repeat (first | with_reducible exact panicOk_body | with_reducible apply panicOk_then)); rfl; exact v_faddr rfl rfl; decide +kernel; decide +kernel; decide +kernel; rfl)
      (apply wh_take 7; (first | exact fun _ h => h); (repeat (first | with_reducible exact panicOk_body | with_reducible apply panicOk_then)); rfl; (apply v_load rfl rfl rfl; first | exact ld 0 0 rfl rfl rfl | exact ld 1 0 rfl rfl rfl | exact ld 2 0 rfl rfl rfl | exact ld 3 0 rfl rfl rfl | exact ld 4 0 rfl rfl rfl | exact ld 5 0 rfl rfl rfl); decide +kernel; decide +kernel; decide +kernel; rfl)
      refine wh_eff 8 rfl (by decide +kernel) ?_
      refine wl_call (M1 := []) (L := [refB g A d.length c p 0]) (fun w' hr => At_spec (c := c) hd hp w' ((hv.keep hr).sub (by simp))) rfl rfl (List.Perm.refl _) rfl (fun _ _ => ?_)
      (try refine wx_nil ?_)
      refine wq_held (by (first | exact fun _ h => h)) ?_
      (apply wh_take 9; (first | exact fun _ h => h); (repeat (first | with_reducible exact panicOk_body | with_reducible apply panicOk_then)); rfl; exact v_move rfl; decide +kernel; decide +kernel; decide +kernel; rfl)
      (apply wh_take 10; (first | exact fun _ h => h); (repeat (first | with_reducible exact panicOk_body | with_reducible apply panicOk_then)); rfl; exact v_extract rfl rfl; decide +kernel; decide +kernel; decide +kernel; rfl)
      (apply wh_take 11; (first | exact fun _ h => h); (repeat (first | with_reducible exact panicOk_body | with_reducible apply panicOk_then)); rfl; exact v_extract rfl rfl; decide +kernel; decide +kernel; decide +kernel; rfl)
      (apply wh_take 12; (first | exact fun _ h => h); (repeat (first | with_reducible exact panicOk_body | with_reducible apply panicOk_then)); rfl; exact v_extract rfl rfl; decide +kernel; decide +kernel; decide +kernel; rfl)
      (apply wh_take 13; (first | exact fun _ h => h); (repeat (first | with_reducible exact panicOk_body | with_reducible apply panicOk_then)); rfl; exact v_assign rfl; decide +kernel; decide +kernel; decide +kernel; rfl)
      (apply wh_take 14; (first | exact fun _ h => h); (repeat (first | with_reducible exact panicOk_body | with_reducible apply panicOk_then)); rfl; exact v_assign rfl; decide +kernel; decide +kernel; decide +kernel; rfl)
      (apply wh_take 15; (first | exact fun _ h => h); (repeat (first | with_reducible exact panicOk_body | with_reducible apply panicOk_then)); rfl; exact v_assign rfl; decide +kernel; decide +kernel; decide +kernel; rfl)
      refine wh_done (by decide +kernel) ?_
      rw [hsc]
      dsimp only
      repeat (first | (apply wx_val; (first | exact v_move rfl | exact v_assign rfl | exact v_nil rfl | exact v_faddr rfl rfl | (apply v_load rfl rfl rfl; first | exact ld 0 0 rfl rfl rfl | exact ld 1 0 rfl rfl rfl | exact ld 2 0 rfl rfl rfl | exact ld 3 0 rfl rfl rfl | exact ld 4 0 rfl rfl rfl | exact ld 5 0 rfl rfl rfl) | exact v_len rfl rfl | exact v_ne rfl rfl | exact v_subi rfl rfl (by omega)); rfl) | refine wc_seq ?_ | refine wc_region ?_ | refine wx_nil ?_ | refine wq_next ?_ | refine wc_block ?_ | refine wc_reads rfl (by decide +kernel) ?_)
      refine wc_if rfl (fun h2 => ?_) (fun h2 => ?_)
      · have h2' : e0 ≠ 0 := h2
        have er : rStep d p 0 2 a b = (0, [], e0, p, e0) := by simp [rStep, cNumber, cText, hsc, h2']
        rw [er]
        repeat (first | (apply wx_val; (first | exact v_move rfl | exact v_nil rfl | exact v_faddr rfl rfl | (apply v_load rfl rfl rfl; first | exact ld 0 0 rfl rfl rfl | exact ld 1 0 rfl rfl rfl | exact ld 2 0 rfl rfl rfl | exact ld 3 0 rfl rfl rfl | exact ld 4 0 rfl rfl rfl | exact ld 5 0 rfl rfl rfl) | exact v_ne rfl rfl); rfl) | refine wc_seq ?_ | refine wc_region ?_ | refine wx_nil ?_ | refine wq_next ?_ | refine wq_block ?_ | refine wl_store 0 rfl rfl rfl rfl (Nat.le_of_ble_eq_true rfl) (.inl (Nat.le_refl _)) rfl ?_)
        refine wc_yes rfl (decide_eq_true h2') ?_
        repeat (first | (apply wx_val; (first | exact v_move rfl | exact v_assign rfl | exact v_nil rfl | exact v_faddr rfl rfl | (apply v_load rfl rfl rfl; first | exact ld 0 0 rfl rfl rfl | exact ld 1 0 rfl rfl rfl | exact ld 2 0 rfl rfl rfl | exact ld 3 0 rfl rfl rfl | exact ld 4 0 rfl rfl rfl | exact ld 5 0 rfl rfl rfl)); rfl) | refine wc_seq ?_ | refine wx_nil ?_ | refine wq_next ?_ | refine wc_ret ?_ | refine wq_then_ret ?_ | refine wc_reads rfl (by decide +kernel) ?_)
        exact wq_ret3 (none, 0) rfl rfl rfl rfl rfl (.inl rfl) rfl
      · obtain rfl : e0 = 0 := Decidable.not_not.1 h2
        have hsz4 := hsz rfl
        repeat (first | (apply wx_val; (first | exact v_move rfl | exact v_assign rfl | exact v_eq rfl rfl | exact v_gt rfl rfl | exact v_pickT rfl rfl | exact v_pickF rfl rfl); rfl) | refine wx_no rfl rfl rfl ?_ | refine wx_ungd rfl rfl ?_ | refine wc_seq ?_ | refine wc_region ?_ | refine wx_nil ?_ | refine wq_next ?_ | refine wc_condF rfl ?_)
        refine wc_if rfl (fun h3 => ?_) (fun h3 => ?_)
        · have er : rStep d p 0 2 a b = (0, [], 53, p, 53) := by simp [rStep, cNumber, hsc, h3]
          rw [er]
          repeat (first | (apply wx_val; (first | exact v_move rfl | exact v_assign rfl | exact v_nil rfl | exact v_faddr rfl rfl | (apply v_load rfl rfl rfl; first | exact ld 0 0 rfl rfl rfl | exact ld 1 0 rfl rfl rfl | exact ld 2 0 rfl rfl rfl | exact ld 3 0 rfl rfl rfl | exact ld 4 0 rfl rfl rfl | exact ld 5 0 rfl rfl rfl) | exact v_ne rfl rfl); rfl) | refine wc_seq ?_ | refine wc_region ?_ | refine wx_nil ?_ | refine wq_next ?_ | refine wc_ret ?_ | refine wq_then_ret ?_ | refine wq_block ?_ | refine wc_reads rfl (by decide +kernel) ?_ | refine wc_condT rfl ?_ | refine wl_store 0 rfl rfl rfl rfl (Nat.le_of_ble_eq_true rfl) (.inl (Nat.le_refl _)) rfl ?_)
          exact wq_ret3 (none, 0) rfl rfl rfl rfl rfl (.inl rfl) rfl
        · have er : rStep d p 0 2 a b = ((n : Int), [], 0, p + size, 0) := by simp [rStep, cNumber, hsc, h3]
          rw [er]
          repeat (first | (apply wx_val; (first | exact v_move rfl | exact v_assign rfl | exact v_nil rfl | exact v_faddr rfl rfl | (apply v_load rfl rfl rfl; first | exact ld 0 0 rfl rfl rfl | exact ld 1 0 rfl rfl rfl | exact ld 2 0 rfl rfl rfl | exact ld 3 0 rfl rfl rfl | exact ld 4 0 rfl rfl rfl | exact ld 5 0 rfl rfl rfl) | exact v_eq rfl rfl | exact v_ne rfl rfl | exact v_addi rfl rfl (by omega) | exact v_pickF rfl rfl); rfl) | refine wx_no rfl rfl rfl ?_ | refine wx_undef rfl rfl rfl ?_ | refine wc_seq ?_ | refine wc_region ?_ | refine wx_nil ?_ | refine wq_next ?_ | refine wc_block ?_ | refine wc_ret ?_ | refine wc_skip ?_ | refine wq_then_ret ?_ | refine wq_block ?_ | refine wq_block_ret ?_ | refine wc_condT rfl ?_ | refine wc_condF rfl ?_ | refine wl_store 0 rfl rfl rfl rfl (Nat.le_of_ble_eq_true rfl) (.inl (Nat.le_refl _)) rfl ?_)
          exact wq_ret3 (none, 0) rfl rfl rfl rfl rfl (.inl rfl) rfl
    · have hsz := scanL_size (d.drop p) 0 0
      have hsz2 := scanL_err (d.drop p) 0 0
      have hvl := scanL_val (d.drop p) 0 0 (by omega) (by omega)
      generalize hsc : scanL 0 0 (d.drop p) = sc at hsz hsz2 hvl
      obtain ⟨n, size, e0⟩ := sc
      simp only [List.length_drop] at hsz hsz2 hvl
      have hn : n < 72057594037927936 := hvl
      have hsz3 : size ≤ d.length - p := by
        by_cases h : e0 = 0
        · have := hsz h; omega
        · have := (hsz2 h).2; omega
      repeat (first | (apply wx_val; (first | exact v_move rfl | exact v_assign rfl | exact v_nil rfl | exact v_faddr rfl rfl | (apply v_load rfl rfl rfl; first | exact ld 0 0 rfl rfl rfl | exact ld 1 0 rfl rfl rfl | exact ld 2 0 rfl rfl rfl | exact ld 3 0 rfl rfl rfl | exact ld 4 0 rfl rfl rfl | exact ld 5 0 rfl rfl rfl) | exact v_eq rfl rfl | exact v_ne rfl rfl | exact v_pickF rfl rfl); rfl) | refine wx_ungd rfl rfl ?_ | refine wc_seq ?_ | refine wc_region ?_ | refine wx_nil ?_ | refine wq_next ?_ | refine wc_skip ?_ | refine wc_condT rfl ?_ | refine wc_condF rfl ?_)
      refine wc_held [refB g A d.length c p 0] rfl ?_
      (apply wh_take 0; (first | exact fun _ h => h); (repeat (first | with_reducible exact panicOk_body | with_reducible apply panicOk_then)); rfl; exact v_move rfl; decide +kernel; decide +kernel; decide +kernel; rfl)
      (apply wh_take 1; (first | exact fun _ h => h); (repeat (first | with_reducible exact panicOk_body | with_reducible apply panicOk_then)); rfl; exact v_nil rfl; decide +kernel; decide +kernel; decide +kernel; rfl)
      (apply wh_take 2; (first | exact fun _ h => h); (repeat (first | with_reducible exact panicOk_body | with_reducible apply panicOk_then)); rfl; exact v_faddr rfl rfl; decide +kernel; decide +kernel; decide +kernel; rfl)
      (apply wh_take 3; (first | exact fun _ h => h); (repeat (first | with_reducible exact panicOk_body | with_reducible apply panicOk_then)); rfl; (apply v_load rfl rfl rfl; first | exact ld 0 0 rfl rfl rfl | exact ld 1 0 rfl rfl rfl | exact ld 2 0 rfl rfl rfl | exact ld 3 0 rfl rfl rfl | exact ld 4 0 rfl rfl rfl | exact ld 5 0 rfl rfl rfl); decide +kernel; decide +kernel; decide +kernel; rfl)
      (apply wh_take 4; (first | exact fun _ h => h); (repeat (first | with_reducible exact panicOk_body | with_reducible apply panicOk_then)); rfl; exact v_move rfl; decide +kernel; decide +kernel; decide +kernel; rfl)
      (apply wh_take 5; (first | exact fun _ h => h); (repeat (first | with_reducible exact panicOk_body | with_reducible apply panicOk_then)); rfl; exact v_nil rfl; decide +kernel; decide +kernel; decide +kernel; rfl)
      (apply wh_take 6; (first | exact fun _ h => h); (repeat (first | with_reducible exact panicOk_body | with_reducible apply panicOk_then)); rfl; exact v_faddr rfl rfl; decide +kernel; decide +kernel; decide +kernel; rfl)
      (apply wh_take 7; (first | exact fun _ h => h); (repeat (first | with_reducible exact panicOk_body | with_reducible apply panicOk_then)); rfl; (apply v_load rfl rfl rfl; first | exact ld 0 0 rfl rfl rfl | exact ld 1 0 rfl rfl rfl | exact ld 2 0 rfl rfl rfl | exact ld 3 0 rfl rfl rfl | exact ld 4 0 rfl rfl rfl | exact ld 5 0 rfl rfl rfl); decide +kernel; decide +kernel; decide +kernel; rfl)
      refine wh_eff 8 rfl (by decide +kernel) ?_
      refine wl_call (M1 := []) (L := [refB g A d.length c p 0]) (fun w' hr => At_spec (c := c) hd hp w' ((hv.keep hr).sub (by simp))) rfl rfl (List.Perm.refl _) rfl (fun _ _ => ?_)
      (try refine wx_nil ?_)
      refine wq_held (by (first | exact fun _ h => h)) ?_
      (apply wh_take 9; (first | exact fun _ h => h); (repeat (first | with_reducible exact panicOk_body | with_reducible apply panicOk_then)); rfl; exact v_move rfl; decide +kernel; decide +kernel; decide +kernel; rfl)
      (apply wh_take 10; (first | exact fun _ h => h); (repeat (first | with_reducible exact panicOk_body | with_reducible apply panicOk_then)); rfl; exact v_extract rfl rfl; decide +kernel; decide +kernel; decide +kernel; rfl)
      (apply wh_take 11; (first | exact fun _ h => h); (repeat (first | with_reducible exact panicOk_body | with_reducible apply panicOk_then)); rfl; exact v_extract rfl rfl; decide +kernel; decide +kernel; decide +kernel; rfl)
      (apply wh_take 12; (first | exact fun _ h => h); (repeat (first | with_reducible exact panicOk_body | with_reducible apply panicOk_then)); rfl; exact v_extract rfl rfl; decide +kernel; decide +kernel; decide +kernel; rfl)
      (apply wh_take 13; (first | exact fun _ h => h); (repeat (first | with_reducible exact panicOk_body | with_reducible apply panicOk_then)); rfl; exact v_assign rfl; decide +kernel; decide +kernel; decide +kernel; rfl)
      (apply wh_take 14; (first | exact fun _ h => h); (repeat (first | with_reducible exact panicOk_body | with_reducible apply panicOk_then)); rfl; exact v_assign rfl; decide +kernel; decide +kernel; decide +kernel; rfl)
      (apply wh_take 15; (first | exact fun _ h => h); (repeat (first | with_reducible exact panicOk_body | with_reducible apply panicOk_then)); rfl; exact v_assign rfl; decide +kernel; decide +kernel; decide +kernel; rfl)
      refine wh_done (by decide +kernel) ?_
      rw [hsc]
      dsimp only
      repeat (first | (apply wx_val; (first | exact v_move rfl | exact v_assign rfl | exact v_nil rfl | exact v_faddr rfl rfl | (apply v_load rfl rfl rfl; first | exact ld 0 0 rfl rfl rfl | exact ld 1 0 rfl rfl rfl | exact ld 2 0 rfl rfl rfl | exact ld 3 0 rfl rfl rfl | exact ld 4 0 rfl rfl rfl | exact ld 5 0 rfl rfl rfl) | exact v_len rfl rfl | exact v_ne rfl rfl | exact v_subi rfl rfl (by omega)); rfl) | refine wc_seq ?_ | refine wc_region ?_ | refine wx_nil ?_ | refine wq_next ?_ | refine wc_block ?_ | refine wc_reads rfl (by decide +kernel) ?_)
      refine wc_if rfl (fun h2 => ?_) (fun h2 => ?_)
      · have h2' : e0 ≠ 0 := h2
        have er : rStep d p 0 3 a b = (0, [], e0, p, e0) := by simp [rStep, cNumber, cText, hsc, h2']
        rw [er]
        repeat (first | (apply wx_val; (first | exact v_move rfl | exact v_nil rfl | exact v_faddr rfl rfl | (apply v_load rfl rfl rfl; first | exact ld 0 0 rfl rfl rfl | exact ld 1 0 rfl rfl rfl | exact ld 2 0 rfl rfl rfl | exact ld 3 0 rfl rfl rfl | exact ld 4 0 rfl rfl rfl | exact ld 5 0 rfl rfl rfl) | exact v_ne rfl rfl); rfl) | refine wc_seq ?_ | refine wc_region ?_ | refine wx_nil ?_ | refine wq_next ?_ | refine wq_block ?_ | refine wl_store 0 rfl rfl rfl rfl (Nat.le_of_ble_eq_true rfl) (.inl (Nat.le_refl _)) rfl ?_)
        refine wc_yes rfl (decide_eq_true h2') ?_
        repeat (first | (apply wx_val; (first | exact v_move rfl | exact v_assign rfl | exact v_nil rfl | exact v_faddr rfl rfl | (apply v_load rfl rfl rfl; first | exact ld 0 0 rfl rfl rfl | exact ld 1 0 rfl rfl rfl | exact ld 2 0 rfl rfl rfl | exact ld 3 0 rfl rfl rfl | exact ld 4 0 rfl rfl rfl | exact ld 5 0 rfl rfl rfl)); rfl) | refine wc_seq ?_ | refine wx_nil ?_ | refine wq_next ?_ | refine wc_ret ?_ | refine wq_then_ret ?_ | refine wc_reads rfl (by decide +kernel) ?_)
        exact wq_ret3 (none, 0) rfl rfl rfl rfl rfl (.inl rfl) rfl
      · obtain rfl : e0 = 0 := Decidable.not_not.1 h2
        have hsz4 := hsz rfl
        repeat (first | (apply wx_val; (first | exact v_move rfl | exact v_assign rfl | exact v_eq rfl rfl | exact v_lt rfl rfl | exact v_pickF rfl rfl); rfl) | refine wx_no rfl rfl rfl ?_ | refine wx_ungd rfl rfl ?_ | refine wc_seq ?_ | refine wc_region ?_ | refine wx_nil ?_ | refine wq_next ?_ | refine wc_condF rfl ?_)
        refine wx_if 91 rfl (fun h3 => ?_) (fun h3 => ?_)
        · have er : rStep d p 0 3 a b = (0, [], 53, p, 53) := by simp [rStep, cText, hsc, h3]
          rw [er]
          repeat (first | (apply wx_val; (first | exact v_move rfl | exact v_assign rfl | exact v_nil rfl | exact v_faddr rfl rfl | (apply v_load rfl rfl rfl; first | exact ld 0 0 rfl rfl rfl | exact ld 1 0 rfl rfl rfl | exact ld 2 0 rfl rfl rfl | exact ld 3 0 rfl rfl rfl | exact ld 4 0 rfl rfl rfl | exact ld 5 0 rfl rfl rfl) | exact v_ne rfl rfl | exact v_pickT rfl rfl); rfl) | refine wx_no rfl rfl rfl ?_ | refine wx_ungd rfl rfl ?_ | refine wc_seq ?_ | refine wc_region ?_ | refine wx_nil ?_ | refine wq_next ?_ | refine wc_ret ?_ | refine wq_then_ret ?_ | refine wq_block ?_ | refine wc_reads rfl (by decide +kernel) ?_ | refine wc_condT rfl ?_ | refine wl_store 0 rfl rfl rfl rfl (Nat.le_of_ble_eq_true rfl) (.inl (Nat.le_refl _)) rfl ?_)
          exact wq_ret3 (none, 0) rfl rfl rfl rfl rfl (.inl rfl) rfl
        · repeat (first | (apply wx_val; (first | exact v_move rfl | exact v_assign rfl | exact v_gt rfl rfl | exact v_pickT rfl rfl | exact v_pickF rfl rfl); rfl) | refine wx_ungd rfl rfl ?_ | refine wx_nil ?_ | refine wq_next ?_)
          refine wc_if rfl (fun h4 => ?_) (fun h4 => ?_)
          · have er : rStep d p 0 3 a b = (0, [], 53, p, 53) := by simp [rStep, cText, hsc, h4]
            rw [er]
            repeat (first | (apply wx_val; (first | exact v_move rfl | exact v_assign rfl | exact v_nil rfl | exact v_faddr rfl rfl | (apply v_load rfl rfl rfl; first | exact ld 0 0 rfl rfl rfl | exact ld 1 0 rfl rfl rfl | exact ld 2 0 rfl rfl rfl | exact ld 3 0 rfl rfl rfl | exact ld 4 0 rfl rfl rfl | exact ld 5 0 rfl rfl rfl) | exact v_ne rfl rfl); rfl) | refine wc_seq ?_ | refine wc_region ?_ | refine wx_nil ?_ | refine wq_next ?_ | refine wc_ret ?_ | refine wq_then_ret ?_ | refine wq_block ?_ | refine wc_reads rfl (by decide +kernel) ?_ | refine wc_condT rfl ?_ | refine wl_store 0 rfl rfl rfl rfl (Nat.le_of_ble_eq_true rfl) (.inl (Nat.le_refl _)) rfl ?_)
            exact wq_ret3 (none, 0) rfl rfl rfl rfl rfl (.inl rfl) rfl
          · repeat (first | (apply wx_val; (first | exact v_move rfl | exact v_assign rfl | exact v_eq rfl rfl | exact v_gt rfl rfl | exact v_pickT rfl rfl); rfl) | refine wx_ungd rfl rfl ?_ | refine wc_seq ?_ | refine wc_region ?_ | refine wx_nil ?_ | refine wq_next ?_)
            refine wc_if rfl (fun h5 => ?_) (fun h5 => ?_)
            · have h5' : d.length < p + size + n := by omega
              have er : rStep d p 0 3 a b = (0, [], 51, p, 51) := by simp [rStep, cText, hsc, h3, h4, h5']
              rw [er]
              repeat (first | (apply wx_val; (first | exact v_move rfl | exact v_assign rfl | exact v_nil rfl | exact v_faddr rfl rfl | (apply v_load rfl rfl rfl; first | exact ld 0 0 rfl rfl rfl | exact ld 1 0 rfl rfl rfl | exact ld 2 0 rfl rfl rfl | exact ld 3 0 rfl rfl rfl | exact ld 4 0 rfl rfl rfl | exact ld 5 0 rfl rfl rfl) | exact v_ne rfl rfl); rfl) | refine wc_seq ?_ | refine wc_region ?_ | refine wx_nil ?_ | refine wq_next ?_ | refine wc_ret ?_ | refine wq_then_ret ?_ | refine wq_block ?_ | refine wc_reads rfl (by decide +kernel) ?_ | refine wc_condT rfl ?_ | refine wl_store 0 rfl rfl rfl rfl (Nat.le_of_ble_eq_true rfl) (.inl (Nat.le_refl _)) rfl ?_)
              exact wq_ret3 (none, 0) rfl rfl rfl rfl rfl (.inl rfl) rfl
            · have h5' : ¬ d.length < p + size + n := by omega
              have er : rStep d p 0 3 a b = (0, (d.drop (p + size)).take n, 0, p + size + n, 0) := by simp [rStep, cText, hsc, h3, h4, h5']
              rw [er]
              repeat (first | (apply wx_val; (first | exact v_move rfl | exact v_assign rfl | exact v_nil rfl | exact v_faddr rfl rfl | (apply v_load rfl rfl rfl; first | exact ld 0 0 rfl rfl rfl | exact ld 1 0 rfl rfl rfl | exact ld 2 0 rfl rfl rfl | exact ld 3 0 rfl rfl rfl | exact ld 4 0 rfl rfl rfl | exact ld 5 0 rfl rfl rfl) | exact v_eq rfl rfl | exact v_ne rfl rfl | exact v_addi rfl rfl (by omega) | exact v_pickF rfl rfl | exact v_slice rfl rfl rfl rfl (by omega) (by omega)); rfl) | refine wx_no rfl rfl rfl ?_ | refine wc_seq ?_ | refine wc_region ?_ | refine wx_nil ?_ | refine wq_next ?_ | refine wc_block ?_ | refine wc_ret ?_ | refine wc_skip ?_ | refine wq_block ?_ | refine wc_reads rfl (by decide +kernel) ?_ | refine wc_condT rfl ?_ | refine wc_condF rfl ?_ | refine wl_store 0 rfl rfl rfl rfl (Nat.le_of_ble_eq_true rfl) (.inl (Nat.le_refl _)) rfl ?_)
              have ea : ((p : Int) + size).toNat = p + size := by omega
              have ec : ((p : Int) + size + n).toNat = p + size + n := by omega
              have el : p + size + n - (p + size) = ((d.drop (p + size)).take n).length := by simp; omega
              rw [ea, ec, el]
              exact wq_ret3 (cutA A (p + size) (p + size + n) c 1, c - (p + size)) rfl rfl rfl rfl rfl (.inr ⟨p + size, p + size + n, by omega, by omega, rfl, rfl, by rw [show p + size + n - (p + size) = n by omega]⟩) rfl
    · repeat (first | (apply wx_val; (first | exact v_move rfl | exact v_assign rfl | exact v_nil rfl | exact v_faddr rfl rfl | (apply v_load rfl rfl rfl; first | exact ld 0 0 rfl rfl rfl | exact ld 1 0 rfl rfl rfl | exact ld 2 0 rfl rfl rfl | exact ld 3 0 rfl rfl rfl | exact ld 4 0 rfl rfl rfl | exact ld 5 0 rfl rfl rfl) | exact v_len rfl rfl | exact v_eq rfl rfl | exact v_ne rfl rfl | exact v_lt rfl rfl | exact v_subi rfl rfl (by omega) | exact v_pickT rfl rfl | exact v_pickF rfl rfl); rfl) | refine wx_no rfl rfl rfl ?_ | refine wx_undef rfl rfl rfl ?_ | refine wx_ungd rfl rfl ?_ | refine wc_seq ?_ | refine wc_region ?_ | refine wx_nil ?_ | refine wq_next ?_ | refine wc_block ?_ | refine wc_skip ?_ | refine wc_reads rfl (by decide +kernel) ?_ | refine wc_condF rfl ?_)
      refine wc_if rfl (fun h1 => ?_) (fun h1 => ?_)
      · have er : rStep d p 0 4 a b = (0, [], 53, p, 53) := by
          have eb : cTake d p 0 a = ([], 53, p, 53) := by rw [cTake, if_neg (by omega), if_pos (by omega)]
          rw [rStep, if_neg (by omega), if_neg (by omega), if_neg (by omega), eb]
        rw [er]
        repeat (first | (apply wx_val; (first | exact v_move rfl | exact v_assign rfl | exact v_nil rfl | exact v_faddr rfl rfl | (apply v_load rfl rfl rfl; first | exact ld 0 0 rfl rfl rfl | exact ld 1 0 rfl rfl rfl | exact ld 2 0 rfl rfl rfl | exact ld 3 0 rfl rfl rfl | exact ld 4 0 rfl rfl rfl | exact ld 5 0 rfl rfl rfl) | exact v_ne rfl rfl); rfl) | refine wc_seq ?_ | refine wc_region ?_ | refine wx_nil ?_ | refine wq_next ?_ | refine wc_ret ?_ | refine wq_then_ret ?_ | refine wq_block ?_ | refine wc_reads rfl (by decide +kernel) ?_ | refine wc_condT rfl ?_ | refine wl_store 0 rfl rfl rfl rfl (Nat.le_of_ble_eq_true rfl) (.inl (Nat.le_refl _)) rfl ?_)
        exact wq_ret3 (none, 0) rfl rfl rfl rfl rfl (.inl rfl) rfl
      · repeat (first | (apply wx_val; (first | exact v_move rfl | exact v_assign rfl | exact v_eq rfl rfl | exact v_gt rfl rfl | exact v_pickT rfl rfl); rfl) | refine wx_ungd rfl rfl ?_ | refine wc_seq ?_ | refine wc_region ?_ | refine wx_nil ?_ | refine wq_next ?_)
        refine wc_if rfl (fun h2 => ?_) (fun h2 => ?_)
        · have er : rStep d p 0 4 a b = (0, [], 51, p, 51) := by
            have eb : cTake d p 0 a = ([], 51, p, 51) := by rw [cTake, if_neg (by omega), if_neg (by omega), if_pos (by omega)]
            rw [rStep, if_neg (by omega), if_neg (by omega), if_neg (by omega), eb]
          rw [er]
          repeat (first | (apply wx_val; (first | exact v_move rfl | exact v_assign rfl | exact v_nil rfl | exact v_faddr rfl rfl | (apply v_load rfl rfl rfl; first | exact ld 0 0 rfl rfl rfl | exact ld 1 0 rfl rfl rfl | exact ld 2 0 rfl rfl rfl | exact ld 3 0 rfl rfl rfl | exact ld 4 0 rfl rfl rfl | exact ld 5 0 rfl rfl rfl) | exact v_ne rfl rfl); rfl) | refine wc_seq ?_ | refine wc_region ?_ | refine wx_nil ?_ | refine wq_next ?_ | refine wc_ret ?_ | refine wq_then_ret ?_ | refine wq_block ?_ | refine wc_reads rfl (by decide +kernel) ?_ | refine wc_condT rfl ?_ | refine wl_store 0 rfl rfl rfl rfl (Nat.le_of_ble_eq_true rfl) (.inl (Nat.le_refl _)) rfl ?_)
          exact wq_ret3 (none, 0) rfl rfl rfl rfl rfl (.inl rfl) rfl
        · obtain ⟨N, rfl⟩ : ∃ N : Nat, a = N := ⟨a.toNat, by omega⟩
          have er : rStep d p 0 4 N b = (0, (d.drop p).take N, 0, p + N, 0) := by
            have eb : cTake d p 0 N = ((d.drop p).take N, 0, p + N, 0) := by rw [cTake, if_neg (by omega), if_neg (by omega), if_neg (by omega)]; rfl
            rw [rStep, if_neg (by omega), if_neg (by omega), if_neg (by omega), eb]
          rw [er]
          repeat (first | (apply wx_val; (first | exact v_move rfl | exact v_assign rfl | exact v_nil rfl | exact v_faddr rfl rfl | (apply v_load rfl rfl rfl; first | exact ld 0 0 rfl rfl rfl | exact ld 1 0 rfl rfl rfl | exact ld 2 0 rfl rfl rfl | exact ld 3 0 rfl rfl rfl | exact ld 4 0 rfl rfl rfl | exact ld 5 0 rfl rfl rfl) | exact v_eq rfl rfl | exact v_ne rfl rfl | exact v_addi rfl rfl (by omega) | exact v_slice rfl rfl rfl rfl (by omega) (by omega)); rfl) | refine wc_seq ?_ | refine wc_region ?_ | refine wx_nil ?_ | refine wq_next ?_ | refine wc_block ?_ | refine wc_ret ?_ | refine wc_skip ?_ | refine wq_block ?_ | refine wc_reads rfl (by decide +kernel) ?_ | refine wc_condT rfl ?_ | refine wc_condF rfl ?_ | refine wl_store 0 rfl rfl rfl rfl (Nat.le_of_ble_eq_true rfl) (.inl (Nat.le_refl _)) rfl ?_)
          have ea : ((p : Int) + 0).toNat = p := by omega
          have ec : ((p : Int) + 0 + N).toNat = p + N := by omega
          have el : p + N - p = ((d.drop p).take N).length := by simp; omega
          rw [ea, ec, el]
          exact wq_ret3 (cutA A p (p + N) c 1, c - p) rfl rfl rfl rfl rfl (.inr ⟨p, p + N, by omega, by omega, rfl, rfl, by rw [show p + N - p = N by omega]⟩) (by simp only [Int.add_zero]; rfl)
  · have er : rStep d p f k a b = (0, [], f, p, f) := by
      obtain rfl | rfl | rfl | rfl : k = 1 ∨ k = 2 ∨ k = 3 ∨ k = 4 := by omega
      all_goals simp [rStep, cByte, cNumber, cText, cTake, hf]
    rw [er]
    repeat (first | (apply wx_val; (first | exact v_move rfl | exact v_assign rfl | exact v_nil rfl | exact v_faddr rfl rfl | (apply v_load rfl rfl rfl; first | exact ld 0 0 rfl rfl rfl | exact ld 1 0 rfl rfl rfl | exact ld 2 0 rfl rfl rfl | exact ld 3 0 rfl rfl rfl | exact ld 4 0 rfl rfl rfl | exact ld 5 0 rfl rfl rfl) | exact v_ne rfl rfl); rfl) | refine wc_seq ?_ | refine wc_region ?_ | refine wx_nil ?_ | refine wq_next ?_)
    refine wc_yes rfl (decide_eq_true hf) ?_
    repeat (first | (apply wx_val; (first | exact v_move rfl | exact v_assign rfl | exact v_nil rfl | exact v_faddr rfl rfl | (apply v_load rfl rfl rfl; first | exact ld 0 0 rfl rfl rfl | exact ld 1 0 rfl rfl rfl | exact ld 2 0 rfl rfl rfl | exact ld 3 0 rfl rfl rfl | exact ld 4 0 rfl rfl rfl | exact ld 5 0 rfl rfl rfl)); rfl) | refine wc_seq ?_ | refine wx_nil ?_ | refine wq_next ?_ | refine wc_ret ?_ | refine wq_then_ret ?_ | refine wc_reads rfl (by decide +kernel) ?_)
    exact wq_ret3 (none, 0) rfl rfl rfl rfl rfl (.inl rfl) rfl
end Go.Proofs.Ytjfjleejbbmmaaa
