/- Insert, Remove and New. -/
import Derived.Test.YtjeghbachokljaaSpI
set_option linter.unusedVariables false
set_option linter.unusedSimpArgs false
namespace Go.Proofs.Ytjeghbachokljaa
open Go
set_option maxRecDepth 20000
set_option maxHeartbeats 2000000
attribute [local irreducible] WX WC WQ Val VCall
def insCode (k : ByteArray) (s : Sp) (has : Bool) : Int := if k.size < 1 ∨ 8 < k.size then 130 else if rightS s = false then 140 else if has then 141 else 0
abbrev fsN (g : Nat) (y : Fa) (N : List Nd) (sp : List Nat) (cnt : Int) (E Es : Seg) (L : TE ByteArray) (clk : Nat) : List Seg := [fsB g y N.length sp.length cnt, E, Es, mpB y.m L clk]
section fs
variable {g : Nat} {y : Fa} {cnt : Int} {N : List Nd} {sp : List Nat} {E Es : Seg} {L : TE ByteArray} {clk : Nat}
theorem insert_no (k : ByteArray) (s : Sp) {t : Tr} (hf : FsO N sp y E Es) (ht : At N t) (hL : RootAt L k t) (hc : insCode k s (hasT t s) ≠ 0) (w : World) (ho : Own w (fsN g y N sp cnt E Es L clk)) :
    Calls Try.prog 12 #[.pointer (some ⟨g, 0, none⟩), .string k, .agg s.cells.toArray] w (Ret (β := Unit) w (ids (fsN g y N sp cnt E Es L clk)) (fun _ => .int .i64 (insCode k s (hasT t s))) (fun _ => fsN g y N sp cnt E Es L clk) (fun _ => True)) := by
  refine go [.pointer (some ⟨g, 0, none⟩), .string k, .agg s.cells.toArray] (fsN g y N sp cnt E Es L clk) Try.func12 Try.ntmps12 rfl rfl ho ?_
  obtain ⟨h1, h2, h3, h4⟩ := hf
  unfold insCode at hc ⊢
  repeat (first | refine wc_seq ?_ | refine wc_region ?_)
  refine wl_boxA rfl rfl (fun g5 => ?_)
  repeat' (first | (apply wx_val; (first | exact v_move rfl | exact v_assign rfl | exact v_ldAT rfl (by rfl) | exact v_slen rfl rfl | exact v_lt rfl rfl | exact v_gt rfl rfl | exact v_pickT rfl rfl | exact v_pickF rfl rfl); rfl) | refine wx_no rfl rfl rfl ?_ | refine wx_ungd rfl rfl ?_ | refine wc_seq ?_ | refine wc_region ?_ | refine wx_nil ?_ | refine wq_next ?_ | refine wc_block ?_ | refine wc_ret ?_ | refine wq_then_ret ?_ | refine wq_block_ret ?_ | refine wc_condT rfl ?_ | refine wc_if rfl (fun _ => ?_) (fun _ => ?_) | refine wx_gif rfl rfl (fun _ => ?_) (fun _ => ?_))
  · rw [if_pos (by rename_i hx; omega)]
    exact wq_ret1T () rfl rfl trivial rfl
  · rw [if_pos (by rename_i hx hy; omega)]
    exact wq_ret1T () rfl rfl trivial rfl
  · rw [if_neg (by rename_i hx hy; omega)] at hc ⊢
    have hri := right_spec s
    have hs := fun w' ho => has_spec (clk := clk) (g := g) (cnt := cnt) (sp := sp) k s h1 h3 ht hL w' ho
    generalize rightS s = b at *
    generalize hasT t s = d at *
    skip
    (try refine wx_ungd rfl rfl ?_)
    refine wx_vcall (vc_pure' rfl rfl (fun w' hr => hri w')) rfl ?_
    cases b
    · rw [if_pos rfl]
      repeat (first | (apply wx_val; (first | exact v_assign rfl | exact v_not rfl); rfl) | refine wc_seq ?_ | refine wc_region ?_ | refine wx_nil ?_ | refine wq_next ?_ | refine wc_ret ?_ | refine wq_then_ret ?_ | refine wq_block_ret ?_ | refine wc_condT rfl ?_)
      exact wq_ret1T () rfl rfl trivial rfl
    rw [if_neg (by decide)] at hc ⊢
    repeat (first | (apply wx_val; (first | exact v_move rfl | exact v_assign rfl | exact v_ldAT rfl (by rfl) | exact v_not rfl); rfl) | refine wc_seq ?_ | refine wc_region ?_ | refine wx_nil ?_ | refine wq_next ?_ | refine wc_condF rfl ?_)
    refine wl_callT (fun w' hr ho => hs w' ho) rfl rfl rfl ?_
    rintro - -
    cases d
    · exact absurd rfl hc
    repeat (first | (apply wx_val; (first | exact v_assign rfl); rfl) | refine wc_seq ?_ | refine wc_region ?_ | refine wx_nil ?_ | refine wq_next ?_ | refine wc_ret ?_ | refine wq_then_ret ?_ | refine wq_block_ret ?_ | refine wc_cat ?_ | refine wc_condT rfl ?_)
    exact wq_ret1T () rfl rfl trivial rfl
theorem insert_ok (k : ByteArray) (s : Sp) {t : Tr} (hf : FsO N sp y E Es) (ht : At N t) (hL : RootAt L k t) (hok : MapOk L clk) (hsz : N.length ≤ 1099511627776) (hcn : 0 ≤ cnt ∧ cnt ≤ 1099511627776) (hc : insCode k s (hasT t s) = 0) (w : World) (ho : Own w (fsN g y N sp cnt E Es L clk)) :
    Calls Try.prog 12 #[.pointer (some ⟨g, 0, none⟩), .string k, .agg s.cells.toArray] w (Ret (β := Fa × Seg × Seg) w (ids (fsN g y N sp cnt E Es L clk)) (fun _ => .int .i64 0) (fun q => fsN g q.1 (insA t N sp s).2.1 (insA t N sp s).2.2 (cnt + 1) q.2.1 q.2.2 (aput k (.int .i64 ((insA t N sp s).1 : Nat)) L clk) (aclk k L clk)) (InsO N (insA t N sp s).2.1 (insA t N sp s).2.2 (insA t N sp s).1 y)) := by
  refine go [.pointer (some ⟨g, 0, none⟩), .string k, .agg s.cells.toArray] (fsN g y N sp cnt E Es L clk) Try.func12 Try.ntmps12 rfl rfl ho ?_
  obtain ⟨yA, yc, yB, yd, ym⟩ := y
  have hi := fun w' ho => insert_spec (g := g) (cnt := cnt) s t hf ht hsz w' ho
  obtain ⟨h1, h2, h3, h4⟩ := hf
  unfold insCode at hc
  generalize insA t N sp s = q at *
  obtain ⟨k', N', sp'⟩ := q
  dsimp only at hi h1 h2 ⊢
  repeat (first | refine wc_seq ?_ | refine wc_region ?_)
  refine wl_boxA rfl rfl (fun g5 => ?_)
  repeat' (first | (apply wx_val; (first | exact v_move rfl | exact v_assign rfl | exact v_ldAT rfl (by rfl) | exact v_slen rfl rfl | exact v_lt rfl rfl | exact v_gt rfl rfl | exact v_pickT rfl rfl | exact v_pickF rfl rfl); rfl) | refine wx_no rfl rfl rfl ?_ | refine wx_ungd rfl rfl ?_ | refine wc_seq ?_ | refine wc_region ?_ | refine wx_nil ?_ | refine wq_next ?_ | refine wc_block ?_ | refine wc_ret ?_ | refine wq_then_ret ?_ | refine wq_block_ret ?_ | refine wc_condT rfl ?_ | refine wc_if rfl (fun _ => ?_) (fun _ => ?_) | refine wx_gif rfl rfl (fun _ => ?_) (fun _ => ?_))
  · rw [if_pos (by rename_i hx; omega)] at hc
    exact absurd hc (by decide)
  · rw [if_pos (by rename_i hx hy; omega)] at hc
    exact absurd hc (by decide)
  · rw [if_neg (by rename_i hx hy; omega)] at hc
    have hri := right_spec s
    have hs := fun w' ho => has_spec (clk := clk) (g := g) (cnt := cnt) (y := ⟨yA, yc, yB, yd, ym⟩) (sp := sp) k s h1 h3 ht hL w' ho
    generalize rightS s = b at *
    generalize hasT t s = d at *
    skip
    (try refine wx_ungd rfl rfl ?_)
    refine wx_vcall (vc_pure' rfl rfl (fun w' hr => hri w')) rfl ?_
    cases b
    · rw [if_pos rfl] at hc
      exact absurd hc (by decide)
    rw [if_neg (by decide)] at hc
    repeat (first | (apply wx_val; (first | exact v_move rfl | exact v_assign rfl | exact v_ldAT rfl (by rfl) | exact v_not rfl); rfl) | refine wc_seq ?_ | refine wc_region ?_ | refine wx_nil ?_ | refine wq_next ?_ | refine wc_condF rfl ?_)
    refine wl_callT (fun w' hr ho => hs w' ho) rfl rfl rfl ?_
    rintro - -
    cases d
    case true => exact absurd hc (by decide)
    repeat (first | (apply wx_val; (first | exact v_assign rfl); rfl) | refine wc_seq ?_ | refine wx_nil ?_ | refine wq_next ?_ | refine wc_skip ?_ | refine wq_block ?_ | refine wc_cat ?_ | refine wc_condF rfl ?_)
    refine wc_heldX [] [[(g5, .cells s.cells.toArray 28 (0, 0))]] rfl (by (repeat (first | with_reducible exact panicNot_of panicOk_body | with_reducible apply panicNot_then))) (fun hQd => ?_)
    (apply wh_takeX 0; (first | exact fun _ h => h | exact fun _ h => res_takes h); exact hQd; rfl; rfl; exact v_move rfl; decide +kernel; decide +kernel; decide +kernel; rfl)
    (apply wh_takeX 1; (first | exact fun _ h => h | exact fun _ h => res_takes h); exact hQd; rfl; rfl; exact v_nil rfl; decide +kernel; decide +kernel; decide +kernel; rfl)
    (apply wh_takeX 2; (first | exact fun _ h => h | exact fun _ h => res_takes h); exact hQd; rfl; rfl; exact v_faddr rfl rfl; decide +kernel; decide +kernel; decide +kernel; rfl)
    (apply wh_takeX 4; (first | exact fun _ h => h | exact fun _ h => res_takes h); exact hQd; rfl; rfl; exact v_move rfl; decide +kernel; decide +kernel; decide +kernel; rfl)
    (apply wh_takeX 5; (first | exact fun _ h => h | exact fun _ h => res_takes h); exact hQd; rfl; rfl; exact v_move rfl; decide +kernel; decide +kernel; decide +kernel; rfl)
    (apply wh_takeX 6; (first | exact fun _ h => h | exact fun _ h => res_takes h); exact hQd; rfl; rfl; exact v_move rfl; decide +kernel; decide +kernel; decide +kernel; rfl)
    (apply wh_takeX 7; (first | exact fun _ h => h | exact fun _ h => res_takes h); exact hQd; rfl; rfl; exact v_nil rfl; decide +kernel; decide +kernel; decide +kernel; rfl)
    (apply wh_takeX 8; (first | exact fun _ h => h | exact fun _ h => res_takes h); exact hQd; rfl; rfl; exact v_faddr rfl rfl; decide +kernel; decide +kernel; decide +kernel; rfl)
    (apply wh_takeX 10; (first | exact fun _ h => h | exact fun _ h => res_takes h); exact hQd; rfl; rfl; exact v_move rfl; decide +kernel; decide +kernel; decide +kernel; rfl)
    (apply wh_takeX 12; (first | exact fun _ h => res_takes h); exact hQd; rfl; rfl; (first | exact v_ldAT rfl (by rfl)); decide +kernel; decide +kernel; decide +kernel; rfl)
    refine wh_eff2 3 9 rfl rfl (by decide +kernel) ?_ ?_
    · repeat (first | (apply wx_val; (first | exact v_ldT rfl rfl rfl (by rfl)); rfl) | refine wx_nil ?_)
      (try refine wx_nil ?_)
      refine wq_held (by (first | exact fun _ h => h | exact fun _ h => res_takes h)) ?_
      refine wh_eff 9 rfl (by decide +kernel) ?_
      repeat (first | (apply wx_val; (first | exact v_ldT rfl rfl rfl (by rfl)); rfl) | refine wx_nil ?_)
      (try refine wx_nil ?_)
      refine wq_held (by (first | exact fun _ h => h | exact fun _ h => res_takes h)) ?_
      refine wh_eff 11 rfl (by decide +kernel) ?_
      (try refine wx_ungd rfl rfl ?_)
      apply wx_val
      exact v_agetT (clk := clk) hL rfl rfl rfl rfl rfl
      rfl
      (try refine wx_nil ?_)
      refine wq_held (by (first | exact fun _ h => h | exact fun _ h => res_takes h)) ?_
      refine wh_eff 13 rfl (by decide +kernel) ?_
      refine wl_callT (fun w' hr ho => hi w' ho) rfl rfl rfl ?_
      rintro ⟨⟨A2, c2, B2, d2, m2⟩, E2, Es2⟩ ⟨⟨u1, u2, u3, u4⟩, hm2, hi2, hn2⟩
      dsimp only at u1 u2 hm2 ⊢
      have hm2 := hm2.symm
      subst hm2
      refine wx_cat ?_
      (try refine wx_nil ?_)
      refine wq_held (by (first | exact fun _ h => h | exact fun _ h => res_takes h)) ?_
      refine wh_eff 14 rfl (by decide +kernel) ?_
      refine wl_mputT (clk := clk) rfl hok rfl rfl rfl rfl ?_
      (try refine wx_nil ?_)
      refine wq_held (by (first | exact fun _ h => h | exact fun _ h => res_takes h)) ?_
      refine wh_done (by decide +kernel) ?_
      repeat (first | (apply wx_val; (first | exact v_move rfl | exact v_assign rfl | exact v_nil rfl | exact v_faddr rfl rfl | exact v_ldT rfl rfl rfl (by rfl) | exact v_addi rfl rfl (by omega)); rfl) | refine wc_seq ?_ | refine wc_region ?_ | refine wx_nil ?_ | refine wq_next ?_ | refine wc_ret ?_ | refine wq_setn ?_ | refine wl_storeT rfl rfl rfl (by rfl) (by exact .inl (Nat.le_refl _)) rfl ?_)
      refine wq_blk g (fsC ⟨A2, c2, B2, d2, ym⟩ N'.length sp'.length (cnt + 1)) (by rfl) ?_
      refine wq_setn ?_
      exact wq_ret1T (⟨A2, c2, B2, d2, ym⟩, E2, Es2) rfl rfl ⟨⟨u1, u2, u3, u4⟩, rfl, hi2, hn2⟩ rfl
    · repeat (first | (apply wx_val; (first | exact v_ldT rfl rfl rfl (by rfl)); rfl) | refine wx_nil ?_)
      (try refine wx_nil ?_)
      refine wq_held (by (first | exact fun _ h => h | exact fun _ h => res_takes h)) ?_
      refine wh_eff2 3 11 rfl rfl (by decide +kernel) ?_ ?_
      · repeat (first | (apply wx_val; (first | exact v_ldT rfl rfl rfl (by rfl)); rfl) | refine wx_nil ?_)
        (try refine wx_nil ?_)
        refine wq_held (by (first | exact fun _ h => h | exact fun _ h => res_takes h)) ?_
        refine wh_eff 11 rfl (by decide +kernel) ?_
        (try refine wx_ungd rfl rfl ?_)
        apply wx_val
        exact v_agetT (clk := clk) hL rfl rfl rfl rfl rfl
        rfl
        (try refine wx_nil ?_)
        refine wq_held (by (first | exact fun _ h => h | exact fun _ h => res_takes h)) ?_
        refine wh_eff 13 rfl (by decide +kernel) ?_
        refine wl_callT (fun w' hr ho => hi w' ho) rfl rfl rfl ?_
        rintro ⟨⟨A2, c2, B2, d2, m2⟩, E2, Es2⟩ ⟨⟨u1, u2, u3, u4⟩, hm2, hi2, hn2⟩
        dsimp only at u1 u2 hm2 ⊢
        have hm2 := hm2.symm
        subst hm2
        refine wx_cat ?_
        (try refine wx_nil ?_)
        refine wq_held (by (first | exact fun _ h => h | exact fun _ h => res_takes h)) ?_
        refine wh_eff 14 rfl (by decide +kernel) ?_
        refine wl_mputT (clk := clk) rfl hok rfl rfl rfl rfl ?_
        (try refine wx_nil ?_)
        refine wq_held (by (first | exact fun _ h => h | exact fun _ h => res_takes h)) ?_
        refine wh_done (by decide +kernel) ?_
        repeat (first | (apply wx_val; (first | exact v_move rfl | exact v_assign rfl | exact v_nil rfl | exact v_faddr rfl rfl | exact v_ldT rfl rfl rfl (by rfl) | exact v_addi rfl rfl (by omega)); rfl) | refine wc_seq ?_ | refine wc_region ?_ | refine wx_nil ?_ | refine wq_next ?_ | refine wc_ret ?_ | refine wq_setn ?_ | refine wl_storeT rfl rfl rfl (by rfl) (by exact .inl (Nat.le_refl _)) rfl ?_)
        refine wq_blk g (fsC ⟨A2, c2, B2, d2, ym⟩ N'.length sp'.length (cnt + 1)) (by rfl) ?_
        refine wq_setn ?_
        exact wq_ret1T (⟨A2, c2, B2, d2, ym⟩, E2, Es2) rfl rfl ⟨⟨u1, u2, u3, u4⟩, rfl, hi2, hn2⟩ rfl
      · (try refine wx_ungd rfl rfl ?_)
        apply wx_val
        exact v_agetT (clk := clk) hL rfl rfl rfl rfl rfl
        rfl
        (try refine wx_nil ?_)
        refine wq_held (by (first | exact fun _ h => h | exact fun _ h => res_takes h)) ?_
        refine wh_eff2 3 13 rfl rfl (by decide +kernel) ?_ ?_
        · repeat (first | (apply wx_val; (first | exact v_ldT rfl rfl rfl (by rfl)); rfl) | refine wx_nil ?_)
          (try refine wx_nil ?_)
          refine wq_held (by (first | exact fun _ h => h | exact fun _ h => res_takes h)) ?_
          refine wh_eff 13 rfl (by decide +kernel) ?_
          refine wl_callT (fun w' hr ho => hi w' ho) rfl rfl rfl ?_
          rintro ⟨⟨A2, c2, B2, d2, m2⟩, E2, Es2⟩ ⟨⟨u1, u2, u3, u4⟩, hm2, hi2, hn2⟩
          dsimp only at u1 u2 hm2 ⊢
          have hm2 := hm2.symm
          subst hm2
          refine wx_cat ?_
          (try refine wx_nil ?_)
          refine wq_held (by (first | exact fun _ h => h | exact fun _ h => res_takes h)) ?_
          refine wh_eff 14 rfl (by decide +kernel) ?_
          refine wl_mputT (clk := clk) rfl hok rfl rfl rfl rfl ?_
          (try refine wx_nil ?_)
          refine wq_held (by (first | exact fun _ h => h | exact fun _ h => res_takes h)) ?_
          refine wh_done (by decide +kernel) ?_
          repeat (first | (apply wx_val; (first | exact v_move rfl | exact v_assign rfl | exact v_nil rfl | exact v_faddr rfl rfl | exact v_ldT rfl rfl rfl (by rfl) | exact v_addi rfl rfl (by omega)); rfl) | refine wc_seq ?_ | refine wc_region ?_ | refine wx_nil ?_ | refine wq_next ?_ | refine wc_ret ?_ | refine wq_setn ?_ | refine wl_storeT rfl rfl rfl (by rfl) (by exact .inl (Nat.le_refl _)) rfl ?_)
          refine wq_blk g (fsC ⟨A2, c2, B2, d2, ym⟩ N'.length sp'.length (cnt + 1)) (by rfl) ?_
          refine wq_setn ?_
          exact wq_ret1T (⟨A2, c2, B2, d2, ym⟩, E2, Es2) rfl rfl ⟨⟨u1, u2, u3, u4⟩, rfl, hi2, hn2⟩ rfl
        · refine wl_callT (fun w' hr ho => hi w' ho) rfl rfl rfl ?_
          rintro ⟨⟨A2, c2, B2, d2, m2⟩, E2, Es2⟩ ⟨⟨u1, u2, u3, u4⟩, hm2, hi2, hn2⟩
          dsimp only at u1 u2 hm2 ⊢
          have hm2 := hm2.symm
          subst hm2
          refine wx_cat ?_
          (try refine wx_nil ?_)
          refine wq_held (by (first | exact fun _ h => h | exact fun _ h => res_takes h)) ?_
          refine wh_eff 3 rfl (by decide +kernel) ?_
          repeat (first | (apply wx_val; (first | exact v_ldT rfl rfl rfl (by rfl)); rfl) | refine wx_nil ?_)
          (try refine wx_nil ?_)
          refine wq_held (by (first | exact fun _ h => h | exact fun _ h => res_takes h)) ?_
          refine wh_eff 14 rfl (by decide +kernel) ?_
          refine wl_mputT (clk := clk) rfl hok rfl rfl rfl rfl ?_
          (try refine wx_nil ?_)
          refine wq_held (by (first | exact fun _ h => h | exact fun _ h => res_takes h)) ?_
          refine wh_done (by decide +kernel) ?_
          repeat (first | (apply wx_val; (first | exact v_move rfl | exact v_assign rfl | exact v_nil rfl | exact v_faddr rfl rfl | exact v_ldT rfl rfl rfl (by rfl) | exact v_addi rfl rfl (by omega)); rfl) | refine wc_seq ?_ | refine wc_region ?_ | refine wx_nil ?_ | refine wq_next ?_ | refine wc_ret ?_ | refine wq_setn ?_ | refine wl_storeT rfl rfl rfl (by rfl) (by exact .inl (Nat.le_refl _)) rfl ?_)
          refine wq_blk g (fsC ⟨A2, c2, B2, d2, ym⟩ N'.length sp'.length (cnt + 1)) (by rfl) ?_
          refine wq_setn ?_
          exact wq_ret1T (⟨A2, c2, B2, d2, ym⟩, E2, Es2) rfl rfl ⟨⟨u1, u2, u3, u4⟩, rfl, hi2, hn2⟩ rfl
theorem hasT_mem {t : Tr} {s : Sp} : hasT t s = true → s ∈ toL t := by
  induction t with
  | nil => intro h; exact absurd h (by simp [hasT])
  | node i l s0 r hh ff ihl ihr =>
    intro h
    unfold hasT at h
    unfold toL
    rcases cmp_cases s s0 with ⟨h1, h2⟩ | ⟨h1, h2⟩ | ⟨h1, h2⟩
    · rw [if_neg (by omega), if_pos h1] at h
      exact List.mem_append.2 (.inl (ihl h))
    · rw [h2]; simp
    · rw [if_neg (by omega), if_neg (by omega)] at h
      exact List.mem_append.2 (.inr (List.mem_cons_of_mem _ (ihr h)))
theorem remove_no (k : ByteArray) (s : Sp) {t : Tr} (hf : FsO N sp y E Es) (ht : At N t) (hL : RootAt L k t) (hc : hasT t s = false) (w : World) (ho : Own w (fsN g y N sp cnt E Es L clk)) :
    Calls Try.prog 17 #[.pointer (some ⟨g, 0, none⟩), .string k, .agg s.cells.toArray] w (Ret (β := Unit) w (ids (fsN g y N sp cnt E Es L clk)) (fun _ => .bool false) (fun _ => fsN g y N sp cnt E Es L clk) (fun _ => True)) := by
  refine go [.pointer (some ⟨g, 0, none⟩), .string k, .agg s.cells.toArray] (fsN g y N sp cnt E Es L clk) Try.func17 Try.ntmps17 rfl rfl ho ?_
  obtain ⟨h1, h2, h3, h4⟩ := hf
  have hs := fun w' ho => has_spec (clk := clk) (g := g) (cnt := cnt) (sp := sp) k s h1 h3 ht hL w' ho
  rw [hc] at hs
  repeat (first | refine wc_seq ?_ | refine wc_region ?_)
  refine wl_boxA rfl rfl (fun g5 => ?_)
  repeat (first | (apply wx_val; (first | exact v_move rfl | exact v_assign rfl | exact v_ldAT rfl (by rfl)); rfl) | refine wc_seq ?_ | refine wc_region ?_ | refine wx_nil ?_ | refine wq_next ?_)
  refine wl_callT (fun w' hr ho => hs w' ho) rfl rfl rfl ?_
  rintro - -
  repeat (first | (apply wx_val; (first | exact v_assign rfl | exact v_not rfl); rfl) | refine wc_seq ?_ | refine wc_region ?_ | refine wx_nil ?_ | refine wq_next ?_ | refine wc_ret ?_ | refine wq_then_ret ?_ | refine wc_cat ?_ | refine wc_condT rfl ?_)
  exact wq_ret1T () rfl rfl trivial rfl
/-- what the map holds when a span is taken out of a tree -/
def mapRem (k : ByteArray) (r : Nat) (L : TE ByteArray) (clk : Nat) : TE ByteArray := if r = 0 then adel k (aput k (.int .i64 (r : Nat)) L clk) else aput k (.int .i64 (r : Nat)) L clk
theorem remove_ok (k : ByteArray) (s : Sp) {t : Tr} (hf : FsO N sp y E Es) (ht : At N t) (hsr : Srt t) (hL : RootAt L k t) (hok : MapOk L clk) (hsz : N.length ≤ 1099511627776) (hsz2 : sp.length ≤ 1099511627776) (hcn : 0 ≤ cnt ∧ cnt ≤ 1099511627776) (hc : hasT t s = true) (w : World) (ho : Own w (fsN g y N sp cnt E Es L clk)) :
    Calls Try.prog 17 #[.pointer (some ⟨g, 0, none⟩), .string k, .agg s.cells.toArray] w (Ret (β := Fa × Seg × Seg) w (ids (fsN g y N sp cnt E Es L clk)) (fun _ => .bool true) (fun q => fsN g q.1 (remA t N sp s).2.1 (remA t N sp s).2.2 (cnt - 1) q.2.1 q.2.2 (mapRem k (remA t N sp s).1 L clk) (aclk k L clk)) (RemO N (remA t N sp s).2.1 (remA t N sp s).2.2 (remA t N sp s).1 y)) := by
  refine go [.pointer (some ⟨g, 0, none⟩), .string k, .agg s.cells.toArray] (fsN g y N sp cnt E Es L clk) Try.func17 Try.ntmps17 rfl rfl ho ?_
  obtain ⟨yA, yc, yB, yd, ym⟩ := y
  have hi := fun w' ho => remove_spec (g := g) (cnt := cnt) t hf ht hsr (hasT_mem hc) hsz hsz2 w' ho
  obtain ⟨h1, h2, h3, h4⟩ := hf
  have hs := fun w' ho => has_spec (clk := clk) (g := g) (cnt := cnt) (y := ⟨yA, yc, yB, yd, ym⟩) (sp := sp) k s h1 h3 ht hL w' ho
  rw [hc] at hs
  generalize remA t N sp s = q at *
  obtain ⟨k', N', sp'⟩ := q
  dsimp only at hi h1 h2 ⊢
  repeat (first | refine wc_seq ?_ | refine wc_region ?_)
  refine wl_boxA rfl rfl (fun g5 => ?_)
  repeat (first | (apply wx_val; (first | exact v_move rfl | exact v_assign rfl | exact v_ldAT rfl (by rfl)); rfl) | refine wc_seq ?_ | refine wc_region ?_ | refine wx_nil ?_ | refine wq_next ?_)
  refine wl_callT (fun w' hr ho => hs w' ho) rfl rfl rfl ?_
  rintro - -
  repeat (first | (apply wx_val; (first | exact v_not rfl); rfl) | refine wc_seq ?_ | refine wx_nil ?_ | refine wq_next ?_ | refine wc_skip ?_ | refine wc_cat ?_ | refine wc_condF rfl ?_)
  refine wc_heldX [] [[(g5, .cells s.cells.toArray 28 (0, 0))]] rfl (by (repeat (first | with_reducible exact panicNot_of panicOk_body | with_reducible apply panicNot_then))) (fun hQd => ?_)
  (apply wh_takeX 0; (first | exact fun _ h => h | exact fun _ h => res_takes h); exact hQd; rfl; rfl; exact v_move rfl; decide +kernel; decide +kernel; decide +kernel; rfl)
  (apply wh_takeX 1; (first | exact fun _ h => h | exact fun _ h => res_takes h); exact hQd; rfl; rfl; exact v_move rfl; decide +kernel; decide +kernel; decide +kernel; rfl)
  (apply wh_takeX 2; (first | exact fun _ h => h | exact fun _ h => res_takes h); exact hQd; rfl; rfl; exact v_nil rfl; decide +kernel; decide +kernel; decide +kernel; rfl)
  (apply wh_takeX 3; (first | exact fun _ h => h | exact fun _ h => res_takes h); exact hQd; rfl; rfl; exact v_faddr rfl rfl; decide +kernel; decide +kernel; decide +kernel; rfl)
  (apply wh_takeX 5; (first | exact fun _ h => h | exact fun _ h => res_takes h); exact hQd; rfl; rfl; exact v_move rfl; decide +kernel; decide +kernel; decide +kernel; rfl)
  (apply wh_takeX 7; (first | exact fun _ h => res_takes h); exact hQd; rfl; rfl; (first | exact v_ldAT rfl (by rfl)); decide +kernel; decide +kernel; decide +kernel; rfl)
  refine wh_eff 4 rfl (by decide +kernel) ?_
  repeat (first | (apply wx_val; (first | exact v_ldT rfl rfl rfl (by rfl)); rfl) | refine wx_nil ?_)
  (try refine wx_nil ?_)
  refine wq_held (by (first | exact fun _ h => h | exact fun _ h => res_takes h)) ?_
  refine wh_eff 6 rfl (by decide +kernel) ?_
  (try refine wx_ungd rfl rfl ?_)
  apply wx_val
  exact v_agetT (clk := clk) hL rfl rfl rfl rfl rfl
  rfl
  (try refine wx_nil ?_)
  refine wq_held (by (first | exact fun _ h => h | exact fun _ h => res_takes h)) ?_
  refine wh_eff 8 rfl (by decide +kernel) ?_
  refine wl_callT (fun w' hr ho => hi w' ho) rfl rfl rfl ?_
  rintro ⟨⟨A2, c2, B2, d2, m2⟩, E2, Es2⟩ ⟨⟨u1, u2, u3, u4⟩, hm2, hA2, hc2, hi2, hn2⟩
  dsimp only at u1 u2 hm2 hA2 hc2 ⊢
  have hm2 := hm2.symm
  subst hm2
  refine wx_cat ?_
  (try refine wx_nil ?_)
  refine wq_held (by (first | exact fun _ h => h | exact fun _ h => res_takes h)) ?_
  (apply wh_takeX 9; (first | exact fun _ h => h | exact fun _ h => res_takes h); exact hQd; rfl; rfl; exact v_assign rfl; decide +kernel; decide +kernel; decide +kernel; rfl)
  refine wh_done (by decide +kernel) ?_
  repeat (first | (apply wx_val; (first | exact v_move rfl | exact v_nil rfl | exact v_faddr rfl rfl | exact v_ldT rfl rfl rfl (by rfl)); rfl) | refine wc_seq ?_ | refine wc_region ?_ | refine wq_next ?_)
  refine wl_mputT (clk := clk) rfl hok rfl rfl rfl rfl ?_
  repeat (first | (apply wx_val; (first | exact v_move rfl | exact v_eq rfl rfl); rfl) | refine wc_seq ?_ | refine wc_region ?_ | refine wx_nil ?_ | refine wq_next ?_)
  unfold mapRem
  refine wc_if rfl (fun hd => ?_) (fun hd => ?_)
  · rw [if_pos (show k' = 0 by omega)]
    repeat (first | (apply wx_val; (first | exact v_move rfl | exact v_nil rfl | exact v_faddr rfl rfl | exact v_ldT rfl rfl rfl (by rfl)); rfl) | refine wc_region ?_)
    refine wl_mdelT (clk := aclk k L clk) (L := aput k (.int .i64 (k' : Nat)) L clk) rfl (hok.put _ _) rfl rfl rfl ?_
    repeat (first | (apply wx_val; (first | exact v_move rfl | exact v_assign rfl | exact v_nil rfl | exact v_faddr rfl rfl | exact v_ldT rfl rfl rfl (by rfl) | exact v_subi rfl rfl (by omega)); rfl) | refine wc_seq ?_ | refine wc_region ?_ | refine wx_nil ?_ | refine wq_next ?_ | refine wc_ret ?_ | refine wq_setn ?_ | refine wl_storeT rfl rfl rfl (by rfl) (by exact .inl (Nat.le_refl _)) rfl ?_)
    refine wq_blk g (fsC ⟨A2, c2, B2, d2, ym⟩ N'.length sp'.length (cnt - 1)) (by rfl) ?_
    refine wq_setn ?_
    exact wq_ret1T (⟨A2, c2, B2, d2, ym⟩, E2, Es2) rfl rfl ⟨⟨u1, u2, u3, u4⟩, rfl, hA2, hc2, hi2, hn2⟩ rfl
  · rw [if_neg (show ¬ k' = 0 by omega)]
    repeat (first | (apply wx_val; (first | exact v_move rfl | exact v_assign rfl | exact v_nil rfl | exact v_faddr rfl rfl | exact v_ldT rfl rfl rfl (by rfl) | exact v_subi rfl rfl (by omega)); rfl) | refine wc_seq ?_ | refine wc_region ?_ | refine wx_nil ?_ | refine wq_next ?_ | refine wc_ret ?_ | refine wc_skip ?_ | refine wq_setn ?_ | refine wl_storeT rfl rfl rfl (by rfl) (by exact .inl (Nat.le_refl _)) rfl ?_)
    refine wq_blk g (fsC ⟨A2, c2, B2, d2, ym⟩ N'.length sp'.length (cnt - 1)) (by rfl) ?_
    refine wq_setn ?_
    exact wq_ret1T (⟨A2, c2, B2, d2, ym⟩, E2, Es2) rfl rfl ⟨⟨u1, u2, u3, u4⟩, rfl, hA2, hc2, hi2, hn2⟩ rfl
theorem zero_inb : Inb [Nd.zero] := by
  refine ⟨by decide, by decide, fun n hn => ?_, fun n hn => ?_⟩
  all_goals rw [List.mem_singleton.1 hn]; decide
theorem new_spec (w : World) :
    Calls Try.prog 11 #[] w (Ret (β := Nat × Fa × Seg) w (ids []) (fun q => .pointer (some ⟨q.1, 0, none⟩)) (fun q => fsN q.1 q.2.1 [Nd.zero] [] 0 q.2.2 [] [] 0) (fun q => FsO [Nd.zero] [] q.2.1 q.2.2 [])) := by
  refine go [] [] Try.func11 Try.ntmps11 rfl rfl (own_nil w) ?_
  repeat (first | (apply wx_val; (first | exact v_assign rfl); rfl) | refine wc_seq ?_ | refine wc_region ?_ | refine wx_nil ?_ | refine wq_next ?_)
  refine wl_make rfl rfl rfl rfl (by omega) (by omega) (by omega) rfl (fun g1 => ?_)
  refine wl_makeMap rfl (fun gm => ?_)
  refine wx_mem (M' := [mpB gm [] 0, [(g1, .cells Nd.zero.cells.toArray 65 (0, 0))]]) (by kernel_rfl) ?_
  refine wx_seg ?_
  skip
  (try refine wx_ungd rfl rfl ?_)
  apply wx_val
  exact v_build (cs := ((fsC ⟨some ⟨g1, 0, none⟩, 1, none, 0, gm⟩ 1 0 0)).toArray) rfl (by kernel_rfl)
  rfl
  refine wl_boxA rfl rfl (fun g => ?_)
  repeat (first | (apply wx_val; (first | exact v_assign rfl); rfl) | refine wx_nil ?_ | refine wq_next ?_ | refine wc_ret ?_)
  exact wq_ret1T (L := []) (g, ⟨some ⟨g1, 0, none⟩, 1, none, 0, gm⟩, [(g1, .cells Nd.zero.cells.toArray 65 (0, 0))]) rfl rfl ⟨Buf.full (n := 1) Nd.zero.cells rfl (by decide), Buf.nil _ _, zero_inb, by simp⟩ rfl
end fs
end Go.Proofs.Ytjeghbachokljaa
