/- The iterator over a tree; Overlap and First. -/
import Derived.Test.YtjeghbachokljaaSpS
set_option linter.unusedVariables false
set_option linter.unusedSimpArgs false
namespace Go.Proofs.Ytjeghbachokljaa
open Go
set_option maxRecDepth 20000
set_option maxHeartbeats 2000000
attribute [local irreducible] WX WC WQ Val VCall WY WR
abbrev bxP (b g : Nat) : Seg := [(b, .cells [.pointer (some ⟨g, 0, none⟩)].toArray 23 (0, 0))]
abbrev bxS (b : Nat) (k : ByteArray) : Seg := [(b, .cells [.string k].toArray 9 (0, 0))]
abbrev bxI (b : Nat) (v : Int) : Seg := [(b, .cells [.int .i64 v].toArray 3 (0, 0))]
abbrev ovP (b : Nat × Nat × Nat × Nat) : Array Value := #[.pointer (some ⟨b.1, 0, none⟩), .pointer (some ⟨b.2.1, 0, none⟩), .pointer (some ⟨b.2.2.1, 0, none⟩), .pointer (some ⟨b.2.2.2, 0, none⟩)]
abbrev ovB (g : Nat) (k : ByteArray) (lo hi : Int) (b : Nat × Nat × Nat × Nat) : List Seg := [bxP b.1 g, bxS b.2.1 k, bxI b.2.2.1 lo, bxI b.2.2.2 hi]
section fs
variable {g : Nat} {y : Fa} {cnt : Int} {N : List Nd} {sp : List Nat} {E : Seg} {L : TE ByteArray} {clk : Nat}
theorem over_spec (k : ByteArray) (lo hi : Int) (w : World) :
    Calls Try.prog 26 #[.pointer (some ⟨g, 0, none⟩), .string k, .int .i64 lo, .int .i64 hi] w (Ret (β := Nat × Nat × Nat × Nat) w (ids []) (fun b => .func (.func 40) #[] (ovP b)) (fun b => ovB g k lo hi b) (fun _ => True)) := by
  refine go [.pointer (some ⟨g, 0, none⟩), .string k, .int .i64 lo, .int .i64 hi] [] Try.func26 Try.ntmps26 rfl rfl (own_nil w) ?_
  repeat (first | refine wc_seq ?_ | refine wc_region ?_)
  refine wl_box rfl rfl (fun g4 => ?_)
  refine wl_box rfl rfl (fun g5 => ?_)
  refine wl_box rfl rfl (fun g6 => ?_)
  refine wl_box rfl rfl (fun g7 => ?_)
  refine wx_mem (M' := [bxI g7 hi, bxI g6 lo, bxS g5 k, bxP g4 g]) rfl ?_
  repeat (first | (apply wx_val; (first | exact v_assign rfl | exact v_mkFunc rfl rfl); rfl) | refine wc_seq ?_ | refine wc_region ?_ | refine wx_nil ?_ | refine wq_next ?_ | refine wc_ret ?_)
  exact wq_ret1T (g4, g5, g6, g7) rfl rfl trivial rfl
theorem over1_spec {β : Type} (MB : β → Seg) (ok : List Sp → β → Prop) {lp n0 : Nat} (k : ByteArray) (lo hi : Int) (b : Nat × Nat × Nat × Nat) {t : Tr} (h1 : ArO N N.length y.A y.c E) (h3 : Inb N) (ht : At N t) (hL : RootAt L k t)
    (hz : t.size ≤ n0) (hY : ∀ pre q (s : Sp) W, pre.length < n0 → ok pre q → Own W [MB q] → YieldAt Fence.wide 0 Try.prog lp #[.agg s.cells.toArray] W (Ret (β := β) W (ids [MB q]) (fun _ => .bool true) (fun q' => [MB q']) (ok (pre ++ [s])))) (q : β) (hq : ok [] q) (w : World)
    (ho : Own w (ovB g k lo hi b ++ [fsB g y N.length sp.length cnt, E, mpB y.m L clk, MB q])) :
    Calls Try.prog 40 (#[.func (.yield lp) #[] #[]] ++ ovP b) w (Ret (β := β) w (ids (ovB g k lo hi b ++ [fsB g y N.length sp.length cnt, E, mpB y.m L clk, MB q])) (fun _ => .tuple #[]) (fun q' => ovB g k lo hi b ++ [fsB g y N.length sp.length cnt, E, mpB y.m L clk, MB q']) (ok (overT lo hi t))) := by
  refine go [.func (.yield lp) #[] #[], .pointer (some ⟨b.1, 0, none⟩), .pointer (some ⟨b.2.1, 0, none⟩), .pointer (some ⟨b.2.2.1, 0, none⟩), .pointer (some ⟨b.2.2.2, 0, none⟩)] (ovB g k lo hi b ++ [fsB g y N.length sp.length cnt, E, mpB y.m L clk, MB q]) Try.func40 Try.ntmps40 rfl rfl ho ?_
  refine wc_cat ?_
  skip
  refine wc_heldX [] [bxP b.1 g, bxS b.2.1 k, bxI b.2.2.1 lo, bxI b.2.2.2 hi, fsB g y N.length sp.length cnt] rfl (by (repeat (first | with_reducible exact panicNot_of panicOk_body))) (fun hQd => ?_)
  (apply wh_takeX 0; (first | exact fun _ h => res_takes h); exact hQd; rfl; rfl; (first | exact v_ldT rfl rfl rfl (by rfl)); decide +kernel; decide +kernel; decide +kernel; rfl)
  (apply wh_takeX 1; (first | exact fun _ h => res_takes h); exact hQd; rfl; rfl; (first | exact v_ldT rfl rfl rfl (by rfl)); decide +kernel; decide +kernel; decide +kernel; rfl)
  (apply wh_takeX 2; (first | exact fun _ h => h | exact fun _ h => res_takes h); exact hQd; rfl; rfl; exact v_nil rfl; decide +kernel; decide +kernel; decide +kernel; rfl)
  (apply wh_takeX 3; (first | exact fun _ h => h | exact fun _ h => res_takes h); exact hQd; rfl; rfl; exact v_faddr rfl rfl; decide +kernel; decide +kernel; decide +kernel; rfl)
  (apply wh_takeX 4; (first | exact fun _ h => res_takes h); exact hQd; rfl; rfl; (first | exact v_ldT rfl rfl rfl (by rfl)); decide +kernel; decide +kernel; decide +kernel; rfl)
  (apply wh_takeX 5; (first | exact fun _ h => res_takes h); exact hQd; rfl; rfl; (first | exact v_ldT rfl rfl rfl (by rfl)); decide +kernel; decide +kernel; decide +kernel; rfl)
  (apply wh_takeX 7; (first | exact fun _ h => res_takes h); exact hQd; rfl; rfl; (first | exact v_ldT rfl rfl rfl (by rfl)); decide +kernel; decide +kernel; decide +kernel; rfl)
  (apply wh_takeX 8; (first | exact fun _ h => res_takes h); exact hQd; rfl; rfl; (first | exact v_ldT rfl rfl rfl (by rfl)); decide +kernel; decide +kernel; decide +kernel; rfl)
  (apply wh_takeX 9; (first | exact fun _ h => h | exact fun _ h => res_takes h); exact hQd; rfl; rfl; exact v_move rfl; decide +kernel; decide +kernel; decide +kernel; rfl)
  refine wh_eff 6 rfl (by decide +kernel) ?_
  (try refine wx_ungd rfl rfl ?_)
  apply wx_val
  exact v_agetT (clk := clk) hL rfl rfl rfl rfl rfl
  rfl
  (try refine wx_nil ?_)
  refine wq_held (by (first | exact fun _ h => h | exact fun _ h => res_takes h)) ?_
  refine wh_eff 10 rfl (by decide +kernel) ?_
  refine wl_callT (fun w' hr ho => walk_spec (k := sp.length) (cnt := cnt) MB ok lo hi h1 h3 hY t [] q ht (by simpa using hz) hq w' ho) rfl rfl rfl ?_
  intro q1 hq1
  refine wx_cat ?_
  (try refine wx_nil ?_)
  refine wq_held (by (first | exact fun _ h => h | exact fun _ h => res_takes h)) ?_
  refine wh_done (by decide +kernel) ?_
  skip
  refine wq_normR ?_
  exact wq_ret0T q1 rfl rfl hq1
/-- the list that Overlap builds: the loop's record, the list's cell, the list -/
abbrev olC (b : Nat) (A : Option Addr) (n c : Nat) : Seg := [(b, .cells [.slice A n c].toArray 29 (0, 0))]
abbrev SpL (l : List Sp) (A : Option Addr) (n c : Nat) (E : Seg) : Prop := Buf 28 3 A n c (l.flatMap Sp.cells) E
theorem overlap_spec (k : ByteArray) (lo hi : Int) {t : Tr} (h1 : ArO N N.length y.A y.c E) (h3 : Inb N) (ht : At N t) (hz : t.size ≤ 1099511627776) (hL : RootAt L k t) (w : World) (ho : Own w [fsB g y N.length sp.length cnt, E, mpB y.m L clk]) :
    Calls Try.prog 13 #[.pointer (some ⟨g, 0, none⟩), .string k, .int .i64 lo, .int .i64 hi] w (Ret (β := Option Addr × Nat × Seg) w (ids [fsB g y N.length sp.length cnt, E, mpB y.m L clk]) (fun q => .slice q.1 (overT lo hi t).length q.2.1) (fun q => [fsB g y N.length sp.length cnt, E, mpB y.m L clk, q.2.2]) (fun q => SpL (overT lo hi t) q.1 (overT lo hi t).length q.2.1 q.2.2)) := by
  refine goM [.pointer (some ⟨g, 0, none⟩), .string k, .int .i64 lo, .int .i64 hi] [fsB g y N.length sp.length cnt, E, mpB y.m L clk] Try.func13 Try.ntmps13 rfl rfl ho ?_
  repeat (first | (apply wx_val; (first | exact v_assign rfl); rfl) | refine wc_seq ?_ | refine wc_region ?_ | refine wx_nil ?_ | refine wq_next ?_)
  refine wl_alloc rfl rfl (fun g9 => ?_)
  repeat (first | (apply wx_val; (first | exact v_move rfl); rfl) | refine wc_seq ?_ | refine wc_region ?_ | refine wx_nil ?_ | refine wq_next ?_)
  refine wl_callT (fun w' hr ho => over_spec k lo hi w') rfl rfl rfl ?_
  intro b _
  repeat (first | refine wx_nil ?_ | refine wq_next ?_ | refine wc_block ?_ | refine wc_cat ?_)
  refine wc_mem (M' := [bxP b.1 g, bxS b.2.1 k, bxI b.2.2.1 lo, bxI b.2.2.2 hi, olC g9 none 0 0, fsB g y N.length sp.length cnt, E, mpB y.m L clk]) rfl ?_
  refine wc_seg ?_
  refine wc_rangeFunc (β := List Sp × Option Addr × Nat × Seg) (val := fun _ => .tuple #[]) (M1 := ovB g k lo hi b ++ [fsB g y N.length sp.length cnt, E, mpB y.m L clk] ++ [olC g9 none 0 0, []]) (MM := fun q => ovB g k lo hi b ++ [fsB g y N.length sp.length cnt, E, mpB y.m L clk] ++ [olC g9 q.2.1 q.1.length q.2.2.1, q.2.2.2]) (φ := fun q => q.1 = overT lo hi t ∧ SpL q.1 q.2.1 q.1.length q.2.2.1 q.2.2.2) rfl rfl ?_ ?_
  · intro lp D fn a w' rc erc hs ho'
    refine Calls.mono' (over1_spec (g := g) (sp := sp) (cnt := cnt) (clk := clk) (n0 := 1099511627776) (lp := lp) (β := List Sp × Option Addr × Nat × Seg) (fun q => lpB lp rc ++ [olC g9 q.2.1 q.1.length q.2.2.1, q.2.2.2].flatten) (fun pre q => q.1 = pre ∧ SpL q.1 q.2.1 q.1.length q.2.2.1 q.2.2.2) k lo hi b h1 h3 ht hL hz ?_ ([], none, 0, []) ⟨rfl, Buf.nil _ _⟩ w' (ho'.flatP (flat_mid _ _ _))) (fun e w2 hR => ret_flat hR (flat_mid (lpB lp rc) (ovB g k lo hi b ++ [fsB g y N.length sp.length cnt, E, mpB y.m L clk]) [olC g9 none 0 0, []]).symm (fun q _ => (flat_mid (lpB lp rc) (ovB g k lo hi b ++ [fsB g y N.length sp.length cnt, E, mpB y.m L clk]) [olC g9 q.2.1 q.1.length q.2.2.1, q.2.2.2]).symm))
    rintro pre ⟨l1, A1, c1, E1⟩ s W hlt ⟨rfl, hb1⟩ hoW
    dsimp only at hb1 hlt hoW ⊢
    refine yield_mono (yield_of (R := Ret (β := List Sp × Option Addr × Nat × Seg) W (ids (lpB lp rc :: [olC g9 A1 l1.length c1, E1])) (fun _ => .bool true) (fun q => lpB lp rc :: [olC g9 q.2.1 q.1.length q.2.2.1, q.2.2.2]) (fun q => q.1 = l1 ++ [s] ∧ SpL q.1 q.2.1 q.1.length q.2.2.1 q.2.2.2)) erc hs rfl (hoW.flatP (flat_in _ _)) ?_) (fun e w2 hR => ret_flat hR (flat_in _ _).symm (fun q _ => (flat_in _ _).symm))
    refine wr_region out_ass rfl ?_
    refine wl_alloc rfl rfl (fun g10 => ?_)
    repeat (first | refine wx_nil ?_ | refine wq_setn ?_ | refine wl_stAT rfl rfl (by rfl) (by rfl) (by exact .inl (Nat.le_refl _)) rfl ?_)
    refine wq_begin (r := rc) (by rw [erc]; rfl) ?_
    refine wr_block (wr_region (out_block out_round) rfl ?_)
    repeat (first | (apply wx_val; (first | exact v_ldT rfl rfl rfl (by rfl) | exact v_ldAT rfl (by rfl)); rfl))
    refine wl_lit rfl rfl rfl rfl rfl (by decide) rfl (fun g19 => ?_)
    refine wl_app1T (news := s.cells) rfl hb1 rfl rfl rfl rfl (by omega) rfl (fun A2 c2 E2 hb2 => ?_)
    repeat (first | refine wx_nil ?_ | refine wq_block ?_ | refine wq_setn ?_ | refine wl_storeT rfl rfl rfl (by rfl) (by exact .inl (Nat.le_refl _)) rfl ?_)
    refine wq_blk g9 [.slice A2 (l1.length + 1) c2] (by rfl) ?_
    refine wq_setn ?_
    have hll : (l1 ++ [s]).length = l1.length + 1 := by simp
    have hb3 : SpL (l1 ++ [s]) A2 (l1 ++ [s]).length c2 E2 := by
      rw [hll]
      show Buf _ _ _ _ _ _ _
      rw [List.flatMap_append]
      simpa using hb2
    rw [← hll]
    exact wq_end (r := rc) (by rw [erc]; rfl) (by rw [erc]; rfl) (l1 ++ [s], A2, c2, E2) ⟨rfl, hb3⟩
  · rintro ⟨l2, A2, c2, E2⟩ D ⟨rfl, hb2⟩
    dsimp only at hb2 ⊢
    refine wq_block (wq_next ?_)
    refine wc_mem (M' := [dfB D, bxP b.1 g, bxS b.2.1 k, bxI b.2.2.1 lo, bxI b.2.2.2 hi, fsB g y N.length sp.length cnt, E, mpB y.m L clk, olC g9 A2 (overT lo hi t).length c2, E2]) rfl ?_
    repeat (first | (apply wx_val; (first | exact v_assign rfl | exact v_ldT rfl rfl rfl (by rfl)); rfl) | refine wc_seq ?_ | refine wc_region ?_ | refine wx_nil ?_ | refine wq_next ?_ | refine wc_ret ?_)
    exact wq_retM1 (A2, c2, E2) rfl rfl hb2
end fs
end Go.Proofs.Ytjeghbachokljaa
