/- First. -/
import Derived.Test.YtjeghbachokljaaSpT
set_option linter.unusedVariables false
set_option linter.unusedSimpArgs false
namespace Go.Proofs.Ytjeghbachokljaa
open Go
set_option maxRecDepth 20000
set_option maxHeartbeats 2000000
attribute [local irreducible] WX WC WQ Val VCall WY WR
theorem leavesIn_eq {F : Fence} {n : Nat} {P : Program} {fn : Func} {t1 t2 : Array Value} {R : Ending → World → Prop} (e : results fn t1 = results fn t2) : ∀ (ds : List Deferred) (u : FrameMode) (w : World), LeavesIn F n P fn t1 R ds u w → LeavesIn F n P fn t2 R ds u w
  | [], .returning, w, h => by unfold LeavesIn at h ⊢; rwa [← e]
  | [], .panicking c, w, h => h
  | [], .run, w, h => h
  | d :: ds, u, w, h => by
    unfold LeavesIn at h ⊢
    obtain ⟨h1, h2, fv, cap, f, args, h3, h4, h5, h6⟩ := h
    refine ⟨h1, h2, fv, cap, f, args, h3, h4, h5, h6.mono fun en u' w' he => ?_⟩
    cases en with
    | returned v => exact leavesIn_eq e ds _ _ he
    | panicked c => exact leavesIn_eq e ds _ _ he
    | outgrown => exact he
theorem leavesInM_eq {F : Fence} {n : Nat} {P : Program} {fn : Func} {t1 t2 : Array Value} {R : Ending → World → Prop} (e : results fn t1 = results fn t2) : ∀ (ds : List Deferred) (u : FrameMode) (w : World), LeavesInM F n P fn t1 R ds u w → LeavesInM F n P fn t2 R ds u w
  | [], u, w, h => leavesIn_eq e [] u w h
  | d :: ds, u, w, h => by
    unfold LeavesInM at h ⊢
    obtain ⟨h1, h⟩ := h
    refine ⟨h1, ?_⟩
    rcases h with ⟨r, w', h2, h3, h4⟩ | ⟨h2, fv, cap, f, args, h3, h4, h5, h6⟩
    · exact .inl ⟨r, w', h2, h3, leavesInM_eq e ds _ _ h4⟩
    · refine .inr ⟨h2, fv, cap, f, args, h3, h4, h5, h6.mono fun en u' w' he => ?_⟩
      cases en with
      | returned v => exact leavesInM_eq e ds _ _ he
      | panicked c => exact leavesInM_eq e ds _ _ he
      | outgrown => exact he
theorem panicNot_M2 {P : Program} {fn : Func} {s1 s2 t1 : Nat} {R : Ending → World → Prop} (hr : fn.results = #[.cell s1 t1, .tmp s2]) : PanicNot [s1, s2] (bodyPostM Fence.wide 0 P fn R) := fun c d v a w hk hq => by
  have h1 : d ≠ s1 ∧ d ≠ s2 := by simpa using hk
  have e : results fn (a.tmps.setIfInBounds d v) = results fn a.tmps := by simp [results, hr, Array.getElem?_setIfInBounds_ne h1.1, Array.getElem?_setIfInBounds_ne h1.2, Array.getD_eq_getD_getElem?]
  exact leavesInM_eq e _ _ _ hq
section L
variable {P : Program} {fn : Func} {w0 : World} {X : List Nat} {fr : Fr} {M : List Seg} {β : Type} {val : β → Value} {MM : β → List Seg} {φ : β → Prop}
theorem wq_retMA2 {n D a b t g : Nat} (x : β) {R' L : List Seg} {cs : List Value} {v2 : Value} {et : TypeId} {fz : Nat × Nat} (hr : fn.results = #[.cell a t, .tmp b]) [T : Take (dfB D) M R'] [T2 : Takes (MM x) R' L] (h1 : look fr a = some (.pointer (some ⟨g, 0, none⟩))) [B : BlkIn g R' (.cells cs.toArray et fz)] (hn : aggN P t = some cs.length) (h2 : look fr b = some v2) (hv : val x = .tuple #[.agg cs.toArray, v2]) (hφ : φ x) :
    WQ (bodyPostM Fence.wide 0 P fn (Ret w0 X val MM φ)) ⟨n, [{ target := .collected D, args := #[] }]⟩ w0 X .ret fr M :=
  wq_retM x (fun a w hs hres => by
    obtain ⟨g2, g3⟩ := aggN_spec hn
    have g4 := run_loadCells_list (P := P) w ⟨g, 0, none⟩ cs (fun k v hk => by rw [add_plain, Nat.zero_add]; exact B.cell hres hk)
    rw [hv]
    simp only [Go.results, hr]
    simp [hs.has _ _ h1, hs.has _ _ h2, asAddr, loadVar, g2, g3, g4]) hφ
end L
def Sp.zero : Sp := ⟨0, 0, 0⟩
def cmpF (s b : Sp) : Int := orL [cmpI s.b b.b, cmpI s.c b.c, cmpI s.a b.a]
def stepF (o : Option Sp) (s : Sp) : Option Sp := match o with
  | none => some s
  | some b => if cmpF s b < 0 then some s else some b
def firstS (l : List Sp) : Option Sp := l.foldl stepF none
abbrev bsC (b : Nat) (o : Option Sp) : Seg := [(b, .cells (o.getD Sp.zero).cells.toArray 28 (0, 0))]
abbrev bsS (b : Nat) (s : Sp) : Seg := [(b, .cells s.cells.toArray 28 (0, 0))]
abbrev fdC (b : Nat) (v : Bool) : Seg := [(b, .cells [.bool v].toArray 4 (0, 0))]
section fs
variable {g : Nat} {y : Fa} {cnt : Int} {N : List Nd} {sp : List Nat} {E : Seg} {L : TE ByteArray} {clk : Nat}
theorem first_spec (k : ByteArray) (lo hi : Int) {t : Tr} (h1 : ArO N N.length y.A y.c E) (h3 : Inb N) (ht : At N t) (hz : t.size ≤ 1099511627776) (hL : RootAt L k t) (w : World) (ho : Own w [fsB g y N.length sp.length cnt, E, mpB y.m L clk]) :
    Calls Try.prog 18 #[.pointer (some ⟨g, 0, none⟩), .string k, .int .i64 lo, .int .i64 hi] w (Ret (β := Unit) w (ids [fsB g y N.length sp.length cnt, E, mpB y.m L clk]) (fun _ => .tuple #[.agg ((firstS (overT lo hi t)).getD Sp.zero).cells.toArray, .bool (firstS (overT lo hi t)).isSome]) (fun _ => [fsB g y N.length sp.length cnt, E, mpB y.m L clk]) (fun _ => True)) := by
  refine goM [.pointer (some ⟨g, 0, none⟩), .string k, .int .i64 lo, .int .i64 hi] [fsB g y N.length sp.length cnt, E, mpB y.m L clk] Try.func18 Try.ntmps18 rfl rfl ho ?_
  repeat (first | refine wc_seq ?_ | refine wc_region ?_)
  refine wl_alloc rfl rfl (fun g8 => ?_)
  repeat (first | (apply wx_val; (first | exact v_assign rfl); rfl) | refine wc_seq ?_ | refine wc_region ?_ | refine wx_nil ?_ | refine wq_next ?_)
  refine wl_alloc rfl rfl (fun g10 => ?_)
  repeat (first | refine wc_seq ?_ | refine wc_region ?_ | refine wx_nil ?_ | refine wq_next ?_)
  refine wl_alloc rfl rfl (fun g11 => ?_)
  repeat (first | (apply wx_val; (first | exact v_move rfl); rfl) | refine wc_seq ?_ | refine wc_region ?_ | refine wx_nil ?_ | refine wq_next ?_ | refine wx_setn ?_ | refine wl_storeT rfl rfl rfl (by rfl) (by exact .inl (Nat.le_refl _)) rfl ?_)
  refine wl_callT (fun w' hr ho => over_spec k lo hi w') rfl rfl rfl ?_
  intro b _
  repeat (first | refine wx_nil ?_ | refine wq_next ?_ | refine wc_block ?_ | refine wc_cat ?_)
  refine wc_mem (M' := [bxP b.1 g, bxS b.2.1 k, bxI b.2.2.1 lo, bxI b.2.2.2 hi, fdC g11 false, bsC g10 none, bsS g8 Sp.zero, fsB g y N.length sp.length cnt, E, mpB y.m L clk]) (by kernel_rfl) ?_
  refine wc_rangeFunc (β := Option Sp) (val := fun _ => .tuple #[]) (M1 := ovB g k lo hi b ++ [fsB g y N.length sp.length cnt, E, mpB y.m L clk] ++ [bsC g10 none, fdC g11 false]) (MM := fun q => ovB g k lo hi b ++ [fsB g y N.length sp.length cnt, E, mpB y.m L clk] ++ [bsC g10 q, fdC g11 q.isSome]) (φ := fun q => q = firstS (overT lo hi t)) rfl rfl ?_ ?_
  · intro lp D fn a w' rc erc hs ho'
    refine Calls.mono' (over1_spec (g := g) (sp := sp) (cnt := cnt) (clk := clk) (n0 := 1099511627776) (lp := lp) (β := Option Sp) (fun q => lpB lp rc ++ [bsC g10 q, fdC g11 q.isSome].flatten) (fun pre q => q = firstS pre) k lo hi b h1 h3 ht hL hz ?_ none rfl w' (ho'.flatP (flat_mid _ _ _))) (fun e w2 hR => ret_flat hR (flat_mid (lpB lp rc) (ovB g k lo hi b ++ [fsB g y N.length sp.length cnt, E, mpB y.m L clk]) [bsC g10 none, fdC g11 false]).symm (fun q _ => (flat_mid (lpB lp rc) (ovB g k lo hi b ++ [fsB g y N.length sp.length cnt, E, mpB y.m L clk]) [bsC g10 q, fdC g11 q.isSome]).symm))
    rintro pre q s W hlt eq1 hoW
    have enew : firstS (pre ++ [s]) = stepF q s := by rw [eq1, firstS, List.foldl_append]; rfl
    refine yield_mono (yield_of (R := Ret (β := Option Sp) W (ids (lpB lp rc :: [bsC g10 q, fdC g11 q.isSome])) (fun _ => .bool true) (fun q => lpB lp rc :: [bsC g10 q, fdC g11 q.isSome]) (fun q => q = firstS (pre ++ [s]))) erc hs rfl (hoW.flatP (flat_in _ _)) ?_) (fun e w2 hR => ret_flat hR (flat_in _ _).symm (fun q _ => (flat_in _ _).symm))
    rw [enew]
    clear enew eq1
    cases q with
    | none =>
      refine wr_region out_ass rfl ?_
      refine wl_alloc rfl rfl (fun g12 => ?_)
      repeat (first | refine wx_nil ?_ | refine wq_setn ?_ | refine wl_stAT rfl rfl (by rfl) (by rfl) (by exact .inl (Nat.le_refl _)) rfl ?_)
      refine wq_begin (r := rc) (by rw [erc]; rfl) ?_
      refine wr_block (wr_seq ?_)
      refine wr_heldX [] [bsS g12 s, bsC g10 none, fdC g11 (Option.isSome (none : Option Sp))] rfl (by (repeat (first | with_reducible exact out_round | with_reducible apply out_block | with_reducible apply out_then))) rfl (by (repeat (first | with_reducible exact panicNot_of panicOk_round | with_reducible apply panicNot_block | with_reducible apply panicNot_then))) (fun hQd => ?_)
      (apply wh_takeX 0; (first | exact fun _ h => res_takes h); exact hQd; rfl; rfl; (first | exact v_ldT rfl rfl rfl (by rfl)); decide +kernel; decide +kernel; decide +kernel; rfl)
      (apply wh_takeX 1; (first | exact fun _ h => h | exact fun _ h => res_takes h); exact hQd; rfl; rfl; (first | exact v_not rfl | exact v_negi rfl (by omega)); decide +kernel; decide +kernel; decide +kernel; rfl)
      (apply wh_takeX 2; (first | exact fun _ h => h | exact fun _ h => res_takes h); exact hQd; rfl; rfl; exact v_move rfl; decide +kernel; decide +kernel; decide +kernel; rfl)
      (first | (apply wh_takegX 3; (first | exact fun _ h => res_takes h); exact hQd; rfl; rfl; rfl; rfl; exact v_faddr rfl rfl; decide +kernel; decide +kernel; decide +kernel; rfl) | (apply wh_takenX 3; (first | exact fun _ h => res_takes h); exact hQd; rfl; rfl; rfl; (first | exact .inl rfl); decide +kernel; decide +kernel; decide +kernel; rfl))
      (first | (apply wh_takenX 4; (first | exact fun _ h => res_takes h); exact hQd; rfl; rfl; rfl; (first | exact .inl rfl); decide +kernel; decide +kernel; decide +kernel; rfl))
      (first | (apply wh_takegX 5; (first | exact fun _ h => res_takes h); exact hQd; rfl; rfl; rfl; rfl; exact v_faddr rfl rfl; decide +kernel; decide +kernel; decide +kernel; rfl) | (apply wh_takenX 5; (first | exact fun _ h => res_takes h); exact hQd; rfl; rfl; rfl; (first | exact .inl rfl); decide +kernel; decide +kernel; decide +kernel; rfl))
      (first | (apply wh_takenX 6; (first | exact fun _ h => res_takes h); exact hQd; rfl; rfl; rfl; (first | exact .inl rfl); decide +kernel; decide +kernel; decide +kernel; rfl))
      (first | (apply wh_takenX 7; (first | exact fun _ h => res_takes h); exact hQd; rfl; rfl; rfl; (first | exact .inl rfl); decide +kernel; decide +kernel; decide +kernel; rfl))
      (first | (apply wh_takegX 8; (first | exact fun _ h => res_takes h); exact hQd; rfl; rfl; rfl; rfl; exact v_faddr rfl rfl; decide +kernel; decide +kernel; decide +kernel; rfl) | (apply wh_takenX 8; (first | exact fun _ h => res_takes h); exact hQd; rfl; rfl; rfl; (first | exact .inl rfl); decide +kernel; decide +kernel; decide +kernel; rfl))
      (first | (apply wh_takenX 9; (first | exact fun _ h => res_takes h); exact hQd; rfl; rfl; rfl; (first | exact .inl rfl); decide +kernel; decide +kernel; decide +kernel; rfl))
      (first | (apply wh_takegX 10; (first | exact fun _ h => res_takes h); exact hQd; rfl; rfl; rfl; rfl; exact v_faddr rfl rfl; decide +kernel; decide +kernel; decide +kernel; rfl) | (apply wh_takenX 10; (first | exact fun _ h => res_takes h); exact hQd; rfl; rfl; rfl; (first | exact .inl rfl); decide +kernel; decide +kernel; decide +kernel; rfl))
      (first | (apply wh_takenX 11; (first | exact fun _ h => res_takes h); exact hQd; rfl; rfl; rfl; (first | exact .inl rfl); decide +kernel; decide +kernel; decide +kernel; rfl))
      (first | (apply wh_takenX 12; (first | exact fun _ h => res_takes h); exact hQd; rfl; rfl; rfl; (first | exact .inl rfl); decide +kernel; decide +kernel; decide +kernel; rfl))
      (first | (apply wh_takegX 13; (first | exact fun _ h => res_takes h); exact hQd; rfl; rfl; rfl; rfl; exact v_faddr rfl rfl; decide +kernel; decide +kernel; decide +kernel; rfl) | (apply wh_takenX 13; (first | exact fun _ h => res_takes h); exact hQd; rfl; rfl; rfl; (first | exact .inl rfl); decide +kernel; decide +kernel; decide +kernel; rfl))
      (first | (apply wh_takenX 14; (first | exact fun _ h => res_takes h); exact hQd; rfl; rfl; rfl; (first | exact .inl rfl); decide +kernel; decide +kernel; decide +kernel; rfl))
      (first | (apply wh_takegX 15; (first | exact fun _ h => res_takes h); exact hQd; rfl; rfl; rfl; rfl; exact v_faddr rfl rfl; decide +kernel; decide +kernel; decide +kernel; rfl) | (apply wh_takenX 15; (first | exact fun _ h => res_takes h); exact hQd; rfl; rfl; rfl; (first | exact .inl rfl); decide +kernel; decide +kernel; decide +kernel; rfl))
      (first | (apply wh_takenX 16; (first | exact fun _ h => res_takes h); exact hQd; rfl; rfl; rfl; (first | exact .inl rfl); decide +kernel; decide +kernel; decide +kernel; rfl))
      (first | (apply wh_takenX 17; (first | exact fun _ h => res_takes h); exact hQd; rfl; rfl; rfl; (first | exact .inl rfl); decide +kernel; decide +kernel; decide +kernel; rfl))
      (first | (apply wh_takenX 18; (first | exact fun _ h => res_takes h); exact hQd; rfl; rfl; rfl; (first | exact .inl rfl); decide +kernel; decide +kernel; decide +kernel; rfl))
      (first | (apply wh_takenX 19; (first | exact fun _ h => res_takes h); exact hQd; rfl; rfl; rfl; (first | exact .inl rfl); decide +kernel; decide +kernel; decide +kernel; rfl))
      (first | (apply wh_takegX 20; (first | exact fun _ h => res_takes h); exact hQd; rfl; rfl; rfl; rfl; exact v_lt rfl rfl; decide +kernel; decide +kernel; decide +kernel; rfl) | (apply wh_takenX 20; (first | exact fun _ h => res_takes h); exact hQd; rfl; rfl; rfl; (first | exact .inl rfl); decide +kernel; decide +kernel; decide +kernel; rfl))
      (apply wh_takeX 21; (first | exact fun _ h => h | exact fun _ h => res_takes h); exact hQd; rfl; rfl; (first | exact v_pickT rfl rfl | exact v_pickF rfl rfl | exact v_pick rfl rfl rfl); decide +kernel; decide +kernel; decide +kernel; rfl)
      refine wh_done (by decide +kernel) ?_
      refine wr_next ?_
      refine wr_if (p := True) rfl (fun _ => ?_) (fun hd => absurd trivial hd)
      refine wr_region (out_block out_round) rfl ?_
      repeat (first | (apply wx_val; (first | exact v_ldAT rfl (by rfl)); rfl) | refine wx_nil ?_ | refine wq_block ?_ | refine wx_setn ?_ | refine wq_setn ?_ | refine wl_storeT rfl rfl rfl (by rfl) (by exact .inl (Nat.le_refl _)) rfl ?_ | refine wl_stAT rfl rfl (by rfl) (by rfl) (by exact .inl (Nat.le_refl _)) rfl ?_)
      refine wq_blk g11 [.bool true] (by rfl) ?_
      refine wq_setn ?_
      exact wq_endM (r := rc) (M2 := [lpB lp rc, bsS g10 s, fdC g11 true]) (by rw [erc]; rfl) (by rw [erc]; rfl) (some s) rfl rfl
    | some bs =>
      refine wr_region out_ass rfl ?_
      refine wl_alloc rfl rfl (fun g12 => ?_)
      repeat (first | refine wx_nil ?_ | refine wq_setn ?_ | refine wl_stAT rfl rfl (by rfl) (by rfl) (by exact .inl (Nat.le_refl _)) rfl ?_)
      refine wq_begin (r := rc) (by rw [erc]; rfl) ?_
      refine wr_block (wr_seq ?_)
      refine wr_heldX [] [bsS g12 s, bsC g10 (some bs), fdC g11 (Option.isSome (some bs))] rfl (by (repeat (first | with_reducible exact out_round | with_reducible apply out_block | with_reducible apply out_then))) rfl (by (repeat (first | with_reducible exact panicNot_of panicOk_round | with_reducible apply panicNot_block | with_reducible apply panicNot_then))) (fun hQd => ?_)
      (apply wh_takeX 0; (first | exact fun _ h => res_takes h); exact hQd; rfl; rfl; (first | exact v_ldT rfl rfl rfl (by rfl)); decide +kernel; decide +kernel; decide +kernel; rfl)
      (apply wh_takeX 1; (first | exact fun _ h => h | exact fun _ h => res_takes h); exact hQd; rfl; rfl; (first | exact v_not rfl | exact v_negi rfl (by omega)); decide +kernel; decide +kernel; decide +kernel; rfl)
      (apply wh_takeX 2; (first | exact fun _ h => h | exact fun _ h => res_takes h); exact hQd; rfl; rfl; exact v_move rfl; decide +kernel; decide +kernel; decide +kernel; rfl)
      (first | refine wh_not 21 rfl rfl ?_ | refine wh_not 21 rfl (decide_eq_false rfl) ?_ | refine wh_not 21 rfl (by simp) ?_)
      (first | (apply wh_takegX 3; (first | exact fun _ h => res_takes h); exact hQd; rfl; rfl; rfl; rfl; exact v_faddr rfl rfl; decide +kernel; decide +kernel; decide +kernel; rfl))
      (first | (apply wh_takegX 4; (first | exact fun _ h => res_takes h); exact hQd; rfl; rfl; rfl; rfl; (first | exact v_ldT rfl rfl rfl (by rfl)); decide +kernel; decide +kernel; decide +kernel; rfl))
      (first | (apply wh_takegX 5; (first | exact fun _ h => res_takes h); exact hQd; rfl; rfl; rfl; rfl; exact v_faddr rfl rfl; decide +kernel; decide +kernel; decide +kernel; rfl))
      (first | (apply wh_takegX 6; (first | exact fun _ h => res_takes h); exact hQd; rfl; rfl; rfl; rfl; (first | exact v_ldT rfl rfl rfl (by rfl)); decide +kernel; decide +kernel; decide +kernel; rfl))
      (first | (apply wh_takegX 8; (first | exact fun _ h => res_takes h); exact hQd; rfl; rfl; rfl; rfl; exact v_faddr rfl rfl; decide +kernel; decide +kernel; decide +kernel; rfl))
      (first | (apply wh_takegX 9; (first | exact fun _ h => res_takes h); exact hQd; rfl; rfl; rfl; rfl; (first | exact v_ldT rfl rfl rfl (by rfl)); decide +kernel; decide +kernel; decide +kernel; rfl))
      (first | (apply wh_takegX 10; (first | exact fun _ h => res_takes h); exact hQd; rfl; rfl; rfl; rfl; exact v_faddr rfl rfl; decide +kernel; decide +kernel; decide +kernel; rfl))
      (first | (apply wh_takegX 11; (first | exact fun _ h => res_takes h); exact hQd; rfl; rfl; rfl; rfl; (first | exact v_ldT rfl rfl rfl (by rfl)); decide +kernel; decide +kernel; decide +kernel; rfl))
      (first | (apply wh_takegX 13; (first | exact fun _ h => res_takes h); exact hQd; rfl; rfl; rfl; rfl; exact v_faddr rfl rfl; decide +kernel; decide +kernel; decide +kernel; rfl))
      (first | (apply wh_takegX 14; (first | exact fun _ h => res_takes h); exact hQd; rfl; rfl; rfl; rfl; (first | exact v_ldT rfl rfl rfl (by rfl)); decide +kernel; decide +kernel; decide +kernel; rfl))
      (first | (apply wh_takegX 15; (first | exact fun _ h => res_takes h); exact hQd; rfl; rfl; rfl; rfl; exact v_faddr rfl rfl; decide +kernel; decide +kernel; decide +kernel; rfl))
      (first | (apply wh_takegX 16; (first | exact fun _ h => res_takes h); exact hQd; rfl; rfl; rfl; rfl; (first | exact v_ldT rfl rfl rfl (by rfl)); decide +kernel; decide +kernel; decide +kernel; rfl))
      refine wh_eff 7 rfl (by decide +kernel) ?_
      refine wx_ungd rfl rfl ?_
      (try refine wx_ungd rfl rfl ?_)
      refine wx_vcall (vc_pure' rfl rfl (fun w' hr => Compare_spec _ _ w')) rfl ?_
      (try refine wx_nil ?_)
      refine wq_held (by (first | exact fun _ h => h | exact fun _ h => res_takes h)) ?_
      refine wh_eff 12 rfl (by decide +kernel) ?_
      refine wx_ungd rfl rfl ?_
      (try refine wx_ungd rfl rfl ?_)
      refine wx_vcall (vc_pure' rfl rfl (fun w' hr => Compare_spec _ _ w')) rfl ?_
      (try refine wx_nil ?_)
      refine wq_held (by (first | exact fun _ h => h | exact fun _ h => res_takes h)) ?_
      refine wh_eff 17 rfl (by decide +kernel) ?_
      refine wx_ungd rfl rfl ?_
      (try refine wx_ungd rfl rfl ?_)
      refine wx_vcall (vc_pure' rfl rfl (fun w' hr => Compare_spec _ _ w')) rfl ?_
      (try refine wx_nil ?_)
      refine wq_held (by (first | exact fun _ h => h | exact fun _ h => res_takes h)) ?_
      refine wh_eff 18 rfl (by decide +kernel) ?_
      refine wx_ungd rfl rfl ?_
      refine wl_litB rfl rfl rfl rfl rfl (by decide) rfl (fun g15 E15 hb15 => ?_)
      (try refine wx_nil ?_)
      refine wq_held (by (first | exact fun _ h => h | exact fun _ h => res_takes h)) ?_
      refine wh_eff 19 rfl (by decide +kernel) ?_
      refine wx_ungd rfl rfl ?_
      (try refine wx_ungd rfl rfl ?_)
      refine wx_vcall (vc_pure' rfl rfl (fun w' hr => Or_spec (l := [cmpI s.b bs.b, cmpI s.c bs.c, cmpI s.a bs.a]) (by simp) w' (hb15.vwT hr))) rfl ?_
      (try refine wx_nil ?_)
      refine wq_held (by (first | exact fun _ h => h | exact fun _ h => res_takes h)) ?_
      (first | (apply wh_takegX 20; (first | exact fun _ h => res_takes h); exact hQd; rfl; rfl; rfl; rfl; exact v_lt rfl rfl; decide +kernel; decide +kernel; decide +kernel; rfl))
      (apply wh_takeX 21; (first | exact fun _ h => h | exact fun _ h => res_takes h); exact hQd; rfl; rfl; (first | exact v_pickT rfl rfl | exact v_pickF rfl rfl | exact v_pick rfl rfl rfl); decide +kernel; decide +kernel; decide +kernel; rfl)
      refine wh_done (by decide +kernel) ?_
      refine wr_next ?_
      refine wr_if (p := cmpF s bs < 0) rfl (fun hd => ?_) (fun hd => ?_)
      · refine wr_region (out_block out_round) rfl ?_
        repeat (first | (apply wx_val; (first | exact v_ldAT rfl (by rfl)); rfl) | refine wx_nil ?_ | refine wq_block ?_ | refine wx_setn ?_ | refine wq_setn ?_ | refine wl_storeT rfl rfl rfl (by rfl) (by exact .inl (Nat.le_refl _)) rfl ?_ | refine wl_stAT rfl rfl (by rfl) (by rfl) (by exact .inl (Nat.le_refl _)) rfl ?_)
        refine wq_blk g11 [.bool true] (by rfl) ?_
        refine wq_setn ?_
        exact wq_endM (r := rc) (M2 := [lpB lp rc, bsS g10 s, fdC g11 true]) (by rw [erc]; rfl) (by rw [erc]; rfl) (some s) (if_pos hd).symm rfl
      · refine wr_skip (wq_block ?_)
        exact wq_end (r := rc) (by rw [erc]; rfl) (by rw [erc]; rfl) (some bs) (if_neg hd).symm
  · rintro q D rfl
    refine wq_block (wq_next ?_)
    refine wc_mem (M' := [dfB D, bxP b.1 g, bxS b.2.1 k, bxI b.2.2.1 lo, bxI b.2.2.2 hi, fsB g y N.length sp.length cnt, E, mpB y.m L clk, bsC g10 (firstS (overT lo hi t)), fdC g11 (firstS (overT lo hi t)).isSome, bsS g8 Sp.zero]) rfl ?_
    generalize firstS (overT lo hi t) = fo
    repeat (first | refine wc_seq ?_)
    refine wc_heldX [8, 9] [bsC g10 fo, fdC g11 fo.isSome] rfl (by (repeat (first | exact panicNot_M2 rfl))) (fun hQd => ?_)
    (apply wh_takeX 0; (first | exact fun _ h => res_takes h); exact hQd; rfl; rfl; (first | exact v_ldAT rfl (by rfl)); decide +kernel; decide +kernel; decide +kernel; rfl)
    (apply wh_takeX 1; (first | exact fun _ h => res_takes h); exact hQd; rfl; rfl; (first | exact v_ldT rfl rfl rfl (by rfl)); decide +kernel; decide +kernel; decide +kernel; rfl)
    refine wh_eff 2 rfl (by decide +kernel) ?_
    repeat (first | refine wx_nil ?_ | refine wq_setn ?_ | refine wl_stAT rfl rfl (by rfl) (by rfl) (by exact .inl (Nat.le_refl _)) rfl ?_)
    (try refine wx_nil ?_)
    refine wq_held (by (first | exact fun _ h => h | exact fun _ h => res_takes h)) ?_
    refine wh_eff 3 rfl (by decide +kernel) ?_
    repeat (first | (apply wx_val; (first | exact v_assign rfl); rfl) | refine wx_nil ?_)
    (try refine wx_nil ?_)
    refine wq_held (by (first | exact fun _ h => h | exact fun _ h => res_takes h)) ?_
    refine wh_done (by decide +kernel) ?_
    repeat (first | refine wq_next ?_ | refine wc_ret ?_)
    exact wq_retMA2 () rfl rfl rfl rfl rfl trivial
end fs
end Go.Proofs.Ytjeghbachokljaa
