/- A transaction read whole: faults are panics that a deferred call recovers. -/
import Derived.Test.YtjfjleejbbmmaaaRecD2
set_option linter.unusedVariables false
set_option linter.unusedSimpArgs false
namespace Go.Proofs.Ytjfjleejbbmmaaa
open Go
set_option maxRecDepth 20000
set_option maxHeartbeats 2000000
attribute [local irreducible] WX WC WQ Val VCall
theorem defer_ret (a b c : Value) (w : World) : CallsD Try.prog 68 #[a, b, c] .returning w (RetD w (ids []) .returning []) := by
  refine goRec (v := .nilIface) [a, b, c] [] Try.func68 Try.ntmps68 rfl rfl rfl rfl (own_nil w) (.inl ⟨rfl, rfl, rfl⟩) ?_
  repeat (first | (apply wx_val; (first | exact v_move rfl | exact v_neifn rfl rfl); rfl) | refine wc_seq ?_ | refine wc_region ?_ | refine wx_nil ?_ | refine wq_next ?_ | refine wc_skip ?_ | refine wc_condF rfl ?_)
  exact wq_doneD (M1 := []) rfl
def txnZ : List Value := [.int .i64 0, .int .i64 0, .int .i64 0, .int .i64 0, .int .i64 0, .int .i64 0, .int .i64 0, .slice none 0 0]
theorem defer_pan {g1 g2 g3 : Nat} (cs : List Value) (hcs : cs.length = 8) (x y : Value) (e : Int × Int) (w : World) (ho : Own w [[(g1, .cells cs.toArray 46 (0, 0))], [(g2, .cells [x].toArray 3 (0, 0))], [(g3, .cells [y].toArray 25 (0, 0))]]) :
    CallsD Try.prog 68 #[.pointer (some ⟨g1, 0, none⟩), .pointer (some ⟨g2, 0, none⟩), .pointer (some ⟨g3, 0, none⟩)] (.panicking [entry (errV e)]) w (RetD w (ids [[(g1, .cells cs.toArray 46 (0, 0))], [(g2, .cells [x].toArray 3 (0, 0))], [(g3, .cells [y].toArray 25 (0, 0))]]) (.panicking [{ v := errV e, recovered := true }]) [[(g1, .cells txnZ.toArray 46 (0, 0))], [(g2, .cells [.int .i64 e.1].toArray 3 (0, 0))], [(g3, .cells [.int .i64 e.2].toArray 25 (0, 0))]]) := by
  refine goRec (v := errV e) [.pointer (some ⟨g1, 0, none⟩), .pointer (some ⟨g2, 0, none⟩), .pointer (some ⟨g3, 0, none⟩)] [[(g1, .cells cs.toArray 46 (0, 0))], [(g2, .cells [x].toArray 3 (0, 0))], [(g3, .cells [y].toArray 25 (0, 0))]] Try.func68 Try.ntmps68 rfl rfl rfl rfl ho (.inr ⟨rfl, rfl⟩) ?_
  repeat (first | (apply wx_val; (first | exact v_move rfl | exact v_extract rfl rfl | exact v_neif rfl rfl | exact v_tassert rfl rfl); rfl) | refine wc_seq ?_ | refine wc_region ?_ | refine wx_nil ?_ | refine wq_next ?_ | refine wc_condT rfl ?_)
  refine wl_alloc rfl rfl (fun g4 => ?_)
  repeat (first | (apply wx_val; (first | exact v_move rfl | exact v_assign rfl | exact v_not rfl); rfl) | refine wc_seq ?_ | refine wc_region ?_ | refine wx_nil ?_ | refine wq_next ?_ | refine wc_skip ?_ | refine wc_setn ?_ | refine wc_condF rfl ?_ | refine wl_stAT rfl rfl (by rfl) (by rfl) (by exact .inl (Nat.le_refl _)) rfl ?_)
  refine wc_heldX [] [[(g4, .cells [.int .i64 e.1, .int .i64 e.2].toArray 107 (0, 0))]] rfl (by (repeat (first | with_reducible exact panicNot_of panicOk_body))) (fun hQd => ?_)
  (apply wh_takeX 0; (first | exact fun _ h => h | exact fun _ h => res_takes h); exact hQd; rfl; rfl; (exact v_build (cs := txnZ.toArray) rfl (by kernel_rfl)); decide +kernel; decide +kernel; decide +kernel; rfl)
  (apply wh_takeX 1; (first | exact fun _ h => h | exact fun _ h => res_takes h); exact hQd; rfl; rfl; exact v_faddr rfl rfl; decide +kernel; decide +kernel; decide +kernel; rfl)
  (apply wh_takeX 2; (first | exact fun _ h => res_takes h); exact hQd; rfl; rfl; (first | exact v_ldT rfl rfl rfl (by rfl)); decide +kernel; decide +kernel; decide +kernel; rfl)
  (apply wh_takeX 3; (first | exact fun _ h => h | exact fun _ h => res_takes h); exact hQd; rfl; rfl; exact v_faddr rfl rfl; decide +kernel; decide +kernel; decide +kernel; rfl)
  (apply wh_takeX 4; (first | exact fun _ h => res_takes h); exact hQd; rfl; rfl; (first | exact v_ldT rfl rfl rfl (by rfl)); decide +kernel; decide +kernel; decide +kernel; rfl)
  refine wh_eff 5 rfl (by decide +kernel) ?_
  refine wl_stAT (vs := txnZ) rfl rfl (by rfl) (by rw [hcs]; rfl) (by exact .inl (Nat.le_refl _)) rfl ?_
  refine wx_setn ?_
  (try refine wx_nil ?_)
  refine wq_held (by (first | exact fun _ h => h | exact fun _ h => res_takes h)) ?_
  refine wh_eff 6 rfl (by decide +kernel) ?_
  refine wl_storeT rfl rfl rfl (by rfl) (by exact .inl (Nat.le_refl _)) rfl ?_
  refine wx_setn ?_
  simp only [List.set_cons_zero]
  (try refine wx_nil ?_)
  refine wq_held (by (first | exact fun _ h => h | exact fun _ h => res_takes h)) ?_
  refine wh_eff 7 rfl (by decide +kernel) ?_
  refine wl_storeT rfl rfl rfl (by rfl) (by exact .inl (Nat.le_refl _)) rfl ?_
  refine wx_setn ?_
  simp only [List.set_cons_zero]
  (try refine wx_nil ?_)
  refine wq_held (by (first | exact fun _ h => h | exact fun _ h => res_takes h)) ?_
  refine wh_done (by decide +kernel) ?_
  skip
  have hq := fun {fr M L u M1} [T : Takes M1 M L] => @wq_doneD Try.prog Try.f68 ⟨22, []⟩ w (ids [[(g1, .cells cs.toArray 46 (0, 0))], [(g2, .cells [x].toArray 3 (0, 0))], [(g3, .cells [y].toArray 25 (0, 0))]])  fr M u M1 L
  refine hq (M1 := [[(g1, .cells txnZ.toArray 46 (0, 0))], [(g2, .cells [Value.int .i64 e.1].toArray 3 (0, 0))], [(g3, .cells [Value.int .i64 e.2].toArray 25 (0, 0))]]) rfl
structure TxnP where
  session : Int
  seq : Int
  start : Int
  fin : Int
  invoke : Int
  ret : Int
  status : Int
  ops : List OpW
def TxnP.cells (t : TxnP) (A : Option Addr) (c : Nat) : List Value := [.int .i64 t.session, .int .i64 t.seq, .int .i64 t.start, .int .i64 t.fin, .int .i64 t.invoke, .int .i64 t.ret, .int .i64 t.status, .slice A t.ops.length c]
def TxnP.zero : TxnP := ⟨0, 0, 0, 0, 0, 0, 0, []⟩
def decMax : List Int := [1048575, 1048575, 1099511627776, 1099511627776, 1099511627776, 1099511627776, 1, 16]
def decP (d : List UInt8) : Except (Int × Int) TxnP := match numsP d decMax 0 with
  | .error e => .error e
  | .ok (ns, p) => match opsP d (ns.getD 7 0) p with
    | .error e => .error e
    | .ok (l, q) => if q < d.length then .error (q, 61) else .ok ⟨(ns.getD 0 0 : Nat), (ns.getD 1 0 : Nat), (ns.getD 2 0 : Nat), (ns.getD 3 0 : Nat), (ns.getD 4 0 : Nat), (ns.getD 5 0 : Nat), (ns.getD 6 0 : Nat), l⟩
def decR (d : List UInt8) : TxnP × Int × Int := match decP d with
  | .error e => (.zero, e.1, e.2)
  | .ok t => (t, 0, 0)
abbrev BufO (l : List OpW) : Option Addr × Nat × Seg → Prop := fun (A, c, E) => Buf 55 4 A l.length c (l.flatMap OpW.cells) E
abbrev DecRet (w : World) (X : List Nat) (r : TxnP × Int × Int) : Ending → World → Prop :=
  Ret (β := Option Addr × Nat × Seg) w X (fun q => .tuple #[.agg (r.1.cells q.1 q.2.1).toArray, .int .i64 r.2.1, .int .i64 r.2.2]) (fun q => [q.2.2]) (fun q => BufO r.1.ops q)
abbrev decDef (g2 g3 g4 : Nat) : Deferred := { target := .fn (.func 68) [Value.pointer (some ⟨g2, 0, none⟩), .pointer (some ⟨g3, 0, none⟩), .pointer (some ⟨g4, 0, none⟩)].toArray, args := #[] }
theorem dec_pan {w0 : World} {X : List Nat} {fr : Fr} {M R1 R2 R3 : List Seg} {n g2 g3 g4 : Nat} {cs : List Value} {x y : Value} (e : Int × Int) (h2 : look fr 2 = some (.pointer (some ⟨g2, 0, none⟩))) (h3 : look fr 3 = some (.pointer (some ⟨g3, 0, none⟩))) (h4 : look fr 4 = some (.pointer (some ⟨g4, 0, none⟩)))
    [B1 : TakeB g2 M (.cells cs.toArray 46 (0, 0)) R1] [B2 : TakeB g3 R1 (.cells [x].toArray 3 (0, 0)) R2] [B3 : TakeB g4 R2 (.cells [y].toArray 25 (0, 0)) R3] (hcs : cs.length = 8) :
    WQ (bodyPostD Try.prog Try.f59 (DecRet w0 X (TxnP.zero, e.1, e.2))) ⟨n, [decDef g2 g3 g4]⟩ w0 X (.panic [entry (errV e)]) fr M := by
  refine wq_sub (M1 := [[(g2, .cells cs.toArray 46 (0, 0))], [(g3, .cells [x].toArray 3 (0, 0))], [(g4, .cells [y].toArray 25 (0, 0))]]) (L := R3) (B1.perm.trans ((B2.perm.cons _).trans ((B3.perm.cons _).cons _))) ?_
  refine wq_seg ?_
  exact wq_panD (M1 := [[(g2, .cells cs.toArray 46 (0, 0))], [(g3, .cells [x].toArray 3 (0, 0))], [(g4, .cells [y].toArray 25 (0, 0))]]) (M2 := [[(g2, .cells txnZ.toArray 46 (0, 0))], [(g3, .cells [Value.int .i64 e.1].toArray 3 (0, 0))], [(g4, .cells [Value.int .i64 e.2].toArray 25 (0, 0))]]) (none, 0, []) rfl (fun w' hr ho => defer_pan cs hcs x y e w' ho) (fun a w' hs hr => res_cells3 (cs := txnZ) (fn := Try.f59) rfl hs h2 h3 h4 hr rfl rfl rfl rfl rfl) (Buf.nil _ _) (M3 := [[]]) rfl
theorem dec_ret {w0 : World} {X : List Nat} {fr : Fr} {M R1 : List Seg} {n g2 g3 g4 : Nat} {t : TxnP} {A : Option Addr} {c : Nat} {E : Seg} (h2 : look fr 2 = some (.pointer (some ⟨g2, 0, none⟩))) (h3 : look fr 3 = some (.pointer (some ⟨g3, 0, none⟩))) (h4 : look fr 4 = some (.pointer (some ⟨g4, 0, none⟩)))
    [B1 : BlkIn g2 M (.cells (t.cells A c).toArray 46 (0, 0))] [B2 : BlkIn g3 M (.cells [.int .i64 0].toArray 3 (0, 0))] [B3 : BlkIn g4 M (.cells [.int .i64 0].toArray 25 (0, 0))] [T : Takes [E] M R1] (hb : BufO t.ops (A, c, E)) :
    WQ (bodyPostD Try.prog Try.f59 (DecRet w0 X (t, 0, 0))) ⟨n, [decDef g2 g3 g4]⟩ w0 X .ret fr M :=
  wq_retD (A, c, E) rfl (fun w' => defer_ret _ _ _ w') (fun a w' hs hr => res_cells3 (cs := t.cells A c) (fn := Try.f59) rfl hs h2 h3 h4 hr rfl rfl rfl rfl rfl) hb (M3 := [E]) rfl
theorem Decode_spec {A : Option Addr} {c : Nat} {d : List UInt8} (hd : d.length ≤ 140737488355328) (w : World) (hv : Vw [] w A (bys d)) :
    Calls Try.prog 59 #[.slice A d.length c] w (DecRet w (ids []) (decR d)) := by
  refine goD [.slice A d.length c] [] Try.func59 Try.ntmps59 rfl rfl (own_nil w) ?_
  generalize hR : decR d = R
  unfold decR decP at hR
  repeat (first | refine wc_seq ?_ | refine wc_region ?_)
  refine wl_alloc rfl rfl (fun g2 => ?_)
  refine wl_alloc rfl rfl (fun g3 => ?_)
  refine wl_alloc rfl rfl (fun g4 => ?_)
  repeat (first | (apply wx_val; (first | exact v_mkFunc rfl rfl); rfl) | refine wc_seq ?_ | refine wc_region ?_ | refine wx_nil ?_ | refine wq_next ?_)
  refine wl_defer rfl rfl ?_
  repeat (first | (apply wx_val; (first | exact v_move rfl); rfl) | refine wc_seq ?_ | refine wc_region ?_ | refine wx_nil ?_ | refine wq_next ?_)
  refine wl_callT (M1 := []) (fun w' hr ho => Open_spec hd w' (hv.keep hr)) rfl rfl rfl ?_
  rintro ⟨g, A2, c2, E⟩ hb
  dsimp only at hb ⊢
  repeat (first | refine wx_cat ?_)
  (try refine wx_ungd rfl rfl ?_)
  apply wx_val
  exact v_build (cs := ([.pointer (some ⟨g, 0, none⟩)]).toArray) rfl (by kernel_rfl)
  rfl
  skip
  refine wl_alloc rfl rfl (fun g5 => ?_)
  repeat (first | refine wc_seq ?_ | refine wx_nil ?_ | refine wq_next ?_ | refine wc_setn ?_ | refine wl_stAT rfl rfl (by rfl) (by rfl) (by exact .inl (Nat.le_refl _)) rfl ?_)
  unfold decMax at hR
  have hdl : d.length ≤ 281474976710656 := by omega
  refine wc_keep [2, 3, 4, 5] rfl ?_
  refine wc_heldX [2, 3, 4] [[(g5, .cells [Value.pointer (some ⟨g, 0, none⟩)].toArray 110 (0, 0))]] rfl (by (repeat (first | exact panicNot_D3 rfl))) (fun hQd => ?_)
  (apply wh_takeX 0; (first | exact fun _ h => res_takes h); exact hQd; rfl; rfl; (first | exact v_ldAT rfl (by rfl)); decide +kernel; decide +kernel; decide +kernel; rfl)
  (apply wh_takeX 2; (first | exact fun _ h => res_takes h); exact hQd; rfl; rfl; (first | exact v_ldAT rfl (by rfl)); decide +kernel; decide +kernel; decide +kernel; rfl)
  refine wh_eff 1 rfl (by decide +kernel) ?_
  unfold numsP at hR
  refine wl_callX (fun w' hr ho => readNum_spec (p := 0) hdl hb (by omega) 1048575 w' ho) rfl rfl rfl (fun q hq => ?_) (fun e2 he => ?_)
  case refine_2 =>
    rw [he] at hR
    dsimp only at hR
    subst hR
    repeat (first | refine wq_cat ?_ | refine wq_then_panic ?_)
    exact dec_pan e2.1 rfl rfl rfl rfl
  obtain ⟨n0, p1⟩ := q
  dsimp only at hq ⊢
  have hle0 := numP_le (by omega) hq
  rw [hq] at hR
  dsimp only at hR
  refine wx_cat ?_
  (try refine wx_nil ?_)
  refine wq_held (by (first | exact fun _ h => h | exact fun _ h => res_takes h)) ?_
  (apply wh_takeX 4; (first | exact fun _ h => h | exact fun _ h => res_takes h); exact hQd; rfl; rfl; exact v_faddr rfl rfl; decide +kernel; decide +kernel; decide +kernel; rfl)
  refine wh_eff 3 rfl (by decide +kernel) ?_
  unfold numsP at hR
  refine wl_callX (fun w' hr ho => readNum_spec (p := p1) hdl hb (by omega) 1048575 w' ho) rfl rfl rfl (fun q hq => ?_) (fun e2 he => ?_)
  case refine_2 =>
    rw [he] at hR
    dsimp only at hR
    subst hR
    repeat (first | refine wq_cat ?_ | refine wq_then_panic ?_)
    exact dec_pan e2.1 rfl rfl rfl rfl
  obtain ⟨n1, p2⟩ := q
  dsimp only at hq ⊢
  have hle1 := numP_le (by omega) hq
  rw [hq] at hR
  dsimp only at hR
  refine wx_cat ?_
  (try refine wx_nil ?_)
  refine wq_held (by (first | exact fun _ h => h | exact fun _ h => res_takes h)) ?_
  refine wh_eff 5 rfl (by decide +kernel) ?_
  refine wl_storeT rfl rfl rfl (by rfl) (by exact .inl (Nat.le_refl _)) rfl ?_
  refine wx_setn ?_
  (try refine wx_nil ?_)
  refine wq_held (by (first | exact fun _ h => h | exact fun _ h => res_takes h)) ?_
  (apply wh_takeX 6; (first | exact fun _ h => h | exact fun _ h => res_takes h); exact hQd; rfl; rfl; exact v_faddr rfl rfl; decide +kernel; decide +kernel; decide +kernel; rfl)
  refine wh_eff 7 rfl (by decide +kernel) ?_
  refine wl_storeT rfl rfl rfl (by rfl) (by exact .inl (Nat.le_refl _)) rfl ?_
  refine wx_setn ?_
  (try refine wx_nil ?_)
  refine wq_held (by (first | exact fun _ h => h | exact fun _ h => res_takes h)) ?_
  refine wh_done (by decide +kernel) ?_
  refine wq_next ?_
  refine wc_keep [2, 3, 4, 5] rfl ?_
  repeat (first | refine wc_seq ?_)
  refine wc_heldX [2, 3, 4] [[(g5, .cells [Value.pointer (some ⟨g, 0, none⟩)].toArray 110 (0, 0))]] rfl (by (repeat (first | exact panicNot_D3 rfl))) (fun hQd => ?_)
  (apply wh_takeX 0; (first | exact fun _ h => res_takes h); exact hQd; rfl; rfl; (first | exact v_ldAT rfl (by rfl)); decide +kernel; decide +kernel; decide +kernel; rfl)
  (apply wh_takeX 2; (first | exact fun _ h => res_takes h); exact hQd; rfl; rfl; (first | exact v_ldAT rfl (by rfl)); decide +kernel; decide +kernel; decide +kernel; rfl)
  refine wh_eff 1 rfl (by decide +kernel) ?_
  unfold numsP at hR
  refine wl_callX (fun w' hr ho => readNum_spec (p := p2) hdl hb (by omega) 1099511627776 w' ho) rfl rfl rfl (fun q hq => ?_) (fun e2 he => ?_)
  case refine_2 =>
    rw [he] at hR
    dsimp only at hR
    subst hR
    repeat (first | refine wq_cat ?_ | refine wq_then_panic ?_)
    exact dec_pan e2.1 rfl rfl rfl rfl
  obtain ⟨n2, p3⟩ := q
  dsimp only at hq ⊢
  have hle2 := numP_le (by omega) hq
  rw [hq] at hR
  dsimp only at hR
  refine wx_cat ?_
  (try refine wx_nil ?_)
  refine wq_held (by (first | exact fun _ h => h | exact fun _ h => res_takes h)) ?_
  (apply wh_takeX 4; (first | exact fun _ h => h | exact fun _ h => res_takes h); exact hQd; rfl; rfl; exact v_faddr rfl rfl; decide +kernel; decide +kernel; decide +kernel; rfl)
  refine wh_eff 3 rfl (by decide +kernel) ?_
  unfold numsP at hR
  refine wl_callX (fun w' hr ho => readNum_spec (p := p3) hdl hb (by omega) 1099511627776 w' ho) rfl rfl rfl (fun q hq => ?_) (fun e2 he => ?_)
  case refine_2 =>
    rw [he] at hR
    dsimp only at hR
    subst hR
    repeat (first | refine wq_cat ?_ | refine wq_then_panic ?_)
    exact dec_pan e2.1 rfl rfl rfl rfl
  obtain ⟨n3, p4⟩ := q
  dsimp only at hq ⊢
  have hle3 := numP_le (by omega) hq
  rw [hq] at hR
  dsimp only at hR
  refine wx_cat ?_
  (try refine wx_nil ?_)
  refine wq_held (by (first | exact fun _ h => h | exact fun _ h => res_takes h)) ?_
  refine wh_eff 5 rfl (by decide +kernel) ?_
  refine wl_storeT rfl rfl rfl (by rfl) (by exact .inl (Nat.le_refl _)) rfl ?_
  refine wx_setn ?_
  (try refine wx_nil ?_)
  refine wq_held (by (first | exact fun _ h => h | exact fun _ h => res_takes h)) ?_
  (apply wh_takeX 6; (first | exact fun _ h => h | exact fun _ h => res_takes h); exact hQd; rfl; rfl; exact v_faddr rfl rfl; decide +kernel; decide +kernel; decide +kernel; rfl)
  refine wh_eff 7 rfl (by decide +kernel) ?_
  refine wl_storeT rfl rfl rfl (by rfl) (by exact .inl (Nat.le_refl _)) rfl ?_
  refine wx_setn ?_
  (try refine wx_nil ?_)
  refine wq_held (by (first | exact fun _ h => h | exact fun _ h => res_takes h)) ?_
  refine wh_done (by decide +kernel) ?_
  refine wq_next ?_
  refine wc_keep [2, 3, 4, 5] rfl ?_
  repeat (first | refine wc_seq ?_)
  refine wc_heldX [2, 3, 4] [[(g5, .cells [Value.pointer (some ⟨g, 0, none⟩)].toArray 110 (0, 0))]] rfl (by (repeat (first | exact panicNot_D3 rfl))) (fun hQd => ?_)
  (apply wh_takeX 0; (first | exact fun _ h => res_takes h); exact hQd; rfl; rfl; (first | exact v_ldAT rfl (by rfl)); decide +kernel; decide +kernel; decide +kernel; rfl)
  (apply wh_takeX 2; (first | exact fun _ h => res_takes h); exact hQd; rfl; rfl; (first | exact v_ldAT rfl (by rfl)); decide +kernel; decide +kernel; decide +kernel; rfl)
  refine wh_eff 1 rfl (by decide +kernel) ?_
  unfold numsP at hR
  refine wl_callX (fun w' hr ho => readNum_spec (p := p4) hdl hb (by omega) 1099511627776 w' ho) rfl rfl rfl (fun q hq => ?_) (fun e2 he => ?_)
  case refine_2 =>
    rw [he] at hR
    dsimp only at hR
    subst hR
    repeat (first | refine wq_cat ?_ | refine wq_then_panic ?_)
    exact dec_pan e2.1 rfl rfl rfl rfl
  obtain ⟨n4, p5⟩ := q
  dsimp only at hq ⊢
  have hle4 := numP_le (by omega) hq
  rw [hq] at hR
  dsimp only at hR
  refine wx_cat ?_
  (try refine wx_nil ?_)
  refine wq_held (by (first | exact fun _ h => h | exact fun _ h => res_takes h)) ?_
  (apply wh_takeX 4; (first | exact fun _ h => h | exact fun _ h => res_takes h); exact hQd; rfl; rfl; exact v_faddr rfl rfl; decide +kernel; decide +kernel; decide +kernel; rfl)
  refine wh_eff 3 rfl (by decide +kernel) ?_
  unfold numsP at hR
  refine wl_callX (fun w' hr ho => readNum_spec (p := p5) hdl hb (by omega) 1099511627776 w' ho) rfl rfl rfl (fun q hq => ?_) (fun e2 he => ?_)
  case refine_2 =>
    rw [he] at hR
    dsimp only at hR
    subst hR
    repeat (first | refine wq_cat ?_ | refine wq_then_panic ?_)
    exact dec_pan e2.1 rfl rfl rfl rfl
  obtain ⟨n5, p6⟩ := q
  dsimp only at hq ⊢
  have hle5 := numP_le (by omega) hq
  rw [hq] at hR
  dsimp only at hR
  refine wx_cat ?_
  (try refine wx_nil ?_)
  refine wq_held (by (first | exact fun _ h => h | exact fun _ h => res_takes h)) ?_
  refine wh_eff 5 rfl (by decide +kernel) ?_
  refine wl_storeT rfl rfl rfl (by rfl) (by exact .inl (Nat.le_refl _)) rfl ?_
  refine wx_setn ?_
  (try refine wx_nil ?_)
  refine wq_held (by (first | exact fun _ h => h | exact fun _ h => res_takes h)) ?_
  (apply wh_takeX 6; (first | exact fun _ h => h | exact fun _ h => res_takes h); exact hQd; rfl; rfl; exact v_faddr rfl rfl; decide +kernel; decide +kernel; decide +kernel; rfl)
  refine wh_eff 7 rfl (by decide +kernel) ?_
  refine wl_storeT rfl rfl rfl (by rfl) (by exact .inl (Nat.le_refl _)) rfl ?_
  refine wx_setn ?_
  (try refine wx_nil ?_)
  refine wq_held (by (first | exact fun _ h => h | exact fun _ h => res_takes h)) ?_
  refine wh_done (by decide +kernel) ?_
  refine wq_next ?_
  refine wc_keep [2, 3, 4, 5] rfl ?_
  repeat (first | (apply wx_val; (first | exact v_ldAT rfl (by rfl)); rfl) | refine wc_seq ?_ | refine wc_region ?_)
  unfold numsP at hR
  refine wl_callX (fun w' hr ho => readNum_spec (p := p6) hdl hb (by omega) 1 w' ho) rfl rfl rfl (fun q hq => ?_) (fun e2 he => ?_)
  case refine_2 =>
    rw [he] at hR
    dsimp only at hR
    subst hR
    repeat (first | refine wq_cat ?_ | refine wq_then_panic ?_)
    exact dec_pan e2.1 rfl rfl rfl rfl
  obtain ⟨n6, p7⟩ := q
  dsimp only at hq ⊢
  have hle6 := numP_le (by omega) hq
  rw [hq] at hR
  dsimp only at hR
  refine wx_cat ?_
  repeat (first | (apply wx_val; (first | exact v_faddr rfl rfl | (first | exact v_ldQ 2 0 rfl rfl rfl rfl rfl)); rfl) | refine wc_seq ?_ | refine wc_region ?_ | refine wx_nil ?_ | refine wq_next ?_ | refine wx_setn ?_ | refine wl_storeT rfl rfl rfl (by rfl) (by exact .inl (Nat.le_refl _)) rfl ?_)
  unfold numsP at hR
  refine wl_callX (fun w' hr ho => readNum_spec (p := p7) hdl hb (by omega) 16 w' ho) rfl rfl rfl (fun q hq => ?_) (fun e2 he => ?_)
  case refine_2 =>
    rw [he] at hR
    dsimp only at hR
    subst hR
    repeat (first | refine wq_cat ?_ | refine wq_then_panic ?_)
    exact dec_pan e2.1 rfl rfl rfl rfl
  obtain ⟨n7, p8⟩ := q
  dsimp only at hq ⊢
  have hle7 := numP_le (by omega) hq
  rw [hq] at hR
  dsimp only at hR
  refine wx_cat ?_
  unfold numsP at hR
  dsimp only at hR
  rw [show (n0 :: n1 :: n2 :: n3 :: n4 :: n5 :: n6 :: n7 :: ([] : List Nat)).getD 7 0 = n7 from rfl] at hR
  refine wx_blk g2 ((⟨(n0 : Nat), (n1 : Nat), (n2 : Nat), (n3 : Nat), (n4 : Nat), (n5 : Nat), (n6 : Nat), []⟩ : TxnP).cells none 0) rfl ?_
  repeat (first | (apply wx_val; (first | exact v_move rfl); rfl) | refine wx_nil ?_ | refine wq_next ?_ | refine wc_block ?_ | refine wc_setn ?_)
  obtain ⟨O, hO⟩ : ∃ O, O = opsP d n7 p8 := ⟨_, rfl⟩
  rw [← hO] at hR
  refine wc_seg ?_
  refine wc_loopK (ι := Nat × Nat × List OpW × Option Addr × Nat × Seg) [2, 3, 4, 5, 32] (fun q => [(33, .int .i64 (q.1 : Nat))]) (fun q => [curB g A2 d.length c2 (q.2.1 : Nat) 0, [(g2, .cells ((⟨(n0 : Nat), (n1 : Nat), (n2 : Nat), (n3 : Nat), (n4 : Nat), (n5 : Nat), (n6 : Nat), q.2.2.1⟩ : TxnP).cells q.2.2.2.1 q.2.2.2.2.1).toArray 46 (0, 0))], q.2.2.2.2.2]) (fun q => q.1 ≤ n7 ∧ q.2.1 ≤ d.length ∧ q.2.2.1.length = q.1 ∧ BufO q.2.2.1 q.2.2.2 ∧ O = (match opsP d (n7 - q.1) q.2.1 with | .error e => .error e | .ok (l, q') => .ok (q.2.2.1 ++ l, q'))) (fun q => n7 - q.1) ((0, p8, [], none, 0, [])) rfl ?_ (by repeat (first | exact trivial | refine ⟨rfl, ?_⟩)) ?_
  · refine ⟨Nat.zero_le _, (show p8 ≤ d.length by omega), rfl, Buf.nil _ _, ?_⟩
    simp only [Nat.sub_zero]
    rw [hO]
    cases opsP d n7 p8 with
    | error e => rfl
    | ok r => rfl
  rintro ⟨i, p, l, A3, c3, E3⟩ ⟨hi, hp, hl, hbo, ho⟩
  try dsimp only
  refine wc_fcat ?_
  refine wc_cat ?_
  dsimp only at hi hp hl hbo ho ⊢
  repeat (first | (apply wx_val; (first | exact v_lt rfl rfl); rfl) | refine wc_seq ?_ | refine wc_region ?_ | refine wx_nil ?_ | refine wq_next ?_)
  refine wc_if rfl (fun h1 => ?_) (fun h1 => ?_)
  · rw [show n7 - i = (n7 - (i + 1)) + 1 by omega] at ho
    unfold opsP at ho
    repeat (first | refine wc_seq ?_ | refine wq_next ?_ | refine wc_block ?_ | refine wc_skip ?_)
    refine wc_heldX [2, 3, 4] [[(g5, .cells [Value.pointer (some ⟨g, 0, none⟩)].toArray 110 (0, 0))]] rfl (by (repeat (first | exact panicNot_D3 rfl))) (fun hQd => ?_)
    (apply wh_takeX 0; (first | exact fun _ h => h | exact fun _ h => res_takes h); exact hQd; rfl; rfl; exact v_faddr rfl rfl; decide +kernel; decide +kernel; decide +kernel; rfl)
    (apply wh_takeX 2; (first | exact fun _ h => res_takes h); exact hQd; rfl; rfl; (first | exact v_ldAT rfl (by rfl)); decide +kernel; decide +kernel; decide +kernel; rfl)
    refine wh_eff2 1 3 rfl rfl (by decide +kernel) ?_ ?_
    · repeat (first | (apply wx_val; (first | exact v_ldT rfl rfl rfl (by rfl)); rfl) | refine wx_nil ?_)
      (try refine wx_nil ?_)
      refine wq_held (by (first | exact fun _ h => h | exact fun _ h => res_takes h)) ?_
      refine wh_eff 3 rfl (by decide +kernel) ?_
      refine wl_callX (fun w' hr ho => readOp_spec (p := p) hdl hb hp w' ho) rfl rfl rfl (fun q hq => ?_) (fun e2 he => ?_)
      case refine_2 =>
        rw [he] at ho
        dsimp only at ho
        rw [ho] at hR
        dsimp only at hR
        subst hR
        repeat (first | refine wq_cat ?_ | refine wq_then_panic ?_ | refine wq_block_panic ?_)
        exact dec_pan e2.1 rfl rfl rfl rfl
      obtain ⟨o, p'⟩ := q
      dsimp only at hq ⊢
      rw [hq] at ho
      dsimp only at ho
      refine wx_cat ?_
      (try refine wx_nil ?_)
      refine wq_held (by (first | exact fun _ h => h | exact fun _ h => res_takes h)) ?_
      refine wh_eff 4 rfl (by decide +kernel) ?_
      refine wl_lit rfl rfl rfl rfl rfl (by decide) rfl (fun g9 => ?_)
      (try refine wx_nil ?_)
      refine wq_held (by (first | exact fun _ h => h | exact fun _ h => res_takes h)) ?_
      refine wh_eff 5 rfl (by decide +kernel) ?_
      refine wl_app1T rfl hbo rfl rfl rfl rfl (by omega) rfl (fun A4 c4 E4 hb4 => ?_)
      rw [show l.length + 1 = (l ++ [o]).length from by simp] at hb4 ⊢
      (try refine wx_nil ?_)
      refine wq_held (by (first | exact fun _ h => h | exact fun _ h => res_takes h)) ?_
      (apply wh_takeX 6; (first | exact fun _ h => h | exact fun _ h => res_takes h); exact hQd; rfl; rfl; exact v_faddr rfl rfl; decide +kernel; decide +kernel; decide +kernel; rfl)
      refine wh_eff 7 rfl (by decide +kernel) ?_
      refine wl_storeT rfl rfl rfl (by rfl) (by exact .inl (Nat.le_refl _)) rfl ?_
      refine wx_setn ?_
      refine wx_blk g2 ((⟨(n0 : Nat), (n1 : Nat), (n2 : Nat), (n3 : Nat), (n4 : Nat), (n5 : Nat), (n6 : Nat), l ++ [o]⟩ : TxnP).cells A4 c4) rfl ?_
      refine wx_setn ?_
      (try refine wx_nil ?_)
      refine wq_held (by (first | exact fun _ h => h | exact fun _ h => res_takes h)) ?_
      refine wh_done (by decide +kernel) ?_
      repeat (first | (apply wx_val; (first | exact v_move rfl | exact v_addi rfl rfl (by omega)); rfl) | refine wc_region ?_ | refine wx_nil ?_ | refine wq_next ?_ | refine wq_block ?_)
      refine wq_roundK ((i + 1, p', l ++ [o], A4, c4, E4)) ?_ ?_ (by repeat (first | exact trivial | refine ⟨rfl, ?_⟩)) (by first | exact catEq | exact rfl)
      · have hpl := opP_le hp hq
        refine ⟨(show i + 1 ≤ n7 by omega), hpl, (show (l ++ [o]).length = i + 1 by simp [hl]), ?_, ?_⟩
        · show Buf _ _ _ _ _ _ _
          rw [List.flatMap_append]; exact hb4
        · show O = _
          rw [ho]
          cases opsP d (n7 - (i + 1)) p' with
          | error e => rfl
          | ok r => simp
      · show n7 - (i + 1) < n7 - i
        omega
    · refine wl_callX (fun w' hr ho => readOp_spec (p := p) hdl hb hp w' ho) rfl rfl rfl (fun q hq => ?_) (fun e2 he => ?_)
      case refine_2 =>
        rw [he] at ho
        dsimp only at ho
        rw [ho] at hR
        dsimp only at hR
        subst hR
        repeat (first | refine wq_cat ?_ | refine wq_then_panic ?_ | refine wq_block_panic ?_)
        exact dec_pan e2.1 rfl rfl rfl rfl
      obtain ⟨o, p'⟩ := q
      dsimp only at hq ⊢
      rw [hq] at ho
      dsimp only at ho
      refine wx_cat ?_
      (try refine wx_nil ?_)
      refine wq_held (by (first | exact fun _ h => h | exact fun _ h => res_takes h)) ?_
      refine wh_eff2 1 4 rfl rfl (by decide +kernel) ?_ ?_
      · repeat (first | (apply wx_val; (first | exact v_ldT rfl rfl rfl (by rfl)); rfl) | refine wx_nil ?_)
        (try refine wx_nil ?_)
        refine wq_held (by (first | exact fun _ h => h | exact fun _ h => res_takes h)) ?_
        refine wh_eff 4 rfl (by decide +kernel) ?_
        refine wl_lit rfl rfl rfl rfl rfl (by decide) rfl (fun g9 => ?_)
        (try refine wx_nil ?_)
        refine wq_held (by (first | exact fun _ h => h | exact fun _ h => res_takes h)) ?_
        refine wh_eff 5 rfl (by decide +kernel) ?_
        refine wl_app1T rfl hbo rfl rfl rfl rfl (by omega) rfl (fun A4 c4 E4 hb4 => ?_)
        rw [show l.length + 1 = (l ++ [o]).length from by simp] at hb4 ⊢
        (try refine wx_nil ?_)
        refine wq_held (by (first | exact fun _ h => h | exact fun _ h => res_takes h)) ?_
        (apply wh_takeX 6; (first | exact fun _ h => h | exact fun _ h => res_takes h); exact hQd; rfl; rfl; exact v_faddr rfl rfl; decide +kernel; decide +kernel; decide +kernel; rfl)
        refine wh_eff 7 rfl (by decide +kernel) ?_
        refine wl_storeT rfl rfl rfl (by rfl) (by exact .inl (Nat.le_refl _)) rfl ?_
        refine wx_setn ?_
        refine wx_blk g2 ((⟨(n0 : Nat), (n1 : Nat), (n2 : Nat), (n3 : Nat), (n4 : Nat), (n5 : Nat), (n6 : Nat), l ++ [o]⟩ : TxnP).cells A4 c4) rfl ?_
        refine wx_setn ?_
        (try refine wx_nil ?_)
        refine wq_held (by (first | exact fun _ h => h | exact fun _ h => res_takes h)) ?_
        refine wh_done (by decide +kernel) ?_
        repeat (first | (apply wx_val; (first | exact v_move rfl | exact v_addi rfl rfl (by omega)); rfl) | refine wc_region ?_ | refine wx_nil ?_ | refine wq_next ?_ | refine wq_block ?_)
        refine wq_roundK ((i + 1, p', l ++ [o], A4, c4, E4)) ?_ ?_ (by repeat (first | exact trivial | refine ⟨rfl, ?_⟩)) (by first | exact catEq | exact rfl)
        · have hpl := opP_le hp hq
          refine ⟨(show i + 1 ≤ n7 by omega), hpl, (show (l ++ [o]).length = i + 1 by simp [hl]), ?_, ?_⟩
          · show Buf _ _ _ _ _ _ _
            rw [List.flatMap_append]; exact hb4
          · show O = _
            rw [ho]
            cases opsP d (n7 - (i + 1)) p' with
            | error e => rfl
            | ok r => simp
        · show n7 - (i + 1) < n7 - i
          omega
      · refine wl_lit rfl rfl rfl rfl rfl (by decide) rfl (fun g9 => ?_)
        (try refine wx_nil ?_)
        refine wq_held (by (first | exact fun _ h => h | exact fun _ h => res_takes h)) ?_
        refine wh_eff 1 rfl (by decide +kernel) ?_
        repeat (first | (apply wx_val; (first | exact v_ldT rfl rfl rfl (by rfl)); rfl) | refine wx_nil ?_)
        (try refine wx_nil ?_)
        refine wq_held (by (first | exact fun _ h => h | exact fun _ h => res_takes h)) ?_
        refine wh_eff 5 rfl (by decide +kernel) ?_
        refine wl_app1T rfl hbo rfl rfl rfl rfl (by omega) rfl (fun A4 c4 E4 hb4 => ?_)
        rw [show l.length + 1 = (l ++ [o]).length from by simp] at hb4 ⊢
        (try refine wx_nil ?_)
        refine wq_held (by (first | exact fun _ h => h | exact fun _ h => res_takes h)) ?_
        (apply wh_takeX 6; (first | exact fun _ h => h | exact fun _ h => res_takes h); exact hQd; rfl; rfl; exact v_faddr rfl rfl; decide +kernel; decide +kernel; decide +kernel; rfl)
        refine wh_eff 7 rfl (by decide +kernel) ?_
        refine wl_storeT rfl rfl rfl (by rfl) (by exact .inl (Nat.le_refl _)) rfl ?_
        refine wx_setn ?_
        refine wx_blk g2 ((⟨(n0 : Nat), (n1 : Nat), (n2 : Nat), (n3 : Nat), (n4 : Nat), (n5 : Nat), (n6 : Nat), l ++ [o]⟩ : TxnP).cells A4 c4) rfl ?_
        refine wx_setn ?_
        (try refine wx_nil ?_)
        refine wq_held (by (first | exact fun _ h => h | exact fun _ h => res_takes h)) ?_
        refine wh_done (by decide +kernel) ?_
        repeat (first | (apply wx_val; (first | exact v_move rfl | exact v_addi rfl rfl (by omega)); rfl) | refine wc_region ?_ | refine wx_nil ?_ | refine wq_next ?_ | refine wq_block ?_)
        refine wq_roundK ((i + 1, p', l ++ [o], A4, c4, E4)) ?_ ?_ (by repeat (first | exact trivial | refine ⟨rfl, ?_⟩)) (by first | exact catEq | exact rfl)
        · have hpl := opP_le hp hq
          refine ⟨(show i + 1 ≤ n7 by omega), hpl, (show (l ++ [o]).length = i + 1 by simp [hl]), ?_, ?_⟩
          · show Buf _ _ _ _ _ _ _
            rw [List.flatMap_append]; exact hb4
          · show O = _
            rw [ho]
            cases opsP d (n7 - (i + 1)) p' with
            | error e => rfl
            | ok r => simp
        · show n7 - (i + 1) < n7 - i
          omega
  · obtain rfl : i = n7 := by omega
    rw [Nat.sub_self] at ho
    unfold opsP at ho
    dsimp only at ho
    rw [List.append_nil] at ho
    rw [ho] at hR
    dsimp only at hR
    repeat (first | (apply wx_val; (first | exact v_faddr rfl rfl | exact v_ldT rfl rfl rfl (by rfl)); rfl) | refine wc_seq ?_ | refine wc_region ?_ | refine wq_next ?_ | refine wc_exit ?_ | refine wq_then_exit ?_ | refine wq_block_exit rfl ?_)
    refine wl_callT (fun w' hr ho => Left_spec (A := A2) (c := c2) hdl hp w' ho) rfl rfl rfl ?_
    rintro - -
    repeat (first | (apply wx_val; (first | exact v_gt rfl rfl); rfl) | refine wx_nil ?_ | refine wq_next ?_ | refine wc_cat ?_)
    refine wc_if rfl (fun h2 => ?_) (fun h2 => ?_)
    · rw [if_pos (by omega)] at hR
      dsimp only at hR
      subst hR
      repeat (first | (apply wx_val; (first | exact v_faddr rfl rfl | exact v_ldT rfl rfl rfl (by rfl)); rfl) | refine wc_region ?_)
      refine wl_callT (fun w' hr ho => Offset_spec (A := A2) (n := d.length) (c := c2) (p := p) (f := 0) w' ho) rfl rfl rfl ?_
      rintro - -
      repeat (first | refine wx_cat ?_)
      (try refine wx_ungd rfl rfl ?_)
      apply wx_val
      exact v_build (cs := ([.int .i64 (p : Nat), .int .i64 61]).toArray) rfl (by kernel_rfl)
      rfl
      repeat (first | (apply wx_val; (first | exact v_mkIface rfl rfl); rfl))
      refine wl_panic (v := .agg #[.int .i64 (p : Nat), .int .i64 61]) rfl ?_
      repeat (first | refine wq_then_panic ?_)
      exact dec_pan ((p : Nat), 61) rfl rfl rfl rfl
    · rw [if_neg (by omega)] at hR
      dsimp only at hR
      subst hR
      repeat (first | (apply wx_val; (first | exact v_ldAT rfl (by rfl)); rfl) | refine wc_seq ?_ | refine wc_region ?_ | refine wx_nil ?_ | refine wq_next ?_ | refine wc_ret ?_ | refine wc_skip ?_ | refine wx_setn ?_ | refine wq_setn ?_ | refine wl_storeT rfl rfl rfl (by rfl) (by exact .inl (Nat.le_refl _)) rfl ?_ | refine wl_stAT rfl rfl (by rfl) (by rfl) (by exact .inl (Nat.le_refl _)) rfl ?_)
      refine wq_blk g4 [.int .i64 0] rfl ?_
      refine wq_setn ?_
      refine wq_blk g3 [.int .i64 0] rfl ?_
      refine wq_setn ?_
      exact dec_ret (A := A3) (c := c3) (E := E3) rfl rfl rfl hbo
end Go.Proofs.Ytjfjleejbbmmaaa
