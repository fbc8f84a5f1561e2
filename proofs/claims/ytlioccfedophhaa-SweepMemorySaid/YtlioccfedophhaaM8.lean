/- Parts of the proof: SwR, SwS, SwT, SpY, SwU, SwY, Sort1, SortP. -/
import Derived.Test.YtlioccfedophhaaM7
import Derived.Test.YtlioccfedophhaaM6
import Derived.Test.YtlioccfedophhaaM2
import Derived.Test.YtlioccfedophhaaM1
/- install: what a committed transaction wrote is put in. -/
set_option linter.unusedVariables false
set_option linter.unusedSimpArgs false
namespace Go.Proofs.Ytlioccfedophhaa
open Go
set_option maxRecDepth 20000
set_option maxHeartbeats 2000000
attribute [local irreducible] WX WC WQ Val VCall WY WR
theorem rSwR_0 {A B : Prop} (k : B) (h : Hold B → A := by intro k; (repeat (first | (apply wx_val; (first | exact v_move rfl | exact v_assign rfl | exact v_nil rfl | exact v_faddr rfl rfl | exact v_ldT rfl rfl rfl (by rfl) | exact v_extract rfl rfl | exact v_len rfl rfl | exact v_eq rfl rfl | exact v_ne rfl rfl | exact v_lt rfl rfl | exact v_addi rfl rfl (by omega) | exact v_not rfl | exact v_pickT rfl rfl | exact v_pickF rfl rfl | exact v_iaddrE (by assumption) rfl rfl rfl (by omega)); rfl) | refine wx_no rfl rfl rfl ?_ | refine wx_ungd rfl rfl ?_ | refine wc_seq ?_ | refine wc_region ?_ | refine wx_nil ?_ | refine wq_next ?_ | refine wc_block ?_ | refine wc_skip ?_ | refine wc_exit ?_ | refine wq_then_exit ?_ | refine wq_block ?_ | refine wq_block_exit rfl ?_ | refine wc_setn ?_ | refine wq_setn ?_ | refine wc_reads rfl (by decide +kernel) ?_ | refine wc_condT rfl ?_ | refine wc_condF rfl ?_ | refine wl_stAT rfl rfl (by rfl) (by rfl) (by exact .inl (Nat.le_refl _)) rfl ?_)); exact k.out) : A := h ⟨k⟩
theorem wl_stOT {P : Program} {ops : Array Oper} {Q : Exit → Act → World → Prop} {nt : Sh} {w0 : World} {X : List Nat} {fr : Fr} {M : List Seg} {rest : List Oper} {ty : TypeId} {pos : String} {af : Array Edge} {t : TypeId} {x y : Operand} {g off i : Nat} {cs : List Value} {et : TypeId} {fz : Nat × Nat} {vs : List Value} (hx : ev fr x = some (.pointer (some ⟨g, off, none⟩))) (hy : ev fr y = some (.agg vs.toArray)) [k : BlkAt g M (.cells cs.toArray et fz) i] (hn : aggN P t = some vs.length)
    (hl : Nat.ble (off + vs.length) cs.length = true) (hz : okF fz cs.length) (h1 : vs.all Value.oneCell' = true) (h : WX .seq P ops Q nt w0 X rest fr (M.set i [(g, .cells (spliced cs off vs).toArray et fz)])) :
    WX .seq P ops Q nt w0 X (⟨none, .store t x y, ty, pos, af, none⟩ :: rest) fr M := wl_storeA i hn hx hy k.at_ (Nat.le_of_ble_eq_true hl) hz (fun u hu => List.all_eq_true.1 h1 u hu) h
def twS (s : SwW) (p : Int) (t : TxnP) : SwW := if s.ta = true ∧ s.tt = t.fin then s else { s with tt := t.fin, tf := p, ta := true }
theorem twS_gs (s : SwW) (p : Int) (t : TxnP) : (twS s p t).gs = s.gs := by unfold twS; split <;> rfl
theorem twS_gf (s : SwW) (p : Int) (t : TxnP) : (twS s p t).gf = s.gf := by unfold twS; split <;> rfl
theorem newN_step {d : DoneT} {n : Nat} {o : OpW} (h : d.t.ops[n]? = some o) : newN d (n + 1) = newN d n ++ (if o.kind ≠ 1 ∧ (lastN o.key d.t.ops n).isNone then [⟨o.key, verD o.key d⟩] else []) := by
  conv => lhs; unfold newN
  rw [h]
/-- the state while it is put in -/
structure InsI (d : DoneT) (H : List VerK) (A : Ks) (m : Nat) (j : Nat) (es : List ChE) (clk : Nat) (q : Fo) (A' : Ks) : Prop where
  ch : ChOk es clk (H ++ newN d j)
  fo : FoOk (m + j) A' q
  mem : ∀ k x, (k, x) ∈ A' ↔ ((k, x) ∈ A ∨ (x = ⟨d.t.start, d.t.fin, d.place⟩ ∧ (lastN k d.t.ops j).isSome = true))
theorem newN_skip {d : DoneT} {j : Nat} {o : OpW} (ho : d.t.ops[j]? = some o) (hk : o.kind = 1 ∨ (lastN o.key d.t.ops j).isSome = true) : newN d (j + 1) = newN d j := by
  rw [newN_step ho, if_neg, List.append_nil]
  rintro ⟨a, b⟩
  rcases hk with hk | hk
  · exact a hk
  · cases hl : lastN o.key d.t.ops j with
    | none => rw [hl] at hk; cases hk
    | some u => rw [hl] at b; cases b
theorem InsI.skip {d : DoneT} {H : List VerK} {A : Ks} {m j : Nat} {es : List ChE} {clk : Nat} {q : Fo} {A' : Ks} (h : InsI d H A m j es clk q A') {o : OpW} (ho : d.t.ops[j]? = some o) (hk : o.kind = 1 ∨ (lastN o.key d.t.ops j).isSome = true) : InsI d H A m (j + 1) es clk q A' := by
  have e1 := newN_skip ho hk
  have e2 : ∀ k, (lastN k d.t.ops (j + 1)).isSome = (lastN k d.t.ops j).isSome := fun k => by
    rw [lastN_step ho]
    by_cases hc : o.kind ≠ 1 ∧ o.key = k
    · rw [if_pos hc]
      rcases hk with hk | hk
      · exact absurd hk hc.1
      · rw [← hc.2, hk]; rfl
    · rw [if_neg hc]
  exact ⟨by rw [e1]; exact h.ch, h.fo.up (by omega), fun k x => by rw [h.mem, e2]⟩
theorem last_new {d : DoneT} {j : Nat} {o : OpW} (ho : d.t.ops[j]? = some o) (h1 : o.kind ≠ 1) (k : ByteArray) : (lastN k d.t.ops (j + 1)).isSome = true ↔ (k = o.key ∨ (lastN k d.t.ops j).isSome = true) := by
  rw [lastN_step ho]
  by_cases hc : o.key = k
  · rw [if_pos ⟨h1, hc⟩]
    exact ⟨fun _ => .inl hc.symm, fun _ => rfl⟩
  · rw [if_neg fun e => hc e.2]
    exact ⟨.inr, fun h => h.elim (fun e => absurd e.symm hc) id⟩
theorem last_write {k : ByteArray} {l : List OpW} {n : Nat} {w : OpW} (h : lastN k l n = some w) : w ∈ l ∧ w.kind ≠ 1 ∧ w.key = k := by
  rcases left_last k l n with ⟨_, h2⟩ | ⟨i, o, h1, h2, h3, h4, h5, h6⟩
  · rw [h2] at h; cases h
  · rw [h4] at h
    cases h
    exact ⟨List.mem_of_getElem? h3, h5, h6⟩
theorem ver_right {d : DoneT} (hok : d.t.Ok) (hp : 0 ≤ d.place ∧ d.place ≤ 4095) {k : ByteArray} {w : OpW} (h : lastN k d.t.ops d.t.ops.length = some w) : (0 ≤ (verD k d).commit ∧ (verD k d).commit ≤ 1099511627776) ∧ (0 ≤ (verD k d).writer ∧ (verD k d).writer < 4096) ∧ (verD k d).value.size ≤ 16 ∧ ((verD k d).found = true ∨ (verD k d).value = ⟨#[]⟩) := by
  obtain ⟨_, _, h2, h3, _⟩ := hok.small
  obtain ⟨w1, w2, w3⟩ := last_write h
  have hw := h3 w w1
  rw [ver_commit, ver_writer]
  unfold verD
  rw [h]
  refine ⟨h2, by omega, hw.2.2.1, ?_⟩
  rcases hw.2.2.2 with h4 | h4 | h4
  · exact absurd h4.1 w2
  · exact .inl h4.2
  · exact .inr ((empty_iff _).2 h4.2.2)
section
variable {g mc clk : Nat} {s : SwW} {nh : Int} {es : List ChE} {H : List VerK} {q : Fo} {m : Nat} {A : Ks}
theorem install_spec {At : Option Addr} {c : Nat} {d : DoneT} (hch : ChOk es clk H) (hl : H.length ≤ 524288) (hn : nh = (H.length : Nat)) (hq : FoOk m A q) (hm : m ≤ 524288) (hok : d.t.Ok) (hp : 0 ≤ d.place ∧ d.place ≤ 4095) (hlt : d.t.start < d.t.fin)
    (hab : ∀ k, ∀ u ∈ chD k H, above (verD k d) u = true) (hnew : ∀ k x, (k, x) ∈ A → x.c ≠ d.place) (hc : d.t.ops.length ≤ c)
    (w : World) (hv : Vw (ids (jM g s mc nh es clk q A.length)) w At (d.t.ops.flatMap OpW.cells)) (ho : Own w (jM g s mc nh es clk q A.length)) :
    Calls Try.prog 36 #[.pointer (some ⟨g, 0, none⟩), .int .i64 d.place, .agg (d.t.cells At c).toArray] w
      (Ret (β := List ChE × Nat × Fo × Ks) w (ids (jM g s mc nh es clk q A.length)) (fun x => .tuple #[]) (fun x => jM g (twS s d.place d.t) mc ((H ++ newN d d.t.ops.length).length : Nat) x.1 x.2.1 x.2.2.1 x.2.2.2.length)
        (fun x => InsI d H A m d.t.ops.length x.1 x.2.1 x.2.2.1 x.2.2.2)) := by
  refine go [.pointer (some ⟨g, 0, none⟩), .int .i64 d.place, .agg (d.t.cells At c).toArray] (jM g s mc nh es clk q A.length) Try.func36 Try.ntmps36 rfl rfl ho ?_
  obtain ⟨p, t⟩ := d
  dsimp only at hok hp hlt hc hv ⊢
  have hsm := hok.small
  subst hn
  refine rSwR_0 ?_
  refine wl_boxA rfl rfl (fun g5 => ?_)
  repeat (first | refine wc_seq ?_ | refine wx_nil ?_ | refine wq_next ?_)
  refine wc_meetK (ι := Unit) [0, 1, 5] (fun _ => [(27, .bool (decide (¬ (s.ta = true ∧ s.tt = t.fin))))]) (fun _ => []) (M1 := []) (fun _ => True) rfl ?_ ?_
  · refine wc_cat ?_
    refine rSwR_0 ?_
    refine wx_gbool rfl rfl (fun hx => ?_) (fun hx => ?_)
    · have hx' : s.ta = false := by simpa using hx
      rw [decide_eq_true (show ¬ (s.ta = true ∧ s.tt = t.fin) by simp [hx'])]
      refine rSwR_0 ?_
      refine wq_cutK (()) ?_ (by repeat (first | exact trivial | refine ⟨rfl, ?_⟩)) (by first | exact catEq | exact rfl)
      exact trivial
    · have hx' : s.ta = true := by simpa using hx
      rw [show decide (¬ (s.ta = true ∧ s.tt = t.fin)) = decide (s.tt ≠ t.fin) by simp [hx']]
      refine rSwR_0 ?_
      refine wq_cutK (()) ?_ (by repeat (first | exact trivial | refine ⟨rfl, ?_⟩)) (by first | exact catEq | exact rfl)
      exact trivial
  rintro ⟨⟩ -
  refine wc_fcat ?_
  refine wc_cat ?_
  refine wc_meetK (ι := Unit) [0, 1, 5] (fun _ => []) (fun _ => [swB g (twS s p t)]) (M1 := [swB g s]) (fun _ => True) rfl ?_ ?_
  · refine wc_cat ?_
    refine wc_if rfl (fun hx => ?_) (fun hx => ?_)
    · have e : twS s p t = { s with tt := t.fin, tf := p, ta := true } := by unfold twS; rw [if_neg hx]
      rw [e]
      refine rSwR_0 ?_
      (try refine wx_ungd rfl rfl ?_)
      apply wx_val
      exact v_build (cs := ([.int .i64 t.fin, .int .i64 p, .bool true]).toArray) rfl (by kernel_rfl)
      rfl
      refine rSwR_0 ?_
      refine wl_stOT rfl rfl rfl rfl (by exact .inl (Nat.le_refl _)) rfl ?_
      refine rSwR_0 ?_
      refine wq_blk g (SwW.cells { s with tt := t.fin, tf := p, ta := true }) rfl ?_
      refine wq_setn ?_
      refine wq_cutK (()) ?_ (by repeat (first | exact trivial | refine ⟨rfl, ?_⟩)) (by first | exact catEq | exact rfl)
      exact trivial
    · have e : twS s p t = s := by unfold twS; rw [if_pos (Decidable.not_not.1 hx)]
      rw [e]
      refine rSwR_0 ?_
      refine wq_cutK (()) ?_ (by repeat (first | exact trivial | refine ⟨rfl, ?_⟩)) (by first | exact catEq | exact rfl)
      exact trivial
  rintro ⟨⟩ -
  refine wc_fcat ?_
  refine wc_cat ?_
  obtain ⟨s2, hs2⟩ : ∃ s2, s2 = twS s p t := ⟨_, rfl⟩
  have eg : s2.gs = s.gs := by rw [hs2, twS_gs]
  have ef : s2.gf = s.gf := by rw [hs2, twS_gf]
  rw [← hs2, ← eg, ← ef]
  refine rSwR_0 ?_
  rw [show stB s2.gs mc ((H.length : Nat) : Int) = stB s2.gs mc ((H ++ newN ⟨p, t⟩ 0).length : Nat) by simp [newN]]
  refine wc_loopM (ι := Nat × List ChE × Nat × Fo × Ks) ([stB s2.gs mc ((H ++ newN ⟨p, t⟩ 0).length : Nat), mpK Value.string mc (chL es) clk, chSg es, q.seg s2.gf A.length]) [0, 1, 5, 36, 37] (fun x => [(38, .int .i64 (x.1 : Nat))]) (fun x => [stB s2.gs mc ((H ++ newN ⟨p, t⟩ x.1).length : Nat), mpK Value.string mc (chL x.2.1) x.2.2.1, chSg x.2.1, x.2.2.2.1.seg s2.gf x.2.2.2.2.length]) (fun x => (x.1 ≤ t.ops.length ∧ InsI ⟨p, t⟩ H A m x.1 x.2.1 x.2.2.1 x.2.2.2.1 x.2.2.2.2)) (fun x => t.ops.length - x.1) ((0, es, clk, q, A)) rfl rfl ?_ (by repeat (first | exact trivial | refine ⟨rfl, ?_⟩)) ?_
  · exact ⟨Nat.zero_le _, by simpa [newN] using hch, hq, fun k x => by simp [lastN]⟩
  rintro ⟨j, es1, clk1, q1, A1⟩ ⟨h1, hI⟩
  try dsimp only
  refine wc_fcat ?_
  refine wc_cat ?_
  dsimp only at h1 hI ⊢
  have hlt2 := newN_len ⟨p, t⟩ j
  refine rSwR_0 ?_
  refine wc_if rfl (fun h2 => ?_) (fun h2 => ?_)
  · obtain ⟨o, ho⟩ : ∃ o, t.ops[j]? = some o := ⟨t.ops[j]'(by omega), List.getElem?_eq_getElem _⟩
    obtain ⟨gA, oA, hA, hca⟩ := hv.elZ (k := 4) (by decide) (fun _ => rfl) (by omega)
    have hlt := List.length_take (i := j) (l := t.ops)
    have hvw : ∀ {w' : World} {M : List Seg}, Res w (ids (jM g s mc (H.length : Nat) es clk q A.length)) w' M → Vw [] w' (cutA At 0 j c 4) ((t.ops.take j).flatMap OpW.cells) := fun {w' M} hr => by
      have := vw_cut (l := 0) (h := j) (c := c) (sz := 4) (hv.keep hr) (by omega) (by rw [flat_len' (k := 4) (fun _ => rfl)]; omega) (by omega)
      rw [flat_dt (f := OpW.cells) (k := 4) (fun _ => rfl)] at this
      exact this.rd.vw
    refine rSwR_0 ?_
    (try refine wx_ungd rfl rfl ?_)
    apply wx_val
    exact v_loadA (cs := o.cells) rfl rfl (fun w' hr u x hj => hca ho hr hj (by rw [Int.toNat_natCast]))
    rfl
    skip
    refine wl_alloc rfl rfl (fun g7 => ?_)
    refine rSwR_0 ?_
    refine wc_meetK (ι := Nat) [0, 1, 5, 6, 7, 36, 37, 38] (fun g8 => [(8, .pointer (some ⟨g8, 0, none⟩)), (9, .bool (lastN o.key t.ops j).isSome)]) (fun g8 => []) (M1 := []) (fun _ => True) rfl ?_ ?_
    · refine wc_cat ?_
      have ew : lastN o.key (t.ops.take j) (t.ops.take j).length = lastN o.key t.ops j := by
        rw [show (t.ops.take j).length = j by omega, lastN_take _ _ _ _ (Nat.le_refl _)]
      have cw := fun w' hv' => written_spec (A := cutA At 0 j c 4) (c := c - 0) (l := t.ops.take j) o.key (by omega) w' hv'
      rw [ew] at cw
      refine wc_heldN [] [[(g5, .cells (t.cells At c).toArray 47 (0, 0))], [(g7, .cells o.cells.toArray 49 (0, 0))]] (fun hQd => ?_)
      refine tkX 0 rfl (v_faddr rfl rfl) ?_
      refine tkX 1 rfl (v_ldT rfl rfl rfl (by rfl)) ?_
      refine tkX 2 rfl (v_move rfl) ?_
      refine tkX 3 rfl (v_sliceN (l := 0) (h := j) (m := (t.ops.take j).length) rfl rfl rfl (by rfl) (by omega) (by omega) (by omega)) ?_
      refine tkX 4 rfl (v_faddr rfl rfl) ?_
      refine tkX 5 rfl (v_ldT rfl rfl rfl (by rfl)) ?_
      refine wh_eff2 6 10 rfl rfl (by decide +kernel) ?_ ?_
      · skip
        (try refine wx_ungd rfl rfl ?_)
        refine wx_vcall (vc_pure' rfl rfl (fun w' hr => cw w' (hvw hr))) rfl ?_
        (try refine wx_nil ?_)
        refine hdX ?_
        refine tkX 7 rfl (v_move rfl) ?_
        refine tkX 8 rfl (v_extract rfl rfl) ?_
        refine tkX 9 rfl (v_extract rfl rfl) ?_
        refine efX 10 rfl ?_
        refine wl_alloc rfl rfl (fun g8 => ?_)
        (try refine wx_nil ?_)
        refine hdX ?_
        refine efX 11 rfl ?_
        refine rSwR_0 ?_
        (try refine wx_nil ?_)
        refine hdX ?_
        refine tkX 12 rfl (v_assign rfl) ?_
        refine wh_done (by decide +kernel) ?_
        refine wq_cutK (g8) ?_ (by repeat (first | exact trivial | refine ⟨rfl, ?_⟩)) (by first | exact catEq | exact rfl)
        exact trivial
      · refine wl_alloc rfl rfl (fun g8 => ?_)
        (try refine wx_nil ?_)
        refine hdX ?_
        refine efX 6 rfl ?_
        (try refine wx_ungd rfl rfl ?_)
        refine wx_vcall (vc_pure' rfl rfl (fun w' hr => cw w' (hvw hr))) rfl ?_
        (try refine wx_nil ?_)
        refine hdX ?_
        refine tkX 7 rfl (v_move rfl) ?_
        refine tkX 8 rfl (v_extract rfl rfl) ?_
        refine tkX 9 rfl (v_extract rfl rfl) ?_
        refine efX 11 rfl ?_
        refine rSwR_0 ?_
        (try refine wx_nil ?_)
        refine hdX ?_
        refine tkX 12 rfl (v_assign rfl) ?_
        refine wh_done (by decide +kernel) ?_
        refine wq_cutK (g8) ?_ (by repeat (first | exact trivial | refine ⟨rfl, ?_⟩)) (by first | exact catEq | exact rfl)
        exact trivial
    rintro g8 -
    refine wc_fcat ?_
    refine wc_cat ?_
    refine rSwR_0 ?_
    refine wx_gif rfl rfl (fun hk => ?_) (fun hk => ?_)
    · rw [← newN_skip (d := ⟨p, t⟩) ho (.inl hk)]
      refine rSwR_0 ?_
      refine wq_roundK ((j + 1, es1, clk1, q1, A1)) ?_ ?_ (by repeat (first | exact trivial | refine ⟨rfl, ?_⟩)) (by first | exact catEq | exact rfl)
      · exact ⟨by dsimp only; omega, hI.skip ho (.inl hk)⟩
      · dsimp only; omega
    · cases hw : lastN o.key t.ops j with
      | some u =>
        have hs : (lastN o.key t.ops j).isSome = true := by rw [hw]; rfl
        dsimp only [Option.isSome_some]
        rw [← newN_skip (d := ⟨p, t⟩) ho (.inr hs)]
        refine rSwR_0 ?_
        refine wq_roundK ((j + 1, es1, clk1, q1, A1)) ?_ ?_ (by repeat (first | exact trivial | refine ⟨rfl, ?_⟩)) (by first | exact catEq | exact rfl)
        · exact ⟨by dsimp only; omega, hI.skip ho (.inr hs)⟩
        · dsimp only; omega
      | none =>
        dsimp only [Option.isSome_none]
        have hw2 : (lastN o.key t.ops t.ops.length).isSome = true := lastN_some.2 ⟨j, o, by omega, ho, hk, rfl⟩
        obtain ⟨w0, hw0⟩ := Option.isSome_iff_exists.1 hw2
        have cw2 := fun w' hv' => written_spec (A := At) (c := c) (l := t.ops) o.key (by omega) w' hv'
        rw [hw0] at cw2
        dsimp only [Option.isSome_some, Option.getD_some] at cw2
        have hver : verD o.key ⟨p, t⟩ = ⟨t.fin, p, w0.found, w0.value⟩ := by unfold verD; rw [show lastN o.key (⟨p, t⟩ : DoneT).t.ops (⟨p, t⟩ : DoneT).t.ops.length = some w0 from hw0]
        have hvr := ver_right (d := ⟨p, t⟩) hok hp hw0
        rw [hver] at hvr
        have hor := hsm.2.2.2.1 o (List.mem_of_getElem? ho)
        have en : newN ⟨p, t⟩ (j + 1) = newN ⟨p, t⟩ j ++ [⟨o.key, ⟨t.fin, p, w0.found, w0.value⟩⟩] := by
          rw [newN_step (d := ⟨p, t⟩) ho, if_pos ⟨hk, by rw [show lastN o.key (⟨p, t⟩ : DoneT).t.ops j = none from hw]; rfl⟩, hver]
        have hab2 : ∀ u ∈ chD o.key (H ++ newN ⟨p, t⟩ j), above ⟨t.fin, p, w0.found, w0.value⟩ u = true := fun u hu => by
          rw [chD_append, newN_key, show lastN o.key (⟨p, t⟩ : DoneT).t.ops j = none from hw] at hu
          rw [← hver]
          exact hab o.key u (by simpa using hu)
        have hcode : insCode o.key ⟨t.start, t.fin, p⟩ (hasA (o.key, ⟨t.start, t.fin, p⟩) A1) = 0 := by
          unfold insCode
          rw [if_neg (by have := hor.1; have := hor.2.1; omega), if_neg (by unfold rightS; simp; omega)]
          rw [if_neg]
          rw [hasA_iff, hI.mem]
          rintro (h5 | ⟨_, h5⟩)
          · exact hnew _ _ h5 rfl
          · rw [show lastN o.key (⟨p, t⟩ : DoneT).t.ops j = none from hw] at h5; cases h5
        have hins : insN o.key ⟨t.start, t.fin, p⟩ A1 = insAll (o.key, ⟨t.start, t.fin, p⟩) A1 := if_pos hcode
        refine rSwR_0 ?_
        (try refine wx_ungd rfl rfl ?_)
        refine wx_vcall (vc_pure' rfl rfl (fun w' hr => cw2 w' (hv.keep hr).rd.vw)) rfl ?_
        refine rSwR_0 ?_
        refine wl_alloc rfl rfl (fun g10 => ?_)
        refine rSwR_0 ?_
        refine wc_heldN [] [swB g s2, [(g5, .cells (t.cells At c).toArray 47 (0, 0))], [(g7, .cells o.cells.toArray 49 (0, 0))], [(g10, .cells w0.cells.toArray 49 (0, 0))]] (fun hQd => ?_)
        refine tkX 0 rfl (v_move rfl) ?_
        refine tkX 1 rfl (v_nil rfl) ?_
        refine tkX 2 rfl (v_faddr rfl rfl) ?_
        refine tkX 3 rfl (v_ldT rfl rfl rfl (by rfl)) ?_
        refine tkX 4 rfl (v_faddr rfl rfl) ?_
        refine tkX 5 rfl (v_ldT rfl rfl rfl (by rfl)) ?_
        refine tkX 6 rfl (v_faddr rfl rfl) ?_
        refine tkX 7 rfl (v_ldT rfl rfl rfl (by rfl)) ?_
        refine tkX 8 rfl (v_move rfl) ?_
        refine tkX 9 rfl (v_faddr rfl rfl) ?_
        refine tkX 10 rfl (v_ldT rfl rfl rfl (by rfl)) ?_
        refine tkX 11 rfl (v_faddr rfl rfl) ?_
        refine tkX 12 rfl (v_ldT rfl rfl rfl (by rfl)) ?_
        refine tkX 13 rfl (v_build (cs := (VerW.cells ⟨t.fin, p, w0.found, w0.value⟩).toArray) rfl (by kernel_rfl)) ?_
        refine efX 14 rfl ?_
        refine wl_callT (fun w' hr ho => chInstall_spec (g := s2.gs) (m := mc) hI.ch (by rw [List.length_append]; omega) rfl o.key (by have := hor.1; have := hor.2.1; omega) ⟨t.fin, p, w0.found, w0.value⟩ hvr hab2 w' ho) rfl rfl rfl ?_
        rintro ⟨es2, clk2⟩ hch2
        dsimp only at hch2 ⊢
        refine wx_cat ?_
        (try refine wx_nil ?_)
        refine hdX ?_
        refine wh_done (by decide +kernel) ?_
        refine rSwR_0 ?_
        refine wc_heldN [] [swB g s2, [(g5, .cells (t.cells At c).toArray 47 (0, 0))], [(g7, .cells o.cells.toArray 49 (0, 0))]] (fun hQd => ?_)
        refine tkX 0 rfl (v_move rfl) ?_
        refine tkX 1 rfl (v_nil rfl) ?_
        refine tkX 2 rfl (v_faddr rfl rfl) ?_
        refine tkX 3 rfl (v_ldT rfl rfl rfl (by rfl)) ?_
        refine tkX 4 rfl (v_faddr rfl rfl) ?_
        refine tkX 5 rfl (v_ldT rfl rfl rfl (by rfl)) ?_
        refine tkX 6 rfl (v_faddr rfl rfl) ?_
        refine tkX 7 rfl (v_ldT rfl rfl rfl (by rfl)) ?_
        refine tkX 8 rfl (v_faddr rfl rfl) ?_
        refine tkX 9 rfl (v_ldT rfl rfl rfl (by rfl)) ?_
        refine tkX 10 rfl (v_move rfl) ?_
        refine tkX 11 rfl (v_build (cs := (Sp.cells ⟨t.start, t.fin, p⟩).toArray) rfl (by kernel_rfl)) ?_
        refine efX 12 rfl ?_
        refine wl_callT (fun w' hr ho => Insert_law (g := s2.gf) o.key ⟨t.start, t.fin, p⟩ hI.fo (by omega) w' ho) rfl rfl rfl ?_
        rintro q2 hfo2
        refine wx_cat ?_
        (try refine wx_nil ?_)
        refine hdX ?_
        refine wh_done (by decide +kernel) ?_
        rw [show (((H ++ newN ⟨p, t⟩ j).length : Nat) : Int) + 1 = ((H ++ newN ⟨p, t⟩ (j + 1)).length : Nat) by rw [en]; simp only [List.length_append, List.length_singleton]; omega]
        refine rSwR_0 ?_
        refine wq_roundK ((j + 1, es2, clk2, q2, insN o.key ⟨t.start, t.fin, p⟩ A1)) ?_ ?_ (by repeat (first | exact trivial | refine ⟨rfl, ?_⟩)) (by first | exact catEq | exact rfl)
        · refine ⟨by dsimp only; omega, ?_, hfo2, fun k x => ?_⟩
          · dsimp only
            rw [en, ← List.append_assoc]
            exact hch2
          · dsimp only
            rw [hins, (insAll_perm _ _).mem_iff, List.mem_cons, hI.mem, last_new (d := ⟨p, t⟩) ho hk]
            constructor
            · rintro (h5 | h5 | h5)
              · cases h5; exact .inr ⟨rfl, .inl rfl⟩
              · exact .inl h5
              · exact .inr ⟨h5.1, .inr h5.2⟩
            · rintro (h5 | ⟨rfl, rfl | h5⟩)
              · exact .inr (.inl h5)
              · exact .inl rfl
              · exact .inr (.inr ⟨rfl, h5⟩)
        · dsimp only; omega
  · obtain rfl : j = t.ops.length := by omega
    refine rSwR_0 ?_
    refine wq_normR ?_
    exact wq_ret0T (es1, clk1, q1, A1) rfl rfl hI
end
end Go.Proofs.Ytlioccfedophhaa
/- The sweep: New, Open, State, Most, Finish, hold. -/
set_option linter.unusedVariables false
set_option linter.unusedSimpArgs false
namespace Go.Proofs.Ytlioccfedophhaa
open Go
set_option maxRecDepth 20000
set_option maxHeartbeats 2000000
section
variable {α : Type} {κ : α → Value} {P : Program} {ops : Array Oper} {Q : Exit → Act → World → Prop} {nt : Sh} {w0 : World} {X : List Nat} {fr : Fr} {M : List Seg} {rest : List Oper} {ty : TypeId} {pos : String} {af : Array Edge} {t : TypeId} {x y s : Operand}
theorem v_mlenK {dst : Option Nat} {gd : Option (Nat × Bool)} {kt e : TypeId} {g clk : Nat} {L : TE α} {R : List Seg} [T : Take (mpK κ g L clk) M R] (ht : mapT P t = some (kt, e)) (hx : ev fr x = some (.map (some g))) :
    Val P nt w0 X fr M ⟨dst, .call ⟨.builtin .len, #[x], #[t]⟩, ty, pos, af, gd⟩ (.int .i64 (L.length : Nat)) := fun c w hs hr => by
  have hu := (mapT_spec ht).1
  have hb := take_blk (T := T) hr
  have hgo := run_getObj_map (P := P) hb
  simp [execOp, resolve, hs.ev hx, invoke, builtin, Builtin.len_, run_underlying hu, goInt, hgo, ents, tents]
theorem wl_mentryK [DecidableEq α] {d : Nat} {kt e : TypeId} {g clk : Nat} {L : TE α} {a : α} (z : Value) {R : List Seg} [T : Take (mpK κ g L clk) M R] (ht : mapT P t = some (kt, e)) (hK : KeyK P kt κ) (hz : zeroV P e = some z) (hx : ev fr x = some (.map (some g))) (hy : ev fr y = some (κ a)) (hd : Nat.blt d nt.n = true)
    (h : WX .seq P ops Q nt w0 X rest ((d, .tuple #[(aget a L).getD z, .int .i64 (astamp a L clk : Nat)]) :: fr) (mpK κ g (aentry a z L clk) (aclk a L clk) :: R)) :
    WX .seq P ops Q nt w0 X (⟨some d, .mapEntry t x y, ty, pos, af, none⟩ :: rest) fr M :=
  wx_sub (M1 := mpK κ g L clk :: R) (L := []) (by simpa using T.perm) (wl_mentry (κ := κ) 0 ht hz hx hy rfl hK.key (hK.good a) (hK.ok a) hd h)
theorem wl_mstoreK [DecidableEq α] {kt : TypeId} {g clk : Nat} {L : TE α} {a : α} (z : Value) {v : Value} {R : List Seg} [T : Take (mpK κ g (aentry a z L clk) (aclk a L clk)) M R] (hK : KeyK P kt κ) (hok : MapOk L clk) (hx : ev fr x = some (.map (some g))) (hs : ev fr s = some (.int .i64 (astamp a L clk : Nat))) (hy : ev fr y = some v)
    (h : WX .seq P ops Q nt w0 X rest fr (mpK κ g (aput a v L clk) (aclk a L clk) :: R)) :
    WX .seq P ops Q nt w0 X (⟨none, .entryStore t x s y, ty, pos, af, none⟩ :: rest) fr M :=
  wx_sub (M1 := mpK κ g (aentry a z L clk) (aclk a L clk) :: R) (L := []) (by simpa using T.perm) (wl_mstore (κ := κ) 0 hok hx hs hy rfl hK.key h)
end
attribute [local irreducible] WX WC WQ Val VCall WY WR
theorem rSwS_0 {A B : Prop} (k : B) (h : Hold B → A := by intro k; (repeat (first | (apply wx_val; (first | exact v_move rfl | exact v_assign rfl | exact v_nil rfl | exact v_faddr rfl rfl | exact v_ldT rfl rfl rfl (by rfl) | exact v_lt rfl rfl | exact v_gt rfl rfl | exact v_pickT rfl rfl | exact v_pickF rfl rfl); rfl) | refine wx_no rfl rfl rfl ?_ | refine wx_ungd rfl rfl ?_ | refine wc_seq ?_ | refine wc_region ?_ | refine wx_nil ?_ | refine wq_next ?_ | refine wc_block ?_ | refine wc_ret ?_ | refine wc_skip ?_ | refine wq_then_ret ?_ | refine wq_block ?_ | refine wq_block_ret ?_ | refine wq_setn ?_ | refine wc_condT rfl ?_ | refine wl_storeT rfl rfl rfl (by rfl) (by exact .inl (Nat.le_refl _)) rfl ?_)); exact k.out) : A := h ⟨k⟩
abbrev swM (g : Nat) (s : SwW) (L1 : TE Int) (k1 : Nat) (L2 : TE Int) (k2 : Nat) (mc : Nat) (nh : Int) (es : List ChE) (clk : Nat) (q : Fo) (n : Nat) : List Seg := [swB g s, stB s.gs mc nh, mpK Value.string mc (chL es) clk, chSg es, q.seg s.gf n, mpK kI s.m1 L1 k1, mpK kI s.m2 L2 k2]
theorem swNew_no (lim : Int) (h : lim < 0 ∨ 1048576 < lim) (w : World) : Calls Try.prog 12 #[.int .i64 lim] w (Ret (β := Unit) w (ids []) (fun _ => .tuple #[.pointer none, .int .i64 160]) (fun _ => []) (fun _ => True)) := by
  refine go [.int .i64 lim] [] Try.func12 Try.ntmps12 rfl rfl (own_nil w) ?_
  refine rSwS_0 ?_
  refine wx_gif rfl rfl (fun h1 => ?_) (fun h1 => ?_)
  · refine rSwS_0 ?_
    exact wq_ret2T () rfl rfl rfl rfl trivial rfl
  · refine rSwS_0 ?_
    refine wc_yes rfl (decide_eq_true (by omega)) ?_
    refine rSwS_0 ?_
    exact wq_ret2T () rfl rfl rfl rfl trivial rfl
def newW (lim : Int) (m1 m2 gs gf : Nat) : SwW := ⟨lim, m1, m2, rowZ, false, gs, gf, 0, 0, false, 0, false⟩
theorem swNew_yes (lim : Int) (h : 0 ≤ lim ∧ lim ≤ 1048576) (w : World) : Calls Try.prog 12 #[.int .i64 lim] w (Ret (β := Nat × SwW × Nat × Fo) w (ids []) (fun x => .tuple #[.pointer (some ⟨x.1, 0, none⟩), .int .i64 0]) (fun x => swM x.1 x.2.1 [] 0 [] 0 x.2.2.1 0 [] 0 x.2.2.2 0) (fun x => (∃ m1 m2 gs gf, x.2.1 = newW lim m1 m2 gs gf) ∧ FoOk 0 [] x.2.2.2)) := by
  refine go [.int .i64 lim] [] Try.func12 Try.ntmps12 rfl rfl (own_nil w) ?_
  refine rSwS_0 ?_
  refine wx_gset false rfl rfl (decide_eq_false (by omega)) ?_
  refine rSwS_0 ?_
  refine wc_not rfl (decide_eq_false (by omega)) ?_
  refine rSwS_0 ?_
  refine wl_makeMap rfl (fun m1 => ?_)
  refine wl_makeMap rfl (fun m2 => ?_)
  skip
  refine wl_callT (fun w' hr ho => chNew_spec w') rfl rfl rfl ?_
  rintro ⟨gs, mc⟩ -
  dsimp only
  refine wx_cat ?_
  refine wl_callT (fun w' hr ho => New_law w') rfl rfl rfl ?_
  rintro ⟨gf, q⟩ hq
  dsimp only at hq ⊢
  refine wx_cat ?_
  (try refine wx_ungd rfl rfl ?_)
  apply wx_val
  exact v_build (cs := ((newW lim m1 m2 gs gf).cells).toArray) rfl (by kernel_rfl)
  rfl
  refine wl_boxA rfl rfl (fun g => ?_)
  refine rSwS_0 ?_
  exact wq_ret2T (g, newW lim m1 m2 gs gf, mc, q) rfl rfl rfl rfl ⟨⟨m1, m2, gs, gf, rfl⟩, hq⟩ (show _ = [swB g (newW lim m1 m2 gs gf), stB gs mc 0, mpK Value.string mc (chL []) 0, chSg [], q.seg gf 0, [(m1, .map (ents []) 0)], [(m2, .map (ents []) 0)]] from rfl)
section
variable {g mc clk k1 k2 n : Nat} {s : SwW} {nh : Int} {es : List ChE} {q : Fo} {L1 L2 : TE Int}
theorem swOpen_spec (w : World) (ho : Own w (swM g s L1 k1 L2 k2 mc nh es clk q n)) : Calls Try.prog 23 #[.pointer (some ⟨g, 0, none⟩)] w (Ret (β := Unit) w (ids (swM g s L1 k1 L2 k2 mc nh es clk q n)) (fun _ => .int .i64 (L1.length : Nat)) (fun _ => swM g s L1 k1 L2 k2 mc nh es clk q n) (fun _ => True)) := by
  refine go [.pointer (some ⟨g, 0, none⟩)] (swM g s L1 k1 L2 k2 mc nh es clk q n) Try.func23 Try.ntmps23 rfl rfl ho ?_
  refine rSwS_0 ?_
  (try refine wx_ungd rfl rfl ?_)
  apply wx_val
  exact v_mlenK (κ := kI) (g := s.m1) (L := L1) (clk := k1) rfl rfl
  rfl
  refine rSwS_0 ?_
  exact wq_ret1T () rfl rfl trivial rfl
theorem swMost_spec (w : World) (ho : Own w (swM g s L1 k1 L2 k2 mc nh es clk q n)) : Calls Try.prog 21 #[.pointer (some ⟨g, 0, none⟩)] w (Ret (β := Unit) w (ids (swM g s L1 k1 L2 k2 mc nh es clk q n)) (fun _ => .int .i64 s.most) (fun _ => swM g s L1 k1 L2 k2 mc nh es clk q n) (fun _ => True)) := by
  refine go [.pointer (some ⟨g, 0, none⟩)] (swM g s L1 k1 L2 k2 mc nh es clk q n) Try.func21 Try.ntmps21 rfl rfl ho ?_
  refine rSwS_0 ?_
  exact wq_ret1T () rfl rfl trivial rfl
theorem swState_spec (hL : L1.length ≤ 1048576) (hn : 0 ≤ nh ∧ nh ≤ 1048576) (w : World) (ho : Own w (swM g s L1 k1 L2 k2 mc nh es clk q n)) : Calls Try.prog 24 #[.pointer (some ⟨g, 0, none⟩)] w (Ret (β := Unit) w (ids (swM g s L1 k1 L2 k2 mc nh es clk q n)) (fun _ => .int .i64 ((L1.length : Nat) + nh)) (fun _ => swM g s L1 k1 L2 k2 mc nh es clk q n) (fun _ => True)) := by
  refine go [.pointer (some ⟨g, 0, none⟩)] (swM g s L1 k1 L2 k2 mc nh es clk q n) Try.func24 Try.ntmps24 rfl rfl ho ?_
  have c1 := fun w' ho => chCount_spec (g := s.gs) (m := mc) (n := nh) w' ho
  refine rSwS_0 ?_
  refine wc_heldN [] [swB g s, mpK kI s.m1 L1 k1] (fun hQd => ?_)
  refine tkX 0 rfl (v_move rfl) ?_
  refine tkX 1 rfl (v_nil rfl) ?_
  refine tkX 2 rfl (v_faddr rfl rfl) ?_
  refine tkX 3 rfl (v_ldT rfl rfl rfl (by rfl)) ?_
  refine tkX 4 rfl (v_mlenK (κ := kI) (g := s.m1) (L := L1) (clk := k1) rfl rfl) ?_
  refine tkX 5 rfl (v_move rfl) ?_
  refine tkX 6 rfl (v_nil rfl) ?_
  refine tkX 7 rfl (v_faddr rfl rfl) ?_
  refine tkX 8 rfl (v_ldT rfl rfl rfl (by rfl)) ?_
  refine efX 9 rfl ?_
  (try refine wx_ungd rfl rfl ?_)
  refine wx_vcall (vc_callT (fun w' hr ho => c1 w' ho) rfl rfl) rfl ?_
  (try refine wx_nil ?_)
  refine hdX ?_
  refine tkX 10 rfl (by first | exact v_addi rfl rfl (by omega) | exact v_add rfl rfl) ?_
  refine tkX 11 rfl (v_assign rfl) ?_
  refine wh_done (by decide +kernel) ?_
  refine rSwS_0 ?_
  exact wq_ret1T () rfl rfl trivial rfl
theorem swFinish_spec (w : World) (ho : Own w (swM g s L1 k1 L2 k2 mc nh es clk q n)) : Calls Try.prog 20 #[.pointer (some ⟨g, 0, none⟩)] w (Ret (β := Unit) w (ids (swM g s L1 k1 L2 k2 mc nh es clk q n)) (fun _ => .int .i64 (if s.br = true then 164 else if 0 < L1.length then 163 else 0)) (fun _ => swM g s L1 k1 L2 k2 mc nh es clk q n) (fun _ => True)) := by
  refine go [.pointer (some ⟨g, 0, none⟩)] (swM g s L1 k1 L2 k2 mc nh es clk q n) Try.func20 Try.ntmps20 rfl rfl ho ?_
  refine rSwS_0 ?_
  refine wc_bool rfl (fun h1 => ?_) (fun h1 => ?_)
  · rw [if_pos h1]
    refine rSwS_0 ?_
    exact wq_ret1T () rfl rfl trivial rfl
  · rw [if_neg (by simp [h1])]
    refine rSwS_0 ?_
    (try refine wx_ungd rfl rfl ?_)
    apply wx_val
    exact v_mlenK (κ := kI) (g := s.m1) (L := L1) (clk := k1) rfl rfl
    rfl
    refine rSwS_0 ?_
    refine wc_if rfl (fun h2 => ?_) (fun h2 => ?_)
    · rw [if_pos (by omega)]
      refine rSwS_0 ?_
      exact wq_ret1T () rfl rfl trivial rfl
    · rw [if_neg (by omega)]
      refine rSwS_0 ?_
      exact wq_ret1T () rfl rfl trivial rfl
def hldW (s : SwW) (n : Int) : SwW := { s with most := if s.most < n then n else s.most, br := if s.lim < n then true else s.br }
theorem swHold_spec (hL : L1.length ≤ 1048576) (hn : 0 ≤ nh ∧ nh ≤ 1048576) (w : World) (ho : Own w (swM g s L1 k1 L2 k2 mc nh es clk q n)) : Calls Try.prog 34 #[.pointer (some ⟨g, 0, none⟩)] w (Ret (β := Unit) w (ids (swM g s L1 k1 L2 k2 mc nh es clk q n)) (fun _ => .int .i64 (if s.lim < (L1.length : Nat) + nh then 164 else 0)) (fun _ => swM g (hldW s ((L1.length : Nat) + nh)) L1 k1 L2 k2 mc nh es clk q n) (fun _ => True)) := by
  refine go [.pointer (some ⟨g, 0, none⟩)] (swM g s L1 k1 L2 k2 mc nh es clk q n) Try.func34 Try.ntmps34 rfl rfl ho ?_
  have c1 := fun w' ho => swState_spec (g := g) (s := s) (L1 := L1) (k1 := k1) (L2 := L2) (k2 := k2) (mc := mc) (nh := nh) (es := es) (clk := clk) (q := q) (n := n) hL hn w' ho
  have c2 := fun w' ho => swState_spec (g := g) (s := { s with most := if s.most < (L1.length : Nat) + nh then (L1.length : Nat) + nh else s.most }) (L1 := L1) (k1 := k1) (L2 := L2) (k2 := k2) (mc := mc) (nh := nh) (es := es) (clk := clk) (q := q) (n := n) hL hn w' ho
  obtain ⟨s1, hs1⟩ : ∃ s1 : SwW, s1 = { s with most := if s.most < (L1.length : Nat) + nh then (L1.length : Nat) + nh else s.most } := ⟨_, rfl⟩
  rw [← hs1] at c2
  have eg : s1.gs = s.gs := by rw [hs1]
  have ef : s1.gf = s.gf := by rw [hs1]
  have e1 : s1.m1 = s.m1 := by rw [hs1]
  have e2 : s1.m2 = s.m2 := by rw [hs1]
  refine rSwS_0 ?_
  refine wc_meetK (ι := Unit) [0, 2] (fun _ => []) (fun _ => [swB g s1]) (M1 := [swB g s]) (fun _ => True) rfl ?_ ?_
  · refine wc_cat ?_
    refine wc_heldX [] [] rfl (by (repeat (first | exact panicNot_M2 rfl | exact panicNot_D3 rfl | with_reducible exact panicNot_of panicOk_body | with_reducible apply panicNot_block | with_reducible apply panicNot_then))) (fun hQd => ?_)
    refine tkX 0 rfl (v_move rfl) ?_
    refine tkX 1 rfl (v_move rfl) ?_
    refine tkX 2 rfl (v_nil rfl) ?_
    refine tkX 3 rfl (v_faddr rfl rfl) ?_
    refine tkX 5 rfl (v_move rfl) ?_
    refine wh_eff2 4 6 rfl rfl (by decide +kernel) ?_ ?_
    · refine rSwS_0 ?_
      (try refine wx_nil ?_)
      refine hdX ?_
      refine efX 6 rfl ?_
      (try refine wx_ungd rfl rfl ?_)
      refine wx_vcall (vc_callT (fun w' hr ho => c1 w' ho) rfl rfl) rfl ?_
      (try refine wx_nil ?_)
      refine hdX ?_
      refine tkX 7 rfl (v_max rfl rfl) ?_
      refine tkX 8 rfl (v_nil rfl) ?_
      refine tkX 9 rfl (v_faddr rfl rfl) ?_
      refine efX 10 rfl ?_
      refine rSwS_0 ?_
      (try refine wx_nil ?_)
      refine hdX ?_
      refine wh_done (by decide +kernel) ?_
      refine wq_blk g s1.cells (by rw [hs1]; rfl) ?_
      refine wq_setn ?_
      refine wq_cutK (()) ?_ (by repeat (first | exact trivial | refine ⟨rfl, ?_⟩)) (by first | exact catEq | exact rfl)
      exact trivial
    · skip
      (try refine wx_ungd rfl rfl ?_)
      refine wx_vcall (vc_callT (fun w' hr ho => c1 w' ho) rfl rfl) rfl ?_
      (try refine wx_nil ?_)
      refine hdX ?_
      refine efX 4 rfl ?_
      refine rSwS_0 ?_
      (try refine wx_nil ?_)
      refine hdX ?_
      refine tkX 7 rfl (v_max rfl rfl) ?_
      refine tkX 8 rfl (v_nil rfl) ?_
      refine tkX 9 rfl (v_faddr rfl rfl) ?_
      refine efX 10 rfl ?_
      refine rSwS_0 ?_
      (try refine wx_nil ?_)
      refine hdX ?_
      refine wh_done (by decide +kernel) ?_
      refine wq_blk g s1.cells (by rw [hs1]; rfl) ?_
      refine wq_setn ?_
      refine wq_cutK (()) ?_ (by repeat (first | exact trivial | refine ⟨rfl, ?_⟩)) (by first | exact catEq | exact rfl)
      exact trivial
  rintro ⟨⟩ -
  refine wc_fcat ?_
  refine wc_cat ?_
  rw [← eg, ← ef, ← e1, ← e2]
  repeat (first | refine wc_seq ?_)
  refine wc_heldX [] [swB g s1] rfl (by (repeat (first | exact panicNot_M2 rfl | exact panicNot_D3 rfl | with_reducible exact panicNot_of panicOk_body | with_reducible apply panicNot_block | with_reducible apply panicNot_then))) (fun hQd => ?_)
  refine tkX 0 rfl (v_move rfl) ?_
  refine tkX 2 rfl (v_move rfl) ?_
  refine tkX 3 rfl (v_nil rfl) ?_
  refine tkX 4 rfl (v_faddr rfl rfl) ?_
  refine tkX 5 rfl (v_ldT rfl rfl rfl (by rfl)) ?_
  refine efX 1 rfl ?_
  (try refine wx_ungd rfl rfl ?_)
  refine wx_vcall (vc_callT (fun w' hr ho => c2 w' ho) rfl rfl) rfl ?_
  (try refine wx_nil ?_)
  refine hdX ?_
  refine tkX 6 rfl (v_gt rfl rfl) ?_
  refine wh_done (by decide +kernel) ?_
  refine rSwS_0 ?_
  have el : s1.lim = s.lim := by rw [hs1]
  refine wc_if rfl (fun h1 => ?_) (fun h1 => ?_)
  · rw [el] at h1
    have hw : hldW s ((L1.length : Nat) + nh) = { s1 with br := true } := by rw [hs1]; unfold hldW; rw [if_pos h1]
    rw [if_pos h1, hw]
    refine rSwS_0 ?_
    refine wq_blk g (SwW.cells { s1 with br := true }) rfl ?_
    refine wq_setn ?_
    exact wq_ret1T () rfl rfl trivial (show _ = [swB g { s1 with br := true }, stB s1.gs mc nh, mpK Value.string mc (chL es) clk, chSg es, q.seg s1.gf n, mpK kI s1.m1 L1 k1, mpK kI s1.m2 L2 k2] from rfl)
  · rw [el] at h1
    have hw : hldW s ((L1.length : Nat) + nh) = s1 := by rw [hs1]; unfold hldW; rw [if_neg h1]
    rw [if_neg h1, hw]
    refine rSwS_0 ?_
    exact wq_ret1T () rfl rfl trivial rfl
end
end Go.Proofs.Ytlioccfedophhaa
/- The sweep's memory against its plain state; refuse. -/
set_option linter.unusedVariables false
set_option linter.unusedSimpArgs false
namespace Go.Proofs.Ytlioccfedophhaa
open Go
set_option maxRecDepth 20000
set_option maxHeartbeats 2000000
attribute [local irreducible] WX WC WQ Val VCall WY WR
theorem rSwT_0 {A B : Prop} (k : B) (h : Hold B → A := by intro k; (repeat (first | (apply wx_val; (first | exact v_move rfl | exact v_assign rfl | exact v_nil rfl | exact v_faddr rfl rfl | exact v_ldT rfl rfl rfl (by rfl) | exact v_ldAT rfl (by rfl) | exact v_extract rfl rfl | exact v_eq rfl rfl | exact v_ne rfl rfl | exact v_not rfl | exact v_pickT rfl rfl | exact v_pickF rfl rfl); rfl) | refine wx_no rfl rfl rfl ?_ | refine wx_ungd rfl rfl ?_ | refine wc_seq ?_ | refine wc_region ?_ | refine wx_nil ?_ | refine wq_next ?_ | refine wc_block ?_ | refine wc_ret ?_ | refine wc_skip ?_ | refine wq_then_ret ?_ | refine wq_block ?_ | refine wq_block_ret ?_ | refine wx_setn ?_ | refine wq_setn ?_ | refine wc_condT rfl ?_ | refine wc_condF rfl ?_ | refine wl_stAT rfl rfl (by rfl) (by rfl) (by exact .inl (Nat.le_refl _)) rfl ?_)); exact k.out) : A := h ⟨k⟩
structure SwQ where
  s : SwW
  L1 : TE Int
  k1 : Nat
  L2 : TE Int
  k2 : Nat
  mc : Nat
  nh : Int
  es : List ChE
  clk : Nat
  q : Fo
  A : Ks
abbrev SwQ.M (g : Nat) (z : SwQ) : List Seg := swM g z.s z.L1 z.k1 z.L2 z.k2 z.mc z.nh z.es z.clk z.q z.A.length
structure SwJ (st : StD) (F : Int) (z : SwQ) : Prop where
  inv : InvD st F
  last : z.s.last = st.last
  tk : z.s.tk = st.taken
  most : z.s.most = st.most
  l1 : z.L1.map (fun e => (e.1, e.2.1)) = st.opn.map (fun e => (e.1, .int .i64 e.2))
  ok1 : MapOk z.L1 z.k1
  l2 : z.L2.map (fun e => e.1) = st.begun
  ok2 : MapOk z.L2 z.k2
  ch : ChOk z.es z.clk st.held
  nh : z.nh = (st.held.length : Nat)
  fo : FoOk (16 * st.ended.length) z.A z.q
  spi : SpI st.ended F z.A
  twi : TwI st.ended z.s.tt z.s.tf z.s.ta
structure SwI (st : StD) (F : Int) (z : SwQ) : Prop where
  lim : z.s.lim = st.limit
  br : z.s.br = st.broken
  j : st.broken = false → SwJ st F z
theorem l_aget {L : TE Int} {o : List (Int × Int)} (p : Int) : L.map (fun e => (e.1, e.2.1)) = o.map (fun e => (e.1, Value.int .i64 e.2)) → aget p L = (startD o p).map (fun s => .int .i64 s) := by
  intro h
  unfold aget startD
  induction L generalizing o with
  | nil =>
    cases o with
    | nil => rfl
    | cons x r => cases h
  | cons e L ih =>
    cases o with
    | nil => cases h
    | cons x r =>
      rw [List.map_cons, List.map_cons] at h
      injection h with h1 h2
      injection h1 with h3 h4
      rw [List.find?_cons, List.find?_cons, ← h3]
      by_cases hp : p = e.1
      · rw [decide_eq_true hp]
        simp [h4]
      · rw [decide_eq_false hp]
        exact ih h2
theorem l_has {L : TE Int} {b : List Int} (p : Int) : L.map (fun e => e.1) = b → (aget p L).isSome = decide (p ∈ b) := by
  rintro rfl
  unfold aget
  rw [Option.isSome_map, Bool.eq_iff_iff, List.find?_isSome, decide_eq_true_iff, List.mem_map]
  constructor
  · rintro ⟨x, hx, he⟩; exact ⟨x, hx, (of_decide_eq_true he).symm⟩
  · rintro ⟨x, hx, rfl⟩; exact ⟨x, hx, decide_eq_true rfl⟩
section
variable {g : Nat} {st : StD} {F : Int} {z : SwQ}
theorem refuse_spec (h : SwI st F z) (r : RowW) (w : World) (ho : Own w (z.M g)) : Calls Try.prog 33 #[.pointer (some ⟨g, 0, none⟩), .agg r.cells.toArray] w
    (Ret (β := Option Addr × Nat × Seg) w (ids (z.M g)) (fun x => .tuple #[.agg ((refuseD st r).1.cells x.1 x.2.1).toArray, .int .i64 (refuseD st r).2]) (fun x => z.M g ++ [x.2.2]) (fun x => BufO (refuseD st r).1.ops x)) := by
  refine go [.pointer (some ⟨g, 0, none⟩), .agg r.cells.toArray] (z.M g) Try.func33 Try.ntmps33 rfl rfl ho ?_
  refine rSwT_0 ?_
  refine wl_boxA rfl rfl (fun g3 => ?_)
  refine wl_alloc rfl rfl (fun g4 => ?_)
  refine rSwT_0 ?_
  refine wc_bool rfl (fun hb => ?_) (fun hb => ?_)
  · have e : refuseD st r = (.zero, 164) := by
      unfold refuseD
      rw [if_pos (by rw [← h.br]; exact hb)]
    rw [e]
    refine rSwT_0 ?_
    (try refine wx_ungd rfl rfl ?_)
    apply wx_val
    exact v_build (cs := ((TxnP.zero.cells none 0)).toArray) rfl (by kernel_rfl)
    rfl
    refine rSwT_0 ?_
    refine wq_seg ?_
    exact wq_retA2T (cs := TxnP.zero.cells none 0) (none, 0, []) rfl rfl rfl rfl rfl (Buf.nil _ _) rfl
  have hbr : st.broken = false := by rw [← h.br]; exact hb
  obtain ⟨hj⟩ : Nonempty (SwJ st F z) := ⟨h.j hbr⟩
  have hb' : ¬ st.broken = true := by rw [hbr]; decide
  refine rSwT_0 ?_
  (try refine wx_ungd rfl rfl ?_)
  refine wx_vcall (vc_pure' rfl rfl (fun w' hr => rowValid_spec r w')) rfl ?_
  refine rSwT_0 ?_
  refine wx_gnif rfl rfl (fun h1 => ?_) (fun h1 => ?_)
  rotate_left
  · have e : refuseD st r = (.zero, 90) := by
      unfold refuseD
      rw [if_neg hb', if_pos (.inl h1)]
    refine rSwT_0 ?_
    rw [e]
    skip
    (try refine wx_ungd rfl rfl ?_)
    apply wx_val
    exact v_build (cs := ((TxnP.zero.cells none 0)).toArray) rfl (by kernel_rfl)
    rfl
    refine rSwT_0 ?_
    refine wq_seg ?_
    exact wq_retA2T (cs := TxnP.zero.cells none 0) (none, 0, []) rfl rfl rfl rfl rfl (Buf.nil _ _) rfl
  refine rSwT_0 ?_
  refine wc_if rfl (fun h2 => ?_) (fun h2 => ?_)
  · have e : refuseD st r = (.zero, 90) := by
      unfold refuseD
      rw [if_neg hb', if_pos (.inr h2)]
    rw [e]
    refine rSwT_0 ?_
    (try refine wx_ungd rfl rfl ?_)
    apply wx_val
    exact v_build (cs := ((TxnP.zero.cells none 0)).toArray) rfl (by kernel_rfl)
    rfl
    refine rSwT_0 ?_
    refine wq_seg ?_
    exact wq_retA2T (cs := TxnP.zero.cells none 0) (none, 0, []) rfl rfl rfl rfl rfl (Buf.nil _ _) rfl
  have h12 : ¬ (¬ r.Right ∨ r.kind = 3) := fun e => e.elim (fun e => e h1) h2
  repeat (first | refine wc_seq ?_)
  refine wc_meetK (ι := Unit) [0, 3, 4, 5] (fun _ => [(29, .bool (decide (st.taken = true ∧ ¬ rowBefore 1 st.last r)))]) (fun _ => []) (M1 := []) (fun _ => True) rfl ?_ ?_
  · refine wc_cat ?_
    by_cases ht : z.s.tk = true
    · have e5 : decide (0 ≤ rowCmp 1 z.s.last r) = decide (st.taken = true ∧ ¬ rowBefore 1 st.last r) := by
        rw [Bool.eq_iff_iff, decide_eq_true_iff, decide_eq_true_iff, ← hj.tk, ← hj.last, ← cmp_before, ht]
        exact ⟨fun e => ⟨rfl, by omega⟩, fun e => by have := e.2; omega⟩
      refine wc_heldN [] [swB g z.s, [(g3, .cells r.cells.toArray 38 (0, 0))]] (fun hQd => ?_)
      refine tkX 0 rfl (v_move rfl) ?_
      refine tkX 1 rfl (v_nil rfl) ?_
      refine tkX 2 rfl (v_faddr rfl rfl) ?_
      refine tkX 3 rfl (v_ldT rfl rfl rfl (by rfl)) ?_
      refine tkX 4 rfl (v_move rfl) ?_
      refine wh_yes 34 rfl ht ?_
      refine tkgX 5 rfl (v_move rfl) ?_
      refine tkgX 6 rfl (v_nil rfl) ?_
      refine tkgX 7 rfl (v_faddr rfl rfl) ?_
      refine tkgX 8 rfl (v_ldQ 0 0 rfl rfl rfl rfl rfl) ?_
      refine tkgX 9 rfl (v_ldAT rfl (by rfl)) ?_
      refine efX 10 rfl ?_
      refine wx_ungd rfl rfl ?_
      (try refine wx_ungd rfl rfl ?_)
      refine wx_vcall (vc_pure' rfl rfl (fun w' hr => Compare_spec 1 z.s.last r w')) rfl ?_
      (try refine wx_nil ?_)
      refine hdX ?_
      refine tkgX 11 rfl (v_ge rfl rfl) ?_
      refine tkX 12 rfl (by first | exact v_pickT rfl rfl | exact v_pickF rfl rfl | exact v_pick rfl rfl rfl) ?_
      refine tkX 13 rfl (v_assign rfl) ?_
      refine wh_done (by decide +kernel) ?_
      rw [e5]
      refine wq_cutK (()) ?_ (by repeat (first | exact trivial | refine ⟨rfl, ?_⟩)) (by first | exact catEq | exact rfl)
      exact trivial
    · have e5 : decide (st.taken = true ∧ ¬ rowBefore 1 st.last r) = false := by
        rw [← hj.tk]
        simp [ht]
      rw [e5]
      refine wc_heldX [] [swB g z.s] rfl (by (repeat (first | exact panicNot_M2 rfl | exact panicNot_D3 rfl | with_reducible exact panicNot_of panicOk_body | with_reducible apply panicNot_block | with_reducible apply panicNot_then))) (fun hQd => ?_)
      refine tkX 0 rfl (v_move rfl) ?_
      refine tkX 1 rfl (v_nil rfl) ?_
      refine tkX 2 rfl (v_faddr rfl rfl) ?_
      refine tkX 3 rfl (v_ldT rfl rfl rfl (by rfl)) ?_
      refine tkX 4 rfl (v_move rfl) ?_
      refine wh_not 34 rfl (by simpa using ht) ?_
      first | refine tkgX 5 rfl (v_move rfl) ?_ | refine tknX 5 rfl ?_
      first | refine tkgX 6 rfl (v_nil rfl) ?_ | refine tknX 6 rfl ?_
      first | refine tkgX 7 rfl (v_faddr rfl rfl) ?_ | refine tknX 7 rfl ?_
      refine tknX 8 rfl ?_
      refine tknX 9 rfl ?_
      refine tknX 10 rfl ?_
      first | refine tkgX 11 rfl (v_ge rfl rfl) ?_ | refine tknX 11 rfl ?_
      refine tkX 12 rfl (by first | exact v_pickT rfl rfl | exact v_pickF rfl rfl | exact v_pick rfl rfl rfl) ?_
      refine tkX 13 rfl (v_assign rfl) ?_
      refine wh_done (by decide +kernel) ?_
      refine wq_cutK (()) ?_ (by repeat (first | exact trivial | refine ⟨rfl, ?_⟩)) (by first | exact catEq | exact rfl)
      exact trivial
  rintro ⟨⟩ -
  refine wc_fcat ?_
  refine wc_cat ?_
  refine wc_if rfl (fun h3 => ?_) (fun h3 => ?_)
  · have e : refuseD st r = (.zero, 161) := by
      unfold refuseD
      rw [if_neg hb', if_neg h12, if_pos h3]
    rw [e]
    refine rSwT_0 ?_
    (try refine wx_ungd rfl rfl ?_)
    apply wx_val
    exact v_build (cs := ((TxnP.zero.cells none 0)).toArray) rfl (by kernel_rfl)
    rfl
    refine rSwT_0 ?_
    refine wq_seg ?_
    exact wq_retA2T (cs := TxnP.zero.cells none 0) (none, 0, []) rfl rfl rfl rfl rfl (Buf.nil _ _) rfl
  refine rSwT_0 ?_
  refine wc_if rfl (fun h4 => ?_) (fun h4 => ?_)
  · have hg := l_has r.index hj.l2
    refine rSwT_0 ?_
    refine wc_heldN [] [swB g z.s, [(g3, .cells r.cells.toArray 38 (0, 0))], mpK kI z.s.m2 z.L2 z.k2] (fun hQd => ?_)
    refine tkX 0 rfl (v_move rfl) ?_
    refine tkX 1 rfl (v_nil rfl) ?_
    refine tkX 2 rfl (v_faddr rfl rfl) ?_
    refine tkX 3 rfl (v_ldT rfl rfl rfl (by rfl)) ?_
    refine tkX 4 rfl (v_faddr rfl rfl) ?_
    refine tkX 5 rfl (v_ldT rfl rfl rfl (by rfl)) ?_
    refine tkX 6 rfl (v_aget2K (κ := kI) (g := z.s.m2) (L := z.L2) (clk := z.k2) rfl hg rfl (keyI rfl) rfl rfl rfl) ?_
    refine tkX 7 rfl (v_move rfl) ?_
    refine tkX 8 rfl (v_extract rfl rfl) ?_
    refine tkX 9 rfl (v_extract rfl rfl) ?_
    refine tkX 10 rfl (v_assign rfl) ?_
    refine tkX 11 rfl (v_assign rfl) ?_
    refine wh_done (by decide +kernel) ?_
    refine rSwT_0 ?_
    refine wc_if rfl (fun h5 => ?_) (fun h5 => ?_)
    · have e : refuseD st r = (.zero, 163) := by
        unfold refuseD
        rw [if_neg hb', if_neg h12, if_neg h3, if_pos h4, if_pos h5]
      rw [e]
      refine rSwT_0 ?_
      (try refine wx_ungd rfl rfl ?_)
      apply wx_val
      exact v_build (cs := ((TxnP.zero.cells none 0)).toArray) rfl (by kernel_rfl)
      rfl
      refine rSwT_0 ?_
      refine wq_seg ?_
      exact wq_retA2T (cs := TxnP.zero.cells none 0) (none, 0, []) rfl rfl rfl rfl rfl (Buf.nil _ _) rfl
    · have e : refuseD st r = (.zero, 0) := by
        unfold refuseD
        rw [if_neg hb', if_neg h12, if_neg h3, if_pos h4, if_neg h5]
      rw [e]
      refine rSwT_0 ?_
      (try refine wx_ungd rfl rfl ?_)
      apply wx_val
      exact v_build (cs := ((TxnP.zero.cells none 0)).toArray) rfl (by kernel_rfl)
      rfl
      refine rSwT_0 ?_
      refine wq_seg ?_
      exact wq_retA2T (cs := TxnP.zero.cells none 0) (none, 0, []) rfl rfl rfl rfl rfl (Buf.nil _ _) rfl
  have ha := l_aget r.index hj.l1
  refine rSwT_0 ?_
  refine wc_heldN [] [swB g z.s, [(g3, .cells r.cells.toArray 38 (0, 0))], mpK kI z.s.m1 z.L1 z.k1] (fun hQd => ?_)
  refine tkX 0 rfl (v_move rfl) ?_
  refine tkX 1 rfl (v_nil rfl) ?_
  refine tkX 2 rfl (v_faddr rfl rfl) ?_
  refine tkX 3 rfl (v_ldT rfl rfl rfl (by rfl)) ?_
  refine tkX 4 rfl (v_faddr rfl rfl) ?_
  refine tkX 5 rfl (v_ldT rfl rfl rfl (by rfl)) ?_
  refine tkX 6 rfl (v_aget2K (κ := kI) (g := z.s.m1) (L := z.L1) (clk := z.k1) rfl rfl rfl (keyI rfl) rfl rfl rfl) ?_
  refine tkX 7 rfl (v_move rfl) ?_
  refine tkX 8 rfl (v_extract rfl rfl) ?_
  refine tkX 9 rfl (v_extract rfl rfl) ?_
  refine tkX 10 rfl (v_assign rfl) ?_
  refine tkX 11 rfl (v_assign rfl) ?_
  refine wh_done (by decide +kernel) ?_
  rw [ha]
  cases hs : startD st.opn r.index with
  | none =>
    have e : refuseD st r = (.zero, 163) := by
      unfold refuseD
      rw [if_neg hb', if_neg h12, if_neg h3, if_neg h4, hs]
    dsimp only [Option.map_none, Option.isSome_none, Option.getD_none]
    refine rSwT_0 ?_
    rw [e]
    skip
    (try refine wx_ungd rfl rfl ?_)
    apply wx_val
    exact v_build (cs := ((TxnP.zero.cells none 0)).toArray) rfl (by kernel_rfl)
    rfl
    refine rSwT_0 ?_
    refine wq_seg ?_
    exact wq_retA2T (cs := TxnP.zero.cells none 0) (none, 0, []) rfl rfl rfl rfl rfl (Buf.nil _ _) rfl
  | some s0 =>
    have e0 : refuseD st r = if (decR (bodyD r)).2.2 ≠ 0 ∨ (decR (bodyD r)).1.start ≠ s0 ∨ (decR (bodyD r)).1.fin ≠ r.time then (.zero, 162) else ((decR (bodyD r)).1, 0) := by
      conv => lhs; unfold refuseD
      rw [if_neg hb', if_neg h12, if_neg h3, if_neg h4, hs]
    dsimp only [Option.map_some, Option.isSome_some, Option.getD_some]
    have hbs := h1.2.2.2.2.2.2
    refine rSwT_0 ?_
    refine wl_bytes rfl rfl rfl rfl (Nat.le_trans hbs (by simp only [maxLen]; omega)) rfl (fun A6 c6 E6 hb6 => ?_)
    skip
    refine wl_callT (fun w' hr ho => Decode_spec (A := A6) (c := c6) (d := bodyD r) (Nat.le_trans hbs (by omega)) w' (hb6.vwT hr)) rfl rfl rfl ?_
    rintro ⟨A7, c7, E7⟩ hb7
    dsimp only at hb7 ⊢
    refine wx_cat ?_
    refine rSwT_0 ?_
    refine wl_alloc rfl rfl (fun g10 => ?_)
    refine rSwT_0 ?_
    refine wx_gif rfl rfl (fun h5 => ?_) (fun h5 => ?_)
    · have e : refuseD st r = (.zero, 162) := by rw [e0, if_pos (.inl h5)]
      refine rSwT_0 ?_
      rw [e]
      skip
      (try refine wx_ungd rfl rfl ?_)
      apply wx_val
      exact v_build (cs := ((TxnP.zero.cells none 0)).toArray) rfl (by kernel_rfl)
      rfl
      refine rSwT_0 ?_
      refine wq_seg ?_
      exact wq_retA2T (cs := TxnP.zero.cells none 0) (none, 0, []) rfl rfl rfl rfl rfl (Buf.nil _ _) rfl
    refine rSwT_0 ?_
    refine wx_gif rfl rfl (fun h6 => ?_) (fun h6 => ?_)
    · have e : refuseD st r = (.zero, 162) := by rw [e0, if_pos (.inr (.inl h6))]
      refine rSwT_0 ?_
      rw [e]
      skip
      (try refine wx_ungd rfl rfl ?_)
      apply wx_val
      exact v_build (cs := ((TxnP.zero.cells none 0)).toArray) rfl (by kernel_rfl)
      rfl
      refine rSwT_0 ?_
      refine wq_seg ?_
      exact wq_retA2T (cs := TxnP.zero.cells none 0) (none, 0, []) rfl rfl rfl rfl rfl (Buf.nil _ _) rfl
    refine rSwT_0 ?_
    refine wc_if rfl (fun h7 => ?_) (fun h7 => ?_)
    · have e : refuseD st r = (.zero, 162) := by rw [e0, if_pos (.inr (.inr h7))]
      rw [e]
      refine rSwT_0 ?_
      (try refine wx_ungd rfl rfl ?_)
      apply wx_val
      exact v_build (cs := ((TxnP.zero.cells none 0)).toArray) rfl (by kernel_rfl)
      rfl
      refine rSwT_0 ?_
      refine wq_seg ?_
      exact wq_retA2T (cs := TxnP.zero.cells none 0) (none, 0, []) rfl rfl rfl rfl rfl (Buf.nil _ _) rfl
    have e : refuseD st r = ((decR (bodyD r)).1, 0) := by
      rw [e0, if_neg]
      rintro (a | a | a)
      · exact h5 a
      · exact h6 a
      · exact h7 a
    rw [e]
    refine rSwT_0 ?_
    exact wq_retA2T (cs := (decR (bodyD r)).1.cells A7 c7) (A7, c7, E7) rfl rfl rfl rfl rfl hb7 rfl
end
end Go.Proofs.Ytlioccfedophhaa
/- Drop. -/
set_option linter.unusedVariables false
set_option linter.unusedSimpArgs false
namespace Go.Proofs.Ytlioccfedophhaa
open Go
set_option maxRecDepth 20000
set_option maxHeartbeats 2000000
attribute [local irreducible] WX WC WQ Val VCall WY WR
theorem rSpY_0 {A B : Prop} (k : B) (h : Hold B → A := by intro k; (repeat (first | (apply wx_val; (first | exact v_move rfl | exact v_assign rfl | exact v_nil rfl | exact v_faddr rfl rfl | exact v_ldT rfl rfl rfl (by rfl) | exact v_extract rfl rfl | exact v_len rfl rfl | exact v_lt rfl rfl | exact v_addi rfl rfl (by omega) | exact v_iaddrE (by assumption) rfl rfl rfl (by omega) | (first | exact v_ldQ 0 0 rfl rfl rfl rfl rfl)); rfl) | refine wc_seq ?_ | refine wc_region ?_ | refine wx_nil ?_ | refine wq_next ?_ | refine wc_block ?_ | refine wc_ret ?_ | refine wc_skip ?_ | refine wc_exit ?_ | refine wq_then_exit ?_ | refine wq_block ?_ | refine wq_block_exit rfl ?_ | refine wx_setn ?_ | refine wc_condT rfl ?_ | refine wc_condF rfl ?_ | refine wl_stAT rfl rfl (by rfl) (by rfl) (by exact .inl (Nat.le_refl _)) rfl ?_)); exact k.out) : A := h ⟨k⟩
/-- what was gathered of a key -/
structure Gn where
  k : ByteArray
  A : Option Addr
  c : Nat
  l : List Sp
def Gn.v (d : Gn) : Value := .slice d.A d.l.length d.c
def GIn (ds : List Gn) (S : Seg) : Prop := ∀ d ∈ ds, ∃ E : Seg, (∀ p ∈ E, p ∈ S) ∧ SpL d.l d.A d.l.length d.c E
theorem GIn.add {ds : List Gn} {S E : Seg} (h : GIn ds S) {d : Gn} (hd : SpL d.l d.A d.l.length d.c E) : GIn (ds ++ [d]) (S ++ E) := fun x hx => by
  rcases List.mem_append.1 hx with hx | hx
  · obtain ⟨E', h1, h2⟩ := h x hx
    exact ⟨E', fun p hp => List.mem_append.2 (.inl (h1 p hp)), h2⟩
  · rw [List.mem_singleton.1 hx]
    exact ⟨E, fun p hp => List.mem_append.2 (.inr hp), hd⟩
/-- what the first loop keeps -/
structure L1 (fl : Int) (A : Ks) (L D : TE ByteArray) (G : TE ByteArray) (gc : Nat) (ds : List Gn) (S : Seg) (n : Nat) : Prop where
  sub : ∀ e ∈ D, e ∈ L
  nd : D.Nodup
  keys : ds.map Gn.k = D.map (·.1)
  ls : ∀ d ∈ ds, d.l = endK fl d.k A
  gin : GIn ds S
  gs : G.map (fun e => (e.1, e.2.1)) = ds.map (fun d => (d.k, d.v))
  ok : MapOk G gc
  n : n = (ds.map (fun d => d.l.length)).sum
theorem L1.kn {fl : Int} {A : Ks} {L D G : TE ByteArray} {gc n clk : Nat} {ds : List Gn} {S : Seg} (h : L1 fl A L D G gc ds S n) (hL : MapOk L clk) : (D.map (·.1)).Nodup := by
  have h1 := h.sub
  have h2 := h.nd
  clear h
  induction D with
  | nil => exact List.nodup_nil
  | cons x r ih =>
    obtain ⟨a1, a2⟩ := List.nodup_cons.1 h2
    rw [List.map_cons, List.nodup_cons]
    refine ⟨fun hm => ?_, ih (fun e he => h1 e (List.mem_cons_of_mem _ he)) a2⟩
    obtain ⟨y, hy, e⟩ := List.mem_map.1 hm
    have := keys_inj hL.keys (h1 y (List.mem_cons_of_mem _ hy)) (h1 x (List.mem_cons_self ..)) e
    exact a1 (this ▸ hy)
theorem L1.cnt {fl : Int} {A : Ks} {L D G : TE ByteArray} {gc n clk : Nat} {ds : List Gn} {S : Seg} (h : L1 fl A L D G gc ds S n) (hL : MapOk L clk) : n = (A.filter (fun x => decide (x.2.b ≤ fl) && inK (D.map (·.1)) x.1)).length := by
  rw [h.n, ← sum_end fl (h.kn hL), ← h.keys, List.map_map]
  congr 1
  refine List.map_congr_left fun d hd => ?_
  show d.l.length = (endK fl d.k A).length
  rw [h.ls d hd]
theorem L1.add {fl : Int} {A : Ks} {L D G : TE ByteArray} {gc n clk : Nat} {ds : List Gn} {S E : Seg} (h : L1 fl A L D G gc ds S n) (hL : MapOk L clk) {e : ByteArray × Value × Nat} (he : e ∈ L) (hne : e ∉ D) {d : Gn} (hk : d.k = e.1) (hl : d.l = endK fl d.k A) (hd : SpL d.l d.A d.l.length d.c E) :
    L1 fl A L (D ++ [e]) (aput e.1 d.v G gc) (aclk e.1 G gc) (ds ++ [d]) (S ++ E) (n + d.l.length) := by
  have hno : aget e.1 G = none := aget_none fun x hx hxe => by
    have h1 : (x.1, x.2.1) ∈ ds.map (fun d => (d.k, d.v)) := by rw [← h.gs]; exact List.mem_map.2 ⟨x, hx, rfl⟩
    obtain ⟨d', hd', e2⟩ := List.mem_map.1 h1
    have h2 : d'.k ∈ D.map (·.1) := by rw [← h.keys]; exact List.mem_map.2 ⟨d', hd', rfl⟩
    obtain ⟨y, hy, e3⟩ := List.mem_map.1 h2
    have e4 : y.1 = e.1 := by
      rw [← hxe]
      exact e3.trans (congrArg Prod.fst e2)
    have := keys_inj hL.keys (h.sub y hy) he e4
    exact hne (this ▸ hy)
  refine ⟨fun x hx => ?_, ?_, ?_, fun x hx => ?_, h.gin.add hd, ?_, h.ok.put _ _, ?_⟩
  · rcases List.mem_append.1 hx with hx | hx
    · exact h.sub x hx
    · rw [List.mem_singleton.1 hx]; exact he
  · refine List.nodup_append.2 ⟨h.nd, by simp, fun a ha b hb e2 => ?_⟩
    rw [List.mem_singleton.1 hb] at e2
    exact hne (e2 ▸ ha)
  · rw [List.map_append, List.map_append, h.keys]
    simp [hk]
  · rcases List.mem_append.1 hx with hx | hx
    · exact h.ls x hx
    · rw [List.mem_singleton.1 hx]; exact hl
  · unfold aput
    rw [hno, if_neg (by decide), List.map_append, List.map_append, h.gs]
    simp [hk]
  · rw [List.map_append, List.sum_append, h.n]
    simp
theorem Drop_law {m g : Nat} {A : Ks} {q : Fo} (fl : Int) (h : FoOk m A q) (hR : ∀ x ∈ A, x.2.a ≤ x.2.b) (hm : m ≤ 900000000000) (w : World) (ho : Own w [q.seg g A.length]) :
    Calls Try.prog 38 #[.pointer (some ⟨g, 0, none⟩), .int .i64 fl] w (Ret (β := Fo) w (ids [q.seg g A.length]) (fun _ => .int .i64 ((A.filter (fun x => decide (x.2.b ≤ fl))).length : Nat)) (fun q' => [q'.seg g (A.filter (fun x => decide (fl < x.2.b))).length]) (fun q' => FoOk m (A.filter (fun x => decide (fl < x.2.b))) q')) := by
  refine go [.pointer (some ⟨g, 0, none⟩), .int .i64 fl] [q.seg g A.length] Try.func38 Try.ntmps38 rfl rfl ho ?_
  have hls := h.lens
  have hend : ∀ k, gatT fl (q.T k) = endK fl k A := fun k => by
    rw [gatT_eq fl (h.srt k) (fun x hx => ?_), h.cont]
    · rfl
    · rw [h.cont] at hx
      exact hR _ (mem_ofK.1 hx)
  have hkeys : ∀ x ∈ A, x.1 ∈ q.L.map (·.1) := fun x hx => by
    have h1 := h.root x.1
    cases ha : aget x.1 q.L with
    | some v =>
      unfold aget at ha
      cases hf : q.L.find? (fun e => decide (x.1 = e.1)) with
      | none => rw [hf] at ha; cases ha
      | some e =>
        have := List.find?_some hf
        exact List.mem_map.2 ⟨e, List.mem_of_find?_eq_some hf, (of_decide_eq_true this).symm⟩
    | none =>
      unfold RootAt at h1
      rw [ha] at h1
      injection h1 with _ h1
      have h2 := ix_zero (h.at_ x.1) (by simpa using h1.symm)
      have h3 := h.cont x.1
      rw [h2] at h3
      have := mem_ofK.2 (show (x.1, x.2) ∈ A from hx)
      rw [← h3] at this
      cases this
  refine wc_flat (N := [fsB g q.y q.N.length q.sp.length A.length, q.E, mpB q.y.m q.L q.clk, q.Es]) seg_perm3 ?_
  refine rSpY_0 ?_
  refine wl_makeMap rfl (fun gm => ?_)
  refine wx_mem (M' := [mpB gm [] 0, fsB g q.y q.N.length q.sp.length A.length, q.E, mpB q.y.m q.L q.clk, q.Es]) (by kernel_rfl) ?_
  refine rSpY_0 ?_
  refine wl_range (clk := q.clk) (L := q.L) rfl rfl rfl (fun r => ?_)
  refine wx_seg ?_
  refine rSpY_0 ?_
  refine wc_loopK (ι := TE ByteArray × TE ByteArray × Nat × List Gn × Seg × Nat) [0, 1, 5, 18] (fun z => [(6, .int .i64 (z.2.2.2.2.2 : Nat))]) (fun z => [z.2.2.2.2.1, itB r q.y.m q.clk z.1, mpB gm z.2.1 z.2.2.1]) (fun z => L1 fl A q.L z.1 z.2.1 z.2.2.1 z.2.2.2.1 z.2.2.2.2.1 z.2.2.2.2.2) (fun z => q.L.length - z.1.length) (([], [], 0, [], [], 0)) rfl ?_ (by repeat (first | exact trivial | refine ⟨rfl, ?_⟩)) ?_
  · exact ⟨fun e he => (by cases he), List.nodup_nil, rfl, fun d hd => (by cases hd), fun d hd => (by cases hd), rfl, MapOk.nil 0, rfl⟩
  rintro ⟨D, G, gc, ds, S, n⟩ hz
  try dsimp only
  refine wc_fcat ?_
  refine wc_cat ?_
  dsimp only at hz
  refine rSpY_0 ?_
  refine wl_next (r := r) (g := q.y.m) (D := D) (L := q.L) (clk := q.clk) h.mok hz.sub rfl rfl (fun h0 => ?_) (fun e he hne => ?_)
  rotate_left
  · obtain ⟨ek, ev, es⟩ := e
    have hroot := h.root ek
    unfold RootAt at hroot
    rw [aget_mem h.mok he] at hroot
    have hroot : ev = .int .i64 ((q.T ek).ix : Nat) := hroot
    subst hroot
    have hge := hend ek
    have hsz := hls.2.2 ek
    have hgl := gatT_len fl (q.T ek)
    have hcn := hz.cnt h.mok
    have hfl : (A.filter (fun x => decide (x.2.b ≤ fl) && inK (D.map (·.1)) x.1)).length ≤ A.length := List.length_filter_le _ _
    have c1 := fun w' ho => gather_spec (g := g) (y := q.y) (cnt := (A.length : Nat)) (k := q.sp.length) fl h.fs.ar h.fs.inb (q.T ek) (O := []) (A := none) (c := 0) (Eo := []) (h.at_ ek) (by simp only [List.length_nil]; omega) (Buf.nil _ _) w' ho
    rw [List.nil_append, hge] at c1
    rw [hge] at hgl
    refine rSpY_0 ?_
    (try refine wx_ungd rfl rfl ?_)
    apply wx_val
    exact v_entry (r := r) (g := q.y.m) (D := D) (L := q.L) (clk := q.clk) (e := (ek, .int .i64 ((q.T ek).ix : Nat), es)) h.mok he rfl
    rfl
    refine rSpY_0 ?_
    refine wx_seg ?_
    refine wl_callT (fun w' hr ho => c1 w' ho) rfl rfl rfl ?_
    rintro ⟨A29, c29, E29⟩ hb
    dsimp only at hb ⊢
    refine wx_cat ?_
    have hadd := hz.add (d := ⟨ek, A29, c29, endK fl ek A⟩) h.mok he hne rfl rfl hb
    skip
    refine wl_mputT (clk := gc) (L := G) rfl hz.ok rfl rfl rfl rfl ?_
    refine rSpY_0 ?_
    (try refine wx_ungd rfl rfl ?_)
    apply wx_val
    exact v_agetT (clk := aclk ek G gc) (L := aput ek (.slice A29 (endK fl ek A).length c29) G gc) (v := .slice A29 (endK fl ek A).length c29) (by rw [aget_put, if_pos rfl]; rfl) rfl rfl rfl rfl rfl
    rfl
    refine rSpY_0 ?_
    refine wq_join S E29 ?_
    have hlt : D.length < q.L.length := by
      have h1 := hadd.nd
      have h2 := len_sub h1 hadd.sub
      rw [List.length_append] at h2
      simp only [List.length_singleton] at h2
      omega
    refine wq_roundK ((D ++ [(ek, .int .i64 ((q.T ek).ix : Nat), es)], aput ek (.slice A29 (endK fl ek A).length c29) G gc, aclk ek G gc, ds ++ [⟨ek, A29, c29, endK fl ek A⟩], S ++ E29, n + (endK fl ek A).length)) ?_ ?_ (by repeat (first | exact trivial | refine ⟨rfl, ?_⟩)) (by first | exact catEq | exact rfl)
    · exact hadd
    · show q.L.length - (D ++ [_]).length < q.L.length - D.length
      rw [List.length_append]
      simp only [List.length_singleton]
      omega
  have hn : n = (A.filter (fun x => decide (x.2.b ≤ fl))).length := by
    rw [hz.cnt h.mok]
    congr 1
    refine List.filter_congr fun x hx => ?_
    obtain ⟨e, he, hek⟩ := List.mem_map.1 (hkeys x hx)
    rw [inK_iff.2 (List.mem_map.2 ⟨e, h0 e he, hek⟩), Bool.and_true]
  rw [← hn]
  have hK : ∀ x ∈ A, x.1 ∈ G.map (·.1) := fun x hx => by
    obtain ⟨e, he, hek⟩ := List.mem_map.1 (hkeys x hx)
    have h1 : x.1 ∈ ds.map Gn.k := by rw [hz.keys]; exact List.mem_map.2 ⟨e, h0 e he, hek⟩
    obtain ⟨d, hd, hdk⟩ := List.mem_map.1 h1
    have h2 : (d.k, d.v) ∈ G.map (fun e => (e.1, e.2.1)) := by rw [hz.gs]; exact List.mem_map.2 ⟨d, hd, rfl⟩
    obtain ⟨e2, he2, hek2⟩ := List.mem_map.1 h2
    exact List.mem_map.2 ⟨e2, he2, (congrArg Prod.fst hek2).trans hdk⟩
  have hG : ∀ e ∈ G, ∃ d ∈ ds, d.k = e.1 ∧ e.2.1 = d.v := fun e he => by
    have h2 : (e.1, e.2.1) ∈ ds.map (fun d => (d.k, d.v)) := by rw [← hz.gs]; exact List.mem_map.2 ⟨e, he, rfl⟩
    obtain ⟨d, hd, hdk⟩ := List.mem_map.1 h2
    exact ⟨d, hd, congrArg Prod.fst hdk, (congrArg Prod.snd hdk).symm⟩
  have hok := hz.ok
  have hgin := hz.gin
  have hdl := hz.ls
  clear hz h0 hkeys hend
  refine rSpY_0 ?_
  refine wx_only [fsB g q.y q.N.length q.sp.length A.length, q.E, mpB q.y.m q.L q.clk, q.Es, S, mpB gm G gc] ?_
  refine wx_flat (N := [q.seg g A.length, S, mpB gm G gc]) (by
    show ([fsB g q.y q.N.length q.sp.length A.length, q.E, mpB q.y.m q.L q.clk] ++ [q.Es] ++ [S, mpB gm G gc]).flatten.Perm ([q.seg g A.length] ++ [S, mpB gm G gc]).flatten
    rw [List.flatten_append, List.flatten_append (L₁ := [q.seg g A.length])]
    exact seg_perm3.symm.append_right _) ?_
  refine wl_range (clk := gc) (L := G) rfl rfl rfl (fun r2 => ?_)
  rw [← keep_none fl A] at h
  refine wx_mem (M' := [itB r2 gm gc [], q.seg g (A.filter (keepP fl (([] : TE ByteArray).map (·.1)))).length, S, mpB gm G gc]) (by rw [List.map_nil, keep_none]) ?_
  refine rSpY_0 ?_
  refine wc_loopK (ι := TE ByteArray × Fo) [0, 6, 37] (fun z => []) (fun z => [itB r2 gm gc z.1, z.2.seg g (A.filter (keepP fl (z.1.map (·.1)))).length]) (fun z => (∀ e ∈ z.1, e ∈ G) ∧ z.1.Nodup ∧ FoOk m (A.filter (keepP fl (z.1.map (·.1)))) z.2) (fun z => G.length - z.1.length) (([], q)) rfl ?_ (by repeat (first | exact trivial)) ?_
  · exact ⟨fun e he => (by cases he), List.nodup_nil, h⟩
  have hAm := hls.1
  clear h hls
  rintro ⟨D, q1⟩ ⟨z1, z2, h⟩
  try dsimp only
  refine wc_fcat ?_
  refine wc_cat ?_
  dsimp only at z1 z2 h
  refine rSpY_0 ?_
  refine wl_next (r := r2) (g := gm) (D := D) (L := G) (clk := gc) hok z1 rfl rfl (fun h0 => ?_) (fun e he hne => ?_)
  · have hK2 : ∀ x ∈ A, x.1 ∈ D.map (·.1) := fun x hx => by
      obtain ⟨e, he, hek⟩ := List.mem_map.1 (hK x hx)
      exact List.mem_map.2 ⟨e, h0 e he, hek⟩
    rw [keep_all hK2] at h
    refine wx_mem (M' := [itB r2 gm gc D, q1.seg g (A.filter (fun x => decide (fl < x.2.b))).length, S, mpB gm G gc]) (by rw [keep_all hK2]) ?_
    refine rSpY_0 ?_
    exact wq_ret1T q1 rfl rfl h rfl
  · obtain ⟨d, hd, hdk, hdv⟩ := hG e he
    obtain ⟨ek, ev, es⟩ := e
    dsimp only at hdk hdv
    subst hdk hdv
    have hl := hdl d hd
    obtain ⟨E, hE, hb⟩ := hgin d hd
    have hks := keep_step fl (D.map (·.1)) d.k A
    rw [← hl] at hks
    have hll : d.l.length ≤ A.length := by
      rw [hl]
      exact Nat.le_trans (List.length_filter_le _ _) (ofK_len _ _)
    refine rSpY_0 ?_
    (try refine wx_ungd rfl rfl ?_)
    apply wx_val
    exact v_entry (r := r2) (g := gm) (D := D) (L := G) (clk := gc) (e := (d.k, d.v, es)) hok he rfl
    rfl
    unfold Gn.v
    refine rSpY_0 ?_
    generalize A.filter (keepP fl (D.map (·.1))) = B at *
    refine wc_mem (M' := [itB r2 gm gc (D ++ [(d.k, .slice d.A d.l.length d.c, es)]), q1.seg g (delK d.k (d.l.take 0) B).length, S, mpB gm G gc]) rfl ?_
    refine wc_loopK (ι := Nat × Fo) [0, 6, 9, 37, 43, 44] (fun z => [(45, .int .i64 (z.1 : Nat))]) (fun z => [z.2.seg g (delK d.k (d.l.take z.1) B).length]) (fun z => z.1 ≤ d.l.length ∧ FoOk m (delK d.k (d.l.take z.1) B) z.2) (fun z => d.l.length - z.1) ((0, q1)) rfl ?_ (by repeat (first | exact trivial | refine ⟨rfl, ?_⟩)) ?_
    · exact ⟨by omega, h⟩
    clear h
    rintro ⟨p, q2⟩ ⟨y1, h⟩
    try dsimp only
    refine wc_fcat ?_
    refine wc_cat ?_
    dsimp only at y1 h
    refine rSpY_0 ?_
    refine wc_if rfl (fun hd2 => ?_) (fun hd2 => ?_)
    · obtain ⟨s, hs⟩ : ∃ s, d.l[p]? = some s := ⟨d.l[p], List.getElem?_eq_getElem (by omega)⟩
      obtain ⟨gA, hA⟩ := hb.ptr (by omega)
      have c1 := fun w' ho => Remove_law (g := g) d.k s h hm w' ho
      have htk : d.l.take (p + 1) = d.l.take p ++ [s] := by rw [List.take_add_one, hs]; rfl
      rw [← delK_snoc, ← htk] at c1
      refine rSpY_0 ?_
      (try refine wx_ungd rfl rfl ?_)
      apply wx_val
      exact v_loadA (cs := s.cells) rfl rfl (fun w' hr j u hj => cellS hb hE hA hr hs hj (by omega))
      rfl
      skip
      refine wl_alloc rfl rfl (fun g12 => ?_)
      refine rSpY_0 ?_
      refine wl_callT (fun w' hr ho => c1 w' ho) rfl rfl rfl ?_
      intro q3 h3
      refine wx_cat ?_
      refine rSpY_0 ?_
      refine wq_roundK ((p + 1, q3)) ?_ ?_ (by repeat (first | exact trivial | refine ⟨rfl, ?_⟩)) (by first | exact catEq | exact rfl)
      · exact ⟨by dsimp only; omega, h3⟩
      · show d.l.length - (p + 1) < d.l.length - p
        omega
    obtain rfl : p = d.l.length := by omega
    have hmp : (D ++ [(d.k, Value.slice d.A d.l.length d.c, es)]).map (·.1) = D.map (·.1) ++ [d.k] := by simp
    rw [List.take_length, hks, ← hmp] at h
    rw [List.take_length, hks, ← hmp]
    have z4 : ∀ e ∈ D ++ [(d.k, Value.slice d.A d.l.length d.c, es)], e ∈ G := fun e he2 => by
      rcases List.mem_append.1 he2 with he2 | he2
      · exact z1 e he2
      · rw [List.mem_singleton.1 he2]; exact he
    have z5 : (D ++ [(d.k, Value.slice d.A d.l.length d.c, es)]).Nodup := List.nodup_append.2 ⟨z2, by simp, fun a ha b hb e2 => by
      rw [List.mem_singleton.1 hb] at e2
      exact hne (e2 ▸ ha)⟩
    have hlt := len_sub z5 z4
    rw [List.length_append] at hlt
    simp only [List.length_singleton] at hlt
    refine rSpY_0 ?_
    refine wq_roundK ((D ++ [(d.k, .slice d.A d.l.length d.c, es)], q2)) ?_ ?_ (by repeat (first | exact trivial | refine ⟨rfl, ?_⟩)) (by first | exact catEq | exact rfl)
    · exact ⟨z4, z5, h⟩
    · show G.length - (D ++ [_]).length < G.length - D.length
      rw [List.length_append]
      simp only [List.length_singleton]
      omega
end Go.Proofs.Ytlioccfedophhaa
/- The sweep, in plain: what a row taken leaves, memory against plain state. -/
set_option linter.unusedVariables false
set_option linter.unusedSimpArgs false
namespace Go.Proofs.Ytlioccfedophhaa
open Go
set_option maxRecDepth 20000
set_option maxHeartbeats 1000000
theorem l_mem {L : TE Int} {o : List (Int × Int)} : L.map (fun e => (e.1, e.2.1)) = o.map (fun e => (e.1, Value.int .i64 e.2)) → (∀ e ∈ L, ∃ s, e.2.1 = .int .i64 s ∧ (e.1, s) ∈ o) ∧ (∀ e ∈ o, ∃ x ∈ L, x.2.1 = .int .i64 e.2) := by
  intro h
  refine ⟨fun e he => ?_, fun e he => ?_⟩
  · have : (e.1, e.2.1) ∈ o.map (fun e => (e.1, Value.int .i64 e.2)) := by rw [← h]; exact List.mem_map_of_mem (f := fun e : Int × Value × Nat => (e.1, e.2.1)) he
    obtain ⟨x, hx, hq⟩ := List.mem_map.1 this
    injection hq with h1 h2
    exact ⟨x.2, h2.symm, by rw [← h1]; exact hx⟩
  · have : (e.1, Value.int .i64 e.2) ∈ L.map (fun e => (e.1, e.2.1)) := by rw [h]; exact List.mem_map_of_mem (f := fun e : Int × Int => (e.1, Value.int .i64 e.2)) he
    obtain ⟨x, hx, hq⟩ := List.mem_map.1 this
    injection hq with h1 h2
    exact ⟨x, hx, h2⟩
theorem l_put {L : TE Int} {k : Nat} {p : Int} {v : Value} (h : p ∉ L.map (fun e => e.1)) : aput p v L k = L ++ [(p, v, k)] := by
  unfold aput
  have : (aget p L).isSome = false := by rw [l_has p rfl]; simpa using h
  rw [this]
  rfl
theorem l_del {L : TE Int} {o : List (Int × Int)} {p : Int} : L.map (fun e => (e.1, e.2.1)) = o.map (fun e => (e.1, Value.int .i64 e.2)) → (adel p L).map (fun e => (e.1, e.2.1)) = (o.filter (fun e => decide (p ≠ e.1))).map (fun e => (e.1, Value.int .i64 e.2)) := by
  intro h
  unfold adel
  induction L generalizing o with
  | nil =>
    cases o with
    | nil => rfl
    | cons x r => cases h
  | cons e L ih =>
    cases o with
    | nil => cases h
    | cons x r =>
      rw [List.map_cons, List.map_cons] at h
      injection h with h1 h2
      have h3 : e.1 = x.1 := by injection h1
      have ih' := ih h2
      by_cases hp : p = e.1
      · rw [List.filter_cons_of_neg (by simpa using hp), List.filter_cons_of_neg (by simpa using hp.trans h3)]
        exact ih'
      · rw [List.filter_cons_of_pos (by simpa using hp), List.filter_cons_of_pos (by simpa using fun e => hp (e.trans h3.symm)), List.map_cons, List.map_cons, ih']
        congr 1
theorem l_fst {L : TE Int} {o : List (Int × Int)} (h : L.map (fun e => (e.1, e.2.1)) = o.map (fun e => (e.1, Value.int .i64 e.2))) : L.map (fun e => e.1) = o.map Prod.fst := by
  have := congrArg (List.map Prod.fst) h
  rw [List.map_map, List.map_map] at this
  exact this
theorem l_len {L : TE Int} {o : List (Int × Int)} (h : L.map (fun e => (e.1, e.2.1)) = o.map (fun e => (e.1, Value.int .i64 e.2))) : L.length = o.length := by
  have := congrArg List.length h
  simpa using this
theorem hldW_lim (s : SwW) (n : Int) : (hldW s n).lim = s.lim := rfl
theorem max_if (a b : Int) : (if a < b then b else a) = max a b := by
  rw [Int.max_def]
  split <;> split <;> omega
/-- a row that begins a transaction, held against the limit -/
theorem SwI.begin {st : StD} {F : Int} {z : SwQ} (h : SwI st F z) {r : RowW} (hr : (refuseD st r).2 = 0) (hk : r.kind = 2) :
    SwI (holdD (beginD st r)).2 F { z with s := hldW { z.s with last := r, tk := true } (((aput r.index (.int .i64 r.time) z.L1 z.k1).length : Nat) + z.nh), L1 := aput r.index (.int .i64 r.time) z.L1 z.k1, k1 := aclk r.index z.L1 z.k1, L2 := aput r.index (.int .i64 r.time) z.L2 z.k2, k2 := aclk r.index z.L2 z.k2 } ∧
    ((aput r.index (.int .i64 r.time) z.L1 z.k1).length : Int) + z.nh = (beginD st r).n := by
  obtain ⟨hb, _, _, h4⟩ := refuse_ok hr
  have hj := h.j hb
  have hnb : r.index ∉ st.begun := by
    rcases h4 with ⟨_, h4, _⟩ | ⟨h4, _⟩
    · exact h4
    · omega
  have hno : r.index ∉ st.opn.map Prod.fst := fun e => hnb (hj.inv.per.mem_iff.2 (List.mem_append.2 (.inl e)))
  have e1 : aput r.index (.int .i64 r.time) z.L1 z.k1 = z.L1 ++ [(r.index, .int .i64 r.time, z.k1)] := l_put (by rw [l_fst hj.l1]; exact hno)
  have e2 : aput r.index (.int .i64 r.time) z.L2 z.k2 = z.L2 ++ [(r.index, .int .i64 r.time, z.k2)] := l_put (by rw [hj.l2]; exact hnb)
  have hn : ((aput r.index (.int .i64 r.time) z.L1 z.k1).length : Int) + z.nh = (beginD st r).n := by
    rw [e1, hj.nh, List.length_append, l_len hj.l1]
    show _ = (((st.opn ++ [(r.index, r.time)]).length + st.held.length : Nat) : Int)
    rw [List.length_append]
    simp only [List.length_singleton]
    omega
  refine ⟨⟨?_, ?_, fun hb2 => ?_⟩, hn⟩
  · show z.s.lim = _
    rw [h.lim]
    unfold holdD
    split <;> rfl
  · show (if z.s.lim < _ then true else z.s.br) = _
    rw [hn, h.lim, h.br]
    unfold holdD
    show (if st.limit < ((beginD st r).n : Int) then true else st.broken) = _
    by_cases hc : st.limit < ((beginD st r).n : Int)
    · rw [if_pos hc, if_pos (show (beginD st r).limit < ((beginD st r).n : Int) from hc)]
    · rw [if_neg hc, if_neg (show ¬ (beginD st r).limit < ((beginD st r).n : Int) from hc)]
      rfl
  · have hi := (hj.inv.begin hr hk).hold
    have ho : ∀ f : StD → Prop, (∀ m b, f { beginD st r with most := m, broken := b }) → f (holdD (beginD st r)).2 := fun f hf => by
      unfold holdD
      split
      · exact hf _ _
      · exact hf _ _
    have hmost : (holdD (beginD st r)).2.most = max st.most ((beginD st r).n : Int) := by unfold holdD; split <;> rfl
    refine ⟨hi, ?_, ?_, ?_, ?_, ?_, ?_, ?_, ?_, ?_, ?_, ?_, ?_⟩
    · exact ho (fun x => r = x.last) fun _ _ => rfl
    · exact ho (fun x => true = x.taken) fun _ _ => rfl
    · rw [hmost, ← hn, ← hj.most, ← max_if]
      rfl
    · refine ho (fun x => (aput r.index (.int .i64 r.time) z.L1 z.k1).map (fun e => (e.1, e.2.1)) = x.opn.map (fun e => (e.1, .int .i64 e.2))) fun _ _ => ?_
      rw [e1, List.map_append, hj.l1]
      show _ = (st.opn ++ [(r.index, r.time)]).map _
      rw [List.map_append]
      rfl
    · exact hj.ok1.put _ _
    · refine ho (fun x => (aput r.index (.int .i64 r.time) z.L2 z.k2).map (fun e => e.1) = x.begun) fun _ _ => ?_
      rw [e2, List.map_append, hj.l2]
      rfl
    · exact hj.ok2.put _ _
    · exact ho (fun x => ChOk z.es z.clk x.held) fun _ _ => hj.ch
    · exact ho (fun x => z.nh = (x.held.length : Nat)) fun _ _ => hj.nh
    · exact ho (fun x => FoOk (16 * x.ended.length) z.A z.q) fun _ _ => hj.fo
    · exact ho (fun x => SpI x.ended F z.A) fun _ _ => hj.spi
    · exact ho (fun x => TwI x.ended z.s.tt z.s.tf z.s.ta) fun _ _ => hj.twi
/-- what is told of a transaction that ends is what the document tells -/
theorem judge_eq {st : StD} {F : Int} {z : SwQ} (hj : SwJ st F z) {r : RowW} {t : TxnP} (he : EndI st F r t) :
    judgeQ (if z.s.ta = true ∧ z.s.tt = t.fin then some z.s.tf else none) (fun k => (firstS (ovK k t.start t.fin z.A)).map (fun s => (s.c, s.b))) (fun k => atC t.start (chD k st.held)) r.index t = judgeD st.ended ⟨r.index, t⟩ := by
  have hf : ∀ d ∈ st.ended, d.t.fin ≤ t.fin := fun d hd => by have := (lexD_iff _ _).1 (he.beh d hd); dsimp only at this; omega
  unfold judgeD
  rw [← tw_eq hj.twi hf]
  congr 1
  · funext k
    exact first_eq hj.inv.srt hj.spi he.flo (fun d hd => ⟨(hj.inv.fin d hd).lt, hf d hd⟩) k
  · funext k
    exact see_eq hj.inv he.flo k
/-- what is put in at an end -/
structure PutI (st : StD) (z : SwQ) (d : DoneT) (s : SwW) (es : List ChE) (clk : Nat) (q : Fo) (A : Ks) : Prop where
  sw : s = { z.s with last := s.last, tk := s.tk, tt := s.tt, tf := s.tf, ta := s.ta }
  ch : ChOk es clk (st.held ++ newD d)
  fo : FoOk (16 * (st.ended.length + 1)) A q
  mem : ∀ k x, (k, x) ∈ A ↔ ((k, x) ∈ z.A ∨ (x = ⟨d.t.start, d.t.fin, d.place⟩ ∧ wroteD k d = true))
  tw : TwI (st.ended ++ [d]) s.tt s.tf s.ta
theorem put_spi {E : List DoneT} {F : Int} {A A' : Ks} {d : DoneT} (h : SpI E F A) (hF : F < d.t.fin) (hm : ∀ k x, (k, x) ∈ A' ↔ ((k, x) ∈ A ∨ (x = ⟨d.t.start, d.t.fin, d.place⟩ ∧ wroteD k d = true))) : SpI (E ++ [d]) F A' := fun k s => by
  rw [hm, h]
  constructor
  · rintro (⟨x, hx, h1, h2, h3⟩ | ⟨h1, h2⟩)
    · exact ⟨x, List.mem_append.2 (.inl hx), h1, h2, h3⟩
    · exact ⟨d, by simp, h2, h1, hF⟩
  · rintro ⟨x, hx, h1, h2, h3⟩
    rcases List.mem_append.1 hx with hx | hx
    · exact .inl ⟨x, hx, h1, h2, h3⟩
    · rw [List.mem_singleton.1 hx] at h1 h2
      exact .inr ⟨h2, h1⟩
theorem drop_spi {E : List DoneT} {F F' : Int} {A : Ks} (h : SpI E F A) (hF : F ≤ F') : SpI E F' (A.filter (fun x => decide (F' < x.2.b))) := fun k s => by
  rw [List.mem_filter, h, decide_eq_true_iff]
  constructor
  · rintro ⟨⟨x, hx, h1, rfl, h3⟩, h4⟩
    exact ⟨x, hx, h1, rfl, h4⟩
  · rintro ⟨x, hx, h1, rfl, h3⟩
    exact ⟨⟨x, hx, h1, rfl, by omega⟩, h3⟩
/-- a row that ends a transaction: held against the limit, and the limit passed -/
theorem SwI.over {st : StD} {F : Int} {z : SwQ} (h : SwI st F z) {r : RowW} {t : TxnP} {z' : SwQ} (hl : z'.s.lim = z.s.lim) (hb : z'.s.br = true) (hc : (holdD (endD st r t)).1 ≠ 0) : SwI (holdD (endD st r t)).2 F z' := by
  have e : holdD (endD st r t) = (164, { endD st r t with most := max (endD st r t).most ((endD st r t).n : Int), broken := true }) := by
    unfold holdD at hc ⊢
    split
    · rfl
    · rename_i h1; rw [if_neg h1] at hc; exact absurd rfl hc
  rw [e]
  refine ⟨by rw [hl, h.lim]; rfl, by rw [hb], fun x => ?_⟩
  cases x
theorem hold_ok {st : StD} (hc : (holdD st).1 = 0) : (holdD st).2 = { st with most := max st.most (st.n : Int) } ∧ ¬ st.limit < (st.n : Int) := by
  unfold holdD at hc ⊢
  split
  · rename_i h1
    rw [if_pos h1] at hc
    have hc' : (164 : Int) = 0 := hc
    omega
  · rename_i h1; exact ⟨rfl, h1⟩
end Go.Proofs.Ytlioccfedophhaa
/- The sweep: Take. -/
set_option linter.unusedVariables false
set_option linter.unusedSimpArgs false
namespace Go.Proofs.Ytlioccfedophhaa
open Go
set_option maxRecDepth 20000
set_option maxHeartbeats 2000000
attribute [local irreducible] WX WC WQ Val VCall WY WR
theorem rSwY_0 {A B : Prop} (k : B) (h : Hold B → A := by intro k; (repeat (first | (apply wx_val; (first | exact v_move rfl | exact v_assign rfl | exact v_nil rfl | exact v_faddr rfl rfl | exact v_ldT rfl rfl rfl (by rfl) | exact v_ldAT rfl (by rfl) | exact v_extract rfl rfl | exact v_eq rfl rfl | exact v_ne rfl rfl | exact v_min rfl rfl); rfl) | refine wc_seq ?_ | refine wc_region ?_ | refine wx_nil ?_ | refine wq_next ?_ | refine wc_block ?_ | refine wc_ret ?_ | refine wc_skip ?_ | refine wc_exit ?_ | refine wq_then_ret ?_ | refine wq_then_exit ?_ | refine wq_block ?_ | refine wq_block_exit rfl ?_ | refine wx_setn ?_ | refine wc_setn ?_ | refine wc_condT rfl ?_ | refine wc_condF rfl ?_ | refine wl_storeT rfl rfl rfl (by rfl) (by exact .inl (Nat.le_refl _)) rfl ?_ | refine wl_stAT rfl rfl (by rfl) (by rfl) (by exact .inl (Nat.le_refl _)) rfl ?_)); exact k.out) : A := h ⟨k⟩
abbrev tkR (w : World) (g : Nat) (z : SwQ) (st : StD) (r : RowW) : Ending → World → Prop := Ret (β := (Option Addr × Nat × Seg) × SwQ) w (ids (z.M g)) (fun x => .tuple #[.slice x.1.1 (takeD st r).1.1.length x.1.2.1, .int .i64 (takeD st r).1.2]) (fun x => x.2.M g ++ [x.1.2.2]) (fun x => VL (takeD st r).1.1 x.1 ∧ ∃ F', SwI (takeD st r).2 F' x.2)
section
variable {g : Nat} {st : StD} {F : Int} {z : SwQ}
theorem stampI : ∀ {L : TE Int}, L.Pairwise (fun a b => a.2.2 ≠ b.2.2) → ∀ {a b : Int × Value × Nat}, a ∈ L → b ∈ L → a.2.2 = b.2.2 → a = b
  | [], _, a, b, ha, _, _ => by cases ha
  | x :: r, h, a, b, ha, hb, e => by
    obtain ⟨h1, h2⟩ := List.pairwise_cons.1 h
    rcases List.mem_cons.1 ha with p1 | p1
    · rcases List.mem_cons.1 hb with p2 | p2
      · rw [p1, p2]
      · rw [p1] at e
        exact absurd e (h1 b p2)
    · rcases List.mem_cons.1 hb with p2 | p2
      · rw [p2] at e
        exact absurd e.symm (h1 a p1)
      · exact stampI h2 p1 p2 e
theorem end_n (hj : SwJ st F z) (r : RowW) (t : TxnP) : ((adel r.index z.L1).length : Int) + ((st.held ++ newD ⟨r.index, t⟩).length : Nat) = ((endD st r t).n : Nat) := by
  rw [l_len (l_del hj.l1)]
  unfold StD.n endD
  dsimp only
  omega
theorem SwI.done (h : SwI st F z) {r : RowW} {t : TxnP} (hr : (refuseD st r).2 = 0) (hk : r.kind ≠ 2) (he : EndI st F r t) {s2 : SwW} {es es' : List ChE} {clk : Nat} {q q' : Fo} {A : Ks} (hp : PutI st z ⟨r.index, t⟩ s2 es clk q A) (h1 : s2.last = r) (h2 : s2.tk = true) (hc : (holdD (endD st r t)).1 = 0) {fl : Int} (hf : fl = floorD r.time (endD st r t).opn)
    (hch : ChOk es' clk (pruneD fl (st.held ++ newD ⟨r.index, t⟩))) (hfo : FoOk (16 * (st.ended.length + 1)) (A.filter (fun x => decide (fl < x.2.b))) q') {nh : Int} (hnh : nh = ((pruneD fl (st.held ++ newD ⟨r.index, t⟩)).length : Nat)) :
    SwI { (holdD (endD st r t)).2 with held := pruneD fl (endD st r t).held } fl { z with s := hldW s2 (((adel r.index z.L1).length : Nat) + ((st.held ++ newD ⟨r.index, t⟩).length : Nat)), L1 := adel r.index z.L1, nh := nh, es := es', clk := clk, q := q', A := A.filter (fun x => decide (fl < x.2.b)) } := by
  obtain ⟨hb, _, _, _⟩ := refuse_ok hr
  have hj := h.j hb
  obtain ⟨e1, e2⟩ := hold_ok hc
  have hx := hj.inv.finish hr hk he
  have hh := hx.hold
  have hn := end_n hj r t
  obtain ⟨f1, f2, f3⟩ := floorD_le (endD st r t).opn r.time
  rw [← hf] at f1 f2
  have hF : F ≤ fl := by
    rw [hf]
    exact f3 F (hj.inv.row hr).2 fun e h7 => (hj.inv.opn e (List.mem_filter.1 h7).1).2.1
  have hl2 : s2.lim = st.limit := by rw [hp.sw, ← h.lim]
  have hb2 : s2.br = st.broken := by rw [hp.sw, ← h.br]
  have hm2 : s2.most = st.most := by rw [hp.sw, ← hj.most]
  rw [hn]
  rw [e1] at hh ⊢
  refine ⟨hl2, ?_, fun _ => ⟨hh.prune hF f2 rfl f1, h1, h2, ?_, l_del hj.l1, hj.ok1.del _, hj.l2, hj.ok2, hch, hnh, ?_, ?_, hp.tw⟩⟩
  · show (if s2.lim < _ then true else s2.br) = st.broken
    rw [if_neg (by rw [hl2]; exact e2), hb2]
  · show (if s2.most < _ then _ else s2.most) = max st.most _
    rw [max_if, hm2]
  · show FoOk (16 * (st.ended ++ [(⟨r.index, t⟩ : DoneT)]).length) _ _
    rw [List.length_append]
    exact hfo
  · have hlt := he.lt
    have hfl := he.flo
    exact drop_spi (put_spi (d := ⟨r.index, t⟩) hj.spi (show F < t.fin by omega) hp.mem) hF
theorem Take_spec (h : SwI st F z) (r : RowW) (w : World) (ho : Own w (z.M g)) : Calls Try.prog 15 #[.pointer (some ⟨g, 0, none⟩), .agg r.cells.toArray] w (tkR w g z st r) := by
  refine go [.pointer (some ⟨g, 0, none⟩), .agg r.cells.toArray] (z.M g) Try.func15 Try.ntmps15 rfl rfl ho ?_
  refine rSwY_0 ?_
  refine wl_boxA rfl rfl (fun g3 => ?_)
  refine rSwY_0 ?_
  refine wl_callT (fun w' hr ho => refuse_spec h r w' ho) rfl rfl rfl ?_
  rintro ⟨A7, c7, E7⟩ hb7
  dsimp only at hb7 ⊢
  refine wx_cat ?_
  refine rSwY_0 ?_
  refine wl_alloc rfl rfl (fun g6 => ?_)
  refine rSwY_0 ?_
  refine wc_if rfl (fun h1 => ?_) (fun h1 => ?_)
  · have e : takeD st r = (([], (refuseD st r).2), st) := by unfold takeD; rw [if_pos h1]
    unfold tkR
    rw [e]
    refine rSwY_0 ?_
    refine wq_seg ?_
    exact wq_ret2T ((none, 0, []), z) rfl rfl rfl rfl ⟨VL.nil, F, h⟩ rfl
  have hr : (refuseD st r).2 = 0 := Decidable.not_not.1 h1
  obtain ⟨hb, hri, _, h4⟩ := refuse_ok hr
  have hj := h.j hb
  have hnl := hj.inv.n_le
  have hll := l_len hj.l1
  have hln := hj.inv.len
  have hhl := hj.inv.hl
  unfold StD.n at hnl
  obtain ⟨s1, hs1⟩ : ∃ s1 : SwW, s1 = { z.s with last := r, tk := true } := ⟨_, rfl⟩
  have eg : s1.gs = z.s.gs := by rw [hs1]
  have ef : s1.gf = z.s.gf := by rw [hs1]
  have em1 : s1.m1 = z.s.m1 := by rw [hs1]
  have em2 : s1.m2 = z.s.m2 := by rw [hs1]
  refine rSwY_0 ?_
  refine wl_stOT (vs := r.cells) rfl rfl rfl rfl (by exact .inl (Nat.le_refl _)) rfl ?_
  refine rSwY_0 ?_
  refine wc_blk g s1.cells (by rw [hs1]; rfl) ?_
  refine wc_setn ?_
  rw [← eg, ← ef, ← em1, ← em2]
  refine wc_if rfl (fun h2 => ?_) (fun h2 => ?_)
  · have e : takeD st r = (([], (holdD (beginD st r)).1), (holdD (beginD st r)).2) := by unfold takeD; rw [if_neg h1, if_pos h2]
    obtain ⟨hs, hn⟩ := h.begin hr h2
    rw [← hs1] at hs
    have e3 : (holdD (beginD st r)).1 = if s1.lim < ((aput r.index (.int .i64 r.time) z.L1 z.k1).length : Nat) + z.nh then 164 else 0 := by
      rw [hn, hs1]
      show _ = if z.s.lim < _ then _ else _
      rw [h.lim]
      unfold holdD
      show (if st.limit < _ then _ else _ : Int × StD).1 = _
      split <;> rfl
    have hbn := ((hj.inv.begin hr h2).n_le)
    have hnhb := hj.nh
    unfold tkR
    rw [e]
    refine rSwY_0 ?_
    refine wc_heldN [] [swB g s1, [(g3, .cells r.cells.toArray 38 (0, 0))]] (fun hQd => ?_)
    refine tkX 0 rfl (v_move rfl) ?_
    refine tkX 1 rfl (v_nil rfl) ?_
    refine tkX 2 rfl (v_faddr rfl rfl) ?_
    refine tkX 3 rfl (v_ldT rfl rfl rfl (by rfl)) ?_
    refine tkX 4 rfl (v_faddr rfl rfl) ?_
    refine tkX 5 rfl (v_ldT rfl rfl rfl (by rfl)) ?_
    refine tkX 6 rfl (v_move rfl) ?_
    refine tkX 7 rfl (v_nil rfl) ?_
    refine tkX 8 rfl (v_faddr rfl rfl) ?_
    refine tkX 9 rfl (v_ldT rfl rfl rfl (by rfl)) ?_
    refine tkX 10 rfl (v_faddr rfl rfl) ?_
    refine tkX 11 rfl (v_ldT rfl rfl rfl (by rfl)) ?_
    refine tkX 12 rfl (v_faddr rfl rfl) ?_
    refine tkX 13 rfl (v_ldT rfl rfl rfl (by rfl)) ?_
    refine tkX 14 rfl (v_faddr rfl rfl) ?_
    refine tkX 15 rfl (v_ldT rfl rfl rfl (by rfl)) ?_
    refine efX 16 rfl ?_
    refine wl_mentryK (κ := kI) (g := s1.m1) (L := z.L1) (clk := z.k1) (a := r.index) (.int .i64 0) rfl (keyI rfl) rfl rfl rfl rfl ?_
    (try refine wx_nil ?_)
    refine hdX ?_
    refine tkX 17 rfl (v_extract rfl rfl) ?_
    refine efX 18 rfl ?_
    refine wl_mstoreK (κ := kI) (kt := 3) (g := s1.m1) (L := z.L1) (clk := z.k1) (a := r.index) (.int .i64 0) (keyI rfl) hj.ok1 rfl rfl rfl ?_
    (try refine wx_nil ?_)
    refine hdX ?_
    refine efX 19 rfl ?_
    refine wl_mentryK (κ := kI) (g := s1.m2) (L := z.L2) (clk := z.k2) (a := r.index) (.int .i64 0) rfl (keyI rfl) rfl rfl rfl rfl ?_
    (try refine wx_nil ?_)
    refine hdX ?_
    refine tkX 20 rfl (v_extract rfl rfl) ?_
    refine efX 21 rfl ?_
    refine wl_mstoreK (κ := kI) (kt := 3) (g := s1.m2) (L := z.L2) (clk := z.k2) (a := r.index) (.int .i64 0) (keyI rfl) hj.ok2 rfl rfl rfl ?_
    (try refine wx_nil ?_)
    refine hdX ?_
    refine wh_done (by decide +kernel) ?_
    refine rSwY_0 ?_
    refine wl_callT (fun w' hr ho => swHold_spec (g := g) (s := s1) (L1 := aput r.index (.int .i64 r.time) z.L1 z.k1) (k1 := aclk r.index z.L1 z.k1) (L2 := aput r.index (.int .i64 r.time) z.L2 z.k2) (k2 := aclk r.index z.L2 z.k2) (mc := z.mc) (nh := z.nh) (es := z.es) (clk := z.clk) (q := z.q) (n := z.A.length) (by omega) (by omega) w' ho) rfl rfl rfl ?_
    rintro - -
    refine wx_cat ?_
    refine rSwY_0 ?_
    refine wq_seg ?_
    exact wq_ret2T ((none, 0, []), _) rfl rfl rfl (by rw [e3]; rfl) ⟨VL.nil, F, hs⟩ (show _ = swM g (hldW s1 (((aput r.index (.int .i64 r.time) z.L1 z.k1).length : Nat) + z.nh)) (aput r.index (.int .i64 r.time) z.L1 z.k1) (aclk r.index z.L1 z.k1) (aput r.index (.int .i64 r.time) z.L2 z.k2) (aclk r.index z.L2 z.k2) z.mc z.nh z.es z.clk z.q z.A.length ++ [[]] from rfl)
  have he := hj.inv.ended hr h2
  obtain ⟨t, ht⟩ : ∃ t, t = (refuseD st r).1 := ⟨_, rfl⟩
  rw [← ht] at he hb7 ⊢
  have hsm := he.ok.small
  have hle7 := hb7.le
  have hfu := hj.inv.finish hr h2 he
  have hbn := hfu.n_le
  have hen := end_n hj r t
  have hnhb := hj.nh
  have je : judgeQ (if s1.ta = true ∧ s1.tt = t.fin then some s1.tf else none) (fun k => (firstS (ovK k t.start t.fin z.A)).map (fun s => (s.c, s.b))) (fun k => atC t.start (chD k st.held)) r.index t = judgeD st.ended ⟨r.index, t⟩ := by
    rw [hs1]
    exact judge_eq hj he
  refine rSwY_0 ?_
  refine wl_callT (fun w' hr ho => judge_spec (g := g) (s := s1) (mc := z.mc) (nh := z.nh) (es := z.es) (clk := z.clk) (q := z.q) (A := z.A) (t := t) (At := A7) (c := c7) r.index hj.ch hj.inv.rise (by omega) hj.fo (by omega) hsm.1 hle7.1 w' (hb7.vwO hr) ho) rfl rfl rfl ?_
  rintro ⟨A8, c8, E8⟩ hb8
  rw [je] at hb8 ⊢
  dsimp only at hb8 ⊢
  refine wx_cat ?_
  refine rSwY_0 ?_
  refine wc_heldN [] [swB g s1, [(g3, .cells r.cells.toArray 38 (0, 0))]] (fun hQd => ?_)
  refine tkX 0 rfl (v_move rfl) ?_
  refine tkX 1 rfl (v_nil rfl) ?_
  refine tkX 2 rfl (v_faddr rfl rfl) ?_
  refine tkX 3 rfl (v_ldT rfl rfl rfl (by rfl)) ?_
  refine tkX 4 rfl (v_faddr rfl rfl) ?_
  refine tkX 5 rfl (v_ldT rfl rfl rfl (by rfl)) ?_
  refine efX 6 rfl ?_
  refine wl_mdelK (κ := kI) (g := s1.m1) (L := z.L1) (clk := z.k1) (a := r.index) rfl (keyI rfl) hj.ok1 rfl rfl ?_
  (try refine wx_nil ?_)
  refine hdX ?_
  refine wh_done (by decide +kernel) ?_
  refine rSwY_0 ?_
  obtain ⟨d, hd⟩ : ∃ d : DoneT, d = ⟨r.index, t⟩ := ⟨_, rfl⟩
  have hfin : ∀ x ∈ st.ended, x.t.fin ≤ d.t.fin := fun x hx => by have := (lexD_iff _ _).1 (he.beh x hx); rw [hd]; dsimp only at this ⊢; omega
  refine wc_meetK (ι := SwW × List ChE × Nat × Fo × Ks) [0, 3, 6, 8] (fun x => []) (fun x => [swB g x.1, stB x.1.gs z.mc ((st.held ++ newD d).length : Nat), mpK Value.string z.mc (chL x.2.1) x.2.2.1, chSg x.2.1, x.2.2.2.1.seg x.1.gf x.2.2.2.2.length]) (M1 := [swB g s1, stB s1.gs z.mc z.nh, mpK Value.string z.mc (chL z.es) z.clk, chSg z.es, z.q.seg s1.gf z.A.length]) (fun x => PutI st z d x.1 x.2.1 x.2.2.1 x.2.2.2.1 x.2.2.2.2 ∧ x.1.last = r ∧ x.1.tk = true) rfl ?_ ?_
  · refine wc_cat ?_
    refine wc_if rfl (fun hs => ?_) (fun hs => ?_)
    · have en : newD d = newN d d.t.ops.length := by unfold newD; rw [if_pos (by rw [hd]; exact hs)]
      have htw := TwI.put hj.twi hfin (by rw [hd]; exact hs)
      have hab : ∀ k, ∀ u ∈ chD k st.held, above (verD k d) u = true := fun k u hu => by
        obtain ⟨P, e, _⟩ := hj.inv.chn k
        have : u ∈ chD k (allD st.ended) := by rw [e]; exact List.mem_append.2 (.inr hu)
        rw [allD_key] at this
        obtain ⟨x, hx, rfl⟩ := List.mem_map.1 this
        rw [ver_above, hd]
        exact he.beh x (List.mem_filter.1 hx).1
      have hnew : ∀ k x, (k, x) ∈ z.A → x.c ≠ d.place := fun k x hx => by
        obtain ⟨y, hy, _, rfl, _⟩ := (hj.spi k x).1 hx
        rw [hd]
        exact he.new y hy
      have ic := fun w' hv' ho => install_spec (g := g) (s := s1) (mc := z.mc) (nh := z.nh) (es := z.es) (clk := z.clk) (q := z.q) (A := z.A) (At := A7) (c := c7) (d := d) hj.ch (by omega) hj.nh hj.fo (by omega) (by rw [hd]; exact he.ok) (by rw [hd]; exact he.idx) (by rw [hd]; exact he.lt) hab hnew (by rw [hd]; exact hle7.1) w' hv' ho
      rw [← en] at ic
      rw [hd] at ic
      refine rSwY_0 ?_
      refine wl_callT (fun w' hr ho => ic w' (hb7.vwO hr) ho) rfl rfl rfl ?_
      rintro ⟨es2, clk2, q2, A2⟩ hI
      dsimp only at hI ⊢
      refine wx_cat ?_
      rw [← hd]
      refine rSwY_0 ?_
      refine wq_cutK ((twS s1 r.index t, es2, clk2, q2, A2)) ?_ (by repeat (first | exact trivial | refine ⟨rfl, ?_⟩)) (by first | exact catEq | exact rfl)
      · dsimp only
        have hst : twS s1 r.index t = { z.s with last := r, tk := true, tt := (twS s1 r.index t).tt, tf := (twS s1 r.index t).tf, ta := (twS s1 r.index t).ta } := by
          rw [hs1]; unfold twS; split <;> rfl
        have e1 : (twS s1 r.index t).last = r ∧ (twS s1 r.index t).tk = true := by rw [hst]; exact ⟨rfl, rfl⟩
        refine ⟨⟨by rw [e1.1, e1.2]; exact hst, ?_, ?_, ?_, ?_⟩, e1⟩
        · rw [en, hd]; exact hI.ch
        · exact hI.fo.up (by omega)
        · intro k x
          rw [hI.mem, hd]
          unfold wroteD
          dsimp only
          rw [decide_eq_true hs, Bool.true_and]
        · rw [hd] at htw ⊢
          dsimp only at htw
          by_cases hx : z.s.ta = true ∧ z.s.tt = t.fin
          · rw [if_pos hx, if_pos hx] at htw
            have : twS s1 r.index t = s1 := by unfold twS; rw [if_pos (by rw [hs1]; exact hx)]
            rw [this, hs1, hx.1]
            exact htw
          · rw [if_neg hx, if_neg hx] at htw
            have : twS s1 r.index t = { s1 with tt := t.fin, tf := r.index, ta := true } := by unfold twS; rw [if_neg (by rw [hs1]; exact hx)]
            rw [this]
            exact htw
    · have en : newD d = [] := by unfold newD; rw [if_neg (by rw [hd]; exact hs)]
      have htw := TwI.skip hj.twi (d := d) (by rw [hd]; exact hs)
      rw [en, List.append_nil, ← hj.nh]
      refine rSwY_0 ?_
      refine wq_cutK ((s1, z.es, z.clk, z.q, z.A)) ?_ (by repeat (first | exact trivial | refine ⟨rfl, ?_⟩)) (by first | exact catEq | exact rfl)
      dsimp only
      refine ⟨⟨by rw [hs1], by rw [en, List.append_nil]; exact hj.ch, hj.fo.up (by omega), fun k x => ?_, by rw [hs1]; exact htw⟩, by rw [hs1], by rw [hs1]⟩
      have : wroteD k d = false := by unfold wroteD; rw [hd, decide_eq_false hs]; rfl
      rw [this]
      simp
  rintro ⟨s2, es2, clk2, q2, A2⟩ ⟨hp, hp1, hp2⟩
  dsimp only at hp hp1 hp2 ⊢
  refine wc_fcat ?_
  refine wc_cat ?_
  have fg : s2.gs = s1.gs := by rw [hp.sw, hs1]
  have ff : s2.gf = s1.gf := by rw [hp.sw, hs1]
  have fm1 : s2.m1 = s1.m1 := by rw [hp.sw, hs1]
  have fm2 : s2.m2 = s1.m2 := by rw [hp.sw, hs1]
  have fl : s2.lim = st.limit := by rw [hp.sw, ← h.lim]
  rw [hd] at hp ⊢
  rw [← fm1, ← fm2]
  have e4 : (holdD (endD st r t)).1 = if s2.lim < ((adel r.index z.L1).length : Nat) + (((st.held ++ newD ⟨r.index, t⟩).length : Nat) : Int) then 164 else 0 := by
    rw [hen, fl]
    unfold holdD
    show (if st.limit < _ then _ else _ : Int × StD).1 = _
    split <;> rfl
  have hbn2 : (adel r.index z.L1).length + (st.held ++ newD ⟨r.index, t⟩).length ≤ 69632 := by omega
  refine rSwY_0 ?_
  refine wl_callT (fun w' hr ho => swHold_spec (g := g) (s := s2) (L1 := adel r.index z.L1) (k1 := z.k1) (L2 := z.L2) (k2 := z.k2) (mc := z.mc) (nh := ((st.held ++ newD ⟨r.index, t⟩).length : Nat)) (es := es2) (clk := clk2) (q := q2) (n := A2.length) (by omega) (by omega) w' ho) rfl rfl rfl ?_
  rintro - -
  refine wx_cat ?_
  rw [← e4]
  obtain ⟨s3, hs3⟩ : ∃ s3, s3 = hldW s2 (((adel r.index z.L1).length : Nat) + (((st.held ++ newD ⟨r.index, t⟩).length : Nat) : Int)) := ⟨_, rfl⟩
  rw [← hs3]
  refine rSwY_0 ?_
  refine wc_if rfl (fun h5 => ?_) (fun h5 => ?_)
  · have e : takeD st r = (([], (holdD (endD st r t)).1), (holdD (endD st r t)).2) := by
      unfold takeD
      rw [← ht, if_neg h1, if_neg h2, if_pos h5]
    unfold tkR
    rw [e]
    refine rSwY_0 ?_
    refine wq_seg ?_
    refine wq_ret2T ((none, 0, []), { z with s := s3, L1 := adel r.index z.L1, nh := ((st.held ++ newD ⟨r.index, t⟩).length : Nat), es := es2, clk := clk2, q := q2, A := A2 }) rfl rfl rfl rfl ⟨VL.nil, F, h.over (by rw [hs3]; show s2.lim = _; rw [fl, h.lim]) ?_ h5⟩ (show _ = swM g s3 (adel r.index z.L1) z.k1 z.L2 z.k2 z.mc ((st.held ++ newD ⟨r.index, t⟩).length : Nat) es2 clk2 q2 A2.length ++ [[]] from rfl)
    rw [hs3]
    show (if _ then true else _) = true
    rw [if_pos]
    rw [e4] at h5
    exact Decidable.not_not.1 fun e => h5 (if_neg e)
  have hc : (holdD (endD st r t)).1 = 0 := Decidable.not_not.1 h5
  obtain ⟨lm1, lm2⟩ := l_mem (l_del (p := r.index) hj.l1)
  have hok := hj.ok1.del r.index
  refine rSwY_0 ?_
  refine wl_rangeK (κ := kI) (g := s3.m1) (L := adel r.index z.L1) (clk := z.k1) rfl rfl rfl (fun rr => ?_)
  refine rSwY_0 ?_
  refine wc_loopM (ι := List Nat × Int) ([itK rr s3.m1 z.k1 []]) [0, 3, 6, 8, 84] (fun x => [(10, .int .i64 x.2)]) (fun x => [itK rr s3.m1 z.k1 x.1]) (fun x => (x.1.Nodup ∧ (∀ b ∈ x.1, b ∈ (adel r.index z.L1).map (fun e => e.2.2)) ∧ x.2 ≤ r.time ∧ (∀ e ∈ adel r.index z.L1, e.2.2 ∈ x.1 → ∀ s, e.2.1 = .int .i64 s → x.2 ≤ s) ∧ (x.2 = r.time ∨ ∃ e ∈ (endD st r t).opn, x.2 = e.2))) (fun x => (adel r.index z.L1).length - x.1.length) (([], r.time)) rfl rfl ?_ (by repeat (first | exact trivial | refine ⟨rfl, ?_⟩)) ?_
  · exact ⟨.nil, fun b hb => (by cases hb), Int.le_refl _, fun e he hx => (by cases hx), .inl rfl⟩
  rintro ⟨D, m⟩ ⟨i1, i2, i3, i4, i5⟩
  try dsimp only
  refine wc_fcat ?_
  refine wc_cat ?_
  dsimp only at i1 i2 i3 i4 i5 ⊢
  refine rSwY_0 ?_
  refine wl_nextK (κ := kI) (g := s3.m1) (L := adel r.index z.L1) (clk := z.k1) (D := D) hok rfl rfl (fun hz => ?_) (fun e hel hne => ?_)
  · have hfl : m = floorD r.time (endD st r t).opn := (floorD_eq i3 (fun e hm => by
      obtain ⟨x, hx, hv⟩ := lm2 e hm
      exact i4 x hx (hz x hx) e.2 hv) i5).symm
    have hRx : ∀ k, Rise (chD k (st.held ++ newD ⟨r.index, t⟩)) := hfu.rise
    have hAb : ∀ x ∈ A2, x.2.a ≤ x.2.b := fun x hx => by
      rcases (hp.mem x.1 x.2).1 hx with hx | ⟨hx, _⟩
      · obtain ⟨y, hy, _, e2, _⟩ := (hj.spi x.1 x.2).1 hx
        have := (hj.inv.fin y hy).lt
        rw [e2]
        dsimp only
        omega
      · have := he.lt
        rw [hx]
        dsimp only
        omega
    refine rSwY_0 ?_
    refine wl_callT (fun w' hr ho => chPrune_spec (g := s3.gs) (m := z.mc) (es := es2) (clk := clk2) hp.ch hRx (by omega) rfl m w' ho) rfl rfl rfl ?_
    rintro ⟨es3, gone⟩ hch3
    dsimp only at hch3 ⊢
    refine wx_cat ?_
    refine rSwY_0 ?_
    refine wl_callT (fun w' hr ho => Drop_law (g := s3.gf) m hp.fo hAb (by omega) w' ho) rfl rfl rfl ?_
    rintro q3 hfo3
    refine wx_cat ?_
    have e : takeD st r = ((judgeD st.ended ⟨r.index, t⟩, 0), { (holdD (endD st r t)).2 with held := pruneD m (endD st r t).held }) := by
      unfold takeD
      rw [← ht, if_neg h1, if_neg h2, if_neg h5, hfl]
    have hdone := h.done hr h2 he hp hp1 hp2 hc hfl hch3 hfo3 rfl
    rw [← hs3] at hdone
    unfold tkR
    rw [e]
    refine rSwY_0 ?_
    exact wq_ret2T ((A8, c8, E8), _) rfl rfl rfl rfl ⟨hb8, m, hdone⟩ (show _ = swM g s3 (adel r.index z.L1) z.k1 z.L2 z.k2 z.mc ((pruneD m (st.held ++ newD ⟨r.index, t⟩)).length : Nat) es3 clk2 q3 (A2.filter (fun x => decide (m < x.2.b))).length ++ [E8] from rfl)
  · obtain ⟨s0, hs0, hmem⟩ := lm1 e hel
    refine rSwY_0 ?_
    (try refine wx_ungd rfl rfl ?_)
    apply wx_val
    exact v_entryK (κ := kI) (g := s3.m1) (D := D) (L := adel r.index z.L1) (e := e) hok hel rfl
    rfl
    rw [hs0]
    refine rSwY_0 ?_
    have hsub : ∀ b ∈ D ++ [e.2.2], b ∈ (adel r.index z.L1).map (fun e => e.2.2) := fun b hb => by
      rcases List.mem_append.1 hb with hb | hb
      · exact i2 b hb
      · rw [List.mem_singleton.1 hb]; exact List.mem_map_of_mem (f := fun e : Int × Value × Nat => e.2.2) hel
    have hnd : (D ++ [e.2.2]).Nodup := List.nodup_append.2 ⟨i1, by simp, fun a ha b hb q => by rw [List.mem_singleton.1 hb] at q; exact hne (q ▸ ha)⟩
    have hlen := len_sub hnd hsub
    rw [List.length_map, List.length_append, List.length_singleton] at hlen
    refine wq_roundK ((D ++ [e.2.2], if s0 < m then s0 else m)) ?_ ?_ (by repeat (first | exact trivial | refine ⟨rfl, ?_⟩)) (by first | exact catEq | exact rfl)
    · dsimp only
      refine ⟨hnd, hsub, by split <;> omega, fun x hx hxD s hsx => ?_, ?_⟩
      · rcases List.mem_append.1 hxD with hxD | hxD
        · have := i4 x hx hxD s hsx
          split <;> omega
        · have hxe : x = e := stampI hok.stamps hx hel (List.mem_singleton.1 hxD)
          rw [hxe, hs0] at hsx
          have : s0 = s := by injection hsx
          split <;> omega
      · split
        · exact .inr ⟨_, hmem, rfl⟩
        · exact i5
    · dsimp only
      rw [List.length_append, List.length_singleton]
      omega
end
end Go.Proofs.Ytlioccfedophhaa
/- The document's sorting. -/
set_option linter.unusedVariables false
set_option linter.unusedSimpArgs false
namespace Go.Proofs.Ytlioccfedophhaa
open Go
set_option maxRecDepth 20000
set_option maxHeartbeats 4000000
attribute [local irreducible] WX WC WQ Val VCall
theorem rSort1_0 {A B : Prop} (k : B) (h : Hold B → A := by intro k; (repeat (first | (apply wx_val; (first | exact v_move rfl | exact v_assign rfl | exact v_len rfl rfl | exact v_lt rfl rfl | exact v_addi rfl rfl (by omega) | exact v_pickT rfl rfl | exact v_pickF rfl rfl | exact v_iaddr rfl rfl rfl (by omega) | exact v_quoi rfl rfl (by omega) | exact v_slice rfl rfl rfl rfl (by omega) (by omega)); rfl) | refine wx_no rfl rfl rfl ?_ | refine wx_ungd rfl rfl ?_ | refine wc_seq ?_ | refine wc_region ?_ | refine wx_nil ?_ | refine wq_next ?_ | refine wc_block ?_ | refine wc_ret ?_ | refine wc_skip ?_ | refine wc_exit ?_ | refine wq_then_ret ?_ | refine wq_then_exit ?_ | refine wq_block ?_ | refine wq_block_exit rfl ?_ | refine wc_condT rfl ?_ | refine wc_condF rfl ?_)); exact k.out) : A := h ⟨k⟩
def mergeR (k : Int) : List RowW → List RowW → List RowW
  | [], b => b
  | x :: a, [] => x :: a
  | x :: a, y :: b => if rowBefore k y x then y :: mergeR k (x :: a) b else x :: mergeR k a (y :: b)
termination_by a b => a.length + b.length
def sortR (k : Int) (l : List RowW) : List RowW := if h : l.length < 2 then l else mergeR k (sortR k (l.take (l.length / 2))) (sortR k (l.drop (l.length / 2)))
termination_by l.length
decreasing_by
  · simp; omega
  · simp; omega
theorem mergeR_len (k : Int) : ∀ a b : List RowW, (mergeR k a b).length = a.length + b.length := by
  intro a b
  induction a, b using mergeR.induct (k := k) with
  | case1 b => simp [mergeR]
  | case2 x a => simp [mergeR]
  | case3 x a y b h ih => rw [mergeR, if_pos h, List.length_cons, ih]; simp only [List.length_cons]; omega
  | case4 x a y b h ih => rw [mergeR, if_neg h, List.length_cons, ih]; simp only [List.length_cons]; omega
theorem sortR_len (k : Int) : ∀ n (l : List RowW), l.length = n → (sortR k l).length = n := by
  intro n
  induction n using Nat.strongRecOn with
  | _ n ih =>
    intro l hl
    rw [sortR]
    split
    · exact hl
    · rw [mergeR_len, ih _ (by simp; omega) (l.take (l.length / 2)) rfl, ih _ (by simp; omega) (l.drop (l.length / 2)) rfl]
      simp; omega
theorem Buf.made {e sz c g : Nat} (z : Array Value) (hm : c ≤ maxLen) : Buf e sz (some ⟨g, 0, none⟩) 0 c [] [(g, .cells (madeCells z (c * sz)) e (0, 0))] :=
  ⟨by simp, .inr ⟨g, _, (0, 0), rfl, rfl, Nat.zero_le _, hm, by simp [madeCells], by simp, .inl (Nat.le_refl _)⟩⟩
theorem drop_at {α : Type} {l : List α} {i : Nat} {x : α} (h : l[i]? = some x) : l.drop i = x :: l.drop (i + 1) := by
  obtain ⟨h5, rfl⟩ := List.getElem?_eq_some_iff.1 h
  exact List.drop_eq_getElem_cons h5
theorem mergeR_nil (k : Int) (a : List RowW) : mergeR k a [] = a := by cases a <;> simp [mergeR]
theorem Sorted_spec (k : Int) : ∀ (n : Nat) (l : List RowW) (A : Option Addr) (c : Nat), l.length = n → n ≤ 1048576 → n ≤ c → c ≤ maxLen → ∀ w : World, Vw [] w A (l.flatMap RowW.cells) →
    Calls Try.prog 32 #[.int .i64 k, .slice A l.length c] w (Ret w (ids []) (fun r : Option Addr × Nat × Seg => .slice r.1 (sortR k l).length r.2.1) (fun r => [r.2.2]) (BufRo 35 (sortR k l))) := by
  intro n
  induction n using Nat.strongRecOn with
  | _ n ih =>
  intro l A c hln hn hc hcm w hv
  subst hln
  simp only [maxLen] at hcm
  refine go [.int .i64 k, .slice A l.length c] [] Try.func32 Try.ntmps32 rfl rfl (own_nil w) ?_
  refine rSort1_0 ?_
  refine wc_if rfl (fun h1 => ?_) (fun h1 => ?_)
  · have e : sortR k l = l := by rw [sortR, dif_pos (by omega)]
    rw [e]
    refine rSort1_0 ?_
    refine wl_lit rfl rfl rfl rfl rfl (by decide) rfl (fun g3 => ?_)
    refine rSort1_0 ?_
    refine wl_append 0 rfl rfl (Buf.full [] rfl (by decide)) rfl rfl (fun w' hr => src_slice rfl (hv.keep hr).rd (flat_len (k := 7) (fun _ => rfl) _) (by decide) (one_flat (f := RowW.cells) (fun _ => rfl) _)) (by omega) rfl (fun A2 c2 E2 hb2 => ?_)
    simp only [Nat.zero_add, List.nil_append] at hb2 ⊢
    refine rSort1_0 ?_
    exact wq_ret1 (A2, c2, E2) rfl rfl hb2 rfl
  obtain ⟨h, hh⟩ : ∃ h, h = l.length / 2 := ⟨_, rfl⟩
  have hhI : (l.length : Int) / 2 = (h : Nat) := by omega
  have e : sortR k l = mergeR k (sortR k (l.take h)) (sortR k (l.drop h)) := by rw [sortR, dif_neg (by omega), hh]
  refine rSort1_0 ?_
  rw [hhI]
  skip
  have hlt : (l.take h).length = h := by simp; omega
  have hld : (l.drop h).length = l.length - h := by simp
  have en1 : ((h : Nat) : Int).toNat - Int.toNat 0 = (l.take h).length := by rw [hlt]; simp
  have en2 : ((l.length : Nat) : Int).toNat - ((h : Nat) : Int).toNat = (l.drop h).length := by rw [hld]; simp
  have hfl := flat_len (f := RowW.cells) (k := 7) (fun _ => rfl) l
  have v1 : ∀ {w' : World} {M : List Seg}, Res w (ids []) w' M → Vw [] w' (cutA A (Int.toNat 0) ((h : Nat) : Int).toNat c 7) ((l.take h).flatMap RowW.cells) := fun hr => by
    have := vw_cut (hv.keep hr) (l := 0) (h := h) (c := c) (sz := 7) (Nat.zero_le _) (by rw [hfl]; exact Nat.mul_le_mul_right _ (by omega)) (by omega)
    rw [flat_dt (f := RowW.cells) (k := 7) (fun _ => rfl)] at this
    simpa using this
  have v2 : ∀ {w' : World} {M : List Seg}, Res w (ids []) w' M → Vw [] w' (cutA A ((h : Nat) : Int).toNat ((l.length : Nat) : Int).toNat c 7) ((l.drop h).flatMap RowW.cells) := fun hr => by
    have := vw_cut (hv.keep hr) (l := h) (h := l.length) (c := c) (sz := 7) (by omega) (by rw [hfl]; exact Nat.le_refl _) (by omega)
    rw [flat_dt (f := RowW.cells) (k := 7) (fun _ => rfl), List.take_of_length_le (by simp)] at this
    simpa using this
  rw [en1]
  refine wl_callP [] [] rfl rfl (fun w' hr ho => ih h (by omega) (l.take h) _ _ hlt (by omega) (by simp; omega) (by simp only [maxLen]; omega) w' (v1 hr)) rfl rfl rfl rfl ?_
  rintro ⟨A1, c1, E1⟩ hb1
  dsimp only at hb1 ⊢
  (first | refine wx_mem (by simp only [pick, List.getElem?_cons_succ, List.getElem?_cons_zero, Option.getD_some, List.cons_append, List.nil_append, List.set_cons_zero, List.set_cons_succ] <;> rfl) ?_)
  refine rSort1_0 ?_
  rw [hhI]
  skip
  rw [en2]
  refine wl_callP [] [0] rfl rfl (fun w' hr ho => ih (l.length - h) (by omega) (l.drop h) _ _ hld (by omega) (by simp; omega) (by simp only [maxLen]; omega) w' (v2 hr)) rfl rfl rfl rfl ?_
  rintro ⟨A2, c2, E2⟩ hb2
  dsimp only at hb2 ⊢
  (first | refine wx_mem (by simp only [pick, List.getElem?_cons_succ, List.getElem?_cons_zero, Option.getD_some, List.cons_append, List.nil_append, List.set_cons_zero, List.set_cons_succ] <;> rfl) ?_)
  refine rSort1_0 ?_
  refine wl_make rfl rfl rfl rfl (by omega) (by omega) (by omega) rfl (fun g3 => ?_)
  have hb3 := Buf.made (e := 35) (sz := 7) (c := l.length) (g := g3) (Value.cells (.agg (RowW.cells ⟨0, 0, 0, 0, 0, 0, ByteArray.empty⟩).toArray)) (by simp only [maxLen]; omega)
  have hla := sortR_len k _ (l.take h) rfl
  have hlb := sortR_len k _ (l.drop h) rfl
  rw [e]
  rw [hlt] at hla
  rw [hld] at hlb
  generalize sortR k (l.take h) = sa at *
  generalize sortR k (l.drop h) = sb at *
  obtain ⟨E3, hE3⟩ : ∃ E3 : Seg, E3 = [(g3, .cells (madeCells (Value.cells (.agg (RowW.cells ⟨0, 0, 0, 0, 0, 0, ByteArray.empty⟩).toArray)) (l.length * 7)) 35 (0, 0))] := ⟨_, rfl⟩
  rw [← hE3] at hb3
  refine wx_mem (M' := [E3, E2, E1]) (by rw [hE3]; rfl) ?_
  refine rSort1_0 ?_
  refine wc_loop (ι := Nat × Nat × List RowW × Option Addr × Nat × Seg) (fun q => [(0, .int .i64 k), (5, .slice A1 sa.length c1), (6, .slice A2 sb.length c2), (7, .slice q.2.2.2.1 q.2.2.1.length q.2.2.2.2.1), (8, .int .i64 (q.1 : Nat)), (9, .int .i64 (q.2.1 : Nat))]) (fun q => [q.2.2.2.2.2, E2, E1])
    (fun q => q.1 ≤ sa.length ∧ q.2.1 ≤ sb.length ∧ q.2.2.1.length = q.1 + q.2.1 ∧ q.2.2.1 ++ mergeR k (sa.drop q.1) (sb.drop q.2.1) = mergeR k sa sb ∧ BufRo 35 q.2.2.1 q.2.2.2) (fun q => sa.length + sb.length - q.1 - q.2.1) (0, 0, [], some ⟨g3, 0, none⟩, l.length, E3) ⟨Nat.zero_le _, Nat.zero_le _, rfl, rfl, hb3⟩ ⟨rfl, rfl, rfl, rfl, rfl, rfl, trivial⟩ rfl ?_
  clear hb3 hE3
  rintro ⟨i, j, O, A3, c3, E3⟩ ⟨hi, hj, hO, hm, hb3⟩
  dsimp only at hi hj hO hm hb3 ⊢
  refine rSort1_0 ?_
  by_cases hia : i < sa.length
  · obtain ⟨x, hx⟩ : ∃ x, sa[i]? = some x := ⟨sa[i]'(by omega), List.getElem?_eq_getElem _⟩
    obtain ⟨ga, rfl⟩ := hb1.ptr (by omega)
    have hdx := drop_at hx
    refine wx_yes 37 rfl (decide_eq_true (by omega)) ?_
    refine rSort1_0 ?_
    by_cases hjb : j < sb.length
    · obtain ⟨y, hy⟩ : ∃ y, sb[j]? = some y := ⟨sb[j]'(by omega), List.getElem?_eq_getElem _⟩
      obtain ⟨gb, rfl⟩ := hb2.ptr (by omega)
      have hdy := drop_at hy
      rw [hdx, hdy, mergeR] at hm
      refine wc_held [E3, E2, E1] rfl ?_
      refine tkJ 0 rfl (v_move rfl) (fun _ h => h) ?_
      refine tkJ 1 rfl (v_move rfl) (fun _ h => h) ?_
      refine tkJ 2 rfl (v_len rfl rfl) (fun _ h => h) ?_
      refine tkJ 3 rfl (v_ge rfl rfl) (fun _ h => h) ?_
      refine tkJ 4 rfl (v_move rfl) (fun _ h => h) ?_
      refine wh_not 47 rfl (decide_eq_false (by omega)) ?_
      refine tkgJ 5 rfl (v_move rfl) (fun _ h => h) ?_
      refine tkgJ 6 rfl (v_move rfl) (fun _ h => h) ?_
      refine tkgJ 7 rfl (v_len rfl rfl) (fun _ h => h) ?_
      refine tkgJ 8 rfl (v_lt rfl rfl) (fun _ h => h) ?_
      refine tkgJ 9 rfl (v_move rfl) (fun _ h => h) ?_
      refine wh_yes 52 rfl (decide_eq_true (by omega)) ?_
      refine tkgJ 10 rfl (v_move rfl) (fun _ h => h) ?_
      refine tkgJ 11 rfl (v_move rfl) (fun _ h => h) ?_
      refine tkgJ 12 rfl (v_move rfl) (fun _ h => h) ?_
      refine tkgJ 13 rfl (v_iaddr rfl rfl rfl (by omega)) (fun _ h => h) ?_
      refine tkgJ 14 rfl (v_loadA (cs := y.cells) rfl rfl (fun w' hr j u hj => hb2.elem (k := 7) (by decide) (fun _ => rfl) hy hr (m := 1) rfl hj)) (fun _ h => h) ?_
      refine tkgJ 15 rfl (v_move rfl) (fun _ h => h) ?_
      refine tkgJ 16 rfl (v_move rfl) (fun _ h => h) ?_
      refine tkgJ 17 rfl (v_iaddr rfl rfl rfl (by omega)) (fun _ h => h) ?_
      refine tkgJ 18 rfl (v_loadA (cs := x.cells) rfl rfl (fun w' hr j u hj => hb1.elem (k := 7) (by decide) (fun _ => rfl) hx hr (m := 2) rfl hj)) (fun _ h => h) ?_
      refine efX 19 rfl ?_
      refine wx_ungd rfl rfl ?_
      refine wx_vcall (vc_pure rfl rfl (fun w' => Before_spec k y x w')) rfl ?_
      (try refine wx_nil ?_)
      refine hdJ ?_
      refine tkgJ 20 rfl (v_not rfl) (fun _ h => h) ?_
      refine tkgJ 21 rfl (v_pickT rfl rfl) (fun _ h => h) ?_
      refine tkJ 22 rfl (v_pickF rfl rfl) (fun _ h => h) ?_
      refine wh_done (by decide +kernel) ?_
      refine rSort1_0 ?_
      refine wc_nif rfl (fun hbf => ?_) (fun hbf => ?_)
      · rw [if_pos hbf, ← hdx] at hm
        have hnext := hm
        refine rSort1_0 ?_
        apply wx_val
        exact v_loadA (cs := y.cells) rfl rfl (fun w' hr j u hj => hb2.elem (k := 7) (by decide) (fun _ => rfl) hy hr (m := 1) rfl hj)
        rfl
        refine wl_lit rfl rfl rfl rfl rfl (by decide) rfl (fun g4 => ?_)
        refine wl_appendS 0 (f := RowW.cells) y rfl rfl rfl hb3 rfl rfl (by exact List.append_nil _) rfl rfl (by omega) rfl (fun A4 c4 E4 hb4 => ?_)
        refine rSort1_0 ?_
        refine wq_round (i, j + 1, O ++ [y], A4, c4, E4) ⟨by (try dsimp only); omega, by (try dsimp only); omega, by (try dsimp only); rw [List.length_append]; simp only [List.length_cons, List.length_nil]; omega, by (try dsimp only); rw [List.append_assoc]; exact hnext, hb4⟩ (by (try dsimp only); omega) ⟨rfl, rfl, rfl, rfl, rfl, rfl, trivial⟩ rfl
      · rw [if_neg hbf, ← hdy] at hm
        have hnext := hm
        refine rSort1_0 ?_
        apply wx_val
        exact v_loadA (cs := x.cells) rfl rfl (fun w' hr j u hj => hb1.elem (k := 7) (by decide) (fun _ => rfl) hx hr (m := 2) rfl hj)
        rfl
        refine wl_lit rfl rfl rfl rfl rfl (by decide) rfl (fun g4 => ?_)
        refine wl_appendS 0 (f := RowW.cells) x rfl rfl rfl hb3 rfl rfl (by exact List.append_nil _) rfl rfl (by omega) rfl (fun A4 c4 E4 hb4 => ?_)
        refine rSort1_0 ?_
        refine wq_round (i + 1, j, O ++ [x], A4, c4, E4) ⟨by (try dsimp only); omega, by (try dsimp only); omega, by (try dsimp only); rw [List.length_append]; simp only [List.length_cons, List.length_nil]; omega, by (try dsimp only); rw [List.append_assoc]; exact hnext, hb4⟩ (by (try dsimp only); omega) ⟨rfl, rfl, rfl, rfl, rfl, rfl, trivial⟩ rfl
    · have hj' : sb.drop j = [] := List.drop_of_length_le (by omega)
      rw [hj', mergeR_nil, hdx] at hm
      have hnext : O ++ ([x] ++ mergeR k (sa.drop (i + 1)) (sb.drop j)) = mergeR k sa sb := by rw [hj', mergeR_nil]; exact hm
      refine wc_held [E3, E2, E1] rfl ?_
      refine tkJ 0 rfl (v_move rfl) (fun _ h => h) ?_
      refine tkJ 1 rfl (v_move rfl) (fun _ h => h) ?_
      refine tkJ 2 rfl (v_len rfl rfl) (fun _ h => h) ?_
      refine tkJ 3 rfl (v_ge rfl rfl) (fun _ h => h) ?_
      refine tkJ 4 rfl (v_move rfl) (fun _ h => h) ?_
      refine wh_yes 47 rfl (decide_eq_true (by omega)) ?_
      first | refine tkgJ 5 rfl (v_move rfl) (fun _ h => h) ?_ | refine tknJ 5 rfl (fun _ h => h) ?_
      first | refine tkgJ 6 rfl (v_move rfl) (fun _ h => h) ?_ | refine tknJ 6 rfl (fun _ h => h) ?_
      refine tknJ 7 rfl (fun _ h => h) ?_
      first | refine tkgJ 8 rfl (v_lt rfl rfl) (fun _ h => h) ?_ | refine tknJ 8 rfl (fun _ h => h) ?_
      first | refine tkgJ 9 rfl (v_move rfl) (fun _ h => h) ?_ | refine tknJ 9 rfl (fun _ h => h) ?_
      skip
      first | refine tkgJ 10 rfl (v_move rfl) (fun _ h => h) ?_ | refine tknJ 10 rfl (fun _ h => h) ?_
      first | refine tkgJ 11 rfl (v_move rfl) (fun _ h => h) ?_ | refine tknJ 11 rfl (fun _ h => h) ?_
      first | refine tkgJ 12 rfl (v_move rfl) (fun _ h => h) ?_ | refine tknJ 12 rfl (fun _ h => h) ?_
      first | refine tkgJ 13 rfl (v_iaddr rfl rfl rfl (by omega)) (fun _ h => h) ?_ | refine tknJ 13 rfl (fun _ h => h) ?_
      refine tknJ 14 rfl (fun _ h => h) ?_
      first | refine tkgJ 15 rfl (v_move rfl) (fun _ h => h) ?_ | refine tknJ 15 rfl (fun _ h => h) ?_
      first | refine tkgJ 16 rfl (v_move rfl) (fun _ h => h) ?_ | refine tknJ 16 rfl (fun _ h => h) ?_
      first | refine tkgJ 17 rfl (v_iaddr rfl rfl rfl (by omega)) (fun _ h => h) ?_ | refine tknJ 17 rfl (fun _ h => h) ?_
      refine tknJ 18 rfl (fun _ h => h) ?_
      refine tknJ 19 rfl (fun _ h => h) ?_
      first | refine tkgJ 20 rfl (v_not rfl) (fun _ h => h) ?_ | refine tknJ 20 rfl (fun _ h => h) ?_
      refine tknJ 21 rfl (fun _ h => h) ?_
      refine tkJ 22 rfl (v_pickT rfl rfl) (fun _ h => h) ?_
      refine wh_done (by decide +kernel) ?_
      refine rSort1_0 ?_
      skip
      apply wx_val
      exact v_loadA (cs := x.cells) rfl rfl (fun w' hr j u hj => hb1.elem (k := 7) (by decide) (fun _ => rfl) hx hr (m := 2) rfl hj)
      rfl
      refine wl_lit rfl rfl rfl rfl rfl (by decide) rfl (fun g4 => ?_)
      refine wl_appendS 0 (f := RowW.cells) x rfl rfl rfl hb3 rfl rfl (by exact List.append_nil _) rfl rfl (by omega) rfl (fun A4 c4 E4 hb4 => ?_)
      refine rSort1_0 ?_
      refine wq_round (i + 1, j, O ++ [x], A4, c4, E4) ⟨by (try dsimp only); omega, by (try dsimp only); omega, by (try dsimp only); rw [List.length_append]; simp only [List.length_cons, List.length_nil]; omega, by (try dsimp only); rw [List.append_assoc]; exact hnext, hb4⟩ (by (try dsimp only); omega) ⟨rfl, rfl, rfl, rfl, rfl, rfl, trivial⟩ rfl
  · have hi' : sa.drop i = [] := List.drop_of_length_le (by omega)
    refine wx_not 37 rfl (decide_eq_false (by omega)) ?_
    refine rSort1_0 ?_
    refine wc_if rfl (fun hjb => ?_) (fun hjb => ?_)
    · obtain ⟨y, hy⟩ : ∃ y, sb[j]? = some y := ⟨sb[j]'(by omega), List.getElem?_eq_getElem _⟩
      obtain ⟨gb, rfl⟩ := hb2.ptr (by omega)
      have hdy := drop_at hy
      rw [hi', hdy, mergeR] at hm
      have hnext : O ++ ([y] ++ mergeR k (sa.drop i) (sb.drop (j + 1))) = mergeR k sa sb := by rw [hi', mergeR]; exact hm
      refine rSort1_0 ?_
      refine wc_held [E3, E2, E1] rfl ?_
      refine tkJ 0 rfl (v_move rfl) (fun _ h => h) ?_
      refine tkJ 1 rfl (v_move rfl) (fun _ h => h) ?_
      refine tkJ 2 rfl (v_len rfl rfl) (fun _ h => h) ?_
      refine tkJ 3 rfl (v_ge rfl rfl) (fun _ h => h) ?_
      refine tkJ 4 rfl (v_move rfl) (fun _ h => h) ?_
      refine wh_not 47 rfl (decide_eq_false (by omega)) ?_
      refine tkgJ 5 rfl (v_move rfl) (fun _ h => h) ?_
      refine tkgJ 6 rfl (v_move rfl) (fun _ h => h) ?_
      refine tkgJ 7 rfl (v_len rfl rfl) (fun _ h => h) ?_
      refine tkgJ 8 rfl (v_lt rfl rfl) (fun _ h => h) ?_
      refine tkgJ 9 rfl (v_move rfl) (fun _ h => h) ?_
      refine wh_not 52 rfl (decide_eq_false (by omega)) ?_
      first | refine tkgJ 10 rfl (v_move rfl) (fun _ h => h) ?_ | refine tknJ 10 rfl (fun _ h => h) ?_
      first | refine tkgJ 11 rfl (v_move rfl) (fun _ h => h) ?_ | refine tknJ 11 rfl (fun _ h => h) ?_
      first | refine tkgJ 12 rfl (v_move rfl) (fun _ h => h) ?_ | refine tknJ 12 rfl (fun _ h => h) ?_
      first | refine tkgJ 13 rfl (v_iaddr rfl rfl rfl (by omega)) (fun _ h => h) ?_ | refine tknJ 13 rfl (fun _ h => h) ?_
      refine tknJ 14 rfl (fun _ h => h) ?_
      first | refine tkgJ 15 rfl (v_move rfl) (fun _ h => h) ?_ | refine tknJ 15 rfl (fun _ h => h) ?_
      first | refine tkgJ 16 rfl (v_move rfl) (fun _ h => h) ?_ | refine tknJ 16 rfl (fun _ h => h) ?_
      first | refine tkgJ 17 rfl (v_iaddr rfl rfl rfl (by omega)) (fun _ h => h) ?_ | refine tknJ 17 rfl (fun _ h => h) ?_
      refine tknJ 18 rfl (fun _ h => h) ?_
      refine tknJ 19 rfl (fun _ h => h) ?_
      first | refine tkgJ 20 rfl (v_not rfl) (fun _ h => h) ?_ | refine tknJ 20 rfl (fun _ h => h) ?_
      refine tkgJ 21 rfl (v_pickF rfl rfl) (fun _ h => h) ?_
      refine tkJ 22 rfl (v_pickF rfl rfl) (fun _ h => h) ?_
      refine wh_done (by decide +kernel) ?_
      refine rSort1_0 ?_
      skip
      apply wx_val
      exact v_loadA (cs := y.cells) rfl rfl (fun w' hr j u hj => hb2.elem (k := 7) (by decide) (fun _ => rfl) hy hr (m := 1) rfl hj)
      rfl
      refine wl_lit rfl rfl rfl rfl rfl (by decide) rfl (fun g4 => ?_)
      refine wl_appendS 0 (f := RowW.cells) y rfl rfl rfl hb3 rfl rfl (by exact List.append_nil _) rfl rfl (by omega) rfl (fun A4 c4 E4 hb4 => ?_)
      refine rSort1_0 ?_
      refine wq_round (i, j + 1, O ++ [y], A4, c4, E4) ⟨by (try dsimp only); omega, by (try dsimp only); omega, by (try dsimp only); rw [List.length_append]; simp only [List.length_cons, List.length_nil]; omega, by (try dsimp only); rw [List.append_assoc]; exact hnext, hb4⟩ (by (try dsimp only); omega) ⟨rfl, rfl, rfl, rfl, rfl, rfl, trivial⟩ rfl
    · have hj' : sb.drop j = [] := List.drop_of_length_le (by omega)
      rw [hi', hj', mergeR, List.append_nil] at hm
      subst hm
      refine rSort1_0 ?_
      refine wq_pickP [0] [1, 2] rfl rfl ?_
      exact wq_ret1 (A3, c3, E3) rfl rfl hb3 rfl
end Go.Proofs.Ytlioccfedophhaa
/- Sorting keeps the rows. -/
set_option linter.unusedVariables false
set_option linter.unusedSimpArgs false
namespace Go.Proofs.Ytlioccfedophhaa
open Go
theorem mergeR_perm (k : Int) : ∀ a b : List RowW, (mergeR k a b).Perm (a ++ b) := by
  intro a b
  induction a, b using mergeR.induct (k := k) with
  | case1 b => simp [mergeR]
  | case2 x a => simp [mergeR]
  | case3 x a y b h ih =>
    rw [mergeR, if_pos h]
    exact (ih.cons y).trans (List.perm_middle.symm)
  | case4 x a y b h ih =>
    rw [mergeR, if_neg h]
    exact ih.cons x
theorem sortR_perm (k : Int) : ∀ n (l : List RowW), l.length = n → (sortR k l).Perm l := by
  intro n
  induction n using Nat.strongRecOn with
  | _ n ih =>
    intro l hl
    rw [sortR]
    split
    · exact List.Perm.refl _
    · have h1 := ih _ (by simp; omega) (l.take (l.length / 2)) rfl
      have h2 := ih _ (by simp; omega) (l.drop (l.length / 2)) rfl
      refine (mergeR_perm k _ _).trans ((h1.append h2).trans ?_)
      rw [List.take_append_drop]
end Go.Proofs.Ytlioccfedophhaa
