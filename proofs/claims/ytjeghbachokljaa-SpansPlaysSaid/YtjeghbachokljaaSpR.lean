/- A range over a function, in the seat's own logic. -/
import Derived.Test.YtjeghbachokljaaProg
import Derived.Test.YtjeghbachokljaaKit2
import Derived.RangeFuncLeaves
import Derived.RangeFuncSeq
import Derived.TacticsIn
set_option linter.unusedVariables false
set_option linter.unusedSimpArgs false
namespace Go.Proofs.Ytjeghbachokljaa
open Go
set_option maxRecDepth 20000
/-- the wide fence, in a round or not -/
abbrev FW (ro : Option Nat) : Fence := { Fence.wide with round := ro }
theorem calls_in {ro : Option Nat} {n : Nat} {P : Program} {f : FuncId} {args : Array Value} {w : World} {R : Ending → World → Prop} (h : Calls P f args w R) : CallsIn (FW ro) n P f args w R := callsIn_wide.2 h
theorem rows_in {ro : Option Nat} {n : Nat} {P : Program} {row : String} {args : Array Value} {w : World} {R : Value → World → Prop} (h : Rows P row args w R) : RowsIn (FW ro) n P row args w R := fun c cs _ => by
  obtain ⟨v, w', hR, hs⟩ := h c cs
  exact ⟨v, w', hR, (stepsIn_wide (P := P)).2 hs⟩
theorem Calls.mono' {P : Program} {f : FuncId} {args : Array Value} {w : World} {R R' : Ending → World → Prop} (h : Calls P f args w R) (hr : ∀ e w', R e w' → R' e w') : Calls P f args w R' :=
  callsIn_wide.1 ((callsIn_wide (n := 0).2 h).mono hr)
def noDefer (o : Oper) : Bool := match o.op with | .defer _ => false | _ => true
theorem noDefer_ne {o : Oper} (h : noDefer o = true) : ∀ c, o.op ≠ .defer c := fun c e => by simp [noDefer, e] at h
theorem oper_in {ro : Option Nat} {P : Program} {o : Oper} {a : Act} {w : World} {next next' : Act → World → Prop} {Q : Exit → Act → World → Prop} (hd : noDefer o = true) (hn : ∀ a w, next a w → next' a w) (h : o.wp P a w next Q) : o.wpIn (FW ro) 0 P a w next' Q := by
  refine ⟨fun _ _ => trivial, ?_⟩
  rw [Oper.semAt_eq _ _ _ (noDefer_ne hd)]
  unfold Oper.wp at h
  generalize (execOp a.eval o).run P w = r at h ⊢
  cases r with
  | halt s w' =>
    cases s with
    | panic v => exact h
    | _ => exact h
  | ok nx w' =>
    cases nx with
    | value v => exact hn _ _ h
    | skip => exact hn _ _ h
    | defer d => exact hn _ _ h
    | enter f args =>
      refine ⟨fun hh => by simp [FW, Fence.wide] at hh, (calls_in (Calls.mono' h fun e w' he => ?_))⟩
      cases e with
      | returned v => exact hn _ _ he
      | panicked c => exact he
      | outgrown => exact he
    | row row args =>
      exact ⟨fun hh => by simp [FW, Fence.wide] at hh, rows_in (Rows.mono h fun v w' he => hn _ _ he)⟩
    | _ => exact h.elim
theorem ops_in {ro : Option Nat} {P : Program} {ops : Array Oper} {Q : Exit → Act → World → Prop} (hQ : ¬ LetsOut Q) (hd : ∀ (i : Nat) (o : Oper), ops[i]? = some o → noDefer o = true) :
    ∀ (l : List Nat) (a : Act) (w : World), wpOps P ops Q l a w → wpOpsIn (FW ro) 0 P ops Q l a w
  | [], a, w, h => h
  | i :: rest, a, w, h => by
    unfold wpOps at h
    unfold wpOpsIn
    cases ho : ops[i]? with
    | none =>
      simp only [ho] at h ⊢
      exact ops_in hQ hd rest a w h
    | some o =>
      simp only [ho] at h ⊢
      split
      · rename_i hw
        rw [if_pos hw] at h
        rcases h with h | ⟨_, h⟩
        · exact oper_in (hd i o ho) (fun a w => ops_in hQ hd rest a w) h
        · exact absurd h hQ
      · rename_i hw
        rw [if_neg hw] at h
        exact ⟨fun _ _ => trivial, ops_in hQ hd rest _ w h⟩
theorem list_in {ro : Option Nat} {P : Program} {ops : Array Oper} {Q : Exit → Act → World → Prop} (hQ : ¬ LetsOut Q) :
    ∀ (l : List Oper) (a : Act) (w : World), l.all noDefer = true → wpList P ops Q l a w → wpListIn (FW ro) 0 P ops Q l a w
  | [], a, w, _, h => h
  | o :: rest, a, w, hd, h => by
    simp only [List.all_cons, Bool.and_eq_true] at hd
    unfold wpList at h
    unfold wpListIn
    split
    · rename_i hw
      rw [if_pos hw] at h
      rcases h with h | ⟨_, h⟩
      · exact oper_in hd.1 (fun a w => list_in hQ rest a w hd.2) h
      · exact absurd h hQ
    · rename_i hw
      rw [if_neg hw] at h
      exact ⟨fun _ _ => trivial, list_in hQ rest _ w hd.2 h⟩
theorem region_inL {ro : Option Nat} {P : Program} {Q : Exit → Act → World → Prop} {i : Nat} {l : List Oper} {a : Act} {w : World} (h : wpListIn (FW ro) 0 P l.toArray Q l a w) : (Code.region i l.toArray false).wpIn (FW ro) 0 P Q a w := by
  refine wpIn_region ?_
  rw [List.range_eq_range', ← Array.length_toList, wpOpsIn_eq_wpListIn l.toArray.toList 0 (by simp)]
  exact h
theorem regionD_in {ro : Option Nat} {P : Program} {Q : Exit → Act → World → Prop} {i : Nat} {ops : Array Oper} {a : Act} {w : World} {S : World → Prop} (hm : P.follows .mixedOrders = true) (hQ : ¬ LetsOut Q) (hd : ops.toList.all noDefer = true)
    (h : wpAnyH P .any ops Q S ops.size (Array.replicate ops.size false) a { w with drawn := w.drawn + 1 }) : (Code.region i ops true).wpIn (FW ro) 0 P Q a w :=
  wpIn_region_draw fun t => by
    simp only [Region.schedule, hm, Bool.true_or, if_true]
    exact ops_in hQ (fun i o ho => List.all_eq_true.1 hd o (List.mem_of_getElem? (by simpa using ho))) _ a _ (wpAny_sound ops.size t _ a _ (wpAny_of_held _ _ _ _ h))
/-! ### code within a round -/
def WR (P : Program) (Q : Exit → Act → World → Prop) (nt : Sh) (w0 : World) (X : List Nat) (lp : Nat) (c : Code) (fr : Fr) (M : List Seg) : Prop := ∀ a w, St nt a fr → Res w0 X w M → c.wpIn (FW (some lp)) 0 P Q a w
section R
variable {P : Program} {Q : Exit → Act → World → Prop} {nt : Sh} {w0 : World} {X : List Nat} {fr : Fr} {M : List Seg} {lp : Nat}
theorem wr_seq {x y : Code} (h : WR P (Exit.then (fun a w => y.wpIn (FW (some lp)) 0 P Q a w) Q) nt w0 X lp x fr M) : WR P Q nt w0 X lp (.seq x y) fr M := fun a w hs hr => wpIn_seq (h a w hs hr)
theorem wr_skip (h : WQ Q nt w0 X .normal fr M) : WR P Q nt w0 X lp .skip fr M := fun a w hs hr => wpIn_skip (h a w hs hr)
theorem wr_block {i : Nat} {c : Code} (h : WR P (Exit.inBlock i Q) nt w0 X lp c fr M) : WR P Q nt w0 X lp (.block i c) fr M := fun a w hs hr => wpIn_block (h a w hs hr)
theorem wr_next {y : Code} (h : WR P Q nt w0 X lp y fr M) : WQ (Exit.then (fun a w => y.wpIn (FW (some lp)) 0 P Q a w) Q) nt w0 X .normal fr M := fun a w hs hr => h a w hs hr
theorem wr_region {i : Nat} {l : List Oper} (hQ : ¬ LetsOut Q) (hd : l.all noDefer = true) (h : WX .seq P l.toArray Q nt w0 X l fr M) : WR P Q nt w0 X lp (.region i l.toArray false) fr M := fun a w hs hr =>
  region_inL (list_in hQ l a w hd (h a w hs hr))
theorem wr_held (Ms : List Seg) {i : Nat} {l : List Oper} (hm : P.follows .mixedOrders = true) (hQ : ¬ LetsOut Q) (hd : l.all noDefer = true) (hq : PanicOk Q) (h : PanicOk Q → WH P l.toArray Q nt w0 X Ms l.length (Array.replicate l.length false) fr M) : WR P Q nt w0 X lp (.region i l.toArray true) fr M := fun a w hs hr =>
  regionD_in (S := fun w => Res w0 X w Ms) hm hQ (by simpa using hd) (by rw [show l.toArray.size = l.length from by simp]; exact h hq a _ hs (hr.drew _))
theorem wr_heldX (ks : List Nat) (Ms : List Seg) {i : Nat} {l : List Oper} (hm : P.follows .mixedOrders = true) (hQ : ¬ LetsOut Q) (hd : l.all noDefer = true) (hq : PanicNot ks Q) (h : PanicNot ks Q → WH P l.toArray Q nt w0 X Ms l.length (Array.replicate l.length false) fr M) : WR P Q nt w0 X lp (.region i l.toArray true) fr M := fun a w hs hr =>
  regionD_in (S := fun w => Res w0 X w Ms) hm hQ (by simpa using hd) (by rw [show l.toArray.size = l.length from by simp]; exact h hq a _ hs (hr.drew _))
theorem wr_if {x y : Code} {o : Operand} {p : Prop} [Decidable p] (hc : ev fr o = some (.bool (decide p))) (h1 : p → WR P Q nt w0 X lp x fr M) (h2 : ¬ p → WR P Q nt w0 X lp y fr M) : WR P Q nt w0 X lp (.cond o x y) fr M := fun a w hs hr => by
  by_cases hp : p
  · exact wpIn_cond_true (by rw [hs.ev hc, decide_eq_true hp]) (h1 hp a w hs hr)
  · exact wpIn_cond_false (by rw [hs.ev hc, decide_eq_false hp]) (h2 hp a w hs hr)
theorem out_then {N : Act → World → Prop} (h : ¬ LetsOut Q) : ¬ LetsOut (Exit.then N Q) := fun ⟨a, w, hq⟩ => h ⟨a, w, hq⟩
theorem out_block {i : Nat} (h : ¬ LetsOut Q) : ¬ LetsOut (Exit.inBlock i Q) := fun ⟨a, w, hq⟩ => h ⟨a, w, hq⟩
end R
/-! ### operations, where one calls yield -/
def WY (P : Program) (ops : Array Oper) (Q : Exit → Act → World → Prop) (nt : Sh) (w0 : World) (X : List Nat) (rest : List Oper) (fr : Fr) (M : List Seg) : Prop := ∀ a w, St nt a fr → Res w0 X w M → wpListIn (FW none) 0 P ops Q rest a w
section Y
variable {P : Program} {ops : Array Oper} {Q : Exit → Act → World → Prop} {nt : Sh} {w0 : World} {X : List Nat} {fr : Fr} {M : List Seg} {rest : List Oper}
theorem wy_of (hQ : ¬ LetsOut Q) (hd : rest.all noDefer = true) (h : WX .seq P ops Q nt w0 X rest fr M) : WY P ops Q nt w0 X rest fr M := fun a w hs hr => list_in hQ rest a w hd (h a w hs hr)
theorem wc_regionY {i : Nat} {l : List Oper} (h : WY P l.toArray Q nt w0 X l fr M) : WC P Q nt w0 X (.region i l.toArray false) fr M := fun a w hs hr => wpIn_wide.1 (region_inL (ro := none) (h a w hs hr))
theorem wy_val {d : Nat} {op : Op} {ty : TypeId} {pos : String} {af : Array Edge} {gd : Option (Nat × Bool)} {v : Value} (hv : Val P nt w0 X fr M ⟨some d, op, ty, pos, af, gd⟩ v) (hg : gd = none ∨ ∃ j b s, gd = some (j, b) ∧ gslot ops j = some s ∧ look fr s = some (.bool b)) (hnd : noDefer ⟨some d, op, ty, pos, af, gd⟩ = true) (hd : Nat.blt d nt.n = true)
    (h : WY P ops Q nt w0 X rest ((d, v) :: fr) M) : WY P ops Q nt w0 X (⟨some d, op, ty, pos, af, gd⟩ :: rest) fr M := fun a w hs hr => by
  unfold wpListIn
  have hw : Region.wanted ⟨some d, op, ty, pos, af, gd⟩ (yielded ops a.tmps) = true := by
    rcases hg with rfl | ⟨j, b, s, rfl, hj, hb⟩
    · exact wanted_none rfl
    · exact wanted_yes hs rfl hj hb
  rw [if_pos hw]
  refine oper_in (next := fun a w => wpListIn (FW none) 0 P ops Q rest a w) hnd (fun _ _ h => h) ?_
  unfold Oper.wp
  rw [hv a w hs hr]
  exact h _ _ (hs.put v (by simpa using hd)) hr
theorem wy_no {d : Nat} {op : Op} {ty : TypeId} {pos : String} {af : Array Edge} {j s : Nat} {b : Bool} (hj : gslot ops j = some s) (hb : look fr s = some (.bool (!b))) (hd : Nat.blt d nt.n = true)
    (h : WY P ops Q nt w0 X rest ((d, undef) :: fr) M) : WY P ops Q nt w0 X (⟨some d, op, ty, pos, af, some (j, b)⟩ :: rest) fr M := fun a w hs hr => by
  unfold wpListIn
  rw [if_neg (by rw [wanted_no hs rfl hj hb]; decide)]
  exact ⟨fun _ _ => trivial, h _ _ (hs.put undef (by simpa using hd)) hr⟩
theorem wy_yield {d l : Nat} {x y : Operand} {t ty : TypeId} {pos : String} {af : Array Edge} {gd : Option (Nat × Bool)} {v : Value} {β : Type} {val : β → Value} {MM : β → List Seg} {φ : β → Prop} {M1 L : List Seg}
    (hc : ∀ w, Res w0 X w (M1 ++ L) → Own w M1 → YieldAt Fence.wide 0 P l #[v] w (Ret w (ids M1) val MM φ)) [T : Takes M1 M L] (hx : ev fr x = some (.func (.yield l) #[] #[])) (hy : ev fr y = some v)
    (hg : gd = none ∨ ∃ j b s, gd = some (j, b) ∧ gslot ops j = some s ∧ look fr s = some (.bool b)) (hd : Nat.blt d nt.n = true)
    (h : ∀ z, φ z → WY P ops Q nt w0 X rest ((d, val z) :: fr) (MM z ++ L)) : WY P ops Q nt w0 X (⟨some d, .call ⟨.value x, #[y], #[t]⟩, ty, pos, af, gd⟩ :: rest) fr M := fun a w hs hr => by
  unfold wpListIn
  have hw : Region.wanted ⟨some d, .call ⟨.value x, #[y], #[t]⟩, ty, pos, af, gd⟩ (yielded ops a.tmps) = true := by
    rcases hg with rfl | ⟨j, b, s, rfl, hj, hb⟩
    · exact wanted_none rfl
    · exact wanted_yes hs rfl hj hb
  rw [if_pos hw]
  have hp := hr.perm T.perm
  obtain ⟨fn, tmps, assign, body, hyl, hR⟩ := hc w hp hp.own.left
  refine ⟨fun _ _ => trivial, ?_⟩
  have he : (Oper.semAt (FW none).round a.eval ⟨some d, .call ⟨.value x, #[y], #[t]⟩, ty, pos, af, gd⟩).run P w = .ok (.round l fn tmps assign body) w := by
    rw [Oper.semAt_eq _ _ _ (by simp)]
    simp [execOp, resolve, hs.ev hx, hs.ev hy, invoke, hyl, Deferred.ofValue]
  rw [he]
  refine ⟨fun hh => by simp [FW, Fence.wide] at hh, RoundIn.mono (F := FW none) hR fun e w' hw' => ?_⟩
  obtain ⟨z, hz, rfl, hr'⟩ := hw'
  exact h z hz _ _ (hs.put _ (by simpa using hd)) (hp.call hr')
end Y
theorem yield_mono {F : Fence} {m : Nat} {P : Program} {l : Nat} {args : Array Value} {W : World} {R R' : Ending → World → Prop} (h : YieldAt F m P l args W R) (hr : ∀ e w', R e w' → R' e w') : YieldAt F m P l args W R' := by
  obtain ⟨a, b, c, d, e, f⟩ := h
  exact ⟨a, b, c, d, e, RoundIn.mono f hr⟩
/-! ### one round, and the statement -/
/-- the loop's record -/
def rec0 (fn : FuncId) (tmps : Array Value) (ps : Array Tmp) (assign body : Code) (D : Nat) : Loop := { state := .ready, pending := none, fn := fn, tmps := tmps, params := ps, assign := assign, body := body, defers := D }
abbrev lpB (l : Nat) (r : Loop) : Seg := [(l, .loop r)]
abbrev dfB (D : Nat) : Seg := [(D, .deferred (some []))]
def busy (r : Loop) : Loop := { r with state := .busy }
/-- behind the assignments of a round -/
def assQ (P : Program) (l : Nat) (body : Code) (R : Ending → World → Prop) : Exit → Act → World → Prop :=
  Exit.then (fun a₁ w₁ => ∃ w₂, (Instr.beginRound l).run P w₁ = .ok () w₂ ∧ body.wpIn (FW (some l)) 0 P (roundPost P l R) a₁ w₂) (fun _ _ _ => False)
theorem out_ass {P : Program} {l : Nat} {body : Code} {R : Ending → World → Prop} : ¬ LetsOut (assQ P l body R) := fun ⟨_, _, h⟩ => h
theorem out_round {P : Program} {l : Nat} {R : Ending → World → Prop} : ¬ LetsOut (roundPost P l R) := fun ⟨_, _, h⟩ => h
theorem panicOk_round {P : Program} {l : Nat} {R : Ending → World → Prop} : PanicOk (roundPost P l R) := fun _ _ _ _ _ h => h.elim
section S
variable {P : Program} {nt : Sh} {w0 : World} {X : List Nat} {fr : Fr} {M R' : List Seg} {l : Nat}
theorem res_put {w : World} {g : Nat} {o o' : Obj} (h : Res w0 X w M) [T : Take [(g, o)] M R'] : w.heap[g]? = some o ∧ Res w0 X (w.putObj g o') ([(g, o')] :: R') := by
  have hp := h.perm T.perm
  have hb := hp.blk (i := 0) (j := 0) rfl rfl
  exact ⟨hb, hp.turnAt (i := 0) rfl (res_obj hb)⟩
theorem wq_begin {body : Code} {r : Loop} {R : Ending → World → Prop} (hready : r.state = .ready) [T : Take (lpB l r) M R'] (h : WR P (roundPost P l R) nt w0 X l body fr (lpB l (busy r) :: R')) : WQ (assQ P l body R) nt w0 X .normal fr M := fun a w hs hr => by
  obtain ⟨hb, hr'⟩ := res_put (g := l) (o := .loop r) (o' := .loop (busy r)) hr
  exact ⟨_, run_beginRound hb hready, h a _ hs hr'⟩
theorem wq_end {β : Type} {MM : β → List Seg} {φ : β → Prop} {r : Loop} (hready : r.state = .ready) (hpend : r.pending = none) (x : β) (hφ : φ x) [T : Take (lpB l (busy r)) M R'] {L : List Seg} [T2 : Takes (MM x) (lpB l r :: R') L] : WQ (roundPost P l (Ret w0 X (fun _ => .bool true) MM φ)) nt w0 X .normal fr M := fun a w hs hr => by
  obtain ⟨hb, hr'⟩ := res_put (g := l) (o := .loop (busy r)) (o' := .loop r) hr
  refine ⟨_, _, run_endRound none hb, x, hφ, rfl, ?_⟩
  have e : ({ busy r with state := if (none : Option Code).isNone then LoopState.ready else .done, pending := none } : Loop) = r := by
    cases r
    simp only at hready hpend
    subst hready hpend
    rfl
  rw [e]
  exact (hr'.perm T2.perm).drop
theorem wq_endM {β : Type} {MM : β → List Seg} {φ : β → Prop} {r : Loop} (hready : r.state = .ready) (hpend : r.pending = none) (x : β) (hφ : φ x) {M2 : List Seg} (hM : MM x = M2) [T : Take (lpB l (busy r)) M R'] {L : List Seg} [T2 : Takes M2 (lpB l r :: R') L] : WQ (roundPost P l (Ret w0 X (fun _ => .bool true) MM φ)) nt w0 X .normal fr M := by
  subst hM
  exact wq_end hready hpend x hφ
/-- a round: yield's contract out of the body's walk -/
theorem yield_of {n : Nat} {a : Act} {fn : FuncId} {p D : Nat} {assign body : Code} {v : Value} {R : Ending → World → Prop} {w : World} {M1 : List Seg} {rc : Loop} (erc : rc = rec0 fn a.tmps #[p] assign body D) (hs : St ⟨n, []⟩ a fr) (hp : Nat.blt p n = true) (ho : Own w (lpB l rc :: M1))
    (h : WR P (assQ P l body R) ⟨n, []⟩ w (ids (lpB l rc :: M1)) l assign ((p, v) :: fr) (lpB l rc :: M1)) : YieldAt Fence.wide 0 P l #[v] w R := by
  subst erc
  have hb := (Res.refl ho).blk (i := 0) (j := 0) rfl rfl
  have hy := run_yield (P := P) (args := #[v]) hb rfl
  refine ⟨_, _, _, _, hy, roundIn_of_wpIn trivial ?_⟩
  have hs' := hs.put (d := p) v (by simpa using hp)
  have hda : a.defers = [] := hs.calm
  refine h _ w ?_ (Res.refl ho)
  have e : ({ tmps := ((#[p] : Array Tmp).zip #[v]).foldl (fun t (q, u) => t.setIfInBounds q u) a.tmps, defers := [] } : Act) = a.put (some p) v := by
    cases a
    simp only at hda
    subst hda
    simp [Act.put]
  exact e ▸ hs'
end S
/-- for s := range f { .. } -/
theorem wc_rangeFunc {P : Program} {Q : Exit → Act → World → Prop} {n : Nat} {w0 : World} {X : List Nat} {fr : Fr} {M : List Seg} {o : Operand} {p gf : Nat} {lb : Array Value} {assign body : Code} {β : Type} {val : β → Value} {MM : β → List Seg} {φ : β → Prop} {M1 L : List Seg}
    (hx : ev fr o = some (.func (.func gf) #[] lb)) (hf : okFn P gf = true) [T : Takes M1 M L]
    (hc : ∀ l D fn a w rc, rc = rec0 fn a.tmps #[p] assign body D → St ⟨n, []⟩ a fr → Own w (lpB l rc :: M1) → Calls P gf (#[.func (.yield l) #[] #[]] ++ lb) w (Ret w (ids (lpB l rc :: M1)) val (fun x => lpB l rc :: MM x) φ))
    (h : ∀ x D, φ x → WQ Q ⟨n, [{ target := .collected D, args := #[] }]⟩ w0 X .normal fr (dfB D :: (MM x ++ L))) : WC P Q ⟨n, []⟩ w0 X (.rangeFunc o #[p] assign body) fr M := fun a w hs hr => by
  refine (wpIn_wide (n := 0)).1 (wpIn_rangeFunc fun fn _ => ?_)
  have hg := hs.ev hx
  obtain ⟨W1, hW1⟩ : ∃ W1, (w.alloc (.deferred (some []))).alloc (.loop (rec0 fn a.tmps #[p] assign body w.heap.size)) = W1 := ⟨_, rfl⟩
  have hr1 : Res w0 X W1 (lpB (w.heap.size + 1) (rec0 fn a.tmps #[p] assign body w.heap.size) :: dfB w.heap.size :: M) := by
    rw [← hW1]
    have h1 := hr.new (w' := w.alloc (.deferred (some []))) (.deferred (some [])) rfl rfl rfl rfl
    have h2 := h1.new (w' := (w.alloc (.deferred (some []))).alloc (.loop (rec0 fn a.tmps #[p] assign body w.heap.size))) (.loop (rec0 fn a.tmps #[p] assign body w.heap.size)) rfl rfl rfl rfl
    rwa [World.size_alloc] at h2
  have hr2 : Res w0 X W1 ((lpB (w.heap.size + 1) (rec0 fn a.tmps #[p] assign body w.heap.size) :: M1) ++ (dfB w.heap.size :: L)) :=
    hr1.perm (by
      refine List.Perm.cons _ ?_
      exact (List.Perm.cons _ T.perm).trans List.perm_middle.symm)
  refine ⟨w.heap.size + 1, [{ target := .collected w.heap.size, args := #[] }], W1, { target := .fn (.func gf) lb, args := #[.func (.yield (w.heap.size + 1)) #[] #[]] }, W1, gf,
    #[.func (.yield (w.heap.size + 1)) #[] #[]] ++ lb, W1, ?_, ?_, fun _ _ => trivial, ?_, fun hh => by simp [Fence.wide] at hh, ?_⟩
  · rw [← hW1]; exact run_enterLoop_outer _ _ _ _ _
  · simp only [resolve, hg]
    simp [go_sem]
  · simp [invoke, run_callFunc hf]
  · generalize w.heap.size = WS at *
    refine calls_in (ro := none) (Calls.mono' (hc _ _ fn a W1 _ rfl hs hr2.own.left) fun e w' he => ?_)
    obtain ⟨x, hφ, rfl, hx'⟩ := he
    have h3 : Res w0 X w' (lpB (WS + 1) (rec0 fn a.tmps #[p] assign body WS) :: (MM x ++ (dfB WS :: L))) := hr2.call hx'
    obtain ⟨hb, h4⟩ := res_put (g := WS + 1) (o := .loop (rec0 fn a.tmps #[p] assign body WS)) (o' := .loop { rec0 fn a.tmps #[p] assign body WS with state := .exhausted }) h3
    refine ⟨none, _, run_endLoop hb (by simp [rec0]), ?_⟩
    refine h x WS hφ _ _ ⟨hs.size, hs.has, ?_⟩ ?_
    · show [_] ++ a.defers = _
      rw [hs.calm]
      rfl
    · exact (h4.perm ((List.perm_append_comm (l₁ := [_])).trans (List.Perm.append_right _ List.perm_middle))).drop
/-! ### a function that holds such a loop -/
section L
variable {P : Program} {fn : Func} {w0 : World} {X : List Nat} {fr : Fr} {M : List Seg} {β : Type} {val : β → Value} {MM : β → List Seg} {φ : β → Prop}
theorem goM {f : FuncId} {c : Code} (args : List Value) {w : World} {R : Ending → World → Prop} (M : List Seg)
    (hf : P.funcs[f]? = some fn) {nt : Nat} (hnt : fn.ntmps = nt) (hb : fn.body = some c) (hn : Nat.ble args.length nt = true)
    (hM : Own w M) (h : WC P (bodyPostM Fence.wide 0 P fn R) ⟨nt, []⟩ w (ids M) c (argsFr 0 args) M) : Calls P f args.toArray w R := by
  subst hnt
  have hn := Nat.le_of_ble_eq_true hn
  refine (callsIn_wide (n := 0)).1 (callsIn_of_wp_marks hf hb trivial (wpIn_wide.2 (h _ w ⟨?_, fun k v e => ?_, rfl⟩ (Res.refl hM))))
  · simp; omega
  · have h1 := (argsFr_spec args 0 k v (List.replicate (fn.ntmps - args.length) undef) e).2
    have h2 : args.toArray ++ Array.replicate (fn.ntmps - args.toArray.size) undef = (args ++ List.replicate (fn.ntmps - args.length) undef).toArray := by simp
    show (args.toArray ++ Array.replicate (fn.ntmps - args.toArray.size) undef)[k]? = some v
    rw [h2, List.getElem?_toArray]
    simpa using h1
theorem wq_retM {n D : Nat} (x : β) {R' L : List Seg} [T : Take (dfB D) M R'] [T2 : Takes (MM x) R' L] (hr : ∀ a w, St ⟨n, [{ target := .collected D, args := #[] }]⟩ a fr → Res w0 X w R' → (results fn a.tmps).run P w = .ok (val x) w) (hφ : φ x) :
    WQ (bodyPostM Fence.wide 0 P fn (Ret w0 X val MM φ)) ⟨n, [{ target := .collected D, args := #[] }]⟩ w0 X .ret fr M := fun a w hs hres => by
  obtain ⟨hb, h1⟩ := res_put (g := D) (o := .deferred (some [])) (o' := .deferred none) hres
  have h2 : Res w0 X (w.putObj D (.deferred none)) R' := (h1.perm (List.perm_append_comm (l₁ := [_]))).drop
  show LeavesInM Fence.wide 0 P fn a.tmps _ a.defers _ w
  rw [hs.calm]
  refine ⟨by simp, .inl ⟨D, _, rfl, run_takeDeferred hb, ?_⟩⟩
  exact ⟨val x, hr a _ hs h2, x, hφ, rfl, (h2.perm T2.perm).drop⟩
theorem wq_retM1 {n D t : Nat} (x : β) {R' L : List Seg} [T : Take (dfB D) M R'] [T2 : Takes (MM x) R' L] (hr : fn.results = #[.tmp t]) (hv : look fr t = some (val x)) (hφ : φ x) :
    WQ (bodyPostM Fence.wide 0 P fn (Ret w0 X val MM φ)) ⟨n, [{ target := .collected D, args := #[] }]⟩ w0 X .ret fr M :=
  wq_retM x (fun a w hs _ => by rw [results_tmp hr, hs.get hv]) hφ
theorem out_bodyM {w : World} : ¬ LetsOut (bodyPostM Fence.wide 0 P fn (Ret w0 X val MM φ)) := fun ⟨_, _, _, _, he, _⟩ => by cases he
theorem out_body : ¬ LetsOut (bodyPost P fn (Ret w0 X val MM φ)) := fun ⟨_, _, _, _, he, _⟩ => by cases he
end L
/-! ### memory cut into other segments -/
section F
variable {w0 w : World} {X Y : List Nat} {M N : List Seg}
theorem Own.flatP (h : Own w M) (e : M.flatten.Perm N.flatten) : Own w N := ⟨((e.map _).nodup_iff).1 h.nd, fun p hp => h.at_ p (e.mem_iff.2 hp)⟩
theorem Res.flatP (h : Res w0 X w M) (e : M.flatten.Perm N.flatten) : Res w0 X w N := ⟨h.own.flatP e, fun i hi => h.sub i ((e.map _).mem_iff.2 hi), h.keep, h.size, h.os, h.tape, h.output⟩
theorem Res.xs (h : Res w0 X w M) (e : ∀ i, i ∈ X ↔ i ∈ Y) : Res w0 Y w M := ⟨h.own, fun i hi => (h.sub i hi).imp (e i).1 id, fun i hi hx => h.keep i hi (fun hx' => hx ((e i).1 hx')), h.size, h.os, h.tape, h.output⟩
theorem ids_flat (e : M.flatten.Perm N.flatten) : ∀ i, i ∈ ids M ↔ i ∈ ids N := fun i => (e.map _).mem_iff
theorem ret_flat {β : Type} {val : β → Value} {MM NN : β → List Seg} {φ : β → Prop} {e : Ending} {w' : World} (h : Ret w (ids M) val MM φ e w') (hM : M.flatten.Perm N.flatten) (hN : ∀ x, φ x → (MM x).flatten.Perm (NN x).flatten) : Ret w (ids N) val NN φ e w' := by
  obtain ⟨x, hx, he, hr⟩ := h
  exact ⟨x, hx, he, (hr.flatP (hN x hx)).xs (ids_flat hM)⟩
theorem flat_mid (A : Seg) (R S : List Seg) : (A :: (R ++ S)).flatten.Perm ((R ++ [A ++ S.flatten]).flatten) := by
  simp only [List.flatten_cons, List.flatten_append, List.flatten_nil, List.append_nil]
  exact List.perm_append_comm_assoc _ _ _
theorem flat_in (A : Seg) (S : List Seg) : ([A ++ S.flatten] : List Seg).flatten.Perm (A :: S).flatten := by
  simp only [List.flatten_cons, List.flatten_nil, List.append_nil]
  exact List.Perm.refl _
end F
end Go.Proofs.Ytjeghbachokljaa
