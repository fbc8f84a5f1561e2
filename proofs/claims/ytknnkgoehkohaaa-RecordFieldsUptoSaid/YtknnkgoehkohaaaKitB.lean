/- Rules of the seat's own logic for code and for the operations that don't touch memory. -/
import Derived.Test.YtknnkgoehkohaaaKitA
import Derived.Deep.Quiet
import Derived.OrdersHeld
set_option linter.unusedVariables false
set_option linter.unusedSimpArgs false
namespace Go.Proofs.Ytknnkgoehkohaaa
open Go

/-- Two ways through a region: the text's order ('seq'); the text's order in the place of any ('quiet': each operation only reads, or is a call that leaves memory). -/
inductive Way where | seq | quiet

def WX (md : Way) (P : Program) (ops : Array Oper) (Q : Exit → Act → World → Prop) (nt : Sh) (w0 : World) (X : List Nat) (rest : List Oper) (fr : Fr) (M : List Seg) : Prop :=
  match md with
  | .seq => ∀ a w, St nt a fr → Res w0 X w M → wpList P ops Q rest a w
  | .quiet => ∀ a, St nt a fr → wpQuiet P ops (fun w => Res w0 X w M) (fun a' => ∀ w', Res w0 X w' M → Q .normal a' w') rest a
def WC (P : Program) (Q : Exit → Act → World → Prop) (nt : Sh) (w0 : World) (X : List Nat) (c : Code) (fr : Fr) (M : List Seg) : Prop :=
  ∀ a w, St nt a fr → Res w0 X w M → c.wp P Q a w
def WQ (Q : Exit → Act → World → Prop) (nt : Sh) (w0 : World) (X : List Nat) (e : Exit) (fr : Fr) (M : List Seg) : Prop :=
  ∀ a w, St nt a fr → Res w0 X w M → Q e a w

theorem Res.drew {w0 w : World} {X : List Nat} {M : List Seg} (h : Res w0 X w M) (n : Nat) : Res w0 X { w with drawn := n } M :=
  ⟨⟨h.own.nd, h.own.at_⟩, h.sub, h.keep, h.size, h.os, h.tape, h.output⟩

section code
variable {P : Program} {Q : Exit → Act → World → Prop} {nt : Sh} {w0 : World} {X : List Nat} {fr : Fr} {M : List Seg}

theorem wc_seq {x y : Code} (h : WC P (Exit.then (y.wp P Q) Q) nt w0 X x fr M) : WC P Q nt w0 X (.seq x y) fr M :=
  fun a w hs hr => wp_seq (h a w hs hr)
theorem wq_next {y : Code} (h : WC P Q nt w0 X y fr M) : WQ (Exit.then (y.wp P Q) Q) nt w0 X .normal fr M := h
theorem wq_then_ret {N : Act → World → Prop} (h : WQ Q nt w0 X .ret fr M) : WQ (Exit.then N Q) nt w0 X .ret fr M := h
theorem wq_then_exit {N : Act → World → Prop} {i : Nat} (h : WQ Q nt w0 X (.exit i) fr M) : WQ (Exit.then N Q) nt w0 X (.exit i) fr M := h
theorem wq_then_panic {N : Act → World → Prop} {c : List PanicEntry} (h : WQ Q nt w0 X (.panic c) fr M) : WQ (Exit.then N Q) nt w0 X (.panic c) fr M := h
theorem wc_block {i : Nat} {c : Code} (h : WC P (Exit.inBlock i Q) nt w0 X c fr M) : WC P Q nt w0 X (.block i c) fr M :=
  fun a w hs hr => wp_block (h a w hs hr)
theorem wq_block {i : Nat} (h : WQ Q nt w0 X .normal fr M) : WQ (Exit.inBlock i Q) nt w0 X .normal fr M := h
theorem wq_block_ret {i : Nat} (h : WQ Q nt w0 X .ret fr M) : WQ (Exit.inBlock i Q) nt w0 X .ret fr M := h
theorem wq_block_panic {i : Nat} {c : List PanicEntry} (h : WQ Q nt w0 X (.panic c) fr M) : WQ (Exit.inBlock i Q) nt w0 X (.panic c) fr M := h
theorem wq_block_exit {i j : Nat} (hj : Nat.beq j i = true) (h : WQ Q nt w0 X .normal fr M) : WQ (Exit.inBlock i Q) nt w0 X (.exit j) fr M := by
  intro a w hs hr
  have : j = i := Nat.eq_of_beq_eq_true hj
  simp only [Exit.inBlock, if_pos this]
  exact h a w hs hr
theorem wq_block_pass {i j : Nat} (hj : Nat.beq j i = false) (h : WQ Q nt w0 X (.exit j) fr M) : WQ (Exit.inBlock i Q) nt w0 X (.exit j) fr M := by
  intro a w hs hr
  have : j ≠ i := Nat.ne_of_beq_eq_false hj
  simp only [Exit.inBlock, if_neg this]
  exact h a w hs hr
theorem wc_region {i : Nat} {l : List Oper} (h : WX .seq P l.toArray Q nt w0 X l fr M) : WC P Q nt w0 X (.region i l.toArray false) fr M :=
  fun a w hs hr => wp_region_lit (h a w hs hr)
theorem wc_quiet {i : Nat} {l : List Oper} (hm : P.follows .mixedOrders = true) (hB : Region.lexB .any l.toArray = true) (h : WX .quiet P l.toArray Q nt w0 X l fr M) : WC P Q nt w0 X (.region i l.toArray true) fr M :=
  fun a w hs hr => wp_region_quiet (C := fun w => Res w0 X w M) hm hB (hr.drew _) (by simpa using h a hs)
/-- operations that read, and nothing else -/
def readsOnly : Op → Bool
  | .move _ | .assign _ | .pick .. | .nilCheck _ | .binOp .. | .unOp .. | .load .. | .fieldAddr .. | .field .. | .index .. | .indexAddr .. | .slice .. | .extract .. | .build .. | .convert .. => true
  | .call c => match c.callee with
    | .builtin .len | .builtin .cap | .builtin .min | .builtin .max => true
    | _ => false
  | _ => false
theorem wc_reads {i : Nat} {l : List Oper} (hm : P.follows .mixedOrders = true) (hB : (l.all (fun o => readsOnly o.op) && Region.lexB .any l.toArray) = true) (h : WX .quiet P l.toArray Q nt w0 X l fr M) : WC P Q nt w0 X (.region i l.toArray true) fr M :=
  wc_quiet hm (by simp only [Bool.and_eq_true] at hB; exact hB.2) h
theorem wc_skip (h : WQ Q nt w0 X .normal fr M) : WC P Q nt w0 X .skip fr M := fun a w hs hr => wp_skip (h a w hs hr)
theorem wc_label {l : Nat} (h : WQ Q nt w0 X .normal fr M) : WC P Q nt w0 X (.label l) fr M := fun a w hs hr => wp_label (h a w hs hr)
theorem wc_ret (h : WQ Q nt w0 X .ret fr M) : WC P Q nt w0 X .ret fr M := fun a w hs hr => wp_ret (h a w hs hr)
theorem wc_exit {i : Nat} (h : WQ Q nt w0 X (.exit i) fr M) : WC P Q nt w0 X (.exit i) fr M := fun a w hs hr => wp_exit (h a w hs hr)
theorem wc_cond {c : Operand} {x y : Code} {t : Bool} (hc : ev fr c = some (.bool t)) (ht : t = true → WC P Q nt w0 X x fr M) (hf : t = false → WC P Q nt w0 X y fr M) :
    WC P Q nt w0 X (.cond c x y) fr M :=
  fun a w hs hr => wp_cond_split (t := t) (hs.ev hc) (fun h => ht h a w hs hr) (fun h => hf h a w hs hr)
theorem wx_nil {md : Way} {ops : Array Oper} (h : WQ Q nt w0 X .normal fr M) : WX md P ops Q nt w0 X [] fr M := by
  cases md with
  | seq => exact h
  | quiet => exact fun a hs w hr => h a w hs hr

/-- what a round leaves -/
def LoopI {ι : Type} (nt : Sh) (w0 : World) (X : List Nat) (F : ι → Fr) (MM : ι → List Seg) (ok : ι → Prop) (μ : ι → Nat) (i : ι) (a : Act) (w : World) : Prop :=
  ∃ j, ok j ∧ μ j < μ i ∧ St nt a (F j) ∧ Res w0 X w (MM j)
def CutI {ι : Type} (nt : Sh) (w0 : World) (X : List Nat) (F : ι → Fr) (MM : ι → List Seg) (ok : ι → Prop) (a : Act) (w : World) : Prop :=
  ∃ j, ok j ∧ St nt a (F j) ∧ Res w0 X w (MM j)
/-- A loop: what holds at each round's head is one of a family, told by an index. -/
theorem wc_loop {ι : Type} (F : ι → Fr) (MM : ι → List Seg) (ok : ι → Prop) (μ : ι → Nat) {c : Code} (i0 : ι) (h0 : ok i0) (hF : Sub (F i0) fr) (hM : M = MM i0)
    (round : ∀ i, ok i → WC P (Exit.then (LoopI nt w0 X F MM ok μ i) Q) nt w0 X c (F i) (MM i)) :
    WC P Q nt w0 X (.loop c) fr M := by
  intro a w hs hr b k cs
  have key : ∀ n i a w, μ i = n → ok i → St nt a (F i) → Res w0 X w (MM i) →
      ∃ e a' w', Q e a' w' ∧ Arrives P (lone (b.at a (.code c :: .inLoop c :: k)) cs w) b k cs e a' w' := by
    intro n
    induction n using Nat.strongRecOn with
    | _ n ih =>
      intro i a w hn hok hs hr
      obtain ⟨e, a₁, w₁, hq, harr⟩ := round i hok a w hs hr b (.inLoop c :: k) cs
      cases e with
      | normal =>
        obtain ⟨j, hj, hlt, hs1, hr1⟩ := hq
        obtain ⟨e₂, a₂, w₂, hq₂, harr₂⟩ := ih (μ j) (hn ▸ hlt) j a₁ w₁ rfl hj hs1 hr1
        exact ⟨e₂, a₂, w₂, hq₂, .of_steps (Steps.trans harr (.one step_inLoop)) harr₂⟩
      | exit id => exact ⟨_, a₁, w₁, hq, .pass (x := .inLoop c) rfl (fun _ _ => .inl (by simp)) harr⟩
      | goto l => exact ⟨_, a₁, w₁, hq, .pass (x := .inLoop c) rfl (fun _ _ => .inl (by simp)) harr⟩
      | ret => exact ⟨_, a₁, w₁, hq, .pass (x := .inLoop c) rfl (fun _ _ => .inl (by simp)) harr⟩
      | panic ch => exact ⟨_, a₁, w₁, hq, .pass (x := .inLoop c) rfl (fun _ _ => .inl (by simp)) harr⟩
      | outgrown => exact ⟨_, a₁, w₁, hq, .pass (x := .inLoop c) rfl (fun _ _ => .inl (by simp)) harr⟩
  obtain ⟨e, a', w', hq, harr⟩ := key _ i0 a w rfl h0 (hs.weak hF.spec) (hM ▸ hr)
  exact ⟨e, a', w', hq, .of_steps (.one step_loop) harr⟩
theorem wq_round {ι : Type} {F : ι → Fr} {MM : ι → List Seg} {ok : ι → Prop} {μ : ι → Nat} {i : ι} (j : ι) (h : ok j) (hμ : μ j < μ i) (hF : Sub (F j) fr) (hM : M = MM j) :
    WQ (Exit.then (LoopI nt w0 X F MM ok μ i) Q) nt w0 X .normal fr M :=
  fun a w hs hr => ⟨j, h, hμ, hs.weak hF.spec, hM ▸ hr⟩

/-- Ways that meet again. -/
theorem wc_seq_cut {ι : Type} (F : ι → Fr) (MM : ι → List Seg) (ok : ι → Prop) {x y : Code}
    (hx : WC P (Exit.then (CutI nt w0 X F MM ok) Q) nt w0 X x fr M) (hy : ∀ j, ok j → WC P Q nt w0 X y (F j) (MM j)) : WC P Q nt w0 X (.seq x y) fr M :=
  fun a w hs hr => wp_seq (wp_mono (hx a w hs hr) fun e a w hq => by
    cases e with
    | normal => obtain ⟨j, hj, hs1, hr1⟩ := hq; exact hy j hj a w hs1 hr1
    | _ => exact hq)
theorem wq_cut {ι : Type} {F : ι → Fr} {MM : ι → List Seg} {ok : ι → Prop} (j : ι) (h : ok j) (hF : Sub (F j) fr) (hM : M = MM j) :
    WQ (Exit.then (CutI nt w0 X F MM ok) Q) nt w0 X .normal fr M :=
  fun a w hs hr => ⟨j, h, hs.weak hF.spec, hM ▸ hr⟩
theorem wc_weak {c : Code} {fr' : Fr} (hF : Sub fr' fr) (h : WC P Q nt w0 X c fr' M) : WC P Q nt w0 X c fr M := fun a w hs hr => h a w (hs.weak hF.spec) hr
theorem wc_cast {c : Code} {fr' : Fr} {M' : List Seg} (hF : Sub fr' fr) (hM : M = M') (h : WC P Q nt w0 X c fr' M') : WC P Q nt w0 X c fr M := fun a w hs hr => h a w (hs.weak hF.spec) (hM ▸ hr)
theorem wc_perm {c : Code} {M' : List Seg} (hM : M.Perm M') (h : WC P Q nt w0 X c fr M') : WC P Q nt w0 X c fr M := fun a w hs hr => h a w hs (hr.perm hM)
end code

/-- The start of a call. -/
theorem enter {P : Program} {f : FuncId} {fn : Func} {c : Code} {args : List Value} {w : World} {R : Ending → World → Prop} {M : List Seg} (fr : Fr)
    (hf : P.funcs[f]? = some fn) (hb : fn.body = some c) (hn : args.length ≤ fn.ntmps) (hfr : ∀ k v, look fr k = some v → (args ++ List.replicate (fn.ntmps - args.length) undef)[k]? = some v)
    (hM : Own w M) (h : WC P (bodyPost P fn R) ⟨fn.ntmps, []⟩ w (ids M) c fr M) : Calls P f args.toArray w R := by
  refine calls_of_wp hf hb (h _ w ⟨?_, fun k v e => ?_, rfl⟩ (Res.refl hM))
  · simp; omega
  · have h1 := hfr k v e
    have h2 : args.toArray ++ Array.replicate (fn.ntmps - args.toArray.size) undef = (args ++ List.replicate (fn.ntmps - args.length) undef).toArray := by simp
    show (args.toArray ++ Array.replicate (fn.ntmps - args.toArray.size) undef)[k]? = some v
    rw [h2, List.getElem?_toArray]
    exact h1

/-- What a call comes to: one of a family of values and memories. -/
def Ret {β : Type} (w0 : World) (X : List Nat) (val : β → Value) (MM : β → List Seg) (φ : β → Prop) : Ending → World → Prop :=
  fun e w' => ∃ x, φ x ∧ e = .returned (val x) ∧ Res w0 X w' (MM x)

theorem wq_ret1 {β : Type} {P : Program} {fn : Func} {nt : Sh} [Z : Calm nt] {w0 : World} {X : List Nat} {fr : Fr} {M : List Seg} {val : β → Value} {MM : β → List Seg} {φ : β → Prop} (x : β)
    {t : Nat} (hr : fn.results = #[.tmp t]) (hv : look fr t = some (val x)) (hφ : φ x) (hM : M = MM x) : WQ (bodyPost P fn (Ret w0 X val MM φ)) nt w0 X .ret fr M := by
  intro a w hs hres
  refine bodyPost_ret (results_tmp hr _ _ _) (hs.calm.trans Z.eq) ⟨x, hφ, ?_, hM ▸ hres⟩
  rw [hs.get hv]
theorem wq_ret2 {β : Type} {P : Program} {fn : Func} {nt : Sh} [Z : Calm nt] {w0 : World} {X : List Nat} {fr : Fr} {M : List Seg} {val : β → Value} {MM : β → List Seg} {φ : β → Prop} (x : β)
    {t u : Nat} {v1 v2 : Value} (hr : fn.results = #[.tmp t, .tmp u]) (h1 : look fr t = some v1) (h2 : look fr u = some v2) (hv : val x = .tuple #[v1, v2]) (hφ : φ x) (hM : M = MM x) : WQ (bodyPost P fn (Ret w0 X val MM φ)) nt w0 X .ret fr M := by
  intro a w hs hres
  refine bodyPost_ret (results_tmp2 hr _ _ _) (hs.calm.trans Z.eq) ⟨x, hφ, ?_, hM ▸ hres⟩
  rw [hs.get h1, hs.get h2, hv]
theorem wq_ret3 {β : Type} {P : Program} {fn : Func} {nt : Sh} [Z : Calm nt] {w0 : World} {X : List Nat} {fr : Fr} {M : List Seg} {val : β → Value} {MM : β → List Seg} {φ : β → Prop} (x : β)
    {t u s : Nat} {v1 v2 v3 : Value} (hr : fn.results = #[.tmp t, .tmp u, .tmp s]) (h1 : look fr t = some v1) (h2 : look fr u = some v2) (h3 : look fr s = some v3) (hv : val x = .tuple #[v1, v2, v3]) (hφ : φ x) (hM : M = MM x) : WQ (bodyPost P fn (Ret w0 X val MM φ)) nt w0 X .ret fr M := by
  intro a w hs hres
  refine bodyPost_ret (v := .tuple #[v1, v2, v3]) ?_ (hs.calm.trans Z.eq) ⟨x, hφ, ?_, hM ▸ hres⟩
  · simp only [Go.results, hr]
    simp [hs.has _ _ h1, hs.has _ _ h2, hs.has _ _ h3]
  · rw [hv]

/-! ### operations -/
section ops
variable {P : Program} {ops : Array Oper} {Q : Exit → Act → World → Prop} {nt : Sh} {w0 : World} {X : List Nat} {fr : Fr} {M : List Seg} {rest : List Oper} {o : Oper}

def upd : Option Nat → Value → Fr → Fr
  | some d, v, fr => (d, v) :: fr
  | none, _, fr => fr
def inN : Option Nat → Nat → Bool
  | some d, n => Nat.blt d n
  | none, _ => true
theorem St.upd {a : Act} (h : St nt a fr) (dst : Option Nat) (v : Value) (hd : inN dst nt.n = true) : St nt (a.put dst v) (upd dst v fr) := by
  cases dst with
  | none => exact h
  | some d => exact h.put v (by simpa [inN] using hd)

/-- an operation that yields a value and may turn memory -/
theorem wl_step (hg : o.guard = none) (hd : inN o.dst nt.n = true)
    (hrun : ∀ a w, St nt a fr → Res w0 X w M → ∃ v w' M', (execOp a.eval o).run P w = .ok (.value v) w' ∧ Res w0 X w' M' ∧ WX .seq P ops Q nt w0 X rest (upd o.dst v fr) M') : WX .seq P ops Q nt w0 X (o :: rest) fr M := by
  intro a w hs hr
  obtain ⟨v, w', M', hv, hr', h⟩ := hrun a w hs hr
  refine wpList_plain hg fun K hK => ?_
  unfold Oper.wp
  rw [hv, Oper.upon_value]
  exact hK _ _ (h _ _ (hs.upd _ v hd) hr')
theorem wl_step_skip (hg : o.guard = none) (hd : inN o.dst nt.n = true)
    (hrun : ∀ a w, St nt a fr → Res w0 X w M → ∃ w' M', (execOp a.eval o).run P w = .ok .skip w' ∧ Res w0 X w' M' ∧ WX .seq P ops Q nt w0 X rest (upd o.dst undef fr) M') : WX .seq P ops Q nt w0 X (o :: rest) fr M := by
  intro a w hs hr
  obtain ⟨w', M', hv, hr', h⟩ := hrun a w hs hr
  refine wpList_plain hg fun K hK => ?_
  unfold Oper.wp
  rw [hv, Oper.upon_skip]
  exact hK _ _ (h _ _ (hs.upd _ _ hd) hr')
/-- a call -/
theorem wl_enter (hg : o.guard = none) (hd : inN o.dst nt.n = true)
    (hrun : ∀ a w, St nt a fr → Res w0 X w M → ∃ f args, (execOp a.eval o).run P w = .ok (.enter f args) w ∧
      Calls P f args w fun e w' => ∃ v, e = .returned v ∧ ∃ M', Res w0 X w' M' ∧ WX .seq P ops Q nt w0 X rest (upd o.dst v fr) M') : WX .seq P ops Q nt w0 X (o :: rest) fr M := by
  intro a w hs hr
  obtain ⟨f, args, hv, hc⟩ := hrun a w hs hr
  refine wpList_plain hg fun K hK => ?_
  unfold Oper.wp
  rw [hv, Oper.upon_enter]
  refine hc.mono fun e w' he => ?_
  obtain ⟨v, rfl, M', hr', h⟩ := he
  exact hK _ _ (h _ _ (hs.upd _ v hd) hr')

/-- the operation yields v and turns nothing -/
def Val (P : Program) (nt : Sh) (w0 : World) (X : List Nat) (fr : Fr) (M : List Seg) (o : Oper) (v : Value) : Prop :=
  ∀ a w, St nt a fr → Res w0 X w M → (execOp a.eval o).run P w = .ok (.value v) w
/-- the operation is a call that hands back v and leaves memory -/
def VCall (P : Program) (nt : Sh) (w0 : World) (X : List Nat) (fr : Fr) (M : List Seg) (o : Oper) (v : Value) : Prop :=
  ∀ a w, St nt a fr → Res w0 X w M → ∃ f args, (execOp a.eval o).run P w = .ok (.enter f args) w ∧ Calls P f args w fun e w' => e = .returned v ∧ Res w0 X w' M

theorem wanted_none {a : Act} (hg : o.guard = none) : Region.wanted o (yielded ops a.tmps) = true := by simp [Region.wanted, hg]

theorem wx_val0 {md : Way} {v : Value} (hv : Val P nt w0 X fr M o v) (hg : o.guard = none) (hd : inN o.dst nt.n = true) (h : WX md P ops Q nt w0 X rest (upd o.dst v fr) M) :
    WX md P ops Q nt w0 X (o :: rest) fr M := by
  cases md with
  | seq => exact wl_step hg hd fun a w hs hr => ⟨v, w, M, hv a w hs hr, hr, h⟩
  | quiet =>
    intro a hs
    unfold wpQuiet
    rw [if_pos (wanted_none hg)]
    exact ⟨v, fun w hw => by unfold Oper.quietAt; rw [hv a w hs hw]; exact ⟨rfl, rfl⟩, h _ (hs.upd _ v hd)⟩
theorem wx_vcall0 {md : Way} {v : Value} (hv : VCall P nt w0 X fr M o v) (hg : o.guard = none) (hd : inN o.dst nt.n = true) (h : WX md P ops Q nt w0 X rest (upd o.dst v fr) M) :
    WX md P ops Q nt w0 X (o :: rest) fr M := by
  cases md with
  | seq =>
    exact wl_enter hg hd fun a w hs hr => by
      obtain ⟨f, args, hf, hc⟩ := hv a w hs hr
      exact ⟨f, args, hf, hc.mono fun e w' he => ⟨v, he.1, M, he.2, h⟩⟩
  | quiet =>
    intro a hs
    unfold wpQuiet
    rw [if_pos (wanted_none hg)]
    refine ⟨v, fun w hw => ?_, h _ (hs.upd _ v hd)⟩
    obtain ⟨f, args, hf, hc⟩ := hv a w hs hw
    unfold Oper.quietAt
    rw [hf]
    exact ⟨rfl, hc⟩

/-! guards: the slot that is asked, and its bool -/
def gslot (ops : Array Oper) (j : Nat) : Option Nat := (ops[j]?).bind (·.dst)
theorem yielded_of {a : Act} {j s : Nat} {b : Bool} (hs : St nt a fr) (hj : gslot ops j = some s) (hb : look fr s = some (.bool b)) : yielded ops a.tmps j = some b := by
  unfold yielded
  unfold gslot at hj
  rw [hj]
  simp [hs.has _ _ hb]
theorem wanted_yes {a : Act} {j s : Nat} {b : Bool} (hs : St nt a fr) (hg : o.guard = some (j, b)) (hj : gslot ops j = some s) (hb : look fr s = some (.bool b)) : Region.wanted o (yielded ops a.tmps) = true := by
  simp [Region.wanted, hg, yielded_of hs hj hb]
theorem wanted_no {a : Act} {j s : Nat} {b : Bool} (hs : St nt a fr) (hg : o.guard = some (j, b)) (hj : gslot ops j = some s) (hb : look fr s = some (.bool (!b))) : Region.wanted o (yielded ops a.tmps) = false := by
  simp [Region.wanted, hg, yielded_of hs hj hb]
theorem wanted_undef {a : Act} {j s : Nat} {b : Bool} (hs : St nt a fr) (hg : o.guard = some (j, b)) (hj : gslot ops j = some s) (hb : look fr s = some undef) : Region.wanted o (yielded ops a.tmps) = false := by
  unfold gslot at hj
  simp [Region.wanted, hg, yielded, hj, hs.has _ _ hb, undef]
theorem wx_pass {md : Way} (hw : ∀ a, St nt a fr → Region.wanted o (yielded ops a.tmps) = false) (hd : inN o.dst nt.n = true) (h : WX md P ops Q nt w0 X rest (upd o.dst undef fr) M) : WX md P ops Q nt w0 X (o :: rest) fr M := by
  cases md with
  | seq =>
    intro a w hs hr
    unfold wpList
    rw [if_neg (by simp [hw a hs])]
    exact h _ _ (hs.upd _ _ hd) hr
  | quiet =>
    intro a hs
    unfold wpQuiet
    rw [if_neg (by simp [hw a hs])]
    exact h _ (hs.upd _ _ hd)
theorem wx_no0 {md : Way} {j s : Nat} {b : Bool} (hg : o.guard = some (j, b)) (hj : gslot ops j = some s) (hb : look fr s = some (.bool (!b))) (hd : inN o.dst nt.n = true) (h : WX md P ops Q nt w0 X rest (upd o.dst undef fr) M) : WX md P ops Q nt w0 X (o :: rest) fr M :=
  wx_pass (fun a hs => wanted_no hs hg hj hb) hd h
theorem wx_undef0 {md : Way} {j s : Nat} {b : Bool} (hg : o.guard = some (j, b)) (hj : gslot ops j = some s) (hb : look fr s = some undef) (hd : inN o.dst nt.n = true) (h : WX md P ops Q nt w0 X rest (upd o.dst undef fr) M) : WX md P ops Q nt w0 X (o :: rest) fr M :=
  wx_pass (fun a hs => wanted_undef hs hg hj hb) hd h
theorem wx_gval0 {md : Way} {v : Value} {j s : Nat} {b : Bool} (hg : o.guard = some (j, b)) (hj : gslot ops j = some s) (hb : look fr s = some (.bool b)) (hv : Val P nt w0 X fr M o v) (hd : inN o.dst nt.n = true)
    (h : WX md P ops Q nt w0 X rest (upd o.dst v fr) M) : WX md P ops Q nt w0 X (o :: rest) fr M := by
  cases md with
  | seq =>
    intro a w hs hr
    unfold wpList
    rw [if_pos (wanted_yes hs hg hj hb)]
    refine .inl ?_
    unfold Oper.wp
    rw [hv a w hs hr, Oper.upon_value]
    exact h _ _ (hs.upd _ _ hd) hr
  | quiet =>
    intro a hs
    unfold wpQuiet
    rw [if_pos (wanted_yes hs hg hj hb)]
    exact ⟨v, fun w hw => by unfold Oper.quietAt; rw [hv a w hs hw]; exact ⟨rfl, rfl⟩, h _ (hs.upd _ v hd)⟩
theorem wx_gcall0 {md : Way} {v : Value} {j s : Nat} {b : Bool} (hg : o.guard = some (j, b)) (hj : gslot ops j = some s) (hb : look fr s = some (.bool b)) (hv : VCall P nt w0 X fr M o v) (hd : inN o.dst nt.n = true)
    (h : WX md P ops Q nt w0 X rest (upd o.dst v fr) M) : WX md P ops Q nt w0 X (o :: rest) fr M := by
  cases md with
  | seq =>
    intro a w hs hr
    unfold wpList
    rw [if_pos (wanted_yes hs hg hj hb)]
    refine .inl ?_
    obtain ⟨f, args, hf, hc⟩ := hv a w hs hr
    unfold Oper.wp
    rw [hf, Oper.upon_enter]
    refine hc.mono fun e w' he => ?_
    obtain ⟨rfl, hr'⟩ := he
    exact h _ _ (hs.upd _ _ hd) hr'
  | quiet =>
    intro a hs
    unfold wpQuiet
    rw [if_pos (wanted_yes hs hg hj hb)]
    refine ⟨v, fun w hw => ?_, h _ (hs.upd _ v hd)⟩
    obtain ⟨f, args, hf, hc⟩ := hv a w hs hw
    unfold Oper.quietAt
    rw [hf]
    exact ⟨rfl, hc⟩
section lit
variable {d : Nat} {op : Op} {ty : TypeId} {pos : String} {af : Array Edge} {md : Way} {v : Value} {j s : Nat} {b : Bool}
theorem wx_val (hv : Val P nt w0 X fr M ⟨some d, op, ty, pos, af, none⟩ v) (hd : Nat.blt d nt.n = true) (h : WX md P ops Q nt w0 X rest ((d, v) :: fr) M) : WX md P ops Q nt w0 X (⟨some d, op, ty, pos, af, none⟩ :: rest) fr M := wx_val0 hv rfl hd h
theorem wx_vcall (hv : VCall P nt w0 X fr M ⟨some d, op, ty, pos, af, none⟩ v) (hd : Nat.blt d nt.n = true) (h : WX md P ops Q nt w0 X rest ((d, v) :: fr) M) : WX md P ops Q nt w0 X (⟨some d, op, ty, pos, af, none⟩ :: rest) fr M := wx_vcall0 hv rfl hd h
theorem wx_no (hj : gslot ops j = some s) (hb : look fr s = some (.bool (!b))) (hd : Nat.blt d nt.n = true) (h : WX md P ops Q nt w0 X rest ((d, undef) :: fr) M) : WX md P ops Q nt w0 X (⟨some d, op, ty, pos, af, some (j, b)⟩ :: rest) fr M := wx_no0 rfl hj hb hd h
theorem wx_undef (hj : gslot ops j = some s) (hb : look fr s = some undef) (hd : Nat.blt d nt.n = true) (h : WX md P ops Q nt w0 X rest ((d, undef) :: fr) M) : WX md P ops Q nt w0 X (⟨some d, op, ty, pos, af, some (j, b)⟩ :: rest) fr M := wx_undef0 rfl hj hb hd h
theorem wx_gval (hj : gslot ops j = some s) (hb : look fr s = some (.bool b)) (hv : Val P nt w0 X fr M ⟨some d, op, ty, pos, af, some (j, b)⟩ v) (hd : Nat.blt d nt.n = true) (h : WX md P ops Q nt w0 X rest ((d, v) :: fr) M) : WX md P ops Q nt w0 X (⟨some d, op, ty, pos, af, some (j, b)⟩ :: rest) fr M := wx_gval0 rfl hj hb hv hd h
theorem wx_gcall (hj : gslot ops j = some s) (hb : look fr s = some (.bool b)) (hv : VCall P nt w0 X fr M ⟨some d, op, ty, pos, af, some (j, b)⟩ v) (hd : Nat.blt d nt.n = true) (h : WX md P ops Q nt w0 X rest ((d, v) :: fr) M) : WX md P ops Q nt w0 X (⟨some d, op, ty, pos, af, some (j, b)⟩ :: rest) fr M := wx_gcall0 rfl hj hb hv hd h
end lit
theorem wx_drop {md : Way} {E : Seg} (h : WX .seq P ops Q nt w0 X rest fr M) : WX .seq P ops Q nt w0 X rest fr (E :: M) :=
  fun a w hs hr => h a w hs ((hr.perm (List.perm_append_comm (l₁ := [E]) (l₂ := M))).drop)
theorem wx_perm {M' : List Seg} (hM : M.Perm M') (h : WX .seq P ops Q nt w0 X rest fr M') : WX .seq P ops Q nt w0 X rest fr M :=
  fun a w hs hr => h a w hs (hr.perm hM)
/-- a slot's value told in another way -/
theorem wx_frame {md : Way} {fr' : Fr} (hF : Sub fr' fr) (h : WX md P ops Q nt w0 X rest fr' M) : WX md P ops Q nt w0 X rest fr M := by
  cases md with
  | seq => exact fun a w hs hr => h a w (hs.weak hF.spec) hr
  | quiet => exact fun a hs => h a (hs.weak hF.spec)
end ops

/-! ### values -/
section vals
variable {P : Program} {nt : Sh} {w0 : World} {X : List Nat} {fr : Fr} {M : List Seg}
variable {dst : Option Nat} {ty : TypeId} {pos : String} {af : Array Edge} {gd : Option (Nat × Bool)}

theorem v_move {x : Operand} {v : Value} (hx : ev fr x = some v) : Val P nt w0 X fr M ⟨dst, .move x, ty, pos, af, gd⟩ v := fun a w hs hr => by simp [execOp, hs.ev hx]
theorem v_assign {x : Operand} {v : Value} (hx : ev fr x = some v) : Val P nt w0 X fr M ⟨dst, .assign x, ty, pos, af, gd⟩ v := fun a w hs hr => by simp [execOp, hs.ev hx]
theorem v_pick {c x y : Operand} {t : Bool} {v u : Value} (hc : ev fr c = some (.bool t)) (hx : ev fr x = some v) (hy : ev fr y = some u) : Val P nt w0 X fr M ⟨dst, .pick c x y, ty, pos, af, gd⟩ (if t then v else u) :=
  fun a w hs hr => by simp [execOp, hs.ev hc, hs.ev hx, hs.ev hy, asBool]
theorem v_pickT {c x y : Operand} {v : Value} (hc : ev fr c = some (.bool true)) (hx : ev fr x = some v) : Val P nt w0 X fr M ⟨dst, .pick c x y, ty, pos, af, gd⟩ v :=
  fun a w hs hr => by simp [execOp, hs.ev hc, hs.ev hx, asBool]
theorem v_pickF {c x y : Operand} {v : Value} (hc : ev fr c = some (.bool false)) (hy : ev fr y = some v) : Val P nt w0 X fr M ⟨dst, .pick c x y, ty, pos, af, gd⟩ v :=
  fun a w hs hr => by simp [execOp, hs.ev hc, hs.ev hy, asBool]
theorem v_nil {x : Operand} {p : Addr} (hx : ev fr x = some (.pointer (some p))) : Val P nt w0 X fr M ⟨dst, .nilCheck x, ty, pos, af, gd⟩ (.pointer (some p)) := fun a w hs hr => by simp [execOp, hs.ev hx]

theorem v_bin {op : BinOp} {t u : TypeId} {x y : Operand} {k : IntKind} {a b : Int} {v : Value} (hx : ev fr x = some (.int k a)) (hy : ev fr y = some (.int k b))
    (hv : ∀ w, (binOp op t (.int k a) (.int k b)).run P w = .ok v w) : Val P nt w0 X fr M ⟨dst, .binOp op t x y u, ty, pos, af, gd⟩ v := fun c w hs hr => by
  simp only [execOp, hs.ev hx, hs.ev hy]
  have e : (eqGuard op t x y (.int k a) (.int k b)).run P w = .ok () w := by
    unfold eqGuard
    cases op <;> simp
  simp [e, hv w]

section ints
variable {t u : TypeId} {x y : Operand} {k : IntKind} {a b : Int}
theorem v_add (hx : ev fr x = some (.int k a)) (hy : ev fr y = some (.int k b)) : Val P nt w0 X fr M ⟨dst, .binOp .add t x y u, ty, pos, af, gd⟩ (.int k (k.wrap (a + b))) := v_bin hx hy fun w => by simp [binOp, Op.intArith]
theorem v_sub (hx : ev fr x = some (.int k a)) (hy : ev fr y = some (.int k b)) : Val P nt w0 X fr M ⟨dst, .binOp .sub t x y u, ty, pos, af, gd⟩ (.int k (k.wrap (a - b))) := v_bin hx hy fun w => by simp [binOp, Op.intArith]
theorem v_mul (hx : ev fr x = some (.int k a)) (hy : ev fr y = some (.int k b)) : Val P nt w0 X fr M ⟨dst, .binOp .mul t x y u, ty, pos, af, gd⟩ (.int k (k.wrap (a * b))) := v_bin hx hy fun w => by simp [binOp, Op.intArith]
theorem v_eq (hx : ev fr x = some (.int k a)) (hy : ev fr y = some (.int k b)) : Val P nt w0 X fr M ⟨dst, .binOp .eql t x y u, ty, pos, af, gd⟩ (.bool (decide (a = b))) := v_bin hx hy fun w => by simp [binOp, Op.intCmp]; rfl
theorem v_ne (hx : ev fr x = some (.int k a)) (hy : ev fr y = some (.int k b)) : Val P nt w0 X fr M ⟨dst, .binOp .neq t x y u, ty, pos, af, gd⟩ (.bool (decide (a ≠ b))) := v_bin hx hy fun w => by simp [binOp, Op.intCmp]; rfl
theorem v_lt (hx : ev fr x = some (.int k a)) (hy : ev fr y = some (.int k b)) : Val P nt w0 X fr M ⟨dst, .binOp .lss t x y u, ty, pos, af, gd⟩ (.bool (decide (a < b))) := v_bin hx hy fun w => by simp [binOp, Op.intCmp]
theorem v_le (hx : ev fr x = some (.int k a)) (hy : ev fr y = some (.int k b)) : Val P nt w0 X fr M ⟨dst, .binOp .leq t x y u, ty, pos, af, gd⟩ (.bool (decide (a ≤ b))) := v_bin hx hy fun w => by simp [binOp, Op.intCmp]
theorem v_gt (hx : ev fr x = some (.int k a)) (hy : ev fr y = some (.int k b)) : Val P nt w0 X fr M ⟨dst, .binOp .gtr t x y u, ty, pos, af, gd⟩ (.bool (decide (b < a))) := v_bin hx hy fun w => by simp [binOp, Op.intCmp]
theorem v_ge (hx : ev fr x = some (.int k a)) (hy : ev fr y = some (.int k b)) : Val P nt w0 X fr M ⟨dst, .binOp .geq t x y u, ty, pos, af, gd⟩ (.bool (decide (b ≤ a))) := v_bin hx hy fun w => by simp [binOp, Op.intCmp]
end ints
end vals
end Go.Proofs.Ytknnkgoehkohaaa
