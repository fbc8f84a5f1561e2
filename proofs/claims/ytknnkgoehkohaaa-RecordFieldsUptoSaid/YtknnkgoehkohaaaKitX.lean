/- The seat's own logic: panics, calls that may end in one, calls that are put off, and recovering. -/
import Derived.Test.YtknnkgoehkohaaaKitT
import Derived.Recover
set_option linter.unusedVariables false
set_option linter.unusedSimpArgs false
namespace Go.Proofs.Ytknnkgoehkohaaa
open Go
abbrev entry (v : Value) : PanicEntry := { v := v, recovered := false }
/-- What a call comes to that may panic. -/
def RetP {β γ : Type} (w0 : World) (X : List Nat) (val : β → Value) (MM : β → List Seg) (φ : β → Prop) (pv : γ → Value) (PM : γ → List Seg) (ψ : γ → Prop) : Ending → World → Prop :=
  fun e w' => (∃ x, φ x ∧ e = .returned (val x) ∧ Res w0 X w' (MM x)) ∨ (∃ y, ψ y ∧ e = .panicked [entry (pv y)] ∧ Res w0 X w' (PM y))
section rules
variable {P : Program} {ops : Array Oper} {Q : Exit → Act → World → Prop} {nt : Sh} {w0 : World} {X : List Nat} {fr : Fr} {M : List Seg} {rest : List Oper} {o : Oper}
variable {dst : Option Nat} {ty : TypeId} {pos : String} {af : Array Edge} {gd : Option (Nat × Bool)} {t u : TypeId} {x y : Operand}
theorem wl_enterX (hg : o.guard = none) (hd : inN o.dst nt.n = true)
    (hrun : ∀ a w, St nt a fr → Res w0 X w M → ∃ f args, (execOp a.eval o).run P w = .ok (.enter f args) w ∧
      Calls P f args w fun e w' => (∃ v, e = .returned v ∧ ∃ M', Res w0 X w' M' ∧ WX .seq P ops Q nt w0 X rest (upd o.dst v fr) M') ∨ (∃ c, e = .panicked c ∧ ∃ M', Res w0 X w' M' ∧ WQ Q nt w0 X (.panic c) fr M')) : WX .seq P ops Q nt w0 X (o :: rest) fr M := by
  intro a w hs hr
  obtain ⟨f, args, hv, hc⟩ := hrun a w hs hr
  refine wpList_plain hg fun K hK => ?_
  unfold Oper.wp
  rw [hv, Oper.upon_enter]
  refine hc.mono fun e w' he => ?_
  rcases he with ⟨v, rfl, M', hr', h⟩ | ⟨c, rfl, M', hr', h⟩
  · exact hK _ _ (h _ _ (hs.upd _ v hd) hr')
  · exact h _ _ hs hr'
/-- a call by its contract, which may end in a panic -/
theorem wl_callX {d : Nat} {β γ : Type} {f : FuncId} {xs : List Operand} {tys : Array TypeId} {vs : List Value} {val : β → Value} {MM : β → List Seg} {φ : β → Prop} {pv : γ → Value} {PM : γ → List Seg} {ψ : γ → Prop} {M1 L : List Seg}
    (hc : ∀ w, Res w0 X w (M1 ++ L) → Own w M1 → Calls P f vs.toArray w (RetP w (ids M1) val MM φ pv PM ψ)) [T : Takes M1 M L] (hf : okFn P f = true) (hx : evs fr xs = some vs) (hd : Nat.blt d nt.n = true)
    (h : ∀ x, φ x → WX .seq P ops Q nt w0 X rest ((d, val x) :: fr) (MM x ++ L)) (hp : ∀ y, ψ y → WQ Q nt w0 X (.panic [entry (pv y)]) fr (PM y ++ L)) :
    WX .seq P ops Q nt w0 X (⟨some d, .call ⟨.value (.func f), xs.toArray, tys⟩, ty, pos, af, none⟩ :: rest) fr M :=
  wl_enterX rfl hd fun c w hs hr => ⟨f, vs.toArray, run_call hs hf hx, (hc w (hr.perm T.perm) (hr.perm T.perm).own.left).mono fun e w' he => by
    rcases he with ⟨x, hφ, rfl, hr'⟩ | ⟨y, hψ, rfl, hr'⟩
    · exact .inl ⟨val x, rfl, MM x ++ L, (hr.perm T.perm).call hr', h x hφ⟩
    · exact .inr ⟨_, rfl, PM y ++ L, (hr.perm T.perm).call hr', hp y hψ⟩⟩
theorem wl_panic {v : Value} (hx : ev fr x = some (.iface t v)) (h : WQ Q nt w0 X (.panic [entry (.iface t v)]) fr M) : WX .seq P ops Q nt w0 X (⟨none, .panic x, ty, pos, af, none⟩ :: rest) fr M := fun a w hs hr =>
  wpList_plain rfl fun K hK => by
    have e : (execOp a.eval ⟨none, .panic x, ty, pos, af, none⟩).run P w = .halt (.panic (.iface t v)) w := by
      simp [execOp, hs.ev hx, Instr.panic, goPanic, Sem.run]
    unfold Oper.wp
    rw [e, Oper.upon_panic]
    exact h a w hs hr
def notIface (P : Program) (t : TypeId) : Bool := match P.underlying t with
  | some (.interface _) => false
  | some _ => true
  | none => false
theorem v_mkIface {v : Value} (ht : notIface P t = true) (hx : ev fr x = some v) : Val P nt w0 X fr M ⟨dst, .makeInterface t x, ty, pos, af, gd⟩ (.iface t v) := fun c w hs hr => by
  unfold notIface at ht
  split at ht
  · cases ht
  · rename_i d h1 hu
    cases d <;> first | (exact absurd rfl (h1 _)) | simp [execOp, hs.ev hx, Instr.makeInterface, run_underlying hu]
  · cases ht
theorem v_mkFunc {fn : Fn} {fs cs : List Operand} {vs us : List Value} (h1 : evs fr fs = some vs) (h2 : evs fr cs = some us) : Val P nt w0 X fr M ⟨dst, .makeFunc fn fs.toArray cs.toArray, ty, pos, af, gd⟩ (.func fn vs.toArray us.toArray) := fun c w hs hr => by
  have e1 := hs.evs h1
  have e2 := hs.evs h2
  simp [execOp, Instr.makeFunc, ← e1, ← e2]
theorem wl_defer {n : Nat} {ds : List Deferred} {f : Fn} {xs : List Operand} {tys : Array TypeId} {us vs cs : List Value} (hx : ev fr x = some (.func f us.toArray cs.toArray)) (hv : evs fr xs = some vs)
    (h : WX .seq P ops Q ⟨n, { target := .fn f cs.toArray, args := (us ++ vs).toArray } :: ds⟩ w0 X rest fr M) : WX .seq P ops Q ⟨n, ds⟩ w0 X (⟨none, .defer ⟨.value x, xs.toArray, tys⟩, ty, pos, af, none⟩ :: rest) fr M := fun a w hs hr =>
  wpList_plain rfl fun K hK => by
    have e1 := hs.evs hv
    have e2 : Array.map a.eval xs.toArray = vs.toArray := by simp [← e1]
    have e : (execOp a.eval ⟨none, .defer ⟨.value x, xs.toArray, tys⟩, ty, pos, af, none⟩).run P w = .ok (.defer { target := .fn f cs.toArray, args := (us ++ vs).toArray }) w := by
      simp only [execOp, resolve, e2, hs.ev hx, Deferred.ofValue]
      simp
    unfold Oper.wp
    rw [e, Oper.upon_defer]
    refine hK _ _ (h _ _ ⟨hs.size, hs.has, ?_⟩ hr)
    show _ :: a.defers = _
    rw [hs.calm]
theorem eqGuard_if {w : World} {op : BinOp} {v u : Value} : (eqGuard op t x (.const u) v .nilIface).run P w = .ok () w := by unfold eqGuard; cases op <;> cases v <;> simp
theorem eqIn_if {w : World} (d : Nat) {s : TypeId} {v : Value} {ms : Array (String × TypeId)} (hu : P.underlying t = some (.interface ms)) : (Op.equalIn (d + 1) t (.iface s v) .nilIface).run P w = .ok false w := by
  simp [Op.equalIn, run_underlying hu]
theorem eqIn_ifn {w : World} (d : Nat) {ms : Array (String × TypeId)} (hu : P.underlying t = some (.interface ms)) : (Op.equalIn (d + 1) t .nilIface .nilIface).run P w = .ok true w := by
  simp [Op.equalIn, run_underlying hu]
theorem v_neif {ms : Array (String × TypeId)} {s : TypeId} {v : Value} (hu : P.underlying t = some (.interface ms)) (hx : ev fr x = some (.iface s v)) : Val P nt w0 X fr M ⟨dst, .binOp .neq t x (.const .nilIface) u, ty, pos, af, gd⟩ (.bool true) := fun c w hs hr => by
  have e : (Op.equal t (.iface s v) .nilIface).run P w = .ok false w := eqIn_if 9999 hu
  have hy : c.eval (.const .nilIface) = .nilIface := rfl
  simp [execOp, hs.ev hx, hy, eqGuard_if, binOp, e]
theorem v_neifn {ms : Array (String × TypeId)} (hu : P.underlying t = some (.interface ms)) (hx : ev fr x = some .nilIface) : Val P nt w0 X fr M ⟨dst, .binOp .neq t x (.const .nilIface) u, ty, pos, af, gd⟩ (.bool false) := fun c w hs hr => by
  have e : (Op.equal t .nilIface .nilIface).run P w = .ok true w := eqIn_ifn 9999 hu
  have hy : c.eval (.const .nilIface) = .nilIface := rfl
  simp [execOp, hs.ev hx, hy, eqGuard_if, binOp, e]
/-- an assertion that holds, with its ok -/
theorem v_tassert {s : TypeId} {v : Value} (ht : notIface P t = true) (hx : ev fr x = some (.iface t v)) : Val P nt w0 X fr M ⟨dst, .typeAssert x s t true, ty, pos, af, gd⟩ (.tuple #[v, .bool true]) := fun c w hs hr => by
  unfold notIface at ht
  split at ht
  · cases ht
  · rename_i d h1 hu
    cases d <;> first | (exact absurd rfl (h1 _)) | simp [execOp, hs.ev hx, Instr.typeAssert, run_underlying hu]
  · cases ht
end rules
section ldO
variable {P : Program} {ops : Array Oper} {Q : Exit → Act → World → Prop} {nt : Sh} {w0 : World} {X : List Nat} {fr : Fr} {M : List Seg} {rest : List Oper}
variable {dst : Option Nat} {ty : TypeId} {pos : String} {af : Array Edge} {gd : Option (Nat × Bool)} {t : TypeId} {x y : Operand}
/-- a load from a block at a place that is told apart -/
theorem v_ldO (k : Nat) {du : TypeDesc} {bk off : Nat} {v : Value} {cs : List Value} {et : TypeId} {fz : Nat × Nat} (hu : P.underlying t = some du) (hp : plainT du = true) (hx : ev fr x = some (.pointer (some ⟨bk, off, none⟩)))
    [B : BlkIn bk M (.cells cs.toArray et fz)] (ho : off = k) (hc : cs[k]? = some v) : Val P nt w0 X fr M ⟨dst, .load t x, ty, pos, af, gd⟩ v := by
  subst ho
  exact v_load hu hp hx fun w hr => B.cell hr hc
theorem wl_storeO (k : Nat) {g off i : Nat} {cs : List Value} {et : TypeId} {fz : Nat × Nat} {v : Value} (ht : oneT P t = true) (hx : ev fr x = some (.pointer (some ⟨g, off, none⟩))) (hy : ev fr y = some v) [B : BlkAt g M (.cells cs.toArray et fz) i]
    (ho : off = k) (hl : k < cs.length) (hz : okF fz cs.length) (h1 : v.oneCell' = true) (h : WX .seq P ops Q nt w0 X rest fr (M.set i [(g, .cells (cs.set k v).toArray et fz)])) :
    WX .seq P ops Q nt w0 X (⟨none, .store t x y, ty, pos, af, none⟩ :: rest) fr M := by
  subst ho
  exact wl_store i ht hx hy B.at_ hl hz h1 h
end ldO
/-! ### the body's end -/
section ends
variable {P : Program} {fn : Func} {nt : Sh} {w0 : World} {X : List Nat} {fr : Fr} {M : List Seg}
variable {β γ : Type} {val : β → Value} {MM : β → List Seg} {φ : β → Prop} {pv : γ → Value} {PM : γ → List Seg} {ψ : γ → Prop}
theorem wq_pan [Z : Calm nt] (y : γ) {v : Value} (hv : v = pv y) (hψ : ψ y) {M1 L : List Seg} (hM : PM y = M1) [T : Takes M1 M L] : WQ (bodyPost P fn (RetP w0 X val MM φ pv PM ψ)) nt w0 X (.panic [entry v]) fr M := by
  subst hv
  subst hM
  exact wq_sub T.perm fun a w hs hr => ⟨hs.calm.trans Z.eq, .inr ⟨y, hψ, rfl, hr⟩⟩
theorem ret_retP {w : World} {e : Ending} (h : Ret w0 X val MM φ e w) : RetP w0 X val MM φ pv PM ψ e w := .inl h
/-- a body that returns -/
theorem wq_retP (h : WQ (bodyPost P fn (Ret w0 X val MM φ)) nt w0 X .ret fr M) : WQ (bodyPost P fn (RetP w0 X val MM φ pv PM ψ)) nt w0 X .ret fr M := fun a w hs hr => by
  obtain ⟨h1, v, h2, h3⟩ := h a w hs hr
  exact ⟨h1, v, h2, .inl h3⟩
theorem wq_normP (h : WQ (bodyPost P fn (RetP w0 X val MM φ pv PM ψ)) nt w0 X .ret fr M) : WQ (bodyPost P fn (RetP w0 X val MM φ pv PM ψ)) nt w0 X .normal fr M := h
theorem wq_normR (h : WQ (bodyPost P fn (Ret w0 X val MM φ)) nt w0 X .ret fr M) : WQ (bodyPost P fn (Ret w0 X val MM φ)) nt w0 X .normal fr M := h
theorem wq_retAT [Z : Calm nt] (x : β) {L : List Seg} {a t g : Nat} {cs : List Value} {et : TypeId} {fz : Nat × Nat} (hr : fn.results = #[.cell a t]) (h1 : look fr a = some (.pointer (some ⟨g, 0, none⟩))) [B : BlkIn g M (.cells cs.toArray et fz)] (hn : aggN P t = some cs.length) (hv : val x = .agg cs.toArray) (hφ : φ x) {M1 : List Seg} (hM : MM x = M1) [T : Takes M1 M L] : WQ (bodyPost P fn (Ret w0 X val MM φ)) nt w0 X .ret fr M := by
  intro ac w hs hres
  refine bodyPost_ret (v := .agg cs.toArray) ?_ (hs.calm.trans Z.eq) ⟨x, hφ, by rw [hv], ?_⟩
  · obtain ⟨h2, h3⟩ := aggN_spec hn
    have h4 := run_loadCells_list (P := P) w ⟨g, 0, none⟩ cs (fun k v hk => by rw [add_plain, Nat.zero_add]; exact B.cell hres hk)
    simp only [Go.results, hr]
    simp [hs.has _ _ h1, asAddr, loadVar, h2, h3, h4]
  · exact hM ▸ (hres.perm T.perm).drop
theorem wq_retA2T [Z : Calm nt] (x : β) {L : List Seg} {a b t g : Nat} {cs : List Value} {v2 : Value} {et : TypeId} {fz : Nat × Nat} (hr : fn.results = #[.cell a t, .tmp b]) (h1 : look fr a = some (.pointer (some ⟨g, 0, none⟩))) [B : BlkIn g M (.cells cs.toArray et fz)] (hn : aggN P t = some cs.length) (h2 : look fr b = some v2) (hv : val x = .tuple #[.agg cs.toArray, v2]) (hφ : φ x) {M1 : List Seg} (hM : MM x = M1) [T : Takes M1 M L] : WQ (bodyPost P fn (Ret w0 X val MM φ)) nt w0 X .ret fr M := by
  intro ac w hs hres
  refine bodyPost_ret (v := .tuple #[.agg cs.toArray, v2]) ?_ (hs.calm.trans Z.eq) ⟨x, hφ, by rw [hv], ?_⟩
  · obtain ⟨g2, g3⟩ := aggN_spec hn
    have g4 := run_loadCells_list (P := P) w ⟨g, 0, none⟩ cs (fun k v hk => by rw [add_plain, Nat.zero_add]; exact B.cell hres hk)
    simp only [Go.results, hr]
    simp [hs.has _ _ h1, hs.has _ _ h2, asAddr, loadVar, g2, g3, g4]
  · exact hM ▸ (hres.perm T.perm).drop
theorem wq_retA3T [Z : Calm nt] (x : β) {L : List Seg} {a b d t g : Nat} {cs : List Value} {v2 v3 : Value} {et : TypeId} {fz : Nat × Nat} (hr : fn.results = #[.cell a t, .tmp b, .tmp d]) (h1 : look fr a = some (.pointer (some ⟨g, 0, none⟩))) [B : BlkIn g M (.cells cs.toArray et fz)] (hn : aggN P t = some cs.length) (h2 : look fr b = some v2) (h3 : look fr d = some v3) (hv : val x = .tuple #[.agg cs.toArray, v2, v3]) (hφ : φ x) {M1 : List Seg} (hM : MM x = M1) [T : Takes M1 M L] : WQ (bodyPost P fn (Ret w0 X val MM φ)) nt w0 X .ret fr M := by
  intro ac w hs hres
  refine bodyPost_ret (v := .tuple #[.agg cs.toArray, v2, v3]) ?_ (hs.calm.trans Z.eq) ⟨x, hφ, by rw [hv], ?_⟩
  · obtain ⟨g2, g3⟩ := aggN_spec hn
    have g4 := run_loadCells_list (P := P) w ⟨g, 0, none⟩ cs (fun k v hk => by rw [add_plain, Nat.zero_add]; exact B.cell hres hk)
    simp only [Go.results, hr]
    simp [hs.has _ _ h1, hs.has _ _ h2, hs.has _ _ h3, asAddr, loadVar, g2, g3, g4]
  · exact hM ▸ (hres.perm T.perm).drop
end ends
/-- a block found by its number, and what is left -/
class TakeB (g : Nat) (M : List Seg) (o : outParam Obj) (R : outParam (List Seg)) : Prop where
  perm : M.Perm ([(g, o)] :: R)
instance (priority := 1100) takeBHead {g : Nat} {o : Obj} {M : List Seg} : TakeB g ([(g, o)] :: M) o M := ⟨List.Perm.refl _⟩
instance takeBTail {g : Nat} {F : Seg} {o : Obj} {M R : List Seg} [h : TakeB g M o R] : TakeB g (F :: M) o (F :: R) := ⟨(h.perm.cons F).trans (List.Perm.swap [(g, o)] F R)⟩
instance (priority := 700) blkApp {g : Nat} {A B C : List Seg} {o : Obj} [k : Cat A B C] [h : BlkIn g C o] : BlkIn g (A ++ B) o := ⟨k.eq ▸ h.mem⟩
instance (priority := 700) takesR {A B C M1 L : List Seg} [k : Cat A B C] [h : Takes M1 C L] : Takes M1 (A ++ B) L := ⟨k.eq ▸ h.perm⟩
section blk
variable {P : Program} {ops : Array Oper} {Q : Exit → Act → World → Prop} {nt : Sh} {w0 : World} {X : List Nat} {fr : Fr} {M : List Seg} {rest : List Oper}
/-- a block's cells told in another way -/
theorem wx_blk (g : Nat) (cs' : List Value) {cs : List Value} {t : TypeId} {fz : Nat × Nat} {i : Nat} [k : BlkAt g M (.cells cs.toArray t fz) i] (h : cs = cs') (hh : WX .seq P ops Q nt w0 X rest fr (M.set i [(g, .cells cs'.toArray t fz)])) : WX .seq P ops Q nt w0 X rest fr M := by
  subst h
  exact wx_as i _ k.at_ hh
theorem wc_blk (g : Nat) (cs' : List Value) {cs : List Value} {t : TypeId} {fz : Nat × Nat} {i : Nat} {c : Code} [k : BlkAt g M (.cells cs.toArray t fz) i] (h : cs = cs') (hh : WC P Q nt w0 X c fr (M.set i [(g, .cells cs'.toArray t fz)])) : WC P Q nt w0 X c fr M := by
  subst h
  exact wc_as i _ k.at_ hh
theorem wq_blk (g : Nat) (cs' : List Value) {cs : List Value} {t : TypeId} {fz : Nat × Nat} {i : Nat} {e : Exit} [k : BlkAt g M (.cells cs.toArray t fz) i] (h : cs = cs') (hh : WQ Q nt w0 X e fr (M.set i [(g, .cells cs'.toArray t fz)])) : WQ Q nt w0 X e fr M := by
  subst h
  have e : M.set i [(g, .cells cs.toArray t fz)] = M := by
    obtain ⟨h1, h2⟩ := List.getElem?_eq_some_iff.1 k.at_
    rw [← h2]; simp
  rwa [e] at hh
end blk
/-! ### draws where a panic may come -/
def PanicNot (ks : List Nat) (Q : Exit → Act → World → Prop) : Prop := ∀ c d v a w, ks.contains d = false → Q (.panic c) (Act.put a (some d) v) w → Q (.panic c) a w
theorem panicNot_of {Q : Exit → Act → World → Prop} (h : PanicOk Q) : PanicNot [] Q := fun c d v a w _ hq => h c _ _ a w hq
theorem panicNot_then {ks : List Nat} {N : Act → World → Prop} {Q : Exit → Act → World → Prop} (h : PanicNot ks Q) : PanicNot ks (Exit.then N Q) := fun c d v a w hk hq => h c d v a w hk hq
theorem panicNot_block {ks : List Nat} {i : Nat} {Q : Exit → Act → World → Prop} (h : PanicNot ks Q) : PanicNot ks (Exit.inBlock i Q) := fun c d v a w hk hq => h c d v a w hk hq
theorem leaves_congr {P : Program} {fn : Func} {t1 t2 : Array Value} {R : Ending → World → Prop} (ht : ∀ w v, (results fn t1).run P w = .ok v w → (results fn t2).run P w = .ok v w) : ∀ (ds : List Deferred) (u : FrameMode) (w : World), Leaves P fn t1 R ds u w → Leaves P fn t2 R ds u w
  | [], u, w, h => by
    cases u with
    | run => exact h
    | returning =>
      obtain ⟨v, h1, h2⟩ := h
      exact ⟨v, ht _ _ h1, h2⟩
    | panicking c => exact h
  | d :: ds, u, w, h => by
    obtain ⟨hu, fv, cap, f, args, h1, h2, h3⟩ := h
    refine ⟨hu, fv, cap, f, args, h1, h2, h3.mono fun e u' w' he => ?_⟩
    cases e with
    | returned v => exact leaves_congr ht ds _ _ he
    | panicked c => exact leaves_congr ht ds _ _ he
    | outgrown => exact he
/-- results that lie in three variables -/
theorem results_put3 {P : Program} {fn : Func} {s1 s2 s3 t1 t2 t3 : Nat} (hr : fn.results = #[.cell s1 t1, .cell s2 t2, .cell s3 t3]) {tmps : Array Value} {d : Nat} {v : Value} (h : ([s1, s2, s3] : List Nat).contains d = false) : results fn (tmps.setIfInBounds d v) = results fn tmps := by
  have h1 : d ≠ s1 ∧ d ≠ s2 ∧ d ≠ s3 := by simpa using h
  simp [results, hr, Array.getElem?_setIfInBounds_ne h1.1, Array.getElem?_setIfInBounds_ne h1.2.1, Array.getElem?_setIfInBounds_ne h1.2.2]
/-! ### a body with one call put off -/
section D
variable {P : Program} {fn : Func} {nt : Sh} {w0 : World} {X : List Nat} {fr : Fr} {M : List Seg}
theorem goD {P : Program} {f : FuncId} {fn : Func} {c : Code} (args : List Value) {w : World} {R : Ending → World → Prop} (M : List Seg)
    (hf : P.funcs[f]? = some fn) {nt : Nat} (hnt : fn.ntmps = nt) (hb : fn.body = some c) (hn : Nat.ble args.length nt = true)
    (hM : Own w M) (h : WC P (bodyPostD P fn R) ⟨nt, []⟩ w (ids M) c (argsFr 0 args) M) : Calls P f args.toArray w R := by
  subst hnt
  have hn := Nat.le_of_ble_eq_true hn
  refine calls_of_wp_defers hf hb (h _ w ⟨?_, fun k v e => ?_, rfl⟩ (Res.refl hM))
  · simp; omega
  · have h1 := (argsFr_spec args 0 k v (List.replicate (fn.ntmps - args.length) undef) e).2
    have h2 : args.toArray ++ Array.replicate (fn.ntmps - args.toArray.size) undef = (args ++ List.replicate (fn.ntmps - args.length) undef).toArray := by simp
    show (args.toArray ++ Array.replicate (fn.ntmps - args.toArray.size) undef)[k]? = some v
    rw [h2, List.getElem?_toArray]
    simpa using h1
variable {β : Type} {val : β → Value} {MM : β → List Seg} {φ : β → Prop}
/-- what a deferred call leaves: the mode that its caller goes on in, and the memory -/
def RetD (w : World) (X : List Nat) (u : FrameMode) (M : List Seg) : Ending → FrameMode → World → Prop := fun e u' w' => (∃ v, e = .returned v) ∧ u' = u ∧ Res w X w' M
theorem inv_fn {f : FuncId} (h : okFn P f = true) (cs : Array Value) (w : World) : (invoke (.fn (.func f) cs) #[]).run P w = .ok (.enter f cs) w := by
  simp [invoke, run_callFunc h]
/-- the end behind a panic that the deferred call recovers -/
theorem wq_panD (z : β) {n : Nat} {f : FuncId} {cs : List Value} {v : Value} {M1 M2 L : List Seg} (hf : okFn P f = true)
    (hd : ∀ w, Res w0 X w (M1 ++ L) → Own w M1 → CallsD P f cs.toArray (.panicking [entry v]) w (RetD w (ids M1) (.panicking [{ v := v, recovered := true }]) M2)) [T : Takes M1 M L] {M3 L' : List Seg}
    (hr : ∀ a w, St ⟨n, [{ target := .fn (.func f) cs.toArray, args := #[] }]⟩ a fr → Res w0 X w (M2 ++ L) → (results fn a.tmps).run P w = .ok (val z) w) (hφ : φ z) (hM : MM z = M3) [T2 : Takes M3 (M2 ++ L) L'] :
    WQ (bodyPostD P fn (Ret w0 X val MM φ)) ⟨n, [{ target := .fn (.func f) cs.toArray, args := #[] }]⟩ w0 X (.panic [entry v]) fr M := fun a w hs hres => by
  subst hM
  have hp := hres.perm T.perm
  show Leaves P fn a.tmps _ a.defers _ w
  rw [hs.calm]
  refine leaves_cons (by simp) (inv_fn hf _ w) ((hd w hp hp.own.left).mono fun e u' w' he => ?_)
  obtain ⟨⟨r, rfl⟩, rfl, hr'⟩ := he
  have h2 := hp.call hr'
  exact ⟨val z, hr a w' hs h2, z, hφ, rfl, (h2.perm T2.perm).drop⟩
/-- the end behind a return: the deferred call does nothing -/
theorem wq_retD (z : β) {n : Nat} {f : FuncId} {cs : List Value} (hf : okFn P f = true) (hd : ∀ w, CallsD P f cs.toArray .returning w (RetD w (ids []) .returning []))
    (hr : ∀ a w, St ⟨n, [{ target := .fn (.func f) cs.toArray, args := #[] }]⟩ a fr → Res w0 X w M → (results fn a.tmps).run P w = .ok (val z) w) (hφ : φ z) {M3 L' : List Seg} (hM : MM z = M3) [T2 : Takes M3 M L'] :
    WQ (bodyPostD P fn (Ret w0 X val MM φ)) ⟨n, [{ target := .fn (.func f) cs.toArray, args := #[] }]⟩ w0 X .ret fr M := fun a w hs hres => by
  subst hM
  show Leaves P fn a.tmps _ a.defers _ w
  rw [hs.calm]
  refine leaves_cons (by simp) (inv_fn hf _ w) ((hd w).mono fun e u' w' he => ?_)
  obtain ⟨⟨r, rfl⟩, rfl, hr'⟩ := he
  have h2 : Res w0 X w' M := Res.call (M := []) (L := M) hres hr'
  exact ⟨val z, hr a w' hs h2, z, hφ, rfl, (h2.perm T2.perm).drop⟩
theorem goRec {f : FuncId} {i d e : Nat} {y : Code} {t1 t2 : TypeId} {p1 p2 : String} {a1 a2 : Array Edge} {n : Nat} (args : List Value) {w : World} (M : List Seg) {R : Ending → FrameMode → World → Prop} {u u' : FrameMode} {v : Value}
    (hf : P.funcs[f]? = some fn) (hnt : fn.ntmps = n) (hb : fn.body = some (.seq (.region i #[⟨some d, .call ⟨.builtin .recover, #[], #[]⟩, t1, p1, a1, none⟩, ⟨some e, .assign (.tmp d), t2, p2, a2, none⟩] false) y)) (hn : Nat.ble args.length n = true) (hd : Nat.blt d n = true) (he : Nat.blt e n = true)
    (hM : Own w M) (hu : (u = .returning ∧ v = .nilIface ∧ u' = .returning) ∨ (u = .panicking [entry v] ∧ u' = .panicking [{ v := v, recovered := true }]))
    (h : WC P (bodyPost P fn (fun e w' => R e u' w')) ⟨n, []⟩ w (ids M) y ((e, v) :: (d, v) :: argsFr 0 args) M) : CallsD P f args.toArray u w R := by
  subst hnt
  have hn := Nat.le_of_ble_eq_true hn
  have hd' : d < fn.ntmps := by simpa using hd
  have he' : e < fn.ntmps := by simpa using he
  refine callsD_of_wpS hf hb fun c0 cs hm => wpS_seq (wpS_region ?_)
  have hs : St ⟨fn.ntmps, []⟩ { tmps := args.toArray ++ Array.replicate (fn.ntmps - args.toArray.size) undef, defers := [] } (argsFr 0 args) := by
    refine ⟨by simp; omega, fun k v e => ?_, rfl⟩
    have h1 := (argsFr_spec args 0 k v (List.replicate (fn.ntmps - args.length) undef) e).2
    have h2 : args.toArray ++ Array.replicate (fn.ntmps - args.toArray.size) undef = (args ++ List.replicate (fn.ntmps - args.length) undef).toArray := by simp
    show (args.toArray ++ Array.replicate (fn.ntmps - args.toArray.size) undef)[k]? = some v
    rw [h2, List.getElem?_toArray]
    simpa using h1
  generalize ha : ({ tmps := args.toArray ++ Array.replicate (fn.ntmps - args.toArray.size) undef, defers := [] } : Act) = a at hs ⊢
  have hs1 := hs.put v hd'
  have hs2 := hs1.put v he'
  have hev : (a.put (some d) v).eval (.tmp d) = v := hs1.ev (x := .tmp d) (by simp [ev, look])
  have r1 : ∀ (ρ : Operand → Value) w, (execOp ρ ⟨some d, .call ⟨.builtin .recover, #[], #[]⟩, t1, p1, a1, none⟩).run P w = .ok .recover w := fun ρ w => by
    simp [execOp, resolve, invoke, builtin]
  have r2 : (execOp (a.put (some d) v).eval ⟨some e, .assign (.tmp d), t2, p2, a2, none⟩).run P w = .ok (.value v) w := by
    simp [execOp, hev]
  have fin : y.wpS P (bodyPostS P fn c0 cs R) ((a.put (some d) v).put (some e) v) ({ c0 with mode := u' } :: cs) w := by
    refine wpS_of_wp (wp_mono (h _ w hs2 (Res.refl hM)) fun e a' w' hq => ?_)
    cases e with
    | normal =>
      obtain ⟨h1, v1, h2, h3⟩ := hq
      exact ⟨h1, u', rfl, v1, h2, h3⟩
    | ret =>
      obtain ⟨h1, v1, h2, h3⟩ := hq
      exact ⟨h1, u', rfl, v1, h2, h3⟩
    | panic c =>
      obtain ⟨h1, h2⟩ := hq
      exact ⟨h1, u', rfl, h2⟩
    | outgrown => exact ⟨u', hq⟩
    | exit i => exact hq
    | goto l => exact hq
  have hrg : List.range (#[(⟨some d, .call ⟨.builtin .recover, #[], #[]⟩, t1, p1, a1, none⟩ : Oper), ⟨some e, .assign (.tmp d), t2, p2, a2, none⟩] : Array Oper).size = [0, 1] := rfl
  rw [hrg]
  have hmode : (match recoverD (c0 :: cs) with
      | some (v1, cs') => v1 = v ∧ cs' = { c0 with mode := u' } :: cs
      | none => v = .nilIface ∧ (c0 :: cs) = { c0 with mode := u' } :: cs) := by
    rcases hu with ⟨rfl, rfl, rfl⟩ | ⟨rfl, rfl⟩
    · have : recoverD (c0 :: cs) = none := by simp [recoverD, hm]
      rw [this]
      refine ⟨rfl, ?_⟩
      rw [← hm]
    · have : recoverD (c0 :: cs) = some (v, { c0 with mode := .panicking [{ v := v, recovered := true }] } :: cs) := by simp [recoverD, hm]
      rw [this]
      exact ⟨rfl, rfl⟩
  have step2 : ∀ cs', cs' = { c0 with mode := u' } :: cs → wpOpsS P #[(⟨some d, .call ⟨.builtin .recover, #[], #[]⟩, t1, p1, a1, none⟩ : Oper), ⟨some e, .assign (.tmp d), t2, p2, a2, none⟩] (Exit.thenS (y.wpS P (bodyPostS P fn c0 cs R)) (bodyPostS P fn c0 cs R)) [1] (a.put (some d) v) cs' w := fun cs' hc => by
    subst hc
    simp [wpOpsS, Region.wanted, r2, Oper.upon, Exit.thenS]
    exact fin
  unfold wpOpsS
  simp only [List.getElem?_toArray, List.getElem?_cons_zero, Region.wanted, if_true, r1]
  revert hmode
  cases recoverD (c0 :: cs) with
  | some q =>
    rintro ⟨rfl, h2⟩
    exact step2 _ h2
  | none =>
    rintro ⟨rfl, h2⟩
    exact step2 _ h2
theorem wq_doneD {u : FrameMode} {M1 L : List Seg} (hr : fn.results = #[]) [Z : Calm nt] [T : Takes M1 M L] : WQ (bodyPost P fn (fun e w' => RetD w0 X u M1 e u w')) nt w0 X .normal fr M := wq_sub T.perm fun a w hs hres =>
  ⟨hs.calm.trans Z.eq, .tuple #[], by simp [results, hr], ⟨_, rfl⟩, rfl, hres⟩
theorem panicNot_D3 {s1 s2 s3 t1 t2 t3 : Nat} {R : Ending → World → Prop} (hr : fn.results = #[.cell s1 t1, .cell s2 t2, .cell s3 t3]) : PanicNot [s1, s2, s3] (bodyPostD P fn R) := fun c d v a w hk hq => by
  have e := results_put3 (P := P) hr (tmps := a.tmps) (v := v) hk
  exact leaves_congr (t1 := a.tmps.setIfInBounds d v) (fun w' u h => by rw [e] at h; exact h) _ _ _ hq
/-- results that lie in three variables: a struct and two numbers -/
theorem res_cells3 {s1 s2 s3 t1 t2 t3 g1 g2 g3 : Nat} (hr : fn.results = #[.cell s1 t1, .cell s2 t2, .cell s3 t3]) {a : Act} {w : World} {cs : List Value} {v2 v3 : Value} {e1 e2 e3 : TypeId} {f1 f2 f3 : Nat × Nat} {d2 d3 : TypeDesc} (hs : St nt a fr) (h1 : look fr s1 = some (.pointer (some ⟨g1, 0, none⟩))) (h2 : look fr s2 = some (.pointer (some ⟨g2, 0, none⟩))) (h3 : look fr s3 = some (.pointer (some ⟨g3, 0, none⟩)))
    (hres : Res w0 X w M) [B1 : BlkIn g1 M (.cells cs.toArray e1 f1)] [B2 : BlkIn g2 M (.cells [v2].toArray e2 f2)] [B3 : BlkIn g3 M (.cells [v3].toArray e3 f3)] (hn : aggN P t1 = some cs.length) (hu2 : P.underlying t2 = some d2) (hp2 : plainT d2 = true) (hu3 : P.underlying t3 = some d3) (hp3 : plainT d3 = true) :
    (results fn a.tmps).run P w = .ok (.tuple #[.agg cs.toArray, v2, v3]) w := by
  obtain ⟨g4, g5⟩ := aggN_spec hn
  have q1 := run_loadCells_list (P := P) w ⟨g1, 0, none⟩ cs (fun k v hk => by rw [add_plain, Nat.zero_add]; exact B1.cell hres hk)
  have q2 := run_loadVar_plain (P := P) hu2 hp2 (B2.cell hres (off := 0) rfl)
  have q3 := run_loadVar_plain (P := P) hu3 hp3 (B3.cell hres (off := 0) rfl)
  have q0 : (loadVar t1 ⟨g1, 0, none⟩).run P w = .ok (.agg cs.toArray) w := by simp [loadVar, g4, g5, q1]
  simp only [results, hr]
  simp [hs.has _ _ h1, hs.has _ _ h2, hs.has _ _ h3, asAddr, q0, q2, q3]
end D
/-! ### draws -/
section heldX
variable {P : Program} {ops : Array Oper} {Q : Exit → Act → World → Prop} {nt : Sh} {w0 : World} {X : List Nat} {fr : Fr} {M Ms : List Seg} {ks : List Nat}
theorem wh_takeX (i : Nat) {d : Nat} {op : Op} {ty : TypeId} {pos : String} {af : Array Edge} {v : Value} {fuel : Nat} {listed : Array Bool} (hS : ∀ w, Res w0 X w M → Res w0 X w Ms) (hQ : PanicNot ks Q) (hi : ops[i]? = some ⟨some d, op, ty, pos, af, none⟩) (hk : ks.contains d = false)
    (hv : Val P nt w0 X fr Ms ⟨some d, op, ty, pos, af, none⟩ v) (hs : Region.noSelect ops = true) (hf : Region.free .any ops listed i = true) (hr : (Region.ready .any ops listed).contains i = true) (hd : Nat.blt d nt.n = true)
    (h : WH P ops Q nt w0 X Ms fuel (listed.setIfInBounds i true) ((d, v) :: fr) M) : WH P ops Q nt w0 X Ms (fuel + 1) listed fr M := fun a w h1 h2 =>
  wpAnyH_take hi hs hf hr (fun c a w hq => hQ c _ _ a w hk hq) (.inl ⟨by simp [Region.wanted], fun w' hw' => hv a w' h1 hw'⟩) (hS w h2) (h _ w (h1.put v (by simpa using hd)) h2)
theorem wh_takegX (i : Nat) {d j s : Nat} {b : Bool} {op : Op} {ty : TypeId} {pos : String} {af : Array Edge} {v : Value} {fuel : Nat} {listed : Array Bool} (hS : ∀ w, Res w0 X w M → Res w0 X w Ms) (hQ : PanicNot ks Q) (hi : ops[i]? = some ⟨some d, op, ty, pos, af, some (j, b)⟩) (hk : ks.contains d = false)
    (hj : gslot ops j = some s) (hb : look fr s = some (.bool b))
    (hv : Val P nt w0 X fr Ms ⟨some d, op, ty, pos, af, some (j, b)⟩ v) (hs : Region.noSelect ops = true) (hf : Region.free .any ops listed i = true) (hr : (Region.ready .any ops listed).contains i = true) (hd : Nat.blt d nt.n = true)
    (h : WH P ops Q nt w0 X Ms fuel (listed.setIfInBounds i true) ((d, v) :: fr) M) : WH P ops Q nt w0 X Ms (fuel + 1) listed fr M := fun a w h1 h2 =>
  wpAnyH_take hi hs hf hr (fun c a w hq => hQ c _ _ a w hk hq) (.inl ⟨wanted_yes h1 rfl hj hb, fun w' hw' => hv a w' h1 hw'⟩) (hS w h2) (h _ w (h1.put v (by simpa using hd)) h2)
theorem wh_takenX (i : Nat) {d j s : Nat} {b : Bool} {op : Op} {ty : TypeId} {pos : String} {af : Array Edge} {fuel : Nat} {listed : Array Bool} (hS : ∀ w, Res w0 X w M → Res w0 X w Ms) (hQ : PanicNot ks Q) (hi : ops[i]? = some ⟨some d, op, ty, pos, af, some (j, b)⟩) (hk : ks.contains d = false)
    (hj : gslot ops j = some s) (hb : look fr s = some (.bool (!b)) ∨ look fr s = some undef) (hs : Region.noSelect ops = true) (hf : Region.free .any ops listed i = true) (hr : (Region.ready .any ops listed).contains i = true) (hd : Nat.blt d nt.n = true)
    (h : WH P ops Q nt w0 X Ms fuel (listed.setIfInBounds i true) ((d, undef) :: fr) M) : WH P ops Q nt w0 X Ms (fuel + 1) listed fr M := fun a w h1 h2 =>
  wpAnyH_take hi hs hf hr (fun c a w hq => hQ c _ _ a w hk hq) (.inr ⟨hb.elim (fun hb => wanted_no h1 rfl hj hb) (fun hb => wanted_undef h1 rfl hj hb), rfl⟩) (hS w h2) (h _ w (h1.put undef (by simpa using hd)) h2)
theorem wc_heldX (ks : List Nat) (Ms : List Seg) {i : Nat} {l : List Oper} (hm : P.follows .mixedOrders = true) (hq : PanicNot ks Q) (h : PanicNot ks Q → WH P l.toArray Q nt w0 X Ms l.length (Array.replicate l.length false) fr M) : WC P Q nt w0 X (.region i l.toArray true) fr M :=
  wc_held Ms hm (h hq)
end heldX
end Go.Proofs.Ytknnkgoehkohaaa
