/- Parts of the proof: Kit2, RecD1, RecD2, RecD3, RecDp, Rec4, RecS0. -/
import Derived.Test.YtlioccfedophhaaM1
import Derived.Recover
import Derived.Lib.SlBytesConst
import Derived.Test.YtlioccfedophhaaM2
/- The seat's own logic, the parts X Y Z of it. -/
/- The seat's own logic: panics, calls that may end in one, calls that are put off, and recovering. -/
set_option linter.unusedVariables false
set_option linter.unusedSimpArgs false
namespace Go.Proofs.Ytlioccfedophhaa
open Go
abbrev entry (v : Value) : PanicEntry := { v := v, recovered := false }
/-- What a call comes to that may panic. -/
def RetP {β γ : Type} (w0 : World) (X : List Nat) (val : β → Value) (MM : β → List Seg) (φ : β → Prop) (pv : γ → Value) (PM : γ → List Seg) (ψ : γ → Prop) : Ending → World → Prop :=
  fun e w' => (∃ x, φ x ∧ e = .returned (val x) ∧ Res w0 X w' (MM x)) ∨ (∃ y, ψ y ∧ e = .panicked [entry (pv y)] ∧ Res w0 X w' (PM y))
section rules
variable {P : Program} {ops : Array Oper} {Q : Exit → Act → World → Prop} {nt : Sh} {w0 : World} {X : List Nat} {fr : Fr} {M : List Seg} {rest : List Oper} {o : Oper}
variable {dst : Option Nat} {ty : TypeId} {pos : String} {af : Array Edge} {gd : Option (Nat × Bool)} {t u : TypeId} {x y : Operand}
theorem wl_enterX (hg : o.guard = none) (hd : inN o.dst nt.n = true)
    (hrun : ∀ a w, St nt a fr → Res w0 X w M → ∃ f args, (execOp a.eval o).run P w = .ok (.enter f args) w ∧
      Calls P f args w fun e w' => (∃ v, e = .returned v ∧ ∃ M', Res w0 X w' M' ∧ WX .seq P ops Q nt w0 X rest (upd o.dst v fr) M') ∨ (∃ c, e = .panicked c ∧ ∃ M', Res w0 X w' M' ∧ WQ Q nt w0 X (.panic c) fr M')) : WX .seq P ops Q nt w0 X (o :: rest) fr M := by
  intro a w hs hr
  obtain ⟨f, args, hv, hc⟩ := hrun a w hs hr
  refine wpList_plain hg fun K hK => ?_
  unfold Oper.wp
  rw [hv, Oper.upon_enter]
  refine hc.mono fun e w' he => ?_
  rcases he with ⟨v, rfl, M', hr', h⟩ | ⟨c, rfl, M', hr', h⟩
  · exact hK _ _ (h _ _ (hs.upd _ v hd) hr')
  · exact h _ _ hs hr'
/-- a call by its contract, which may end in a panic -/
theorem wl_callX {d : Nat} {β γ : Type} {f : FuncId} {xs : List Operand} {tys : Array TypeId} {vs : List Value} {val : β → Value} {MM : β → List Seg} {φ : β → Prop} {pv : γ → Value} {PM : γ → List Seg} {ψ : γ → Prop} {M1 L : List Seg}
    (hc : ∀ w, Res w0 X w (M1 ++ L) → Own w M1 → Calls P f vs.toArray w (RetP w (ids M1) val MM φ pv PM ψ)) [T : Takes M1 M L] (hf : okFn P f = true) (hx : evs fr xs = some vs) (hd : Nat.blt d nt.n = true)
    (h : ∀ x, φ x → WX .seq P ops Q nt w0 X rest ((d, val x) :: fr) (MM x ++ L)) (hp : ∀ y, ψ y → WQ Q nt w0 X (.panic [entry (pv y)]) fr (PM y ++ L)) :
    WX .seq P ops Q nt w0 X (⟨some d, .call ⟨.value (.func f), xs.toArray, tys⟩, ty, pos, af, none⟩ :: rest) fr M :=
  wl_enterX rfl hd fun c w hs hr => ⟨f, vs.toArray, run_call hs hf hx, (hc w (hr.perm T.perm) (hr.perm T.perm).own.left).mono fun e w' he => by
    rcases he with ⟨x, hφ, rfl, hr'⟩ | ⟨y, hψ, rfl, hr'⟩
    · exact .inl ⟨val x, rfl, MM x ++ L, (hr.perm T.perm).call hr', h x hφ⟩
    · exact .inr ⟨_, rfl, PM y ++ L, (hr.perm T.perm).call hr', hp y hψ⟩⟩
theorem wl_panic {v : Value} (hx : ev fr x = some (.iface t v)) (h : WQ Q nt w0 X (.panic [entry (.iface t v)]) fr M) : WX .seq P ops Q nt w0 X (⟨none, .panic x, ty, pos, af, none⟩ :: rest) fr M := fun a w hs hr =>
  wpList_plain rfl fun K hK => by
    have e : (execOp a.eval ⟨none, .panic x, ty, pos, af, none⟩).run P w = .halt (.panic (.iface t v)) w := by
      simp [execOp, hs.ev hx, Instr.panic, goPanic, Sem.run]
    unfold Oper.wp
    rw [e, Oper.upon_panic]
    exact h a w hs hr
def notIface (P : Program) (t : TypeId) : Bool := match P.underlying t with
  | some (.interface _) => false
  | some _ => true
  | none => false
theorem v_mkIface {v : Value} (ht : notIface P t = true) (hx : ev fr x = some v) : Val P nt w0 X fr M ⟨dst, .makeInterface t x, ty, pos, af, gd⟩ (.iface t v) := fun c w hs hr => by
  unfold notIface at ht
  split at ht
  · cases ht
  · rename_i d h1 hu
    cases d <;> first | (exact absurd rfl (h1 _)) | simp [execOp, hs.ev hx, Instr.makeInterface, run_underlying hu]
  · cases ht
theorem v_mkFunc {fn : Fn} {fs cs : List Operand} {vs us : List Value} (h1 : evs fr fs = some vs) (h2 : evs fr cs = some us) : Val P nt w0 X fr M ⟨dst, .makeFunc fn fs.toArray cs.toArray, ty, pos, af, gd⟩ (.func fn vs.toArray us.toArray) := fun c w hs hr => by
  have e1 := hs.evs h1
  have e2 := hs.evs h2
  simp [execOp, Instr.makeFunc, ← e1, ← e2]
theorem wl_defer {n : Nat} {ds : List Deferred} {f : Fn} {xs : List Operand} {tys : Array TypeId} {us vs cs : List Value} (hx : ev fr x = some (.func f us.toArray cs.toArray)) (hv : evs fr xs = some vs)
    (h : WX .seq P ops Q ⟨n, { target := .fn f cs.toArray, args := (us ++ vs).toArray } :: ds⟩ w0 X rest fr M) : WX .seq P ops Q ⟨n, ds⟩ w0 X (⟨none, .defer ⟨.value x, xs.toArray, tys⟩, ty, pos, af, none⟩ :: rest) fr M := fun a w hs hr =>
  wpList_plain rfl fun K hK => by
    have e1 := hs.evs hv
    have e2 : Array.map a.eval xs.toArray = vs.toArray := by simp [← e1]
    have e : (execOp a.eval ⟨none, .defer ⟨.value x, xs.toArray, tys⟩, ty, pos, af, none⟩).run P w = .ok (.defer { target := .fn f cs.toArray, args := (us ++ vs).toArray }) w := by
      simp only [execOp, resolve, e2, hs.ev hx, Deferred.ofValue]
      simp
    unfold Oper.wp
    rw [e, Oper.upon_defer]
    refine hK _ _ (h _ _ ⟨hs.size, hs.has, ?_⟩ hr)
    show _ :: a.defers = _
    rw [hs.calm]
theorem eqGuard_if {w : World} {op : BinOp} {v u : Value} : (eqGuard op t x (.const u) v .nilIface).run P w = .ok () w := by unfold eqGuard; cases op <;> cases v <;> simp
theorem eqIn_if {w : World} (d : Nat) {s : TypeId} {v : Value} {ms : Array (String × TypeId)} (hu : P.underlying t = some (.interface ms)) : (Op.equalIn (d + 1) t (.iface s v) .nilIface).run P w = .ok false w := by
  simp [Op.equalIn, run_underlying hu]
theorem eqIn_ifn {w : World} (d : Nat) {ms : Array (String × TypeId)} (hu : P.underlying t = some (.interface ms)) : (Op.equalIn (d + 1) t .nilIface .nilIface).run P w = .ok true w := by
  simp [Op.equalIn, run_underlying hu]
theorem v_neif {ms : Array (String × TypeId)} {s : TypeId} {v : Value} (hu : P.underlying t = some (.interface ms)) (hx : ev fr x = some (.iface s v)) : Val P nt w0 X fr M ⟨dst, .binOp .neq t x (.const .nilIface) u, ty, pos, af, gd⟩ (.bool true) := fun c w hs hr => by
  have e : (Op.equal t (.iface s v) .nilIface).run P w = .ok false w := eqIn_if 9999 hu
  have hy : c.eval (.const .nilIface) = .nilIface := rfl
  simp [execOp, hs.ev hx, hy, eqGuard_if, binOp, e]
theorem v_neifn {ms : Array (String × TypeId)} (hu : P.underlying t = some (.interface ms)) (hx : ev fr x = some .nilIface) : Val P nt w0 X fr M ⟨dst, .binOp .neq t x (.const .nilIface) u, ty, pos, af, gd⟩ (.bool false) := fun c w hs hr => by
  have e : (Op.equal t .nilIface .nilIface).run P w = .ok true w := eqIn_ifn 9999 hu
  have hy : c.eval (.const .nilIface) = .nilIface := rfl
  simp [execOp, hs.ev hx, hy, eqGuard_if, binOp, e]
/-- an assertion that holds, with its ok -/
theorem v_tassert {s : TypeId} {v : Value} (ht : notIface P t = true) (hx : ev fr x = some (.iface t v)) : Val P nt w0 X fr M ⟨dst, .typeAssert x s t true, ty, pos, af, gd⟩ (.tuple #[v, .bool true]) := fun c w hs hr => by
  unfold notIface at ht
  split at ht
  · cases ht
  · rename_i d h1 hu
    cases d <;> first | (exact absurd rfl (h1 _)) | simp [execOp, hs.ev hx, Instr.typeAssert, run_underlying hu]
  · cases ht
end rules
section ldO
variable {P : Program} {ops : Array Oper} {Q : Exit → Act → World → Prop} {nt : Sh} {w0 : World} {X : List Nat} {fr : Fr} {M : List Seg} {rest : List Oper}
variable {dst : Option Nat} {ty : TypeId} {pos : String} {af : Array Edge} {gd : Option (Nat × Bool)} {t : TypeId} {x y : Operand}
/-- a load from a block at a place that is told apart -/
theorem v_ldO (k : Nat) {du : TypeDesc} {bk off : Nat} {v : Value} {cs : List Value} {et : TypeId} {fz : Nat × Nat} (hu : P.underlying t = some du) (hp : plainT du = true) (hx : ev fr x = some (.pointer (some ⟨bk, off, none⟩)))
    [B : BlkIn bk M (.cells cs.toArray et fz)] (ho : off = k) (hc : cs[k]? = some v) : Val P nt w0 X fr M ⟨dst, .load t x, ty, pos, af, gd⟩ v := by
  subst ho
  exact v_load hu hp hx fun w hr => B.cell hr hc
theorem wl_storeO (k : Nat) {g off i : Nat} {cs : List Value} {et : TypeId} {fz : Nat × Nat} {v : Value} (ht : oneT P t = true) (hx : ev fr x = some (.pointer (some ⟨g, off, none⟩))) (hy : ev fr y = some v) [B : BlkAt g M (.cells cs.toArray et fz) i]
    (ho : off = k) (hl : k < cs.length) (hz : okF fz cs.length) (h1 : v.oneCell' = true) (h : WX .seq P ops Q nt w0 X rest fr (M.set i [(g, .cells (cs.set k v).toArray et fz)])) :
    WX .seq P ops Q nt w0 X (⟨none, .store t x y, ty, pos, af, none⟩ :: rest) fr M := by
  subst ho
  exact wl_store i ht hx hy B.at_ hl hz h1 h
end ldO
section app2
variable {P : Program} {ops : Array Oper} {Q : Exit → Act → World → Prop} {nt : Sh} {w0 : World} {X : List Nat} {fr : Fr} {M : List Seg} {rest : List Oper}
variable {ty : TypeId} {pos : String} {af : Array Edge} {t : TypeId} {x y : Operand}
/-- append, told apart: in its own room, or in a block of its own beside the old one -/
theorem wl_app2T {d : Nat} {tx e sz bytes n c m : Nat} {A : Option Addr} {xs news : List Value} {E : Seg} {R : List Seg} {src : Value} (hT : appT P t = some (e, sz, bytes)) (hb : Buf e sz A n c xs E) [T : Take E M R]
    (hx : ev fr x = some (.slice A n c)) (hy : ev fr y = some src) (hs : ∀ w, Res w0 X w M → Src P sz tx src m news w) (hbytes : (n + m) * bytes ≤ 140737488355328) (hd : Nat.blt d nt.n = true)
    (h1 : ∀ E', Buf e sz A (n + m) c (xs ++ news) E' → WX .seq P ops Q nt w0 X rest ((d, .slice A (n + m) c) :: fr) (E' :: R))
    (h2 : ∀ A' c' E', Buf e sz A' (n + m) c' (xs ++ news) E' → WX .seq P ops Q nt w0 X rest ((d, .slice A' (n + m) c') :: fr) (E' :: E :: R)) :
    WX .seq P ops Q nt w0 X (⟨some d, .call ⟨.builtin .append, #[x, y], #[t, tx]⟩, ty, pos, af, none⟩ :: rest) fr M :=
  wx_sub (M1 := E :: R) (L := []) (by simpa using T.perm) (wl_append2 0 hT rfl hb hx hy (fun w hr => hs w (hr.perm T.perm.symm)) hbytes hd h1 h2)
end app2
/-! ### the body's end -/
section ends
variable {P : Program} {fn : Func} {nt : Sh} {w0 : World} {X : List Nat} {fr : Fr} {M : List Seg}
variable {β γ : Type} {val : β → Value} {MM : β → List Seg} {φ : β → Prop} {pv : γ → Value} {PM : γ → List Seg} {ψ : γ → Prop}
theorem wq_pan [Z : Calm nt] (y : γ) {v : Value} (hv : v = pv y) (hψ : ψ y) {M1 L : List Seg} (hM : PM y = M1) [T : Takes M1 M L] : WQ (bodyPost P fn (RetP w0 X val MM φ pv PM ψ)) nt w0 X (.panic [entry v]) fr M := by
  subst hv
  subst hM
  exact wq_sub T.perm fun a w hs hr => ⟨hs.calm.trans Z.eq, .inr ⟨y, hψ, rfl, hr⟩⟩
theorem ret_retP {w : World} {e : Ending} (h : Ret w0 X val MM φ e w) : RetP w0 X val MM φ pv PM ψ e w := .inl h
/-- a body that returns -/
theorem wq_retP (h : WQ (bodyPost P fn (Ret w0 X val MM φ)) nt w0 X .ret fr M) : WQ (bodyPost P fn (RetP w0 X val MM φ pv PM ψ)) nt w0 X .ret fr M := fun a w hs hr => by
  obtain ⟨h1, v, h2, h3⟩ := h a w hs hr
  exact ⟨h1, v, h2, .inl h3⟩
theorem wq_normP (h : WQ (bodyPost P fn (RetP w0 X val MM φ pv PM ψ)) nt w0 X .ret fr M) : WQ (bodyPost P fn (RetP w0 X val MM φ pv PM ψ)) nt w0 X .normal fr M := h
theorem wq_normR (h : WQ (bodyPost P fn (Ret w0 X val MM φ)) nt w0 X .ret fr M) : WQ (bodyPost P fn (Ret w0 X val MM φ)) nt w0 X .normal fr M := h
theorem wq_retAT [Z : Calm nt] (x : β) {L : List Seg} {a t g : Nat} {cs : List Value} {et : TypeId} {fz : Nat × Nat} (hr : fn.results = #[.cell a t]) (h1 : look fr a = some (.pointer (some ⟨g, 0, none⟩))) [B : BlkIn g M (.cells cs.toArray et fz)] (hn : aggN P t = some cs.length) (hv : val x = .agg cs.toArray) (hφ : φ x) {M1 : List Seg} (hM : MM x = M1) [T : Takes M1 M L] : WQ (bodyPost P fn (Ret w0 X val MM φ)) nt w0 X .ret fr M := by
  intro ac w hs hres
  refine bodyPost_ret (v := .agg cs.toArray) ?_ (hs.calm.trans Z.eq) ⟨x, hφ, by rw [hv], ?_⟩
  · obtain ⟨h2, h3⟩ := aggN_spec hn
    have h4 := run_loadCells_list (P := P) w ⟨g, 0, none⟩ cs (fun k v hk => by rw [add_plain, Nat.zero_add]; exact B.cell hres hk)
    simp only [Go.results, hr]
    simp [hs.has _ _ h1, asAddr, loadVar, h2, h3, h4]
  · exact hM ▸ (hres.perm T.perm).drop
theorem wq_retA2T [Z : Calm nt] (x : β) {L : List Seg} {a b t g : Nat} {cs : List Value} {v2 : Value} {et : TypeId} {fz : Nat × Nat} (hr : fn.results = #[.cell a t, .tmp b]) (h1 : look fr a = some (.pointer (some ⟨g, 0, none⟩))) [B : BlkIn g M (.cells cs.toArray et fz)] (hn : aggN P t = some cs.length) (h2 : look fr b = some v2) (hv : val x = .tuple #[.agg cs.toArray, v2]) (hφ : φ x) {M1 : List Seg} (hM : MM x = M1) [T : Takes M1 M L] : WQ (bodyPost P fn (Ret w0 X val MM φ)) nt w0 X .ret fr M := by
  intro ac w hs hres
  refine bodyPost_ret (v := .tuple #[.agg cs.toArray, v2]) ?_ (hs.calm.trans Z.eq) ⟨x, hφ, by rw [hv], ?_⟩
  · obtain ⟨g2, g3⟩ := aggN_spec hn
    have g4 := run_loadCells_list (P := P) w ⟨g, 0, none⟩ cs (fun k v hk => by rw [add_plain, Nat.zero_add]; exact B.cell hres hk)
    simp only [Go.results, hr]
    simp [hs.has _ _ h1, hs.has _ _ h2, asAddr, loadVar, g2, g3, g4]
  · exact hM ▸ (hres.perm T.perm).drop
theorem wq_retA3T [Z : Calm nt] (x : β) {L : List Seg} {a b d t g : Nat} {cs : List Value} {v2 v3 : Value} {et : TypeId} {fz : Nat × Nat} (hr : fn.results = #[.cell a t, .tmp b, .tmp d]) (h1 : look fr a = some (.pointer (some ⟨g, 0, none⟩))) [B : BlkIn g M (.cells cs.toArray et fz)] (hn : aggN P t = some cs.length) (h2 : look fr b = some v2) (h3 : look fr d = some v3) (hv : val x = .tuple #[.agg cs.toArray, v2, v3]) (hφ : φ x) {M1 : List Seg} (hM : MM x = M1) [T : Takes M1 M L] : WQ (bodyPost P fn (Ret w0 X val MM φ)) nt w0 X .ret fr M := by
  intro ac w hs hres
  refine bodyPost_ret (v := .tuple #[.agg cs.toArray, v2, v3]) ?_ (hs.calm.trans Z.eq) ⟨x, hφ, by rw [hv], ?_⟩
  · obtain ⟨g2, g3⟩ := aggN_spec hn
    have g4 := run_loadCells_list (P := P) w ⟨g, 0, none⟩ cs (fun k v hk => by rw [add_plain, Nat.zero_add]; exact B.cell hres hk)
    simp only [Go.results, hr]
    simp [hs.has _ _ h1, hs.has _ _ h2, hs.has _ _ h3, asAddr, loadVar, g2, g3, g4]
  · exact hM ▸ (hres.perm T.perm).drop
end ends
/-- a block found by its number, and what is left -/
class TakeB (g : Nat) (M : List Seg) (o : outParam Obj) (R : outParam (List Seg)) : Prop where
  perm : M.Perm ([(g, o)] :: R)
instance (priority := 1100) takeBHead {g : Nat} {o : Obj} {M : List Seg} : TakeB g ([(g, o)] :: M) o M := ⟨List.Perm.refl _⟩
instance takeBTail {g : Nat} {F : Seg} {o : Obj} {M R : List Seg} [h : TakeB g M o R] : TakeB g (F :: M) o (F :: R) := ⟨(h.perm.cons F).trans (List.Perm.swap [(g, o)] F R)⟩
instance (priority := 700) blkApp {g : Nat} {A B C : List Seg} {o : Obj} [k : Cat A B C] [h : BlkIn g C o] : BlkIn g (A ++ B) o := ⟨k.eq ▸ h.mem⟩
instance (priority := 700) takesR {A B C M1 L : List Seg} [k : Cat A B C] [h : Takes M1 C L] : Takes M1 (A ++ B) L := ⟨k.eq ▸ h.perm⟩
section blk
variable {P : Program} {ops : Array Oper} {Q : Exit → Act → World → Prop} {nt : Sh} {w0 : World} {X : List Nat} {fr : Fr} {M : List Seg} {rest : List Oper}
/-- a block's cells told in another way -/
theorem wx_blk (g : Nat) (cs' : List Value) {cs : List Value} {t : TypeId} {fz : Nat × Nat} {i : Nat} [k : BlkAt g M (.cells cs.toArray t fz) i] (h : cs = cs') (hh : WX .seq P ops Q nt w0 X rest fr (M.set i [(g, .cells cs'.toArray t fz)])) : WX .seq P ops Q nt w0 X rest fr M := by
  subst h
  exact wx_as i _ k.at_ hh
theorem wc_blk (g : Nat) (cs' : List Value) {cs : List Value} {t : TypeId} {fz : Nat × Nat} {i : Nat} {c : Code} [k : BlkAt g M (.cells cs.toArray t fz) i] (h : cs = cs') (hh : WC P Q nt w0 X c fr (M.set i [(g, .cells cs'.toArray t fz)])) : WC P Q nt w0 X c fr M := by
  subst h
  exact wc_as i _ k.at_ hh
theorem wq_blk (g : Nat) (cs' : List Value) {cs : List Value} {t : TypeId} {fz : Nat × Nat} {i : Nat} {e : Exit} [k : BlkAt g M (.cells cs.toArray t fz) i] (h : cs = cs') (hh : WQ Q nt w0 X e fr (M.set i [(g, .cells cs'.toArray t fz)])) : WQ Q nt w0 X e fr M := by
  subst h
  have e : M.set i [(g, .cells cs.toArray t fz)] = M := by
    obtain ⟨h1, h2⟩ := List.getElem?_eq_some_iff.1 k.at_
    rw [← h2]; simp
  rwa [e] at hh
end blk
/-! ### draws where a panic may come -/
def PanicNot (ks : List Nat) (Q : Exit → Act → World → Prop) : Prop := ∀ c d v a w, ks.contains d = false → Q (.panic c) (Act.put a (some d) v) w → Q (.panic c) a w
theorem panicNot_of {Q : Exit → Act → World → Prop} (h : PanicOk Q) : PanicNot [] Q := fun c d v a w _ hq => h c _ _ a w hq
theorem panicNot_then {ks : List Nat} {N : Act → World → Prop} {Q : Exit → Act → World → Prop} (h : PanicNot ks Q) : PanicNot ks (Exit.then N Q) := fun c d v a w hk hq => h c d v a w hk hq
theorem panicNot_block {ks : List Nat} {i : Nat} {Q : Exit → Act → World → Prop} (h : PanicNot ks Q) : PanicNot ks (Exit.inBlock i Q) := fun c d v a w hk hq => h c d v a w hk hq
theorem leaves_congr {P : Program} {fn : Func} {t1 t2 : Array Value} {R : Ending → World → Prop} (ht : ∀ w v, (results fn t1).run P w = .ok v w → (results fn t2).run P w = .ok v w) : ∀ (ds : List Deferred) (u : FrameMode) (w : World), Leaves P fn t1 R ds u w → Leaves P fn t2 R ds u w
  | [], u, w, h => by
    cases u with
    | run => exact h
    | returning =>
      obtain ⟨v, h1, h2⟩ := h
      exact ⟨v, ht _ _ h1, h2⟩
    | panicking c => exact h
  | d :: ds, u, w, h => by
    obtain ⟨hu, fv, cap, f, args, h1, h2, h3⟩ := h
    refine ⟨hu, fv, cap, f, args, h1, h2, h3.mono fun e u' w' he => ?_⟩
    cases e with
    | returned v => exact leaves_congr ht ds _ _ he
    | panicked c => exact leaves_congr ht ds _ _ he
    | outgrown => exact he
/-- results that lie in three variables -/
theorem results_put3 {P : Program} {fn : Func} {s1 s2 s3 t1 t2 t3 : Nat} (hr : fn.results = #[.cell s1 t1, .cell s2 t2, .cell s3 t3]) {tmps : Array Value} {d : Nat} {v : Value} (h : ([s1, s2, s3] : List Nat).contains d = false) : results fn (tmps.setIfInBounds d v) = results fn tmps := by
  have h1 : d ≠ s1 ∧ d ≠ s2 ∧ d ≠ s3 := by simpa using h
  simp [results, hr, Array.getElem?_setIfInBounds_ne h1.1, Array.getElem?_setIfInBounds_ne h1.2.1, Array.getElem?_setIfInBounds_ne h1.2.2]
/-! ### a body with one call put off -/
section D
variable {P : Program} {fn : Func} {nt : Sh} {w0 : World} {X : List Nat} {fr : Fr} {M : List Seg}
theorem goD {P : Program} {f : FuncId} {fn : Func} {c : Code} (args : List Value) {w : World} {R : Ending → World → Prop} (M : List Seg)
    (hf : P.funcs[f]? = some fn) {nt : Nat} (hnt : fn.ntmps = nt) (hb : fn.body = some c) (hn : Nat.ble args.length nt = true)
    (hM : Own w M) (h : WC P (bodyPostD P fn R) ⟨nt, []⟩ w (ids M) c (argsFr 0 args) M) : Calls P f args.toArray w R := by
  subst hnt
  have hn := Nat.le_of_ble_eq_true hn
  refine calls_of_wp_defers hf hb (h _ w ⟨?_, fun k v e => ?_, rfl⟩ (Res.refl hM))
  · simp; omega
  · have h1 := (argsFr_spec args 0 k v (List.replicate (fn.ntmps - args.length) undef) e).2
    have h2 : args.toArray ++ Array.replicate (fn.ntmps - args.toArray.size) undef = (args ++ List.replicate (fn.ntmps - args.length) undef).toArray := by simp
    show (args.toArray ++ Array.replicate (fn.ntmps - args.toArray.size) undef)[k]? = some v
    rw [h2, List.getElem?_toArray]
    simpa using h1
variable {β : Type} {val : β → Value} {MM : β → List Seg} {φ : β → Prop}
/-- what a deferred call leaves: the mode that its caller goes on in, and the memory -/
def RetD (w : World) (X : List Nat) (u : FrameMode) (M : List Seg) : Ending → FrameMode → World → Prop := fun e u' w' => (∃ v, e = .returned v) ∧ u' = u ∧ Res w X w' M
theorem inv_fn {f : FuncId} (h : okFn P f = true) (cs : Array Value) (w : World) : (invoke (.fn (.func f) cs) #[]).run P w = .ok (.enter f cs) w := by
  simp [invoke, run_callFunc h]
/-- the end behind a panic that the deferred call recovers -/
theorem wq_panD (z : β) {n : Nat} {f : FuncId} {cs : List Value} {v : Value} {M1 M2 L : List Seg} (hf : okFn P f = true)
    (hd : ∀ w, Res w0 X w (M1 ++ L) → Own w M1 → CallsD P f cs.toArray (.panicking [entry v]) w (RetD w (ids M1) (.panicking [{ v := v, recovered := true }]) M2)) [T : Takes M1 M L] {M3 L' : List Seg}
    (hr : ∀ a w, St ⟨n, [{ target := .fn (.func f) cs.toArray, args := #[] }]⟩ a fr → Res w0 X w (M2 ++ L) → (results fn a.tmps).run P w = .ok (val z) w) (hφ : φ z) (hM : MM z = M3) [T2 : Takes M3 (M2 ++ L) L'] :
    WQ (bodyPostD P fn (Ret w0 X val MM φ)) ⟨n, [{ target := .fn (.func f) cs.toArray, args := #[] }]⟩ w0 X (.panic [entry v]) fr M := fun a w hs hres => by
  subst hM
  have hp := hres.perm T.perm
  show Leaves P fn a.tmps _ a.defers _ w
  rw [hs.calm]
  refine leaves_cons (by simp) (inv_fn hf _ w) ((hd w hp hp.own.left).mono fun e u' w' he => ?_)
  obtain ⟨⟨r, rfl⟩, rfl, hr'⟩ := he
  have h2 := hp.call hr'
  exact ⟨val z, hr a w' hs h2, z, hφ, rfl, (h2.perm T2.perm).drop⟩
/-- the end behind a return: the deferred call does nothing -/
theorem wq_retD (z : β) {n : Nat} {f : FuncId} {cs : List Value} (hf : okFn P f = true) (hd : ∀ w, CallsD P f cs.toArray .returning w (RetD w (ids []) .returning []))
    (hr : ∀ a w, St ⟨n, [{ target := .fn (.func f) cs.toArray, args := #[] }]⟩ a fr → Res w0 X w M → (results fn a.tmps).run P w = .ok (val z) w) (hφ : φ z) {M3 L' : List Seg} (hM : MM z = M3) [T2 : Takes M3 M L'] :
    WQ (bodyPostD P fn (Ret w0 X val MM φ)) ⟨n, [{ target := .fn (.func f) cs.toArray, args := #[] }]⟩ w0 X .ret fr M := fun a w hs hres => by
  subst hM
  show Leaves P fn a.tmps _ a.defers _ w
  rw [hs.calm]
  refine leaves_cons (by simp) (inv_fn hf _ w) ((hd w).mono fun e u' w' he => ?_)
  obtain ⟨⟨r, rfl⟩, rfl, hr'⟩ := he
  have h2 : Res w0 X w' M := Res.call (M := []) (L := M) hres hr'
  exact ⟨val z, hr a w' hs h2, z, hφ, rfl, (h2.perm T2.perm).drop⟩
theorem goRec {f : FuncId} {i d e : Nat} {y : Code} {t1 t2 : TypeId} {p1 p2 : String} {a1 a2 : Array Edge} {n : Nat} (args : List Value) {w : World} (M : List Seg) {R : Ending → FrameMode → World → Prop} {u u' : FrameMode} {v : Value}
    (hf : P.funcs[f]? = some fn) (hnt : fn.ntmps = n) (hb : fn.body = some (.seq (.region i #[⟨some d, .call ⟨.builtin .recover, #[], #[]⟩, t1, p1, a1, none⟩, ⟨some e, .assign (.tmp d), t2, p2, a2, none⟩] false) y)) (hn : Nat.ble args.length n = true) (hd : Nat.blt d n = true) (he : Nat.blt e n = true)
    (hM : Own w M) (hu : (u = .returning ∧ v = .nilIface ∧ u' = .returning) ∨ (u = .panicking [entry v] ∧ u' = .panicking [{ v := v, recovered := true }]))
    (h : WC P (bodyPost P fn (fun e w' => R e u' w')) ⟨n, []⟩ w (ids M) y ((e, v) :: (d, v) :: argsFr 0 args) M) : CallsD P f args.toArray u w R := by
  subst hnt
  have hn := Nat.le_of_ble_eq_true hn
  have hd' : d < fn.ntmps := by simpa using hd
  have he' : e < fn.ntmps := by simpa using he
  refine callsD_of_wpS hf hb fun c0 cs hm => wpS_seq (wpS_region ?_)
  have hs : St ⟨fn.ntmps, []⟩ { tmps := args.toArray ++ Array.replicate (fn.ntmps - args.toArray.size) undef, defers := [] } (argsFr 0 args) := by
    refine ⟨by simp; omega, fun k v e => ?_, rfl⟩
    have h1 := (argsFr_spec args 0 k v (List.replicate (fn.ntmps - args.length) undef) e).2
    have h2 : args.toArray ++ Array.replicate (fn.ntmps - args.toArray.size) undef = (args ++ List.replicate (fn.ntmps - args.length) undef).toArray := by simp
    show (args.toArray ++ Array.replicate (fn.ntmps - args.toArray.size) undef)[k]? = some v
    rw [h2, List.getElem?_toArray]
    simpa using h1
  generalize ha : ({ tmps := args.toArray ++ Array.replicate (fn.ntmps - args.toArray.size) undef, defers := [] } : Act) = a at hs ⊢
  have hs1 := hs.put v hd'
  have hs2 := hs1.put v he'
  have hev : (a.put (some d) v).eval (.tmp d) = v := hs1.ev (x := .tmp d) (by simp [ev, look])
  have r1 : ∀ (ρ : Operand → Value) w, (execOp ρ ⟨some d, .call ⟨.builtin .recover, #[], #[]⟩, t1, p1, a1, none⟩).run P w = .ok .recover w := fun ρ w => by
    simp [execOp, resolve, invoke, builtin]
  have r2 : (execOp (a.put (some d) v).eval ⟨some e, .assign (.tmp d), t2, p2, a2, none⟩).run P w = .ok (.value v) w := by
    simp [execOp, hev]
  have fin : y.wpS P (bodyPostS P fn c0 cs R) ((a.put (some d) v).put (some e) v) ({ c0 with mode := u' } :: cs) w := by
    refine wpS_of_wp (wp_mono (h _ w hs2 (Res.refl hM)) fun e a' w' hq => ?_)
    cases e with
    | normal =>
      obtain ⟨h1, v1, h2, h3⟩ := hq
      exact ⟨h1, u', rfl, v1, h2, h3⟩
    | ret =>
      obtain ⟨h1, v1, h2, h3⟩ := hq
      exact ⟨h1, u', rfl, v1, h2, h3⟩
    | panic c =>
      obtain ⟨h1, h2⟩ := hq
      exact ⟨h1, u', rfl, h2⟩
    | outgrown => exact ⟨u', hq⟩
    | exit i => exact hq
    | goto l => exact hq
  have hrg : List.range (#[(⟨some d, .call ⟨.builtin .recover, #[], #[]⟩, t1, p1, a1, none⟩ : Oper), ⟨some e, .assign (.tmp d), t2, p2, a2, none⟩] : Array Oper).size = [0, 1] := rfl
  rw [hrg]
  have hmode : (match recoverD (c0 :: cs) with
      | some (v1, cs') => v1 = v ∧ cs' = { c0 with mode := u' } :: cs
      | none => v = .nilIface ∧ (c0 :: cs) = { c0 with mode := u' } :: cs) := by
    rcases hu with ⟨rfl, rfl, rfl⟩ | ⟨rfl, rfl⟩
    · have : recoverD (c0 :: cs) = none := by simp [recoverD, hm]
      rw [this]
      refine ⟨rfl, ?_⟩
      rw [← hm]
    · have : recoverD (c0 :: cs) = some (v, { c0 with mode := .panicking [{ v := v, recovered := true }] } :: cs) := by simp [recoverD, hm]
      rw [this]
      exact ⟨rfl, rfl⟩
  have step2 : ∀ cs', cs' = { c0 with mode := u' } :: cs → wpOpsS P #[(⟨some d, .call ⟨.builtin .recover, #[], #[]⟩, t1, p1, a1, none⟩ : Oper), ⟨some e, .assign (.tmp d), t2, p2, a2, none⟩] (Exit.thenS (y.wpS P (bodyPostS P fn c0 cs R)) (bodyPostS P fn c0 cs R)) [1] (a.put (some d) v) cs' w := fun cs' hc => by
    subst hc
    simp [wpOpsS, Region.wanted, r2, Oper.upon, Exit.thenS]
    exact fin
  unfold wpOpsS
  simp only [List.getElem?_toArray, List.getElem?_cons_zero, Region.wanted, if_true, r1]
  revert hmode
  cases recoverD (c0 :: cs) with
  | some q =>
    rintro ⟨rfl, h2⟩
    exact step2 _ h2
  | none =>
    rintro ⟨rfl, h2⟩
    exact step2 _ h2
theorem wq_doneD {u : FrameMode} {M1 L : List Seg} (hr : fn.results = #[]) [Z : Calm nt] [T : Takes M1 M L] : WQ (bodyPost P fn (fun e w' => RetD w0 X u M1 e u w')) nt w0 X .normal fr M := wq_sub T.perm fun a w hs hres =>
  ⟨hs.calm.trans Z.eq, .tuple #[], by simp [results, hr], ⟨_, rfl⟩, rfl, hres⟩
theorem panicNot_D3 {s1 s2 s3 t1 t2 t3 : Nat} {R : Ending → World → Prop} (hr : fn.results = #[.cell s1 t1, .cell s2 t2, .cell s3 t3]) : PanicNot [s1, s2, s3] (bodyPostD P fn R) := fun c d v a w hk hq => by
  have e := results_put3 (P := P) hr (tmps := a.tmps) (v := v) hk
  exact leaves_congr (t1 := a.tmps.setIfInBounds d v) (fun w' u h => by rw [e] at h; exact h) _ _ _ hq
/-- results that lie in three variables: a struct and two numbers -/
theorem res_cells3 {s1 s2 s3 t1 t2 t3 g1 g2 g3 : Nat} (hr : fn.results = #[.cell s1 t1, .cell s2 t2, .cell s3 t3]) {a : Act} {w : World} {cs : List Value} {v2 v3 : Value} {e1 e2 e3 : TypeId} {f1 f2 f3 : Nat × Nat} {d2 d3 : TypeDesc} (hs : St nt a fr) (h1 : look fr s1 = some (.pointer (some ⟨g1, 0, none⟩))) (h2 : look fr s2 = some (.pointer (some ⟨g2, 0, none⟩))) (h3 : look fr s3 = some (.pointer (some ⟨g3, 0, none⟩)))
    (hres : Res w0 X w M) [B1 : BlkIn g1 M (.cells cs.toArray e1 f1)] [B2 : BlkIn g2 M (.cells [v2].toArray e2 f2)] [B3 : BlkIn g3 M (.cells [v3].toArray e3 f3)] (hn : aggN P t1 = some cs.length) (hu2 : P.underlying t2 = some d2) (hp2 : plainT d2 = true) (hu3 : P.underlying t3 = some d3) (hp3 : plainT d3 = true) :
    (results fn a.tmps).run P w = .ok (.tuple #[.agg cs.toArray, v2, v3]) w := by
  obtain ⟨g4, g5⟩ := aggN_spec hn
  have q1 := run_loadCells_list (P := P) w ⟨g1, 0, none⟩ cs (fun k v hk => by rw [add_plain, Nat.zero_add]; exact B1.cell hres hk)
  have q2 := run_loadVar_plain (P := P) hu2 hp2 (B2.cell hres (off := 0) rfl)
  have q3 := run_loadVar_plain (P := P) hu3 hp3 (B3.cell hres (off := 0) rfl)
  have q0 : (loadVar t1 ⟨g1, 0, none⟩).run P w = .ok (.agg cs.toArray) w := by simp [loadVar, g4, g5, q1]
  simp only [results, hr]
  simp [hs.has _ _ h1, hs.has _ _ h2, hs.has _ _ h3, asAddr, q0, q2, q3]
end D
/-! ### draws -/
section heldX
variable {P : Program} {ops : Array Oper} {Q : Exit → Act → World → Prop} {nt : Sh} {w0 : World} {X : List Nat} {fr : Fr} {M Ms : List Seg} {ks : List Nat}
theorem wh_takeX (i : Nat) {d : Nat} {op : Op} {ty : TypeId} {pos : String} {af : Array Edge} {v : Value} {fuel : Nat} {listed : Array Bool} (hS : ∀ w, Res w0 X w M → Res w0 X w Ms) (hQ : PanicNot ks Q) (hi : ops[i]? = some ⟨some d, op, ty, pos, af, none⟩) (hk : ks.contains d = false)
    (hv : Val P nt w0 X fr Ms ⟨some d, op, ty, pos, af, none⟩ v) (hs : Region.noSelect ops = true) (hf : Region.free .any ops listed i = true) (hr : (Region.ready .any ops listed).contains i = true) (hd : Nat.blt d nt.n = true)
    (h : WH P ops Q nt w0 X Ms fuel (listed.setIfInBounds i true) ((d, v) :: fr) M) : WH P ops Q nt w0 X Ms (fuel + 1) listed fr M := fun a w h1 h2 =>
  wpAnyH_take hi hs hf hr (fun c a w hq => hQ c _ _ a w hk hq) (.inl ⟨by simp [Region.wanted], fun w' hw' => hv a w' h1 hw'⟩) (hS w h2) (h _ w (h1.put v (by simpa using hd)) h2)
theorem wh_takegX (i : Nat) {d j s : Nat} {b : Bool} {op : Op} {ty : TypeId} {pos : String} {af : Array Edge} {v : Value} {fuel : Nat} {listed : Array Bool} (hS : ∀ w, Res w0 X w M → Res w0 X w Ms) (hQ : PanicNot ks Q) (hi : ops[i]? = some ⟨some d, op, ty, pos, af, some (j, b)⟩) (hk : ks.contains d = false)
    (hj : gslot ops j = some s) (hb : look fr s = some (.bool b))
    (hv : Val P nt w0 X fr Ms ⟨some d, op, ty, pos, af, some (j, b)⟩ v) (hs : Region.noSelect ops = true) (hf : Region.free .any ops listed i = true) (hr : (Region.ready .any ops listed).contains i = true) (hd : Nat.blt d nt.n = true)
    (h : WH P ops Q nt w0 X Ms fuel (listed.setIfInBounds i true) ((d, v) :: fr) M) : WH P ops Q nt w0 X Ms (fuel + 1) listed fr M := fun a w h1 h2 =>
  wpAnyH_take hi hs hf hr (fun c a w hq => hQ c _ _ a w hk hq) (.inl ⟨wanted_yes h1 rfl hj hb, fun w' hw' => hv a w' h1 hw'⟩) (hS w h2) (h _ w (h1.put v (by simpa using hd)) h2)
theorem wh_takenX (i : Nat) {d j s : Nat} {b : Bool} {op : Op} {ty : TypeId} {pos : String} {af : Array Edge} {fuel : Nat} {listed : Array Bool} (hS : ∀ w, Res w0 X w M → Res w0 X w Ms) (hQ : PanicNot ks Q) (hi : ops[i]? = some ⟨some d, op, ty, pos, af, some (j, b)⟩) (hk : ks.contains d = false)
    (hj : gslot ops j = some s) (hb : look fr s = some (.bool (!b)) ∨ look fr s = some undef) (hs : Region.noSelect ops = true) (hf : Region.free .any ops listed i = true) (hr : (Region.ready .any ops listed).contains i = true) (hd : Nat.blt d nt.n = true)
    (h : WH P ops Q nt w0 X Ms fuel (listed.setIfInBounds i true) ((d, undef) :: fr) M) : WH P ops Q nt w0 X Ms (fuel + 1) listed fr M := fun a w h1 h2 =>
  wpAnyH_take hi hs hf hr (fun c a w hq => hQ c _ _ a w hk hq) (.inr ⟨hb.elim (fun hb => wanted_no h1 rfl hj hb) (fun hb => wanted_undef h1 rfl hj hb), rfl⟩) (hS w h2) (h _ w (h1.put undef (by simpa using hd)) h2)
theorem wc_heldX (ks : List Nat) (Ms : List Seg) {i : Nat} {l : List Oper} (hm : P.follows .mixedOrders = true) (hq : PanicNot ks Q) (h : PanicNot ks Q → WH P l.toArray Q nt w0 X Ms l.length (Array.replicate l.length false) fr M) : WC P Q nt w0 X (.region i l.toArray true) fr M :=
  wc_held Ms hm (h hq)
/- the same, the rest found by itself -/
theorem tkX (i : Nat) {d : Nat} {op : Op} {ty : TypeId} {pos : String} {af : Array Edge} {v : Value} {fuel : Nat} {listed : Array Bool} (hi : ops[i]? = some ⟨some d, op, ty, pos, af, none⟩)
    (hv : Val P nt w0 X fr Ms ⟨some d, op, ty, pos, af, none⟩ v) (h : WH P ops Q nt w0 X Ms fuel (listed.setIfInBounds i true) ((d, v) :: fr) M)
    (hS : ∀ w, Res w0 X w M → Res w0 X w Ms := by first | exact fun _ h => h | exact fun _ h => res_takes h) (hQ : PanicNot ks Q := by assumption) (hk : ks.contains d = false := by rfl)
    (hs : Region.noSelect ops = true := by decide +kernel) (hf : Region.free .any ops listed i = true := by decide +kernel) (hr : (Region.ready .any ops listed).contains i = true := by decide +kernel) (hd : Nat.blt d nt.n = true := by rfl) : WH P ops Q nt w0 X Ms (fuel + 1) listed fr M :=
  wh_takeX i hS hQ hi hk hv hs hf hr hd h
theorem tkgX (i : Nat) {d j s : Nat} {b : Bool} {op : Op} {ty : TypeId} {pos : String} {af : Array Edge} {v : Value} {fuel : Nat} {listed : Array Bool} (hi : ops[i]? = some ⟨some d, op, ty, pos, af, some (j, b)⟩)
    (hv : Val P nt w0 X fr Ms ⟨some d, op, ty, pos, af, some (j, b)⟩ v) (h : WH P ops Q nt w0 X Ms fuel (listed.setIfInBounds i true) ((d, v) :: fr) M)
    (hj : gslot ops j = some s := by rfl) (hb : look fr s = some (.bool b) := by rfl)
    (hS : ∀ w, Res w0 X w M → Res w0 X w Ms := by first | exact fun _ h => h | exact fun _ h => res_takes h) (hQ : PanicNot ks Q := by assumption) (hk : ks.contains d = false := by rfl)
    (hs : Region.noSelect ops = true := by decide +kernel) (hf : Region.free .any ops listed i = true := by decide +kernel) (hr : (Region.ready .any ops listed).contains i = true := by decide +kernel) (hd : Nat.blt d nt.n = true := by rfl) : WH P ops Q nt w0 X Ms (fuel + 1) listed fr M :=
  wh_takegX i hS hQ hi hk hj hb hv hs hf hr hd h
theorem tknX (i : Nat) {d j s : Nat} {b : Bool} {op : Op} {ty : TypeId} {pos : String} {af : Array Edge} {fuel : Nat} {listed : Array Bool} (hi : ops[i]? = some ⟨some d, op, ty, pos, af, some (j, b)⟩)
    (h : WH P ops Q nt w0 X Ms fuel (listed.setIfInBounds i true) ((d, undef) :: fr) M)
    (hj : gslot ops j = some s := by rfl) (hb : look fr s = some (.bool (!b)) ∨ look fr s = some undef := by first | exact .inl rfl | exact .inr rfl)
    (hS : ∀ w, Res w0 X w M → Res w0 X w Ms := by first | exact fun _ h => h | exact fun _ h => res_takes h) (hQ : PanicNot ks Q := by assumption) (hk : ks.contains d = false := by rfl)
    (hs : Region.noSelect ops = true := by decide +kernel) (hf : Region.free .any ops listed i = true := by decide +kernel) (hr : (Region.ready .any ops listed).contains i = true := by decide +kernel) (hd : Nat.blt d nt.n = true := by rfl) : WH P ops Q nt w0 X Ms (fuel + 1) listed fr M :=
  wh_takenX i hS hQ hi hk hj hb hs hf hr hd h
theorem hdX {fuel : Nat} {listed : Array Bool} (h : WH P ops Q nt w0 X Ms fuel listed fr M) (hS : ∀ w, Res w0 X w M → Res w0 X w Ms := by first | exact fun _ h => h | exact fun _ h => res_takes h) : WQ (Exit.then (HK P ops Q w0 X Ms fuel listed) Q) nt w0 X .normal fr M := wq_held hS h
theorem wc_heldN (ks : List Nat) (Ms : List Seg) {i : Nat} {l : List Oper} (h : PanicNot ks Q → WH P l.toArray Q nt w0 X Ms l.length (Array.replicate l.length false) fr M) (hm : P.follows .mixedOrders = true := by rfl)
    (hq : PanicNot ks Q := by repeat (first | exact panicNot_D3 rfl | with_reducible exact panicNot_of panicOk_body | with_reducible apply panicNot_block | with_reducible apply panicNot_then)) : WC P Q nt w0 X (.region i l.toArray true) fr M := wc_heldX ks Ms hm hq h
end heldX
end Go.Proofs.Ytlioccfedophhaa
/- The seat's own logic: slices of one's own that begin inside their block. -/
set_option linter.unusedVariables false
set_option linter.unusedSimpArgs false
namespace Go.Proofs.Ytlioccfedophhaa
open Go
def BufR (e sz : Nat) (A : Option Addr) (n c : Nat) (xs : List Value) (E : Seg) : Prop :=
  xs.length = n * sz ∧ ((A = none ∧ n = 0 ∧ c = 0 ∧ E = []) ∨
    ∃ g o cur fz, A = some ⟨g, o, none⟩ ∧ E = [(g, .cells cur e fz)] ∧ n ≤ c ∧ c ≤ maxLen ∧ o + c * sz ≤ cur.size ∧ (cur.toList.drop o).take (n * sz) = xs ∧ okF fz cur.size)
theorem Buf.r {e sz n c : Nat} {A : Option Addr} {xs : List Value} {E : Seg} (h : Buf e sz A n c xs E) : BufR e sz A n c xs E := by
  refine ⟨h.1, ?_⟩
  rcases h.2 with h | ⟨g, cur, fz, h1, h2, h3, h4, h5, h6, h7⟩
  · exact .inl h
  · exact .inr ⟨g, 0, cur, fz, h1, h2, h3, h4, by omega, by rw [List.drop_zero]; exact h6, h7⟩
theorem BufR.le {e sz n c : Nat} {A : Option Addr} {xs : List Value} {E : Seg} (h : BufR e sz A n c xs E) : n ≤ c ∧ c ≤ maxLen := by
  rcases h.2 with ⟨_, rfl, rfl, _⟩ | ⟨g, o, cur, fz, _, _, h1, h2, _⟩
  · exact ⟨Nat.le_refl _, Nat.zero_le _⟩
  · exact ⟨h1, h2⟩
theorem BufR.cells {e sz n c : Nat} {A : Option Addr} {xs : List Value} {E : Seg} (h : BufR e sz A n c xs E) {w : World} (hw : ∀ p, p ∈ E → w.heap[p.1]? = some p.2) :
    xs ≠ [] → ∃ g o, A = some ⟨g, o, none⟩ ∧ g ∈ E.map (·.1) ∧ ∀ j u, xs[j]? = some u → w.cell? ⟨g, o + j, none⟩ = some u := by
  intro hx
  rcases h.2 with ⟨_, rfl, _, _⟩ | ⟨g, o, cur, fz, rfl, rfl, _, _, hs, ht, hf⟩
  · exact absurd (List.eq_nil_of_length_eq_zero (by simpa using h.1)) hx
  · refine ⟨g, o, rfl, by simp, fun j u hj => ?_⟩
    have hg : w.heap[g]? = some (.cells cur e fz) := hw (g, .cells cur e fz) (by simp)
    have hl := (List.getElem?_eq_some_iff.1 hj).1
    rw [← ht, List.getElem?_take_of_lt (by rw [← h.1]; exact hl), List.getElem?_drop] at hj
    simp only [World.cell?, hg]
    simpa using hj
/-- the rest of a slice of one's own, from l on -/
theorem BufR.cut {e sz n c l : Nat} {A : Option Addr} {xs : List Value} {E : Seg} (h : BufR e sz A n c xs E) (hl : l ≤ n) {m : Nat} (hm : m = n - l) : BufR e sz (cutA A l n c sz) m (c - l) (xs.drop (l * sz)) E := by
  subst hm
  have hlen : (xs.drop (l * sz)).length = (n - l) * sz := by rw [List.length_drop, h.1, Nat.sub_mul]
  refine ⟨hlen, ?_⟩
  rcases h.2 with ⟨rfl, rfl, rfl, rfl⟩ | ⟨g, o, cur, fz, rfl, rfl, h1, h2, h3, h4, h5⟩
  · exact .inl ⟨by unfold cutA; split <;> rfl, by omega, by omega, rfl⟩
  · right
    unfold cutA
    by_cases hc : c = l
    · rw [if_pos hc]
      refine ⟨g, o, cur, fz, rfl, rfl, by omega, by omega, by rw [show c - l = 0 by omega, Nat.zero_mul]; omega, ?_, h5⟩
      rw [show n - l = 0 by omega, Nat.zero_mul, List.take_zero]
      exact (List.eq_nil_of_length_eq_zero (by rw [hlen, show n - l = 0 by omega, Nat.zero_mul])).symm
    · rw [if_neg hc]
      have hmul : l * sz + (c - l) * sz = c * sz := by rw [← Nat.add_mul]; congr 1; omega
      refine ⟨g, o + l * sz, cur, fz, by simp [Option.map, add_plain], rfl, by omega, by omega, by omega, ?_, h5⟩
      rw [← h4, List.drop_take, List.drop_drop, ← Nat.sub_mul]
theorem BufR.rd {e sz n c : Nat} {A : Option Addr} {xs : List Value} {E : Seg} (h : BufR e sz A n c xs E) {w0 w : World} {X : List Nat} {M : List Seg} (hr : Res w0 X w M) {i : Nat} (hi : M[i]? = some E) : Rd w A xs := fun hx => by
  obtain ⟨g, o, rfl, _, hc⟩ := h.cells (fun p hp => hr.own.at_ p (List.mem_flatten.2 ⟨E, List.mem_of_getElem? hi, hp⟩)) hx
  exact ⟨g, o, rfl, hc⟩
theorem BufR.rdT {e sz n c : Nat} {A : Option Addr} {xs : List Value} {E : Seg} (h : BufR e sz A n c xs E) {w0 w : World} {X : List Nat} {M : List Seg} (hr : Res w0 X w M) [k : Has E M] : Rd w A xs := by
  obtain ⟨i, hi⟩ := k.idx
  exact h.rd hr hi
theorem BufR.vwT {e sz n c : Nat} {A : Option Addr} {xs : List Value} {E : Seg} (h : BufR e sz A n c xs E) {w0 w : World} {X : List Nat} {M : List Seg} (hr : Res w0 X w M) [k : Has E M] : Vw [] w A xs := (h.rdT hr).vw
theorem BufR.vwO {e sz n c : Nat} {A : Option Addr} {xs : List Value} {E : Seg} (h : BufR e sz A n c xs E) {w0 w : World} {X : List Nat} {M L : List Seg} (hr : Res w0 X w (M ++ L)) [k : Has E L] : Vw (ids M) w A xs := by
  obtain ⟨i, hi⟩ := k.idx
  intro hx
  have hE : E ∈ M ++ L := List.mem_append.2 (.inr (List.mem_of_getElem? hi))
  obtain ⟨g, o, rfl, hg, hc⟩ := h.cells (fun p hp => hr.own.at_ p (List.mem_flatten.2 ⟨E, hE, hp⟩)) hx
  refine ⟨g, o, rfl, fun hm => ?_, hc⟩
  have hn := hr.own.nd
  rw [ids_append, List.nodup_append] at hn
  have hgL : g ∈ ids L := by
    obtain ⟨p, hp, rfl⟩ := List.mem_map.1 hg
    exact List.mem_map.2 ⟨p, List.mem_flatten.2 ⟨E, List.mem_of_getElem? hi, hp⟩, rfl⟩
  exact hn.2.2 g hm g hgL rfl
theorem BufR.ptr {e sz n c : Nat} {A : Option Addr} {xs : List Value} {E : Seg} (h : BufR e sz A n c xs E) (hn : 0 < n) : ∃ g o, A = some ⟨g, o, none⟩ := by
  rcases h.2 with ⟨_, rfl, _, _⟩ | ⟨g, o, cur, fz, rfl, _⟩
  · omega
  · exact ⟨g, o, rfl⟩
theorem BufR.byteE {e g o n c : Nat} {A : Option Addr} {l : List UInt8} {E : Seg} (h : BufR e 1 A n c (bys l) E) (hA : A = some ⟨g, o, none⟩) {j : Nat} {w0 w : World} {X : List Nat} {M : List Seg} (hr : Res w0 X w M) [k : Has E M] (hj : j < l.length) {p : Nat} (hp : p = o + j) : w.cell? ⟨g, p, none⟩ = some (.int .u8 (l.getD j 0).toNat) := by
  subst hp
  have hne : bys l ≠ [] := by intro e; have := congrArg List.length e; simp at this; subst this; simp at hj
  obtain ⟨g', o', hA', hc⟩ := h.rdT hr hne
  rw [hA] at hA'
  cases hA'
  refine hc j _ ?_
  simp [bys, List.getD, List.getElem?_eq_getElem hj]
theorem run_append_bufR {P : Program} {w : World} {t tx ty e sz bytes : Nat} {i : TypeInfo} {z : Value} (ht : P.underlying t = some (.slice e)) (hi : P.info? e = some i) (hz : i.zero = some z) (hsize : i.size = sz) (hby : i.bytes = bytes)
    (hzs : z.cells.size = sz) (hsz : 0 < sz) {A : Option Addr} {n c m : Nat} {xs news : List Value} {E : Seg} (hb : BufR e sz A n c xs E) (hE : ∀ p, p ∈ E → w.heap[p.1]? = some p.2) {x : Value} (hs : Src P sz tx x m news w)
    (h63 : n + m ≤ maxLen) (hbytes : (n + m) * bytes ≤ 140737488355328) :
    ∃ A' c' E' w', (Builtin.append_ #[t, tx] ty #[.slice A n c, x]).run P w = .ok (.slice A' (n + m) c') w' ∧ BufR e sz A' (n + m) c' (xs ++ news) E' ∧ Res w (E.map (·.1)) w' [E'] := by
  rcases hb.2 with ⟨rfl, rfl, rfl, rfl⟩ | ⟨g, o, cur, fz, rfl, rfl, hnc, hcm, hcs, htake, hof⟩
  · have hx : xs = [] := List.eq_nil_of_length_eq_zero (by simpa using hb.1)
    subst hx
    obtain ⟨A', c', E', w', h1, h2, h3⟩ := run_append_buf (ty := ty) ht hi hz hsize hby hzs hsz (Buf.nil e sz) (w := w) (by simp) hs h63 hbytes
    exact ⟨A', c', E', w', h1, h2.r, h3⟩
  subst hsize
  subst hby
  have hlen : (xs ++ news).length = (n + m) * i.size := by rw [List.length_append, hb.1, hs.newsLen, Nat.add_mul]
  have hsmall : ((n + m : Nat) : Int) ≤ 9223372036854775807 := by simp only [maxLen] at h63; omega
  have hg : w.heap[g]? = some (.cells cur e fz) := hE (g, .cells cur e fz) (by simp)
  by_cases hroom : n + m ≤ c
  · have hfit : o + n * i.size + news.length ≤ cur.size := by
      have : (n + m) * i.size ≤ c * i.size := Nat.mul_le_mul_right _ hroom
      rw [hs.newsLen]
      rw [Nat.add_mul] at this
      omega
    have hcell : ∀ j, j < news.length → (w.cell? ⟨g, o + n * i.size + j, none⟩).isSome = true := fun j hj => by
      simp only [World.cell?, hg]
      simp; omega
    have hfz : ∀ j, j < news.length → w.frozen? ⟨g, o + n * i.size + j, none⟩ = false := fun j hj => hof.frozen hg (by omega)
    have hr := run_append_room_src w t tx ty e i ht hi g o n c x m news hs hroom hcell hfz
    have hsl := spliced_length cur.toList (o + n * i.size) news (by simpa using hfit)
    refine ⟨_, c, _, _, hr, ⟨hlen, .inr ⟨g, o, _, fz, rfl, rfl, hroom, hcm, ?_, ?_, ?_⟩⟩, res_setCells hg hfit⟩
    · simp only [List.size_toArray, hsl, Array.length_toList]; exact hcs
    · have hto : (cur.toList.take (o + n * i.size)).length = o + n * i.size := by rw [List.length_take, Array.length_toList]; omega
      simp only [spliced]
      rw [List.append_assoc, List.drop_append_of_le_length (by omega), List.drop_take, Nat.add_sub_cancel_left, htake, ← List.append_assoc, ← hlen]
      exact List.take_left
    · simp only [List.size_toArray, hsl, Array.length_toList]
      exact hof
  · have hold : (Builtin.firstCells i.size n (.slice (some ⟨g, o, none⟩) n c)).run P w.drew = .ok xs.toArray w.drew := by
      refine run_firstCells_some w.drew _ _ _ _ _ xs hb.1 fun j u hj => ?_
      obtain ⟨g', o', hg', _, hc⟩ := hb.cells hE (by intro h; simp [h] at hj)
      cases hg'
      rw [add_plain]
      show w.cell? _ = some u
      exact hc j u hj
    have hr := run_append_grow_src w t tx ty e i z ht hi hz (some ⟨g, o, none⟩) n c xs hold x m news hs (by omega) hsmall (growslice_fits (by omega) hbytes)
    have hge := grownCap_ge w (n + m) c e
    have hcm : grownCap w (n + m) c e ≤ maxLen := grownCap_le_maxLen w (n + m) c e h63
    generalize hcs : (xs ++ news).toArray ++ Builtin.zeroCells z.cells (grownCap w (n + m) c e - (n + m)) = cs at hr
    refine ⟨_, _, [(w.heap.size, .cells cs e (0, 0))], _, hr, ⟨hlen, .inr ⟨w.heap.size, 0, cs, (0, 0), rfl, rfl, hge, hcm, ?_, ?_, .inl (Nat.le_refl _)⟩⟩, ?_⟩
    · rw [← hcs]
      simp only [Array.size_append, List.size_toArray, size_zeroCells, hzs, hlen, ← Nat.add_mul]
      rw [Nat.zero_add]
      exact Nat.le_of_eq (by congr 1; omega)
    · rw [← hcs, List.drop_zero]
      simp only [Array.toList_append]
      rw [← hlen]
      exact List.take_left
    · refine ⟨⟨by simp [ids], fun p hp => ?_⟩, fun j hj => ?_, fun j hj _ => ?_, ?_, rfl, rfl, rfl⟩
      · have : p = (w.heap.size, .cells cs e (0, 0)) := by simpa using hp
        subst this
        exact heap_alloc_new w.drew _
      · simp [ids] at hj; exact .inr (by omega)
      · show (w.heap.push _)[j]? = _
        rw [Array.getElem?_push, if_neg (by omega)]
      · simp
section rules
variable {P : Program} {ops : Array Oper} {Q : Exit → Act → World → Prop} {nt : Sh} {w0 : World} {X : List Nat} {fr : Fr} {M : List Seg} {rest : List Oper}
variable {ty : TypeId} {pos : String} {af : Array Edge} {t : TypeId} {x y : Operand}
theorem wl_appR {d : Nat} {tx e sz bytes n c m : Nat} {A : Option Addr} {xs news : List Value} {E : Seg} {R : List Seg} {src : Value} (hT : appT P t = some (e, sz, bytes)) (hb : BufR e sz A n c xs E) [T : Take E M R]
    (hx : ev fr x = some (.slice A n c)) (hy : ev fr y = some src) (hs : ∀ w, Res w0 X w M → Src P sz tx src m news w) (hbytes : (n + m) * bytes ≤ 140737488355328) (hd : Nat.blt d nt.n = true)
    (h : ∀ A' c' E', BufR e sz A' (n + m) c' (xs ++ news) E' → WX .seq P ops Q nt w0 X rest ((d, .slice A' (n + m) c') :: fr) (E' :: R)) :
    WX .seq P ops Q nt w0 X (⟨some d, .call ⟨.builtin .append, #[x, y], #[t, tx]⟩, ty, pos, af, none⟩ :: rest) fr M :=
  wx_sub (M1 := E :: R) (L := []) (by simpa using T.perm) <| wl_step rfl hd fun ac w hs1 hr => by
    obtain ⟨hu, ti, z, h1, h2, h3, h4, h5, h6, h7⟩ := appT_spec hT
    have h63 : n + m ≤ maxLen := by
      have : n + m ≤ (n + m) * bytes := Nat.le_mul_of_pos_right _ h7
      simp only [maxLen]; omega
    obtain ⟨A', c', E', w', hrun, hb', hres⟩ := run_append_bufR (P := P) (w := w) (ty := ty) hu h1 h2 h3 h4 h5 h6 hb (own_seg hr (i := 0) rfl) (hs w (hr.perm T.perm.symm)) h63 hbytes
    refine ⟨.slice A' (n + m) c', w', (E :: R).set 0 E', ?_, hr.turnAt rfl hres, h A' c' E' hb'⟩
    simp [execOp, resolve, hs1.ev hx, hs1.ev hy, invoke, builtin, hrun]
end rules
end Go.Proofs.Ytlioccfedophhaa
/- The seat's own logic: segments joined to one and told apart again. -/
set_option linter.unusedVariables false
set_option linter.unusedSimpArgs false
namespace Go.Proofs.Ytlioccfedophhaa
open Go
theorem Res.flat {w0 w : World} {X : List Nat} {M N : List Seg} (h : Res w0 X w M) (hp : M.flatten.Perm N.flatten) : Res w0 X w N :=
  ⟨⟨(List.Perm.map (fun p : Blk => p.1) hp).nodup_iff.1 h.own.nd, fun p hm => h.own.at_ p (hp.mem_iff.2 hm)⟩, fun i hi => h.sub i ((List.Perm.map (fun p : Blk => p.1) hp).mem_iff.2 hi), h.keep, h.size, h.os, h.tape, h.output⟩
theorem Own.flat {w : World} {M N : List Seg} (h : Own w M) (hp : M.flatten.Perm N.flatten) : Own w N :=
  ⟨(List.Perm.map (fun p : Blk => p.1) hp).nodup_iff.1 h.nd, fun p hm => h.at_ p (hp.mem_iff.2 hm)⟩
theorem flat_perm {M N : List Seg} (h : M.Perm N) : M.flatten.Perm N.flatten := List.Perm.flatten h
/-- two segments found, joined in front -/
class Join (E F : Seg) (M : List Seg) (R : outParam (List Seg)) : Prop where
  perm : M.flatten.Perm ((E ++ F) :: R).flatten
instance joinI {E F : Seg} {M R1 R2 : List Seg} [h1 : Take E M R1] [h2 : Take F R1 R2] : Join E F M R2 := ⟨by
  have := flat_perm (h1.perm.trans (h2.perm.cons E))
  simpa using this⟩
section rules
variable {P : Program} {ops : Array Oper} {Q : Exit → Act → World → Prop} {nt : Sh} {w0 : World} {X : List Nat} {fr : Fr} {M N : List Seg} {rest : List Oper}
theorem wx_flat (hp : M.flatten.Perm N.flatten) (h : WX .seq P ops Q nt w0 X rest fr N) : WX .seq P ops Q nt w0 X rest fr M := fun a w hs hr => h a w hs (hr.flat hp)
theorem wc_flat {c : Code} (hp : M.flatten.Perm N.flatten) (h : WC P Q nt w0 X c fr N) : WC P Q nt w0 X c fr M := fun a w hs hr => h a w hs (hr.flat hp)
theorem wq_flat {e : Exit} (hp : M.flatten.Perm N.flatten) (h : WQ Q nt w0 X e fr N) : WQ Q nt w0 X e fr M := fun a w hs hr => h a w hs (hr.flat hp)
theorem wx_join (E F : Seg) {R : List Seg} [J : Join E F M R] (h : WX .seq P ops Q nt w0 X rest fr ((E ++ F) :: R)) : WX .seq P ops Q nt w0 X rest fr M := wx_flat J.perm h
theorem wc_join (E F : Seg) {R : List Seg} {c : Code} [J : Join E F M R] (h : WC P Q nt w0 X c fr ((E ++ F) :: R)) : WC P Q nt w0 X c fr M := wc_flat J.perm h
theorem wq_join (E F : Seg) {R : List Seg} {e : Exit} [J : Join E F M R] (h : WQ Q nt w0 X e fr ((E ++ F) :: R)) : WQ Q nt w0 X e fr M := wq_flat J.perm h
theorem part_perm (S1 E S2 : Seg) (R : List Seg) : ((S1 ++ E ++ S2) :: R).flatten.Perm (E :: S1 :: S2 :: R).flatten := by
  simp only [List.flatten_cons, List.append_assoc]
  rw [← List.append_assoc, ← List.append_assoc E S1]
  exact List.Perm.append_right _ List.perm_append_comm
/-- a segment told apart in three -/
theorem wx_part (S1 E S2 : Seg) {S : Seg} {R : List Seg} (hS : S = S1 ++ E ++ S2) [T : Take S M R] (h : WX .seq P ops Q nt w0 X rest fr (E :: S1 :: S2 :: R)) : WX .seq P ops Q nt w0 X rest fr M := by
  subst hS
  exact wx_flat ((flat_perm T.perm).trans (part_perm S1 E S2 R)) h
theorem wc_part (S1 E S2 : Seg) {S : Seg} {R : List Seg} {c : Code} (hS : S = S1 ++ E ++ S2) [T : Take S M R] (h : WC P Q nt w0 X c fr (E :: S1 :: S2 :: R)) : WC P Q nt w0 X c fr M := by
  subst hS
  exact wc_flat ((flat_perm T.perm).trans (part_perm S1 E S2 R)) h
end rules
section ret4
variable {P : Program} {nt : Sh} {w0 : World} {X : List Nat} {fr : Fr} {M : List Seg} {β : Type} {fn : Func} {val : β → Value} {MM : β → List Seg} {φ : β → Prop}
theorem wq_ret4T [Z : Calm nt] (x : β) {L : List Seg} {t1 t2 t3 t4 : Nat} {v1 v2 v3 v4 : Value} (hr : fn.results = #[.tmp t1, .tmp t2, .tmp t3, .tmp t4]) (h1 : look fr t1 = some v1) (h2 : look fr t2 = some v2) (h3 : look fr t3 = some v3) (h4 : look fr t4 = some v4) (hv : val x = .tuple #[v1, v2, v3, v4]) (hφ : φ x) {M1 : List Seg} (hM : MM x = M1) [T : Takes M1 M L] : WQ (bodyPost P fn (Ret w0 X val MM φ)) nt w0 X .ret fr M := by
  refine wq_sub T.perm fun a w hs hres => ?_
  refine bodyPost_ret (v := .tuple #[v1, v2, v3, v4]) ?_ (hs.calm.trans Z.eq) ⟨x, hφ, by rw [hv], hM ▸ hres⟩
  simp only [Go.results, hr]
  simp [hs.has _ _ h1, hs.has _ _ h2, hs.has _ _ h3, hs.has _ _ h4]
end ret4
/-- []byte of a constant string: the literal's block is marked behind its last cell -/
theorem wl_mark {P : Program} {ops : Array Oper} {Q : Exit → Act → World → Prop} {nt : Sh} {w0 : World} {X : List Nat} {fr : Fr} {M R : List Seg} {rest : List Oper} {ty : TypeId} {pos : String} {af : Array Edge} {t e : TypeId} {x : Operand} {d g n : Nat} {cs : List Value}
    (ht : P.underlying t = some (.slice e)) (he : P.underlying e = some (.int .u8)) (hx : ev fr x = some (.slice (some ⟨g, 0, none⟩) n n)) [T : TakeB g M (.cells cs.toArray e (0, 0)) R] (hn : cs.length = n) (hm : n ≤ maxLen) (hd : Nat.blt d nt.n = true)
    (h : ∀ E, Buf e 1 (some ⟨g, 0, none⟩) n n cs E → WX .seq P ops Q nt w0 X rest ((d, .slice (some ⟨g, 0, none⟩) n n) :: fr) (E :: R)) :
    WX .seq P ops Q nt w0 X (⟨some d, .convert t t x, ty, pos, af, none⟩ :: rest) fr M :=
  wx_sub (M1 := [(g, .cells cs.toArray e (0, 0))] :: R) (L := []) (by simpa using T.perm) <| wl_step rfl hd fun ac w hs hr => by
    subst hn
    have hg : w.heap[g]? = some (.cells cs.toArray e (0, 0)) := hr.own.at_ (g, .cells cs.toArray e (0, 0)) (by simp)
    have hgl : g < w.heap.size := (Array.getElem?_eq_some_iff.1 hg).1
    have hge : w.heap[g] = .cells cs.toArray e (0, 0) := (Array.getElem?_eq_some_iff.1 hg).2
    have hres : Res w [g] (w.freeze ⟨g, cs.length, none⟩ 1) [[(g, .cells cs.toArray e (cs.length, cs.length + 1))]] := by
      refine res_store hg (fun i hi => ?_) ?_ ?_ rfl rfl rfl
      · simp only [World.freeze, if_neg (show ¬ 1 = 0 by decide)]
        rw [Array.getElem?_modify, if_neg (by omega)]
      · simp only [World.freeze, if_neg (show ¬ 1 = 0 by decide)]
        rw [Array.getElem?_modify, if_pos rfl, hg]
        rfl
      · simp [World.freeze]
    refine ⟨.slice (some ⟨g, 0, none⟩) cs.length cs.length, w.freeze ⟨g, cs.length, none⟩ 1, [(g, .cells cs.toArray e (cs.length, cs.length + 1))] :: R, ?_, hr.turn hres, h _ ?_⟩
    · have hsh : w.shape? g = some (e, cs.toArray.size) := by
        unfold World.shape?
        rw [hg]
      simp [execOp, hs.ev hx, convert, run_underlying ht, run_underlying he, markStringish, hsh]
    · refine ⟨by simp, .inr ⟨g, cs.toArray, (cs.length, cs.length + 1), rfl, rfl, Nat.le_refl _, hm, by simp, by simp, .inr (by simp)⟩⟩
/-- an element's cells, of a view -/
theorem Vw.elZ {α : Type} {f : α → List Value} {k : Nat} {A : Option Addr} {xs : List α} {X : List Nat} {w0 : World} (h : Vw X w0 A (xs.flatMap f)) (hk : 0 < k) (hf : ∀ a, (f a).length = k) (hx : 0 < xs.length) :
    ∃ g o, A = some ⟨g, o, none⟩ ∧ ∀ {i : Nat} {a : α}, xs[i]? = some a → ∀ {w : World} {M : List Seg}, Res w0 X w M → ∀ {j : Nat} {v : Value}, (f a)[j]? = some v → ∀ {off : Nat}, off = o + i * k + j → w.cell? ⟨g, off, none⟩ = some v := by
  have key : ∀ (i : Nat) (a : α), xs[i]? = some a → ∀ j v, (f a)[j]? = some v → (xs.flatMap f)[i * k + j]? = some v := fun i a hi j v hj => by
    have hjk : j < k := by
      have := (List.getElem?_eq_some_iff.1 hj).1
      rw [hf] at this; exact this
    rw [flat_get f hk hf, Nat.mul_comm, Nat.mul_add_div hk, Nat.div_eq_of_lt hjk, Nat.add_zero, hi, Nat.mul_add_mod, Nat.mod_eq_of_lt hjk]
    exact hj
  have hne : xs.flatMap f ≠ [] := by
    intro e
    have := flat_len' hf xs
    rw [e] at this
    have h2 := Nat.mul_pos hx hk
    simp at this; omega
  obtain ⟨g, o, rfl, hg, hc⟩ := h hne
  refine ⟨g, o, rfl, fun {i a} hi {w M} hr {j v} hj {off} ho => ?_⟩
  subst ho
  rw [Nat.add_assoc]
  exact cell_keep hr hg (hc _ _ (key i a hi j v hj))
/-- a slice whose block lies in a segment with others -/
theorem Buf.vwS {e sz n c : Nat} {A : Option Addr} {xs : List Value} {E S : Seg} (h : Buf e sz A n c xs E) (hE : ∀ p ∈ E, p ∈ S) {w0 w : World} {X : List Nat} {M : List Seg} (hr : Res w0 X w M) [k : Has S M] : Vw [] w A xs := by
  have h1 : Own w (M ++ []) := by rw [List.append_nil]; exact hr.own
  have hw : ∀ p ∈ E, w.heap[p.1]? = some p.2 := fun p hp => hr.own.at_ p (List.mem_flatten.2 ⟨S, k.mem, hE p hp⟩)
  intro hx
  obtain ⟨g, o, rfl, _, hc⟩ := h.r.cells hw hx
  exact ⟨g, o, rfl, by simp, hc⟩
/-- a field of an element of a list of structs overwritten -/
theorem flat_setZ {α : Type} (f : α → List Value) {k : Nat} (hf : ∀ a, (f a).length = k) {v : Value} {j : Nat} (hj : j < k) {a a' : α} (ha : f a' = (f a).set j v) : ∀ (xs : List α) (i : Nat), xs[i]? = some a → (xs.flatMap f).set (i * k + j) v = (xs.set i a').flatMap f
  | [], i, h => by simp at h
  | x :: r, 0, h => by
    simp at h
    subst h
    rw [Nat.zero_mul, Nat.zero_add, List.flatMap_cons, List.set_append_left _ _ (by rw [hf]; exact hj), List.set_cons_zero, List.flatMap_cons, ha]
  | x :: r, i + 1, h => by
    have ih := flat_setZ f hf hj ha r i (by simpa using h)
    rw [List.flatMap_cons, List.set_cons_succ, List.flatMap_cons, List.set_append_right _ _ (by rw [hf, Nat.add_mul]; omega), hf, ← ih]
    congr 2
    rw [Nat.add_mul]; omega
theorem wl_setFT (i j : Nat) {α : Type} {f : α → List Value} {k : Nat} (a a' : α) (hf : ∀ a, (f a).length = k) (hj : j < k) {P : Program} {ops : Array Oper} {Q : Exit → Act → World → Prop} {nt : Sh} {w0 : World} {X : List Nat} {fr : Fr} {M : List Seg} {rest : List Oper} {ty : TypeId} {pos : String} {af : Array Edge} {t : TypeId} {x y : Operand}
    {e n c g off : Nat} {A : Option Addr} {xs : List α} {E : Seg} {R : List Seg} {v : Value} (hA : A = some ⟨g, 0, none⟩) (hb : Buf e k A n c (xs.flatMap f) E) [T : Take E M R] (ht : oneT P t = true) (hx : ev fr x = some (.pointer (some ⟨g, off, none⟩))) (ho : off = i * k + j) (hi : xs[i]? = some a) (hn : n = xs.length)
    (hy : ev fr y = some v) (h1 : v.oneCell' = true) (ha : f a' = (f a).set j v) (h : ∀ E', Buf e k A n c ((xs.set i a').flatMap f) E' → WX .seq P ops Q nt w0 X rest fr (E' :: R)) :
    WX .seq P ops Q nt w0 X (⟨none, .store t x y, ty, pos, af, none⟩ :: rest) fr M := by
  refine wl_bsetT (i * k + j) hA hb ht hx ho ?_ hy h1 (fun E' hb' => h E' ?_)
  · have hl := (List.getElem?_eq_some_iff.1 hi).1
    have : (i + 1) * k ≤ n * k := Nat.mul_le_mul_right _ (by omega)
    rw [Nat.add_mul] at this
    omega
  · rwa [flat_setZ f hf hj ha xs i hi] at hb'
/-- some fields of an element of a list of structs overwritten at once -/
theorem Buf.setG {e sz n c g : Nat} {ys : List Value} {E : Seg} (hb : Buf e sz (some ⟨g, 0, none⟩) n c ys E) {p : Nat} {vs : List Value} (hp : p + vs.length ≤ n * sz) :
    ∃ cur fz, E = [(g, .cells (cur : List Value).toArray e fz)] ∧ okF fz cur.length ∧ p + vs.length ≤ cur.length ∧ Buf e sz (some ⟨g, 0, none⟩) n c (spliced ys p vs) [(g, .cells (spliced cur p vs).toArray e fz)] := by
  rcases hb.2 with ⟨h, _⟩ | ⟨g', cur, fz, h1, rfl, h2, h3, h4, h5, h6⟩
  · cases h
  · cases h1
    have hcl : n * sz ≤ cur.toList.length := by
      rw [Array.length_toList (xs := cur), h4]; exact Nat.mul_le_mul_right _ h2
    have hsl : (spliced cur.toList p vs).length = cur.toList.length := spliced_length _ _ _ (by omega)
    refine ⟨cur.toList, fz, by simp, by simpa using h6, by omega, by rw [spliced_length _ _ _ (by rw [hb.1]; omega)]; exact hb.1, .inr ⟨g, _, fz, rfl, rfl, h2, h3, ?_, ?_, ?_⟩⟩
    · simpa [hsl] using h4
    · rw [← h5]
      exact take_spliced (by omega) hcl
    · simpa [hsl] using h6
theorem flat_spl {α : Type} (f : α → List Value) {k : Nat} (hf : ∀ a, (f a).length = k) {vs : List Value} {j : Nat} (hj : j + vs.length ≤ k) {a a' : α} (ha : f a' = spliced (f a) j vs) : ∀ (xs : List α) (i : Nat), xs[i]? = some a → spliced (xs.flatMap f) (i * k + j) vs = (xs.set i a').flatMap f
  | [], i, h => by simp at h
  | x :: r, 0, h => by
    simp at h
    subst h
    rw [Nat.zero_mul, Nat.zero_add, List.flatMap_cons, List.set_cons_zero, List.flatMap_cons, ha]
    simp only [spliced]
    rw [List.take_append_of_le_length (by rw [hf]; omega), List.drop_append_of_le_length (by rw [hf]; omega)]
    simp
  | x :: r, i + 1, h => by
    have ih := flat_spl f hf hj ha r i (by simpa using h)
    rw [List.flatMap_cons, List.set_cons_succ, List.flatMap_cons, ← ih]
    simp only [spliced]
    have e1 : (i + 1) * k + j = (f x).length + (i * k + j) := by rw [hf, Nat.add_mul]; omega
    rw [e1, List.take_length_add_append, Nat.add_assoc, List.drop_length_add_append]
    simp
theorem wl_setGT (i j : Nat) {α : Type} {f : α → List Value} {k : Nat} (a a' : α) (vs : List Value) (hf : ∀ a, (f a).length = k) (hj : j + vs.length ≤ k) {P : Program} {ops : Array Oper} {Q : Exit → Act → World → Prop} {nt : Sh} {w0 : World} {X : List Nat} {fr : Fr} {M : List Seg} {rest : List Oper} {ty : TypeId} {pos : String} {af : Array Edge} {t : TypeId} {x y : Operand}
    {e n c g off : Nat} {A : Option Addr} {xs : List α} {E : Seg} {R : List Seg} (hA : A = some ⟨g, 0, none⟩) (hb : Buf e k A n c (xs.flatMap f) E) [T : Take E M R] (hnn : aggN P t = some vs.length) (hx : ev fr x = some (.pointer (some ⟨g, off, none⟩))) (ho : off = i * k + j) (hi : xs[i]? = some a) (hn : n = xs.length)
    (hy : ev fr y = some (.agg vs.toArray)) (h1 : vs.all Value.oneCell' = true) (ha : f a' = spliced (f a) j vs) (h : ∀ E', Buf e k A n c ((xs.set i a').flatMap f) E' → WX .seq P ops Q nt w0 X rest fr (E' :: R)) :
    WX .seq P ops Q nt w0 X (⟨none, .store t x y, ty, pos, af, none⟩ :: rest) fr M := by
  subst hA
  have hl := (List.getElem?_eq_some_iff.1 hi).1
  have hle : (i * k + j) + vs.length ≤ n * k := by
    have : (i + 1) * k ≤ n * k := Nat.mul_le_mul_right _ (by omega)
    rw [Nat.add_mul] at this
    omega
  obtain ⟨cur, fz, rfl, hz, hle2, hb'⟩ := hb.setG hle
  subst ho
  rw [flat_spl f hf hj ha xs i hi] at hb'
  exact wx_sub (M1 := [(g, .cells cur.toArray e fz)] :: R) (L := []) (by simpa using T.perm) (wl_storeA 0 hnn hx hy rfl hle2 hz (fun u hu => List.all_eq_true.1 h1 u hu) (h _ hb'))
end Go.Proofs.Ytlioccfedophhaa
/- A transaction read: the plain reading, and the program's reader, which panics where it can't go on. -/
set_option linter.unusedVariables false
set_option linter.unusedSimpArgs false
namespace Go.Proofs.Ytlioccfedophhaa
open Go
set_option maxRecDepth 20000
set_option maxHeartbeats 2000000
attribute [local irreducible] WX WC WQ Val VCall
theorem rRecD1_0 {A B : Prop} (k : B) (h : Hold B → A := by intro k; (repeat (first | (apply wx_val; (first | exact v_move rfl | exact v_assign rfl | exact v_nil rfl | exact v_faddr rfl rfl | exact v_ldT rfl rfl rfl (by rfl) | exact v_ldAT rfl (by rfl) | exact v_extract rfl rfl | exact v_len rfl rfl | exact v_ne rfl rfl | exact v_subi rfl rfl (by omega) | exact v_mkIface rfl rfl); rfl) | refine wc_seq ?_ | refine wc_region ?_ | refine wx_nil ?_ | refine wq_next ?_ | refine wc_ret ?_ | refine wc_skip ?_ | refine wx_cat ?_ | refine wq_cat ?_ | refine wc_reads rfl (by decide +kernel) ?_ | refine wc_condF rfl ?_ | refine wq_then_panic ?_)); exact k.out) : A := h ⟨k⟩
abbrev PR (α : Type) := Except (Int × Int) (α × Nat)
def numP (d : List UInt8) (p : Nat) (most : Int) : PR Nat :=
  if (scanL 0 0 (d.drop p)).2.2 ≠ 0 then .error (p, (scanL 0 0 (d.drop p)).2.2) else
  if most < (scanL 0 0 (d.drop p)).1 then .error (p, 53) else .ok ((scanL 0 0 (d.drop p)).1, p + (scanL 0 0 (d.drop p)).2.1)
def textP (d : List UInt8) (p : Nat) (least most : Int) : PR (List UInt8) :=
  if (scanL 0 0 (d.drop p)).2.2 ≠ 0 then .error (p, (scanL 0 0 (d.drop p)).2.2) else
  if ((scanL 0 0 (d.drop p)).1 : Int) < least ∨ most < (scanL 0 0 (d.drop p)).1 then .error (p, 53) else
  if d.length < p + (scanL 0 0 (d.drop p)).2.1 + (scanL 0 0 (d.drop p)).1 then .error (p, 51) else
  .ok ((d.drop (p + (scanL 0 0 (d.drop p)).2.1)).take (scanL 0 0 (d.drop p)).1, p + (scanL 0 0 (d.drop p)).2.1 + (scanL 0 0 (d.drop p)).1)
def kindT (g : Nat) : Int := if g = 3 then 2 else if g = 4 then 3 else 1
def opP (d : List UInt8) (p : Nat) : PR OpW :=
  if d.length ≤ p then .error (p, 51) else
  if (d.getD p 0).toNat = 0 ∨ 4 < (d.getD p 0).toNat then .error (p, 60) else
  match textP d (p + 1) 1 8 with
  | .error e => .error e
  | .ok (k, p2) => if (d.getD p 0).toNat = 1 ∨ (d.getD p 0).toNat = 3 then (match textP d p2 0 16 with
      | .error e => .error e
      | .ok (v, p3) => .ok (⟨kindT (d.getD p 0).toNat, ⟨k.toArray⟩, true, ⟨v.toArray⟩⟩, p3))
    else .ok (⟨kindT (d.getD p 0).toNat, ⟨k.toArray⟩, false, ⟨#[]⟩⟩, p2)
def opsP (d : List UInt8) : Nat → Nat → PR (List OpW)
  | 0, p => .ok ([], p)
  | n + 1, p => match opP d p with
    | .error e => .error e
    | .ok (o, p2) => match opsP d n p2 with
      | .error e => .error e
      | .ok (l, p3) => .ok (o :: l, p3)
def numsP (d : List UInt8) : List Int → Nat → PR (List Nat)
  | [], p => .ok ([], p)
  | m :: r, p => match numP d p m with
    | .error e => .error e
    | .ok (n, p2) => match numsP d r p2 with
      | .error e => .error e
      | .ok (l, p3) => .ok (n :: l, p3)
theorem numP_le {d : List UInt8} {p q n : Nat} {most : Int} (hp : p ≤ d.length) (h : numP d p most = .ok (n, q)) : q ≤ d.length ∧ p < q ∧ (n : Int) ≤ most := by
  unfold numP at h
  split at h
  · cases h
  · rename_i h1
    split at h
    · cases h
    · injection h with h
      injection h with h2 h3
      have := scanL_size (d.drop p) 0 0 (by simpa using h1)
      rw [List.length_drop] at this
      omega
theorem textP_le {d : List UInt8} {p q : Nat} {t : List UInt8} {least most : Int} (hp : p ≤ d.length) (h : textP d p least most = .ok (t, q)) : q ≤ d.length ∧ p < q ∧ (t.length : Int) ≤ most ∧ least ≤ t.length := by
  unfold textP at h
  split at h
  · cases h
  · rename_i h1
    split at h
    · cases h
    · split at h
      · cases h
      · injection h with h
        injection h with h2 h3
        have := scanL_size (d.drop p) 0 0 (by simpa using h1)
        rw [← h2, List.length_take, List.length_drop]
        omega
theorem opP_le {d : List UInt8} {p q : Nat} {o : OpW} (hp : p ≤ d.length) (h : opP d p = .ok (o, q)) : q ≤ d.length := by
  unfold opP at h
  split at h
  · cases h
  · rename_i h1
    split at h
    · cases h
    · split at h
      · cases h
      · rename_i k p2 hk
        obtain ⟨k1, k2, _, _⟩ := textP_le (by omega) hk
        split at h
        · split at h
          · cases h
          · rename_i v p3 hv
            obtain ⟨v1, _⟩ := textP_le k1 hv
            injection h with h
            injection h with _ h3
            omega
        · injection h with h
          injection h with _ h3
          omega
def errV (e : Int × Int) : Value := .iface 133 (.agg #[.int .i64 e.1, .int .i64 e.2])
section cur
variable {g c : Nat} {A : Option Addr} {d : List UInt8} {E : Seg} {p : Nat}
theorem Left_spec (hd : d.length ≤ 281474976710656) (hp : p ≤ d.length) (w : World) (ho : Own w [curB g A d.length c p 0]) :
    Calls Try.prog 78 #[.pointer (some ⟨g, 0, none⟩)] w (Ret (β := Unit) w (ids [curB g A d.length c p 0]) (fun _ => .int .i64 ((d.length - p : Nat) : Int)) (fun _ => [curB g A d.length c p 0]) (fun _ => True)) := by
  refine go [.pointer (some ⟨g, 0, none⟩)] [curB g A d.length c p 0] Try.func78 Try.ntmps78 rfl rfl ho ?_
  refine rRecD1_0 ?_
  exact wq_ret1 () rfl (by show some (Value.int .i64 ((d.length : Int) - p)) = _; congr 2; omega) trivial rfl
abbrev rdV (g : Nat) : Value := .agg #[.pointer (some ⟨g, 0, none⟩)]
abbrev NRet (w : World) (X : List Nat) {α : Type} (r : PR α) (val : α → Value) (g : Nat) (A : Option Addr) (n c : Nat) (E : Seg) : Ending → World → Prop :=
  RetP (β := α × Nat) (γ := (Int × Int) × Int × Int) w X (fun x => val x.1) (fun x => [curB g A n c x.2 0, E]) (fun x => r = .ok x) (fun e => errV e.1) (fun e => [curB g A n c e.2.1 e.2.2, E]) (fun e => r = .error e.1)
theorem check_ok {n q : Nat} {f : Int} (w : World) (ho : Own w [curB g A n c q f]) :
    Calls Try.prog 91 #[rdV g, .int .i64 0] w (Ret (β := Unit) w (ids [curB g A n c q f]) (fun _ => .tuple #[]) (fun _ => [curB g A n c q f]) (fun _ => True)) := by
  refine go [rdV g, .int .i64 0] [curB g A n c q f] Try.func91 Try.ntmps91 rfl rfl ho ?_
  refine rRecD1_0 ?_
  refine wl_boxA (l := [.pointer (some ⟨g, 0, none⟩)]) rfl rfl (fun g2 => ?_)
  refine rRecD1_0 ?_
  refine wq_normR ?_
  exact wq_ret0T () rfl rfl trivial
theorem check_no {n q : Nat} {f e : Int} (he : e ≠ 0) (w : World) (ho : Own w [curB g A n c q f]) :
    Calls Try.prog 91 #[rdV g, .int .i64 e] w (RetP (β := Unit) (γ := Unit) w (ids [curB g A n c q f]) (fun _ => .tuple #[]) (fun _ => [curB g A n c q f]) (fun _ => False) (fun _ => errV (q, e)) (fun _ => [curB g A n c q f]) (fun _ => True)) := by
  refine go [rdV g, .int .i64 e] [curB g A n c q f] Try.func91 Try.ntmps91 rfl rfl ho ?_
  refine rRecD1_0 ?_
  refine wl_boxA (l := [.pointer (some ⟨g, 0, none⟩)]) rfl rfl (fun g2 => ?_)
  refine rRecD1_0 ?_
  refine wc_yes rfl (decide_eq_true he) ?_
  refine rRecD1_0 ?_
  refine wl_callT (fun w' hr ho => Offset_spec (A := A) (n := n) (c := c) (p := q) (f := f) w' ho) rfl rfl rfl ?_
  rintro - -
  refine rRecD1_0 ?_
  (try refine wx_ungd rfl rfl ?_)
  apply wx_val
  exact v_build (cs := ([.int .i64 (q : Nat), .int .i64 e]).toArray) rfl (by kernel_rfl)
  rfl
  refine rRecD1_0 ?_
  refine wl_panic rfl ?_
  skip
  exact wq_pan () rfl trivial rfl
theorem readNum_spec (hd : d.length ≤ 281474976710656) (hb : Buf 5 1 A d.length c (bys d) E) (hp : p ≤ d.length) (most : Int) (w : World) (ho : Own w [curB g A d.length c p 0, E]) :
    Calls Try.prog 76 #[rdV g, .int .i64 most] w (NRet w (ids [curB g A d.length c p 0, E]) (numP d p most) (fun n => .int .i64 (n : Nat)) g A d.length c E) := by
  refine go [rdV g, .int .i64 most] [curB g A d.length c p 0, E] Try.func76 Try.ntmps76 rfl rfl ho ?_
  refine rRecD1_0 ?_
  refine wl_boxA (l := [.pointer (some ⟨g, 0, none⟩)]) rfl rfl (fun g2 => ?_)
  refine rRecD1_0 ?_
  refine wl_callT (fun w' hr ho => Number_spec (f := 0) hd hb hp most w' ho) rfl rfl rfl ?_
  rintro - -
  have hE : (∃ e, numP d p most = .error (p, e) ∧ e ≠ 0 ∧ cNumber d p 0 most = (0, e, p, e)) ∨ (∃ n q : Nat, numP d p most = .ok (n, q) ∧ cNumber d p 0 most = (((n : Nat) : Int), 0, q, 0)) := by
    unfold numP cNumber
    rw [if_neg (show ¬ ((0 : Int) ≠ 0) by simp)]
    by_cases h1 : (scanL 0 0 (d.drop p)).2.2 ≠ 0
    · rw [if_pos h1, if_pos h1]; exact .inl ⟨_, rfl, h1, rfl⟩
    · rw [if_neg h1, if_neg h1]
      by_cases h2 : most < (scanL 0 0 (d.drop p)).1
      · rw [if_pos h2, if_pos h2]; exact .inl ⟨53, rfl, by decide, rfl⟩
      · rw [if_neg h2, if_neg h2]; exact .inr ⟨_, _, rfl, rfl⟩
  rcases hE with ⟨e, h1, h2, h3⟩ | ⟨n, q, h1, h3⟩
  · rw [h3, h1]
    dsimp only
    refine rRecD1_0 ?_
    refine wl_callX (fun w' hr ho => check_no (q := p) (f := e) (A := A) (n := d.length) (c := c) h2 w' ho) rfl rfl rfl (fun _ h => h.elim) (fun _ _ => ?_)
    refine rRecD1_0 ?_
    exact wq_pan (γ := (Int × Int) × Int × Int) (((p : Nat), e), (p : Nat), e) rfl rfl rfl
  · rw [h3, h1]
    dsimp only
    refine rRecD1_0 ?_
    refine wl_callT (fun w' hr ho => check_ok (q := q) (f := 0) (A := A) (n := d.length) (c := c) w' ho) rfl rfl rfl ?_
    rintro - -
    refine rRecD1_0 ?_
    exact wq_retP (wq_ret1T (n, q) rfl rfl rfl rfl)
theorem readText_spec (hd : d.length ≤ 281474976710656) (hb : Buf 5 1 A d.length c (bys d) E) (hp : p ≤ d.length) (least most : Int) (w : World) (ho : Own w [curB g A d.length c p 0, E]) :
    Calls Try.prog 93 #[rdV g, .int .i64 least, .int .i64 most] w (NRet w (ids [curB g A d.length c p 0, E]) (textP d p least most) (fun t => .string ⟨t.toArray⟩) g A d.length c E) := by
  refine go [rdV g, .int .i64 least, .int .i64 most] [curB g A d.length c p 0, E] Try.func93 Try.ntmps93 rfl rfl ho ?_
  refine rRecD1_0 ?_
  refine wl_boxA (l := [.pointer (some ⟨g, 0, none⟩)]) rfl rfl (fun g2 => ?_)
  refine rRecD1_0 ?_
  refine wl_callT (fun w' hr ho => Text_spec (f := 0) hd hb hp least most w' ho) rfl rfl rfl ?_
  rintro - -
  have hE : (∃ e, textP d p least most = .error (p, e) ∧ e ≠ 0 ∧ cText d p 0 least most = ([], e, p, e)) ∨ (∃ (n : List UInt8) (q : Nat), textP d p least most = .ok (n, q) ∧ cText d p 0 least most = (n, 0, q, 0)) := by
    unfold textP cText
    rw [if_neg (show ¬ ((0 : Int) ≠ 0) by simp)]
    by_cases h1 : (scanL 0 0 (d.drop p)).2.2 ≠ 0
    · rw [if_pos h1, if_pos h1]; exact .inl ⟨_, rfl, h1, rfl⟩
    · rw [if_neg h1, if_neg h1]
      by_cases h2 : ((scanL 0 0 (d.drop p)).1 : Int) < least ∨ most < (scanL 0 0 (d.drop p)).1
      · rw [if_pos h2, if_pos h2]; exact .inl ⟨53, rfl, by decide, rfl⟩
      · rw [if_neg h2, if_neg h2]
        by_cases h4 : d.length < p + (scanL 0 0 (d.drop p)).2.1 + (scanL 0 0 (d.drop p)).1
        · rw [if_pos h4, if_pos h4]; exact .inl ⟨51, rfl, by decide, rfl⟩
        · rw [if_neg h4, if_neg h4]; exact .inr ⟨_, _, rfl, rfl⟩
  rcases hE with ⟨e, h1, h2, h3⟩ | ⟨n, q, h1, h3⟩
  · rw [h3, h1]
    dsimp only
    refine rRecD1_0 ?_
    refine wl_callX (fun w' hr ho => check_no (q := p) (f := e) (A := A) (n := d.length) (c := c) h2 w' ho) rfl rfl rfl (fun _ h => h.elim) (fun _ _ => ?_)
    refine rRecD1_0 ?_
    exact wq_pan (γ := (Int × Int) × Int × Int) (((p : Nat), e), (p : Nat), e) rfl rfl rfl
  · rw [h3, h1]
    dsimp only
    refine rRecD1_0 ?_
    refine wl_callT (fun w' hr ho => check_ok (q := q) (f := 0) (A := A) (n := d.length) (c := c) w' ho) rfl rfl rfl ?_
    rintro - -
    refine rRecD1_0 ?_
    exact wq_retP (wq_ret1T (n, q) rfl rfl rfl rfl)
end cur
end Go.Proofs.Ytlioccfedophhaa
/- An operation read by the program's reader. -/
set_option linter.unusedVariables false
set_option linter.unusedSimpArgs false
namespace Go.Proofs.Ytlioccfedophhaa
open Go
set_option maxRecDepth 20000
set_option maxHeartbeats 2000000
attribute [local irreducible] WX WC WQ Val VCall
theorem rRecD2_0 {A B : Prop} (k : B) (h : Hold B → A := by intro k; (repeat (first | (apply wx_val; (first | exact v_move rfl | exact v_assign rfl | exact v_faddr rfl rfl | exact v_ldT rfl rfl rfl (by rfl) | exact v_ldAT rfl (by rfl) | exact v_extract rfl rfl | exact v_eq rfl rfl | (first | exact v_ldQ 2 0 rfl rfl rfl rfl rfl) | exact v_mkIface rfl rfl); rfl) | refine wc_seq ?_ | refine wc_region ?_ | refine wx_nil ?_ | refine wq_next ?_ | refine wc_block ?_ | refine wc_ret ?_ | refine wc_skip ?_ | refine wq_block ?_ | refine wx_setn ?_ | refine wc_setn ?_ | refine wq_setn ?_ | refine wx_cat ?_ | refine wq_cat ?_ | refine wc_condT rfl ?_ | refine wc_condF rfl ?_ | refine wq_then_panic ?_ | refine wq_block_panic ?_ | refine wl_storeT rfl rfl rfl (by rfl) (by exact .inl (Nat.le_refl _)) rfl ?_ | refine wl_stAT rfl rfl (by rfl) (by rfl) (by exact .inl (Nat.le_refl _)) rfl ?_)); exact k.out) : A := h ⟨k⟩
section cur
variable {g c : Nat} {A : Option Addr} {d : List UInt8} {E : Seg} {p : Nat}
theorem readOp_spec (hd : d.length ≤ 281474976710656) (hb : Buf 5 1 A d.length c (bys d) E) (hp : p ≤ d.length) (w : World) (ho : Own w [curB g A d.length c p 0, E]) :
    Calls Try.prog 77 #[rdV g] w (NRet w (ids [curB g A d.length c p 0, E]) (opP d p) (fun o => .agg o.cells.toArray) g A d.length c E) := by
  refine go [rdV g] [curB g A d.length c p 0, E] Try.func77 Try.ntmps77 rfl rfl ho ?_
  generalize hR : opP d p = R
  unfold opP at hR
  refine rRecD2_0 ?_
  refine wl_boxA (l := [.pointer (some ⟨g, 0, none⟩)]) rfl rfl (fun g1 => ?_)
  skip
  refine wl_alloc rfl rfl (fun g2 => ?_)
  refine rRecD2_0 ?_
  refine wl_callT (fun w' hr ho => Offset_spec (A := A) (n := d.length) (c := c) (p := p) (f := 0) w' ho) rfl rfl rfl ?_
  rintro - -
  refine rRecD2_0 ?_
  refine wl_callT (fun w' hr ho => Byte_spec (f := 0) hd hb hp w' ho) rfl rfl rfl ?_
  rintro - -
  by_cases h1 : d.length ≤ p
  · rw [if_pos h1] at hR
    subst hR
    rw [show cByte d p 0 = ((0 : Int), (51 : Int), (p : Int), (51 : Int)) by unfold cByte; rw [if_neg (by simp), if_pos h1]]
    dsimp only
    refine rRecD2_0 ?_
    refine wl_callX (fun w' hr ho => check_no (q := p) (f := 51) (A := A) (n := d.length) (c := c) (show (51 : Int) ≠ 0 by decide) w' ho) rfl rfl rfl (fun _ h => h.elim) (fun _ _ => ?_)
    refine rRecD2_0 ?_
    exact wq_pan (γ := (Int × Int) × Int × Int) (((p : Nat), 51), (p : Nat), 51) rfl rfl rfl
  rw [if_neg h1] at hR
  rw [show cByte d p 0 = (((d.getD p 0).toNat : Int), (0 : Int), ((p + 1 : Nat) : Int), (0 : Int)) by unfold cByte; rw [if_neg (by simp), if_neg h1]; rfl]
  dsimp only
  have hgb : (d.getD p 0).toNat < 256 := by have := (d.getD p 0).toNat_lt; omega
  generalize hG : (d.getD p 0).toNat = G at hR hgb ⊢
  refine rRecD2_0 ?_
  refine wl_callT (fun w' hr ho => check_ok (q := p + 1) (f := 0) (A := A) (n := d.length) (c := c) w' ho) rfl rfl rfl ?_
  rintro - -
  refine rRecD2_0 ?_
  (try refine wx_ungd rfl rfl ?_)
  apply wx_val
  exact v_build (cs := ([.int .i64 1, .string ⟨#[]⟩, .bool false, .string ⟨#[]⟩]).toArray) rfl (by kernel_rfl)
  rfl
  skip
  refine wl_alloc rfl rfl (fun g6 => ?_)
  by_cases hG1 : G = 0 ∨ 4 < G
  · rw [if_pos hG1] at hR
    subst hR
    refine rRecD2_0 ?_
    refine wc_not rfl (decide_eq_false (by omega)) ?_
    refine rRecD2_0 ?_
    refine wc_not rfl (decide_eq_false (by omega)) ?_
    refine rRecD2_0 ?_
    refine wc_not rfl (decide_eq_false (by omega)) ?_
    refine rRecD2_0 ?_
    refine wc_not rfl (decide_eq_false (by omega)) ?_
    refine rRecD2_0 ?_
    (try refine wx_ungd rfl rfl ?_)
    apply wx_val
    exact v_build (cs := ([.int .i64 (p : Nat), .int .i64 60]).toArray) rfl (by kernel_rfl)
    rfl
    refine rRecD2_0 ?_
    refine wl_panic rfl ?_
    refine rRecD2_0 ?_
    exact wq_pan (γ := (Int × Int) × Int × Int) (((p : Nat), 60), ((p + 1 : Nat) : Int), 0) rfl rfl rfl
  rw [if_neg hG1] at hR
  have hG4 : G = 1 ∨ G = 2 ∨ G = 3 ∨ G = 4 := by omega
  rcases hG4 with rfl | rfl | rfl | rfl
  · refine rRecD2_0 ?_
    refine wl_callX (fun w' hr ho => readText_spec hd hb (p := p + 1) (by omega) 1 8 w' ho) rfl rfl rfl (fun q hq => ?_) (fun e he => ?_)
    case refine_2 =>
      refine rRecD2_0 ?_
      rw [he] at hR
      subst hR
      exact wq_pan e rfl rfl rfl
    obtain ⟨k, p2⟩ := q
    dsimp only at hq ⊢
    obtain ⟨k1, k2, k3, k4⟩ := textP_le (by omega) hq
    rw [hq] at hR
    dsimp only at hR
    refine rRecD2_0 ?_
    refine wl_callX (fun w' hr ho => readText_spec hd hb (p := p2) (by omega) 0 16 w' ho) rfl rfl rfl (fun q hq2 => ?_) (fun e he => ?_)
    case refine_2 =>
      refine rRecD2_0 ?_
      rw [he] at hR
      rw [if_pos (by decide)] at hR
      subst hR
      exact wq_pan e rfl rfl rfl
    obtain ⟨v, p3⟩ := q
    dsimp only at hq2 ⊢
    rw [hq2, if_pos (by decide)] at hR
    dsimp only at hR
    subst hR
    refine rRecD2_0 ?_
    exact wq_retP (wq_retAT (_, p3) rfl rfl rfl rfl rfl rfl)
  · refine rRecD2_0 ?_
    refine wl_callX (fun w' hr ho => readText_spec hd hb (p := p + 1) (by omega) 1 8 w' ho) rfl rfl rfl (fun q hq => ?_) (fun e he => ?_)
    case refine_2 =>
      refine rRecD2_0 ?_
      rw [he] at hR
      subst hR
      exact wq_pan e rfl rfl rfl
    obtain ⟨k, p2⟩ := q
    dsimp only at hq ⊢
    obtain ⟨k1, k2, k3, k4⟩ := textP_le (by omega) hq
    rw [hq] at hR
    dsimp only at hR
    refine rRecD2_0 ?_
    rw [if_neg (by decide)] at hR
    subst hR
    skip
    exact wq_retP (wq_retAT (_, p2) rfl rfl rfl rfl rfl rfl)
  · refine rRecD2_0 ?_
    refine wl_callX (fun w' hr ho => readText_spec hd hb (p := p + 1) (by omega) 1 8 w' ho) rfl rfl rfl (fun q hq => ?_) (fun e he => ?_)
    case refine_2 =>
      refine rRecD2_0 ?_
      rw [he] at hR
      subst hR
      exact wq_pan e rfl rfl rfl
    obtain ⟨k, p2⟩ := q
    dsimp only at hq ⊢
    obtain ⟨k1, k2, k3, k4⟩ := textP_le (by omega) hq
    rw [hq] at hR
    dsimp only at hR
    refine rRecD2_0 ?_
    refine wl_callX (fun w' hr ho => readText_spec hd hb (p := p2) (by omega) 0 16 w' ho) rfl rfl rfl (fun q hq2 => ?_) (fun e he => ?_)
    case refine_2 =>
      refine rRecD2_0 ?_
      rw [he] at hR
      rw [if_pos (by decide)] at hR
      subst hR
      exact wq_pan e rfl rfl rfl
    obtain ⟨v, p3⟩ := q
    dsimp only at hq2 ⊢
    rw [hq2, if_pos (by decide)] at hR
    dsimp only at hR
    subst hR
    refine rRecD2_0 ?_
    exact wq_retP (wq_retAT (_, p3) rfl rfl rfl rfl rfl rfl)
  · refine rRecD2_0 ?_
    refine wl_callX (fun w' hr ho => readText_spec hd hb (p := p + 1) (by omega) 1 8 w' ho) rfl rfl rfl (fun q hq => ?_) (fun e he => ?_)
    case refine_2 =>
      refine rRecD2_0 ?_
      rw [he] at hR
      subst hR
      exact wq_pan e rfl rfl rfl
    obtain ⟨k, p2⟩ := q
    dsimp only at hq ⊢
    obtain ⟨k1, k2, k3, k4⟩ := textP_le (by omega) hq
    rw [hq] at hR
    dsimp only at hR
    refine rRecD2_0 ?_
    rw [if_neg (by decide)] at hR
    subst hR
    skip
    exact wq_retP (wq_retAT (_, p2) rfl rfl rfl rfl rfl rfl)
end cur
end Go.Proofs.Ytlioccfedophhaa
/- A transaction read whole: faults are panics that a deferred call recovers. -/
set_option linter.unusedVariables false
set_option linter.unusedSimpArgs false
namespace Go.Proofs.Ytlioccfedophhaa
open Go
set_option maxRecDepth 20000
set_option maxHeartbeats 2000000
attribute [local irreducible] WX WC WQ Val VCall
theorem rRecD3_0 {A B : Prop} (k : B) (h : Hold B → A := by intro k; (repeat (first | (apply wx_val; (first | exact v_move rfl | exact v_assign rfl | exact v_faddr rfl rfl | exact v_ldT rfl rfl rfl (by rfl) | exact v_ldAT rfl (by rfl) | exact v_extract rfl rfl | exact v_lt rfl rfl | exact v_gt rfl rfl | exact v_addi rfl rfl (by omega) | exact v_not rfl | (first | exact v_ldQ 2 0 rfl rfl rfl rfl rfl) | exact v_mkIface rfl rfl | exact v_mkFunc rfl rfl | exact v_neif rfl rfl | exact v_neifn rfl rfl | exact v_tassert rfl rfl); rfl) | refine wc_seq ?_ | refine wc_region ?_ | refine wx_nil ?_ | refine wq_next ?_ | refine wc_block ?_ | refine wc_ret ?_ | refine wc_skip ?_ | refine wc_exit ?_ | refine wq_then_exit ?_ | refine wq_block ?_ | refine wq_block_exit rfl ?_ | refine wx_setn ?_ | refine wc_setn ?_ | refine wq_setn ?_ | refine wx_cat ?_ | refine wc_cat ?_ | refine wq_cat ?_ | refine wc_condT rfl ?_ | refine wc_condF rfl ?_ | refine wq_then_panic ?_ | refine wq_block_panic ?_ | refine wl_storeT rfl rfl rfl (by rfl) (by exact .inl (Nat.le_refl _)) rfl ?_ | refine wl_stAT rfl rfl (by rfl) (by rfl) (by exact .inl (Nat.le_refl _)) rfl ?_)); exact k.out) : A := h ⟨k⟩
theorem defer_ret (a b c : Value) (w : World) : CallsD Try.prog 74 #[a, b, c] .returning w (RetD w (ids []) .returning []) := by
  refine goRec (v := .nilIface) [a, b, c] [] Try.func74 Try.ntmps74 rfl rfl rfl rfl (own_nil w) (.inl ⟨rfl, rfl, rfl⟩) ?_
  refine rRecD3_0 ?_
  exact wq_doneD (M1 := []) rfl
def txnZ : List Value := [.int .i64 0, .int .i64 0, .int .i64 0, .int .i64 0, .int .i64 0, .int .i64 0, .int .i64 0, .slice none 0 0]
theorem defer_pan {g1 g2 g3 : Nat} (cs : List Value) (hcs : cs.length = 8) (x y : Value) (e : Int × Int) (w : World) (ho : Own w [[(g1, .cells cs.toArray 47 (0, 0))], [(g2, .cells [x].toArray 3 (0, 0))], [(g3, .cells [y].toArray 26 (0, 0))]]) :
    CallsD Try.prog 74 #[.pointer (some ⟨g1, 0, none⟩), .pointer (some ⟨g2, 0, none⟩), .pointer (some ⟨g3, 0, none⟩)] (.panicking [entry (errV e)]) w (RetD w (ids [[(g1, .cells cs.toArray 47 (0, 0))], [(g2, .cells [x].toArray 3 (0, 0))], [(g3, .cells [y].toArray 26 (0, 0))]]) (.panicking [{ v := errV e, recovered := true }]) [[(g1, .cells txnZ.toArray 47 (0, 0))], [(g2, .cells [.int .i64 e.1].toArray 3 (0, 0))], [(g3, .cells [.int .i64 e.2].toArray 26 (0, 0))]]) := by
  refine goRec (v := errV e) [.pointer (some ⟨g1, 0, none⟩), .pointer (some ⟨g2, 0, none⟩), .pointer (some ⟨g3, 0, none⟩)] [[(g1, .cells cs.toArray 47 (0, 0))], [(g2, .cells [x].toArray 3 (0, 0))], [(g3, .cells [y].toArray 26 (0, 0))]] Try.func74 Try.ntmps74 rfl rfl rfl rfl ho (.inr ⟨rfl, rfl⟩) ?_
  refine rRecD3_0 ?_
  refine wl_alloc rfl rfl (fun g4 => ?_)
  refine rRecD3_0 ?_
  refine wc_heldN [] [[(g4, .cells [.int .i64 e.1, .int .i64 e.2].toArray 133 (0, 0))]] (fun hQd => ?_)
  refine tkX 0 rfl (v_build (cs := txnZ.toArray) rfl (by kernel_rfl)) ?_
  refine tkX 1 rfl (v_faddr rfl rfl) ?_
  refine tkX 2 rfl (v_ldT rfl rfl rfl (by rfl)) ?_
  refine tkX 3 rfl (v_faddr rfl rfl) ?_
  refine tkX 4 rfl (v_ldT rfl rfl rfl (by rfl)) ?_
  refine efX 5 rfl ?_
  refine wl_stAT (vs := txnZ) rfl rfl (by rfl) (by rw [hcs]; rfl) (by exact .inl (Nat.le_refl _)) rfl ?_
  refine wx_setn ?_
  (try refine wx_nil ?_)
  refine hdX ?_
  refine efX 6 rfl ?_
  refine wl_storeT rfl rfl rfl (by rfl) (by exact .inl (Nat.le_refl _)) rfl ?_
  refine wx_setn ?_
  simp only [List.set_cons_zero]
  (try refine wx_nil ?_)
  refine hdX ?_
  refine efX 7 rfl ?_
  refine wl_storeT rfl rfl rfl (by rfl) (by exact .inl (Nat.le_refl _)) rfl ?_
  refine wx_setn ?_
  simp only [List.set_cons_zero]
  (try refine wx_nil ?_)
  refine hdX ?_
  refine wh_done (by decide +kernel) ?_
  skip
  have hq := fun {fr M L u M1} [T : Takes M1 M L] => @wq_doneD Try.prog Try.f74 ⟨22, []⟩ w (ids [[(g1, .cells cs.toArray 47 (0, 0))], [(g2, .cells [x].toArray 3 (0, 0))], [(g3, .cells [y].toArray 26 (0, 0))]])  fr M u M1 L
  refine hq (M1 := [[(g1, .cells txnZ.toArray 47 (0, 0))], [(g2, .cells [Value.int .i64 e.1].toArray 3 (0, 0))], [(g3, .cells [Value.int .i64 e.2].toArray 26 (0, 0))]]) rfl
structure TxnP where
  session : Int
  seq : Int
  start : Int
  fin : Int
  invoke : Int
  ret : Int
  status : Int
  ops : List OpW
def TxnP.cells (t : TxnP) (A : Option Addr) (c : Nat) : List Value := [.int .i64 t.session, .int .i64 t.seq, .int .i64 t.start, .int .i64 t.fin, .int .i64 t.invoke, .int .i64 t.ret, .int .i64 t.status, .slice A t.ops.length c]
def TxnP.zero : TxnP := ⟨0, 0, 0, 0, 0, 0, 0, []⟩
def decMax : List Int := [1048575, 1048575, 1099511627776, 1099511627776, 1099511627776, 1099511627776, 1, 16]
def decP (d : List UInt8) : Except (Int × Int) TxnP := match numsP d decMax 0 with
  | .error e => .error e
  | .ok (ns, p) => match opsP d (ns.getD 7 0) p with
    | .error e => .error e
    | .ok (l, q) => if q < d.length then .error (q, 61) else .ok ⟨(ns.getD 0 0 : Nat), (ns.getD 1 0 : Nat), (ns.getD 2 0 : Nat), (ns.getD 3 0 : Nat), (ns.getD 4 0 : Nat), (ns.getD 5 0 : Nat), (ns.getD 6 0 : Nat), l⟩
def decR (d : List UInt8) : TxnP × Int × Int := match decP d with
  | .error e => (.zero, e.1, e.2)
  | .ok t => (t, 0, 0)
abbrev BufO (l : List OpW) : Option Addr × Nat × Seg → Prop := fun (A, c, E) => Buf 49 4 A l.length c (l.flatMap OpW.cells) E
abbrev DecRet (w : World) (X : List Nat) (r : TxnP × Int × Int) : Ending → World → Prop :=
  Ret (β := Option Addr × Nat × Seg) w X (fun q => .tuple #[.agg (r.1.cells q.1 q.2.1).toArray, .int .i64 r.2.1, .int .i64 r.2.2]) (fun q => [q.2.2]) (fun q => BufO r.1.ops q)
abbrev decDef (g2 g3 g4 : Nat) : Deferred := { target := .fn (.func 74) [Value.pointer (some ⟨g2, 0, none⟩), .pointer (some ⟨g3, 0, none⟩), .pointer (some ⟨g4, 0, none⟩)].toArray, args := #[] }
theorem dec_pan {w0 : World} {X : List Nat} {fr : Fr} {M R1 R2 R3 : List Seg} {n g2 g3 g4 : Nat} {cs : List Value} {x y : Value} (e : Int × Int) (h2 : look fr 2 = some (.pointer (some ⟨g2, 0, none⟩))) (h3 : look fr 3 = some (.pointer (some ⟨g3, 0, none⟩))) (h4 : look fr 4 = some (.pointer (some ⟨g4, 0, none⟩)))
    [B1 : TakeB g2 M (.cells cs.toArray 47 (0, 0)) R1] [B2 : TakeB g3 R1 (.cells [x].toArray 3 (0, 0)) R2] [B3 : TakeB g4 R2 (.cells [y].toArray 26 (0, 0)) R3] (hcs : cs.length = 8) :
    WQ (bodyPostD Try.prog Try.f52 (DecRet w0 X (TxnP.zero, e.1, e.2))) ⟨n, [decDef g2 g3 g4]⟩ w0 X (.panic [entry (errV e)]) fr M := by
  refine wq_sub (M1 := [[(g2, .cells cs.toArray 47 (0, 0))], [(g3, .cells [x].toArray 3 (0, 0))], [(g4, .cells [y].toArray 26 (0, 0))]]) (L := R3) (B1.perm.trans ((B2.perm.cons _).trans ((B3.perm.cons _).cons _))) ?_
  refine wq_seg ?_
  exact wq_panD (M1 := [[(g2, .cells cs.toArray 47 (0, 0))], [(g3, .cells [x].toArray 3 (0, 0))], [(g4, .cells [y].toArray 26 (0, 0))]]) (M2 := [[(g2, .cells txnZ.toArray 47 (0, 0))], [(g3, .cells [Value.int .i64 e.1].toArray 3 (0, 0))], [(g4, .cells [Value.int .i64 e.2].toArray 26 (0, 0))]]) (none, 0, []) rfl (fun w' hr ho => defer_pan cs hcs x y e w' ho) (fun a w' hs hr => res_cells3 (cs := txnZ) (fn := Try.f52) rfl hs h2 h3 h4 hr rfl rfl rfl rfl rfl) (Buf.nil _ _) (M3 := [[]]) rfl
theorem dec_ret {w0 : World} {X : List Nat} {fr : Fr} {M R1 : List Seg} {n g2 g3 g4 : Nat} {t : TxnP} {A : Option Addr} {c : Nat} {E : Seg} (h2 : look fr 2 = some (.pointer (some ⟨g2, 0, none⟩))) (h3 : look fr 3 = some (.pointer (some ⟨g3, 0, none⟩))) (h4 : look fr 4 = some (.pointer (some ⟨g4, 0, none⟩)))
    [B1 : BlkIn g2 M (.cells (t.cells A c).toArray 47 (0, 0))] [B2 : BlkIn g3 M (.cells [.int .i64 0].toArray 3 (0, 0))] [B3 : BlkIn g4 M (.cells [.int .i64 0].toArray 26 (0, 0))] [T : Takes [E] M R1] (hb : BufO t.ops (A, c, E)) :
    WQ (bodyPostD Try.prog Try.f52 (DecRet w0 X (t, 0, 0))) ⟨n, [decDef g2 g3 g4]⟩ w0 X .ret fr M :=
  wq_retD (A, c, E) rfl (fun w' => defer_ret _ _ _ w') (fun a w' hs hr => res_cells3 (cs := t.cells A c) (fn := Try.f52) rfl hs h2 h3 h4 hr rfl rfl rfl rfl rfl) hb (M3 := [E]) rfl
theorem Decode_spec {A : Option Addr} {c : Nat} {d : List UInt8} (hd : d.length ≤ 140737488355328) (w : World) (hv : Vw [] w A (bys d)) :
    Calls Try.prog 52 #[.slice A d.length c] w (DecRet w (ids []) (decR d)) := by
  refine goD [.slice A d.length c] [] Try.func52 Try.ntmps52 rfl rfl (own_nil w) ?_
  generalize hR : decR d = R
  unfold decR decP at hR
  refine rRecD3_0 ?_
  refine wl_alloc rfl rfl (fun g2 => ?_)
  refine wl_alloc rfl rfl (fun g3 => ?_)
  refine wl_alloc rfl rfl (fun g4 => ?_)
  refine rRecD3_0 ?_
  refine wl_defer rfl rfl ?_
  refine rRecD3_0 ?_
  refine wl_callT (M1 := []) (fun w' hr ho => Open_spec hd w' (hv.keep hr)) rfl rfl rfl ?_
  rintro ⟨g, A2, c2, E⟩ hb
  dsimp only at hb ⊢
  refine rRecD3_0 ?_
  (try refine wx_ungd rfl rfl ?_)
  apply wx_val
  exact v_build (cs := ([.pointer (some ⟨g, 0, none⟩)]).toArray) rfl (by kernel_rfl)
  rfl
  skip
  refine wl_alloc rfl rfl (fun g5 => ?_)
  refine rRecD3_0 ?_
  unfold decMax at hR
  have hdl : d.length ≤ 281474976710656 := by omega
  refine wc_keep [2, 3, 4, 5] rfl ?_
  refine wc_heldN [2, 3, 4] [[(g5, .cells [Value.pointer (some ⟨g, 0, none⟩)].toArray 138 (0, 0))]] (fun hQd => ?_)
  refine tkX 0 rfl (v_ldAT rfl (by rfl)) ?_
  refine tkX 2 rfl (v_ldAT rfl (by rfl)) ?_
  refine efX 1 rfl ?_
  unfold numsP at hR
  refine wl_callX (fun w' hr ho => readNum_spec (p := 0) hdl hb (by omega) 1048575 w' ho) rfl rfl rfl (fun q hq => ?_) (fun e2 he => ?_)
  case refine_2 =>
    rw [he] at hR
    dsimp only at hR
    subst hR
    refine rRecD3_0 ?_
    exact dec_pan e2.1 rfl rfl rfl rfl
  obtain ⟨n0, p1⟩ := q
  dsimp only at hq ⊢
  have hle0 := numP_le (by omega) hq
  rw [hq] at hR
  dsimp only at hR
  refine wx_cat ?_
  (try refine wx_nil ?_)
  refine hdX ?_
  refine tkX 4 rfl (v_faddr rfl rfl) ?_
  refine efX 3 rfl ?_
  unfold numsP at hR
  refine wl_callX (fun w' hr ho => readNum_spec (p := p1) hdl hb (by omega) 1048575 w' ho) rfl rfl rfl (fun q hq => ?_) (fun e2 he => ?_)
  case refine_2 =>
    rw [he] at hR
    dsimp only at hR
    subst hR
    refine rRecD3_0 ?_
    exact dec_pan e2.1 rfl rfl rfl rfl
  obtain ⟨n1, p2⟩ := q
  dsimp only at hq ⊢
  have hle1 := numP_le (by omega) hq
  rw [hq] at hR
  dsimp only at hR
  refine wx_cat ?_
  (try refine wx_nil ?_)
  refine hdX ?_
  refine efX 5 rfl ?_
  refine wl_storeT rfl rfl rfl (by rfl) (by exact .inl (Nat.le_refl _)) rfl ?_
  refine wx_setn ?_
  (try refine wx_nil ?_)
  refine hdX ?_
  refine tkX 6 rfl (v_faddr rfl rfl) ?_
  refine efX 7 rfl ?_
  refine wl_storeT rfl rfl rfl (by rfl) (by exact .inl (Nat.le_refl _)) rfl ?_
  refine wx_setn ?_
  (try refine wx_nil ?_)
  refine hdX ?_
  refine wh_done (by decide +kernel) ?_
  refine wq_next ?_
  refine wc_keep [2, 3, 4, 5] rfl ?_
  refine rRecD3_0 ?_
  refine wc_heldN [2, 3, 4] [[(g5, .cells [Value.pointer (some ⟨g, 0, none⟩)].toArray 138 (0, 0))]] (fun hQd => ?_)
  refine tkX 0 rfl (v_ldAT rfl (by rfl)) ?_
  refine tkX 2 rfl (v_ldAT rfl (by rfl)) ?_
  refine efX 1 rfl ?_
  unfold numsP at hR
  refine wl_callX (fun w' hr ho => readNum_spec (p := p2) hdl hb (by omega) 1099511627776 w' ho) rfl rfl rfl (fun q hq => ?_) (fun e2 he => ?_)
  case refine_2 =>
    rw [he] at hR
    dsimp only at hR
    subst hR
    refine rRecD3_0 ?_
    exact dec_pan e2.1 rfl rfl rfl rfl
  obtain ⟨n2, p3⟩ := q
  dsimp only at hq ⊢
  have hle2 := numP_le (by omega) hq
  rw [hq] at hR
  dsimp only at hR
  refine wx_cat ?_
  (try refine wx_nil ?_)
  refine hdX ?_
  refine tkX 4 rfl (v_faddr rfl rfl) ?_
  refine efX 3 rfl ?_
  unfold numsP at hR
  refine wl_callX (fun w' hr ho => readNum_spec (p := p3) hdl hb (by omega) 1099511627776 w' ho) rfl rfl rfl (fun q hq => ?_) (fun e2 he => ?_)
  case refine_2 =>
    rw [he] at hR
    dsimp only at hR
    subst hR
    refine rRecD3_0 ?_
    exact dec_pan e2.1 rfl rfl rfl rfl
  obtain ⟨n3, p4⟩ := q
  dsimp only at hq ⊢
  have hle3 := numP_le (by omega) hq
  rw [hq] at hR
  dsimp only at hR
  refine wx_cat ?_
  (try refine wx_nil ?_)
  refine hdX ?_
  refine efX 5 rfl ?_
  refine wl_storeT rfl rfl rfl (by rfl) (by exact .inl (Nat.le_refl _)) rfl ?_
  refine wx_setn ?_
  (try refine wx_nil ?_)
  refine hdX ?_
  refine tkX 6 rfl (v_faddr rfl rfl) ?_
  refine efX 7 rfl ?_
  refine wl_storeT rfl rfl rfl (by rfl) (by exact .inl (Nat.le_refl _)) rfl ?_
  refine wx_setn ?_
  (try refine wx_nil ?_)
  refine hdX ?_
  refine wh_done (by decide +kernel) ?_
  refine wq_next ?_
  refine wc_keep [2, 3, 4, 5] rfl ?_
  refine rRecD3_0 ?_
  refine wc_heldN [2, 3, 4] [[(g5, .cells [Value.pointer (some ⟨g, 0, none⟩)].toArray 138 (0, 0))]] (fun hQd => ?_)
  refine tkX 0 rfl (v_ldAT rfl (by rfl)) ?_
  refine tkX 2 rfl (v_ldAT rfl (by rfl)) ?_
  refine efX 1 rfl ?_
  unfold numsP at hR
  refine wl_callX (fun w' hr ho => readNum_spec (p := p4) hdl hb (by omega) 1099511627776 w' ho) rfl rfl rfl (fun q hq => ?_) (fun e2 he => ?_)
  case refine_2 =>
    rw [he] at hR
    dsimp only at hR
    subst hR
    refine rRecD3_0 ?_
    exact dec_pan e2.1 rfl rfl rfl rfl
  obtain ⟨n4, p5⟩ := q
  dsimp only at hq ⊢
  have hle4 := numP_le (by omega) hq
  rw [hq] at hR
  dsimp only at hR
  refine wx_cat ?_
  (try refine wx_nil ?_)
  refine hdX ?_
  refine tkX 4 rfl (v_faddr rfl rfl) ?_
  refine efX 3 rfl ?_
  unfold numsP at hR
  refine wl_callX (fun w' hr ho => readNum_spec (p := p5) hdl hb (by omega) 1099511627776 w' ho) rfl rfl rfl (fun q hq => ?_) (fun e2 he => ?_)
  case refine_2 =>
    rw [he] at hR
    dsimp only at hR
    subst hR
    refine rRecD3_0 ?_
    exact dec_pan e2.1 rfl rfl rfl rfl
  obtain ⟨n5, p6⟩ := q
  dsimp only at hq ⊢
  have hle5 := numP_le (by omega) hq
  rw [hq] at hR
  dsimp only at hR
  refine wx_cat ?_
  (try refine wx_nil ?_)
  refine hdX ?_
  refine efX 5 rfl ?_
  refine wl_storeT rfl rfl rfl (by rfl) (by exact .inl (Nat.le_refl _)) rfl ?_
  refine wx_setn ?_
  (try refine wx_nil ?_)
  refine hdX ?_
  refine tkX 6 rfl (v_faddr rfl rfl) ?_
  refine efX 7 rfl ?_
  refine wl_storeT rfl rfl rfl (by rfl) (by exact .inl (Nat.le_refl _)) rfl ?_
  refine wx_setn ?_
  (try refine wx_nil ?_)
  refine hdX ?_
  refine wh_done (by decide +kernel) ?_
  refine wq_next ?_
  refine wc_keep [2, 3, 4, 5] rfl ?_
  refine rRecD3_0 ?_
  unfold numsP at hR
  refine wl_callX (fun w' hr ho => readNum_spec (p := p6) hdl hb (by omega) 1 w' ho) rfl rfl rfl (fun q hq => ?_) (fun e2 he => ?_)
  case refine_2 =>
    rw [he] at hR
    dsimp only at hR
    subst hR
    refine rRecD3_0 ?_
    exact dec_pan e2.1 rfl rfl rfl rfl
  obtain ⟨n6, p7⟩ := q
  dsimp only at hq ⊢
  have hle6 := numP_le (by omega) hq
  rw [hq] at hR
  dsimp only at hR
  refine wx_cat ?_
  refine rRecD3_0 ?_
  unfold numsP at hR
  refine wl_callX (fun w' hr ho => readNum_spec (p := p7) hdl hb (by omega) 16 w' ho) rfl rfl rfl (fun q hq => ?_) (fun e2 he => ?_)
  case refine_2 =>
    rw [he] at hR
    dsimp only at hR
    subst hR
    refine rRecD3_0 ?_
    exact dec_pan e2.1 rfl rfl rfl rfl
  obtain ⟨n7, p8⟩ := q
  dsimp only at hq ⊢
  have hle7 := numP_le (by omega) hq
  rw [hq] at hR
  dsimp only at hR
  refine wx_cat ?_
  unfold numsP at hR
  dsimp only at hR
  rw [show (n0 :: n1 :: n2 :: n3 :: n4 :: n5 :: n6 :: n7 :: ([] : List Nat)).getD 7 0 = n7 from rfl] at hR
  refine wx_blk g2 ((⟨(n0 : Nat), (n1 : Nat), (n2 : Nat), (n3 : Nat), (n4 : Nat), (n5 : Nat), (n6 : Nat), []⟩ : TxnP).cells none 0) rfl ?_
  refine rRecD3_0 ?_
  obtain ⟨O, hO⟩ : ∃ O, O = opsP d n7 p8 := ⟨_, rfl⟩
  rw [← hO] at hR
  refine wc_seg ?_
  refine wc_loopK (ι := Nat × Nat × List OpW × Option Addr × Nat × Seg) [2, 3, 4, 5, 32] (fun q => [(33, .int .i64 (q.1 : Nat))]) (fun q => [curB g A2 d.length c2 (q.2.1 : Nat) 0, [(g2, .cells ((⟨(n0 : Nat), (n1 : Nat), (n2 : Nat), (n3 : Nat), (n4 : Nat), (n5 : Nat), (n6 : Nat), q.2.2.1⟩ : TxnP).cells q.2.2.2.1 q.2.2.2.2.1).toArray 47 (0, 0))], q.2.2.2.2.2]) (fun q => q.1 ≤ n7 ∧ q.2.1 ≤ d.length ∧ q.2.2.1.length = q.1 ∧ BufO q.2.2.1 q.2.2.2 ∧ O = (match opsP d (n7 - q.1) q.2.1 with | .error e => .error e | .ok (l, q') => .ok (q.2.2.1 ++ l, q'))) (fun q => n7 - q.1) ((0, p8, [], none, 0, [])) rfl ?_ (by repeat (first | exact trivial | refine ⟨rfl, ?_⟩)) ?_
  · refine ⟨Nat.zero_le _, (show p8 ≤ d.length by omega), rfl, Buf.nil _ _, ?_⟩
    simp only [Nat.sub_zero]
    rw [hO]
    cases opsP d n7 p8 with
    | error e => rfl
    | ok r => rfl
  rintro ⟨i, p, l, A3, c3, E3⟩ ⟨hi, hp, hl, hbo, ho⟩
  try dsimp only
  refine wc_fcat ?_
  refine wc_cat ?_
  dsimp only at hi hp hl hbo ho ⊢
  refine rRecD3_0 ?_
  refine wc_if rfl (fun h1 => ?_) (fun h1 => ?_)
  · rw [show n7 - i = (n7 - (i + 1)) + 1 by omega] at ho
    unfold opsP at ho
    refine rRecD3_0 ?_
    refine wc_heldN [2, 3, 4] [[(g5, .cells [Value.pointer (some ⟨g, 0, none⟩)].toArray 138 (0, 0))]] (fun hQd => ?_)
    refine tkX 0 rfl (v_faddr rfl rfl) ?_
    refine tkX 2 rfl (v_ldAT rfl (by rfl)) ?_
    refine wh_eff2 1 3 rfl rfl (by decide +kernel) ?_ ?_
    · refine rRecD3_0 ?_
      (try refine wx_nil ?_)
      refine hdX ?_
      refine efX 3 rfl ?_
      refine wl_callX (fun w' hr ho => readOp_spec (p := p) hdl hb hp w' ho) rfl rfl rfl (fun q hq => ?_) (fun e2 he => ?_)
      case refine_2 =>
        rw [he] at ho
        dsimp only at ho
        rw [ho] at hR
        dsimp only at hR
        subst hR
        refine rRecD3_0 ?_
        exact dec_pan e2.1 rfl rfl rfl rfl
      obtain ⟨o, p'⟩ := q
      dsimp only at hq ⊢
      rw [hq] at ho
      dsimp only at ho
      refine wx_cat ?_
      (try refine wx_nil ?_)
      refine hdX ?_
      refine efX 4 rfl ?_
      refine wl_lit rfl rfl rfl rfl rfl (by decide) rfl (fun g9 => ?_)
      (try refine wx_nil ?_)
      refine hdX ?_
      refine efX 5 rfl ?_
      refine wl_app1T rfl hbo rfl rfl rfl rfl (by omega) rfl (fun A4 c4 E4 hb4 => ?_)
      rw [show l.length + 1 = (l ++ [o]).length from by simp] at hb4 ⊢
      (try refine wx_nil ?_)
      refine hdX ?_
      refine tkX 6 rfl (v_faddr rfl rfl) ?_
      refine efX 7 rfl ?_
      refine wl_storeT rfl rfl rfl (by rfl) (by exact .inl (Nat.le_refl _)) rfl ?_
      refine wx_setn ?_
      refine wx_blk g2 ((⟨(n0 : Nat), (n1 : Nat), (n2 : Nat), (n3 : Nat), (n4 : Nat), (n5 : Nat), (n6 : Nat), l ++ [o]⟩ : TxnP).cells A4 c4) rfl ?_
      refine wx_setn ?_
      (try refine wx_nil ?_)
      refine hdX ?_
      refine wh_done (by decide +kernel) ?_
      refine rRecD3_0 ?_
      refine wq_roundK ((i + 1, p', l ++ [o], A4, c4, E4)) ?_ ?_ (by repeat (first | exact trivial | refine ⟨rfl, ?_⟩)) (by first | exact catEq | exact rfl)
      · have hpl := opP_le hp hq
        refine ⟨(show i + 1 ≤ n7 by omega), hpl, (show (l ++ [o]).length = i + 1 by simp [hl]), ?_, ?_⟩
        · show Buf _ _ _ _ _ _ _
          rw [List.flatMap_append]; exact hb4
        · show O = _
          rw [ho]
          cases opsP d (n7 - (i + 1)) p' with
          | error e => rfl
          | ok r => simp
      · show n7 - (i + 1) < n7 - i
        omega
    · refine wl_callX (fun w' hr ho => readOp_spec (p := p) hdl hb hp w' ho) rfl rfl rfl (fun q hq => ?_) (fun e2 he => ?_)
      case refine_2 =>
        rw [he] at ho
        dsimp only at ho
        rw [ho] at hR
        dsimp only at hR
        subst hR
        refine rRecD3_0 ?_
        exact dec_pan e2.1 rfl rfl rfl rfl
      obtain ⟨o, p'⟩ := q
      dsimp only at hq ⊢
      rw [hq] at ho
      dsimp only at ho
      refine wx_cat ?_
      (try refine wx_nil ?_)
      refine hdX ?_
      refine wh_eff2 1 4 rfl rfl (by decide +kernel) ?_ ?_
      · refine rRecD3_0 ?_
        (try refine wx_nil ?_)
        refine hdX ?_
        refine efX 4 rfl ?_
        refine wl_lit rfl rfl rfl rfl rfl (by decide) rfl (fun g9 => ?_)
        (try refine wx_nil ?_)
        refine hdX ?_
        refine efX 5 rfl ?_
        refine wl_app1T rfl hbo rfl rfl rfl rfl (by omega) rfl (fun A4 c4 E4 hb4 => ?_)
        rw [show l.length + 1 = (l ++ [o]).length from by simp] at hb4 ⊢
        (try refine wx_nil ?_)
        refine hdX ?_
        refine tkX 6 rfl (v_faddr rfl rfl) ?_
        refine efX 7 rfl ?_
        refine wl_storeT rfl rfl rfl (by rfl) (by exact .inl (Nat.le_refl _)) rfl ?_
        refine wx_setn ?_
        refine wx_blk g2 ((⟨(n0 : Nat), (n1 : Nat), (n2 : Nat), (n3 : Nat), (n4 : Nat), (n5 : Nat), (n6 : Nat), l ++ [o]⟩ : TxnP).cells A4 c4) rfl ?_
        refine wx_setn ?_
        (try refine wx_nil ?_)
        refine hdX ?_
        refine wh_done (by decide +kernel) ?_
        refine rRecD3_0 ?_
        refine wq_roundK ((i + 1, p', l ++ [o], A4, c4, E4)) ?_ ?_ (by repeat (first | exact trivial | refine ⟨rfl, ?_⟩)) (by first | exact catEq | exact rfl)
        · have hpl := opP_le hp hq
          refine ⟨(show i + 1 ≤ n7 by omega), hpl, (show (l ++ [o]).length = i + 1 by simp [hl]), ?_, ?_⟩
          · show Buf _ _ _ _ _ _ _
            rw [List.flatMap_append]; exact hb4
          · show O = _
            rw [ho]
            cases opsP d (n7 - (i + 1)) p' with
            | error e => rfl
            | ok r => simp
        · show n7 - (i + 1) < n7 - i
          omega
      · refine wl_lit rfl rfl rfl rfl rfl (by decide) rfl (fun g9 => ?_)
        (try refine wx_nil ?_)
        refine hdX ?_
        refine efX 1 rfl ?_
        refine rRecD3_0 ?_
        (try refine wx_nil ?_)
        refine hdX ?_
        refine efX 5 rfl ?_
        refine wl_app1T rfl hbo rfl rfl rfl rfl (by omega) rfl (fun A4 c4 E4 hb4 => ?_)
        rw [show l.length + 1 = (l ++ [o]).length from by simp] at hb4 ⊢
        (try refine wx_nil ?_)
        refine hdX ?_
        refine tkX 6 rfl (v_faddr rfl rfl) ?_
        refine efX 7 rfl ?_
        refine wl_storeT rfl rfl rfl (by rfl) (by exact .inl (Nat.le_refl _)) rfl ?_
        refine wx_setn ?_
        refine wx_blk g2 ((⟨(n0 : Nat), (n1 : Nat), (n2 : Nat), (n3 : Nat), (n4 : Nat), (n5 : Nat), (n6 : Nat), l ++ [o]⟩ : TxnP).cells A4 c4) rfl ?_
        refine wx_setn ?_
        (try refine wx_nil ?_)
        refine hdX ?_
        refine wh_done (by decide +kernel) ?_
        refine rRecD3_0 ?_
        refine wq_roundK ((i + 1, p', l ++ [o], A4, c4, E4)) ?_ ?_ (by repeat (first | exact trivial | refine ⟨rfl, ?_⟩)) (by first | exact catEq | exact rfl)
        · have hpl := opP_le hp hq
          refine ⟨(show i + 1 ≤ n7 by omega), hpl, (show (l ++ [o]).length = i + 1 by simp [hl]), ?_, ?_⟩
          · show Buf _ _ _ _ _ _ _
            rw [List.flatMap_append]; exact hb4
          · show O = _
            rw [ho]
            cases opsP d (n7 - (i + 1)) p' with
            | error e => rfl
            | ok r => simp
        · show n7 - (i + 1) < n7 - i
          omega
  · obtain rfl : i = n7 := by omega
    rw [Nat.sub_self] at ho
    unfold opsP at ho
    dsimp only at ho
    rw [List.append_nil] at ho
    rw [ho] at hR
    dsimp only at hR
    refine rRecD3_0 ?_
    refine wl_callT (fun w' hr ho => Left_spec (A := A2) (c := c2) hdl hp w' ho) rfl rfl rfl ?_
    rintro - -
    refine rRecD3_0 ?_
    refine wc_if rfl (fun h2 => ?_) (fun h2 => ?_)
    · rw [if_pos (by omega)] at hR
      dsimp only at hR
      subst hR
      refine rRecD3_0 ?_
      refine wl_callT (fun w' hr ho => Offset_spec (A := A2) (n := d.length) (c := c2) (p := p) (f := 0) w' ho) rfl rfl rfl ?_
      rintro - -
      refine rRecD3_0 ?_
      (try refine wx_ungd rfl rfl ?_)
      apply wx_val
      exact v_build (cs := ([.int .i64 (p : Nat), .int .i64 61]).toArray) rfl (by kernel_rfl)
      rfl
      refine rRecD3_0 ?_
      refine wl_panic (v := .agg #[.int .i64 (p : Nat), .int .i64 61]) rfl ?_
      refine rRecD3_0 ?_
      exact dec_pan ((p : Nat), 61) rfl rfl rfl rfl
    · rw [if_neg (by omega)] at hR
      dsimp only at hR
      subst hR
      refine rRecD3_0 ?_
      refine wq_blk g4 [.int .i64 0] rfl ?_
      refine wq_setn ?_
      refine wq_blk g3 [.int .i64 0] rfl ?_
      refine wq_setn ?_
      exact dec_ret (A := A3) (c := c3) (E := E3) rfl rfl rfl hbo
end Go.Proofs.Ytlioccfedophhaa
/- What a reading of a transaction may hand back. -/
set_option linter.unusedVariables false
set_option linter.unusedSimpArgs false
namespace Go.Proofs.Ytlioccfedophhaa
open Go
set_option maxRecDepth 20000
set_option maxHeartbeats 2000000
attribute [local irreducible] WX WC WQ Val VCall
def nsC (ns : List Nat) : List Value := ns.map (fun n => .int .i64 (n : Nat)) ++ List.replicate (8 - ns.length) (.int .i64 0)
theorem nsC_len {ns : List Nat} (h : ns.length ≤ 8) : (nsC ns).length = 8 := by simp [nsC]; omega
theorem nsC_set {ns : List Nat} (h : ns.length < 8) (n : Nat) : (nsC ns).set ns.length (.int .i64 (n : Nat)) = nsC (ns ++ [n]) := by
  unfold nsC
  rw [List.set_append_right _ _ (by simp), List.length_map, Nat.sub_self, show 8 - ns.length = (8 - (ns ++ [n]).length) + 1 by simp; omega, List.replicate_succ, List.set_cons_zero]
  simp
theorem len8 {l : List Nat} (h : l.length = 8) : ∃ n0 n1 n2 n3 n4 n5 n6 n7, l = [n0, n1, n2, n3, n4, n5, n6, n7] := by
  rcases l with _ | ⟨n0, _ | ⟨n1, _ | ⟨n2, _ | ⟨n3, _ | ⟨n4, _ | ⟨n5, _ | ⟨n6, _ | ⟨n7, _ | ⟨n8, l⟩⟩⟩⟩⟩⟩⟩⟩⟩ <;> simp at h
  exact ⟨n0, n1, n2, n3, n4, n5, n6, n7, rfl⟩
theorem numsP_le {d : List UInt8} : ∀ {ms : List Int} {p q : Nat} {l : List Nat}, p ≤ d.length → numsP d ms p = .ok (l, q) → q ≤ d.length ∧ l.length = ms.length
  | [], p, q, l, hp, h => by
    unfold numsP at h
    injection h with h
    injection h with h1 h2
    subst h1; subst h2
    exact ⟨hp, rfl⟩
  | m :: r, p, q, l, hp, h => by
    unfold numsP at h
    split at h
    · cases h
    · rename_i n p2 hn
      have h1 := numP_le hp hn
      split at h
      · cases h
      · rename_i l2 p3 hl
        have h2 := numsP_le h1.1 hl
        injection h with h
        injection h with h3 h4
        subst h3; subst h4
        exact ⟨h2.1, by simp [h2.2]⟩
theorem opsP_len {d : List UInt8} : ∀ {n p q : Nat} {l : List OpW}, opsP d n p = .ok (l, q) → l.length = n
  | 0, p, q, l, h => by
    unfold opsP at h
    injection h with h
    injection h with h1 h2
    subst h1; rfl
  | n + 1, p, q, l, h => by
    unfold opsP at h
    split at h
    · cases h
    · split at h
      · cases h
      · rename_i hl
        injection h with h
        injection h with h1 h2
        subst h1
        simp [opsP_len hl]
theorem nums_max {d : List UInt8} : ∀ {ms : List Int} {p q : Nat} {l : List Nat}, p ≤ d.length → numsP d ms p = .ok (l, q) → ∀ (k n : Nat) (m : Int), l[k]? = some n → ms[k]? = some m → (n : Int) ≤ m
  | [], p, q, l, hp, h => fun k n m _ hm => by simp at hm
  | m0 :: r, p, q, l, hp, h => by
    unfold numsP at h
    split at h
    · cases h
    · rename_i n0 p2 hn
      have h1 := numP_le hp hn
      split at h
      · cases h
      · rename_i l2 p3 hl
        injection h with h
        injection h with h3 h4
        subst h3
        intro k n m hk hm
        cases k with
        | zero =>
          simp at hk hm
          subst hk; subst hm
          exact h1.2.2
        | succ k => exact nums_max h1.1 hl k n m (by simpa using hk) (by simpa using hm)
theorem decR_len (d : List UInt8) : (decR d).1.ops.length ≤ 16 := by
  unfold decR decP
  cases h : numsP d decMax 0 with
  | error e => exact Nat.zero_le _
  | ok r =>
    obtain ⟨ns, p⟩ := r
    obtain ⟨h1, h2⟩ := numsP_le (Nat.zero_le _) h
    obtain ⟨n0, n1, n2, n3, n4, n5, n6, n7, rfl⟩ := len8 h2
    have h7 := nums_max (Nat.zero_le _) h 7 n7 16 rfl rfl
    dsimp only
    cases h3 : opsP d ([n0, n1, n2, n3, n4, n5, n6, n7].getD 7 0) p with
    | error e => exact Nat.zero_le _
    | ok r =>
      obtain ⟨l, q⟩ := r
      have h4 := opsP_len h3
      have h5 : l.length = n7 := h4
      dsimp only
      split
      · exact Nat.zero_le _
      · rename_i e; split at e
        · cases e
        · injection e with e
          subst e
          show l.length ≤ 16
          omega
end Go.Proofs.Ytlioccfedophhaa
/- The document's bytes of a transaction. -/
set_option linter.unusedVariables false
set_option linter.unusedSimpArgs false
namespace Go.Proofs.Ytlioccfedophhaa
open Go
set_option maxRecDepth 20000
set_option maxHeartbeats 4000000
attribute [local irreducible] WX WC WQ Val VCall
theorem rRec4_0 {A B : Prop} (k : B) (h : Hold B → A := by intro k; (repeat (first | (apply wx_val; (first | exact v_move rfl | exact v_assign rfl | exact v_faddr rfl rfl | (apply v_load rfl rfl rfl; first | exact ld 0 0 rfl rfl rfl | exact ld 1 0 rfl rfl rfl | exact ld 2 0 rfl rfl rfl | exact ld 3 0 rfl rfl rfl | exact ld 4 0 rfl rfl rfl | exact ld 5 0 rfl rfl rfl) | exact v_len rfl rfl | exact v_eq rfl rfl | exact v_lt rfl rfl | exact v_addi rfl rfl (by omega)); rfl) | refine wc_seq ?_ | refine wc_region ?_ | refine wx_nil ?_ | refine wq_next ?_ | refine wc_block ?_ | refine wc_ret ?_ | refine wc_skip ?_ | refine wc_exit ?_ | refine wq_then_exit ?_ | refine wq_block ?_ | refine wq_block_exit rfl ?_ | refine wc_condT rfl ?_ | refine wc_condF rfl ?_ | refine wl_stA 0 rfl rfl rfl rfl rfl (.inl (Nat.le_refl _)) rfl ?_)); exact k.out) : A := h ⟨k⟩
theorem refNumber_spec {A : Option Addr} {c : Nat} {l : List UInt8} {E : Seg} (hl : l.length ≤ 1048576) (hb : BufB l (A, c, E)) (n : Int) (w : World) (ho : Own w [E]) :
    Calls Try.prog 47 #[.slice A l.length c, .int .i64 n] w (RetB w (ids [E]) (l ++ formI n)) := by
  refine go [.slice A l.length c, .int .i64 n] [E] Try.func47 Try.ntmps47 rfl rfl ho ?_
  refine rRec4_0 ?_
  refine wl_callP [] [0] rfl rfl (fun w' hr ho => Form_spec n w') rfl rfl rfl rfl ?_
  rintro ⟨A2, c2, E2⟩ hb2
  dsimp only at hb2 ⊢
  (first | refine wx_mem (by simp only [pick, List.getElem?_cons_succ, List.getElem?_cons_zero, Option.getD_some, List.cons_append, List.nil_append, List.set_cons_zero, List.set_cons_succ] <;> rfl) ?_)
  refine rRec4_0 ?_
  have h8 := formI_len8 n
  refine wl_append 1 rfl rfl hb rfl rfl (fun w' hr => src_slice rfl (hb2.rd hr (i := 0) rfl) (by simp) (by decide) (one_bys _)) (by omega) rfl (fun A8 c8 E8 hb8 => ?_)
  have el : l.length + (formI n).length = (l ++ formI n).length := by simp
  rw [el, ← bys_append] at hb8
  rw [el]
  (first | refine wx_mem (by simp only [pick, List.getElem?_cons_succ, List.getElem?_cons_zero, Option.getD_some, List.cons_append, List.nil_append, List.set_cons_zero, List.set_cons_succ] <;> rfl) ?_)
  refine rRec4_0 ?_
  refine wq_pickP [1] [0] rfl rfl ?_
  exact wq_ret1 (A8, c8, E8) rfl rfl hb8 rfl
theorem Body_spec {t : TxnW} (w : World) (hv : t.Reads w) (he : t.err = 0) : Calls Try.prog 31 #[.agg t.cells.toArray] w (RetB w (ids []) t.body) := by
  obtain ⟨hf, hn, hr⟩ : t.FieldsOk ∧ t.ops.xs.length ≤ 16 ∧ ∀ o ∈ t.ops.xs, o.Right := by
    unfold TxnW.err at he
    split at he
    · cases he
    · split at he
      · cases he
      · split at he
        · rename_i h1 h2 h3; exact ⟨by simpa using h1, by omega, h3⟩
        · cases he
  refine go [.agg t.cells.toArray] [] Try.func31 Try.ntmps31 rfl rfl (own_nil w) ?_
  refine rRec4_0 ?_
  refine wl_box rfl rfl (fun g => ?_)
  refine wx_mem (M' := [[(g, .cells t.cells.toArray 47 (0, 0))]]) rfl ?_
  refine rRec4_0 ?_
  have l1 := formI_len8 t.session
  have l2 := formI_len8 t.seq
  have l3 := formI_len8 t.start
  have l4 := formI_len8 t.fin
  have l5 := formI_len8 t.invoke
  have l6 := formI_len8 t.ret
  have l7 := formI_len8 t.status
  have l8 := formI_len8 (t.ops.xs.length : Nat)
  have hb : BufB [] (none, 0, []) := Buf.nil _ _
  refine wx_seg ?_
  refine wl_callP [0] [1] rfl rfl (fun w' hr ho => refNumber_spec (by simp only [List.length_append, List.length_nil]; omega) hb (t.session) w' ho) rfl rfl rfl rfl ?_
  clear hb
  rintro ⟨A, c, E⟩ hb
  dsimp only at hb ⊢
  (first | refine wx_mem (by simp only [pick, List.getElem?_cons_succ, List.getElem?_cons_zero, Option.getD_some, List.cons_append, List.nil_append, List.set_cons_zero, List.set_cons_succ] <;> rfl) ?_)
  refine rRec4_0 ?_
  refine wl_callP [0] [1] rfl rfl (fun w' hr ho => refNumber_spec (by simp only [List.length_append, List.length_nil]; omega) hb (t.seq) w' ho) rfl rfl rfl rfl ?_
  clear hb
  rintro ⟨A, c, E⟩ hb
  dsimp only at hb ⊢
  (first | refine wx_mem (by simp only [pick, List.getElem?_cons_succ, List.getElem?_cons_zero, Option.getD_some, List.cons_append, List.nil_append, List.set_cons_zero, List.set_cons_succ] <;> rfl) ?_)
  refine rRec4_0 ?_
  refine wl_callP [0] [1] rfl rfl (fun w' hr ho => refNumber_spec (by simp only [List.length_append, List.length_nil]; omega) hb (t.start) w' ho) rfl rfl rfl rfl ?_
  clear hb
  rintro ⟨A, c, E⟩ hb
  dsimp only at hb ⊢
  (first | refine wx_mem (by simp only [pick, List.getElem?_cons_succ, List.getElem?_cons_zero, Option.getD_some, List.cons_append, List.nil_append, List.set_cons_zero, List.set_cons_succ] <;> rfl) ?_)
  refine rRec4_0 ?_
  refine wl_callP [0] [1] rfl rfl (fun w' hr ho => refNumber_spec (by simp only [List.length_append, List.length_nil]; omega) hb (t.fin) w' ho) rfl rfl rfl rfl ?_
  clear hb
  rintro ⟨A, c, E⟩ hb
  dsimp only at hb ⊢
  (first | refine wx_mem (by simp only [pick, List.getElem?_cons_succ, List.getElem?_cons_zero, Option.getD_some, List.cons_append, List.nil_append, List.set_cons_zero, List.set_cons_succ] <;> rfl) ?_)
  refine rRec4_0 ?_
  refine wl_callP [0] [1] rfl rfl (fun w' hr ho => refNumber_spec (by simp only [List.length_append, List.length_nil]; omega) hb (t.invoke) w' ho) rfl rfl rfl rfl ?_
  clear hb
  rintro ⟨A, c, E⟩ hb
  dsimp only at hb ⊢
  (first | refine wx_mem (by simp only [pick, List.getElem?_cons_succ, List.getElem?_cons_zero, Option.getD_some, List.cons_append, List.nil_append, List.set_cons_zero, List.set_cons_succ] <;> rfl) ?_)
  refine rRec4_0 ?_
  refine wl_callP [0] [1] rfl rfl (fun w' hr ho => refNumber_spec (by simp only [List.length_append, List.length_nil]; omega) hb (t.ret) w' ho) rfl rfl rfl rfl ?_
  clear hb
  rintro ⟨A, c, E⟩ hb
  dsimp only at hb ⊢
  (first | refine wx_mem (by simp only [pick, List.getElem?_cons_succ, List.getElem?_cons_zero, Option.getD_some, List.cons_append, List.nil_append, List.set_cons_zero, List.set_cons_succ] <;> rfl) ?_)
  refine rRec4_0 ?_
  refine wl_callP [0] [1] rfl rfl (fun w' hr ho => refNumber_spec (by simp only [List.length_append, List.length_nil]; omega) hb (t.status) w' ho) rfl rfl rfl rfl ?_
  clear hb
  rintro ⟨A, c, E⟩ hb
  dsimp only at hb ⊢
  (first | refine wx_mem (by simp only [pick, List.getElem?_cons_succ, List.getElem?_cons_zero, Option.getD_some, List.cons_append, List.nil_append, List.set_cons_zero, List.set_cons_succ] <;> rfl) ?_)
  refine rRec4_0 ?_
  refine wl_callP [0] [1] rfl rfl (fun w' hr ho => refNumber_spec (by simp only [List.length_append, List.length_nil]; omega) hb ((t.ops.xs.length : Nat)) w' ho) rfl rfl rfl rfl ?_
  clear hb
  rintro ⟨A, c, E⟩ hb
  dsimp only at hb ⊢
  (first | refine wx_mem (by simp only [pick, List.getElem?_cons_succ, List.getElem?_cons_zero, Option.getD_some, List.cons_append, List.nil_append, List.set_cons_zero, List.set_cons_succ] <;> rfl) ?_)
  refine rRec4_0 ?_
  have e0 : [] ++ formI t.session ++ formI t.seq ++ formI t.start ++ formI t.fin ++ formI t.invoke ++ formI t.ret ++ formI t.status ++ formI (t.ops.xs.length : Nat) = intsB t.ints ++ opsB (t.ops.xs.take 0) := by simp [intsB, opsB, TxnW.ints]
  rw [e0] at hb ⊢
  refine wc_loop (ι := Nat × Option Addr × Nat × Seg) (fun i => [(1, .pointer (some ⟨g, 0, none⟩)), (3, .slice i.2.1 (intsB t.ints ++ opsB (t.ops.xs.take i.1)).length i.2.2.1), (4, .int .i64 (i.1 : Nat))]) (fun i => [i.2.2.2, [(g, .cells t.cells.toArray 47 (0, 0))]])
    (fun i => i.1 ≤ t.ops.xs.length ∧ BufB (intsB t.ints ++ opsB (t.ops.xs.take i.1)) i.2) (fun i => t.ops.xs.length - i.1) (0, A, c, E) ⟨by simp, hb⟩ ⟨rfl, rfl, rfl, trivial⟩ rfl ?_
  clear hb e0
  rintro ⟨i, A, c, E⟩ ⟨hi, hb⟩
  dsimp only at hi hb ⊢
  have hl1 := intsB_len t.ints
  have hil : t.ints.length = 8 := rfl
  have hl2 := opsB_len (l := t.ops.xs.take i) (fun o ho => hr o (List.mem_of_mem_take ho))
  have hl3 : (t.ops.xs.take i).length ≤ 16 := by simp; omega
  have hl4 : (intsB t.ints ++ opsB (t.ops.xs.take i)).length ≤ 496 := by rw [List.length_append]; omega
  refine rRec4_0 ?_
  refine wc_if rfl (fun h1 => ?_) (fun h1 => ?_)
  case refine_2 =>
    have hi' : i = t.ops.xs.length := by omega
    subst hi'
    have e0 : intsB t.ints ++ opsB (t.ops.xs.take t.ops.xs.length) = t.body := by rw [List.take_length]; rfl
    rw [e0] at hb ⊢
    refine rRec4_0 ?_
    refine wq_pickP [0] [1] rfl rfl ?_
    exact wq_ret1 (A, c, E) rfl rfl hb rfl
  obtain ⟨a, ha⟩ : ∃ a, t.ops.xs[i]? = some a := ⟨t.ops.xs[i]'(by omega), List.getElem?_eq_getElem _⟩
  have har := hr a (List.mem_of_getElem? ha)
  obtain ⟨gB, oB, hA, hcell⟩ := cells_at (k := 4) (by decide) (fun _ => rfl) hv ha
  have en : intsB t.ints ++ opsB (t.ops.xs.take (i + 1)) = intsB t.ints ++ opsB (t.ops.xs.take i) ++ a.bytes := by rw [List.append_assoc]; congr 1; exact flat_take ha
  have hks : a.key.size ≤ 8 := har.2.1
  have hvs : a.value.size ≤ 16 := har.2.2.1
  refine rRec4_0 ?_
  apply wx_val
  exact v_iaddr rfl (by rw [← hA]; rfl) rfl (by omega)
  rfl
  apply wx_val
  exact v_loadA (cs := OpW.cells a) rfl rfl (fun w' hr j v hj => by
    have := hcell i a ha hr j v hj
    rw [show (i : Int).toNat = i by omega]
    exact this)
  rfl
  refine wl_alloc rfl rfl (fun g2 => ?_)
  refine rRec4_0 ?_
  have hki := har.2.2.2
  clear hcell ha har
  obtain ⟨k, key, found, value⟩ := a
  dsimp only at hks hvs hki en
  rcases hki with ⟨rfl, hfv⟩ | ⟨rfl, rfl⟩ | ⟨rfl, rfl, hv0⟩
  · cases found
    case false =>
      refine rRec4_0 ?_
      refine wl_lit rfl rfl rfl rfl rfl (by decide) rfl (fun g3 => ?_)
      refine wl_append1 1 rfl rfl rfl hb rfl rfl rfl (by intro u hu; simp [catL, cellsL] at hu; subst hu; rfl) (by omega) rfl (fun A3 c3 E3 hb3 => ?_)
      rw [lit_bys (by omega), ← bys_append] at hb3
      have ek : (intsB t.ints ++ opsB (t.ops.xs.take i)).length + 1 = (intsB t.ints ++ opsB (t.ops.xs.take i) ++ [UInt8.ofNat (2 : Int).toNat]).length := by simp only [List.length_append, List.length_cons, List.length_nil]
      rw [ek] at hb3 ⊢
      (first | refine wx_mem (by simp only [pick, List.getElem?_cons_succ, List.getElem?_cons_zero, Option.getD_some, List.cons_append, List.nil_append, List.set_cons_zero, List.set_cons_succ] <;> rfl) ?_)
      refine rRec4_0 ?_
      refine wl_callP [] [0, 1, 2] rfl rfl (fun w' hr ho => refText_spec (s := key) (by omega) w') rfl rfl rfl rfl ?_
      rintro ⟨A5, c5, E5⟩ hb5
      dsimp only at hb5 ⊢
      (first | refine wx_mem (by simp only [pick, List.getElem?_cons_succ, List.getElem?_cons_zero, Option.getD_some, List.cons_append, List.nil_append, List.set_cons_zero, List.set_cons_succ] <;> rfl) ?_)
      refine rRec4_0 ?_
      have l5 := textB_short (s := key) (by omega)
      refine wl_append 2 rfl rfl hb3 rfl rfl (fun w' hr => src_slice rfl (hb5.rd hr (i := 0) rfl) (by simp) (by decide) (one_bys _)) (by simp only [List.length_append, List.length_cons, List.length_nil] at hl4 ⊢; omega) rfl (fun A6 c6 E6 hb6 => ?_)
      have el : (intsB t.ints ++ opsB (t.ops.xs.take i) ++ [UInt8.ofNat (2 : Int).toNat]).length + (textB key).length = (intsB t.ints ++ opsB (t.ops.xs.take i) ++ [UInt8.ofNat (2 : Int).toNat] ++ textB key).length := by simp only [List.length_append]
      rw [el, ← bys_append] at hb6
      rw [el]
      (first | refine wx_mem (by simp only [pick, List.getElem?_cons_succ, List.getElem?_cons_zero, Option.getD_some, List.cons_append, List.nil_append, List.set_cons_zero, List.set_cons_succ] <;> rfl) ?_)
      refine wx_pickP [1, 2, 3] [0] rfl rfl ?_
      (first | refine wx_mem (by simp only [pick, List.getElem?_cons_succ, List.getElem?_cons_zero, Option.getD_some, List.cons_append, List.nil_append, List.set_cons_zero, List.set_cons_succ] <;> rfl) ?_)
      refine rRec4_0 ?_
      have en2 : intsB t.ints ++ opsB (t.ops.xs.take i) ++ [UInt8.ofNat (2 : Int).toNat] ++ textB key = intsB t.ints ++ opsB (t.ops.xs.take (i + 1)) := by rw [en]; simp [OpW.bytes, OpW.tag]
      rw [en2] at hb6 ⊢
      refine wq_pickP [1, 2] [0] rfl rfl ?_
      exact wq_round (i + 1, A6, c6, E6) ⟨by (try dsimp only); omega, hb6⟩ (by (try dsimp only); omega) ⟨rfl, rfl, rfl, trivial⟩ rfl
    case true =>
      refine rRec4_0 ?_
      refine wl_lit rfl rfl rfl rfl rfl (by decide) rfl (fun g3 => ?_)
      refine wl_append1 1 rfl rfl rfl hb rfl rfl rfl (by intro u hu; simp [catL, cellsL] at hu; subst hu; rfl) (by omega) rfl (fun A3 c3 E3 hb3 => ?_)
      rw [lit_bys (by omega), ← bys_append] at hb3
      have ek : (intsB t.ints ++ opsB (t.ops.xs.take i)).length + 1 = (intsB t.ints ++ opsB (t.ops.xs.take i) ++ [UInt8.ofNat (1 : Int).toNat]).length := by simp only [List.length_append, List.length_cons, List.length_nil]
      rw [ek] at hb3 ⊢
      (first | refine wx_mem (by simp only [pick, List.getElem?_cons_succ, List.getElem?_cons_zero, Option.getD_some, List.cons_append, List.nil_append, List.set_cons_zero, List.set_cons_succ] <;> rfl) ?_)
      refine rRec4_0 ?_
      refine wl_callP [] [0, 1, 2] rfl rfl (fun w' hr ho => refText_spec (s := key) (by omega) w') rfl rfl rfl rfl ?_
      rintro ⟨A5, c5, E5⟩ hb5
      dsimp only at hb5 ⊢
      (first | refine wx_mem (by simp only [pick, List.getElem?_cons_succ, List.getElem?_cons_zero, Option.getD_some, List.cons_append, List.nil_append, List.set_cons_zero, List.set_cons_succ] <;> rfl) ?_)
      refine rRec4_0 ?_
      have l5 := textB_short (s := key) (by omega)
      refine wl_append 2 rfl rfl hb3 rfl rfl (fun w' hr => src_slice rfl (hb5.rd hr (i := 0) rfl) (by simp) (by decide) (one_bys _)) (by simp only [List.length_append, List.length_cons, List.length_nil] at hl4 ⊢; omega) rfl (fun A6 c6 E6 hb6 => ?_)
      have el : (intsB t.ints ++ opsB (t.ops.xs.take i) ++ [UInt8.ofNat (1 : Int).toNat]).length + (textB key).length = (intsB t.ints ++ opsB (t.ops.xs.take i) ++ [UInt8.ofNat (1 : Int).toNat] ++ textB key).length := by simp only [List.length_append]
      rw [el, ← bys_append] at hb6
      rw [el]
      (first | refine wx_mem (by simp only [pick, List.getElem?_cons_succ, List.getElem?_cons_zero, Option.getD_some, List.cons_append, List.nil_append, List.set_cons_zero, List.set_cons_succ] <;> rfl) ?_)
      refine wx_pickP [1, 2, 3] [0] rfl rfl ?_
      (first | refine wx_mem (by simp only [pick, List.getElem?_cons_succ, List.getElem?_cons_zero, Option.getD_some, List.cons_append, List.nil_append, List.set_cons_zero, List.set_cons_succ] <;> rfl) ?_)
      refine rRec4_0 ?_
      refine wl_callP [] [0, 1, 2] rfl rfl (fun w' hr ho => refText_spec (s := value) (by omega) w') rfl rfl rfl rfl ?_
      rintro ⟨A7, c7, E7⟩ hb7
      dsimp only at hb7 ⊢
      (first | refine wx_mem (by simp only [pick, List.getElem?_cons_succ, List.getElem?_cons_zero, Option.getD_some, List.cons_append, List.nil_append, List.set_cons_zero, List.set_cons_succ] <;> rfl) ?_)
      refine rRec4_0 ?_
      have l7 := textB_short (s := value) (by omega)
      refine wl_append 2 rfl rfl hb6 rfl rfl (fun w' hr => src_slice rfl (hb7.rd hr (i := 0) rfl) (by simp) (by decide) (one_bys _)) (by simp only [List.length_append, List.length_cons, List.length_nil] at hl4 ⊢; omega) rfl (fun A8 c8 E8 hb8 => ?_)
      have el2 : (intsB t.ints ++ opsB (t.ops.xs.take i) ++ [UInt8.ofNat (1 : Int).toNat] ++ textB key).length + (textB value).length = (intsB t.ints ++ opsB (t.ops.xs.take i) ++ [UInt8.ofNat (1 : Int).toNat] ++ textB key ++ textB value).length := by simp only [List.length_append]
      rw [el2, ← bys_append] at hb8
      rw [el2]
      have en2 : intsB t.ints ++ opsB (t.ops.xs.take i) ++ [UInt8.ofNat (1 : Int).toNat] ++ textB key ++ textB value = intsB t.ints ++ opsB (t.ops.xs.take (i + 1)) := by rw [en]; simp [OpW.bytes, OpW.tag]
      rw [en2] at hb8 ⊢
      (first | refine wx_mem (by simp only [pick, List.getElem?_cons_succ, List.getElem?_cons_zero, Option.getD_some, List.cons_append, List.nil_append, List.set_cons_zero, List.set_cons_succ] <;> rfl) ?_)
      refine rRec4_0 ?_
      refine wq_pickP [2, 3] [0, 1] rfl rfl ?_
      exact wq_round (i + 1, A8, c8, E8) ⟨by (try dsimp only); omega, hb8⟩ (by (try dsimp only); omega) ⟨rfl, rfl, rfl, trivial⟩ rfl
  · skip
    refine rRec4_0 ?_
    refine wl_lit rfl rfl rfl rfl rfl (by decide) rfl (fun g3 => ?_)
    refine wl_append1 1 rfl rfl rfl hb rfl rfl rfl (by intro u hu; simp [catL, cellsL] at hu; subst hu; rfl) (by omega) rfl (fun A3 c3 E3 hb3 => ?_)
    rw [lit_bys (by omega), ← bys_append] at hb3
    have ek : (intsB t.ints ++ opsB (t.ops.xs.take i)).length + 1 = (intsB t.ints ++ opsB (t.ops.xs.take i) ++ [UInt8.ofNat (3 : Int).toNat]).length := by simp only [List.length_append, List.length_cons, List.length_nil]
    rw [ek] at hb3 ⊢
    (first | refine wx_mem (by simp only [pick, List.getElem?_cons_succ, List.getElem?_cons_zero, Option.getD_some, List.cons_append, List.nil_append, List.set_cons_zero, List.set_cons_succ] <;> rfl) ?_)
    refine rRec4_0 ?_
    refine wl_callP [] [0, 1, 2] rfl rfl (fun w' hr ho => refText_spec (s := key) (by omega) w') rfl rfl rfl rfl ?_
    rintro ⟨A5, c5, E5⟩ hb5
    dsimp only at hb5 ⊢
    (first | refine wx_mem (by simp only [pick, List.getElem?_cons_succ, List.getElem?_cons_zero, Option.getD_some, List.cons_append, List.nil_append, List.set_cons_zero, List.set_cons_succ] <;> rfl) ?_)
    refine rRec4_0 ?_
    have l5 := textB_short (s := key) (by omega)
    refine wl_append 2 rfl rfl hb3 rfl rfl (fun w' hr => src_slice rfl (hb5.rd hr (i := 0) rfl) (by simp) (by decide) (one_bys _)) (by simp only [List.length_append, List.length_cons, List.length_nil] at hl4 ⊢; omega) rfl (fun A6 c6 E6 hb6 => ?_)
    have el : (intsB t.ints ++ opsB (t.ops.xs.take i) ++ [UInt8.ofNat (3 : Int).toNat]).length + (textB key).length = (intsB t.ints ++ opsB (t.ops.xs.take i) ++ [UInt8.ofNat (3 : Int).toNat] ++ textB key).length := by simp only [List.length_append]
    rw [el, ← bys_append] at hb6
    rw [el]
    (first | refine wx_mem (by simp only [pick, List.getElem?_cons_succ, List.getElem?_cons_zero, Option.getD_some, List.cons_append, List.nil_append, List.set_cons_zero, List.set_cons_succ] <;> rfl) ?_)
    refine wx_pickP [1, 2, 3] [0] rfl rfl ?_
    (first | refine wx_mem (by simp only [pick, List.getElem?_cons_succ, List.getElem?_cons_zero, Option.getD_some, List.cons_append, List.nil_append, List.set_cons_zero, List.set_cons_succ] <;> rfl) ?_)
    refine rRec4_0 ?_
    refine wl_callP [] [0, 1, 2] rfl rfl (fun w' hr ho => refText_spec (s := value) (by omega) w') rfl rfl rfl rfl ?_
    rintro ⟨A7, c7, E7⟩ hb7
    dsimp only at hb7 ⊢
    (first | refine wx_mem (by simp only [pick, List.getElem?_cons_succ, List.getElem?_cons_zero, Option.getD_some, List.cons_append, List.nil_append, List.set_cons_zero, List.set_cons_succ] <;> rfl) ?_)
    refine rRec4_0 ?_
    have l7 := textB_short (s := value) (by omega)
    refine wl_append 2 rfl rfl hb6 rfl rfl (fun w' hr => src_slice rfl (hb7.rd hr (i := 0) rfl) (by simp) (by decide) (one_bys _)) (by simp only [List.length_append, List.length_cons, List.length_nil] at hl4 ⊢; omega) rfl (fun A8 c8 E8 hb8 => ?_)
    have el2 : (intsB t.ints ++ opsB (t.ops.xs.take i) ++ [UInt8.ofNat (3 : Int).toNat] ++ textB key).length + (textB value).length = (intsB t.ints ++ opsB (t.ops.xs.take i) ++ [UInt8.ofNat (3 : Int).toNat] ++ textB key ++ textB value).length := by simp only [List.length_append]
    rw [el2, ← bys_append] at hb8
    rw [el2]
    have en2 : intsB t.ints ++ opsB (t.ops.xs.take i) ++ [UInt8.ofNat (3 : Int).toNat] ++ textB key ++ textB value = intsB t.ints ++ opsB (t.ops.xs.take (i + 1)) := by rw [en]; simp [OpW.bytes, OpW.tag]
    rw [en2] at hb8 ⊢
    (first | refine wx_mem (by simp only [pick, List.getElem?_cons_succ, List.getElem?_cons_zero, Option.getD_some, List.cons_append, List.nil_append, List.set_cons_zero, List.set_cons_succ] <;> rfl) ?_)
    refine rRec4_0 ?_
    refine wq_pickP [2, 3] [0, 1] rfl rfl ?_
    exact wq_round (i + 1, A8, c8, E8) ⟨by (try dsimp only); omega, hb8⟩ (by (try dsimp only); omega) ⟨rfl, rfl, rfl, trivial⟩ rfl
  · skip
    refine rRec4_0 ?_
    refine wl_lit rfl rfl rfl rfl rfl (by decide) rfl (fun g3 => ?_)
    refine wl_append1 1 rfl rfl rfl hb rfl rfl rfl (by intro u hu; simp [catL, cellsL] at hu; subst hu; rfl) (by omega) rfl (fun A3 c3 E3 hb3 => ?_)
    rw [lit_bys (by omega), ← bys_append] at hb3
    have ek : (intsB t.ints ++ opsB (t.ops.xs.take i)).length + 1 = (intsB t.ints ++ opsB (t.ops.xs.take i) ++ [UInt8.ofNat (4 : Int).toNat]).length := by simp only [List.length_append, List.length_cons, List.length_nil]
    rw [ek] at hb3 ⊢
    (first | refine wx_mem (by simp only [pick, List.getElem?_cons_succ, List.getElem?_cons_zero, Option.getD_some, List.cons_append, List.nil_append, List.set_cons_zero, List.set_cons_succ] <;> rfl) ?_)
    refine rRec4_0 ?_
    refine wl_callP [] [0, 1, 2] rfl rfl (fun w' hr ho => refText_spec (s := key) (by omega) w') rfl rfl rfl rfl ?_
    rintro ⟨A5, c5, E5⟩ hb5
    dsimp only at hb5 ⊢
    (first | refine wx_mem (by simp only [pick, List.getElem?_cons_succ, List.getElem?_cons_zero, Option.getD_some, List.cons_append, List.nil_append, List.set_cons_zero, List.set_cons_succ] <;> rfl) ?_)
    refine rRec4_0 ?_
    have l5 := textB_short (s := key) (by omega)
    refine wl_append 2 rfl rfl hb3 rfl rfl (fun w' hr => src_slice rfl (hb5.rd hr (i := 0) rfl) (by simp) (by decide) (one_bys _)) (by simp only [List.length_append, List.length_cons, List.length_nil] at hl4 ⊢; omega) rfl (fun A6 c6 E6 hb6 => ?_)
    have el : (intsB t.ints ++ opsB (t.ops.xs.take i) ++ [UInt8.ofNat (4 : Int).toNat]).length + (textB key).length = (intsB t.ints ++ opsB (t.ops.xs.take i) ++ [UInt8.ofNat (4 : Int).toNat] ++ textB key).length := by simp only [List.length_append]
    rw [el, ← bys_append] at hb6
    rw [el]
    (first | refine wx_mem (by simp only [pick, List.getElem?_cons_succ, List.getElem?_cons_zero, Option.getD_some, List.cons_append, List.nil_append, List.set_cons_zero, List.set_cons_succ] <;> rfl) ?_)
    refine wx_pickP [1, 2, 3] [0] rfl rfl ?_
    (first | refine wx_mem (by simp only [pick, List.getElem?_cons_succ, List.getElem?_cons_zero, Option.getD_some, List.cons_append, List.nil_append, List.set_cons_zero, List.set_cons_succ] <;> rfl) ?_)
    refine rRec4_0 ?_
    have en2 : intsB t.ints ++ opsB (t.ops.xs.take i) ++ [UInt8.ofNat (4 : Int).toNat] ++ textB key = intsB t.ints ++ opsB (t.ops.xs.take (i + 1)) := by rw [en]; simp [OpW.bytes, OpW.tag]
    rw [en2] at hb6 ⊢
    refine wq_pickP [1, 2] [0] rfl rfl ?_
    exact wq_round (i + 1, A6, c6, E6) ⟨by (try dsimp only); omega, hb6⟩ (by (try dsimp only); omega) ⟨rfl, rfl, rfl, trivial⟩ rfl
end Go.Proofs.Ytlioccfedophhaa
/- Transactions as values. -/
set_option linter.unusedVariables false
set_option linter.unusedSimpArgs false
namespace Go.Proofs.Ytlioccfedophhaa
open Go
set_option maxRecDepth 20000
set_option maxHeartbeats 2000000
attribute [local irreducible] WX WC WQ Val VCall
theorem eqL_op (o : OpW) : eqL o.cells o.cells = true := by simp [OpW.cells, eqL, eqV]
theorem Vw.elT {α : Type} {f : α → List Value} {k : Nat} {A : Option Addr} {xs : List α} {X : List Nat} {w0 : World} (h : Vw X w0 A (xs.flatMap f)) (hk : 0 < k) (hf : ∀ a, (f a).length = k) (hx : 0 < xs.length) :
    ∃ g o, A = some ⟨g, o, none⟩ ∧ ∀ {i : Nat} {a : α}, xs[i]? = some a → ∀ {w : World} {M : List Seg}, Res w0 X w M → ∀ {j : Nat} {v : Value}, (f a)[j]? = some v → ∀ {off : Nat}, off = o + i * k + j → w.cell? ⟨g, off, none⟩ = some v := by
  have key : ∀ (i : Nat) (a : α), xs[i]? = some a → ∀ j v, (f a)[j]? = some v → (xs.flatMap f)[i * k + j]? = some v := fun i a hi j v hj => by
    have hjk : j < k := by
      have := (List.getElem?_eq_some_iff.1 hj).1
      rw [hf] at this; exact this
    rw [flat_get f hk hf, Nat.mul_comm, Nat.mul_add_div hk, Nat.div_eq_of_lt hjk, Nat.add_zero, hi, Nat.mul_add_mod, Nat.mod_eq_of_lt hjk]
    exact hj
  have hne : xs.flatMap f ≠ [] := by
    intro e
    have := flat_len' hf xs
    rw [e] at this
    have h2 := Nat.mul_pos hx hk
    simp at this; omega
  obtain ⟨g, o, rfl, hg, hc⟩ := h hne
  refine ⟨g, o, rfl, fun {i a} hi {w M} hr {j v} hj {off} ho => ?_⟩
  subst ho
  rw [Nat.add_assoc]
  exact cell_keep hr hg (hc _ _ (key i a hi j v hj))
def TxnW.p (t : TxnW) : TxnP := ⟨t.session, t.seq, t.start, t.fin, t.invoke, t.ret, t.status, t.ops.xs⟩
def TxnP.w (t : TxnP) (A : Option Addr) (c : Nat) : TxnW := ⟨t.session, t.seq, t.start, t.fin, t.invoke, t.ret, t.status, { A := A, xs := t.ops, c := c }⟩
end Go.Proofs.Ytlioccfedophhaa
