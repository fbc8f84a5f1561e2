/- The seat's own logic: structs compared, arrays indexed, results that lie in a variable, whole structs of one's own. -/
import Derived.Test.YtknnkgoehkohaaaKitI
import Derived.Test.YtknnkgoehkohaaaKitJ
import Derived.Laws.StructEq
import Derived.KernelRfl
set_option linter.unusedVariables false
set_option linter.unusedSimpArgs false
namespace Go.Proofs.Ytknnkgoehkohaaa
open Go
/-! ### structs of scalars compared -/
def eqV : Value → Value → Bool
  | .int _ a, .int _ b => decide (a = b)
  | .bool a, .bool b => a == b
  | .string a, .string b => decide (a = b)
  | _, _ => false
def kindV (d : TypeDesc) : Value → Value → Bool
  | .int k _, .int k' _ => k == k' && (match d with | .int _ => true | _ => false)
  | .bool _, .bool _ => (match d with | .bool => true | _ => false)
  | .string _, .string _ => (match d with | .string => true | _ => false)
  | _, _ => false
def eqL : List Value → List Value → Bool
  | [], [] => true
  | x :: xs, y :: ys => eqV x y && eqL xs ys
  | _, _ => false
def scalF (P : Program) : Nat → List Field → List Value → List Value → Bool
  | _, [], [], [] => true
  | o, f :: fs, x :: xs, y :: ys => Nat.beq f.offset o && !(f.name == "_") && (match P.underlying f.type with | some d => kindV d x y | none => false) && scalF P (o + 1) fs xs ys
  | _, _, _, _ => false
/-- a struct of scalars, laid cell by cell -/
def flatF (P : Program) : Nat → List Field → Bool
  | _, [] => true
  | o, f :: fs => Nat.beq f.offset o && !(f.name == "_") && flatF P (o + 1) fs
def scalS (P : Program) (t : TypeId) (xs ys : List Value) : Bool :=
  match P.underlying t with
  | some (.struct fs) => scalF P 0 fs.toList xs ys && !P.stoodInHeld t && !P.eqGuardType P.depth t
  | _ => false
theorem run_part_scalar {P : Program} {w : World} {t : TypeId} {d : TypeDesc} (hu : P.underlying t = some d) (hd : plainT d = true) {cs : List Value} {o : Nat} {v : Value} (hv : cs[o]? = some v) : (part t cs.toArray o).run P w = .ok v w := by
  cases d <;> simp [plainT] at hd <;> simp [part, isAgg, run_underlying hu, hv]
theorem kindV_plain {d : TypeDesc} {x y : Value} (h : kindV d x y = true) : plainT d = true := by
  cases x <;> cases y <;> simp [kindV] at h <;> cases d <;> simp_all [plainT]
theorem run_equalIn_scal {P : Program} {w : World} {t : TypeId} {d : TypeDesc} (n : Nat) (hu : P.underlying t = some d) {x y : Value} (h : kindV d x y = true) : (Op.equalIn (n + 1) t x y).run P w = .ok (eqV x y) w := by
  cases x <;> cases y <;> simp [kindV] at h
  · rename_i p q
    cases d <;> simp at h
    simp [Op.equalIn, run_underlying hu, eqV]
  · rename_i k a k' b
    obtain ⟨h1, h2⟩ := h
    subst h1
    cases d <;> simp at h2
    simp [Op.equalIn, run_underlying hu, eqV]
    rfl
  · rename_i p q
    cases d <;> simp at h
    simp only [Op.equalIn, Sem.run_bind, run_underlying hu, Result.andThen_ok, Sem.run_pure, eqV]
    congr 1
    rw [beq_toListBytes, toList_beq]
theorem run_eqFields {P : Program} {w : World} (n : Nat) : ∀ (fs : List Field) (o : Nat) (xs ys : List Value) (X Y : List Value), scalF P o fs xs ys = true → X.drop o = xs → Y.drop o = ys → (Op.eqFields (n + 1) X.toArray Y.toArray fs).run P w = .ok (eqL xs ys) w
  | [], o, xs, ys, X, Y, h, hx, hy => by
    cases xs <;> cases ys <;> simp [scalF] at h
    simp [Op.eqFields, eqL]
  | f :: fs, o, xs, ys, X, Y, h, hx, hy => by
    cases xs <;> cases ys <;> simp only [scalF, Bool.false_eq_true] at h
    rename_i x xs y ys
    simp only [Bool.and_eq_true, Bool.not_eq_true'] at h
    obtain ⟨⟨⟨h1, h2⟩, h3⟩, h4⟩ := h
    have hn : f.name ≠ "_" := by simpa using h2
    have ho : f.offset = o := Nat.eq_of_beq_eq_true h1
    split at h3
    · rename_i d hd
      have hX : X[o]? = some x := by have := congrArg (·[0]?) hx; simpa using this
      have hY : Y[o]? = some y := by have := congrArg (·[0]?) hy; simpa using this
      have hX' : X.drop (o + 1) = xs := by rw [← List.drop_drop, hx]; rfl
      have hY' : Y.drop (o + 1) = ys := by rw [← List.drop_drop, hy]; rfl
      have ih := run_eqFields (P := P) (w := w) n fs (o + 1) xs ys X Y h4 hX' hY'
      have p1 := run_part_scalar (P := P) (w := w) hd (kindV_plain h3) hX
      have p2 := run_part_scalar (P := P) (w := w) hd (kindV_plain h3) hY
      have p3 := run_equalIn_scal (P := P) (w := w) n hd h3
      rw [← ho] at p1 p2
      simp only [Op.eqFields, ne_eq, hn, not_false_eq_true, if_true, Sem.run_bind, p1, p2, p3, Result.andThen_ok]
      cases hb : eqV x y
      · simp [eqL, hb]
      · simp [eqL, hb, ih]
    · simp at h3
theorem run_equal_scalS {P : Program} {w : World} {t : TypeId} {xs ys : List Value} (h : scalS P t xs ys = true) : (Op.equalIn 10000 t (.agg xs.toArray) (.agg ys.toArray)).run P w = .ok (eqL xs ys) w ∧ P.eqGuardType P.depth t = false := by
  unfold scalS at h
  split at h
  · rename_i fs hu
    simp only [Bool.and_eq_true, Bool.not_eq_true'] at h
    have hf : P.underlying t = some (.struct (P.fieldsOf t)) := by simp [Program.fieldsOf, hu]
    have he : P.fieldsOf t = fs := by simp [Program.fieldsOf, hu]
    refine ⟨?_, h.2⟩
    rw [run_equalIn_agg w 9999 t _ _ hf h.1.2, he]
    exact run_eqFields 9998 fs.toList 0 xs ys xs ys h.1.1 rfl rfl
  · simp at h
section
variable {P : Program} {ops : Array Oper} {Q : Exit → Act → World → Prop} {nt : Sh} {w0 : World} {X : List Nat} {fr : Fr} {M : List Seg} {rest : List Oper}
variable {dst : Option Nat} {t u ty : TypeId} {pos : String} {af : Array Edge} {gd : Option (Nat × Bool)} {x y : Operand}
theorem v_eqA {xs ys : List Value} (hx : ev fr x = some (.agg xs.toArray)) (hy : ev fr y = some (.agg ys.toArray)) (h : scalS P t xs ys = true) : Val P nt w0 X fr M ⟨dst, .binOp .eql t x y u, ty, pos, af, gd⟩ (.bool (eqL xs ys)) := fun c w hs hr => by
  obtain ⟨h1, h2⟩ := run_equal_scalS (P := P) (w := w) h
  simp [execOp, hs.ev hx, hs.ev hy, run_eqGuard_agg _ _ _ _ _ _ _ h2, run_eql_struct, h1]
theorem v_neA {xs ys : List Value} (hx : ev fr x = some (.agg xs.toArray)) (hy : ev fr y = some (.agg ys.toArray)) (h : scalS P t xs ys = true) : Val P nt w0 X fr M ⟨dst, .binOp .neq t x y u, ty, pos, af, gd⟩ (.bool (!eqL xs ys)) := fun c w hs hr => by
  obtain ⟨h1, h2⟩ := run_equal_scalS (P := P) (w := w) h
  simp [execOp, hs.ev hx, hs.ev hy, run_eqGuard_agg _ _ _ _ _ _ _ h2, run_neq_struct, h1]
/-- an array's element: a scalar, or a struct -/
def arrT (P : Program) (t : TypeId) : Option (Nat × TypeId × Nat × Bool) := match P.underlying t with
  | some (.array n e) => match P.info? e, P.underlying e with
    | some ti, some d => some (n, e, ti.size, plainT d)
    | _, _ => none
  | _ => none
theorem v_idxP {k : IntKind} {a : Int} {n sz : Nat} {e : TypeId} {cs : List Value} {v : Value} (ht : arrT P t = some (n, e, sz, true)) (hx : ev fr x = some (.agg cs.toArray)) (hy : ev fr y = some (.int k a)) (h : 0 ≤ a ∧ a < n) (hv : cs[a.toNat * sz]? = some v) :
    Val P nt w0 X fr M ⟨dst, .index t x y, ty, pos, af, gd⟩ v := fun c w hs hr => by
  unfold arrT at ht
  split at ht
  · rename_i n' e' hu
    split at ht
    · rename_i ti d hi hd
      simp only [Option.some.injEq, Prod.mk.injEq] at ht
      obtain ⟨rfl, rfl, rfl, hp⟩ := ht
      have p1 := run_part_scalar (P := P) (w := w) hd hp hv
      simp [execOp, hs.ev hx, hs.ev hy, Instr.index, asIntOf, run_underlying hu, sizeOf, typeInfo, hi, h, p1]
    · cases ht
  · cases ht
theorem v_idxA {k : IntKind} {a : Int} {n sz : Nat} {e : TypeId} {cs vs : List Value} (ht : arrT P t = some (n, e, sz, false)) (hx : ev fr x = some (.agg cs.toArray)) (hy : ev fr y = some (.int k a)) (h : 0 ≤ a ∧ a < n) (hv : (cs.drop (a.toNat * sz)).take sz = vs) (hg : (aggN P e).isSome = true) :
    Val P nt w0 X fr M ⟨dst, .index t x y, ty, pos, af, gd⟩ (.agg vs.toArray) := fun c w hs hr => by
  unfold arrT at ht
  split at ht
  · rename_i n' e' hu
    split at ht
    · rename_i ti d hi hd
      simp only [Option.some.injEq, Prod.mk.injEq] at ht
      obtain ⟨rfl, rfl, rfl, hp⟩ := ht
      obtain ⟨m, hm⟩ := Option.isSome_iff_exists.1 hg
      obtain ⟨h1, h2⟩ := aggN_spec hm
      have h3 : m = ti.size := by
        have := h2 w
        simp [sizeOf, typeInfo, hi] at this
        exact this.symm
      subst h3
      simp [execOp, hs.ev hx, hs.ev hy, Instr.index, asIntOf, run_underlying hu, sizeOf, typeInfo, hi, h, part, h1, h2]
      exact hv
    · cases ht
  · cases ht
/-- a whole struct of one's own -/
theorem v_ldA (i j : Nat) {bk : Nat} {E : Seg} {cs : List Value} {et : TypeId} {fz : Nat × Nat} (hn : aggN P t = some cs.length) (hx : ev fr x = some (.pointer (some ⟨bk, 0, none⟩))) (hi : M[i]? = some E) (hj : E[j]? = some (bk, .cells cs.toArray et fz)) :
    Val P nt w0 X fr M ⟨dst, .load t x, ty, pos, af, gd⟩ (.agg cs.toArray) :=
  v_loadA hn hx fun w hr k v hk => hr.cell hi hj (by rw [Nat.zero_add]; simpa using hk)
/-- a struct that is a part of a block of one's own -/
theorem v_ldP (i j : Nat) {bk off : Nat} {E : Seg} {cs : List Value} (vs : List Value) {et : TypeId} {fz : Nat × Nat} (hn : aggN P t = some vs.length) (hx : ev fr x = some (.pointer (some ⟨bk, off, none⟩))) (hi : M[i]? = some E) (hj : E[j]? = some (bk, .cells cs.toArray et fz)) (hs : (cs.drop off).take vs.length = vs) :
    Val P nt w0 X fr M ⟨dst, .load t x, ty, pos, af, gd⟩ (.agg vs.toArray) :=
  v_loadA hn hx fun w hr k v hk => hr.cell hi hj (by
    rw [← hs] at hk
    have hl : k < vs.length := by
      have := (List.getElem?_eq_some_iff.1 hk).1
      simp at this; omega
    rw [List.getElem?_take_of_lt hl, List.getElem?_drop] at hk
    simpa using hk)
theorem v_ldQ (i j : Nat) {bk off n : Nat} {E : Seg} {cs : List Value} {et : TypeId} {fz : Nat × Nat} (hn : aggN P t = some n) (hx : ev fr x = some (.pointer (some ⟨bk, off, none⟩))) (hi : M[i]? = some E) (hj : E[j]? = some (bk, .cells cs.toArray et fz)) (hl : Nat.beq ((cs.drop off).take n).length n = true) :
    Val P nt w0 X fr M ⟨dst, .load t x, ty, pos, af, gd⟩ (.agg ((cs.drop off).take n).toArray) := by
  have e := Nat.eq_of_beq_eq_true hl
  exact v_ldP i j _ (by rw [e]; exact hn) hx hi hj (by rw [e])
/-- a struct stored whole into a variable of one's own -/
theorem wl_stA (i : Nat) {g : Nat} {cs : List Value} {et : TypeId} {fz : Nat × Nat} {vs : List Value} (hn : aggN P t = some vs.length) (hx : ev fr x = some (.pointer (some ⟨g, 0, none⟩))) (hy : ev fr y = some (.agg vs.toArray)) (hi : M[i]? = some [(g, .cells cs.toArray et fz)])
    (hl : Nat.beq vs.length cs.length = true) (hz : okF fz cs.length) (h1 : vs.all Value.oneCell' = true) (h : WX .seq P ops Q nt w0 X rest fr (M.set i [(g, .cells vs.toArray et fz)])) :
    WX .seq P ops Q nt w0 X (⟨none, .store t x y, ty, pos, af, none⟩ :: rest) fr M := by
  have e := Nat.eq_of_beq_eq_true hl
  refine wl_storeA i hn hx hy hi (by omega) hz (fun v hv => List.all_eq_true.1 h1 v hv) ?_
  have : spliced cs 0 vs = vs := by simp [spliced, e]
  rw [this]; exact h
end
/-- the cells of one value of a list of one's own -/
theorem Buf.elem {α : Type} {f : α → List Value} {k : Nat} (hk : 0 < k) (hf : ∀ a, (f a).length = k) {e n c g : Nat} {xs : List α} {E : Seg} (hb : Buf e k (some ⟨g, 0, none⟩) n c (xs.flatMap f) E) {i : Nat} {a : α} (hi : xs[i]? = some a)
    {w0 w : World} {X : List Nat} {M : List Seg} (hr : Res w0 X w M) {m : Nat} (hm : M[m]? = some E) {j : Nat} {v : Value} (hj : (f a)[j]? = some v) : w.cell? ⟨g, 0 + i * k + j, none⟩ = some v := by
  have hjk : j < k := by
    have := (List.getElem?_eq_some_iff.1 hj).1
    rw [hf] at this; exact this
  rw [Nat.zero_add]
  refine hb.cellAt hr hm ?_
  rw [flat_get f hk hf, Nat.mul_comm, Nat.mul_add_div hk, Nat.div_eq_of_lt hjk, Nat.add_zero, hi, Nat.mul_add_mod, Nat.mod_eq_of_lt hjk]
  exact hj
theorem wx_seg {P : Program} {ops : Array Oper} {Q : Exit → Act → World → Prop} {nt : Sh} {w0 : World} {X : List Nat} {rest : List Oper} {fr : Fr} {M : List Seg} (h : WX .seq P ops Q nt w0 X rest fr ([] :: M)) : WX .seq P ops Q nt w0 X rest fr M := fun a w hs hr => h a w hs hr.addNil
/-! ### a result that lies in a variable -/
theorem wq_retA {β : Type} {P : Program} {fn : Func} {nt : Sh} [Z : Calm nt] {w0 : World} {X : List Nat} {fr : Fr} {M : List Seg} {val : β → Value} {MM : β → List Seg} {φ : β → Prop} (x : β)
    {a t g : Nat} {i j : Nat} {E : Seg} {cs : List Value} {et : TypeId} {fz : Nat × Nat} (hr : fn.results = #[.cell a t]) (hn : aggN P t = some cs.length) (h1 : look fr a = some (.pointer (some ⟨g, 0, none⟩))) (hi : M[i]? = some E) (hj : E[j]? = some (g, .cells cs.toArray et fz)) (hv : val x = .agg cs.toArray) (hφ : φ x) {I J : List Nat} (hM : okIJ M.length (I ++ J) = true) (hP : pick M I = MM x) : WQ (bodyPost P fn (Ret w0 X val MM φ)) nt w0 X .ret fr M := by
  intro ac w hs hres
  refine bodyPost_ret (v := .agg cs.toArray) ?_ (hs.calm.trans Z.eq) ⟨x, hφ, by rw [hv], ?_⟩
  · obtain ⟨h2, h3⟩ := aggN_spec hn
    have h4 := run_loadCells_list (P := P) w ⟨g, 0, none⟩ cs (fun k v hk => by rw [add_plain, Nat.zero_add]; exact hres.cell hi hj (by simpa using hk))
    simp only [Go.results, hr]
    simp [hs.has _ _ h1, asAddr, loadVar, h2, h3, h4]
  · exact hP ▸ (hres.perm (permP I J hM)).drop
end Go.Proofs.Ytknnkgoehkohaaa
