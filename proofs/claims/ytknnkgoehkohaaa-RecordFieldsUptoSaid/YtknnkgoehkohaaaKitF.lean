/- Rules of the seat's own logic: calls, stores, make, copy, cuts, strings. -/
import Derived.Test.YtknnkgoehkohaaaKitE
import Derived.Laws.Slices
set_option linter.unusedVariables false
set_option linter.unusedSimpArgs false
namespace Go.Proofs.Ytknnkgoehkohaaa
open Go

/-- a function of the program's own text -/
def okFn (P : Program) (f : FuncId) : Bool := match P.funcs[f]? with
  | some fn => !(fn.name == "runtime.NumGoroutine") && !fn.body.isNone
  | none => false
theorem run_callFunc {P : Program} {f : FuncId} (h : okFn P f = true) (args : Array Value) (w : World) : (callFunc f args).run P w = .ok (.enter f args) w := by
  unfold okFn at h
  split at h
  · rename_i fn hf
    simp only [Bool.and_eq_true, Bool.not_eq_true', ] at h
    obtain ⟨h1, h2⟩ := h
    have h1' : fn.name ≠ "runtime.NumGoroutine" := by simpa using h1
    have h2' : fn.body ≠ none := by intro e; simp [e] at h2
    simp [callFunc, hf, h1', h2']
  · simp at h

section rules
variable {P : Program} {ops : Array Oper} {Q : Exit → Act → World → Prop} {nt : Sh} {w0 : World} {X : List Nat} {fr : Fr} {M : List Seg} {rest : List Oper}
variable {dst : Option Nat} {ty : TypeId} {pos : String} {af : Array Edge} {gd : Option (Nat × Bool)}
variable {t u : TypeId} {x y : Operand} {k : IntKind} {a b : Int}

theorem run_call {f : FuncId} {xs : List Operand} {tys : Array TypeId} {vs : List Value} {c : Act} {w : World} (hs : St nt c fr) (hf : okFn P f = true) (hx : evs fr xs = some vs) :
    (execOp c.eval ⟨dst, .call ⟨.value (.func f), xs.toArray, tys⟩, ty, pos, af, gd⟩).run P w = .ok (.enter f vs.toArray) w := by
  have h1 := hs.evs hx
  have h2 : Array.map c.eval xs.toArray = vs.toArray := by simp [← h1]
  simp only [execOp, resolve, h2]
  simp [Act.eval, Deferred.ofValue, invoke, run_callFunc hf]

/-- a call by its contract, told of the segments M1 and the family x -/
theorem wl_call {d : Nat} {β : Type} {f : FuncId} {xs : List Operand} {tys : Array TypeId} {vs : List Value} {M1 L : List Seg} {val : β → Value} {MM : β → List Seg} {φ : β → Prop}
    (hc : ∀ w, Res w0 X w (M1 ++ L) → Calls P f vs.toArray w (Ret w (ids M1) val MM φ)) (hf : okFn P f = true) (hx : evs fr xs = some vs) (hM : M.Perm (M1 ++ L)) (hd : Nat.blt d nt.n = true)
    (h : ∀ x, φ x → WX .seq P ops Q nt w0 X rest ((d, val x) :: fr) (MM x ++ L)) :
    WX .seq P ops Q nt w0 X (⟨some d, .call ⟨.value (.func f), xs.toArray, tys⟩, ty, pos, af, none⟩ :: rest) fr M :=
  wl_enter rfl hd fun c w hs hr => ⟨f, vs.toArray, run_call hs hf hx, (hc w (hr.perm hM)).mono fun e w' he => by
    obtain ⟨x, hφ, rfl, hr'⟩ := he
    exact ⟨val x, rfl, MM x ++ L, (hr.perm hM).call hr', h x hφ⟩⟩
/-- a call that hands back one known value and leaves memory as it was -/
theorem vc_call {f : FuncId} {xs : List Operand} {tys : Array TypeId} {vs : List Value} {v : Value}
    (hc : ∀ w, Res w0 X w M → Calls P f vs.toArray w fun e w' => e = .returned v ∧ ∃ M1 L, M.Perm (M1 ++ L) ∧ Res w (ids M1) w' M1) (hf : okFn P f = true) (hx : evs fr xs = some vs) :
    VCall P nt w0 X fr M ⟨dst, .call ⟨.value (.func f), xs.toArray, tys⟩, ty, pos, af, gd⟩ v := fun c w hs hr =>
  ⟨f, vs.toArray, run_call hs hf hx, (hc w hr).mono fun e w' he => by
    obtain ⟨rfl, M1, L, hp, hr'⟩ := he
    exact ⟨rfl, ((hr.perm hp).call hr').perm hp.symm⟩⟩

/-! stores -/
theorem run_storeVar1 {w : World} {t : TypeId} {p : Addr} {v : Value} {ti : TypeInfo} (hi : P.info? t = some ti) (hs : ti.size = 1) (h1 : v.oneCell' = true) {old : Value} (hc : w.cell? p = some old) (hf : w.frozen? p = false) : (storeVar t p v).run P w = .ok () (w.setCell p v) := by
  have hv : v.cells = #[v] := by cases v <;> simp_all [Value.oneCell', Value.cells]
  have hadd : p.add 0 = p := by simp [Addr.add]
  simp [storeVar, sizeOf, typeInfo, hi, hs, hv, storeCells, hadd, run_store P w p v _ h1, hc, hf]
def oneT (P : Program) (t : TypeId) : Bool := match P.info? t with
  | some ti => Nat.beq ti.size 1
  | none => false
theorem oneT_spec (h : oneT P t = true) : ∃ ti, P.info? t = some ti ∧ ti.size = 1 := by
  unfold oneT at h
  split at h
  · rename_i ti hi
    exact ⟨ti, hi, Nat.eq_of_beq_eq_true h⟩
  · simp at h
theorem wl_store (i : Nat) {g off : Nat} {cs : List Value} {et : TypeId} {fz : Nat × Nat} {v : Value} (ht : oneT P t = true) (hx : ev fr x = some (.pointer (some ⟨g, off, none⟩))) (hy : ev fr y = some v) (hi : M[i]? = some [(g, .cells cs.toArray et fz)])
    (hl : off < cs.length) (hz : okF fz cs.length) (h1 : v.oneCell' = true) (h : WX .seq P ops Q nt w0 X rest fr (M.set i [(g, .cells (cs.set off v).toArray et fz)])) :
    WX .seq P ops Q nt w0 X (⟨none, .store t x y, ty, pos, af, none⟩ :: rest) fr M :=
  wl_step_skip rfl rfl fun c w hs hr => by
    obtain ⟨ti, h2, h3⟩ := oneT_spec ht
    have hb := hr.blk hi (j := 0) rfl
    have hc : w.cell? ⟨g, off, none⟩ = some (cs[off]) := hr.cell hi (j := 0) rfl (by simp [hl])
    have hf : w.frozen? ⟨g, off, none⟩ = false := okF.frozen (by simpa using hz) hb (by simpa using hl)
    refine ⟨w.setCell ⟨g, off, none⟩ v, _, ?_, hr.turnAt hi (res_cell hb), h⟩
    simp [execOp, hs.ev hx, hs.ev hy, Instr.storeAt, Instr.sureAddr, run_storeVar1 h2 h3 h1 hc hf]

/-! make, copy -/
theorem wl_make {d : Nat} {kl kc : IntKind} {e sz bytes : Nat} {z : Value} {L C : Int} (hT : appT P t = some (e, sz, bytes)) (hz : zeroV P e = some z) (hx : ev fr x = some (.int kl L)) (hy : ev fr y = some (.int kc C)) (h0 : 0 ≤ L) (hlc : L ≤ C) (hb : (bytes : Int) * C ≤ 281474976710656) (hd : Nat.blt d nt.n = true)
    (h : ∀ g, WX .seq P ops Q nt w0 X rest ((d, .slice (some ⟨g, 0, none⟩) L.toNat C.toNat) :: fr) ([(g, .cells (madeCells z.cells (C.toNat * sz)) e (0, 0))] :: M)) :
    WX .seq P ops Q nt w0 X (⟨some d, .makeSlice t x y, ty, pos, af, none⟩ :: rest) fr M :=
  wl_step rfl hd fun c w hs hr => by
    obtain ⟨hu, ti, z', h1, h2, h3, h4, h5, h6, h7⟩ := appT_spec hT
    have hzz : z = z' := by
      unfold zeroV at hz
      rw [h1] at hz
      exact Option.some.inj (hz.symm.trans h2)
    subst hzz
    subst h3
    have h63 : C ≤ 9223372036854775807 := by
      have : C ≤ (bytes : Int) * C := by
        have := Int.mul_le_mul_of_nonneg_right (show (1 : Int) ≤ bytes by omega) (show 0 ≤ C by omega)
        omega
      omega
    have hrun := run_make (P := P) w t e ti z hu h1 h2 kl kc L C h0 hlc (by rw [h4]; exact hb) h63
    refine ⟨_, w.alloc (.cells (madeCells z.cells (C.toNat * ti.size)) e), _, ?_, hr.new _ rfl rfl rfl rfl, h _⟩
    simp [execOp, hs.ev hx, hs.ev hy, hrun]
theorem madeCells_one {z : Value} (hz : z.cells = #[z]) (n : Nat) : madeCells z.cells n = (List.replicate n z).toArray := by
  rw [hz]
  apply Array.ext'
  simp only [madeCells, Array.toList_map, Array.toList_range]
  apply List.ext_getElem
  · simp
  · intro i h1 h2
    simp [Nat.mod_one]
/-- copy onto a window of a block, cells of size one -/
theorem wl_copy (i : Nat) {d : Nat} {tx e n c m c2 g o : Nat} {bytes : Nat} {A : Option Addr} {cs ys : List Value} {fz : Nat × Nat} {et : TypeId} (hT : appT P t = some (e, 1, bytes)) (hx : ev fr x = some (.slice (some ⟨g, o, none⟩) n c)) (hy : ev fr y = some (.slice A m c2))
    (hi : M[i]? = some [(g, .cells cs.toArray et fz)]) (hz : okF fz cs.length) (hs : ∀ w, Res w0 X w M → Rd w A ys) (hl : ys.length = m) (hfit : o + min m n ≤ cs.length) (h1 : ∀ u, u ∈ ys → u.oneCell' = true) (hd : Nat.blt d nt.n = true)
    (h : WX .seq P ops Q nt w0 X rest ((d, .int .i64 ((min m n : Nat) : Int)) :: fr) (M.set i [(g, .cells (spliced cs o (ys.take (min m n))).toArray et fz)])) :
    WX .seq P ops Q nt w0 X (⟨some d, .call ⟨.builtin .copy, #[x, y], #[t, tx]⟩, ty, pos, af, none⟩ :: rest) fr M :=
  wl_step rfl hd fun ac w hs1 hr => by
    obtain ⟨hu, ti, z, e1, e2, e3, e4, e5, e6, e7⟩ := appT_spec hT
    have hb := hr.blk hi (j := 0) rfl
    have hlen : (ys.take (min m n)).length = min m n := by simp [hl]
    refine ⟨_, _, _, ?_, hr.turnAt hi (res_setCells hb (vs := ys.take (min m n)) (o := o) (by simpa [hl] using hfit)), h⟩
    have hst := run_storeCells_cells (P := P) g o (ys.take (min m n)) 0 w (fun j hj => by
        simp only [World.cell?, hb]
        have : o + j < cs.length := by rw [hlen] at hj; omega
        simp [this]) (fun j hj => by
        have : o + j < cs.length := by rw [hlen] at hj; omega
        exact okF.frozen (by simpa using hz) hb (by simpa using this)) (fun u hm => h1 u (List.mem_of_mem_take hm))
    have hfc : (Builtin.firstCells 1 (min m n) (.slice A m c2)).run P w = .ok (ys.take (min m n)).toArray w := by
      cases A with
      | some ad =>
        refine run_firstCells_some w 1 _ ad m c2 _ (by rw [hlen, Nat.mul_one]) fun j u hj => ?_
        have hy0 : ys ≠ [] := by intro h0; simp [h0] at hj
        obtain ⟨g2, o2, ha, hc⟩ := hs w hr hy0
        cases ha
        rw [add_plain]
        exact hc j u (by
          have hlt := (List.getElem?_eq_some_iff.1 hj).1
          rw [List.getElem?_take_of_lt (by rw [hlen] at hlt; exact hlt)] at hj
          exact hj)
      | none =>
        have hy0 : ys = [] := by
          rcases List.eq_nil_or_concat ys with h0 | h0
          · exact h0
          · obtain ⟨_, _, ha, _⟩ := hs w hr (by obtain ⟨l, b, rfl⟩ := h0; simp)
            cases ha
        subst hy0
        simp [Builtin.firstCells]
    simp only [Nat.add_zero] at hst
    simp [execOp, resolve, hs1.ev hx, hs1.ev hy, invoke, builtin, Builtin.copy_, run_underlying hu, Builtin.lenOf, sizeOf, typeInfo, e1, e3, Nat.min_def] at hfc hst ⊢
    simp [hfc, hst, goInt, Nat.min_def]

/-! cuts -/
theorem run_sliceBound {v : Value} {n : Nat} {code : BoundsCode} {k : IntKind} {l : Int} (hv : v = .int k l) (h : 0 ≤ l ∧ l ≤ n) (w : World) : (Instr.sliceBound v n code).run P w = .ok l.toNat w := by
  subst hv
  simp [Instr.sliceBound, asIntOf, h]
def bnd (fr : Fr) : Option Operand → Int → Option Int
  | none, d => some d
  | some x, _ => match ev fr x with
    | some (.int _ n) => some n
    | _ => none
/-- where a cut begins -/
def cutA (A : Option Addr) (l h c sz : Nat) : Option Addr := if c = l then A else A.map (·.add (l * sz))
theorem bnd_run {c : Act} (hs : St nt c fr) {lo : Option Operand} {d l : Int} (h : bnd fr lo d = some l) : (lo = none ∧ l = d) ∨ ∃ x k, lo = some x ∧ c.eval x = .int k l := by
  cases lo with
  | none => simp [bnd] at h; exact .inl ⟨rfl, h.symm⟩
  | some x =>
    simp only [bnd] at h
    split at h
    · rename_i k n hx
      simp at h
      subst h
      exact .inr ⟨x, k, rfl, hs.ev hx⟩
    · simp at h
theorem v_slice {lo hi : Option Operand} {e sz n c : Nat} {A : Option Addr} {l h : Int} (hT : elemT P t = some (e, sz)) (hx : ev fr x = some (.slice A n c)) (hl : bnd fr lo 0 = some l) (hh : bnd fr hi n = some h) (hb : 0 ≤ l ∧ l ≤ h ∧ h ≤ c) (hn : n ≤ c) :
    Val P nt w0 X fr M ⟨dst, .slice t x lo hi none, ty, pos, af, gd⟩ (.slice (cutA A l.toNat h.toNat c sz) (h.toNat - l.toNat) (c - l.toNat)) := fun ac w hs hr => by
  obtain ⟨hu, ti, h1, h2⟩ := elemT_spec hT
  subst h2
  have e1 : (Instr.sliceBounds true n c (lo.map ac.eval) (hi.map ac.eval) none).run P w = .ok (l.toNat, h.toNat, c) w := by
    rcases bnd_run hs hl with ⟨rfl, rfl⟩ | ⟨x1, k1, rfl, e1⟩ <;> rcases bnd_run hs hh with ⟨rfl, rfl⟩ | ⟨x2, k2, rfl, e2⟩
    · simp [Instr.sliceBounds]
    · simp [Instr.sliceBounds, run_sliceBound e2 (n := c) ⟨by omega, by omega⟩]
    · simp [Instr.sliceBounds, run_sliceBound e1 (n := n) ⟨by omega, by omega⟩]
    · simp [Instr.sliceBounds, run_sliceBound e2 (n := c) ⟨by omega, by omega⟩, run_sliceBound e1 (n := h.toNat) ⟨by omega, by omega⟩]
  simp [execOp, hs.ev hx, Instr.sliceAt, Instr.slice, run_underlying hu, e1, sizeOf, typeInfo, h1, cutA]
theorem v_scut {lo hi : Option Operand} {s : ByteArray} {l h : Int} (hu : P.underlying t = some .string) (hx : ev fr x = some (.string s)) (hl : bnd fr lo 0 = some l) (hh : bnd fr hi s.size = some h) (hb : 0 ≤ l ∧ l ≤ h ∧ h ≤ s.size) :
    Val P nt w0 X fr M ⟨dst, .slice t x lo hi none, ty, pos, af, gd⟩ (.string (s.extract l.toNat h.toNat)) := fun ac w hs hr => by
  have e1 : (Instr.sliceBounds false s.size s.size (lo.map ac.eval) (hi.map ac.eval) none).run P w = .ok (l.toNat, h.toNat, s.size) w := by
    rcases bnd_run hs hl with ⟨rfl, rfl⟩ | ⟨x1, k1, rfl, e1⟩ <;> rcases bnd_run hs hh with ⟨rfl, rfl⟩ | ⟨x2, k2, rfl, e2⟩
    · simp [Instr.sliceBounds]
    · simp [Instr.sliceBounds, run_sliceBound e2 (n := s.size) ⟨by omega, by omega⟩]
    · simp [Instr.sliceBounds, run_sliceBound e1 (n := s.size) ⟨by omega, by omega⟩]
    · simp [Instr.sliceBounds, run_sliceBound e2 (n := s.size) ⟨by omega, by omega⟩, run_sliceBound e1 (n := h.toNat) ⟨by omega, by omega⟩]
  simp [execOp, hs.ev hx, Instr.sliceAt, Instr.slice, run_underlying hu, e1]
theorem v_sidx {s : ByteArray} (hu : P.underlying t = some .string) (hx : ev fr x = some (.string s)) (hy : ev fr y = some (.int k a)) (h : 0 ≤ a) (hl : a.toNat < s.size) : Val P nt w0 X fr M ⟨dst, .index t x y, ty, pos, af, gd⟩ (.int .u8 (s[a.toNat]).toNat) := fun ac w hs hr => by
  simp [execOp, hs.ev hx, hs.ev hy, Instr.index, asIntOf, run_underlying hu, h, hl]

/-- string(b) -/
theorem v_str {e n c : Nat} {A : Option Addr} {l : List UInt8} (hu : P.underlying t = some (.slice e)) (he : P.underlying e = some (.int .u8)) (hd : P.underlying u = some .string) (hx : ev fr x = some (.slice A n c)) (hs : ∀ w, Res w0 X w M → Rd w A (bys l)) (hl : l.length = n) :
    Val P nt w0 X fr M ⟨dst, .convert t u x, ty, pos, af, gd⟩ (.string ⟨l.toArray⟩) := fun ac w hs1 hr => by
  have hrun : (convert t u (.slice A n c)).run P w = .ok (.string ⟨l.toArray⟩) w := by
    cases A with
    | none =>
      have h0 : l = [] := by
        rcases List.eq_nil_or_concat l with h0 | h0
        · exact h0
        · obtain ⟨_, _, ha, _⟩ := hs w hr (by obtain ⟨l, b, rfl⟩ := h0; simp)
          cases ha
      subst h0
      subst hl
      exact run_convert_bytes_nil w t e hu he 0 c u hd
    | some ad =>
      by_cases h0 : l = []
      · subst h0
        subst hl
        obtain ⟨b, o, sp⟩ := ad
        simp [convert, run_underlying hu, run_underlying hd, run_underlying he, Conv.bytesToString, loadCells, loadCellsFrom]
        rfl
      · obtain ⟨g, o, ha, hc⟩ := hs w hr (by simpa [bys] using h0)
        cases ha
        have := run_convert_bytes_arg w t e hu he g o n c (l.map fun b => (b.toNat : Int)) (by simpa using hl) (fun i hi => by
          have hil : i < l.length := by omega
          rw [hc i _ (bys_get hil)]
          simp [List.getD_eq_getElem?_getD, hil]) u hd
        rw [this]
        congr 2
        unfold strOfNums
        simp [Function.comp_def]
  simp [execOp, hs1.ev hx, hrun]
end rules
end Go.Proofs.Ytknnkgoehkohaaa
