/- The seat's own logic: last small rules. -/
import Derived.Test.YtknnkgoehkohaaaKitF
set_option linter.unusedVariables false
set_option linter.unusedSimpArgs false
namespace Go.Proofs.Ytknnkgoehkohaaa
open Go

def argsFr : Nat → List Value → Fr
  | _, [] => []
  | k, v :: r => (k, v) :: argsFr (k + 1) r
theorem argsFr_spec : ∀ (args : List Value) (k : Nat) (i : Nat) (v : Value) (zs : List Value), look (argsFr k args) i = some v → k ≤ i ∧ (args ++ zs)[i - k]? = some v
  | [], k, i, v, zs, h => by simp [argsFr, look] at h
  | a :: r, k, i, v, zs, h => by
    simp only [argsFr, look] at h
    by_cases hk : k = i
    · subst hk
      simp at h
      simp [h]
    · rw [beq_no hk] at h
      simp only [cond_false] at h
      have ⟨h1, h2⟩ := argsFr_spec r (k + 1) i v zs h
      refine ⟨by omega, ?_⟩
      have : i - k = (i - (k + 1)) + 1 := by omega
      rw [this]
      simpa using h2
theorem go {P : Program} {f : FuncId} {fn : Func} {c : Code} (args : List Value) {w : World} {R : Ending → World → Prop} (M : List Seg)
    (hf : P.funcs[f]? = some fn) {nt : Nat} (hnt : fn.ntmps = nt) (hb : fn.body = some c) (hn : Nat.ble args.length nt = true)
    (hM : Own w M) (h : WC P (bodyPost P fn R) ⟨nt, []⟩ w (ids M) c (argsFr 0 args) M) : Calls P f args.toArray w R := by
  subst hnt
  exact enter _ hf hb (Nat.le_of_ble_eq_true hn) (fun k v e => (argsFr_spec args 0 k v _ e).2) hM h

section rules
variable {P : Program} {ops : Array Oper} {Q : Exit → Act → World → Prop} {nt : Sh} {w0 : World} {X : List Nat} {fr : Fr} {M : List Seg} {rest : List Oper}
theorem look_put {s : Nat} {v : Value} (h : look fr s = some v) : ∀ k u, look ((s, v) :: fr) k = some u → look fr k = some u := fun k u e => by
  simp only [look] at e
  by_cases hk : s = k
  · subst hk; simp at e; rw [← e]; exact h
  · rw [beq_no hk] at e; exact e
/-- a bool in a slot, decided -/
theorem wx_bool {md : Way} (s : Nat) {b : Bool} (hs : look fr s = some (.bool b)) (h1 : b = true → WX md P ops Q nt w0 X rest ((s, .bool true) :: fr) M) (h2 : b = false → WX md P ops Q nt w0 X rest ((s, .bool false) :: fr) M) : WX md P ops Q nt w0 X rest fr M := by
  cases b with
  | true =>
    have := h1 rfl
    cases md with
    | seq => exact fun a w h hr => this a w ⟨h.size, fun k v e => h.has k v (look_put hs k v e), h.calm⟩ hr
    | quiet => exact fun a h => this a ⟨h.size, fun k v e => h.has k v (look_put hs k v e), h.calm⟩
  | false =>
    have := h2 rfl
    cases md with
    | seq => exact fun a w h hr => this a w ⟨h.size, fun k v e => h.has k v (look_put hs k v e), h.calm⟩ hr
    | quiet => exact fun a h => this a ⟨h.size, fun k v e => h.has k v (look_put hs k v e), h.calm⟩
theorem wc_condT {c : Operand} {x y : Code} (hc : ev fr c = some (.bool true)) (h : WC P Q nt w0 X x fr M) : WC P Q nt w0 X (.cond c x y) fr M := wc_cond hc (fun _ => h) (fun e => by cases e)
theorem wc_condF {c : Operand} {x y : Code} (hc : ev fr c = some (.bool false)) (h : WC P Q nt w0 X y fr M) : WC P Q nt w0 X (.cond c x y) fr M := wc_cond hc (fun e => by cases e) (fun _ => h)
/-- a test of a decidable statement -/
theorem wc_if {c : Operand} {x y : Code} {p : Prop} [Decidable p] (hc : ev fr c = some (.bool (decide p))) (ht : p → WC P Q nt w0 X x fr M) (hf : ¬ p → WC P Q nt w0 X y fr M) : WC P Q nt w0 X (.cond c x y) fr M :=
  wc_cond hc (fun e => ht (of_decide_eq_true e)) (fun e => hf (of_decide_eq_false e))
theorem wx_if {md : Way} (s : Nat) {p : Prop} [Decidable p] (hs : look fr s = some (.bool (decide p))) (h1 : p → WX md P ops Q nt w0 X rest ((s, .bool true) :: fr) M) (h2 : ¬ p → WX md P ops Q nt w0 X rest ((s, .bool false) :: fr) M) : WX md P ops Q nt w0 X rest fr M :=
  wx_bool s hs (fun e => h1 (of_decide_eq_true e)) (fun e => h2 (of_decide_eq_false e))
/-- one slot told in another way -/
theorem wx_slot {md : Way} (s : Nat) (v : Value) (hs : look fr s = some v) (h : WX md P ops Q nt w0 X rest ((s, v) :: fr) M) : WX md P ops Q nt w0 X rest fr M := by
  cases md with
  | seq => exact fun a w h1 hr => h a w ⟨h1.size, fun k v e => h1.has k v (look_put hs k v e), h1.calm⟩ hr
  | quiet => exact fun a h1 => h a ⟨h1.size, fun k v e => h1.has k v (look_put hs k v e), h1.calm⟩
end rules


/-! ### a region that draws its order and turns memory: what only reads is taken first -/
def PanicOk (Q : Exit → Act → World → Prop) : Prop := ∀ c d v a w, Q (.panic c) (Act.put a d v) w → Q (.panic c) a w
theorem panicOk_body {P : Program} {fn : Func} {R : Ending → World → Prop} : PanicOk (bodyPost P fn R) := fun c d v a w h => by
  obtain ⟨h1, h2⟩ := h
  exact ⟨by cases d <;> exact h1, h2⟩
theorem panicOk_then {N : Act → World → Prop} {Q : Exit → Act → World → Prop} (h : PanicOk Q) : PanicOk (Exit.then N Q) := fun c d v a w hq => h c d v a w hq
theorem panicOk_block {i : Nat} {Q : Exit → Act → World → Prop} (h : PanicOk Q) : PanicOk (Exit.inBlock i Q) := fun c d v a w hq => h c d v a w hq

section held
variable {P : Program} {ops : Array Oper} {Q : Exit → Act → World → Prop} {nt : Sh} {w0 : World} {X : List Nat} {fr : Fr} {M Ms : List Seg}
def WH (P : Program) (ops : Array Oper) (Q : Exit → Act → World → Prop) (nt : Sh) (w0 : World) (X : List Nat) (Ms : List Seg) (fuel : Nat) (listed : Array Bool) (fr : Fr) (M : List Seg) : Prop :=
  ∀ a w, St nt a fr → Res w0 X w M → wpAnyH P .any ops Q (fun w => Res w0 X w Ms) fuel listed a w
def HK (P : Program) (ops : Array Oper) (Q : Exit → Act → World → Prop) (w0 : World) (X : List Nat) (Ms : List Seg) (fuel : Nat) (listed : Array Bool) (a : Act) (w : World) : Prop :=
  Res w0 X w Ms ∧ wpAnyH P .any ops Q (fun w => Res w0 X w Ms) fuel listed a w
theorem wc_held (Ms : List Seg) {i : Nat} {l : List Oper} (hm : P.follows .mixedOrders = true) (h : WH P l.toArray Q nt w0 X Ms l.length (Array.replicate l.length false) fr M) : WC P Q nt w0 X (.region i l.toArray true) fr M :=
  fun a w hs hr => wp_region_held (S := fun w => Res w0 X w Ms) hm (by rw [show l.toArray.size = l.length from by simp]; exact h a _ hs (hr.drew _))
theorem wh_take (i : Nat) {d : Nat} {op : Op} {ty : TypeId} {pos : String} {af : Array Edge} {v : Value} {fuel : Nat} {listed : Array Bool} (hS : ∀ w, Res w0 X w M → Res w0 X w Ms) (hQ : PanicOk Q) (hi : ops[i]? = some ⟨some d, op, ty, pos, af, none⟩)
    (hv : Val P nt w0 X fr Ms ⟨some d, op, ty, pos, af, none⟩ v) (hs : Region.noSelect ops = true) (hf : Region.free .any ops listed i = true) (hr : (Region.ready .any ops listed).contains i = true) (hd : Nat.blt d nt.n = true)
    (h : WH P ops Q nt w0 X Ms fuel (listed.setIfInBounds i true) ((d, v) :: fr) M) : WH P ops Q nt w0 X Ms (fuel + 1) listed fr M := fun a w h1 h2 =>
  wpAnyH_take hi hs hf hr (fun c a w hq => hQ c _ _ a w hq) (.inl ⟨by simp [Region.wanted], fun w' hw' => hv a w' h1 hw'⟩) (hS w h2) (h _ w (h1.put v (by simpa using hd)) h2)
theorem wh_eff (i : Nat) {o : Oper} {fuel : Nat} {listed : Array Bool} (hi : ops[i]? = some o) (hr : Region.ready .any ops listed = [i]) (h : WX .seq P ops (Exit.then (HK P ops Q w0 X Ms fuel (listed.setIfInBounds i true)) Q) nt w0 X [o] fr M) :
    WH P ops Q nt w0 X Ms (fuel + 1) listed fr M := fun a w h1 h2 =>
  wpAnyH_all hr (by simp) (fun j hj => by
    have : j = i := by simpa using hj
    subst this
    have h3 := h a w h1 h2
    unfold wpOp
    rw [hi]
    simp only [wpList] at h3
    split at h3
    · rename_i hw
      simp only [hw, if_true]
      rcases h3 with h3 | ⟨h3, a0, w0', h4⟩
      · left
        unfold Oper.wp at h3 ⊢
        revert h3
        generalize (execOp a.eval o).run P w = r
        intro h3
        cases r with
        | ok n w' =>
          cases n <;> exact h3
        | halt x w' =>
          cases x <;> exact h3
      · exact .inr ⟨h3, a0, w0', h4⟩
    · rename_i hw
      simp only [hw]
      exact h3)
theorem wq_held {fuel : Nat} {listed : Array Bool} (hS : ∀ w, Res w0 X w M → Res w0 X w Ms) (h : WH P ops Q nt w0 X Ms fuel listed fr M) : WQ (Exit.then (HK P ops Q w0 X Ms fuel listed) Q) nt w0 X .normal fr M :=
  fun a w h1 h2 => ⟨hS w h2, h a w h1 h2⟩
theorem wh_done {fuel : Nat} {listed : Array Bool} (hr : Region.ready .any ops listed = []) (h : WQ Q nt w0 X .normal fr M) : WH P ops Q nt w0 X Ms fuel listed fr M :=
  fun a w h1 h2 => wpAnyH_done hr (h a w h1 h2) fuel
/-- segments dropped -/
theorem res_tail {w : World} {N : List Seg} (h : Res w0 X w (N ++ M)) : Res w0 X w M := (h.perm List.perm_append_comm).drop
end held

theorem rd_cut {w : World} {A : Option Addr} {xs : List Value} {l h c sz : Nat} (hr : Rd w A xs) (hl : l ≤ h) (hh : h * sz ≤ xs.length) (hc : h ≤ c) : Rd w (cutA A l h c sz) ((xs.drop (l * sz)).take ((h - l) * sz)) := fun hx => by
  have hlt : l < h := by
    rcases Nat.lt_or_ge l h with h1 | h1
    · exact h1
    · have : h - l = 0 := by omega
      rw [this] at hx
      simp at hx
  have hxs : xs ≠ [] := by intro e; rw [e] at hx; simp at hx
  obtain ⟨g, o, rfl, hcell⟩ := hr hxs
  have hcl : ¬ c = l := by omega
  refine ⟨g, o + l * sz, by simp [cutA, hcl, add_plain], fun j u hj => ?_⟩
  have h1 := (List.getElem?_eq_some_iff.1 hj).1
  have h2 : j < (h - l) * sz := by simp at h1; omega
  rw [List.getElem?_take_of_lt h2, List.getElem?_drop] at hj
  rw [Nat.add_assoc]
  exact hcell _ u hj
theorem vw_cut {X : List Nat} {w : World} {A : Option Addr} {xs : List Value} {l h c sz : Nat} (hr : Vw X w A xs) (hl : l ≤ h) (hh : h * sz ≤ xs.length) (hc : h ≤ c) : Vw X w (cutA A l h c sz) ((xs.drop (l * sz)).take ((h - l) * sz)) := fun hx => by
  obtain ⟨g, o, e1, hcell⟩ := rd_cut hr.rd hl hh hc hx
  have hxs : xs ≠ [] := by intro e; rw [e] at hx; simp at hx
  obtain ⟨g', o', e2, hg, _⟩ := hr hxs
  refine ⟨g, o, e1, ?_, hcell⟩
  subst e2
  unfold cutA at e1
  split at e1
  · injection e1 with e1; injection e1 with e1 _; rw [← e1]; exact hg
  · simp [add_plain] at e1; rw [← e1.1]; exact hg

theorem Res.addNil {w0 w : World} {X : List Nat} {M : List Seg} (h : Res w0 X w M) : Res w0 X w ([] :: M) :=
  ⟨⟨by simpa [ids] using h.own.nd, fun p hp => h.own.at_ p (by simpa using hp)⟩, fun i hi => h.sub i (by simpa [ids] using hi), h.keep, h.size, h.os, h.tape, h.output⟩
theorem wq_seg {Q : Exit → Act → World → Prop} {nt : Sh} {w0 : World} {X : List Nat} {e : Exit} {fr : Fr} {M : List Seg} (h : WQ Q nt w0 X e fr ([] :: M)) : WQ Q nt w0 X e fr M := fun a w hs hr => h a w hs hr.addNil

/-! ### elements of slices -/
theorem Vw.at {X : List Nat} {w0 : World} {A : Option Addr} {xs : List Value} (h : Vw X w0 A xs) {i : Nat} (hi : i < xs.length) :
    ∃ g o, A = some ⟨g, o, none⟩ ∧ ∀ (j : Nat) (w : World) (M : List Seg) (hj : j < xs.length), Res w0 X w M → w.cell? ⟨g, o + j, none⟩ = some xs[j] := by
  obtain ⟨g, o, e, _, hc⟩ := h (by intro e; rw [e] at hi; simp at hi)
  refine ⟨g, o, e, fun j w M hj hr => ?_⟩
  obtain ⟨g', o', e', _, hc'⟩ := (h.keep hr) (by intro e; rw [e] at hi; simp at hi)
  rw [e] at e'
  cases e'
  exact hc' j _ (List.getElem?_eq_getElem hj)
theorem Vw.atB {X : List Nat} {w0 : World} {A : Option Addr} {l : List UInt8} (h : Vw X w0 A (bys l)) {i : Nat} (hi : i < l.length) :
    ∃ g o, A = some ⟨g, o, none⟩ ∧ ∀ (j : Nat) (w : World) (M : List Seg), j < l.length → Res w0 X w M → w.cell? ⟨g, o + j, none⟩ = some (.int .u8 (l.getD j 0).toNat) := by
  obtain ⟨g, o, e, hc⟩ := h.at (i := i) (by simpa using hi)
  refine ⟨g, o, e, fun j w M hj hr => ?_⟩
  rw [hc j w M (by simpa using hj) hr]
  simp [bys, List.getD_eq_getElem?_getD, hj]
theorem Buf.ptr {e sz n c : Nat} {A : Option Addr} {xs : List Value} {E : Seg} (h : Buf e sz A n c xs E) (hn : 0 < n) : ∃ g, A = some ⟨g, 0, none⟩ := by
  rcases h.2 with ⟨_, rfl, _, _⟩ | ⟨g, cur, fz, rfl, _⟩
  · omega
  · exact ⟨g, rfl⟩
theorem Buf.cellAt {e sz n c g : Nat} {xs : List Value} {E : Seg} (h : Buf e sz (some ⟨g, 0, none⟩) n c xs E) {w0 w : World} {X : List Nat} {M : List Seg} {k j : Nat} {v : Value} (hr : Res w0 X w M) (hk : M[k]? = some E) (hj : xs[j]? = some v) : w.cell? ⟨g, j, none⟩ = some v := by
  obtain ⟨g', hg, _, hc⟩ := h.cells (fun p hp => hr.own.at_ p (List.mem_flatten.2 ⟨_, List.mem_of_getElem? hk, hp⟩)) (by intro e; simp [e] at hj)
  cases hg
  exact hc j v hj
section bset
variable {P : Program} {ops : Array Oper} {Q : Exit → Act → World → Prop} {nt : Sh} {w0 : World} {X : List Nat} {fr : Fr} {M : List Seg} {rest : List Oper}
/-- a store into an element (a cell) of a slice of one's own -/
theorem wl_bset (k j : Nat) {ty : TypeId} {pos : String} {af : Array Edge} {t : TypeId} {x y : Operand} {e sz n c g off : Nat} {A : Option Addr} {xs : List Value} {E : Seg} {v : Value} (ht : oneT P t = true) (hk : M[k]? = some E) (hb : Buf e sz A n c xs E) (hx : ev fr x = some (.pointer (some ⟨g, off, none⟩))) (hA : A = some ⟨g, 0, none⟩) (hoff : off = j) (hj : j < n * sz)
    (hy : ev fr y = some v) (h1 : v.oneCell' = true) (h : ∀ E', Buf e sz A n c (xs.set j v) E' → WX .seq P ops Q nt w0 X rest fr (M.set k E')) :
    WX .seq P ops Q nt w0 X (⟨none, .store t x y, ty, pos, af, none⟩ :: rest) fr M := by
  subst hoff
  rcases hb.2 with ⟨e1, _, _, _⟩ | ⟨g', cur, fz, e1, rfl, h2, h3, h4, h5, h6⟩
  · rw [hA] at e1; cases e1
  · rw [hA] at e1
    cases e1
    have hle : n * sz ≤ c * sz := Nat.mul_le_mul_right _ h2
    refine wl_store k (cs := cur.toList) ht hx hy (by simpa using hk) (by simp; omega) (by simpa using h6) h1 (h _ ⟨by simp [hb.1], .inr ⟨g, _, fz, hA, rfl, h2, h3, by simp [h4], ?_, by simpa using h6⟩⟩)
    simp only [List.take_set, h5]
end bset

section more
variable {P : Program} {ops : Array Oper} {Q : Exit → Act → World → Prop} {nt : Sh} {w0 : World} {X : List Nat} {fr : Fr} {M : List Seg} {rest : List Oper}
/-- a guard that says yes -/
theorem wx_ungd {md : Way} {dst : Option Nat} {op : Op} {ty : TypeId} {pos : String} {af : Array Edge} {j s : Nat} {b : Bool} (hj : gslot ops j = some s) (hb : look fr s = some (.bool b))
    (h : WX md P ops Q nt w0 X (⟨dst, op, ty, pos, af, none⟩ :: rest) fr M) : WX md P ops Q nt w0 X (⟨dst, op, ty, pos, af, some (j, b)⟩ :: rest) fr M := by
  cases md with
  | seq =>
    intro a w hs hr
    have h1 := h a w hs hr
    unfold wpList at h1 ⊢
    rw [if_pos (wanted_yes hs rfl hj hb)]
    rw [if_pos (by simp [Region.wanted])] at h1
    exact h1
  | quiet =>
    intro a hs
    have h1 := h a hs
    unfold wpQuiet at h1 ⊢
    rw [if_pos (wanted_yes hs rfl hj hb)]
    rw [if_pos (by simp [Region.wanted])] at h1
    exact h1
theorem wx_yes {md : Way} (s : Nat) {b : Bool} (hs : look fr s = some (.bool b)) (hb : b = true) (h : WX md P ops Q nt w0 X rest ((s, .bool true) :: fr) M) : WX md P ops Q nt w0 X rest fr M :=
  wx_bool s hs (fun _ => h) (fun e => by rw [hb] at e; cases e)
theorem wx_not {md : Way} (s : Nat) {b : Bool} (hs : look fr s = some (.bool b)) (hb : b = false) (h : WX md P ops Q nt w0 X rest ((s, .bool false) :: fr) M) : WX md P ops Q nt w0 X rest fr M :=
  wx_bool s hs (fun e => by rw [hb] at e; cases e) (fun _ => h)
theorem wc_yes {c : Operand} {x y : Code} {b : Bool} (hc : ev fr c = some (.bool b)) (hb : b = true) (h : WC P Q nt w0 X x fr M) : WC P Q nt w0 X (.cond c x y) fr M := wc_cond hc (fun _ => h) (fun e => by rw [hb] at e; cases e)
theorem wc_not {c : Operand} {x y : Code} {b : Bool} (hc : ev fr c = some (.bool b)) (hb : b = false) (h : WC P Q nt w0 X y fr M) : WC P Q nt w0 X (.cond c x y) fr M := wc_cond hc (fun e => by rw [hb] at e; cases e) (fun _ => h)
theorem Res.toNil {w : World} (h : Res w0 X w M) : Res w0 X w [] := (show Res w0 X w ([] ++ M) from h).drop
theorem wq_clear {e : Exit} (h : WQ Q nt w0 X e fr []) : WQ Q nt w0 X e fr M := fun a w hs hr => h a w hs hr.toNil
theorem wx_clear (h : WX .seq P ops Q nt w0 X rest fr []) : WX .seq P ops Q nt w0 X rest fr M := fun a w hs hr => h a w hs hr.toNil
theorem wc_clear {c : Code} (h : WC P Q nt w0 X c fr []) : WC P Q nt w0 X c fr M := fun a w hs hr => h a w hs hr.toNil
end more
section nils
variable {P : Program} {nt : Sh} {w0 : World} {X : List Nat} {fr : Fr} {M : List Seg}
variable {dst : Option Nat} {ty : TypeId} {pos : String} {af : Array Edge} {gd : Option (Nat × Bool)} {t u e : TypeId} {x y : Operand}
theorem eqGuard_ptr {w : World} {op : BinOp} {p q : Option Addr} : (eqGuard op t x y (.pointer p) (.pointer q)).run P w = .ok () w := by unfold eqGuard; cases op <;> simp
theorem eqIn_nil {w : World} (d : Nat) {p : Option Addr} (hu : P.underlying t = some (.pointer e)) : (Op.equalIn (d + 1) t (.pointer p) (.pointer none)).run P w = .ok p.isNone w := by
  cases p <;> simp [Op.equalIn, run_underlying hu]
theorem eq_nil {w : World} {p : Option Addr} (hu : P.underlying t = some (.pointer e)) : (Op.equal t (.pointer p) (.pointer none)).run P w = .ok p.isNone w := eqIn_nil 9999 hu
theorem v_eqnil {p : Addr} (hu : P.underlying t = some (.pointer e)) (hx : ev fr x = some (.pointer (some p))) (hy : ev fr y = some (.pointer none)) : Val P nt w0 X fr M ⟨dst, .binOp .eql t x y u, ty, pos, af, gd⟩ (.bool false) := fun c w hs hr => by
  simp [execOp, hs.ev hx, hs.ev hy, eqGuard_ptr, binOp, eq_nil hu]
theorem v_nenil {p : Addr} (hu : P.underlying t = some (.pointer e)) (hx : ev fr x = some (.pointer (some p))) (hy : ev fr y = some (.pointer none)) : Val P nt w0 X fr M ⟨dst, .binOp .neq t x y u, ty, pos, af, gd⟩ (.bool true) := fun c w hs hr => by
  simp [execOp, hs.ev hx, hs.ev hy, eqGuard_ptr, binOp, eq_nil hu]
theorem v_eqnn (hu : P.underlying t = some (.pointer e)) (hx : ev fr x = some (.pointer none)) (hy : ev fr y = some (.pointer none)) : Val P nt w0 X fr M ⟨dst, .binOp .eql t x y u, ty, pos, af, gd⟩ (.bool true) := fun c w hs hr => by
  simp [execOp, hs.ev hx, hs.ev hy, eqGuard_ptr, binOp, eq_nil hu]
theorem v_nenn (hu : P.underlying t = some (.pointer e)) (hx : ev fr x = some (.pointer none)) (hy : ev fr y = some (.pointer none)) : Val P nt w0 X fr M ⟨dst, .binOp .neq t x y u, ty, pos, af, gd⟩ (.bool false) := fun c w hs hr => by
  simp [execOp, hs.ev hx, hs.ev hy, eqGuard_ptr, binOp, eq_nil hu]
theorem eqGuard_str {w : World} {op : BinOp} {p q : ByteArray} : (eqGuard op t x y (.string p) (.string q)).run P w = .ok () w := by unfold eqGuard; cases op <;> simp
theorem toList_beq (p q : ByteArray) : (p.toList == q.toList) = decide (p = q) := by
  have h : p.toList = q.toList ↔ p = q := by
    constructor
    · intro h
      rw [ByteArray.toList_eq, ByteArray.toList_eq] at h
      cases p; cases q; simp at h ⊢; exact h
    · rintro rfl; rfl
  rw [Bool.eq_iff_iff]
  simp [h]
theorem v_streq {p q : ByteArray} (hx : ev fr x = some (.string p)) (hy : ev fr y = some (.string q)) : Val P nt w0 X fr M ⟨dst, .binOp .eql t x y u, ty, pos, af, gd⟩ (.bool (decide (p = q))) := fun c w hs hr => by
  simp [execOp, hs.ev hx, hs.ev hy, eqGuard_str, binOp, Op.stringOp, toList_beq]
theorem v_strne {p q : ByteArray} (hx : ev fr x = some (.string p)) (hy : ev fr y = some (.string q)) : Val P nt w0 X fr M ⟨dst, .binOp .neq t x y u, ty, pos, af, gd⟩ (.bool (decide (p ≠ q))) := fun c w hs hr => by
  simp [execOp, hs.ev hx, hs.ev hy, eqGuard_str, binOp, Op.stringOp, toList_beq]
end nils
end Go.Proofs.Ytknnkgoehkohaaa
