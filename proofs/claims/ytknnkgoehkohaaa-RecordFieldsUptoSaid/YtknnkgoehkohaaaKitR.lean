/- The seat's own logic: regions that draw their order, where two or three operations that turn memory may come first. -/
import Derived.Test.YtknnkgoehkohaaaKitQ
set_option linter.unusedVariables false
set_option linter.unusedSimpArgs false
namespace Go.Proofs.Ytknnkgoehkohaaa
open Go
section
variable {P : Program} {ops : Array Oper} {Q : Exit → Act → World → Prop} {nt : Sh} {w0 : World} {X : List Nat} {fr : Fr} {M Ms : List Seg}
theorem wh_effL {l : List Nat} {fuel : Nat} {listed : Array Bool} (hl : l ≠ []) (hr : Region.ready .any ops listed = l) (h : ∀ i ∈ l, ∃ o, ops[i]? = some o ∧ WX .seq P ops (Exit.then (HK P ops Q w0 X Ms fuel (listed.setIfInBounds i true)) Q) nt w0 X [o] fr M) :
    WH P ops Q nt w0 X Ms (fuel + 1) listed fr M := fun a w h1 h2 =>
  wpAnyH_all hr hl (fun j hj => by
    obtain ⟨o, hi, hx⟩ := h j hj
    have h3 := hx a w h1 h2
    unfold wpOp
    rw [hi]
    simp only [wpList] at h3
    split at h3
    · rename_i hw
      simp only [hw, if_true]
      rcases h3 with h3 | ⟨h3, a0, w0', h4⟩
      · left
        unfold Oper.wp at h3 ⊢
        revert h3
        generalize (execOp a.eval o).run P w = r
        intro h3
        cases r with
        | ok n w' =>
          cases n <;> exact h3
        | halt x w' =>
          cases x <;> exact h3
      · exact .inr ⟨h3, a0, w0', h4⟩
    · rename_i hw
      simp only [hw]
      exact h3)
theorem wc_heldQ (Ms : List Seg) {i : Nat} {l : List Oper} (hm : P.follows .mixedOrders = true) (hq : PanicOk Q) (h : PanicOk Q → WH P l.toArray Q nt w0 X Ms l.length (Array.replicate l.length false) fr M) : WC P Q nt w0 X (.region i l.toArray true) fr M :=
  wc_held Ms hm (h hq)
theorem wc_heldJ (I : List Nat) {Ms : List Seg} (h1 : pick M I = Ms) {i : Nat} {l : List Oper} (hm : P.follows .mixedOrders = true) (hq : PanicOk Q) (h : PanicOk Q → WH P l.toArray Q nt w0 X Ms l.length (Array.replicate l.length false) fr M) : WC P Q nt w0 X (.region i l.toArray true) fr M :=
  wc_held Ms hm (h hq)
theorem wh_eff2 (i j : Nat) {o o' : Oper} {fuel : Nat} {listed : Array Bool} (hi : ops[i]? = some o) (hj : ops[j]? = some o') (hr : Region.ready .any ops listed = [i, j])
    (h1 : WX .seq P ops (Exit.then (HK P ops Q w0 X Ms fuel (listed.setIfInBounds i true)) Q) nt w0 X [o] fr M) (h2 : WX .seq P ops (Exit.then (HK P ops Q w0 X Ms fuel (listed.setIfInBounds j true)) Q) nt w0 X [o'] fr M) :
    WH P ops Q nt w0 X Ms (fuel + 1) listed fr M :=
  wh_effL (by simp) hr (fun k hk => by
    rcases List.mem_cons.1 hk with rfl | hk
    · exact ⟨o, hi, h1⟩
    · obtain rfl := List.mem_singleton.1 hk
      exact ⟨o', hj, h2⟩)
theorem wh_eff3 (i j k : Nat) {o o' o'' : Oper} {fuel : Nat} {listed : Array Bool} (hi : ops[i]? = some o) (hj : ops[j]? = some o') (hk : ops[k]? = some o'') (hr : Region.ready .any ops listed = [i, j, k])
    (h1 : WX .seq P ops (Exit.then (HK P ops Q w0 X Ms fuel (listed.setIfInBounds i true)) Q) nt w0 X [o] fr M) (h2 : WX .seq P ops (Exit.then (HK P ops Q w0 X Ms fuel (listed.setIfInBounds j true)) Q) nt w0 X [o'] fr M)
    (h3 : WX .seq P ops (Exit.then (HK P ops Q w0 X Ms fuel (listed.setIfInBounds k true)) Q) nt w0 X [o''] fr M) :
    WH P ops Q nt w0 X Ms (fuel + 1) listed fr M :=
  wh_effL (by simp) hr (fun n hn => by
    rcases List.mem_cons.1 hn with rfl | hn
    · exact ⟨o, hi, h1⟩
    · rcases List.mem_cons.1 hn with rfl | hn
      · exact ⟨o', hj, h2⟩
      · obtain rfl := List.mem_singleton.1 hn
        exact ⟨o'', hk, h3⟩)
theorem v_agetV {α : Type} {κ : α → Value} [DecidableEq α] {dst : Option Nat} {t ty : TypeId} {pos : String} {af : Array Edge} {gd : Option (Nat × Bool)} {x y : Operand} (i j : Nat) {kt e : TypeId} {g clk : Nat} {E : Seg} {L : TE α} {a : α} {z v : Value} (hv : (aget a L).getD z = v) (ht : mapT P t = some (kt, e)) (hz : zeroV P e = some z) (hx : ev fr x = some (.map (some g))) (hy : ev fr y = some (κ a)) (hi : M[i]? = some E) (hj : E[j]? = some (g, .map (ents (tents κ L)) clk)) (hκ : ∀ a b, keyEq (κ a) (κ b) = decide (a = b)) (hg : KeyGood P kt (κ a)) (hk : ∀ b, KeyOk P kt (κ a) (κ b)) :
    Val P nt w0 X fr M ⟨dst, .lookup t x y false, ty, pos, af, gd⟩ v := hv ▸ v_aget i j ht hz hx hy hi hj hκ hg hk
/-- numbers that are naturals -/
theorem v_mulN {dst : Option Nat} {t u ty : TypeId} {pos : String} {af : Array Edge} {gd : Option (Nat × Bool)} {x y : Operand} (a b : Nat) (hx : ev fr x = some (.int .i64 (a : Int))) (hy : ev fr y = some (.int .i64 (b : Int))) (h : a * b ≤ 9223372036854775807) :
    Val P nt w0 X fr M ⟨dst, .binOp .mul t x y u, ty, pos, af, gd⟩ (.int .i64 ((a * b : Nat) : Int)) := by
  rw [Int.natCast_mul]
  exact v_muli hx hy (by rw [← Int.natCast_mul]; omega)
theorem v_addN {dst : Option Nat} {t u ty : TypeId} {pos : String} {af : Array Edge} {gd : Option (Nat × Bool)} {x y : Operand} (a b : Nat) (hx : ev fr x = some (.int .i64 (a : Int))) (hy : ev fr y = some (.int .i64 (b : Int))) (h : a + b ≤ 9223372036854775807) :
    Val P nt w0 X fr M ⟨dst, .binOp .add t x y u, ty, pos, af, gd⟩ (.int .i64 ((a + b : Nat) : Int)) := v_addi hx hy (by omega)
theorem v_minN {dst : Option Nat} {ty : TypeId} {pos : String} {af : Array Edge} {gd : Option (Nat × Bool)} {x y : Operand} {tys : Array TypeId} (a b : Nat) (hx : ev fr x = some (.int .i64 (a : Int))) (hy : ev fr y = some (.int .i64 (b : Int))) :
    Val P nt w0 X fr M ⟨dst, .call ⟨.builtin .min, #[x, y], tys⟩, ty, pos, af, gd⟩ (.int .i64 ((min a b : Nat) : Int)) := by
  have h := v_min (P := P) (nt := nt) (w0 := w0) (X := X) (M := M) (dst := dst) (ty := ty) (pos := pos) (af := af) (gd := gd) (tys := tys) hx hy
  have e : (if (b : Int) < a then (b : Int) else a) = ((min a b : Nat) : Int) := by split <;> omega
  rwa [e] at h
theorem vw_bytes {w : World} {A : Option Addr} {d : List UInt8} {l h c : Nat} (hv : Vw X w A (bys d)) (h1 : l ≤ h) (h2 : h ≤ d.length) (hc : h ≤ c) : Vw X w (cutA A l h c 1) (bys ((d.drop l).take (h - l))) := by
  have := vw_cut (sz := 1) (c := c) hv h1 (by simpa using h2) hc
  simpa [bys, List.map_drop, List.map_take] using this
/-- a scalar field of a struct that is a value -/
def fldT (P : Program) (s : TypeId) (i : Nat) : Option Nat := match P.underlying s with
  | some (.struct fs) => match fs[i]? with
    | some f => match P.underlying f.type with
      | some d => if plainT d then some f.offset else none
      | none => none
    | none => none
  | _ => none
theorem v_field {dst : Option Nat} {ty : TypeId} {pos : String} {af : Array Edge} {gd : Option (Nat × Bool)} {x : Operand} {s : TypeId} {i o : Nat} {cs : List Value} {v : Value} (hf : fldT P s i = some o) (hx : ev fr x = some (.agg cs.toArray)) (hv : cs[o]? = some v) :
    Val P nt w0 X fr M ⟨dst, .field s x i, ty, pos, af, gd⟩ v := fun c w hs hr => by
  unfold fldT at hf
  split at hf
  · rename_i fs hu
    split at hf
    · rename_i f hfi
      split at hf
      · rename_i d hd
        split at hf
        · rename_i hp
          simp only [Option.some.injEq] at hf
          subst hf
          have p1 := run_part_scalar (P := P) (w := w) hd hp hv
          simp [execOp, hs.ev hx, Instr.field, run_underlying hu, hfi, asAgg, p1]
        · cases hf
      · cases hf
    · cases hf
  · cases hf
theorem aget_entry {α : Type} [DecidableEq α] {a : α} {z : Value} {L : TE α} {clk : Nat} : (aget a (aentry a z L clk)).getD z = (aget a L).getD z := by
  unfold aentry
  split
  · rfl
  · rename_i h
    have hn : L.find? (fun e => decide (a = e.1)) = none := by
      unfold aget at h
      exact Option.map_eq_none_iff.1 (Option.not_isSome_iff_eq_none.1 h)
    unfold aget
    rw [List.find?_append, hn]
    simp
end
end Go.Proofs.Ytknnkgoehkohaaa
