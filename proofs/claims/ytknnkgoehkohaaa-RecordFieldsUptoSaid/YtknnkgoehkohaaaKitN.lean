/- The seat's own logic: loops walked round by round. -/
import Derived.Test.YtknnkgoehkohaaaKitM
set_option linter.unusedVariables false
set_option linter.unusedSimpArgs false
namespace Go.Proofs.Ytknnkgoehkohaaa
open Go
/-- what holds at a round's head of a loop -/
def LoopWp (P : Program) (Q : Exit → Act → World → Prop) (c : Code) (a : Act) (w : World) : Prop :=
  ∀ (b : Frame) (k : List Item) (cs : List Frame), ∃ e a' w', Q e a' w' ∧ Arrives P (lone (b.at a (.code c :: .inLoop c :: k)) cs w) b k cs e a' w'
section
variable {P : Program} {Q : Exit → Act → World → Prop} {nt : Sh} {w0 : World} {X : List Nat} {fr : Fr} {M : List Seg}
theorem loopWp_of {c : Code} {a : Act} {w : World} (h : c.wp P (Exit.then (LoopWp P Q c) Q) a w) : LoopWp P Q c a w := by
  intro b k cs
  obtain ⟨e, a₁, w₁, hq, harr⟩ := h b (.inLoop c :: k) cs
  cases e with
  | normal =>
    obtain ⟨e₂, a₂, w₂, hq₂, harr₂⟩ := hq b k cs
    exact ⟨e₂, a₂, w₂, hq₂, .of_steps (Steps.trans harr (.one step_inLoop)) harr₂⟩
  | exit id => exact ⟨_, a₁, w₁, hq, .pass (x := .inLoop c) rfl (fun _ _ => .inl (by simp)) harr⟩
  | goto l => exact ⟨_, a₁, w₁, hq, .pass (x := .inLoop c) rfl (fun _ _ => .inl (by simp)) harr⟩
  | ret => exact ⟨_, a₁, w₁, hq, .pass (x := .inLoop c) rfl (fun _ _ => .inl (by simp)) harr⟩
  | panic ch => exact ⟨_, a₁, w₁, hq, .pass (x := .inLoop c) rfl (fun _ _ => .inl (by simp)) harr⟩
  | outgrown => exact ⟨_, a₁, w₁, hq, .pass (x := .inLoop c) rfl (fun _ _ => .inl (by simp)) harr⟩
/-- a loop's first round -/
theorem wc_unroll {c : Code} (h : WC P (Exit.then (LoopWp P Q c) Q) nt w0 X c fr M) : WC P Q nt w0 X (.loop c) fr M := by
  intro a w hs hr b k cs
  obtain ⟨e, a', w', hq, harr⟩ := loopWp_of (h a w hs hr) b k cs
  exact ⟨e, a', w', hq, .of_steps (.one step_loop) harr⟩
/-- .. and a further one -/
theorem wq_again {c : Code} (h : WC P (Exit.then (LoopWp P Q c) Q) nt w0 X c fr M) : WQ (Exit.then (LoopWp P Q c) Q) nt w0 X .normal fr M :=
  fun a w hs hr => loopWp_of (h a w hs hr)
/-- the segments at the places I alone -/
theorem res_pickI {w : World} {Ms : List Seg} (I : List Nat) (hM : okIJ M.length (I ++ (List.range M.length).filter (fun i => !I.contains i)) = true) (h1 : pick M I = Ms) (h : Res w0 X w M) : Res w0 X w Ms :=
  h1 ▸ (h.perm (permP I _ hM)).drop
theorem wc_heldI (I : List Nat) {Ms : List Seg} (h1 : pick M I = Ms) {i : Nat} {l : List Oper} (hm : P.follows .mixedOrders = true) (h : WH P l.toArray Q nt w0 X Ms l.length (Array.replicate l.length false) fr M) : WC P Q nt w0 X (.region i l.toArray true) fr M :=
  wc_held Ms hm h
/-- bools compared -/
theorem eqIn_bool {w : World} (d : Nat) {t : TypeId} {p q : Bool} (hu : P.underlying t = some .bool) : (Op.equalIn (d + 1) t (.bool p) (.bool q)).run P w = .ok (p == q) w := by
  simp [Op.equalIn, run_underlying hu]
theorem eq_bool {w : World} {t : TypeId} {p q : Bool} (hu : P.underlying t = some .bool) : (Op.equal t (.bool p) (.bool q)).run P w = .ok (p == q) w := eqIn_bool 9999 hu
theorem eqGuard_bool {w : World} {op : BinOp} {t : TypeId} {x y : Operand} {p q : Bool} : (eqGuard op t x y (.bool p) (.bool q)).run P w = .ok () w := by unfold eqGuard; cases op <;> simp
theorem v_beq {dst : Option Nat} {t ty u : TypeId} {pos : String} {af : Array Edge} {gd : Option (Nat × Bool)} {x y : Operand} {p q : Bool} (hu : P.underlying t = some .bool) (hx : ev fr x = some (.bool p)) (hy : ev fr y = some (.bool q)) :
    Val P nt w0 X fr M ⟨dst, .binOp .eql t x y u, ty, pos, af, gd⟩ (.bool (p == q)) := fun c w hs hr => by
  simp [execOp, hs.ev hx, hs.ev hy, eqGuard_bool, binOp, eq_bool hu]
theorem v_bne {dst : Option Nat} {t ty u : TypeId} {pos : String} {af : Array Edge} {gd : Option (Nat × Bool)} {x y : Operand} {p q : Bool} (hu : P.underlying t = some .bool) (hx : ev fr x = some (.bool p)) (hy : ev fr y = some (.bool q)) :
    Val P nt w0 X fr M ⟨dst, .binOp .neq t x y u, ty, pos, af, gd⟩ (.bool (!(p == q))) := fun c w hs hr => by
  simp [execOp, hs.ev hx, hs.ev hy, eqGuard_bool, binOp, eq_bool hu]
/-- an element of an array in memory -/
theorem v_paddr {dst : Option Nat} {ty : TypeId} {pos : String} {af : Array Edge} {gd : Option (Nat × Bool)} {t : TypeId} {x y : Operand} {k : IntKind} {a : Int} {n sz bk off : Nat} {e : TypeId} {pl : Bool} (ht : arrT P t = some (n, e, sz, pl)) (hx : ev fr x = some (.pointer (some ⟨bk, off, none⟩))) (hy : ev fr y = some (.int k a)) (h : 0 ≤ a ∧ a < n) :
    Val P nt w0 X fr M ⟨dst, .indexAddr t x y, ty, pos, af, gd⟩ (.pointer (some ⟨bk, off + a.toNat * sz, none⟩)) := fun c w hs hr => by
  unfold arrT at ht
  split at ht
  · rename_i n' e' hu
    split at ht
    · rename_i ti d hi hd
      simp only [Option.some.injEq, Prod.mk.injEq] at ht
      obtain ⟨rfl, rfl, rfl, hp⟩ := ht
      simp [execOp, hs.ev hx, hs.ev hy, Instr.indexAt, Instr.sureAddr, asIntOf, run_underlying hu, h, sizeOf, typeInfo, hi, add_plain]
    · cases ht
  · cases ht
end
end Go.Proofs.Ytknnkgoehkohaaa
