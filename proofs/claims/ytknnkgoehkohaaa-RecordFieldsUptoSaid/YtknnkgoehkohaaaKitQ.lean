/- The seat's own logic: slices held against nil, the smaller and the greater of two numbers. -/
import Derived.Test.YtknnkgoehkohaaaKitP
set_option linter.unusedVariables false
set_option linter.unusedSimpArgs false
namespace Go.Proofs.Ytknnkgoehkohaaa
open Go
section
variable {P : Program} {ops : Array Oper} {Q : Exit → Act → World → Prop} {nt : Sh} {w0 : World} {X : List Nat} {fr : Fr} {M : List Seg} {rest : List Oper}
variable {dst : Option Nat} {t u ty e : TypeId} {pos : String} {af : Array Edge} {gd : Option (Nat × Bool)} {x y : Operand}
theorem eqGuard_slice {w : World} {op : BinOp} {A B : Option Addr} {n c n' c' : Nat} : (eqGuard op t x y (.slice A n c) (.slice B n' c')).run P w = .ok () w := by unfold eqGuard; cases op <;> simp
theorem eqIn_snil {w : World} (d : Nat) {A : Option Addr} {n c : Nat} (hu : P.underlying t = some (.slice e)) : (Op.equalIn (d + 1) t (.slice A n c) (.slice none 0 0)).run P w = .ok A.isNone w := by
  cases A <;> simp [Op.equalIn, run_underlying hu]
theorem eq_snil {w : World} {A : Option Addr} {n c : Nat} (hu : P.underlying t = some (.slice e)) : (Op.equal t (.slice A n c) (.slice none 0 0)).run P w = .ok A.isNone w := eqIn_snil 9999 hu
theorem v_eqsnil {A : Option Addr} {n c : Nat} (hu : P.underlying t = some (.slice e)) (hx : ev fr x = some (.slice A n c)) (hy : ev fr y = some (.slice none 0 0)) : Val P nt w0 X fr M ⟨dst, .binOp .eql t x y u, ty, pos, af, gd⟩ (.bool A.isNone) := fun c w hs hr => by
  simp [execOp, hs.ev hx, hs.ev hy, eqGuard_slice, binOp, eq_snil hu]
theorem v_nesnil {A : Option Addr} {n c : Nat} (hu : P.underlying t = some (.slice e)) (hx : ev fr x = some (.slice A n c)) (hy : ev fr y = some (.slice none 0 0)) : Val P nt w0 X fr M ⟨dst, .binOp .neq t x y u, ty, pos, af, gd⟩ (.bool (!A.isNone)) := fun c w hs hr => by
  simp [execOp, hs.ev hx, hs.ev hy, eqGuard_slice, binOp, eq_snil hu]
theorem v_min {tys : Array TypeId} {a b : Int} {k : IntKind} (hx : ev fr x = some (.int k a)) (hy : ev fr y = some (.int k b)) : Val P nt w0 X fr M ⟨dst, .call ⟨.builtin .min, #[x, y], tys⟩, ty, pos, af, gd⟩ (.int k (if b < a then b else a)) := fun c w hs hr => by
  simp [execOp, resolve, hs.ev hx, hs.ev hy, invoke, builtin, Builtin.min_, Builtin.min2]
theorem v_max {tys : Array TypeId} {a b : Int} {k : IntKind} (hx : ev fr x = some (.int k a)) (hy : ev fr y = some (.int k b)) : Val P nt w0 X fr M ⟨dst, .call ⟨.builtin .max, #[x, y], tys⟩, ty, pos, af, gd⟩ (.int k (if a < b then b else a)) := fun c w hs hr => by
  simp [execOp, resolve, hs.ev hx, hs.ev hy, invoke, builtin, Builtin.max_, Builtin.max2]
/-- results: a struct that lies in a variable, and a value -/
theorem wq_retA2 [Z : Calm nt] {β : Type} {fn : Func} {val : β → Value} {MM : β → List Seg} {φ : β → Prop} (z : β)
    {a t g b : Nat} {i j : Nat} {E : Seg} {cs : List Value} {et : TypeId} {fz : Nat × Nat} {v2 : Value} (hr : fn.results = #[.cell a t, .tmp b]) (hn : aggN P t = some cs.length) (h1 : look fr a = some (.pointer (some ⟨g, 0, none⟩))) (hi : M[i]? = some E) (hj : E[j]? = some (g, .cells cs.toArray et fz)) (h2 : look fr b = some v2)
    (hv : val z = .tuple #[.agg cs.toArray, v2]) (hφ : φ z) {I J : List Nat} (hM : okIJ M.length (I ++ J) = true) (hP : pick M I = MM z) : WQ (bodyPost P fn (Ret w0 X val MM φ)) nt w0 X .ret fr M := by
  intro ac w hs hres
  refine bodyPost_ret (v := .tuple #[.agg cs.toArray, v2]) ?_ (hs.calm.trans Z.eq) ⟨z, hφ, by rw [hv], ?_⟩
  · obtain ⟨g2, g3⟩ := aggN_spec hn
    have g4 := run_loadCells_list (P := P) w ⟨g, 0, none⟩ cs (fun k v hk => by rw [add_plain, Nat.zero_add]; exact hres.cell hi hj (by simpa using hk))
    simp only [Go.results, hr]
    simp [hs.has _ _ h1, hs.has _ _ h2, asAddr, loadVar, g2, g3, g4]
  · exact hP ▸ (hres.perm (permP I J hM)).drop
end
end Go.Proofs.Ytknnkgoehkohaaa
