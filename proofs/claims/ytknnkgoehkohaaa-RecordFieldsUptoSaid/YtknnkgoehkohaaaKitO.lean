/- The seat's own logic: more small rules. -/
import Derived.Test.YtknnkgoehkohaaaKitN
set_option linter.unusedVariables false
set_option linter.unusedSimpArgs false
namespace Go.Proofs.Ytknnkgoehkohaaa
open Go
section
variable {P : Program} {ops : Array Oper} {Q : Exit → Act → World → Prop} {nt : Sh} {w0 : World} {X : List Nat} {fr : Fr} {M : List Seg} {rest : List Oper}
variable {dst : Option Nat} {t ty : TypeId} {pos : String} {af : Array Edge} {gd : Option (Nat × Bool)} {x : Operand}
theorem v_neg {k : IntKind} {a : Int} (hx : ev fr x = some (.int k a)) : Val P nt w0 X fr M ⟨dst, .unOp .neg t x, ty, pos, af, gd⟩ (.int k (k.wrap (-a))) := fun c w hs hr => by
  simp [execOp, hs.ev hx, Op.unary, Op.intArith]
theorem v_negi {a : Int} (hx : ev fr x = some (.int .i64 a)) (h : -9223372036854775808 ≤ -a ∧ -a ≤ 9223372036854775807) : Val P nt w0 X fr M ⟨dst, .unOp .neg t x, ty, pos, af, gd⟩ (.int .i64 (-a)) := by
  have := v_neg (P := P) (nt := nt) (w0 := w0) (X := X) (M := M) (dst := dst) (t := t) (ty := ty) (pos := pos) (af := af) (gd := gd) hx
  rwa [wrap_in h] at this
/-- a cut, told in numbers -/
theorem v_sliceN {lo hi : Option Operand} {e sz n c : Nat} {A : Option Addr} {l h m : Nat} (hT : elemT P t = some (e, sz)) (hx : ev fr x = some (.slice A n c)) (hl : bnd fr lo 0 = some (l : Int)) (hh : bnd fr hi n = some (h : Int)) (hb : l ≤ h ∧ h ≤ c) (hn : n ≤ c) (hm : h - l = m) :
    Val P nt w0 X fr M ⟨dst, .slice t x lo hi none, ty, pos, af, gd⟩ (.slice (cutA A l h c sz) m (c - l)) := by
  have := v_slice (P := P) (nt := nt) (w0 := w0) (X := X) (M := M) (dst := dst) (t := t) (ty := ty) (pos := pos) (af := af) (gd := gd) hT hx hl hh (by omega) hn
  simpa only [Int.toNat_natCast, hm] using this
/-- a guard whose test is known -/
theorem wx_gset {md : Way} (c : Bool) {op : Op} {j s : Nat} {b b' : Bool} (hj : gslot ops j = some s) (hs : look fr s = some (.bool b')) (hb : b' = c) (h : WX md P ops Q nt w0 X (⟨dst, op, ty, pos, af, some (j, b)⟩ :: rest) ((s, .bool c) :: fr) M) :
    WX md P ops Q nt w0 X (⟨dst, op, ty, pos, af, some (j, b)⟩ :: rest) fr M := by
  subst hb
  exact wx_slot s _ hs h
/-- a test of a bool whose value is known -/
theorem wc_set {c : Operand} {p q : Code} {b b' : Bool} (hc : ev fr c = some (.bool b')) (hb : b' = b) (h1 : b = true → WC P Q nt w0 X p fr M) (h2 : b = false → WC P Q nt w0 X q fr M) : WC P Q nt w0 X (.cond c p q) fr M :=
  wc_cond hc (fun e => h1 (by rw [← hb, e])) (fun e => h2 (by rw [← hb, e]))
end
end Go.Proofs.Ytknnkgoehkohaaa
