/- The seat's own logic: ways that meet again, behind a test too. -/
import Derived.Test.YtknnkgoehkohaaaKitG
set_option linter.unusedVariables false
set_option linter.unusedSimpArgs false
namespace Go.Proofs.Ytknnkgoehkohaaa
open Go
variable {P : Program} {Q : Exit → Act → World → Prop} {nt : Sh} {w0 : World} {X : List Nat} {fr : Fr} {M : List Seg}
theorem wq_sub {e : Exit} {M1 L : List Seg} (hp : M.Perm (M1 ++ L)) (h : WQ Q nt w0 X e fr M1) : WQ Q nt w0 X e fr M := fun a w hs hr => h a w hs (hr.perm hp).drop
theorem wc_sub {c : Code} {M1 L : List Seg} (hp : M.Perm (M1 ++ L)) (h : WC P Q nt w0 X c fr M1) : WC P Q nt w0 X c fr M := fun a w hs hr => h a w hs (hr.perm hp).drop
theorem wx_sub {ops : Array Oper} {rest : List Oper} {M1 L : List Seg} (hp : M.Perm (M1 ++ L)) (h : WX .seq P ops Q nt w0 X rest fr M1) : WX .seq P ops Q nt w0 X rest fr M := fun a w hs hr => h a w hs (hr.perm hp).drop
theorem wc_meet {ι : Type} (F : ι → Fr) (MM : ι → List Seg) (ok : ι → Prop) {x y : Code}
    (hx : WC P (Exit.then (CutI nt w0 X F MM ok) Q) nt w0 X x fr M) (hy : ∀ j, ok j → WC P Q nt w0 X y (F j) (MM j)) : WC P (Exit.then (y.wp P Q) Q) nt w0 X x fr M :=
  fun a w hs hr => wp_mono (hx a w hs hr) fun e a w hq => by
    cases e with
    | normal => obtain ⟨j, hj, hs1, hr1⟩ := hq; exact hy j hj a w hs1 hr1
    | _ => exact hq
end Go.Proofs.Ytknnkgoehkohaaa
