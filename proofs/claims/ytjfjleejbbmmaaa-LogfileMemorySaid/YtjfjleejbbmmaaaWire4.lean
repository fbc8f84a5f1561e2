/- Contracts of wire's cursor: making it, its place. -/
import Derived.Test.YtjfjleejbbmmaaaWire3
set_option linter.unusedVariables false
set_option linter.unusedSimpArgs false
namespace Go.Proofs.Ytjfjleejbbmmaaa
open Go
set_option maxRecDepth 20000
attribute [local irreducible] WX WC WQ Val VCall
theorem Open_spec {A : Option Addr} {c : Nat} {d : List UInt8} (hd : d.length ≤ 140737488355328) (w : World) (hv : Vw [] w A (bys d)) :
    Calls Try.prog 65 #[.slice A d.length c] w (Ret (β := Nat × Option Addr × Nat × Seg) w (ids []) (fun r => .pointer (some ⟨r.1, 0, none⟩)) (fun r => [curB r.1 r.2.1 d.length r.2.2.1 0 0, r.2.2.2]) (fun r => Buf 5 1 r.2.1 d.length r.2.2.1 (bys d) r.2.2.2)) := by
  refine go [.slice A d.length c] [] Try.func65 Try.ntmps65 rfl rfl (own_nil w) ?_
  repeat (first | (apply wx_val; (first | exact v_assign rfl); rfl) | refine wc_seq ?_ | refine wc_region ?_ | refine wx_nil ?_ | refine wq_next ?_)
  refine wl_lit rfl rfl rfl rfl rfl (by decide) rfl (fun g2 => ?_)
  repeat (first | (apply wx_val; (first | exact v_move rfl); rfl))
  refine wl_append 0 rfl rfl (Buf.full [] rfl (by decide)) rfl rfl (fun w' hr => src_slice rfl (hv.keep hr).rd (by simp) (by decide) (one_bys _)) (by omega) rfl (fun A2 c2 E2 hb2 => ?_)
  repeat (first | (apply wx_val; (first | exact v_build rfl rfl); rfl))
  refine wl_box rfl rfl (fun g => ?_)
  repeat (first | (apply wx_val; (first | exact v_assign rfl); rfl) | refine wx_nil ?_ | refine wq_next ?_ | refine wc_ret ?_)
  simp only [Nat.zero_add, List.nil_append] at hb2
  refine wq_ret1 (g, A2, c2, E2) rfl ?_ hb2 ?_
  · rfl
  · simp only [Nat.zero_add]
    rfl

section cur
variable {g c : Nat} {A : Option Addr} {d : List UInt8} {E : Seg} {p : Nat} {f : Int}
theorem Offset_spec {n : Nat} (w : World) (ho : Own w [curB g A n c p f]) :
    Calls Try.prog 67 #[.pointer (some ⟨g, 0, none⟩)] w (Ret (β := Unit) w (ids [curB g A n c p f]) (fun _ => .int .i64 p) (fun _ => [curB g A n c p f]) (fun _ => True)) := by
  refine go [.pointer (some ⟨g, 0, none⟩)] [curB g A n c p f] Try.func67 Try.ntmps67 rfl rfl ho ?_
  repeat (first | (apply wx_val; (first | exact v_move rfl | exact v_assign rfl | exact v_nil rfl | exact v_faddr rfl rfl | (apply v_load rfl rfl rfl; first | exact ld 0 0 rfl rfl rfl | exact ld 1 0 rfl rfl rfl | exact ld 2 0 rfl rfl rfl | exact ld 3 0 rfl rfl rfl | exact ld 4 0 rfl rfl rfl | exact ld 5 0 rfl rfl rfl)); rfl) | refine wc_seq ?_ | refine wc_region ?_ | refine wx_nil ?_ | refine wq_next ?_ | refine wc_ret ?_)
  exact wq_ret1 () rfl rfl trivial rfl
def cTake (d : List UInt8) (p : Nat) (f n : Int) : List UInt8 × Int × Nat × Int :=
  if f ≠ 0 then ([], f, p, f) else if n < 0 then ([], 53, p, 53) else if (d.length : Int) - p < n then ([], 51, p, 51) else ((d.drop p).take n.toNat, 0, p + n.toNat, 0)
end cur
end Go.Proofs.Ytjfjleejbbmmaaa
