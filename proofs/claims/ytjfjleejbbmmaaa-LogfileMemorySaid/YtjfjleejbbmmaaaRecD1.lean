/- A transaction read: the plain reading, and the program's reader, which panics where it can't go on. -/
import Derived.Test.YtjfjleejbbmmaaaRec3
import Derived.Test.YtjfjleejbbmmaaaWire4
import Derived.Test.YtjfjleejbbmmaaaKit2
set_option linter.unusedVariables false
set_option linter.unusedSimpArgs false
namespace Go.Proofs.Ytjfjleejbbmmaaa
open Go
set_option maxRecDepth 20000
set_option maxHeartbeats 2000000
attribute [local irreducible] WX WC WQ Val VCall
abbrev PR (α : Type) := Except (Int × Int) (α × Nat)
def numP (d : List UInt8) (p : Nat) (most : Int) : PR Nat :=
  if (scanL 0 0 (d.drop p)).2.2 ≠ 0 then .error (p, (scanL 0 0 (d.drop p)).2.2) else
  if most < (scanL 0 0 (d.drop p)).1 then .error (p, 53) else .ok ((scanL 0 0 (d.drop p)).1, p + (scanL 0 0 (d.drop p)).2.1)
def textP (d : List UInt8) (p : Nat) (least most : Int) : PR (List UInt8) :=
  if (scanL 0 0 (d.drop p)).2.2 ≠ 0 then .error (p, (scanL 0 0 (d.drop p)).2.2) else
  if ((scanL 0 0 (d.drop p)).1 : Int) < least ∨ most < (scanL 0 0 (d.drop p)).1 then .error (p, 53) else
  if d.length < p + (scanL 0 0 (d.drop p)).2.1 + (scanL 0 0 (d.drop p)).1 then .error (p, 51) else
  .ok ((d.drop (p + (scanL 0 0 (d.drop p)).2.1)).take (scanL 0 0 (d.drop p)).1, p + (scanL 0 0 (d.drop p)).2.1 + (scanL 0 0 (d.drop p)).1)
def kindT (g : Nat) : Int := if g = 3 then 2 else if g = 4 then 3 else 1
def opP (d : List UInt8) (p : Nat) : PR OpW :=
  if d.length ≤ p then .error (p, 51) else
  if (d.getD p 0).toNat = 0 ∨ 4 < (d.getD p 0).toNat then .error (p, 60) else
  match textP d (p + 1) 1 8 with
  | .error e => .error e
  | .ok (k, p2) => if (d.getD p 0).toNat = 1 ∨ (d.getD p 0).toNat = 3 then (match textP d p2 0 16 with
      | .error e => .error e
      | .ok (v, p3) => .ok (⟨kindT (d.getD p 0).toNat, ⟨k.toArray⟩, true, ⟨v.toArray⟩⟩, p3))
    else .ok (⟨kindT (d.getD p 0).toNat, ⟨k.toArray⟩, false, ⟨#[]⟩⟩, p2)
def opsP (d : List UInt8) : Nat → Nat → PR (List OpW)
  | 0, p => .ok ([], p)
  | n + 1, p => match opP d p with
    | .error e => .error e
    | .ok (o, p2) => match opsP d n p2 with
      | .error e => .error e
      | .ok (l, p3) => .ok (o :: l, p3)
def numsP (d : List UInt8) : List Int → Nat → PR (List Nat)
  | [], p => .ok ([], p)
  | m :: r, p => match numP d p m with
    | .error e => .error e
    | .ok (n, p2) => match numsP d r p2 with
      | .error e => .error e
      | .ok (l, p3) => .ok (n :: l, p3)
theorem numP_le {d : List UInt8} {p q n : Nat} {most : Int} (hp : p ≤ d.length) (h : numP d p most = .ok (n, q)) : q ≤ d.length ∧ p < q ∧ (n : Int) ≤ most := by
  unfold numP at h
  split at h
  · cases h
  · rename_i h1
    split at h
    · cases h
    · injection h with h
      injection h with h2 h3
      have := scanL_size (d.drop p) 0 0 (by simpa using h1)
      rw [List.length_drop] at this
      omega
theorem textP_le {d : List UInt8} {p q : Nat} {t : List UInt8} {least most : Int} (hp : p ≤ d.length) (h : textP d p least most = .ok (t, q)) : q ≤ d.length ∧ p < q ∧ (t.length : Int) ≤ most ∧ least ≤ t.length := by
  unfold textP at h
  split at h
  · cases h
  · rename_i h1
    split at h
    · cases h
    · split at h
      · cases h
      · injection h with h
        injection h with h2 h3
        have := scanL_size (d.drop p) 0 0 (by simpa using h1)
        rw [← h2, List.length_take, List.length_drop]
        omega
theorem opP_le {d : List UInt8} {p q : Nat} {o : OpW} (hp : p ≤ d.length) (h : opP d p = .ok (o, q)) : q ≤ d.length := by
  unfold opP at h
  split at h
  · cases h
  · rename_i h1
    split at h
    · cases h
    · split at h
      · cases h
      · rename_i k p2 hk
        obtain ⟨k1, k2, _, _⟩ := textP_le (by omega) hk
        split at h
        · split at h
          · cases h
          · rename_i v p3 hv
            obtain ⟨v1, _⟩ := textP_le k1 hv
            injection h with h
            injection h with _ h3
            omega
        · injection h with h
          injection h with _ h3
          omega
def errV (e : Int × Int) : Value := .iface 107 (.agg #[.int .i64 e.1, .int .i64 e.2])
section cur
variable {g c : Nat} {A : Option Addr} {d : List UInt8} {E : Seg} {p : Nat}
theorem Left_spec (hd : d.length ≤ 281474976710656) (hp : p ≤ d.length) (w : World) (ho : Own w [curB g A d.length c p 0]) :
    Calls Try.prog 71 #[.pointer (some ⟨g, 0, none⟩)] w (Ret (β := Unit) w (ids [curB g A d.length c p 0]) (fun _ => .int .i64 ((d.length - p : Nat) : Int)) (fun _ => [curB g A d.length c p 0]) (fun _ => True)) := by
  refine go [.pointer (some ⟨g, 0, none⟩)] [curB g A d.length c p 0] Try.func71 Try.ntmps71 rfl rfl ho ?_
  repeat (first | (apply wx_val; (first | exact v_move rfl | exact v_assign rfl | exact v_nil rfl | exact v_faddr rfl rfl | exact v_ldT rfl rfl rfl (by rfl) | exact v_len rfl rfl | exact v_subi rfl rfl (by omega)); rfl) | refine wc_seq ?_ | refine wc_region ?_ | refine wx_nil ?_ | refine wq_next ?_ | refine wc_ret ?_ | refine wc_reads rfl (by decide +kernel) ?_)
  exact wq_ret1 () rfl (by show some (Value.int .i64 ((d.length : Int) - p)) = _; congr 2; omega) trivial rfl
abbrev rdV (g : Nat) : Value := .agg #[.pointer (some ⟨g, 0, none⟩)]
abbrev NRet (w : World) (X : List Nat) {α : Type} (r : PR α) (val : α → Value) (g : Nat) (A : Option Addr) (n c : Nat) (E : Seg) : Ending → World → Prop :=
  RetP (β := α × Nat) (γ := (Int × Int) × Int × Int) w X (fun x => val x.1) (fun x => [curB g A n c x.2 0, E]) (fun x => r = .ok x) (fun e => errV e.1) (fun e => [curB g A n c e.2.1 e.2.2, E]) (fun e => r = .error e.1)
theorem check_ok {n q : Nat} {f : Int} (w : World) (ho : Own w [curB g A n c q f]) :
    Calls Try.prog 76 #[rdV g, .int .i64 0] w (Ret (β := Unit) w (ids [curB g A n c q f]) (fun _ => .tuple #[]) (fun _ => [curB g A n c q f]) (fun _ => True)) := by
  refine go [rdV g, .int .i64 0] [curB g A n c q f] Try.func76 Try.ntmps76 rfl rfl ho ?_
  repeat (first | refine wc_seq ?_ | refine wc_region ?_)
  refine wl_boxA (l := [.pointer (some ⟨g, 0, none⟩)]) rfl rfl (fun g2 => ?_)
  repeat (first | (apply wx_val; (first | exact v_move rfl | exact v_ne rfl rfl); rfl) | refine wc_seq ?_ | refine wc_region ?_ | refine wx_nil ?_ | refine wq_next ?_ | refine wc_skip ?_ | refine wc_condF rfl ?_)
  refine wq_normR ?_
  exact wq_ret0T () rfl rfl trivial
theorem check_no {n q : Nat} {f e : Int} (he : e ≠ 0) (w : World) (ho : Own w [curB g A n c q f]) :
    Calls Try.prog 76 #[rdV g, .int .i64 e] w (RetP (β := Unit) (γ := Unit) w (ids [curB g A n c q f]) (fun _ => .tuple #[]) (fun _ => [curB g A n c q f]) (fun _ => False) (fun _ => errV (q, e)) (fun _ => [curB g A n c q f]) (fun _ => True)) := by
  refine go [rdV g, .int .i64 e] [curB g A n c q f] Try.func76 Try.ntmps76 rfl rfl ho ?_
  repeat (first | refine wc_seq ?_ | refine wc_region ?_)
  refine wl_boxA (l := [.pointer (some ⟨g, 0, none⟩)]) rfl rfl (fun g2 => ?_)
  repeat (first | (apply wx_val; (first | exact v_move rfl | exact v_ne rfl rfl); rfl) | refine wc_seq ?_ | refine wc_region ?_ | refine wx_nil ?_ | refine wq_next ?_)
  refine wc_yes rfl (decide_eq_true he) ?_
  repeat (first | (apply wx_val; (first | exact v_faddr rfl rfl | exact v_ldT rfl rfl rfl (by rfl)); rfl) | refine wc_region ?_)
  refine wl_callT (fun w' hr ho => Offset_spec (A := A) (n := n) (c := c) (p := q) (f := f) w' ho) rfl rfl rfl ?_
  rintro - -
  repeat (first | (apply wx_val; (first | exact v_move rfl); rfl) | refine wx_cat ?_)
  (try refine wx_ungd rfl rfl ?_)
  apply wx_val
  exact v_build (cs := ([.int .i64 (q : Nat), .int .i64 e]).toArray) rfl (by kernel_rfl)
  rfl
  repeat (first | (apply wx_val; (first | exact v_mkIface rfl rfl); rfl))
  refine wl_panic rfl ?_
  skip
  exact wq_pan () rfl trivial rfl
theorem readNum_spec (hd : d.length ≤ 281474976710656) (hb : Buf 5 1 A d.length c (bys d) E) (hp : p ≤ d.length) (most : Int) (w : World) (ho : Own w [curB g A d.length c p 0, E]) :
    Calls Try.prog 69 #[rdV g, .int .i64 most] w (NRet w (ids [curB g A d.length c p 0, E]) (numP d p most) (fun n => .int .i64 (n : Nat)) g A d.length c E) := by
  refine go [rdV g, .int .i64 most] [curB g A d.length c p 0, E] Try.func69 Try.ntmps69 rfl rfl ho ?_
  repeat (first | refine wc_seq ?_ | refine wc_region ?_)
  refine wl_boxA (l := [.pointer (some ⟨g, 0, none⟩)]) rfl rfl (fun g2 => ?_)
  repeat (first | (apply wx_val; (first | exact v_move rfl | exact v_assign rfl | exact v_faddr rfl rfl | exact v_ldT rfl rfl rfl (by rfl)); rfl) | refine wc_seq ?_ | refine wc_region ?_ | refine wx_nil ?_ | refine wq_next ?_)
  refine wl_callT (fun w' hr ho => Number_spec (f := 0) hd hb hp most w' ho) rfl rfl rfl ?_
  rintro - -
  have hE : (∃ e, numP d p most = .error (p, e) ∧ e ≠ 0 ∧ cNumber d p 0 most = (0, e, p, e)) ∨ (∃ n q : Nat, numP d p most = .ok (n, q) ∧ cNumber d p 0 most = (((n : Nat) : Int), 0, q, 0)) := by
    unfold numP cNumber
    rw [if_neg (show ¬ ((0 : Int) ≠ 0) by simp)]
    by_cases h1 : (scanL 0 0 (d.drop p)).2.2 ≠ 0
    · rw [if_pos h1, if_pos h1]; exact .inl ⟨_, rfl, h1, rfl⟩
    · rw [if_neg h1, if_neg h1]
      by_cases h2 : most < (scanL 0 0 (d.drop p)).1
      · rw [if_pos h2, if_pos h2]; exact .inl ⟨53, rfl, by decide, rfl⟩
      · rw [if_neg h2, if_neg h2]; exact .inr ⟨_, _, rfl, rfl⟩
  rcases hE with ⟨e, h1, h2, h3⟩ | ⟨n, q, h1, h3⟩
  · rw [h3, h1]
    dsimp only
    repeat (first | (apply wx_val; (first | exact v_move rfl | exact v_assign rfl | exact v_ldAT rfl (by rfl) | exact v_extract rfl rfl); rfl) | refine wc_seq ?_ | refine wc_region ?_ | refine wx_nil ?_ | refine wq_next ?_ | refine wx_cat ?_)
    refine wl_callX (fun w' hr ho => check_no (q := p) (f := e) (A := A) (n := d.length) (c := c) h2 w' ho) rfl rfl rfl (fun _ h => h.elim) (fun _ _ => ?_)
    repeat (first | refine wq_cat ?_ | refine wq_then_panic ?_)
    exact wq_pan (γ := (Int × Int) × Int × Int) (((p : Nat), e), (p : Nat), e) rfl rfl rfl
  · rw [h3, h1]
    dsimp only
    repeat (first | (apply wx_val; (first | exact v_move rfl | exact v_assign rfl | exact v_ldAT rfl (by rfl) | exact v_extract rfl rfl); rfl) | refine wc_seq ?_ | refine wc_region ?_ | refine wx_nil ?_ | refine wq_next ?_ | refine wx_cat ?_)
    refine wl_callT (fun w' hr ho => check_ok (q := q) (f := 0) (A := A) (n := d.length) (c := c) w' ho) rfl rfl rfl ?_
    rintro - -
    repeat (first | (apply wx_val; (first | exact v_move rfl | exact v_assign rfl); rfl) | refine wc_seq ?_ | refine wc_region ?_ | refine wx_nil ?_ | refine wq_next ?_ | refine wc_ret ?_ | refine wq_cat ?_)
    exact wq_retP (wq_ret1T (n, q) rfl rfl rfl rfl)
theorem readText_spec (hd : d.length ≤ 281474976710656) (hb : Buf 5 1 A d.length c (bys d) E) (hp : p ≤ d.length) (least most : Int) (w : World) (ho : Own w [curB g A d.length c p 0, E]) :
    Calls Try.prog 78 #[rdV g, .int .i64 least, .int .i64 most] w (NRet w (ids [curB g A d.length c p 0, E]) (textP d p least most) (fun t => .string ⟨t.toArray⟩) g A d.length c E) := by
  refine go [rdV g, .int .i64 least, .int .i64 most] [curB g A d.length c p 0, E] Try.func78 Try.ntmps78 rfl rfl ho ?_
  repeat (first | refine wc_seq ?_ | refine wc_region ?_)
  refine wl_boxA (l := [.pointer (some ⟨g, 0, none⟩)]) rfl rfl (fun g2 => ?_)
  repeat (first | (apply wx_val; (first | exact v_move rfl | exact v_assign rfl | exact v_faddr rfl rfl | exact v_ldT rfl rfl rfl (by rfl)); rfl) | refine wc_seq ?_ | refine wc_region ?_ | refine wx_nil ?_ | refine wq_next ?_)
  refine wl_callT (fun w' hr ho => Text_spec (f := 0) hd hb hp least most w' ho) rfl rfl rfl ?_
  rintro - -
  have hE : (∃ e, textP d p least most = .error (p, e) ∧ e ≠ 0 ∧ cText d p 0 least most = ([], e, p, e)) ∨ (∃ (n : List UInt8) (q : Nat), textP d p least most = .ok (n, q) ∧ cText d p 0 least most = (n, 0, q, 0)) := by
    unfold textP cText
    rw [if_neg (show ¬ ((0 : Int) ≠ 0) by simp)]
    by_cases h1 : (scanL 0 0 (d.drop p)).2.2 ≠ 0
    · rw [if_pos h1, if_pos h1]; exact .inl ⟨_, rfl, h1, rfl⟩
    · rw [if_neg h1, if_neg h1]
      by_cases h2 : ((scanL 0 0 (d.drop p)).1 : Int) < least ∨ most < (scanL 0 0 (d.drop p)).1
      · rw [if_pos h2, if_pos h2]; exact .inl ⟨53, rfl, by decide, rfl⟩
      · rw [if_neg h2, if_neg h2]
        by_cases h4 : d.length < p + (scanL 0 0 (d.drop p)).2.1 + (scanL 0 0 (d.drop p)).1
        · rw [if_pos h4, if_pos h4]; exact .inl ⟨51, rfl, by decide, rfl⟩
        · rw [if_neg h4, if_neg h4]; exact .inr ⟨_, _, rfl, rfl⟩
  rcases hE with ⟨e, h1, h2, h3⟩ | ⟨n, q, h1, h3⟩
  · rw [h3, h1]
    dsimp only
    repeat (first | (apply wx_val; (first | exact v_move rfl | exact v_assign rfl | exact v_ldAT rfl (by rfl) | exact v_extract rfl rfl); rfl) | refine wc_seq ?_ | refine wc_region ?_ | refine wx_nil ?_ | refine wq_next ?_ | refine wx_cat ?_)
    refine wl_callX (fun w' hr ho => check_no (q := p) (f := e) (A := A) (n := d.length) (c := c) h2 w' ho) rfl rfl rfl (fun _ h => h.elim) (fun _ _ => ?_)
    repeat (first | refine wq_cat ?_ | refine wq_then_panic ?_)
    exact wq_pan (γ := (Int × Int) × Int × Int) (((p : Nat), e), (p : Nat), e) rfl rfl rfl
  · rw [h3, h1]
    dsimp only
    repeat (first | (apply wx_val; (first | exact v_move rfl | exact v_assign rfl | exact v_ldAT rfl (by rfl) | exact v_extract rfl rfl); rfl) | refine wc_seq ?_ | refine wc_region ?_ | refine wx_nil ?_ | refine wq_next ?_ | refine wx_cat ?_)
    refine wl_callT (fun w' hr ho => check_ok (q := q) (f := 0) (A := A) (n := d.length) (c := c) w' ho) rfl rfl rfl ?_
    rintro - -
    repeat (first | (apply wx_val; (first | exact v_move rfl | exact v_assign rfl); rfl) | refine wc_seq ?_ | refine wc_region ?_ | refine wx_nil ?_ | refine wq_next ?_ | refine wc_ret ?_ | refine wq_cat ?_)
    exact wq_retP (wq_ret1T (n, q) rfl rfl rfl rfl)
end cur
end Go.Proofs.Ytjfjleejbbmmaaa
