/- Contracts of wire's cursor. -/
import Derived.Test.YtjfjleejbbmmaaaWire2
set_option linter.unusedVariables false
set_option linter.unusedSimpArgs false
namespace Go.Proofs.Ytjfjleejbbmmaaa
open Go
set_option maxRecDepth 20000
attribute [local irreducible] WX WC WQ Val VCall

section cur
variable {g c : Nat} {A : Option Addr} {d : List UInt8} {E : Seg} {p : Nat} {f : Int}
theorem Buf.rdB {e n : Nat} {d : List UInt8} (h : Buf e 1 A n c (bys d) E) {l k : Nat} (hl : l ≤ k) (hk : k ≤ n) {w0 w : World} {X : List Nat} {M : List Seg} (hr : Res w0 X w M) {i : Nat} (hi : M[i]? = some E) :
    Rd w (cutA A l k c 1) (bys ((d.drop l).take (k - l))) := by
  have h1 := h.1
  have h2 := h.le
  simp only [bys_length, Nat.mul_one] at h1
  have := rd_cut (l := l) (h := k) (c := c) (sz := 1) (h.rd hr hi) hl (by simp; omega) (by omega)
  simpa [bys, List.map_drop, List.map_take] using this

def cText (d : List UInt8) (p : Nat) (f least most : Int) : List UInt8 × Int × Nat × Int :=
  if f ≠ 0 then ([], f, p, f) else
  if (scanL 0 0 (d.drop p)).2.2 ≠ 0 then ([], (scanL 0 0 (d.drop p)).2.2, p, (scanL 0 0 (d.drop p)).2.2) else
  if ((scanL 0 0 (d.drop p)).1 : Int) < least ∨ most < (scanL 0 0 (d.drop p)).1 then ([], 53, p, 53) else
  if d.length < p + (scanL 0 0 (d.drop p)).2.1 + (scanL 0 0 (d.drop p)).1 then ([], 51, p, 51) else
  ((d.drop (p + (scanL 0 0 (d.drop p)).2.1)).take (scanL 0 0 (d.drop p)).1, 0, p + (scanL 0 0 (d.drop p)).2.1 + (scanL 0 0 (d.drop p)).1, 0)

theorem scanL_val : ∀ (l : List UInt8) (i acc : Nat), acc < 128 ^ i → i ≤ 8 → (scanL i acc l).1 < 128 ^ 8
  | [], i, acc, h, hi => by simp only [scanL]; split <;> simp
  | b :: r, i, acc, h, hi => by
    simp only [scanL]
    split
    · simp
    · rename_i h8
      have hb : ∀ x, x < 128 → acc + x * 128 ^ i < 128 ^ (i + 1) := fun x hx => by
        rw [Nat.pow_succ, Nat.mul_comm _ 128]
        have := Nat.mul_le_mul_right (128 ^ i) (show x ≤ 127 by omega)
        omega
      split
      · split
        · simp
        · rename_i h1 _
          exact Nat.lt_of_lt_of_le (hb _ h1) (Nat.pow_le_pow_right (by omega) (by omega))
      · exact scanL_val r _ _ (hb _ (by omega)) (by omega)

theorem Text_spec (hd : d.length ≤ 281474976710656) (hb : Buf 5 1 A d.length c (bys d) E) (hp : p ≤ d.length) (least most : Int) (w : World) (ho : Own w [curB g A d.length c p f, E]) :
    Calls Try.prog 79 #[.pointer (some ⟨g, 0, none⟩), .int .i64 least, .int .i64 most] w (Ret (β := Unit) w (ids [curB g A d.length c p f, E]) (fun _ => .tuple #[.string ⟨(cText d p f least most).1.toArray⟩, .int .i64 (cText d p f least most).2.1]) (fun _ => [curB g A d.length c (cText d p f least most).2.2.1 (cText d p f least most).2.2.2, E]) (fun _ => True)) := by
  have hmx := hb.le
  simp only [maxLen] at hmx
  refine go [.pointer (some ⟨g, 0, none⟩), .int .i64 least, .int .i64 most] [curB g A d.length c p f, E] Try.func79 Try.ntmps79 rfl rfl ho ?_
  repeat (first | (apply wx_val; (first | exact v_move rfl | exact v_assign rfl | exact v_nil rfl | exact v_faddr rfl rfl | (apply v_load rfl rfl rfl; first | exact ld 0 0 rfl rfl rfl | exact ld 1 0 rfl rfl rfl | exact ld 2 0 rfl rfl rfl | exact ld 3 0 rfl rfl rfl | exact ld 4 0 rfl rfl rfl | exact ld 5 0 rfl rfl rfl) | exact v_ne rfl rfl); rfl) | refine wc_seq ?_ | refine wc_region ?_ | refine wx_nil ?_ | refine wq_next ?_)
  refine wc_if rfl (fun h1 => ?_) (fun h1 => ?_)
  · have e : cText d p f least most = ([], f, p, f) := by simp [cText, h1]
    repeat (first | (apply wx_val; (first | exact v_move rfl | exact v_assign rfl | exact v_nil rfl | exact v_faddr rfl rfl | (apply v_load rfl rfl rfl; first | exact ld 0 0 rfl rfl rfl | exact ld 1 0 rfl rfl rfl | exact ld 2 0 rfl rfl rfl | exact ld 3 0 rfl rfl rfl | exact ld 4 0 rfl rfl rfl | exact ld 5 0 rfl rfl rfl)); rfl) | refine wc_seq ?_ | refine wx_nil ?_ | refine wq_next ?_ | refine wc_ret ?_ | refine wq_then_ret ?_ | refine wc_reads rfl (by decide +kernel) ?_)
    refine wq_ret2 () rfl rfl rfl ?_ trivial ?_ <;> rw [e]
  · have h1' : f = 0 := by omega
    subst h1'
    have hsz := scanL_size (d.drop p) 0 0
    have hvl := scanL_val (d.drop p) 0 0 (by omega) (by omega)
    generalize hsc : scanL 0 0 (d.drop p) = sc at hsz hvl
    obtain ⟨n, size, e0⟩ := sc
    simp only [List.length_drop] at hsz hvl
    repeat (first | (apply wx_val; (first | exact v_move rfl); rfl) | refine wc_seq ?_ | refine wc_region ?_ | refine wq_next ?_ | refine wc_skip ?_)
    refine wl_call (L := []) (fun w' hr => scan_spec (f := 0) hd hb hp w' (by simpa using hr.own)) rfl rfl (by rw [List.append_nil]) rfl (fun _ _ => ?_)
    rw [hsc]
    dsimp only
    repeat (first | (apply wx_val; (first | exact v_move rfl | exact v_assign rfl | exact v_extract rfl rfl | exact v_ne rfl rfl); rfl) | refine wc_seq ?_ | refine wc_region ?_ | refine wx_nil ?_ | refine wq_next ?_)
    refine wc_if rfl (fun h2 => ?_) (fun h2 => ?_)
    · have e : cText d p 0 least most = ([], e0, p, e0) := by simp [cText, hsc]; intro h; exact absurd h h2
      repeat (first | (apply wx_val; (first | exact v_move rfl); rfl) | refine wc_seq ?_ | refine wc_region ?_)
      refine wl_call (L := [E]) (fun w' hr => fail_spec w' hr.own.left) rfl rfl (List.Perm.refl _) rfl (fun _ _ => ?_)
      repeat (first | (apply wx_val; (first | exact v_assign rfl); rfl) | refine wx_nil ?_ | refine wq_next ?_ | refine wc_ret ?_ | refine wq_then_ret ?_)
      refine wq_ret2 () rfl rfl rfl ?_ trivial ?_ <;> rw [e]
      rfl
    · have h2' : e0 = 0 := by
        have : ¬ e0 ≠ 0 := h2
        omega
      subst h2'
      have hsz' := hsz rfl
      repeat (first | (apply wx_val; (first | exact v_move rfl | exact v_lt rfl rfl); rfl) | refine wc_seq ?_ | refine wc_region ?_ | refine wq_next ?_ | refine wc_skip ?_)
      refine wx_if 35 rfl (fun h3 => ?_) (fun h3 => ?_)
      · have e : cText d p 0 least most = ([], 53, p, 53) := by simp [cText, hsc, h3]
        repeat (first | (apply wx_val; (first | exact v_move rfl | exact v_pickT rfl rfl); rfl) | refine wx_no rfl rfl rfl ?_ | refine wc_seq ?_ | refine wc_region ?_ | refine wx_nil ?_ | refine wq_next ?_ | refine wc_condT rfl ?_)
        refine wl_call (L := [E]) (fun w' hr => fail_spec w' hr.own.left) rfl rfl (List.Perm.refl _) rfl (fun _ _ => ?_)
        repeat (first | (apply wx_val; (first | exact v_assign rfl); rfl) | refine wx_nil ?_ | refine wq_next ?_ | refine wc_ret ?_ | refine wq_then_ret ?_)
        refine wq_ret2 () rfl rfl rfl ?_ trivial ?_ <;> rw [e]
        rfl
      · repeat (first | (apply wx_val; (first | exact v_move rfl | exact v_gt rfl rfl | exact v_pickF rfl rfl); rfl) | refine wx_ungd rfl rfl ?_ | refine wx_nil ?_ | refine wq_next ?_)
        refine wc_if rfl (fun h4 => ?_) (fun h4 => ?_)
        · have e : cText d p 0 least most = ([], 53, p, 53) := by simp [cText, hsc, h4]
          repeat (first | (apply wx_val; (first | exact v_move rfl); rfl) | refine wc_seq ?_ | refine wc_region ?_)
          refine wl_call (L := [E]) (fun w' hr => fail_spec w' hr.own.left) rfl rfl (List.Perm.refl _) rfl (fun _ _ => ?_)
          repeat (first | (apply wx_val; (first | exact v_assign rfl); rfl) | refine wx_nil ?_ | refine wq_next ?_ | refine wc_ret ?_ | refine wq_then_ret ?_)
          refine wq_ret2 () rfl rfl rfl ?_ trivial ?_ <;> rw [e]
          rfl
        · repeat (first | (apply wx_val; (first | exact v_move rfl | exact v_nil rfl | exact v_faddr rfl rfl | (apply v_load rfl rfl rfl; first | exact ld 0 0 rfl rfl rfl | exact ld 1 0 rfl rfl rfl | exact ld 2 0 rfl rfl rfl | exact ld 3 0 rfl rfl rfl | exact ld 4 0 rfl rfl rfl | exact ld 5 0 rfl rfl rfl) | exact v_len rfl rfl | exact v_gt rfl rfl | exact v_subi rfl rfl (by omega)); rfl) | refine wc_seq ?_ | refine wx_nil ?_ | refine wq_next ?_ | refine wc_skip ?_ | refine wc_reads rfl (by decide +kernel) ?_)
          refine wc_if rfl (fun h5 => ?_) (fun h5 => ?_)
          · have e : cText d p 0 least most = ([], 51, p, 51) := by
              simp only [cText, hsc]
              rw [if_neg (by omega), if_neg (by omega), if_neg (by omega), if_pos (by omega)]
            repeat (first | (apply wx_val; (first | exact v_move rfl); rfl) | refine wc_seq ?_ | refine wc_region ?_)
            refine wl_call (L := [E]) (fun w' hr => fail_spec w' hr.own.left) rfl rfl (List.Perm.refl _) rfl (fun _ _ => ?_)
            repeat (first | (apply wx_val; (first | exact v_assign rfl); rfl) | refine wx_nil ?_ | refine wq_next ?_ | refine wc_ret ?_ | refine wq_then_ret ?_)
            refine wq_ret2 () rfl rfl rfl ?_ trivial ?_ <;> rw [e]
            rfl
          · have e : cText d p 0 least most = ((d.drop (p + size)).take n, 0, p + size + n, 0) := by
              simp only [cText, hsc]
              rw [if_neg (by omega), if_neg (by omega), if_neg (by omega), if_neg (by omega)]
            repeat (first | (apply wx_val; (first | exact v_move rfl | exact v_assign rfl | exact v_nil rfl | exact v_faddr rfl rfl | (apply v_load rfl rfl rfl; first | exact ld 0 0 rfl rfl rfl | exact ld 1 0 rfl rfl rfl | exact ld 2 0 rfl rfl rfl | exact ld 3 0 rfl rfl rfl | exact ld 4 0 rfl rfl rfl | exact ld 5 0 rfl rfl rfl) | exact v_addi rfl rfl (by omega) | exact v_slice rfl rfl rfl rfl (by omega) (by omega)); rfl) | refine wc_seq ?_ | refine wc_region ?_ | refine wx_nil ?_ | refine wq_next ?_ | refine wc_skip ?_ | refine wc_reads rfl (by decide +kernel) ?_ | refine wl_store 0 rfl rfl rfl rfl (Nat.le_of_ble_eq_true rfl) (.inl (Nat.le_refl _)) rfl ?_)
            apply wx_val
            refine v_str (l := (d.drop (p + size)).take n) rfl rfl rfl rfl (fun w' hr => ?_) ?_
            · have := hb.rdB (l := p + size) (k := p + size + n) (by omega) (by omega) hr (i := 1) rfl
              rw [show p + size + n - (p + size) = n by omega] at this
              exact this
            · simp; omega
            rfl
            repeat (first | (apply wx_val; (first | exact v_assign rfl); rfl) | refine wx_nil ?_ | refine wq_next ?_ | refine wc_ret ?_)
            refine wq_ret2 () rfl rfl rfl ?_ trivial ?_ <;> rw [e]
            rfl
end cur
end Go.Proofs.Ytjfjleejbbmmaaa
