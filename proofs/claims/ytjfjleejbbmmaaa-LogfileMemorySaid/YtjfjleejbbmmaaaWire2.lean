/- Contracts of wire's cursor. -/
import Derived.Test.YtjfjleejbbmmaaaWire1
set_option linter.unusedVariables false
set_option linter.unusedSimpArgs false
namespace Go.Proofs.Ytjfjleejbbmmaaa
open Go
set_option maxRecDepth 20000
attribute [local irreducible] WX WC WQ Val VCall
/-! ### the cursor -/
abbrev curB (g : Nat) (A : Option Addr) (n c : Nat) (p f : Int) : Seg := [(g, .cells [.slice A n c, .int .i64 p, .int .i64 f].toArray 120 (0, 0))]
theorem Buf.at {e n c : Nat} {A : Option Addr} {d : List UInt8} {E : Seg} (h : Buf e 1 A n c (bys d) E) {i : Nat} (hi : i < d.length) :
    ∃ gd, A = some ⟨gd, 0, none⟩ ∧ ∀ (j : Nat) (w0 w : World) (X : List Nat) (M : List Seg) (k : Nat), j < d.length → Res w0 X w M → M[k]? = some E → w.cell? ⟨gd, j, none⟩ = some (.int .u8 (d.getD j 0).toNat) := by
  rcases h.2 with ⟨_, rfl, _, _⟩ | ⟨g, cur, fz, rfl, rfl, _, _, hs, ht, hf⟩
  · have := h.1
    simp at this
    subst this
    simp at hi
  · refine ⟨g, rfl, fun j w0 w X M k hj hr hk => ?_⟩
    obtain ⟨g', hg, _, hc⟩ := h.cells (fun p hp => hr.own.at_ p (List.mem_flatten.2 ⟨_, List.mem_of_getElem? hk, hp⟩)) (by intro e; have := congrArg List.length e; simp at this; subst this; simp at hj)
    cases hg
    have := hc j _ (bys_get hj)
    rw [this]
    simp [List.getD_eq_getElem?_getD, hj]

def cByte (d : List UInt8) (p : Nat) (f : Int) : Int × Int × Int × Int :=
  if f ≠ 0 then (0, f, p, f) else if d.length ≤ p then (0, 51, p, 51) else ((d.getD p 0).toNat, 0, p + 1, 0)

theorem fail_spec {g : Nat} {A : Option Addr} {n c : Nat} {p f e : Int} (w : World) (ho : Own w [curB g A n c p f]) :
    Calls Try.prog 75 #[.pointer (some ⟨g, 0, none⟩), .int .i64 e] w (Ret (β := Unit) w (ids [curB g A n c p f]) (fun _ => .int .i64 e) (fun _ => [curB g A n c p e]) (fun _ => True)) := by
  refine go [.pointer (some ⟨g, 0, none⟩), .int .i64 e] [curB g A n c p f] Try.func75 Try.ntmps75 rfl rfl ho ?_
  repeat (first | (apply wx_val; (first | exact v_move rfl | exact v_assign rfl | exact v_nil rfl | exact v_faddr rfl rfl); rfl) | refine wc_seq ?_ | refine wc_region ?_ | refine wx_nil ?_ | refine wq_next ?_ | refine wc_ret ?_ | refine wl_store 0 rfl rfl rfl rfl (Nat.le_of_ble_eq_true rfl) (.inl (Nat.le_refl _)) rfl ?_)
  exact wq_ret1 () rfl rfl trivial rfl

section cur
variable {g c : Nat} {A : Option Addr} {d : List UInt8} {E : Seg} {p : Nat} {f : Int}
theorem Byte_spec (hd : d.length ≤ 281474976710656) (hb : Buf 5 1 A d.length c (bys d) E) (hp : p ≤ d.length) (w : World) (ho : Own w [curB g A d.length c p f, E]) :
    Calls Try.prog 77 #[.pointer (some ⟨g, 0, none⟩)] w (Ret (β := Unit) w (ids [curB g A d.length c p f, E]) (fun _ => .tuple #[.int .u8 (cByte d p f).1, .int .i64 (cByte d p f).2.1]) (fun _ => [curB g A d.length c (cByte d p f).2.2.1 (cByte d p f).2.2.2, E]) (fun _ => True)) := by
  have hmx := hb.le
  simp only [maxLen] at hmx
  refine go [.pointer (some ⟨g, 0, none⟩)] [curB g A d.length c p f, E] Try.func77 Try.ntmps77 rfl rfl ho ?_
  repeat (first | (apply wx_val; (first | exact v_move rfl | exact v_assign rfl | exact v_nil rfl | exact v_faddr rfl rfl | (apply v_load rfl rfl rfl; first | exact ld 0 0 rfl rfl rfl | exact ld 1 0 rfl rfl rfl | exact ld 2 0 rfl rfl rfl | exact ld 3 0 rfl rfl rfl | exact ld 4 0 rfl rfl rfl | exact ld 5 0 rfl rfl rfl) | exact v_ne rfl rfl); rfl) | refine wc_seq ?_ | refine wc_region ?_ | refine wx_nil ?_ | refine wq_next ?_)
  refine wc_if rfl (fun h1 => ?_) (fun h1 => ?_)
  · have e : cByte d p f = (0, f, (p : Int), f) := by simp [cByte, h1]
    repeat (first | (apply wx_val; (first | exact v_move rfl | exact v_assign rfl | exact v_nil rfl | exact v_faddr rfl rfl | (apply v_load rfl rfl rfl; first | exact ld 0 0 rfl rfl rfl | exact ld 1 0 rfl rfl rfl | exact ld 2 0 rfl rfl rfl | exact ld 3 0 rfl rfl rfl | exact ld 4 0 rfl rfl rfl | exact ld 5 0 rfl rfl rfl)); rfl) | refine wc_seq ?_ | refine wx_nil ?_ | refine wq_next ?_ | refine wc_ret ?_ | refine wq_then_ret ?_ | refine wc_reads rfl (by decide +kernel) ?_)
    refine wq_ret2 () rfl rfl rfl ?_ trivial ?_ <;> rw [e]
  · have h1' : f = 0 := by omega
    subst h1'
    repeat (first | (apply wx_val; (first | exact v_move rfl | exact v_nil rfl | exact v_faddr rfl rfl | (apply v_load rfl rfl rfl; first | exact ld 0 0 rfl rfl rfl | exact ld 1 0 rfl rfl rfl | exact ld 2 0 rfl rfl rfl | exact ld 3 0 rfl rfl rfl | exact ld 4 0 rfl rfl rfl | exact ld 5 0 rfl rfl rfl) | exact v_len rfl rfl | exact v_ge rfl rfl); rfl) | refine wc_seq ?_ | refine wx_nil ?_ | refine wq_next ?_ | refine wc_skip ?_ | refine wc_reads rfl (by decide +kernel) ?_)
    refine wc_if rfl (fun h2 => ?_) (fun h2 => ?_)
    · have e : cByte d p 0 = (0, 51, (p : Int), 51) := by simp [cByte]; omega
      repeat (first | (apply wx_val; (first | exact v_move rfl); rfl) | refine wc_seq ?_ | refine wc_region ?_)
      refine wl_call (L := [E]) (fun w' hr => fail_spec w' hr.own.left) rfl rfl (List.Perm.refl _) rfl (fun _ _ => ?_)
      repeat (first | (apply wx_val; (first | exact v_assign rfl); rfl) | refine wx_nil ?_ | refine wq_next ?_ | refine wc_ret ?_ | refine wq_then_ret ?_)
      refine wq_ret2 () rfl rfl rfl ?_ trivial ?_ <;> rw [e]; rfl
    · have e : cByte d p 0 = (((d.getD p 0).toNat : Int), 0, (p : Int) + 1, 0) := by simp [cByte]; omega
      obtain ⟨gd, rfl, hc⟩ := hb.at (i := p) (by omega)
      repeat (first | (apply wx_val; (first | exact v_move rfl | exact v_nil rfl | exact v_faddr rfl rfl | (apply v_load rfl rfl rfl; first | exact ld 0 0 rfl rfl rfl | exact ld 1 0 rfl rfl rfl | exact ld 2 0 rfl rfl rfl | exact ld 3 0 rfl rfl rfl | exact ld 4 0 rfl rfl rfl | exact ld 5 0 rfl rfl rfl) | exact v_addi rfl rfl (by omega) | exact v_subi rfl rfl (by omega) | exact v_iaddr rfl rfl rfl (by omega)); rfl) | refine wc_seq ?_ | refine wc_region ?_ | refine wx_nil ?_ | refine wq_next ?_ | refine wc_skip ?_ | refine wc_reads rfl (by decide +kernel) ?_ | refine wl_store 0 rfl rfl rfl rfl (Nat.le_of_ble_eq_true rfl) (.inl (Nat.le_refl _)) rfl ?_)
      apply wx_val
      exact v_ldx rfl rfl rfl (fun w' hr => hc p _ _ _ _ 1 (by omega) hr rfl) (by omega)
      rfl
      repeat (first | (apply wx_val; (first | exact v_assign rfl); rfl) | refine wx_nil ?_ | refine wq_next ?_ | refine wc_ret ?_)
      refine wq_ret2 () rfl rfl rfl ?_ trivial ?_ <;> rw [e]; rfl

def scanL : Nat → Nat → List UInt8 → Nat × Nat × Int
  | i, _, [] => if 8 ≤ i then (0, 0, 52) else (0, 0, 51)
  | i, acc, b :: r => if 8 ≤ i then (0, 0, 52) else if b.toNat < 128 then (if b.toNat = 0 ∧ 0 < i then (0, 0, 52) else (acc + b.toNat * 128 ^ i, i + 1, 0)) else scanL (i + 1) (acc + (b.toNat % 128) * 128 ^ i) r

theorem or64 {a b : Nat} (ha : a < 2 ^ 56) (hb : b < 2 ^ 56) : orI .i64 a b = ((a ||| b : Nat) : Int) := by
  have h1 : a ||| b < 2 ^ 56 := Nat.or_lt_two_pow ha hb
  unfold orI
  show IntKind.i64.wrap ((BitVec.ofInt 64 a ||| BitVec.ofInt 64 b).toNat : Int) = _
  have h2 : (BitVec.ofInt 64 (a : Int) ||| BitVec.ofInt 64 (b : Int)).toNat = a ||| b := by
    rw [BitVec.toNat_or]
    congr 1 <;> simp <;> omega
  rw [h2, wrap_in (by omega)]
theorem pow128 (i : Nat) : 128 ^ i = 2 ^ (7 * i) := by rw [Nat.pow_mul]
theorem pow_le7 {i : Nat} (hi : i ≤ 7) : 2 ^ (7 * i) ≤ 562949953421312 := by
  show 2 ^ (7 * i) ≤ 2 ^ 49
  exact Nat.pow_le_pow_right (by omega) (by omega)
theorem or_shift {acc x i : Nat} (hi : i ≤ 7) (ha : acc < 128 ^ i) (hx : x < 128) : orI .i64 (acc : Int) (shlI .i64 (x : Int) (7 * (i : Int))) = ((acc + x * 128 ^ i : Nat) : Int) := by
  have h0 := pow_le7 hi
  rw [pow128] at ha ⊢
  have h1 : x * 2 ^ (7 * i) ≤ 127 * 562949953421312 := Nat.mul_le_mul (by omega) h0
  have h2 : shlI .i64 (x : Int) (7 * (i : Int)) = ((x * 2 ^ (7 * i) : Nat) : Int) := by
    unfold shlI
    have e : min (7 * (i : Int)).toNat IntKind.i64.bits = 7 * i := by
      show min (7 * (i : Int)).toNat 64 = 7 * i
      omega
    rw [e, wrap_in]
    · simp
    · have : (x : Int) * 2 ^ (7 * i) = ((x * 2 ^ (7 * i) : Nat) : Int) := by simp
      rw [this]; omega
  rw [h2, or64 (by omega) (by omega)]
  congr 1
  rw [Nat.or_comm, ← Nat.shiftLeft_eq, ← Nat.shiftLeft_add_eq_or_of_lt ha, Nat.add_comm]
set_option maxRecDepth 100000 in
theorem and127 {x : Nat} (h : x < 256) : andI .u8 x 127 = ((x % 128 : Nat) : Int) := by
  have h1 : ∀ v : Fin 256, andI .u8 (v.val : Int) 127 = ((v.val % 128 : Nat) : Int) := by decide
  exact h1 ⟨x, h⟩
theorem drop_cons {d : List UInt8} {i : Nat} (h : i < d.length) : d.drop i = d.getD i 0 :: d.drop (i + 1) := by
  rw [List.drop_eq_getElem_cons h, List.getD_eq_getElem?_getD, List.getElem?_eq_getElem h]; rfl

set_option maxRecDepth 20000 in
theorem scan_spec (hd : d.length ≤ 281474976710656) (hb : Buf 5 1 A d.length c (bys d) E) (hp : p ≤ d.length) (w : World) (ho : Own w [curB g A d.length c p f, E]) :
    Calls Try.prog 74 #[.pointer (some ⟨g, 0, none⟩)] w (Ret (β := Unit) w (ids [curB g A d.length c p f, E]) (fun _ => .tuple #[.int .i64 (scanL 0 0 (d.drop p)).1, .int .i64 (scanL 0 0 (d.drop p)).2.1, .int .i64 (scanL 0 0 (d.drop p)).2.2]) (fun _ => [curB g A d.length c p f, E]) (fun _ => True)) := by
  have hmx := hb.le
  simp only [maxLen] at hmx
  refine go [.pointer (some ⟨g, 0, none⟩)] [curB g A d.length c p f, E] Try.func74 Try.ntmps74 rfl rfl ho ?_
  repeat (first | (apply wx_val; (first | exact v_move rfl | exact v_assign rfl); rfl) | refine wc_seq ?_ | refine wc_region ?_ | refine wx_nil ?_ | refine wq_next ?_ | refine wc_block ?_)
  refine wc_loop (ι := Nat × Nat) (fun (i, acc) => [(0, .pointer (some ⟨g, 0, none⟩)), (5, .int .i64 (acc : Int)), (8, .int .i64 (i : Int))]) (fun _ => [curB g A d.length c p f, E])
    (fun (i, acc) => i ≤ 8 ∧ acc < 128 ^ i ∧ scanL i acc (d.drop (p + i)) = scanL 0 0 (d.drop p)) (fun (i, _) => 8 - i) (0, 0) ⟨by (try dsimp only); omega, by simp, by simp⟩ ⟨rfl, rfl, rfl, trivial⟩ rfl ?_
  rintro ⟨i, acc⟩ ⟨hi, ha, hs⟩
  repeat (first | (apply wx_val; (first | exact v_lt rfl rfl); rfl) | refine wc_seq ?_ | refine wc_region ?_ | refine wx_nil ?_ | refine wq_next ?_)
  refine wc_if rfl (fun h1 => ?_) (fun h1 => ?_)
  · repeat (first | (apply wx_val; (first | exact v_move rfl | exact v_assign rfl | exact v_nil rfl | exact v_faddr rfl rfl | (apply v_load rfl rfl rfl; first | exact ld 0 0 rfl rfl rfl | exact ld 1 0 rfl rfl rfl | exact ld 2 0 rfl rfl rfl | exact ld 3 0 rfl rfl rfl | exact ld 4 0 rfl rfl rfl | exact ld 5 0 rfl rfl rfl) | exact v_len rfl rfl | exact v_ge rfl rfl | exact v_addi rfl rfl (by omega)); rfl) | refine wc_seq ?_ | refine wc_region ?_ | refine wx_nil ?_ | refine wq_next ?_ | refine wc_block ?_ | refine wc_skip ?_ | refine wc_reads rfl (by decide +kernel) ?_)
    refine wc_if rfl (fun h2 => ?_) (fun h2 => ?_)
    · repeat (first | (apply wx_val; (first | exact v_assign rfl); rfl) | refine wc_seq ?_ | refine wc_region ?_ | refine wx_nil ?_ | refine wq_next ?_ | refine wc_ret ?_ | refine wq_then_ret ?_ | refine wq_block_ret ?_)
      have e : scanL 0 0 (d.drop p) = (0, 0, 51) := by
        rw [← hs, List.drop_of_length_le (by omega)]
        simp [scanL]; omega
      refine wq_ret3 () rfl rfl rfl rfl ?_ trivial rfl
      rw [e]; rfl
    · obtain ⟨gd, rfl, hc⟩ := hb.at (i := p + i) (by omega)
      have hbt : (d.getD (p + i) 0).toNat < 256 := (d.getD (p + i) 0).toNat_lt
      rw [drop_cons (by omega)] at hs
      simp only [scanL] at hs
      rw [if_neg (by omega)] at hs
      generalize hx : (d.getD (p + i) 0).toNat = x at hbt hs
      repeat (first | (apply wx_val; (first | exact v_move rfl | exact v_nil rfl | exact v_faddr rfl rfl | (apply v_load rfl rfl rfl; first | exact ld 0 0 rfl rfl rfl | exact ld 1 0 rfl rfl rfl | exact ld 2 0 rfl rfl rfl | exact ld 3 0 rfl rfl rfl | exact ld 4 0 rfl rfl rfl | exact ld 5 0 rfl rfl rfl) | exact v_addi rfl rfl (by omega) | exact v_iaddr rfl rfl rfl (by omega)); rfl) | refine wc_seq ?_ | refine wq_next ?_ | refine wc_skip ?_ | refine wc_reads rfl (by decide +kernel) ?_)
      apply wx_val
      exact v_ldx rfl rfl rfl (fun w' hr => hc (p + i) _ _ _ _ 1 (by omega) hr rfl) (by omega)
      rfl
      rw [hx]
      repeat (first | (apply wx_val; (first | exact v_move rfl | exact v_assign rfl | exact v_lt rfl rfl | exact v_conv rfl rfl rfl | exact v_muli rfl rfl (by omega) | exact v_and rfl rfl | exact v_or rfl rfl | exact v_shl rfl rfl (by omega)); rfl) | refine wc_seq ?_ | refine wc_region ?_ | refine wx_nil ?_ | refine wq_next ?_)
      rw [and127 hbt, wrap_in (n := ((x % 128 : Nat) : Int)) (by omega), or_shift (by omega) ha (by omega)]
      refine wc_if rfl (fun h3 => ?_) (fun h3 => ?_)
      · rw [if_pos (by omega)] at hs
        have hm : x % 128 = x := Nat.mod_eq_of_lt (by omega)
        rw [hm]
        repeat (first | (apply wx_val; (first | exact v_move rfl | exact v_eq rfl rfl); rfl) | refine wc_seq ?_ | refine wc_region ?_)
        refine wx_if 47 rfl (fun h4 => ?_) (fun h4 => ?_)
        · repeat (first | (apply wx_val; (first | exact v_move rfl | exact v_gt rfl rfl | exact v_pickT rfl rfl); rfl) | refine wx_ungd rfl rfl ?_ | refine wx_nil ?_ | refine wq_next ?_)
          refine wc_if rfl (fun h5 => ?_) (fun h5 => ?_)
          · rw [if_pos (by omega)] at hs
            repeat (first | (apply wx_val; (first | exact v_assign rfl); rfl) | refine wc_seq ?_ | refine wc_region ?_ | refine wx_nil ?_ | refine wq_next ?_ | refine wc_ret ?_ | refine wq_then_ret ?_ | refine wq_block_ret ?_)
            refine wq_ret3 () rfl rfl rfl rfl ?_ trivial rfl
            rw [← hs]; rfl
          · rw [if_neg (by omega)] at hs
            repeat (first | (apply wx_val; (first | exact v_move rfl | exact v_assign rfl | exact v_addi rfl rfl (by omega)); rfl) | refine wc_seq ?_ | refine wc_region ?_ | refine wx_nil ?_ | refine wq_next ?_ | refine wc_ret ?_ | refine wc_skip ?_ | refine wq_then_ret ?_ | refine wq_block_ret ?_)
            refine wq_ret3 () rfl rfl rfl rfl ?_ trivial rfl
            rw [← hs]; rfl
        · rw [if_neg (by omega)] at hs
          repeat (first | (apply wx_val; (first | exact v_move rfl | exact v_assign rfl | exact v_addi rfl rfl (by omega) | exact v_pickF rfl rfl); rfl) | refine wx_no rfl rfl rfl ?_ | refine wc_seq ?_ | refine wc_region ?_ | refine wx_nil ?_ | refine wq_next ?_ | refine wc_ret ?_ | refine wc_skip ?_ | refine wq_then_ret ?_ | refine wq_block_ret ?_ | refine wc_condF rfl ?_)
          refine wq_ret3 () rfl rfl rfl rfl ?_ trivial rfl
          rw [← hs]; rfl
      · rw [if_neg (by omega)] at hs
        repeat (first | (apply wx_val; (first | exact v_move rfl | exact v_addi rfl rfl (by omega)); rfl) | refine wc_region ?_ | refine wx_nil ?_ | refine wq_next ?_ | refine wc_skip ?_ | refine wq_block ?_)
        refine wq_round (i + 1, acc + (x % 128) * 128 ^ i) ⟨by (try dsimp only); omega, ?_, ?_⟩ (by (try dsimp only); omega) ⟨rfl, rfl, rfl, trivial⟩ rfl
        · show acc + (x % 128) * 128 ^ i < 128 ^ (i + 1)
          rw [Nat.pow_succ, Nat.mul_comm _ 128]
          have := Nat.mul_le_mul_right (128 ^ i) (show x % 128 ≤ 127 by omega)
          omega
        · exact hs
  · repeat (first | (apply wx_val; (first | exact v_assign rfl); rfl) | refine wc_seq ?_ | refine wc_region ?_ | refine wx_nil ?_ | refine wq_next ?_ | refine wc_ret ?_ | refine wc_exit ?_ | refine wq_then_exit ?_ | refine wq_block_exit rfl ?_)
    have hi8 : i = 8 := by omega
    subst hi8
    have e : scanL 0 0 (d.drop p) = (0, 0, 52) := by
      rw [← hs]
      cases d.drop (p + 8) <;> simp [scanL]
    refine wq_ret3 () rfl rfl rfl rfl ?_ trivial rfl
    rw [e]; rfl

/-- what the reading calls do: the value or the text, the error, the place and the fault behind it -/
def cNumber (d : List UInt8) (p : Nat) (f most : Int) : Int × Int × Nat × Int :=
  if f ≠ 0 then (0, f, p, f) else
  if (scanL 0 0 (d.drop p)).2.2 ≠ 0 then (0, (scanL 0 0 (d.drop p)).2.2, p, (scanL 0 0 (d.drop p)).2.2) else
  if most < (scanL 0 0 (d.drop p)).1 then (0, 53, p, 53) else ((scanL 0 0 (d.drop p)).1, 0, p + (scanL 0 0 (d.drop p)).2.1, 0)
theorem scanL_size : ∀ (l : List UInt8) (i acc : Nat), (scanL i acc l).2.2 = 0 → (scanL i acc l).2.1 ≤ i + l.length ∧ i < (scanL i acc l).2.1
  | [], i, acc => by simp only [scanL]; split <;> simp
  | b :: r, i, acc => by
    simp only [scanL]
    split
    · simp
    · split
      · split
        · simp
        · simp
      · intro h
        have := scanL_size r _ _ h
        simp only [List.length_cons]
        omega

theorem Number_spec (hd : d.length ≤ 281474976710656) (hb : Buf 5 1 A d.length c (bys d) E) (hp : p ≤ d.length) (most : Int) (w : World) (ho : Own w [curB g A d.length c p f, E]) :
    Calls Try.prog 66 #[.pointer (some ⟨g, 0, none⟩), .int .i64 most] w (Ret (β := Unit) w (ids [curB g A d.length c p f, E]) (fun _ => .tuple #[.int .i64 (cNumber d p f most).1, .int .i64 (cNumber d p f most).2.1]) (fun _ => [curB g A d.length c (cNumber d p f most).2.2.1 (cNumber d p f most).2.2.2, E]) (fun _ => True)) := by
  have hmx := hb.le
  simp only [maxLen] at hmx
  refine go [.pointer (some ⟨g, 0, none⟩), .int .i64 most] [curB g A d.length c p f, E] Try.func66 Try.ntmps66 rfl rfl ho ?_
  repeat (first | (apply wx_val; (first | exact v_move rfl | exact v_assign rfl | exact v_nil rfl | exact v_faddr rfl rfl | (apply v_load rfl rfl rfl; first | exact ld 0 0 rfl rfl rfl | exact ld 1 0 rfl rfl rfl | exact ld 2 0 rfl rfl rfl | exact ld 3 0 rfl rfl rfl | exact ld 4 0 rfl rfl rfl | exact ld 5 0 rfl rfl rfl) | exact v_ne rfl rfl); rfl) | refine wc_seq ?_ | refine wc_region ?_ | refine wx_nil ?_ | refine wq_next ?_)
  refine wc_if rfl (fun h1 => ?_) (fun h1 => ?_)
  · have e : cNumber d p f most = (0, f, p, f) := by simp [cNumber, h1]
    repeat (first | (apply wx_val; (first | exact v_move rfl | exact v_assign rfl | exact v_nil rfl | exact v_faddr rfl rfl | (apply v_load rfl rfl rfl; first | exact ld 0 0 rfl rfl rfl | exact ld 1 0 rfl rfl rfl | exact ld 2 0 rfl rfl rfl | exact ld 3 0 rfl rfl rfl | exact ld 4 0 rfl rfl rfl | exact ld 5 0 rfl rfl rfl)); rfl) | refine wc_seq ?_ | refine wx_nil ?_ | refine wq_next ?_ | refine wc_ret ?_ | refine wq_then_ret ?_ | refine wc_reads rfl (by decide +kernel) ?_)
    refine wq_ret2 () rfl rfl rfl ?_ trivial ?_ <;> rw [e]
  · have h1' : f = 0 := by omega
    subst h1'
    have hsz := scanL_size (d.drop p) 0 0
    generalize hsc : scanL 0 0 (d.drop p) = sc at hsz
    obtain ⟨n, size, e0⟩ := sc
    simp only [List.length_drop] at hsz
    repeat (first | (apply wx_val; (first | exact v_move rfl); rfl) | refine wc_seq ?_ | refine wc_region ?_ | refine wq_next ?_ | refine wc_skip ?_)
    refine wl_call (L := []) (fun w' hr => scan_spec (f := 0) hd hb hp w' (by simpa using hr.own)) rfl rfl (by rw [List.append_nil]) rfl (fun _ _ => ?_)
    rw [hsc]
    dsimp only
    repeat (first | (apply wx_val; (first | exact v_move rfl | exact v_assign rfl | exact v_extract rfl rfl | exact v_ne rfl rfl); rfl) | refine wc_seq ?_ | refine wc_region ?_ | refine wx_nil ?_ | refine wq_next ?_)
    refine wc_if rfl (fun h2 => ?_) (fun h2 => ?_)
    · have e : cNumber d p 0 most = (0, e0, p, e0) := by simp [cNumber, hsc]; intro h; exact absurd h h2
      repeat (first | (apply wx_val; (first | exact v_move rfl); rfl) | refine wc_seq ?_ | refine wc_region ?_)
      refine wl_call (L := [E]) (fun w' hr => fail_spec w' hr.own.left) rfl rfl (List.Perm.refl _) rfl (fun _ _ => ?_)
      repeat (first | (apply wx_val; (first | exact v_assign rfl); rfl) | refine wx_nil ?_ | refine wq_next ?_ | refine wc_ret ?_ | refine wq_then_ret ?_)
      refine wq_ret2 () rfl rfl rfl ?_ trivial ?_ <;> rw [e]
      rfl
    · have h2' : e0 = 0 := by
        have : ¬ e0 ≠ 0 := h2
        omega
      subst h2'
      repeat (first | (apply wx_val; (first | exact v_move rfl | exact v_gt rfl rfl); rfl) | refine wc_seq ?_ | refine wc_region ?_ | refine wx_nil ?_ | refine wq_next ?_ | refine wc_skip ?_)
      refine wc_if rfl (fun h3 => ?_) (fun h3 => ?_)
      · have e : cNumber d p 0 most = (0, 53, p, 53) := by simp [cNumber, hsc, h3]
        repeat (first | (apply wx_val; (first | exact v_move rfl); rfl) | refine wc_seq ?_ | refine wc_region ?_)
        refine wl_call (L := [E]) (fun w' hr => fail_spec w' hr.own.left) rfl rfl (List.Perm.refl _) rfl (fun _ _ => ?_)
        repeat (first | (apply wx_val; (first | exact v_assign rfl); rfl) | refine wx_nil ?_ | refine wq_next ?_ | refine wc_ret ?_ | refine wq_then_ret ?_)
        refine wq_ret2 () rfl rfl rfl ?_ trivial ?_ <;> rw [e]
        rfl
      · have e : cNumber d p 0 most = ((n : Int), 0, p + size, 0) := by simp [cNumber, hsc, h3]
        have hsz' := hsz rfl
        repeat (first | (apply wx_val; (first | exact v_move rfl | exact v_assign rfl | exact v_nil rfl | exact v_faddr rfl rfl | (apply v_load rfl rfl rfl; first | exact ld 0 0 rfl rfl rfl | exact ld 1 0 rfl rfl rfl | exact ld 2 0 rfl rfl rfl | exact ld 3 0 rfl rfl rfl | exact ld 4 0 rfl rfl rfl | exact ld 5 0 rfl rfl rfl) | exact v_addi rfl rfl (by omega)); rfl) | refine wc_seq ?_ | refine wc_region ?_ | refine wx_nil ?_ | refine wq_next ?_ | refine wc_ret ?_ | refine wc_skip ?_ | refine wl_store 0 rfl rfl rfl rfl (Nat.le_of_ble_eq_true rfl) (.inl (Nat.le_refl _)) rfl ?_)
        refine wq_ret2 () rfl rfl rfl ?_ trivial ?_ <;> rw [e]
        rfl
end cur
end Go.Proofs.Ytjfjleejbbmmaaa
