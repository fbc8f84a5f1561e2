/- Contracts of wire's functions. -/
import Derived.Test.YtjfjleejbbmmaaaProg
import Derived.Test.YtjfjleejbbmmaaaKit1
set_option linter.unusedVariables false
set_option linter.unusedSimpArgs false
namespace Go.Proofs.Ytjfjleejbbmmaaa
open Go
set_option maxRecDepth 20000
attribute [local irreducible] WX WC WQ Val VCall

/-- how many bytes a number's form has -/
def formN (n : Nat) : List UInt8 := if h : n < 128 then [UInt8.ofNat n] else UInt8.ofNat (n % 128 + 128) :: formN (n / 128)
termination_by n
decreasing_by omega
theorem formN_lt {n : Nat} (h : n < 128) : formN n = [UInt8.ofNat n] := by rw [formN]; simp [h]
theorem formN_ge {n : Nat} (h : 128 ≤ n) : formN n = UInt8.ofNat (n % 128 + 128) :: formN (n / 128) := by rw [formN]; rw [dif_neg (by omega)]
theorem shr7 {a : Int} (h : 0 ≤ a) : shrI .i64 a 7 = a / 128 := by
  unfold shrI
  rw [Int.fdiv_eq_ediv_of_nonneg _ (by decide)]
  rfl
def sizeI (n : Int) : Int := if n < 0 ∨ 72057594037927935 < n then 0 else (formN n.toNat).length

theorem formN_pos (n : Nat) : 0 < (formN n).length := by
  by_cases h : n < 128
  · rw [formN_lt h]; simp
  · rw [formN_ge (by omega)]; simp
theorem formN_len (k : Nat) : ∀ n, n < 128 ^ (k + 1) → (formN n).length ≤ k + 1 := by
  induction k with
  | zero => intro n h; rw [formN_lt (by simpa using h)]; simp
  | succ k ih =>
    intro n h
    by_cases h1 : n < 128
    · rw [formN_lt h1]; simp
    · rw [formN_ge (by omega)]
      have := ih (n / 128) (by rw [Nat.div_lt_iff_lt_mul (by omega)]; rw [Nat.pow_succ] at h; exact h)
      simp only [List.length_cons]; omega
theorem formN_len8 {n : Nat} (h : n ≤ 72057594037927935) : (formN n).length ≤ 8 := formN_len 7 n (by omega)

theorem Size_spec (n : Int) (w : World) : Calls Try.prog 50 #[.int .i64 n] w (Ret (β := Unit) w (ids []) (fun _ => .int .i64 (sizeI n)) (fun _ => []) (fun _ => True)) := by
  refine go [.int .i64 n] [] Try.func50 Try.ntmps50 rfl rfl ⟨by simp [ids], by simp⟩ ?_
  repeat (first | (apply wx_val; (first | exact v_move rfl | exact v_assign rfl | exact v_lt rfl rfl); rfl) | refine wc_seq ?_ | refine wc_region ?_ | refine wx_nil ?_ | refine wq_next ?_)
  refine wx_if 6 rfl (fun h1 => ?_) (fun h1 => ?_)
  · repeat (first | (apply wx_val; (first | exact v_assign rfl | exact v_pickT rfl rfl); rfl) | refine wx_no rfl rfl rfl ?_ | refine wc_seq ?_ | refine wc_region ?_ | refine wx_nil ?_ | refine wq_next ?_ | refine wc_ret ?_ | refine wq_then_ret ?_ | refine wc_condT rfl ?_)
    refine wq_ret1 () rfl ?_ trivial rfl
    rw [sizeI, if_pos (.inl h1)]; rfl
  · repeat (first | (apply wx_val; (first | exact v_move rfl | exact v_gt rfl rfl | exact v_pickF rfl rfl); rfl) | refine wx_ungd rfl rfl ?_ | refine wx_nil ?_ | refine wq_next ?_)
    refine wc_if rfl (fun h2 => ?_) (fun h2 => ?_)
    · repeat (first | (apply wx_val; (first | exact v_assign rfl); rfl) | refine wc_seq ?_ | refine wc_region ?_ | refine wx_nil ?_ | refine wq_next ?_ | refine wc_ret ?_ | refine wq_then_ret ?_)
      refine wq_ret1 () rfl ?_ trivial rfl
      rw [sizeI, if_pos (.inr h2)]; rfl
    · repeat (first | (apply wx_val; (first | exact v_assign rfl); rfl) | refine wc_seq ?_ | refine wc_region ?_ | refine wx_nil ?_ | refine wq_next ?_ | refine wc_block ?_ | refine wc_skip ?_)
      obtain ⟨N, rfl⟩ : ∃ N : Nat, n = N := ⟨n.toNat, by omega⟩
      have hl := formN_len8 (n := N) (by omega)
      refine wc_loop (ι := Nat × Nat) (fun i => [(0, .int .i64 (i.1 : Int)), (3, .int .i64 (i.2 : Int))]) (fun _ => []) (fun i => i.1 ≤ 72057594037927935 ∧ i.2 + (formN i.1).length = (formN N).length + 1) (fun i => i.1) (N, 1) ⟨by (try dsimp only); omega, by (try dsimp only); omega⟩ ⟨rfl, rfl, trivial⟩ rfl ?_
      rintro ⟨m, c⟩ ⟨hm, hc⟩
      have hp := formN_pos m
      dsimp only at hm hc hp
      repeat (first | (apply wx_val; (first | exact v_move rfl | exact v_ge rfl rfl); rfl) | refine wc_seq ?_ | refine wc_region ?_ | refine wx_nil ?_ | refine wq_next ?_)
      refine wc_if rfl (fun h3 => ?_) (fun h3 => ?_)
      · repeat (first | (apply wx_val; (first | exact v_move rfl | exact v_assign rfl | exact v_addi rfl rfl (by omega) | exact v_shr rfl rfl (by omega)); rfl) | refine wc_seq ?_ | refine wc_region ?_ | refine wx_nil ?_ | refine wq_next ?_ | refine wc_block ?_ | refine wc_skip ?_ | refine wq_block ?_)
        have hge := congrArg List.length (formN_ge (n := m) (by omega))
        simp only [List.length_cons] at hge
        refine wq_round (m / 128, c + 1) ⟨by (try dsimp only); omega, by (try dsimp only); omega⟩ (by (try dsimp only); omega) ⟨?_, ?_, trivial⟩ rfl
        · show some (Value.int .i64 (shrI .i64 (m : Int) 7)) = _
          rw [shr7 (by omega)]; rfl
        · show some (Value.int .i64 ((c : Int) + 1)) = _
          rfl
      · repeat (first | (apply wx_val; (first | exact v_move rfl | exact v_assign rfl); rfl) | refine wc_seq ?_ | refine wc_region ?_ | refine wx_nil ?_ | refine wq_next ?_ | refine wc_ret ?_ | refine wc_exit ?_ | refine wq_then_exit ?_ | refine wq_block_exit rfl ?_)
        refine wq_ret1 () rfl ?_ trivial rfl
        have hlt := congrArg List.length (formN_lt (n := m) (by omega))
        simp only [List.length_cons, List.length_nil] at hlt
        rw [sizeI, if_neg (by omega)]
        show some (Value.int .i64 (c : Int)) = _
        congr 2
        simp only [Int.toNat_natCast]
        omega

set_option maxRecDepth 100000 in
theorem or128 (x : Int) : orI .u8 x 128 = x % 128 + 128 := by
  have h1 : ∀ v : Fin 256, ((BitVec.ofNat 8 v.val ||| BitVec.ofInt 8 128).toNat : Int) = (v.val : Int) % 128 + 128 := by decide
  have h2 := h1 ⟨(x % 256).toNat, by omega⟩
  have h3 : BitVec.ofInt 8 x = BitVec.ofNat 8 (x % 256).toNat := by
    apply BitVec.eq_of_toNat_eq
    simp [BitVec.toNat_ofInt]
    omega
  unfold orI
  show IntKind.u8.wrap ((BitVec.ofInt 8 x ||| BitVec.ofInt 8 128).toNat : Int) = _
  rw [h3, h2, wrap8_in (by (try dsimp only); omega)]
  dsimp only
  omega
theorem lit_bys {x : Int} (h : 0 ≤ x ∧ x ≤ 255) : catL [.int .u8 x] = bys [UInt8.ofNat x.toNat] := by
  have h1 : (UInt8.ofNat x.toNat).toNat = x.toNat := by simp; omega
  simp only [catL, cellsL, bys, List.map_cons, List.map_nil, h1, List.append_nil]
  rw [Int.toNat_of_nonneg h.1]
theorem wrap8 (x : Int) : IntKind.u8.wrap x = x % 256 := by
  simp [IntKind.wrap, IntKind.bits, IntKind.signed]

/-- a slice of bytes of one's own comes back -/
abbrev BufB (l : List UInt8) : Option Addr × Nat × Seg → Prop := fun (A, c, E) => Buf 5 1 A l.length c (bys l) E
abbrev RetB (w : World) (X : List Nat) (l : List UInt8) : Ending → World → Prop :=
  Ret w X (fun r : Option Addr × Nat × Seg => .slice r.1 l.length r.2.1) (fun r => [r.2.2]) (BufB l)

theorem number_spec {A : Option Addr} {c : Nat} {l : List UInt8} {E : Seg} (hb : Buf 5 1 A l.length c (bys l) E) (N : Nat) (hN : N ≤ 72057594037927935) (hl : l.length ≤ 140737488355300) (w : World) (ho : Own w [E]) :
    Calls Try.prog 51 #[.slice A l.length c, .int .i64 N] w (RetB w (ids [E]) (l ++ formN N)) := by
  have hl8 := formN_len8 hN
  refine go [.slice A l.length c, .int .i64 N] [E] Try.func51 Try.ntmps51 rfl rfl ho ?_
  repeat (first | (apply wx_val; (first | exact v_assign rfl); rfl) | refine wc_seq ?_ | refine wc_region ?_ | refine wx_nil ?_ | refine wq_next ?_ | refine wc_block ?_)
  refine wc_loop (ι := Nat × Option Addr × Nat × List UInt8 × Seg) (fun (m, A, c, l, E) => [(0, .slice A l.length c), (1, .int .i64 (m : Int))]) (fun (_, _, _, _, E) => [E])
    (fun (m, A, c, l', E) => m ≤ N ∧ l' ++ formN m = l ++ formN N ∧ Buf 5 1 A l'.length c (bys l') E) (fun (m, _) => m) (N, A, c, l, E) ⟨Nat.le_refl _, rfl, hb⟩ ⟨rfl, rfl, trivial⟩ rfl ?_
  clear hb ho
  rintro ⟨m, A, c, l', E⟩ ⟨hm, hc, hb⟩
  have hlen := congrArg List.length hc
  simp only [List.length_append] at hlen
  have hpos := formN_pos m
  repeat (first | (apply wx_val; (first | exact v_move rfl | exact v_ge rfl rfl); rfl) | refine wc_seq ?_ | refine wc_region ?_ | refine wx_nil ?_ | refine wq_next ?_)
  refine wc_if rfl (fun h3 => ?_) (fun h3 => ?_)
  · repeat (first | (apply wx_val; (first | exact v_move rfl | exact v_conv rfl rfl rfl | exact v_or rfl rfl); rfl) | refine wc_seq ?_ | refine wc_region ?_ | refine wq_next ?_ | refine wc_block ?_ | refine wc_skip ?_)
    refine wl_lit rfl rfl rfl rfl rfl (by decide) rfl (fun g => ?_)
    refine wl_append1 0 rfl rfl rfl hb rfl rfl rfl (by intro u hu; simp [catL, cellsL] at hu; subst hu; rfl) (by omega) rfl (fun A2 c2 E2 hb2 => ?_)
    rw [or128, wrap8, lit_bys (by omega), ← bys_append] at hb2
    repeat (first | (apply wx_val; (first | exact v_move rfl | exact v_assign rfl | exact v_shr rfl rfl (by omega)); rfl) | refine wc_region ?_ | refine wx_nil ?_ | refine wq_next ?_ | refine wq_block ?_)
    refine wq_round (m / 128, A2, c2, l' ++ [UInt8.ofNat (m % 128 + 128)], E2) ⟨by (try dsimp only); omega, ?_, ?_⟩ (by (try dsimp only); omega) ⟨?_, ?_, trivial⟩ rfl
    · rw [← hc, formN_ge (n := m) (by omega)]; simp
    · have e : ((m : Int) % 256 % 128 + 128).toNat = m % 128 + 128 := by omega
      rw [e] at hb2
      simpa using hb2
    · simp; rfl
    · show some (Value.int .i64 (shrI .i64 (m : Int) 7)) = _
      rw [shr7 (by omega)]; rfl
  · repeat (first | (apply wx_val; (first | exact v_move rfl | exact v_conv8 rfl rfl rfl (by omega)); rfl) | refine wc_seq ?_ | refine wc_region ?_ | refine wq_next ?_ | refine wc_exit ?_ | refine wq_then_exit ?_ | refine wq_block_exit rfl ?_)
    refine wl_lit rfl rfl rfl rfl rfl (by decide) rfl (fun g => ?_)
    refine wl_append1 0 rfl rfl rfl hb rfl rfl rfl (by intro u hu; simp [catL, cellsL] at hu; subst hu; rfl) (by omega) rfl (fun A2 c2 E2 hb2 => ?_)
    rw [lit_bys (by omega), ← bys_append] at hb2
    repeat (first | (apply wx_val; (first | exact v_assign rfl); rfl) | refine wx_nil ?_ | refine wq_next ?_ | refine wc_ret ?_)
    have e : l' ++ [UInt8.ofNat (m : Int).toNat] = l ++ formN N := by rw [← hc, formN_lt (n := m) (by omega)]; simp
    rw [e] at hb2
    have e2 := congrArg List.length e
    simp only [List.length_append, List.length_cons, List.length_nil] at e2
    refine wq_ret1 (A2, c2, E2) rfl ?_ ?_ rfl
    · show some (Value.slice A2 (l'.length + 1) c2) = _
      rw [show l'.length + 1 = (l ++ formN N).length by simp; omega]
    · show Buf _ _ _ _ _ _ _
      rw [show l'.length + 1 = (l ++ formN N).length by simp; omega] at hb2
      exact hb2

theorem fresh_spec {A : Option Addr} {c : Nat} {l : List UInt8} {R : Int} (h0 : 0 ≤ R) (hl : (l.length : Int) + R ≤ 281474976710656) (w : World) (hv : Vw [] w A (bys l)) :
    Calls Try.prog 52 #[.slice A l.length c, .int .i64 R] w (RetB w (ids []) l) := by
  refine go [.slice A l.length c, .int .i64 R] [] Try.func52 Try.ntmps52 rfl rfl (own_nil w) ?_
  repeat (first | (apply wx_val; (first | exact v_move rfl | exact v_assign rfl | exact v_len rfl rfl | exact v_addi rfl rfl (by omega)); rfl) | refine wc_seq ?_ | refine wc_region ?_ | refine wx_nil ?_ | refine wq_next ?_)
  refine wl_make rfl rfl rfl rfl ?_ ?_ ?_ (by rfl) (fun g => ?_)
  · omega
  · omega
  · omega
  rw [madeCells_one rfl]
  repeat (first | (apply wx_val; (first | exact v_move rfl | exact v_assign rfl); rfl) | refine wc_seq ?_ | refine wc_region ?_ | refine wx_nil ?_ | refine wq_next ?_)
  refine wl_copy 0 rfl rfl rfl rfl (.inl (Nat.le_refl _)) (fun w' hr => (hv.keep hr).rd) (bys_length l) ?_ (one_bys l) rfl ?_
  · simp; omega
  repeat (first | (apply wx_val; (first | exact v_move rfl | exact v_assign rfl); rfl) | refine wc_seq ?_ | refine wc_region ?_ | refine wx_nil ?_ | refine wq_next ?_ | refine wc_ret ?_)
  refine wq_ret1 (some ⟨g, 0, none⟩, ((l.length : Int) + R).toNat, _) rfl rfl ?_ rfl
  refine ⟨by simp, .inr ⟨g, _, _, rfl, rfl, by omega, by simp only [maxLen]; omega, ?_, ?_, .inl (Nat.le_refl _)⟩⟩
  · simp [spliced]; omega
  · simp [spliced]
    rw [List.take_of_length_le (by simp)]

theorem Append_no {A : Option Addr} {c n : Nat} {N : Int} (h : N < 0 ∨ 72057594037927935 < N) (w : World) :
    Calls Try.prog 35 #[.slice A n c, .int .i64 N] w (Ret (β := Unit) w (ids []) (fun _ => .tuple #[.slice none 0 0, .int .i64 50]) (fun _ => []) (fun _ => True)) := by
  refine go [.slice A n c, .int .i64 N] [] Try.func35 Try.ntmps35 rfl rfl (own_nil w) ?_
  repeat (first | (apply wx_val; (first | exact v_move rfl | exact v_assign rfl); rfl) | refine wc_seq ?_ | refine wc_region ?_ | refine wx_nil ?_ | refine wq_next ?_)
  refine wl_call (fun w' hr => Size_spec N w') rfl rfl (List.Perm.refl _) rfl (fun _ _ => ?_)
  rw [show sizeI N = 0 from if_pos h]
  repeat (first | (apply wx_val; (first | exact v_assign rfl | exact v_eq rfl rfl); rfl) | refine wc_seq ?_ | refine wc_region ?_ | refine wx_nil ?_ | refine wq_next ?_ | refine wc_ret ?_ | refine wq_then_ret ?_ | refine wc_condT rfl ?_)
  exact wq_ret2 () rfl rfl rfl rfl trivial rfl

abbrev RetB2 (w : World) (X : List Nat) (l : List UInt8) : Ending → World → Prop :=
  Ret w X (fun r : Option Addr × Nat × Seg => .tuple #[.slice r.1 l.length r.2.1, .int .i64 0]) (fun r => [r.2.2]) (BufB l)
theorem Append_spec {A : Option Addr} {c : Nat} {l : List UInt8} {N : Nat} (hN : N ≤ 72057594037927935) (hl : l.length ≤ 140737488355300) (w : World) (hv : Vw [] w A (bys l)) :
    Calls Try.prog 35 #[.slice A l.length c, .int .i64 N] w (RetB2 w (ids []) (l ++ formN N)) := by
  refine go [.slice A l.length c, .int .i64 N] [] Try.func35 Try.ntmps35 rfl rfl (own_nil w) ?_
  repeat (first | (apply wx_val; (first | exact v_move rfl | exact v_assign rfl); rfl) | refine wc_seq ?_ | refine wc_region ?_ | refine wx_nil ?_ | refine wq_next ?_)
  refine wl_call (fun w' hr => Size_spec N w') rfl rfl (List.Perm.refl _) rfl (fun _ _ => ?_)
  have hs : sizeI N ≠ 0 := by
    have := formN_pos N
    rw [sizeI, if_neg (by omega)]
    simp only [Int.toNat_natCast]
    omega
  repeat (first | (apply wx_val; (first | exact v_eq rfl rfl); rfl) | refine wx_nil ?_ | refine wq_next ?_)
  refine wc_if rfl (fun h3 => absurd h3 hs) (fun h3 => ?_)
  repeat (first | (apply wx_val; (first | exact v_move rfl); rfl) | refine wc_seq ?_ | refine wc_region ?_ | refine wq_next ?_ | refine wc_skip ?_)
  refine wl_call (fun w' hr => fresh_spec (R := 8) (by omega) (by omega) w' (hv.keep hr)) rfl rfl (List.Perm.refl _) rfl ?_
  rintro ⟨A1, c1, E1⟩ hb1
  repeat (first | (apply wx_val; (first | exact v_move rfl); rfl))
  refine wl_call (fun w' hr => number_spec hb1 N hN hl w' hr.own.left) rfl rfl (List.Perm.refl _) rfl ?_
  rintro ⟨A2, c2, E2⟩ hb2
  repeat (first | (apply wx_val; (first | exact v_assign rfl); rfl) | refine wx_nil ?_ | refine wq_next ?_ | refine wc_ret ?_)
  exact wq_ret2 (A2, c2, E2) rfl rfl rfl rfl hb2 rfl

/-- a text's form -/
def textB (s : ByteArray) : List UInt8 := formN s.size ++ s.data.toList
theorem AppendText_spec {A : Option Addr} {c : Nat} {l : List UInt8} {s : ByteArray} (hl : l.length + s.size ≤ 140737488355300) (w : World) (hv : Vw [] w A (bys l)) :
    Calls Try.prog 49 #[.slice A l.length c, .string s] w (RetB2 w (ids []) (l ++ textB s)) := by
  refine go [.slice A l.length c, .string s] [] Try.func49 Try.ntmps49 rfl rfl (own_nil w) ?_
  repeat (first | (apply wx_val; (first | exact v_move rfl | exact v_assign rfl | exact v_slen rfl rfl | exact v_addi rfl rfl (by omega)); rfl) | refine wc_seq ?_ | refine wc_region ?_ | refine wx_nil ?_ | refine wq_next ?_)
  refine wl_call (fun w' hr => fresh_spec (R := 8 + (s.size : Int)) (by omega) (by omega) w' (hv.keep hr)) rfl rfl (List.Perm.refl _) rfl ?_
  rintro ⟨A1, c1, E1⟩ hb1
  repeat (first | (apply wx_val; (first | exact v_move rfl | exact v_slen rfl rfl); rfl))
  refine wl_call (fun w' hr => number_spec hb1 s.size (by omega) (by omega) w' hr.own.left) rfl rfl (List.Perm.refl _) rfl ?_
  rintro ⟨A2, c2, E2⟩ hb2
  repeat (first | (apply wx_val; (first | exact v_move rfl); rfl))
  have h8 := formN_len8 (n := s.size) (by omega)
  refine wl_append 0 rfl rfl hb2 rfl rfl (fun w' hr => src_str rfl s) (by simp only [List.length_append]; omega) rfl (fun A3 c3 E3 hb3 => ?_)
  repeat (first | (apply wx_val; (first | exact v_assign rfl); rfl) | refine wx_nil ?_ | refine wq_next ?_ | refine wc_ret ?_)
  have e : (l ++ formN s.size).length + s.size = (l ++ textB s).length := by simp [textB, Nat.add_assoc]
  rw [e, ← bys_append, List.append_assoc] at hb3
  refine wq_ret2 (A3, c3, E3) rfl rfl rfl ?_ hb3 rfl
  rw [← e]

end Go.Proofs.Ytjfjleejbbmmaaa
