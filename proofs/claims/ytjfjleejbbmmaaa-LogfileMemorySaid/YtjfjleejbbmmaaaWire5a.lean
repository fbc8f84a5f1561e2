/- Contracts of the reference's writing functions. -/
import Derived.Test.YtjfjleejbbmmaaaWire1
set_option linter.unusedVariables false
set_option linter.unusedSimpArgs false
namespace Go.Proofs.Ytjfjleejbbmmaaa
open Go
set_option maxRecDepth 20000
attribute [local irreducible] WX WC WQ Val VCall
theorem sget {s : ByteArray} {i : Nat} (h : i < s.size) : s[i] = s.data.toList.getD i 0 := by
  have h' : i < s.data.toList.length := by simpa using h
  rw [List.getD_eq_getElem?_getD, List.getElem?_eq_getElem h']
  rfl
def formI (n : Int) : List UInt8 := if n < 0 ∨ 72057594037927935 < n then [] else formN n.toNat
theorem Form_spec (n : Int) (w : World) : Calls Try.prog 37 #[.int .i64 n] w (RetB w (ids []) (formI n)) := by
  refine go [.int .i64 n] [] Try.func37 Try.ntmps37 rfl rfl (own_nil w) ?_
  repeat (first | (apply wx_val; (first | exact v_move rfl | exact v_assign rfl | exact v_lt rfl rfl); rfl) | refine wc_seq ?_ | refine wc_region ?_ | refine wx_nil ?_ | refine wq_next ?_)
  refine wx_if 6 rfl (fun h1 => ?_) (fun h1 => ?_)
  · have e : formI n = [] := if_pos (.inl h1)
    repeat (first | (apply wx_val; (first | exact v_assign rfl | exact v_pickT rfl rfl); rfl) | refine wx_no rfl rfl rfl ?_ | refine wc_seq ?_ | refine wc_region ?_ | refine wx_nil ?_ | refine wq_next ?_ | refine wc_ret ?_ | refine wq_then_ret ?_ | refine wc_condT rfl ?_)
    rw [e]
    exact wq_seg (wq_ret1 (none, 0, []) rfl rfl (Buf.nil _ _) rfl)
  · repeat (first | (apply wx_val; (first | exact v_move rfl | exact v_gt rfl rfl | exact v_pickF rfl rfl); rfl) | refine wx_ungd rfl rfl ?_ | refine wx_nil ?_ | refine wq_next ?_)
    refine wc_if rfl (fun h2 => ?_) (fun h2 => ?_)
    · have e : formI n = [] := if_pos (.inr h2)
      repeat (first | (apply wx_val; (first | exact v_assign rfl); rfl) | refine wc_seq ?_ | refine wc_region ?_ | refine wx_nil ?_ | refine wq_next ?_ | refine wc_ret ?_ | refine wq_then_ret ?_)
      rw [e]
      exact wq_seg (wq_ret1 (none, 0, []) rfl rfl (Buf.nil _ _) rfl)
    · obtain ⟨N, rfl⟩ : ∃ N : Nat, n = N := ⟨n.toNat, by omega⟩
      have e : formI N = formN N := by rw [formI, if_neg (by omega)]; rfl
      have hl := formN_len8 (n := N) (by omega)
      repeat (first | (apply wx_val; (first | exact v_move rfl | exact v_conv8 rfl rfl rfl (by omega) | exact v_remi rfl rfl (by omega)); rfl) | refine wc_seq ?_ | refine wc_region ?_ | refine wq_next ?_ | refine wc_skip ?_)
      refine wl_lit rfl rfl rfl rfl rfl (by decide) rfl (fun g => ?_)
      rw [lit_bys (by omega)]
      repeat (first | (apply wx_val; (first | exact v_move rfl | exact v_assign rfl | exact v_quoi rfl rfl (by omega)); rfl) | refine wc_seq ?_ | refine wc_region ?_ | refine wx_nil ?_ | refine wq_next ?_ | refine wc_block ?_)
      refine wc_loop (ι := List UInt8 × Nat × Nat × Option Addr × Nat × Seg) (fun (pre, x, m, A, c, E) => [(0, .int .i64 (m : Int)), (3, .slice A (pre.length + 1) c)]) (fun (_, _, _, _, _, E) => [E])
        (fun (pre, x, m, A, c, E) => x < 128 ∧ m ≤ 72057594037927935 ∧ pre ++ formN (m * 128 + x) = formN N ∧ Buf 5 1 A (pre.length + 1) c (bys (pre ++ [UInt8.ofNat x])) E) (fun (_, _, m, _) => m)
        ([], N % 128, N / 128, some ⟨g, 0, none⟩, 1, _) ⟨by (try dsimp only); omega, by (try dsimp only); omega, ?_, Buf.full (n := 1) _ rfl (by decide)⟩ ⟨?_, rfl, trivial⟩ ?_ ?_
      · simp only [List.nil_append]; congr 1; omega
      · rfl
      · have : ((N : Int) % 128).toNat = N % 128 := by omega
        rw [this]; rfl
      rintro ⟨pre, x, m, A, c, E⟩ ⟨hx, hm, hf, hb⟩
      repeat (first | (apply wx_val; (first | exact v_move rfl | exact v_gt rfl rfl); rfl) | refine wc_seq ?_ | refine wc_region ?_ | refine wx_nil ?_ | refine wq_next ?_)
      refine wc_if rfl (fun h3 => ?_) (fun h3 => ?_)
      · have hge := formN_ge (n := m * 128 + x) (by omega)
        rw [show (m * 128 + x) / 128 = m by omega, show (m * 128 + x) % 128 = x by omega] at hge
        rw [hge] at hf
        have hlen := congrArg List.length hf
        simp only [List.length_append, List.length_cons] at hlen
        have hpos := formN_pos m
        obtain ⟨ga, rfl⟩ := hb.ptr (by omega)
        repeat (first | (apply wx_val; (first | exact v_move rfl | exact v_len rfl rfl | exact v_subi rfl rfl (by omega) | exact v_iaddr rfl rfl rfl (by omega)); rfl) | refine wc_seq ?_ | refine wc_region ?_ | refine wq_next ?_ | refine wc_block ?_ | refine wc_skip ?_)
        apply wx_val
        exact v_ldx (off' := pre.length) (v := .int .u8 ((UInt8.ofNat x).toNat : Int)) rfl rfl rfl (fun w' hr => hb.cellAt (k := 0) hr rfl (by simp [bys])) (by omega)
        rfl
        repeat (first | (apply wx_val; (first | exact v_iaddr rfl rfl rfl (by omega) | exact v_add rfl rfl); rfl))
        refine wl_bset 0 pre.length rfl rfl hb rfl rfl (by omega) (by omega) rfl rfl (fun E2 hb2 => ?_)
        have e1 : (bys (pre ++ [UInt8.ofNat x])).set pre.length (Value.int IntKind.u8 (IntKind.u8.wrap (((UInt8.ofNat x).toNat : Int) + 128))) = bys (pre ++ [UInt8.ofNat (x + 128)]) := by
          have h5 : (UInt8.ofNat x).toNat = x := by simp; omega
          have h6 : (UInt8.ofNat (x + 128)).toNat = x + 128 := by simp; omega
          rw [h5, wrap8_in (by omega)]
          simp [bys]
          omega
        rw [e1] at hb2
        repeat (first | (apply wx_val; (first | exact v_move rfl | exact v_conv8 rfl rfl rfl (by omega) | exact v_remi rfl rfl (by omega)); rfl) | refine wc_region ?_ | refine wx_nil ?_ | refine wq_next ?_)
        refine wl_lit rfl rfl rfl rfl rfl (by decide) rfl (fun g4 => ?_)
        refine wl_append1 0 rfl rfl rfl hb2 rfl rfl rfl (by intro u hu; simp [catL, cellsL] at hu; subst hu; rfl) (by omega) rfl (fun A3 c3 E3 hb3 => ?_)
        rw [lit_bys (by omega), ← bys_append] at hb3
        repeat (first | (apply wx_val; (first | exact v_move rfl | exact v_assign rfl | exact v_quoi rfl rfl (by omega)); rfl) | refine wc_region ?_ | refine wx_nil ?_ | refine wq_next ?_ | refine wq_block ?_)
        refine wq_round (pre ++ [UInt8.ofNat (x + 128)], m % 128, m / 128, A3, c3, E3) ⟨by (try dsimp only); omega, by (try dsimp only); omega, ?_, ?_⟩ (by (try dsimp only); omega) ⟨rfl, ?_, trivial⟩ rfl
        · rw [show m / 128 * 128 + m % 128 = m by omega, ← hf]; simp
        · have : ((m : Int) % 128).toNat = m % 128 := by omega
          rw [this] at hb3
          simpa using hb3
        · simp; rfl
      · have hm0 : m = 0 := by omega
        subst hm0
        rw [formN_lt (n := 0 * 128 + x) (by omega)] at hf
        simp only [Nat.zero_mul, Nat.zero_add] at hf
        repeat (first | (apply wx_val; (first | exact v_move rfl | exact v_assign rfl); rfl) | refine wc_seq ?_ | refine wc_region ?_ | refine wx_nil ?_ | refine wq_next ?_ | refine wc_ret ?_ | refine wc_exit ?_ | refine wq_then_exit ?_ | refine wq_block_exit rfl ?_)
        rw [e, ← hf]
        refine wq_ret1 (A, c, E) rfl ?_ ?_ rfl
        · simp; rfl
        · simpa [BufB] using hb

theorem refText_spec {s : ByteArray} (hs : s.size ≤ 140737488355300) (w : World) : Calls Try.prog 54 #[.string s] w (RetB w (ids []) (textB s)) := by
  refine go [.string s] [] Try.func54 Try.ntmps54 rfl rfl (own_nil w) ?_
  repeat (first | (apply wx_val; (first | exact v_move rfl | exact v_assign rfl | exact v_slen rfl rfl); rfl) | refine wc_seq ?_ | refine wc_region ?_ | refine wx_nil ?_ | refine wq_next ?_)
  refine wl_call (fun w' hr => Form_spec _ w') rfl rfl (List.Perm.refl _) rfl ?_
  rintro ⟨A1, c1, E1⟩ hb1
  have e0 : formI s.size = formN s.size := by rw [formI, if_neg (by omega)]; rfl
  rw [e0] at hb1
  rw [e0]
  have h8 := formN_len8 (n := s.size) (by omega)
  repeat (first | (apply wx_val; (first | exact v_assign rfl); rfl) | refine wc_seq ?_ | refine wc_region ?_ | refine wx_nil ?_ | refine wq_next ?_ | refine wc_block ?_)
  have hsz : s.data.toList.length = s.size := by simp
  refine wc_loop (ι := Nat × Option Addr × Nat × Seg) (fun (i, A, c, E) => [(0, .string s), (3, .slice A ((formN s.size).length + i) c), (4, .int .i64 (i : Int))]) (fun (_, _, _, E) => [E])
    (fun (i, A, c, E) => i ≤ s.size ∧ Buf 5 1 A ((formN s.size).length + i) c (bys (formN s.size ++ s.data.toList.take i)) E) (fun (i, _) => s.size - i) (0, A1, c1, E1) ⟨by (try dsimp only); omega, by simpa using hb1⟩ ⟨rfl, rfl, rfl, trivial⟩ rfl ?_
  rintro ⟨i, A, c, E⟩ ⟨hi, hb⟩
  repeat (first | (apply wx_val; (first | exact v_move rfl | exact v_slen rfl rfl | exact v_lt rfl rfl); rfl) | refine wc_seq ?_ | refine wc_region ?_ | refine wx_nil ?_ | refine wq_next ?_)
  refine wc_if rfl (fun h1 => ?_) (fun h1 => ?_)
  · repeat (first | (apply wx_val; (first | exact v_move rfl); rfl) | refine wc_seq ?_ | refine wc_region ?_ | refine wq_next ?_ | refine wc_block ?_ | refine wc_skip ?_)
    apply wx_val
    exact v_sidx rfl rfl rfl (by omega) (by omega)
    rfl
    refine wl_lit rfl rfl rfl rfl rfl (by decide) rfl (fun g4 => ?_)
    refine wl_append1 0 rfl rfl rfl hb rfl rfl rfl (by intro u hu; simp [catL, cellsL] at hu; subst hu; rfl) (by omega) rfl (fun A3 c3 E3 hb3 => ?_)
    repeat (first | (apply wx_val; (first | exact v_move rfl | exact v_assign rfl | exact v_addi rfl rfl (by omega)); rfl) | refine wc_region ?_ | refine wx_nil ?_ | refine wq_next ?_ | refine wq_block ?_)
    refine wq_round (i + 1, A3, c3, E3) ⟨by (try dsimp only); omega, ?_⟩ (by (try dsimp only); omega) ⟨rfl, rfl, rfl, trivial⟩ rfl
    rw [take_snocD (by omega), ← List.append_assoc, bys_append]
    have : catL [Value.int IntKind.u8 ((s[(i : Int).toNat]'(by omega)).toNat : Int)] = bys [s.data.toList.getD i 0] := by
      rw [← sget (s := s) (i := i) (by omega)]
      simp [catL, cellsL, bys]
    rw [this] at hb3
    exact hb3
  · have hi' : i = s.size := by omega
    subst hi'
    rw [List.take_of_length_le (by omega)] at hb
    repeat (first | (apply wx_val; (first | exact v_move rfl | exact v_assign rfl); rfl) | refine wc_seq ?_ | refine wc_region ?_ | refine wx_nil ?_ | refine wq_next ?_ | refine wc_ret ?_ | refine wc_exit ?_ | refine wq_then_exit ?_ | refine wq_block_exit rfl ?_)
    refine wq_ret1 (A, c, E) rfl ?_ ?_ rfl
    · simp only [textB, List.length_append, hsz]; rfl
    · simp only [BufB, textB, List.length_append, hsz]; exact hb
end Go.Proofs.Ytjfjleejbbmmaaa
