/- The reference's reading of a number. -/
import Derived.Test.YtjfjleejbbmmaaaWire5a
import Derived.Test.YtjfjleejbbmmaaaWire4
import Derived.Test.YtjfjleejbbmmaaaKit1
set_option linter.unusedVariables false
set_option linter.unusedSimpArgs false
set_option maxRecDepth 20000
namespace Go.Proofs.Ytjfjleejbbmmaaa
open Go
attribute [local irreducible] WX WC WQ Val VCall
theorem int_eq {a b : Int} (h : a = b) : some (Value.int .i64 a) = some (Value.int .i64 b) := by rw [h]
def hor : List UInt8 → Nat
  | [] => 0
  | b :: r => b.toNat % 128 + 128 * hor r
theorem hor_snoc (l : List UInt8) (b : UInt8) : hor (l ++ [b]) = hor l + b.toNat % 128 * 128 ^ l.length := by
  induction l with
  | nil => simp [hor]
  | cons x r ih =>
    simp only [List.cons_append, hor, ih, List.length_cons, Nat.pow_succ]
    rw [Nat.mul_add, Nat.add_assoc]
    congr 2
    rw [← Nat.mul_assoc, Nat.mul_comm 128, Nat.mul_assoc, Nat.mul_comm 128]
theorem hor_lt : ∀ l : List UInt8, hor l < 128 ^ l.length
  | [] => by simp [hor]
  | b :: r => by
    have := hor_lt r
    simp only [hor, List.length_cons, Nat.pow_succ]
    omega
theorem drop_getD {d : List UInt8} {p i : Nat} : (d.drop p).getD i 0 = d.getD (p + i) 0 := by
  simp [List.getD]
theorem take_getD {d : List UInt8} {n i : Nat} (h : i < n) : (d.take n).getD i 0 = d.getD i 0 := by
  simp [List.getD, List.getElem?_take, h]
set_option maxHeartbeats 2000000 in
/-- the number that stands at the head of a list: what the reference answers -/
theorem At_spec {A : Option Addr} {c p : Nat} {d : List UInt8} (hd : d.length ≤ 140737488355328) (hp : p ≤ d.length) (w : World) (hv : Vw [] w A (bys d)) :
    Calls Try.prog 60 #[.slice A d.length c, .int .i64 (p : Nat)] w (Ret (β := Unit) w (ids []) (fun _ => .tuple #[.int .i64 ((scanL 0 0 (d.drop p)).1 : Nat), .int .i64 ((scanL 0 0 (d.drop p)).2.1 : Nat), .int .i64 (scanL 0 0 (d.drop p)).2.2]) (fun _ => []) (fun _ => True)) := by
  refine go [.slice A d.length c, .int .i64 (p : Nat)] [] Try.func60 Try.ntmps60 rfl rfl (own_nil w) ?_
  repeat (first | (apply wx_val; (first | exact v_move rfl | exact v_assign rfl); rfl) | refine wc_seq ?_ | refine wc_region ?_ | refine wx_nil ?_ | refine wq_next ?_ | refine wc_block ?_)
  generalize hD : d.drop p = D at *
  have hDl : D.length = d.length - p := by rw [← hD]; simp
  have hDg : ∀ i, D.getD i 0 = d.getD (p + i) 0 := fun i => by rw [← hD]; exact drop_getD
  refine wc_loop (ι := Nat × Nat) (fun i => [(0, .slice A d.length c), (1, .int .i64 (p : Nat)), (7, .int .i64 (i.2 : Nat)), (8, .int .i64 ((p + i.1 : Nat) : Int))]) (fun _ => [])
    (fun i => i.1 ≤ D.length ∧ ((i.2 = 0 ∧ i.1 ≤ 7 ∧ scanL 0 0 D = scanL i.1 (hor (D.take i.1)) (D.drop i.1)) ∨ (i.2 = i.1 ∧ 1 ≤ i.2 ∧ i.2 ≤ 8 ∧ scanL 0 0 D = if (D.getD (i.2 - 1) 0).toNat = 0 ∧ 1 < i.2 then (0, 0, 52) else (hor (D.take i.2), i.2, 0))))
    (fun i => D.length - i.1) (0, 0) ⟨Nat.zero_le _, .inl ⟨rfl, by decide, by simp [hor]⟩⟩ ⟨rfl, rfl, rfl, rfl, trivial⟩ rfl ?_
  rintro ⟨j, size⟩ ⟨hj, hinv⟩
  dsimp only at hj hinv ⊢
  repeat (first | (apply wx_val; (first | exact v_move rfl | exact v_len rfl rfl | exact v_lt rfl rfl); rfl) | refine wc_seq ?_ | refine wc_region ?_)
  refine wx_if 16 rfl (fun h1 => ?_) (fun h1 => ?_)
  · repeat (first | (apply wx_val; (first | exact v_move rfl | exact v_eq rfl rfl | exact v_pickT rfl rfl); rfl) | refine wx_ungd rfl rfl ?_ | refine wx_nil ?_ | refine wq_next ?_)
    refine wc_if rfl (fun h2 => ?_) (fun h2 => ?_)
    · obtain ⟨rfl, h7, hsc⟩ : size = 0 ∧ j ≤ 7 ∧ scanL 0 0 D = scanL j (hor (D.take j)) (D.drop j) := by
        rcases hinv with h | h
        · exact h
        · omega
      obtain ⟨g, o, rfl, hcell⟩ := hv.atB (i := p + j) (by omega)
      have hg := hDg j
      have hlt := (d.getD (p + j) 0).toNat_lt
      obtain ⟨x, hx⟩ : ∃ x : Nat, (d.getD (p + j) 0).toNat = x := ⟨_, rfl⟩
      rw [hx] at hlt
      repeat (first | (apply wx_val; (first | exact v_move rfl | exact v_iaddr rfl rfl rfl (by omega)); rfl) | refine wc_seq ?_ | refine wc_region ?_ | refine wq_next ?_ | refine wc_block ?_ | refine wc_skip ?_)
      apply wx_val
      exact v_ldx rfl rfl rfl (fun w' hr => hcell (p + j) w' _ (by omega) hr) (by omega)
      rfl
      rw [hx]
      repeat (first | (apply wx_val; (first | exact v_lt rfl rfl); rfl) | refine wx_nil ?_ | refine wq_next ?_)
      refine wc_if rfl (fun h4 => ?_) (fun h4 => ?_)
      · have h4' : x < 128 := by omega
        repeat (first | (apply wx_val; (first | exact v_move rfl | exact v_assign rfl | exact v_addi rfl rfl (by omega) | exact v_subi rfl rfl (by omega) | exact v_iaddr rfl rfl rfl (by omega)); rfl) | refine wc_seq ?_ | refine wc_region ?_ | refine wx_nil ?_ | refine wq_next ?_)
        apply wx_val
        exact v_ldx rfl rfl rfl (fun w' hr => hcell (p + j) w' _ (by omega) hr) (by omega)
        rfl
        rw [hx]
        repeat (first | (apply wx_val; (first | exact v_move rfl | exact v_ge rfl rfl); rfl))
        refine wx_not 36 rfl (decide_eq_false (by omega)) ?_
        repeat (first | (apply wx_val; (first | exact v_move rfl | exact v_assign rfl | exact v_addi rfl rfl (by omega) | exact v_pickF rfl rfl); rfl) | refine wx_no rfl rfl rfl ?_ | refine wc_region ?_ | refine wx_nil ?_ | refine wq_next ?_ | refine wc_skip ?_ | refine wq_block ?_ | refine wc_condF rfl ?_)
        refine wq_round (j + 1, j + 1) ⟨by dsimp only; omega, .inr ⟨rfl, by dsimp only; omega, by dsimp only; omega, ?_⟩⟩ (by (try dsimp only); omega) ⟨rfl, rfl, ?_, ?_, trivial⟩ rfl
        · show scanL 0 0 D = if (D.getD (j + 1 - 1) 0).toNat = 0 ∧ 1 < j + 1 then (0, 0, 52) else (hor (D.take (j + 1)), j + 1, 0)
          rw [hsc, drop_cons (d := D) (i := j) (by omega), Nat.add_sub_cancel, hg, take_snocD (by omega), hor_snoc, List.length_take_of_le (by omega), hg]
          simp only [scanL, hx]
          rw [if_neg (by omega), if_pos h4', Nat.mod_eq_of_lt h4']
          by_cases hz : x = 0 ∧ 0 < j
          · rw [if_pos hz, if_pos ⟨hz.1, by omega⟩]
          · rw [if_neg hz, if_neg (by omega)]
        · exact int_eq (by dsimp only; omega)
        · exact int_eq (by dsimp only; omega)
      · have h4' : 128 ≤ x := by omega
        repeat (first | (apply wx_val; (first | exact v_move rfl | exact v_iaddr rfl rfl rfl (by omega)); rfl) | refine wc_seq ?_ | refine wc_region ?_ | refine wq_next ?_ | refine wc_skip ?_)
        apply wx_val
        exact v_ldx rfl rfl rfl (fun w' hr => hcell (p + j) w' _ (by omega) hr) (by omega)
        rfl
        rw [hx]
        repeat (first | (apply wx_val; (first | exact v_move rfl | exact v_ge rfl rfl); rfl))
        refine wx_yes 36 rfl (decide_eq_true (by omega)) ?_
        repeat (first | (apply wx_val; (first | exact v_move rfl | exact v_eq rfl rfl | exact v_subi rfl rfl (by omega) | exact v_pickT rfl rfl); rfl) | refine wx_ungd rfl rfl ?_ | refine wx_nil ?_ | refine wq_next ?_)
        have hnext : scanL 0 0 D = scanL (j + 1) (hor (D.take (j + 1))) (D.drop (j + 1)) := by
          rw [hsc, drop_cons (d := D) (i := j) (by omega), hg, take_snocD (by omega), hor_snoc, List.length_take_of_le (by omega), hg]
          simp only [scanL, hx]
          rw [if_neg (by omega), if_neg (by omega)]
        refine wc_if rfl (fun h5 => ?_) (fun h5 => ?_)
        · have hj7 : j = 7 := by omega
          have e : scanL 0 0 D = (0, 0, 52) := by
            rw [hnext, hj7]
            cases D.drop (7 + 1) with
            | nil => rfl
            | cons b r => simp only [scanL]; rfl
          repeat (first | (apply wx_val; (first | exact v_assign rfl); rfl) | refine wc_seq ?_ | refine wc_region ?_ | refine wx_nil ?_ | refine wq_next ?_ | refine wc_ret ?_ | refine wq_then_ret ?_ | refine wq_block_ret ?_)
          refine wq_ret3 () rfl rfl rfl rfl ?_ trivial rfl
          rw [e]; rfl
        · repeat (first | (apply wx_val; (first | exact v_move rfl | exact v_assign rfl | exact v_addi rfl rfl (by omega)); rfl) | refine wc_region ?_ | refine wx_nil ?_ | refine wq_next ?_ | refine wc_skip ?_ | refine wq_block ?_)
          refine wq_round (j + 1, 0) ⟨by dsimp only; omega, .inl ⟨rfl, by dsimp only; omega, hnext⟩⟩ (by (try dsimp only); omega) ⟨rfl, rfl, rfl, ?_, trivial⟩ rfl
          exact int_eq (by dsimp only; omega)
    · have he : size = 0 → scanL 0 0 D = (0, 0, 51) := fun h => absurd h (by omega)
      repeat (first | (apply wx_val; (first | exact v_move rfl | exact v_eq rfl rfl); rfl) | refine wc_seq ?_ | refine wc_region ?_ | refine wx_nil ?_ | refine wq_next ?_ | refine wc_exit ?_ | refine wq_then_exit ?_ | refine wq_block_exit rfl ?_)
      refine wc_if rfl (fun h3 => ?_) (fun h3 => ?_)
      · have e := he (by omega)
        repeat (first | (apply wx_val; (first | exact v_assign rfl); rfl) | refine wc_seq ?_ | refine wc_region ?_ | refine wx_nil ?_ | refine wq_next ?_ | refine wc_ret ?_ | refine wq_then_ret ?_)
        refine wq_ret3 () rfl rfl rfl rfl ?_ trivial rfl
        rw [e]; rfl
      · obtain ⟨hsj, hs1, hs8, hsc⟩ : size = j ∧ 1 ≤ size ∧ size ≤ 8 ∧ scanL 0 0 D = if (D.getD (size - 1) 0).toNat = 0 ∧ 1 < size then (0, 0, 52) else (hor (D.take size), size, 0) := by
          rcases hinv with h | h
          · omega
          · exact h
        obtain ⟨g, o, rfl, hcell⟩ := hv.atB (i := p + (size - 1)) (by omega)
        repeat (first | (apply wx_val; (first | exact v_move rfl | exact v_gt rfl rfl); rfl) | refine wc_seq ?_ | refine wc_region ?_ | refine wq_next ?_ | refine wc_skip ?_)
        refine wx_if 46 rfl (fun h4 => ?_) (fun h4 => ?_)
        · obtain ⟨x, hx⟩ : ∃ x : Nat, (d.getD (p + (size - 1)) 0).toNat = x := ⟨_, rfl⟩
          have hlt := (d.getD (p + (size - 1)) 0).toNat_lt
          rw [hx] at hlt
          rw [hDg, hx] at hsc
          repeat (first | (apply wx_val; (first | exact v_move rfl | exact v_addi rfl rfl (by omega) | exact v_subi rfl rfl (by omega) | exact v_iaddr rfl rfl rfl (by omega)); rfl) | refine wx_ungd rfl rfl ?_)
          apply wx_val
          exact v_ldx rfl rfl rfl (fun w' hr => hcell (p + (size - 1)) w' _ (by omega) hr) (by omega)
          rfl
          rw [hx]
          repeat (first | (apply wx_val; (first | exact v_eq rfl rfl | exact v_pickT rfl rfl); rfl) | refine wx_ungd rfl rfl ?_ | refine wx_nil ?_ | refine wq_next ?_)
          refine wc_if rfl (fun h6 => ?_) (fun h6 => ?_)
          · have e : scanL 0 0 D = (0, 0, 52) := by rw [hsc, if_pos (by omega)]
            repeat (first | (apply wx_val; (first | exact v_assign rfl); rfl) | refine wc_seq ?_ | refine wc_region ?_ | refine wx_nil ?_ | refine wq_next ?_ | refine wc_ret ?_ | refine wq_then_ret ?_)
            refine wq_ret3 () rfl rfl rfl rfl ?_ trivial rfl
            rw [e]; rfl
          · have hval : scanL 0 0 D = (hor (D.take size), size, 0) := by rw [hsc, if_neg (by omega)]
            repeat (first | (apply wx_val; (first | exact v_move rfl | exact v_assign rfl | exact v_subi rfl rfl (by omega)); rfl) | refine wc_seq ?_ | refine wc_region ?_ | refine wx_nil ?_ | refine wq_next ?_ | refine wc_block ?_ | refine wc_skip ?_)
            refine wc_loop (ι := Nat) (fun k => [(0, .slice (some ⟨g, o, none⟩) d.length c), (1, .int .i64 (p : Nat)), (7, .int .i64 (size : Nat)), (9, .int .i64 (hor ((D.take size).drop k) : Nat)), (10, .int .i64 ((k : Int) - 1))]) (fun _ => [])
              (fun k => k ≤ size) (fun k => k) size (Nat.le_refl _) ⟨rfl, rfl, rfl, ?_, ?_, trivial⟩ rfl ?_
            · exact int_eq (by rw [List.drop_of_length_le (by simp; omega)]; rfl)
            · exact int_eq (by omega)
            intro k hk
            repeat (first | (apply wx_val; (first | exact v_move rfl | exact v_ge rfl rfl); rfl) | refine wc_seq ?_ | refine wc_region ?_ | refine wx_nil ?_ | refine wq_next ?_)
            refine wc_if rfl (fun h5 => ?_) (fun h5 => ?_)
            · obtain ⟨x, hx⟩ : ∃ x : Nat, (d.getD (p + (k - 1)) 0).toNat = x := ⟨_, rfl⟩
              have hlt := (d.getD (p + (k - 1)) 0).toNat_lt
              rw [hx] at hlt
              have hh := hor_lt ((D.take size).drop k)
              have hh2 : 128 ^ ((D.take size).drop k).length ≤ 128 ^ 7 := Nat.pow_le_pow_right (by decide) (by simp; omega)
              have hstep : hor ((D.take size).drop (k - 1)) = x % 128 + 128 * hor ((D.take size).drop k) := by
                rw [drop_cons (d := D.take size) (i := k - 1) (by simp; omega), take_getD (by omega), hDg, Nat.sub_add_cancel (by omega)]
                simp only [hor, hx]
              generalize hor ((D.take size).drop k) = m at *
              have hm : m ≤ 562949953421312 := by
                have : (128 : Nat) ^ 7 = 562949953421312 := by decide
                omega
              clear hh hh2
              repeat (first | (apply wx_val; (first | exact v_move rfl | exact v_addi rfl rfl (by omega) | exact v_iaddr rfl rfl rfl (by omega) | exact v_muli rfl rfl (by omega)); rfl) | refine wc_seq ?_ | refine wc_region ?_ | refine wq_next ?_ | refine wc_block ?_ | refine wc_skip ?_)
              apply wx_val
              exact v_ldx rfl rfl rfl (fun w' hr => hcell (p + (k - 1)) w' _ (by omega) hr) (by omega)
              rfl
              rw [hx]
              repeat (first | (apply wx_val; (first | exact v_move rfl | exact v_assign rfl | exact v_addi rfl rfl (by omega) | exact v_subi rfl rfl (by omega) | exact v_convi rfl rfl rfl (by omega) | exact v_remi rfl rfl (by omega)); rfl) | refine wc_region ?_ | refine wx_nil ?_ | refine wq_next ?_ | refine wq_block ?_)
              refine wq_round (k - 1) (by (try dsimp only); omega) (by (try dsimp only); omega) ⟨rfl, rfl, rfl, ?_, ?_, trivial⟩ rfl
              · exact int_eq (by rw [hstep]; omega)
              · exact int_eq (by omega)
            · have hk0 : k = 0 := by omega
              subst hk0
              repeat (first | (apply wx_val; (first | exact v_move rfl | exact v_assign rfl); rfl) | refine wc_seq ?_ | refine wc_region ?_ | refine wx_nil ?_ | refine wq_next ?_ | refine wc_ret ?_ | refine wc_exit ?_ | refine wq_then_exit ?_ | refine wq_block_exit rfl ?_)
              refine wq_ret3 () rfl rfl rfl rfl ?_ trivial rfl
              rw [hval]; rfl
        · have hval : scanL 0 0 D = (hor (D.take size), size, 0) := by rw [hsc, if_neg (by omega)]
          repeat (first | (apply wx_val; (first | exact v_move rfl | exact v_assign rfl | exact v_subi rfl rfl (by omega) | exact v_pickF rfl rfl); rfl) | refine wx_no rfl rfl rfl ?_ | refine wc_seq ?_ | refine wc_region ?_ | refine wx_nil ?_ | refine wq_next ?_ | refine wc_block ?_ | refine wc_skip ?_ | refine wc_condF rfl ?_)
          refine wc_loop (ι := Nat) (fun k => [(0, .slice (some ⟨g, o, none⟩) d.length c), (1, .int .i64 (p : Nat)), (7, .int .i64 (size : Nat)), (9, .int .i64 (hor ((D.take size).drop k) : Nat)), (10, .int .i64 ((k : Int) - 1))]) (fun _ => [])
            (fun k => k ≤ size) (fun k => k) size (Nat.le_refl _) ⟨rfl, rfl, rfl, ?_, ?_, trivial⟩ rfl ?_
          · exact int_eq (by rw [List.drop_of_length_le (by simp; omega)]; rfl)
          · exact int_eq (by omega)
          intro k hk
          repeat (first | (apply wx_val; (first | exact v_move rfl | exact v_ge rfl rfl); rfl) | refine wc_seq ?_ | refine wc_region ?_ | refine wx_nil ?_ | refine wq_next ?_)
          refine wc_if rfl (fun h5 => ?_) (fun h5 => ?_)
          · obtain ⟨x, hx⟩ : ∃ x : Nat, (d.getD (p + (k - 1)) 0).toNat = x := ⟨_, rfl⟩
            have hlt := (d.getD (p + (k - 1)) 0).toNat_lt
            rw [hx] at hlt
            have hh := hor_lt ((D.take size).drop k)
            have hh2 : 128 ^ ((D.take size).drop k).length ≤ 128 ^ 7 := Nat.pow_le_pow_right (by decide) (by simp; omega)
            have hstep : hor ((D.take size).drop (k - 1)) = x % 128 + 128 * hor ((D.take size).drop k) := by
              rw [drop_cons (d := D.take size) (i := k - 1) (by simp; omega), take_getD (by omega), hDg, Nat.sub_add_cancel (by omega)]
              simp only [hor, hx]
            generalize hor ((D.take size).drop k) = m at *
            have hm : m ≤ 562949953421312 := by
              have : (128 : Nat) ^ 7 = 562949953421312 := by decide
              omega
            clear hh hh2
            repeat (first | (apply wx_val; (first | exact v_move rfl | exact v_addi rfl rfl (by omega) | exact v_iaddr rfl rfl rfl (by omega) | exact v_muli rfl rfl (by omega)); rfl) | refine wc_seq ?_ | refine wc_region ?_ | refine wq_next ?_ | refine wc_block ?_ | refine wc_skip ?_)
            apply wx_val
            exact v_ldx rfl rfl rfl (fun w' hr => hcell (p + (k - 1)) w' _ (by omega) hr) (by omega)
            rfl
            rw [hx]
            repeat (first | (apply wx_val; (first | exact v_move rfl | exact v_assign rfl | exact v_addi rfl rfl (by omega) | exact v_subi rfl rfl (by omega) | exact v_convi rfl rfl rfl (by omega) | exact v_remi rfl rfl (by omega)); rfl) | refine wc_region ?_ | refine wx_nil ?_ | refine wq_next ?_ | refine wq_block ?_)
            refine wq_round (k - 1) (by (try dsimp only); omega) (by (try dsimp only); omega) ⟨rfl, rfl, rfl, ?_, ?_, trivial⟩ rfl
            · exact int_eq (by rw [hstep]; omega)
            · exact int_eq (by omega)
          · have hk0 : k = 0 := by omega
            subst hk0
            repeat (first | (apply wx_val; (first | exact v_move rfl | exact v_assign rfl); rfl) | refine wc_seq ?_ | refine wc_region ?_ | refine wx_nil ?_ | refine wq_next ?_ | refine wc_ret ?_ | refine wc_exit ?_ | refine wq_then_exit ?_ | refine wq_block_exit rfl ?_)
            refine wq_ret3 () rfl rfl rfl rfl ?_ trivial rfl
            rw [hval]; rfl
  · have he : size = 0 → scanL 0 0 D = (0, 0, 51) := fun h => by
      rcases hinv with h' | h'
      · rw [h'.2.2, List.drop_of_length_le (by omega), scanL, if_neg (by omega)]
      · omega
    repeat (first | (apply wx_val; (first | exact v_move rfl | exact v_eq rfl rfl | exact v_pickF rfl rfl); rfl) | refine wx_no rfl rfl rfl ?_ | refine wc_seq ?_ | refine wc_region ?_ | refine wx_nil ?_ | refine wq_next ?_ | refine wc_exit ?_ | refine wq_then_exit ?_ | refine wq_block_exit rfl ?_ | refine wc_condF rfl ?_)
    refine wc_if rfl (fun h3 => ?_) (fun h3 => ?_)
    · have e := he (by omega)
      repeat (first | (apply wx_val; (first | exact v_assign rfl); rfl) | refine wc_seq ?_ | refine wc_region ?_ | refine wx_nil ?_ | refine wq_next ?_ | refine wc_ret ?_ | refine wq_then_ret ?_)
      refine wq_ret3 () rfl rfl rfl rfl ?_ trivial rfl
      rw [e]; rfl
    · obtain ⟨hsj, hs1, hs8, hsc⟩ : size = j ∧ 1 ≤ size ∧ size ≤ 8 ∧ scanL 0 0 D = if (D.getD (size - 1) 0).toNat = 0 ∧ 1 < size then (0, 0, 52) else (hor (D.take size), size, 0) := by
        rcases hinv with h | h
        · omega
        · exact h
      obtain ⟨g, o, rfl, hcell⟩ := hv.atB (i := p + (size - 1)) (by omega)
      repeat (first | (apply wx_val; (first | exact v_move rfl | exact v_gt rfl rfl); rfl) | refine wc_seq ?_ | refine wc_region ?_ | refine wq_next ?_ | refine wc_skip ?_)
      refine wx_if 46 rfl (fun h4 => ?_) (fun h4 => ?_)
      · obtain ⟨x, hx⟩ : ∃ x : Nat, (d.getD (p + (size - 1)) 0).toNat = x := ⟨_, rfl⟩
        have hlt := (d.getD (p + (size - 1)) 0).toNat_lt
        rw [hx] at hlt
        rw [hDg, hx] at hsc
        repeat (first | (apply wx_val; (first | exact v_move rfl | exact v_addi rfl rfl (by omega) | exact v_subi rfl rfl (by omega) | exact v_iaddr rfl rfl rfl (by omega)); rfl) | refine wx_ungd rfl rfl ?_)
        apply wx_val
        exact v_ldx rfl rfl rfl (fun w' hr => hcell (p + (size - 1)) w' _ (by omega) hr) (by omega)
        rfl
        rw [hx]
        repeat (first | (apply wx_val; (first | exact v_eq rfl rfl | exact v_pickT rfl rfl); rfl) | refine wx_ungd rfl rfl ?_ | refine wx_nil ?_ | refine wq_next ?_)
        refine wc_if rfl (fun h6 => ?_) (fun h6 => ?_)
        · have e : scanL 0 0 D = (0, 0, 52) := by rw [hsc, if_pos (by omega)]
          repeat (first | (apply wx_val; (first | exact v_assign rfl); rfl) | refine wc_seq ?_ | refine wc_region ?_ | refine wx_nil ?_ | refine wq_next ?_ | refine wc_ret ?_ | refine wq_then_ret ?_)
          refine wq_ret3 () rfl rfl rfl rfl ?_ trivial rfl
          rw [e]; rfl
        · have hval : scanL 0 0 D = (hor (D.take size), size, 0) := by rw [hsc, if_neg (by omega)]
          repeat (first | (apply wx_val; (first | exact v_move rfl | exact v_assign rfl | exact v_subi rfl rfl (by omega)); rfl) | refine wc_seq ?_ | refine wc_region ?_ | refine wx_nil ?_ | refine wq_next ?_ | refine wc_block ?_ | refine wc_skip ?_)
          refine wc_loop (ι := Nat) (fun k => [(0, .slice (some ⟨g, o, none⟩) d.length c), (1, .int .i64 (p : Nat)), (7, .int .i64 (size : Nat)), (9, .int .i64 (hor ((D.take size).drop k) : Nat)), (10, .int .i64 ((k : Int) - 1))]) (fun _ => [])
            (fun k => k ≤ size) (fun k => k) size (Nat.le_refl _) ⟨rfl, rfl, rfl, ?_, ?_, trivial⟩ rfl ?_
          · exact int_eq (by rw [List.drop_of_length_le (by simp; omega)]; rfl)
          · exact int_eq (by omega)
          intro k hk
          repeat (first | (apply wx_val; (first | exact v_move rfl | exact v_ge rfl rfl); rfl) | refine wc_seq ?_ | refine wc_region ?_ | refine wx_nil ?_ | refine wq_next ?_)
          refine wc_if rfl (fun h5 => ?_) (fun h5 => ?_)
          · obtain ⟨x, hx⟩ : ∃ x : Nat, (d.getD (p + (k - 1)) 0).toNat = x := ⟨_, rfl⟩
            have hlt := (d.getD (p + (k - 1)) 0).toNat_lt
            rw [hx] at hlt
            have hh := hor_lt ((D.take size).drop k)
            have hh2 : 128 ^ ((D.take size).drop k).length ≤ 128 ^ 7 := Nat.pow_le_pow_right (by decide) (by simp; omega)
            have hstep : hor ((D.take size).drop (k - 1)) = x % 128 + 128 * hor ((D.take size).drop k) := by
              rw [drop_cons (d := D.take size) (i := k - 1) (by simp; omega), take_getD (by omega), hDg, Nat.sub_add_cancel (by omega)]
              simp only [hor, hx]
            generalize hor ((D.take size).drop k) = m at *
            have hm : m ≤ 562949953421312 := by
              have : (128 : Nat) ^ 7 = 562949953421312 := by decide
              omega
            clear hh hh2
            repeat (first | (apply wx_val; (first | exact v_move rfl | exact v_addi rfl rfl (by omega) | exact v_iaddr rfl rfl rfl (by omega) | exact v_muli rfl rfl (by omega)); rfl) | refine wc_seq ?_ | refine wc_region ?_ | refine wq_next ?_ | refine wc_block ?_ | refine wc_skip ?_)
            apply wx_val
            exact v_ldx rfl rfl rfl (fun w' hr => hcell (p + (k - 1)) w' _ (by omega) hr) (by omega)
            rfl
            rw [hx]
            repeat (first | (apply wx_val; (first | exact v_move rfl | exact v_assign rfl | exact v_addi rfl rfl (by omega) | exact v_subi rfl rfl (by omega) | exact v_convi rfl rfl rfl (by omega) | exact v_remi rfl rfl (by omega)); rfl) | refine wc_region ?_ | refine wx_nil ?_ | refine wq_next ?_ | refine wq_block ?_)
            refine wq_round (k - 1) (by (try dsimp only); omega) (by (try dsimp only); omega) ⟨rfl, rfl, rfl, ?_, ?_, trivial⟩ rfl
            · exact int_eq (by rw [hstep]; omega)
            · exact int_eq (by omega)
          · have hk0 : k = 0 := by omega
            subst hk0
            repeat (first | (apply wx_val; (first | exact v_move rfl | exact v_assign rfl); rfl) | refine wc_seq ?_ | refine wc_region ?_ | refine wx_nil ?_ | refine wq_next ?_ | refine wc_ret ?_ | refine wc_exit ?_ | refine wq_then_exit ?_ | refine wq_block_exit rfl ?_)
            refine wq_ret3 () rfl rfl rfl rfl ?_ trivial rfl
            rw [hval]; rfl
      · have hval : scanL 0 0 D = (hor (D.take size), size, 0) := by rw [hsc, if_neg (by omega)]
        repeat (first | (apply wx_val; (first | exact v_move rfl | exact v_assign rfl | exact v_subi rfl rfl (by omega) | exact v_pickF rfl rfl); rfl) | refine wx_no rfl rfl rfl ?_ | refine wc_seq ?_ | refine wc_region ?_ | refine wx_nil ?_ | refine wq_next ?_ | refine wc_block ?_ | refine wc_skip ?_ | refine wc_condF rfl ?_)
        refine wc_loop (ι := Nat) (fun k => [(0, .slice (some ⟨g, o, none⟩) d.length c), (1, .int .i64 (p : Nat)), (7, .int .i64 (size : Nat)), (9, .int .i64 (hor ((D.take size).drop k) : Nat)), (10, .int .i64 ((k : Int) - 1))]) (fun _ => [])
          (fun k => k ≤ size) (fun k => k) size (Nat.le_refl _) ⟨rfl, rfl, rfl, ?_, ?_, trivial⟩ rfl ?_
        · exact int_eq (by rw [List.drop_of_length_le (by simp; omega)]; rfl)
        · exact int_eq (by omega)
        intro k hk
        repeat (first | (apply wx_val; (first | exact v_move rfl | exact v_ge rfl rfl); rfl) | refine wc_seq ?_ | refine wc_region ?_ | refine wx_nil ?_ | refine wq_next ?_)
        refine wc_if rfl (fun h5 => ?_) (fun h5 => ?_)
        · obtain ⟨x, hx⟩ : ∃ x : Nat, (d.getD (p + (k - 1)) 0).toNat = x := ⟨_, rfl⟩
          have hlt := (d.getD (p + (k - 1)) 0).toNat_lt
          rw [hx] at hlt
          have hh := hor_lt ((D.take size).drop k)
          have hh2 : 128 ^ ((D.take size).drop k).length ≤ 128 ^ 7 := Nat.pow_le_pow_right (by decide) (by simp; omega)
          have hstep : hor ((D.take size).drop (k - 1)) = x % 128 + 128 * hor ((D.take size).drop k) := by
            rw [drop_cons (d := D.take size) (i := k - 1) (by simp; omega), take_getD (by omega), hDg, Nat.sub_add_cancel (by omega)]
            simp only [hor, hx]
          generalize hor ((D.take size).drop k) = m at *
          have hm : m ≤ 562949953421312 := by
            have : (128 : Nat) ^ 7 = 562949953421312 := by decide
            omega
          clear hh hh2
          repeat (first | (apply wx_val; (first | exact v_move rfl | exact v_addi rfl rfl (by omega) | exact v_iaddr rfl rfl rfl (by omega) | exact v_muli rfl rfl (by omega)); rfl) | refine wc_seq ?_ | refine wc_region ?_ | refine wq_next ?_ | refine wc_block ?_ | refine wc_skip ?_)
          apply wx_val
          exact v_ldx rfl rfl rfl (fun w' hr => hcell (p + (k - 1)) w' _ (by omega) hr) (by omega)
          rfl
          rw [hx]
          repeat (first | (apply wx_val; (first | exact v_move rfl | exact v_assign rfl | exact v_addi rfl rfl (by omega) | exact v_subi rfl rfl (by omega) | exact v_convi rfl rfl rfl (by omega) | exact v_remi rfl rfl (by omega)); rfl) | refine wc_region ?_ | refine wx_nil ?_ | refine wq_next ?_ | refine wq_block ?_)
          refine wq_round (k - 1) (by (try dsimp only); omega) (by (try dsimp only); omega) ⟨rfl, rfl, rfl, ?_, ?_, trivial⟩ rfl
          · exact int_eq (by rw [hstep]; omega)
          · exact int_eq (by omega)
        · have hk0 : k = 0 := by omega
          subst hk0
          repeat (first | (apply wx_val; (first | exact v_move rfl | exact v_assign rfl); rfl) | refine wc_seq ?_ | refine wc_region ?_ | refine wx_nil ?_ | refine wq_next ?_ | refine wc_ret ?_ | refine wc_exit ?_ | refine wq_then_exit ?_ | refine wq_block_exit rfl ?_)
          refine wq_ret3 () rfl rfl rfl rfl ?_ trivial rfl
          rw [hval]; rfl
end Go.Proofs.Ytjfjleejbbmmaaa
