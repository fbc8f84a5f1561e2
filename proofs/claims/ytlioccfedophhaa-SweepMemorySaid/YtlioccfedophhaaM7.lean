/- Parts of the proof: Rows1, RecP, RecP2, SwC, SwQ, SwD, SwE. -/
import Derived.Test.YtlioccfedophhaaM2
import Derived.Test.YtlioccfedophhaaM1
import Derived.Test.YtlioccfedophhaaM3
import Derived.Test.YtlioccfedophhaaM4
import Derived.Test.YtlioccfedophhaaM6
/- Rows as values: the tests and the orders. -/
set_option linter.unusedVariables false
set_option linter.unusedSimpArgs false
namespace Go.Proofs.Ytlioccfedophhaa
open Go
set_option maxRecDepth 20000
set_option maxHeartbeats 2000000
attribute [local irreducible] WX WC WQ Val VCall
theorem rRows1_0 {A B : Prop} (k : B) (h : Hold B → A := by intro k; (repeat (first | (apply wx_val; (first | exact v_move rfl | exact v_assign rfl | exact v_eq rfl rfl); rfl) | refine wc_seq ?_ | refine wc_region ?_ | refine wx_nil ?_ | refine wq_next ?_ | refine wc_block ?_ | refine wc_ret ?_ | refine wc_skip ?_ | refine wq_then_ret ?_ | refine wq_block ?_ | refine wq_block_ret ?_)); exact k.out) : A := h ⟨k⟩
structure RowW where
  kind : Int
  time : Int
  seq : Int
  index : Int
  fro : Int
  to : Int
  body : ByteArray
def RowW.cells (r : RowW) : List Value := [.int .i64 r.kind, .int .i64 r.time, .int .i64 r.seq, .int .i64 r.index, .int .i64 r.fro, .int .i64 r.to, .string r.body]
theorem RowW.eq_iff (a b : RowW) : eqL a.cells b.cells = true ↔ a = b := by
  cases a; cases b
  simp [RowW.cells, eqL, eqV]
instance RowW.decEq : DecidableEq RowW := fun a b => decidable_of_iff _ (RowW.eq_iff a b)
theorem RowW.eqL (a b : RowW) : eqL a.cells b.cells = decide (a = b) := by
  rw [Bool.eq_iff_iff, decide_eq_true_eq]; exact RowW.eq_iff a b
def RowW.Right (r : RowW) : Prop := (1 ≤ r.kind ∧ r.kind ≤ 3) ∧ (0 ≤ r.time ∧ r.time ≤ 1099511627776) ∧ (0 ≤ r.seq ∧ r.seq ≤ 1048575) ∧ (0 ≤ r.index ∧ r.index ≤ 4095) ∧ (0 ≤ r.fro ∧ r.fro ≤ 1099511627776) ∧ (0 ≤ r.to ∧ r.to ≤ 1099511627776) ∧ r.body.size ≤ 512
instance RowW.decRight (r : RowW) : Decidable r.Right := inferInstanceAs (Decidable (_ ∧ _))
theorem rwithin_spec (n m : Int) (w : World) :
    Calls Try.prog 71 #[.int .i64 n, .int .i64 m] w (Ret (β := Unit) w (ids []) (fun _ => .bool (decide (0 ≤ n ∧ n ≤ m))) (fun _ => []) (fun _ => True)) := by
  refine go [.int .i64 n, .int .i64 m] [] Try.func71 Try.ntmps71 rfl rfl (own_nil w) ?_
  repeat' (first | (apply wx_val; (first | exact v_move rfl | exact v_assign rfl | exact v_le rfl rfl | exact v_ge rfl rfl | exact v_pickT rfl rfl | exact v_pickF rfl rfl); rfl) | refine wx_no rfl rfl rfl ?_ | refine wx_ungd rfl rfl ?_ | refine wc_seq ?_ | refine wc_region ?_ | refine wx_nil ?_ | refine wq_next ?_ | refine wc_ret ?_ | refine wx_gif rfl rfl (fun _ => ?_) (fun _ => ?_))
  all_goals exact wq_ret1 () rfl (bool_val (by rw [Bool.eq_iff_iff]; simp only [Bool.not_eq_true', decide_eq_true_eq, decide_eq_false_iff_not, Bool.false_eq_true, true_iff, false_iff]; omega)) trivial rfl
theorem rowValid_spec (r : RowW) (w : World) :
    Calls Try.prog 50 #[.agg r.cells.toArray] w (Ret (β := Unit) w (ids []) (fun _ => .bool (decide r.Right)) (fun _ => []) (fun _ => True)) := by
  refine go [.agg r.cells.toArray] [] Try.func50 Try.ntmps50 rfl rfl (own_nil w) ?_
  refine rRows1_0 ?_
  refine wl_box rfl rfl (fun g => ?_)
  repeat' (first | (apply wx_val; (first | exact v_move rfl | exact v_assign rfl | exact v_faddr rfl rfl | (apply v_load rfl rfl rfl; first | exact ld 0 0 rfl rfl rfl | exact ld 1 0 rfl rfl rfl | exact ld 2 0 rfl rfl rfl | exact ld 3 0 rfl rfl rfl | exact ld 4 0 rfl rfl rfl | exact ld 5 0 rfl rfl rfl) | exact v_slen rfl rfl | exact v_le rfl rfl | exact v_ge rfl rfl | exact v_pickT rfl rfl | exact v_pickF rfl rfl); rfl) | refine wx_no rfl rfl rfl ?_ | refine wx_ungd rfl rfl ?_ | refine wc_seq ?_ | refine wc_region ?_ | refine wx_nil ?_ | refine wq_next ?_ | refine wc_ret ?_ | (apply wx_vcall; exact vc_pure rfl rfl (fun w' => rwithin_spec _ _ w'); rfl) | refine wx_gif rfl rfl (fun _ => ?_) (fun _ => ?_))
  all_goals exact wq_clear (wq_ret1 () rfl (bool_val (by rw [Bool.eq_iff_iff]; simp only [Bool.not_eq_true', decide_eq_true_eq, decide_eq_false_iff_not, Bool.false_eq_true, true_iff, false_iff]; unfold RowW.Right; omega)) trivial rfl)
/-! ### the orders -/
def rowCmp (k : Int) (a b : RowW) : Int := if k = 1 then firstNZ [cmpI a.time b.time, cmpI a.kind b.kind, cmpI a.index b.index] else if k = 2 then firstNZ [cmpI a.time b.time, cmpI a.seq b.seq, cmpI a.index b.index] else 0
theorem Compare_spec (k : Int) (a b : RowW) (w : World) : Calls Try.prog 51 #[.int .i64 k, .agg a.cells.toArray, .agg b.cells.toArray] w (Ret (β := Unit) w (ids []) (fun _ => .int .i64 (rowCmp k a b)) (fun _ => []) (fun _ => True)) := by
  refine go [.int .i64 k, .agg a.cells.toArray, .agg b.cells.toArray] [] Try.func51 Try.ntmps51 rfl rfl (own_nil w) ?_
  refine rRows1_0 ?_
  refine wl_box rfl rfl (fun g1 => ?_)
  refine wl_box rfl rfl (fun g2 => ?_)
  refine rRows1_0 ?_
  refine wc_if rfl (fun h1 => ?_) (fun h1 => ?_)
  · obtain rfl : k = 1 := h1
    refine rRows1_0 ?_
    refine wc_held [[(g2, .cells b.cells.toArray 38 (0, 0))], [(g1, .cells a.cells.toArray 38 (0, 0))]] rfl ?_
    refine tkJ 0 rfl (v_faddr rfl rfl) (fun _ h => h) ?_
    refine tkJ 1 rfl (by apply v_load rfl rfl rfl; first | exact ld 0 0 rfl rfl rfl | exact ld 1 0 rfl rfl rfl | exact ld 2 0 rfl rfl rfl | exact ld 3 0 rfl rfl rfl | exact ld 4 0 rfl rfl rfl | exact ld 5 0 rfl rfl rfl) (fun _ h => h) ?_
    refine tkJ 2 rfl (v_faddr rfl rfl) (fun _ h => h) ?_
    refine tkJ 3 rfl (by apply v_load rfl rfl rfl; first | exact ld 0 0 rfl rfl rfl | exact ld 1 0 rfl rfl rfl | exact ld 2 0 rfl rfl rfl | exact ld 3 0 rfl rfl rfl | exact ld 4 0 rfl rfl rfl | exact ld 5 0 rfl rfl rfl) (fun _ h => h) ?_
    refine tkJ 5 rfl (v_faddr rfl rfl) (fun _ h => h) ?_
    refine tkJ 6 rfl (by apply v_load rfl rfl rfl; first | exact ld 0 0 rfl rfl rfl | exact ld 1 0 rfl rfl rfl | exact ld 2 0 rfl rfl rfl | exact ld 3 0 rfl rfl rfl | exact ld 4 0 rfl rfl rfl | exact ld 5 0 rfl rfl rfl) (fun _ h => h) ?_
    refine tkJ 7 rfl (v_faddr rfl rfl) (fun _ h => h) ?_
    refine tkJ 8 rfl (by apply v_load rfl rfl rfl; first | exact ld 0 0 rfl rfl rfl | exact ld 1 0 rfl rfl rfl | exact ld 2 0 rfl rfl rfl | exact ld 3 0 rfl rfl rfl | exact ld 4 0 rfl rfl rfl | exact ld 5 0 rfl rfl rfl) (fun _ h => h) ?_
    refine tkJ 10 rfl (v_faddr rfl rfl) (fun _ h => h) ?_
    refine tkJ 11 rfl (by apply v_load rfl rfl rfl; first | exact ld 0 0 rfl rfl rfl | exact ld 1 0 rfl rfl rfl | exact ld 2 0 rfl rfl rfl | exact ld 3 0 rfl rfl rfl | exact ld 4 0 rfl rfl rfl | exact ld 5 0 rfl rfl rfl) (fun _ h => h) ?_
    refine tkJ 12 rfl (v_faddr rfl rfl) (fun _ h => h) ?_
    refine tkJ 13 rfl (by apply v_load rfl rfl rfl; first | exact ld 0 0 rfl rfl rfl | exact ld 1 0 rfl rfl rfl | exact ld 2 0 rfl rfl rfl | exact ld 3 0 rfl rfl rfl | exact ld 4 0 rfl rfl rfl | exact ld 5 0 rfl rfl rfl) (fun _ h => h) ?_
    refine efX 4 rfl ?_
    refine wx_vcall (vc_pure rfl rfl (fun w' => cmp_spec _ _ w')) rfl ?_
    (try refine wx_nil ?_)
    refine hdJ ?_
    refine efX 9 rfl ?_
    refine wx_vcall (vc_pure rfl rfl (fun w' => cmp_spec _ _ w')) rfl ?_
    (try refine wx_nil ?_)
    refine hdJ ?_
    refine efX 14 rfl ?_
    refine wx_vcall (vc_pure rfl rfl (fun w' => cmp_spec _ _ w')) rfl ?_
    (try refine wx_nil ?_)
    refine hdJ ?_
    refine efX 15 rfl ?_
    refine wl_lit rfl rfl rfl rfl rfl (by decide) rfl (fun g3 => ?_)
    (try refine wx_nil ?_)
    refine wq_held (by (first | exact fun _ h => res_tail (N := [_]) h)) ?_
    refine efX 16 rfl ?_
    refine wx_vcall (vc_pure' rfl rfl (fun w' hr => Or_spec (l := [cmpI a.time b.time, cmpI a.kind b.kind, cmpI a.index b.index]) (show 3 ≤ 1048576 by decide) w' (rd_blk hr (i := 0) (j := 0) rfl rfl ⟨[], [], by rw [List.nil_append, List.append_nil]; rfl, rfl⟩).vw)) rfl ?_
    (try refine wx_nil ?_)
    refine wq_held (by (first | exact fun _ h => res_tail (N := [_]) h)) ?_
    refine tkJ 17 rfl (v_assign rfl) (fun _ h => res_tail (N := [_]) h) ?_
    refine wh_done (by decide +kernel) ?_
    refine rRows1_0 ?_
    exact wq_clear (wq_ret1 () rfl rfl trivial rfl)
  · refine rRows1_0 ?_
    refine wc_if rfl (fun h2 => ?_) (fun h2 => ?_)
    · obtain rfl : k = 2 := h2
      refine rRows1_0 ?_
      refine wc_held [[(g2, .cells b.cells.toArray 38 (0, 0))], [(g1, .cells a.cells.toArray 38 (0, 0))]] rfl ?_
      refine tkJ 0 rfl (v_faddr rfl rfl) (fun _ h => h) ?_
      refine tkJ 1 rfl (by apply v_load rfl rfl rfl; first | exact ld 0 0 rfl rfl rfl | exact ld 1 0 rfl rfl rfl | exact ld 2 0 rfl rfl rfl | exact ld 3 0 rfl rfl rfl | exact ld 4 0 rfl rfl rfl | exact ld 5 0 rfl rfl rfl) (fun _ h => h) ?_
      refine tkJ 2 rfl (v_faddr rfl rfl) (fun _ h => h) ?_
      refine tkJ 3 rfl (by apply v_load rfl rfl rfl; first | exact ld 0 0 rfl rfl rfl | exact ld 1 0 rfl rfl rfl | exact ld 2 0 rfl rfl rfl | exact ld 3 0 rfl rfl rfl | exact ld 4 0 rfl rfl rfl | exact ld 5 0 rfl rfl rfl) (fun _ h => h) ?_
      refine tkJ 5 rfl (v_faddr rfl rfl) (fun _ h => h) ?_
      refine tkJ 6 rfl (by apply v_load rfl rfl rfl; first | exact ld 0 0 rfl rfl rfl | exact ld 1 0 rfl rfl rfl | exact ld 2 0 rfl rfl rfl | exact ld 3 0 rfl rfl rfl | exact ld 4 0 rfl rfl rfl | exact ld 5 0 rfl rfl rfl) (fun _ h => h) ?_
      refine tkJ 7 rfl (v_faddr rfl rfl) (fun _ h => h) ?_
      refine tkJ 8 rfl (by apply v_load rfl rfl rfl; first | exact ld 0 0 rfl rfl rfl | exact ld 1 0 rfl rfl rfl | exact ld 2 0 rfl rfl rfl | exact ld 3 0 rfl rfl rfl | exact ld 4 0 rfl rfl rfl | exact ld 5 0 rfl rfl rfl) (fun _ h => h) ?_
      refine tkJ 10 rfl (v_faddr rfl rfl) (fun _ h => h) ?_
      refine tkJ 11 rfl (by apply v_load rfl rfl rfl; first | exact ld 0 0 rfl rfl rfl | exact ld 1 0 rfl rfl rfl | exact ld 2 0 rfl rfl rfl | exact ld 3 0 rfl rfl rfl | exact ld 4 0 rfl rfl rfl | exact ld 5 0 rfl rfl rfl) (fun _ h => h) ?_
      refine tkJ 12 rfl (v_faddr rfl rfl) (fun _ h => h) ?_
      refine tkJ 13 rfl (by apply v_load rfl rfl rfl; first | exact ld 0 0 rfl rfl rfl | exact ld 1 0 rfl rfl rfl | exact ld 2 0 rfl rfl rfl | exact ld 3 0 rfl rfl rfl | exact ld 4 0 rfl rfl rfl | exact ld 5 0 rfl rfl rfl) (fun _ h => h) ?_
      refine efX 4 rfl ?_
      refine wx_vcall (vc_pure rfl rfl (fun w' => cmp_spec _ _ w')) rfl ?_
      (try refine wx_nil ?_)
      refine hdJ ?_
      refine efX 9 rfl ?_
      refine wx_vcall (vc_pure rfl rfl (fun w' => cmp_spec _ _ w')) rfl ?_
      (try refine wx_nil ?_)
      refine hdJ ?_
      refine efX 14 rfl ?_
      refine wx_vcall (vc_pure rfl rfl (fun w' => cmp_spec _ _ w')) rfl ?_
      (try refine wx_nil ?_)
      refine hdJ ?_
      refine efX 15 rfl ?_
      refine wl_lit rfl rfl rfl rfl rfl (by decide) rfl (fun g3 => ?_)
      (try refine wx_nil ?_)
      refine wq_held (by (first | exact fun _ h => res_tail (N := [_]) h)) ?_
      refine efX 16 rfl ?_
      refine wx_vcall (vc_pure' rfl rfl (fun w' hr => Or_spec (l := [cmpI a.time b.time, cmpI a.seq b.seq, cmpI a.index b.index]) (show 3 ≤ 1048576 by decide) w' (rd_blk hr (i := 0) (j := 0) rfl rfl ⟨[], [], by rw [List.nil_append, List.append_nil]; rfl, rfl⟩).vw)) rfl ?_
      (try refine wx_nil ?_)
      refine wq_held (by (first | exact fun _ h => res_tail (N := [_]) h)) ?_
      refine tkJ 17 rfl (v_assign rfl) (fun _ h => res_tail (N := [_]) h) ?_
      refine wh_done (by decide +kernel) ?_
      refine rRows1_0 ?_
      exact wq_clear (wq_ret1 () rfl rfl trivial rfl)
    · refine rRows1_0 ?_
      exact wq_clear (wq_ret1 () rfl (by rw [rowCmp, if_neg h1, if_neg h2]; rfl) trivial rfl)
theorem cmpI_cases (a b : Int) : (a < b ∧ cmpI a b = -1) ∨ (b < a ∧ cmpI a b = 1) ∨ (a = b ∧ cmpI a b = 0) := by
  unfold cmpI
  rcases Int.lt_trichotomy a b with h | h | h
  · exact .inl ⟨h, if_pos h⟩
  · exact .inr (.inr ⟨h, by rw [if_neg (by omega), if_neg (by omega)]⟩)
  · exact .inr (.inl ⟨h, by rw [if_neg (by omega), if_pos h]⟩)
/-- the document's 'ahead of' -/
def rowBefore (k : Int) (a b : RowW) : Prop := (k = 1 ∧ (a.time < b.time ∨ (a.time = b.time ∧ (a.kind < b.kind ∨ (a.kind = b.kind ∧ a.index < b.index))))) ∨ (k = 2 ∧ (a.time < b.time ∨ (a.time = b.time ∧ (a.seq < b.seq ∨ (a.seq = b.seq ∧ a.index < b.index)))))
instance rowBeforeDec (k : Int) (a b : RowW) : Decidable (rowBefore k a b) := inferInstanceAs (Decidable (_ ∨ _))
theorem cmp_before (k : Int) (a b : RowW) : rowCmp k a b < 0 ↔ rowBefore k a b := by
  unfold rowBefore
  by_cases h1 : k = 1
  · subst h1
    simp only [rowCmp, firstNZ, if_true]
    rcases cmpI_cases a.time b.time with ⟨h, e⟩ | ⟨h, e⟩ | ⟨h, e⟩ <;> rw [e] <;> simp <;> (try omega)
    rcases cmpI_cases a.kind b.kind with ⟨h2, e2⟩ | ⟨h2, e2⟩ | ⟨h2, e2⟩ <;> rw [e2] <;> simp <;> (try omega)
    rcases cmpI_cases a.index b.index with ⟨h3, e3⟩ | ⟨h3, e3⟩ | ⟨h3, e3⟩ <;> rw [e3] <;> simp <;> (try omega)
  · by_cases h2 : k = 2
    · subst h2
      rw [rowCmp, if_neg h1, if_pos rfl]
      simp only [firstNZ]
      rcases cmpI_cases a.time b.time with ⟨h, e⟩ | ⟨h, e⟩ | ⟨h, e⟩ <;> rw [e] <;> simp <;> (try omega)
      rcases cmpI_cases a.seq b.seq with ⟨h2, e2⟩ | ⟨h2, e2⟩ | ⟨h2, e2⟩ <;> rw [e2] <;> simp <;> (try omega)
      rcases cmpI_cases a.index b.index with ⟨h3, e3⟩ | ⟨h3, e3⟩ | ⟨h3, e3⟩ <;> rw [e3] <;> simp <;> (try omega)
    · rw [rowCmp, if_neg h1, if_neg h2]; simp [h1, h2]
theorem Before_spec (k : Int) (a b : RowW) (w : World) : Calls Try.prog 49 #[.int .i64 k, .agg a.cells.toArray, .agg b.cells.toArray] w (Ret (β := Unit) w (ids []) (fun _ => .bool (decide (rowBefore k a b))) (fun _ => []) (fun _ => True)) := by
  refine go [.int .i64 k, .agg a.cells.toArray, .agg b.cells.toArray] [] Try.func49 Try.ntmps49 rfl rfl (own_nil w) ?_
  refine rRows1_0 ?_
  refine wl_box rfl rfl (fun g1 => ?_)
  refine wl_box rfl rfl (fun g2 => ?_)
  repeat' (first | (apply wx_val; (first | exact v_move rfl | exact v_assign rfl | exact v_faddr rfl rfl | (apply v_load rfl rfl rfl; first | exact ld 0 0 rfl rfl rfl | exact ld 1 0 rfl rfl rfl | exact ld 2 0 rfl rfl rfl | exact ld 3 0 rfl rfl rfl | exact ld 4 0 rfl rfl rfl | exact ld 5 0 rfl rfl rfl) | exact v_eq rfl rfl | exact v_ne rfl rfl | exact v_lt rfl rfl | exact v_pickT rfl rfl | exact v_pickF rfl rfl); rfl) | refine wx_no rfl rfl rfl ?_ | refine wx_ungd rfl rfl ?_ | refine wc_seq ?_ | refine wc_region ?_ | refine wx_nil ?_ | refine wq_next ?_ | refine wc_ret ?_ | refine wc_skip ?_ | refine wq_then_ret ?_ | refine wc_condF rfl ?_ | refine wc_if rfl (fun _ => ?_) (fun _ => ?_) | refine wx_gif rfl rfl (fun _ => ?_) (fun _ => ?_))
  all_goals exact wq_clear (wq_ret1 () rfl (bool_val (by rw [Bool.eq_iff_iff]; simp only [Bool.not_eq_true', decide_eq_true_eq, decide_eq_false_iff_not, Bool.false_eq_true, true_iff, false_iff]; unfold rowBefore; omega)) trivial rfl)
abbrev BufRo (ty : Nat) (l : List RowW) : Option Addr × Nat × Seg → Prop := fun (A, c, E) => Buf ty 7 A l.length c (l.flatMap RowW.cells) E
end Go.Proofs.Ytlioccfedophhaa
/- The plain laws of reading: what is read stays as it was where more stands behind; what it doesn't need may be cut off. -/
set_option linter.unusedVariables false
set_option linter.unusedSimpArgs false
namespace Go.Proofs.Ytlioccfedophhaa
open Go
theorem scanL_more (s : List UInt8) : ∀ (l : List UInt8) (i acc : Nat), (scanL i acc l).2.2 ≠ 51 → scanL i acc (l ++ s) = scanL i acc l
  | [], i, acc, h => by
    simp only [scanL] at h
    split at h
    · rename_i h8
      rw [List.nil_append]
      cases s with
      | nil => rfl
      | cons b r => simp only [scanL]; rw [if_pos h8, if_pos h8]
    · exact absurd rfl h
  | b :: r, i, acc, h => by
    simp only [List.cons_append, scanL] at h ⊢
    split
    · rfl
    · rename_i h8
      rw [if_neg h8] at h
      split
      · rfl
      · rename_i h1
        rw [if_neg h1] at h
        exact scanL_more s r _ _ h
theorem scanL_take (m : Nat) : ∀ (l : List UInt8) (i acc : Nat), (scanL i acc l).2.2 = 0 → (scanL i acc l).2.1 ≤ i + m → scanL i acc (l.take m) = scanL i acc l
  | [], i, acc, h, _ => by rw [List.take_nil]
  | b :: r, i, acc, h, hm => by
    have hsz := scanL_size (b :: r) i acc h
    cases m with
    | zero => omega
    | succ m =>
      simp only [List.take_succ_cons, scanL] at h hm ⊢
      split
      · rfl
      · rename_i h8
        rw [if_neg h8] at h hm
        split
        · rfl
        · rename_i h1
          rw [if_neg h1] at h hm
          exact scanL_take m r _ _ h (by omega)
theorem scanL_code : ∀ (l : List UInt8) (i acc : Nat), (scanL i acc l).2.2 = 0 ∨ (scanL i acc l).2.2 = 51 ∨ (scanL i acc l).2.2 = 52
  | [], i, acc => by simp only [scanL]; split <;> simp
  | b :: r, i, acc => by
    simp only [scanL]
    split
    · simp
    · split
      · split
        · simp
        · simp
      · exact scanL_code r _ _
/-- a reading that goes forward and looks at no more than it tells -/
structure Good {α : Type} (P : List UInt8 → Nat → PR α) : Prop where
  okLe : ∀ {d p x q}, p ≤ d.length → P d p = .ok (x, q) → p ≤ q ∧ q ≤ d.length
  errAt : ∀ {d p e}, p ≤ d.length → P d p = .error e → ∃ a : Nat, e.1 = a ∧ p ≤ a ∧ a ≤ d.length ∧ (e.2 = 51 ∨ e.2 = 52 ∨ e.2 = 53 ∨ (e.2 = 60 ∧ a < d.length))
  okApp : ∀ {d p r} (s : List UInt8), p ≤ d.length → P d p = .ok r → P (d ++ s) p = .ok r
  errApp : ∀ {d p e} (s : List UInt8), p ≤ d.length → P d p = .error e → e.2 ≠ 51 → P (d ++ s) p = .error e
  okTake : ∀ {d p x q} (m : Nat), p ≤ d.length → P d p = .ok (x, q) → q ≤ m → P (d.take m) p = .ok (x, q)
  endTake : ∀ {d p} {a : Nat}, p ≤ d.length → P d p = .error ((a : Int), 51) → P (d.take a) p = .error ((a : Int), 51)
  tagTake : ∀ {d p} {a : Nat}, p ≤ d.length → P d p = .error ((a : Int), 60) → P (d.take (a + 1)) p = .error ((a : Int), 60)
def bindP {α β : Type} (P : List UInt8 → Nat → PR α) (Q : α → List UInt8 → Nat → PR β) : List UInt8 → Nat → PR β := fun d p => match P d p with
  | .error e => .error e
  | .ok (x, q) => Q x d q
def pureP {α : Type} (x : α) : List UInt8 → Nat → PR α := fun _ p => .ok (x, p)
theorem good_pure {α : Type} (x : α) : Good (pureP x) where
  okLe h1 h := by injection h with h; injection h with _ h; omega
  errAt _ h := by cases h
  okApp _ _ h := h
  errApp _ _ h := by cases h
  okTake _ _ h _ := h
  endTake _ h := by cases h
  tagTake _ h := by cases h
theorem good_bind {α β : Type} {P : List UInt8 → Nat → PR α} {Q : α → List UInt8 → Nat → PR β} (hP : Good P) (hQ : ∀ x, Good (Q x)) : Good (bindP P Q) where
  okLe {d p x q} h1 h := by
    unfold bindP at h
    cases hp : P d p with
    | error e => rw [hp] at h; cases h
    | ok r =>
      obtain ⟨y, p2⟩ := r
      rw [hp] at h
      have a1 := hP.okLe h1 hp
      have a2 := (hQ y).okLe a1.2 h
      omega
  errAt {d p e} h1 h := by
    unfold bindP at h
    cases hp : P d p with
    | error e2 =>
      rw [hp] at h
      injection h with h
      subst h
      exact hP.errAt h1 hp
    | ok r =>
      obtain ⟨y, p2⟩ := r
      rw [hp] at h
      have a1 := hP.okLe h1 hp
      obtain ⟨a, b1, b2, b3, b4⟩ := (hQ y).errAt a1.2 h
      exact ⟨a, b1, by omega, b3, b4⟩
  okApp {d p r} s h1 h := by
    unfold bindP at h ⊢
    cases hp : P d p with
    | error e => rw [hp] at h; cases h
    | ok r =>
      obtain ⟨y, p2⟩ := r
      rw [hp] at h
      rw [hP.okApp s h1 hp]
      exact (hQ y).okApp s (hP.okLe h1 hp).2 h
  errApp {d p e} s h1 h he := by
    unfold bindP at h ⊢
    cases hp : P d p with
    | error e2 =>
      rw [hp] at h
      injection h with h
      subst h
      rw [hP.errApp s h1 hp he]
    | ok r =>
      obtain ⟨y, p2⟩ := r
      rw [hp] at h
      rw [hP.okApp s h1 hp]
      exact (hQ y).errApp s (hP.okLe h1 hp).2 h he
  okTake {d p x q} m h1 h hm := by
    unfold bindP at h ⊢
    cases hp : P d p with
    | error e => rw [hp] at h; cases h
    | ok r =>
      obtain ⟨y, p2⟩ := r
      rw [hp] at h
      have a1 := hP.okLe h1 hp
      have a2 := (hQ y).okLe a1.2 h
      rw [hP.okTake m h1 hp (by omega)]
      exact (hQ y).okTake m a1.2 h hm
  endTake {d p a} h1 h := by
    unfold bindP at h ⊢
    cases hp : P d p with
    | error e =>
      rw [hp] at h
      injection h with h
      subst h
      rw [hP.endTake h1 hp]
    | ok r =>
      obtain ⟨y, p2⟩ := r
      rw [hp] at h
      have a1 := hP.okLe h1 hp
      obtain ⟨a', b1, b2, b3, b4⟩ := (hQ y).errAt a1.2 h
      have b1' : a = a' := by have h9 : (a : Int) = a' := b1; omega
      rw [hP.okTake a h1 hp (by omega)]
      exact (hQ y).endTake a1.2 h
  tagTake {d p a} h1 h := by
    unfold bindP at h ⊢
    cases hp : P d p with
    | error e =>
      rw [hp] at h
      injection h with h
      subst h
      rw [hP.tagTake h1 hp]
    | ok r =>
      obtain ⟨y, p2⟩ := r
      rw [hp] at h
      have a1 := hP.okLe h1 hp
      obtain ⟨a', b1, b2, b3, b4⟩ := (hQ y).errAt a1.2 h
      have b1' : a = a' := by have h9 : (a : Int) = a' := b1; omega
      rw [hP.okTake (a + 1) h1 hp (by omega)]
      exact (hQ y).tagTake a1.2 h
theorem drop_app {d s : List UInt8} {p : Nat} (h : p ≤ d.length) : (d ++ s).drop p = d.drop p ++ s := by rw [List.drop_append_of_le_length h]
theorem take_drop_le {d : List UInt8} {p m : Nat} : (d.take m).drop p = (d.drop p).take (m - p) := by rw [List.drop_take]
theorem good_num (most : Int) : Good (fun d p => numP d p most) where
  okLe {d p x q} h1 h := by have := numP_le h1 h; omega
  errAt {d p e} h1 h := by
    unfold numP at h
    split at h
    · rename_i hs
      injection h with h
      subst h
      refine ⟨p, rfl, Nat.le_refl _, h1, ?_⟩
      rcases scanL_code (d.drop p) 0 0 with h2 | h2 | h2
      · exact absurd h2 hs
      · exact .inl h2
      · exact .inr (.inl h2)
    · split at h
      · injection h with h
        subst h
        exact ⟨p, rfl, Nat.le_refl _, h1, .inr (.inr (.inl rfl))⟩
      · cases h
  okApp {d p r} s h1 h := by
    unfold numP at h ⊢
    rw [drop_app h1]
    split at h
    · cases h
    · rename_i hs
      rw [scanL_more s _ _ _ (by simp at hs; rw [hs]; decide), if_neg hs]
      exact h
  errApp {d p e} s h1 h he := by
    unfold numP at h ⊢
    rw [drop_app h1]
    split at h
    · rename_i hs
      injection h with h
      subst h
      rw [scanL_more s _ _ _ he, if_pos hs]
    · rename_i hs
      rw [scanL_more s _ _ _ (by simp at hs; rw [hs]; decide), if_neg hs]
      exact h
  okTake {d p x q} m h1 h hm := by
    have hle := numP_le h1 h
    unfold numP at h ⊢
    rw [take_drop_le]
    split at h
    · cases h
    · rename_i hs
      split at h
      · cases h
      · rename_i hb
        injection h with h
        injection h with h2 h3
        have hs' : (scanL 0 0 (d.drop p)).2.2 = 0 := by simpa using hs
        rw [scanL_take _ _ _ _ hs' (by omega), if_neg hs, if_neg hb, ← h2, ← h3]
  endTake {d p a} h1 h := by
    unfold numP at h
    split at h
    · injection h with h
      injection h with h2 h3
      have : p = a := by omega
      subst this
      unfold numP
      rw [take_drop_le, Nat.sub_self, List.take_zero]
      simp [scanL]
    · split at h
      · injection h with h
        injection h with h2 h3
        cases h3
      · cases h
  tagTake {d p a} h1 h := by
    exfalso
    unfold numP at h
    split at h
    · injection h with h
      injection h with h2 h3
      rcases scanL_code (d.drop p) 0 0 with h4 | h4 | h4 <;> rw [h4] at h3 <;> cases h3
    · split at h
      · injection h with h
        injection h with h2 h3
        cases h3
      · cases h
theorem good_text (least most : Int) : Good (fun d p => textP d p least most) where
  okLe {d p x q} h1 h := by have := textP_le h1 h; omega
  errAt {d p e} h1 h := by
    unfold textP at h
    split at h
    · rename_i hs
      injection h with h
      subst h
      refine ⟨p, rfl, Nat.le_refl _, h1, ?_⟩
      rcases scanL_code (d.drop p) 0 0 with h2 | h2 | h2
      · exact absurd h2 hs
      · exact .inl h2
      · exact .inr (.inl h2)
    · split at h
      · injection h with h
        subst h
        exact ⟨p, rfl, Nat.le_refl _, h1, .inr (.inr (.inl rfl))⟩
      · split at h
        · injection h with h
          subst h
          exact ⟨p, rfl, Nat.le_refl _, h1, .inl rfl⟩
        · cases h
  okApp {d p r} s h1 h := by
    unfold textP at h ⊢
    rw [drop_app h1]
    split at h
    · cases h
    · rename_i hs
      rw [scanL_more s _ _ _ (by simp at hs; rw [hs]; decide), if_neg hs]
      split at h
      · cases h
      · rename_i hb
        rw [if_neg hb]
        split at h
        · cases h
        · rename_i hl
          rw [if_neg (by rw [List.length_append]; omega), drop_app (by omega), List.take_append_of_le_length (by rw [List.length_drop]; omega)]
          exact h
  errApp {d p e} s h1 h he := by
    unfold textP at h ⊢
    rw [drop_app h1]
    split at h
    · rename_i hs
      injection h with h
      subst h
      rw [scanL_more s _ _ _ he, if_pos hs]
    · rename_i hs
      rw [scanL_more s _ _ _ (by simp at hs; rw [hs]; decide), if_neg hs]
      split at h
      · rename_i hb
        rw [if_pos hb]
        exact h
      · split at h
        · injection h with h
          subst h
          exact absurd rfl he
        · cases h
  okTake {d p x q} m h1 h hm := by
    have hle := textP_le h1 h
    unfold textP at h ⊢
    rw [take_drop_le]
    split at h
    · cases h
    · rename_i hs
      split at h
      · cases h
      · rename_i hb
        split at h
        · cases h
        · rename_i hl
          injection h with h
          injection h with h2 h3
          have hs' : (scanL 0 0 (d.drop p)).2.2 = 0 := by simpa using hs
          rw [scanL_take _ _ _ _ hs' (by omega), if_neg hs, if_neg hb, if_neg (by rw [List.length_take]; omega), take_drop_le, List.take_take, Nat.min_eq_left (by omega), ← h2, ← h3]
  endTake {d p a} h1 h := by
    have hpa : p = a := by
      unfold textP at h
      split at h
      · injection h with h
        injection h with h2 h3
        omega
      · split at h
        · injection h with h
          injection h with h2 h3
          cases h3
        · split at h
          · injection h with h
            injection h with h2 h3
            omega
          · cases h
    subst hpa
    unfold textP
    rw [take_drop_le, Nat.sub_self, List.take_zero]
    simp [scanL]
  tagTake {d p a} h1 h := by
    exfalso
    unfold textP at h
    split at h
    · injection h with h
      injection h with h2 h3
      rcases scanL_code (d.drop p) 0 0 with h4 | h4 | h4 <;> rw [h4] at h3 <;> cases h3
    · split at h
      · injection h with h
        injection h with h2 h3
        cases h3
      · split at h
        · injection h with h
          injection h with h2 h3
          cases h3
        · cases h
def tagP (d : List UInt8) (p : Nat) : PR Nat :=
  if d.length ≤ p then .error (p, 51) else if (d.getD p 0).toNat = 0 ∨ 4 < (d.getD p 0).toNat then .error (p, 60) else .ok ((d.getD p 0).toNat, p + 1)
theorem getD_app {d s : List UInt8} {p : Nat} (h : p < d.length) : (d ++ s).getD p 0 = d.getD p 0 := by simp [List.getD_eq_getElem?_getD, List.getElem?_append_left h]
theorem getD_take {d : List UInt8} {p m : Nat} (h : p < m) : (d.take m).getD p 0 = d.getD p 0 := by simp [List.getD_eq_getElem?_getD, List.getElem?_take_of_lt h]
theorem good_tag : Good tagP where
  okLe {d p x q} h1 h := by
    unfold tagP at h
    split at h
    · cases h
    · split at h
      · cases h
      · injection h with h
        injection h with _ h
        omega
  errAt {d p e} h1 h := by
    unfold tagP at h
    split at h
    · injection h with h
      subst h
      exact ⟨p, rfl, Nat.le_refl _, h1, .inl rfl⟩
    · split at h
      · injection h with h
        subst h
        exact ⟨p, rfl, Nat.le_refl _, h1, .inr (.inr (.inr ⟨rfl, by omega⟩))⟩
      · cases h
  okApp {d p r} s h1 h := by
    unfold tagP at h ⊢
    split at h
    · cases h
    · rename_i hl
      rw [if_neg (by rw [List.length_append]; omega), getD_app (by omega)]
      exact h
  errApp {d p e} s h1 h he := by
    unfold tagP at h ⊢
    split at h
    · injection h with h
      subst h
      exact absurd rfl he
    · rename_i hl
      rw [if_neg (by rw [List.length_append]; omega), getD_app (by omega)]
      exact h
  okTake {d p x q} m h1 h hm := by
    unfold tagP at h ⊢
    split at h
    · cases h
    · rename_i hl
      split at h
      · cases h
      · rename_i ht
        injection h with h
        injection h with h2 h3
        rw [if_neg (by rw [List.length_take]; omega), getD_take (by omega), if_neg ht, h2, h3]
  endTake {d p a} h1 h := by
    have hpa : p = a := by
      unfold tagP at h
      split at h
      · injection h with h
        injection h with h2 h3
        omega
      · split at h
        · injection h with h
          injection h with h2 h3
          cases h3
        · cases h
    subst hpa
    unfold tagP
    rw [if_pos (by rw [List.length_take]; omega)]
  tagTake {d p a} h1 h := by
    unfold tagP at h ⊢
    split at h
    · injection h with h
      injection h with h2 h3
      cases h3
    · rename_i hl
      split at h
      · rename_i ht
        injection h with h
        injection h with h2 h3
        have hpa : p = a := by omega
        subst hpa
        rw [if_neg (by rw [List.length_take]; omega), getD_take (by omega), if_pos ht]
      · cases h
theorem opP_bind : opP = bindP tagP (fun g => bindP (fun d p => textP d p 1 8) (fun k => if g = 1 ∨ g = 3 then bindP (fun d p => textP d p 0 16) (fun v => pureP ⟨kindT g, ⟨k.toArray⟩, true, ⟨v.toArray⟩⟩) else pureP ⟨kindT g, ⟨k.toArray⟩, false, ⟨#[]⟩⟩)) := by
  funext d p
  unfold opP bindP tagP
  split
  · rfl
  · split
    · rfl
    · dsimp only [bindP]
      cases textP d (p + 1) 1 8 with
      | error e => rfl
      | ok r =>
        obtain ⟨k, p2⟩ := r
        dsimp only
        split
        · rename_i hg
          dsimp only [bindP]
          cases textP d p2 0 16 with
          | error e => rfl
          | ok r => rfl
        · rfl
theorem good_op : Good opP := by
  rw [opP_bind]
  refine good_bind good_tag fun g => good_bind (good_text 1 8) fun k => ?_
  split
  · exact good_bind (good_text 0 16) fun v => good_pure _
  · exact good_pure _
theorem good_ops : ∀ n, Good (fun d p => opsP d n p)
  | 0 => by
    have : (fun d p => opsP d 0 p) = pureP [] := by funext d p; rfl
    rw [this]; exact good_pure _
  | n + 1 => by
    have : (fun d p => opsP d (n + 1) p) = bindP opP (fun o => bindP (fun d p => opsP d n p) (fun l => pureP (o :: l))) := by
      funext d p
      rw [opsP]
      dsimp only [bindP]
      cases opP d p with
      | error e => rfl
      | ok r =>
        dsimp only
        cases opsP d n r.2 with
        | error e => rfl
        | ok r => rfl
    rw [this]
    exact good_bind good_op fun o => good_bind (good_ops n) fun l => good_pure _
theorem good_nums : ∀ ms, Good (fun d p => numsP d ms p)
  | [] => by
    have : (fun d p => numsP d [] p) = pureP [] := by funext d p; rfl
    rw [this]; exact good_pure _
  | m :: r => by
    have : (fun d p => numsP d (m :: r) p) = bindP (fun d p => numP d p m) (fun n => bindP (fun d p => numsP d r p) (fun l => pureP (n :: l))) := by
      funext d p
      rw [numsP]
      dsimp only [bindP]
      cases numP d p m with
      | error e => rfl
      | ok r2 =>
        dsimp only
        cases numsP d r r2.2 with
        | error e => rfl
        | ok r => rfl
    rw [this]
    exact good_bind (good_num m) fun o => good_bind (good_nums r) fun l => good_pure _
end Go.Proofs.Ytlioccfedophhaa
/- What is written is read back, and what is read was written in its one form. -/
set_option linter.unusedVariables false
set_option linter.unusedSimpArgs false
namespace Go.Proofs.Ytlioccfedophhaa
open Go
theorem scanL_app (r : List UInt8) : ∀ (n i acc : Nat), i + (formN n).length ≤ 8 → (0 < i → 0 < n) → scanL i acc (formN n ++ r) = (acc + n * 128 ^ i, i + (formN n).length, 0) := by
  intro n
  induction n using Nat.strongRecOn with
  | _ n ih =>
    intro i acc hi h0
    by_cases hn : n < 128
    · rw [formN_lt hn] at hi ⊢
      have hb : (UInt8.ofNat n).toNat = n := by simp; omega
      simp only [List.cons_append, List.nil_append, scanL, hb, List.length_cons, List.length_nil] at hi ⊢
      rw [if_neg (by omega), if_pos hn, if_neg (by omega)]
    · rw [formN_ge (by omega)] at hi ⊢
      have hb : (UInt8.ofNat (n % 128 + 128)).toNat = n % 128 + 128 := by simp; omega
      simp only [List.cons_append, scanL, hb, List.length_cons] at hi ⊢
      rw [if_neg (by omega), if_neg (by omega), ih (n / 128) (by omega) (i + 1) _ (by omega) (by omega)]
      have h1 : (n % 128 + 128) % 128 = n % 128 := by omega
      rw [h1]
      have h2 : n % 128 * 128 ^ i + n / 128 * 128 ^ (i + 1) = n * 128 ^ i := by
        rw [Nat.pow_succ, Nat.mul_comm (128 ^ i) 128, ← Nat.mul_assoc, ← Nat.add_mul]
        congr 1; omega
      refine Prod.ext ?_ (Prod.ext ?_ rfl)
      · dsimp only; omega
      · dsimp only; omega
theorem scanL_form : ∀ (l : List UInt8) (i acc n size : Nat), scanL i acc l = (n, size, 0) → ∃ m, n = acc + m * 128 ^ i ∧ l.take (size - i) = formN m ∧ size = i + (formN m).length ∧ size ≤ 8 ∧ (0 < i → 0 < m)
  | [], i, acc, n, size, h => by simp only [scanL] at h; split at h <;> simp at h
  | b :: r, i, acc, n, size, h => by
    have hb := b.toNat_lt
    simp only [scanL] at h
    split at h
    · simp at h
    · rename_i h8
      split at h
      · rename_i h1
        split at h
        · simp at h
        · rename_i h2
          simp only [Prod.mk.injEq] at h
          obtain ⟨rfl, rfl, _⟩ := h
          refine ⟨b.toNat, rfl, ?_, ?_, by omega, by omega⟩
          · rw [formN_lt h1, show i + 1 - i = 1 by omega]; simp
          · rw [formN_lt h1]; rfl
      · rename_i h1
        obtain ⟨m, h2, h3, h4, h5, h6⟩ := scanL_form r _ _ _ _ h
        have hm : 0 < m := h6 (by omega)
        have hge := formN_ge (n := b.toNat % 128 + 128 * m) (by omega)
        rw [show (b.toNat % 128 + 128 * m) / 128 = m by omega, show (b.toNat % 128 + 128 * m) % 128 + 128 = b.toNat by omega] at hge
        refine ⟨b.toNat % 128 + 128 * m, ?_, ?_, ?_, h5, by omega⟩
        · rw [h2, Nat.pow_succ, Nat.add_mul, Nat.add_assoc]
          congr 2
          rw [Nat.mul_comm (128 ^ i) 128, ← Nat.mul_assoc, Nat.mul_comm m 128]
        · have : size - i = (size - (i + 1)) + 1 := by omega
          rw [this, List.take_succ_cons, h3, hge]
          simp
        · rw [hge, List.length_cons]; omega
theorem num_at {d r : List UInt8} {p n : Nat} {most : Int} (h : d.drop p = formN n ++ r) (hn : (n : Int) ≤ most) (hs : n ≤ 72057594037927935) : numP d p most = .ok (n, p + (formN n).length) := by
  have hl := formN_len8 hs
  unfold numP
  rw [h, scanL_app r n 0 0 (by omega) (by omega)]
  dsimp only
  rw [if_neg (by simp), if_neg (by simpa using hn)]
  simp
theorem text_at {d r : List UInt8} {p : Nat} {s : ByteArray} {least most : Int} (h : d.drop p = textB s ++ r) (h1 : least ≤ s.size) (h2 : (s.size : Int) ≤ most) (hs : s.size ≤ 127) : textP d p least most = .ok (s.data.toList, p + (textB s).length) := by
  have hl := formN_len8 (n := s.size) (by omega)
  have hb : (textB s).length = (formN s.size).length + s.size := by
    unfold textB
    rw [List.length_append]
    rfl
  have hd : d.length - p = (textB s).length + r.length := by
    have := congrArg List.length h
    rwa [List.length_drop, List.length_append] at this
  have hp0 : 0 < (formN s.size).length := formN_pos _
  unfold textB at h
  rw [List.append_assoc] at h
  unfold textP
  rw [h, scanL_app _ s.size 0 0 (by omega) (by omega)]
  dsimp only
  simp only [Nat.zero_add, Nat.pow_zero, Nat.mul_one]
  rw [if_neg (by simp), if_neg (by omega), if_neg (by omega)]
  have e : d.drop (p + (formN s.size).length) = s.data.toList ++ r := by
    rw [← List.drop_drop, h, List.drop_left]
  rw [e, List.take_append_of_le_length (by show s.size ≤ s.data.toList.length; exact Nat.le_refl _), List.take_of_length_le (by show s.data.toList.length ≤ s.size; exact Nat.le_refl _), hb, Nat.add_assoc]
theorem drop_head {d r : List UInt8} {p : Nat} {b : UInt8} (h : d.drop p = b :: r) : p < d.length ∧ d.getD p 0 = b ∧ d.drop (p + 1) = r := by
  have h1 : p < d.length := by
    have := congrArg List.length h
    rw [List.length_drop, List.length_cons] at this
    omega
  refine ⟨h1, ?_, ?_⟩
  · have := congrArg (·[0]?) h
    simp at this
    simp [List.getD_eq_getElem?_getD, this]
  · rw [← List.drop_drop, h]; rfl
theorem op_facts {o : OpW} (ho : o.Right) : kindT o.tag = o.kind ∧ (1 ≤ o.tag ∧ o.tag ≤ 4) ∧ (o.tag = 1 ∨ o.tag = 3 → o.found = true) ∧ (¬ (o.tag = 1 ∨ o.tag = 3) → o.found = false ∧ o.value = ⟨#[]⟩) := by
  obtain ⟨_, _, _, hk⟩ := ho
  obtain ⟨kd, ky, fd, vl⟩ := o
  dsimp only at hk
  rcases hk with ⟨rfl, h⟩ | ⟨rfl, rfl⟩ | ⟨rfl, rfl, h⟩
  · cases fd with
    | true =>
      rw [show (⟨1, ky, true, vl⟩ : OpW).tag = 1 from rfl]
      exact ⟨rfl, by decide, fun _ => rfl, fun h => absurd (.inl rfl) h⟩
    | false =>
      rw [show (⟨1, ky, false, vl⟩ : OpW).tag = 2 from rfl]
      exact ⟨rfl, by decide, fun h => (by rcases h with h | h <;> cases h), fun _ => ⟨rfl, (empty_iff vl).2 (by simpa using h)⟩⟩
  · rw [show (⟨2, ky, true, vl⟩ : OpW).tag = 3 from rfl]
    exact ⟨rfl, by decide, fun _ => rfl, fun h => absurd (.inr rfl) h⟩
  · rw [show (⟨3, ky, false, vl⟩ : OpW).tag = 4 from rfl]
    exact ⟨rfl, by decide, fun h => (by rcases h with h | h <;> cases h), fun _ => ⟨rfl, (empty_iff vl).2 h⟩⟩
theorem op_at {d r : List UInt8} {p : Nat} {o : OpW} (ho : o.Right) (h : d.drop p = o.bytes ++ r) : opP d p = .ok (o, p + o.bytes.length) := by
  obtain ⟨f1, htag, f2, f3⟩ := op_facts ho
  obtain ⟨hk1, hk2, hv, hk⟩ := ho
  have hb : o.bytes = UInt8.ofNat o.tag :: (textB o.key ++ (if o.tag = 1 ∨ o.tag = 3 then textB o.value else [])) := by simp [OpW.bytes]
  rw [hb, List.cons_append, List.append_assoc] at h
  obtain ⟨h1, h2, h3⟩ := drop_head h
  have hg : (d.getD p 0).toNat = o.tag := by rw [h2]; simp; omega
  have ht := text_at (least := 1) (most := 8) h3 (by omega) (by omega) (by omega)
  unfold opP
  rw [if_neg (by omega), hg, if_neg (by omega), ht]
  dsimp only
  have h4 : d.drop (p + 1 + (textB o.key).length) = (if o.tag = 1 ∨ o.tag = 3 then textB o.value else []) ++ r := by
    rw [← List.drop_drop, h3, List.drop_left]
  have hlen : o.bytes.length = 1 + (textB o.key).length + (if o.tag = 1 ∨ o.tag = 3 then textB o.value else []).length := by
    rw [hb, List.length_cons, List.length_append]; omega
  by_cases ht13 : o.tag = 1 ∨ o.tag = 3
  · rw [if_pos ht13] at h4 hlen ⊢
    have hv' := text_at (least := 0) (most := 16) h4 (by omega) (by omega) (by omega)
    rw [hv']
    dsimp only
    rw [f1, hlen, ← f2 ht13]
    simp only [Nat.add_assoc]
  · rw [if_neg ht13] at h4 hlen ⊢
    obtain ⟨g1, g2⟩ := f3 ht13
    rw [f1, hlen, ← g1, ← g2]
    simp only [List.length_nil, Nat.add_zero, Nat.add_assoc]
theorem ops_at {d r : List UInt8} : ∀ {l : List OpW} {p : Nat}, (∀ o ∈ l, o.Right) → d.drop p = opsB l ++ r → opsP d l.length p = .ok (l, p + (opsB l).length)
  | [], p, _, h => rfl
  | o :: l, p, hr, h => by
    have e : opsB (o :: l) = o.bytes ++ opsB l := rfl
    rw [e, List.append_assoc] at h
    have h1 := op_at (hr o (by simp)) h
    have h2 : d.drop (p + o.bytes.length) = opsB l ++ r := by rw [← List.drop_drop, h, List.drop_left]
    have h3 := ops_at (fun o ho => hr o (by simp [ho])) h2
    rw [List.length_cons, opsP, h1]
    dsimp only
    rw [h3]
    dsimp only
    rw [e, List.length_append, Nat.add_assoc]
theorem nums_at {d r : List UInt8} : ∀ {ms ns : List Int} {p : Nat}, ns.length = ms.length → (∀ n ∈ ns, 0 ≤ n ∧ n ≤ 72057594037927935) → (∀ (k : Nat) (n m : Int), ns[k]? = some n → ms[k]? = some m → n ≤ m) → d.drop p = intsB ns ++ r → numsP d ms p = .ok (ns.map Int.toNat, p + (intsB ns).length)
  | [], [], p, _, _, _, h => rfl
  | m :: ms, n :: ns, p, hl, hn, hm, h => by
    have e : intsB (n :: ns) = formI n ++ intsB ns := rfl
    obtain ⟨n0, n1⟩ := hn n (by simp)
    have ef : formI n = formN n.toNat := by unfold formI; rw [if_neg (by omega)]
    rw [e, ef, List.append_assoc] at h
    have h1 := num_at (most := m) h (by have := hm 0 n m rfl rfl; omega) (by omega)
    have h2 : d.drop (p + (formN n.toNat).length) = intsB ns ++ r := by rw [← List.drop_drop, h, List.drop_left]
    have h3 := nums_at (ms := ms) (by simpa using hl) (fun n hn' => hn n (by simp [hn'])) (fun k n' m' h4 h5 => hm (k + 1) n' m' (by simpa using h4) (by simpa using h5)) h2
    rw [numsP, h1]
    dsimp only
    rw [h3]
    dsimp only
    rw [e, ef, List.length_append, Nat.add_assoc]
    rfl
/-! ### a whole body -/
def bodyP : List UInt8 → Nat → PR TxnP := bindP (fun d p => numsP d decMax p) (fun ns => bindP (fun d p => opsP d (ns.getD 7 0) p) (fun l => pureP ⟨(ns.getD 0 0 : Nat), (ns.getD 1 0 : Nat), (ns.getD 2 0 : Nat), (ns.getD 3 0 : Nat), (ns.getD 4 0 : Nat), (ns.getD 5 0 : Nat), (ns.getD 6 0 : Nat), l⟩))
theorem good_body : Good bodyP := good_bind (good_nums _) fun ns => good_bind (good_ops _) fun l => good_pure _
theorem decP_body (d : List UInt8) : decP d = (match bodyP d 0 with
    | .error e => .error e
    | .ok (t, q) => if q < d.length then .error (q, 61) else .ok t) := by
  unfold decP
  dsimp only [bodyP, bindP]
  cases numsP d decMax 0 with
  | error e => rfl
  | ok r =>
    dsimp only
    cases opsP d (r.1.getD 7 0) r.2 with
    | error e => rfl
    | ok r => rfl
theorem body_at {t : TxnW} {r : List UInt8} (h1 : t.FieldsOk) (h2 : t.ops.xs.length ≤ 16) (h3 : ∀ o ∈ t.ops.xs, o.Right) : bodyP (t.body ++ r) 0 = .ok (t.p, t.body.length) := by
  have hb : (t.body ++ r).drop 0 = intsB t.ints ++ (opsB t.ops.xs ++ r) := by rw [List.drop_zero, TxnW.body, List.append_assoc]
  have hok := okInts h1 h2
  have hn := nums_at (ms := decMax) (ns := t.ints) rfl hok (fun k n m hk hm => by
    simp only [TxnW.FieldsOk] at h1
    simp only [TxnW.ints, decMax] at hk hm
    rcases k with _ | _ | _ | _ | _ | _ | _ | _ | k <;> simp at hk hm <;> omega) hb
  have ho := ops_at (d := t.body ++ r) (r := r) (l := t.ops.xs) (p := (intsB t.ints).length) h3 (by rw [TxnW.body, List.append_assoc, List.drop_left])
  obtain ⟨a1, a2, a3, a4, a5, a6, a7⟩ := h1
  have g0 : (t.ints.map Int.toNat).getD 7 0 = t.ops.xs.length := by simp [TxnW.ints]
  dsimp only [bodyP, bindP]
  rw [hn]
  dsimp only
  rw [g0, Nat.zero_add, ho]
  dsimp only [pureP]
  have e : t.body.length = (intsB t.ints).length + (opsB t.ops.xs).length := by rw [TxnW.body, List.length_append]
  rw [e]
  congr 2
  unfold TxnW.p TxnW.ints
  simp only [List.map_cons, List.getD_cons_zero, List.getD_cons_succ]
  congr 1 <;> omega
/-! ### what is read was written in its one form -/
theorem num_inv {d : List UInt8} {p q n : Nat} {most : Int} (h : numP d p most = .ok (n, q)) : (d.drop p).take (q - p) = formN n ∧ q = p + (formN n).length ∧ (n : Int) ≤ most ∧ n ≤ 72057594037927935 := by
  unfold numP at h
  split at h
  · cases h
  · rename_i hs
    split at h
    · cases h
    · rename_i hb
      injection h with h
      injection h with h2 h3
      have hs' : scanL 0 0 (d.drop p) = ((scanL 0 0 (d.drop p)).1, (scanL 0 0 (d.drop p)).2.1, 0) := by
        have : (scanL 0 0 (d.drop p)).2.2 = 0 := by simpa using hs
        rw [← this]
      obtain ⟨m, e1, e2, e3, e4, _⟩ := scanL_form _ _ _ _ _ hs'
      have e1' : n = m := by rw [← h2, e1]; simp
      subst e1'
      have hv := scanL_val (d.drop p) 0 0 (by decide) (by decide)
      rw [h2] at hv
      simp only [Nat.zero_add, Nat.sub_zero] at e2 e3
      have hq : q - p = (scanL 0 0 (d.drop p)).2.1 := by omega
      have hp8 : (128 : Nat) ^ 8 = 72057594037927936 := by decide
      exact ⟨by rw [hq, e2], by omega, by omega, by omega⟩
theorem text_inv {d k : List UInt8} {p q : Nat} {least most : Int} (hp : p ≤ d.length) (h : textP d p least most = .ok (k, q)) : (d.drop p).take (q - p) = textB ⟨k.toArray⟩ ∧ q = p + (textB ⟨k.toArray⟩).length := by
  have hle := textP_le hp h
  unfold textP at h
  split at h
  · cases h
  · rename_i hs
    split at h
    · cases h
    · rename_i hb
      split at h
      · cases h
      · rename_i hl
        injection h with h
        injection h with h2 h3
        have hs' : scanL 0 0 (d.drop p) = ((scanL 0 0 (d.drop p)).1, (scanL 0 0 (d.drop p)).2.1, 0) := by
          have : (scanL 0 0 (d.drop p)).2.2 = 0 := by simpa using hs
          rw [← this]
        obtain ⟨m, e1, e2, e3, e4, _⟩ := scanL_form _ _ _ _ _ hs'
        have e1' : (scanL 0 0 (d.drop p)).1 = m := by rw [e1]; simp
        simp only [Nat.zero_add, Nat.sub_zero] at e2 e3
        have hkl : k.length = m := by rw [← h2, List.length_take, List.length_drop]; omega
        have hsz : (⟨k.toArray⟩ : ByteArray).size = m := by rw [← hkl]; rfl
        have hq : q - p = (formN m).length + m := by omega
        have ht : textB ⟨k.toArray⟩ = formN m ++ k := by
          unfold textB
          rw [hsz]
        rw [ht, List.length_append, hkl]
        refine ⟨?_, by omega⟩
        rw [hq, List.take_add, ← e3, e2, List.drop_drop, ← h2, e1']
theorem take_glue {d : List UInt8} {p q r : Nat} {x y : List UInt8} (hpq : p ≤ q) (hqr : q ≤ r) (h1 : (d.drop p).take (q - p) = x) (h2 : (d.drop q).take (r - q) = y) : (d.drop p).take (r - p) = x ++ y := by
  have e : r - p = (q - p) + (r - q) := by omega
  rw [e, List.take_add, h1, List.drop_drop, show p + (q - p) = q by omega, h2]
theorem op_inv {d : List UInt8} {p q : Nat} {o : OpW} (hp : p ≤ d.length) (h : opP d p = .ok (o, q)) : (d.drop p).take (q - p) = o.bytes ∧ q = p + o.bytes.length ∧ o.Right := by
  unfold opP at h
  split at h
  · cases h
  · rename_i h1
    split at h
    · cases h
    · rename_i hg
      split at h
      · cases h
      · rename_i k p2 hk
        obtain ⟨k1, k2⟩ := text_inv (by omega) hk
        obtain ⟨l1, l2, l3, l4⟩ := textP_le (by omega) hk
        have hhd : (d.drop p).take (p + 1 - p) = [UInt8.ofNat (d.getD p 0).toNat] := by
          rw [show p + 1 - p = 1 by omega, List.drop_eq_getElem_cons (by omega), List.take_succ_cons, List.take_zero]
          congr 1
          rw [List.getD_eq_getElem?_getD, List.getElem?_eq_getElem (by omega)]
          simp
        have g1 := take_glue (by omega) (by omega) hhd k1
        have hks : (⟨k.toArray⟩ : ByteArray).size = k.length := rfl
        have hgv : (d.getD p 0).toNat = 1 ∨ (d.getD p 0).toNat = 2 ∨ (d.getD p 0).toNat = 3 ∨ (d.getD p 0).toNat = 4 := by omega
        split at h
        · rename_i hg13
          split at h
          · cases h
          · rename_i v p3 hv
            obtain ⟨v1, v2⟩ := text_inv l1 hv
            obtain ⟨m1, m2, m3, m4⟩ := textP_le l1 hv
            have hvs : (⟨v.toArray⟩ : ByteArray).size = v.length := rfl
            injection h with h
            injection h with h2 h3
            subst h3
            have g2 := take_glue (by omega) (by omega) g1 v1
            have htg : o.tag = (d.getD p 0).toNat := by
              rw [← h2]
              rcases hgv with e | e | e | e <;> rw [e] at hg13 ⊢ <;> first | rfl | (exfalso; omega)
            have hbt : o.bytes = [UInt8.ofNat (d.getD p 0).toNat] ++ textB ⟨k.toArray⟩ ++ textB ⟨v.toArray⟩ := by
              unfold OpW.bytes
              rw [htg, if_pos hg13, ← h2]
            refine ⟨by rw [g2, hbt], by rw [hbt]; simp only [List.length_append, List.length_cons, List.length_nil]; omega, ?_⟩
            rw [← h2]
            unfold OpW.Right
            refine ⟨by dsimp only; omega, by dsimp only; omega, by dsimp only; omega, ?_⟩
            rcases hg13 with e | e <;> rw [e]
            · exact .inl ⟨rfl, .inl rfl⟩
            · exact .inr (.inl ⟨rfl, rfl⟩)
        · rename_i hg13
          injection h with h
          injection h with h2 h3
          subst h3
          have htg : o.tag = (d.getD p 0).toNat := by
            rw [← h2]
            rcases hgv with e | e | e | e <;> rw [e] at hg13 ⊢ <;> first | rfl | (exfalso; omega)
          have hbt : o.bytes = [UInt8.ofNat (d.getD p 0).toNat] ++ textB ⟨k.toArray⟩ := by
            unfold OpW.bytes
            rw [htg, if_neg hg13, ← h2, List.append_nil]
          refine ⟨by rw [g1, hbt], by rw [hbt]; simp only [List.length_append, List.length_cons, List.length_nil]; omega, ?_⟩
          rw [← h2]
          unfold OpW.Right
          refine ⟨by dsimp only; omega, by dsimp only; omega, Nat.zero_le _, ?_⟩
          have e24 : (d.getD p 0).toNat = 2 ∨ (d.getD p 0).toNat = 4 := by omega
          rcases e24 with e | e <;> rw [e]
          · exact .inl ⟨rfl, .inr rfl⟩
          · exact .inr (.inr ⟨rfl, rfl, rfl⟩)
theorem ops_inv {d : List UInt8} : ∀ {n p q : Nat} {l : List OpW}, p ≤ d.length → opsP d n p = .ok (l, q) → (d.drop p).take (q - p) = opsB l ∧ q = p + (opsB l).length ∧ (∀ o ∈ l, o.Right) ∧ l.length = n
  | 0, p, q, l, hp, h => by
    unfold opsP at h
    injection h with h
    injection h with h1 h2
    subst h1; subst h2
    exact ⟨by simp [opsB], rfl, by simp, rfl⟩
  | n + 1, p, q, l, hp, h => by
    unfold opsP at h
    split at h
    · cases h
    · rename_i o p2 ho
      obtain ⟨a1, a2, a3⟩ := op_inv hp ho
      have hle := opP_le hp ho
      split at h
      · cases h
      · rename_i l2 p3 hl
        obtain ⟨b1, b2, b3, b4⟩ := ops_inv hle hl
        injection h with h
        injection h with h1 h2
        subst h1; subst h2
        have e : opsB (o :: l2) = o.bytes ++ opsB l2 := rfl
        refine ⟨by rw [e]; exact take_glue (by omega) (by omega) a1 b1, by rw [e, List.length_append]; omega, ?_, by simp [b4]⟩
        intro o' ho'
        rcases List.mem_cons.1 ho' with rfl | ho'
        · exact a3
        · exact b3 o' ho'
theorem nums_inv {d : List UInt8} : ∀ {ms : List Int} {p q : Nat} {l : List Nat}, p ≤ d.length → numsP d ms p = .ok (l, q) → (d.drop p).take (q - p) = intsB (l.map (fun n : Nat => (n : Int))) ∧ q = p + (intsB (l.map (fun n : Nat => (n : Int)))).length
  | [], p, q, l, hp, h => by
    unfold numsP at h
    injection h with h
    injection h with h1 h2
    subst h1; subst h2
    exact ⟨by simp [intsB], rfl⟩
  | m :: r, p, q, l, hp, h => by
    unfold numsP at h
    split at h
    · cases h
    · rename_i n p2 hn
      obtain ⟨a1, a2, a3, a4⟩ := num_inv hn
      have hle := numP_le hp hn
      split at h
      · cases h
      · rename_i l2 p3 hl
        obtain ⟨b1, b2⟩ := nums_inv hle.1 hl
        injection h with h
        injection h with h1 h2
        subst h1; subst h2
        have e : intsB ((n :: l2).map (fun n : Nat => (n : Int))) = formN n ++ intsB (l2.map (fun n : Nat => (n : Int))) := by
          show formI (n : Int) ++ _ = _
          unfold formI
          rw [if_neg (by omega)]
          rfl
        exact ⟨by rw [e]; exact take_glue (by omega) (by omega) a1 b1, by rw [e, List.length_append]; omega⟩
theorem body_inv {d : List UInt8} {q : Nat} {t : TxnP} (A : Option Addr) (c : Nat) (h : bodyP d 0 = .ok (t, q)) : d.take q = (t.w A c).body ∧ (t.w A c).FieldsOk ∧ t.ops.length ≤ 16 ∧ (∀ o ∈ t.ops, o.Right) ∧ q = (t.w A c).body.length := by
  dsimp only [bodyP, bindP] at h
  cases hn : numsP d decMax 0 with
  | error e => rw [hn] at h; cases h
  | ok r =>
    obtain ⟨ns, p⟩ := r
    rw [hn] at h
    dsimp only at h
    obtain ⟨l1, l2⟩ := numsP_le (Nat.zero_le _) hn
    obtain ⟨n0, n1, n2, n3, n4, n5, n6, n7, rfl⟩ := len8 l2
    have hm := nums_max (Nat.zero_le _) hn
    obtain ⟨a1, a2⟩ := nums_inv (Nat.zero_le _) hn
    cases ho : opsP d ([n0, n1, n2, n3, n4, n5, n6, n7].getD 7 0) p with
    | error e => rw [ho] at h; cases h
    | ok r =>
      obtain ⟨l, q2⟩ := r
      rw [ho] at h
      dsimp only [pureP] at h
      obtain ⟨b1, b2, b3, b4⟩ := ops_inv l1 ho
      have b4' : l.length = n7 := b4
      injection h with h
      injection h with h1 h2
      obtain rfl : t = (⟨(n0 : Nat), (n1 : Nat), (n2 : Nat), (n3 : Nat), (n4 : Nat), (n5 : Nat), (n6 : Nat), l⟩ : TxnP) := h1.symm
      subst h2
      have m0 := hm 0 n0 1048575 rfl rfl
      have m1 := hm 1 n1 1048575 rfl rfl
      have m2 := hm 2 n2 1099511627776 rfl rfl
      have m3 := hm 3 n3 1099511627776 rfl rfl
      have m4 := hm 4 n4 1099511627776 rfl rfl
      have m5 := hm 5 n5 1099511627776 rfl rfl
      have m6 := hm 6 n6 1 rfl rfl
      have m7 := hm 7 n7 16 rfl rfl
      have hg := take_glue (Nat.zero_le _) (by omega) a1 b1
      rw [List.drop_zero, Nat.sub_zero] at hg
      have hb : (TxnP.w ⟨(n0 : Nat), (n1 : Nat), (n2 : Nat), (n3 : Nat), (n4 : Nat), (n5 : Nat), (n6 : Nat), l⟩ A c).body = intsB ([n0, n1, n2, n3, n4, n5, n6, n7].map (fun n : Nat => (n : Int))) ++ opsB l := by
        unfold TxnW.body TxnW.ints TxnP.w
        dsimp only
        rw [b4']
        rfl
      refine ⟨by rw [hb]; exact hg, ?_, by show l.length ≤ 16; omega, b3, by rw [hb, List.length_append]; omega⟩
      unfold TxnW.FieldsOk TxnP.w
      dsimp only
      omega
/-! ### the laws -/
theorem TxnW.ok_of {t : TxnW} (he : t.err = 0) : t.FieldsOk ∧ t.ops.xs.length ≤ 16 ∧ ∀ o ∈ t.ops.xs, o.Right := by
  have h1 : t.FieldsOk := Decidable.not_not.1 (mt err62 (by rw [he]; decide))
  have h2 : t.ops.xs.length ≤ 16 := by
    rcases Nat.lt_or_ge 16 t.ops.xs.length with h | h
    · have := err63 h1 h; rw [he] at this; cases this
    · exact h
  refine ⟨h1, h2, fun o ho => ?_⟩
  by_cases hr : o.Right
  · exact hr
  · have := err64 h1 h2 ho hr; rw [he] at this; cases this
theorem dec_body {t : TxnW} (he : t.err = 0) : decR t.body = (t.p, 0, 0) := by
  obtain ⟨h1, h2, h3⟩ := t.ok_of he
  have := body_at (r := []) h1 h2 h3
  rw [List.append_nil] at this
  unfold decR
  rw [decP_body, this]
  dsimp only
  rw [if_neg (by omega)]
theorem dec_tail {t : TxnW} (he : t.err = 0) {r : List UInt8} (hr : r ≠ []) : decR (t.body ++ r) = (TxnP.zero, (t.body.length : Int), (61 : Int)) := by
  obtain ⟨h1, h2, h3⟩ := t.ok_of he
  have := body_at (r := r) h1 h2 h3
  have hl : 0 < r.length := List.length_pos_iff.2 hr
  unfold decR
  rw [decP_body, this]
  dsimp only
  rw [if_pos (by rw [List.length_append]; omega)]
theorem dec_cases (d : List UInt8) : (∃ t, decR d = (t, 0, 0) ∧ bodyP d 0 = .ok (t, d.length)) ∨ (∃ (t : TxnP) (q : Nat), decR d = (TxnP.zero, (q : Int), (61 : Int)) ∧ bodyP d 0 = .ok (t, q) ∧ q < d.length) ∨ (∃ (a : Nat) (e : Int), decR d = (TxnP.zero, (a : Int), e) ∧ bodyP d 0 = .error ((a : Int), e) ∧ a ≤ d.length ∧ (e = 51 ∨ e = 52 ∨ e = 53 ∨ (e = 60 ∧ a < d.length))) := by
  unfold decR
  rw [decP_body]
  cases h : bodyP d 0 with
  | error e =>
    obtain ⟨a, h1, h2, h3, h4⟩ := good_body.errAt (Nat.zero_le _) h
    obtain ⟨e1, e2⟩ := e
    dsimp only at h1 h4 ⊢
    subst h1
    exact .inr (.inr ⟨a, e2, rfl, rfl, h3, h4⟩)
  | ok r =>
    obtain ⟨t, q⟩ := r
    dsimp only
    have hq := good_body.okLe (Nat.zero_le _) h
    by_cases hl : q < d.length
    · rw [if_pos hl]
      exact .inr (.inl ⟨t, q, rfl, rfl, hl⟩)
    · rw [if_neg hl]
      obtain rfl : q = d.length := by omega
      exact .inl ⟨t, rfl, rfl⟩
theorem dec_one {d : List UInt8} {t : TxnP} (h : bodyP d 0 = .ok (t, d.length)) (A : Option Addr) (c : Nat) : (t.w A c).err = 0 ∧ (t.w A c).body = d ∧ (t.w A c).encB = d := by
  obtain ⟨h1, h2, h3, h4, h5⟩ := body_inv A c h
  rw [List.take_length] at h1
  have he := err0 h2 h3 h4
  exact ⟨he, h1.symm, by rw [TxnW.encB, if_pos he, h1]⟩
theorem dec_cut {t : TxnW} (he : t.err = 0) {k : Nat} (hk : k < t.body.length) : ∃ a : Nat, a ≤ k ∧ decR (t.body.take k) = (TxnP.zero, (a : Int), (51 : Int)) := by
  obtain ⟨h1, h2, h3⟩ := t.ok_of he
  have hb := body_at (r := []) h1 h2 h3
  rw [List.append_nil] at hb
  have hsp : t.body = t.body.take k ++ t.body.drop k := (List.take_append_drop k t.body).symm
  have hlk : (t.body.take k).length = k := by rw [List.length_take]; omega
  rcases dec_cases (t.body.take k) with ⟨t', e1, e2⟩ | ⟨t', q, e1, e2, e3⟩ | ⟨a, e, e1, e2, e3, e4⟩
  · have := good_body.okApp (t.body.drop k) (Nat.zero_le _) e2
    rw [← hsp, hb] at this
    injection this with this
    injection this with _ this
    omega
  · have := good_body.okApp (t.body.drop k) (Nat.zero_le _) e2
    rw [← hsp, hb] at this
    injection this with this
    injection this with _ this
    omega
  · by_cases h51 : e = 51
    · subst h51
      exact ⟨a, by omega, e1⟩
    · have := good_body.errApp (t.body.drop k) (Nat.zero_le _) e2 h51
      rw [← hsp, hb] at this
      cases this
theorem dec_tag {d s : List UInt8} {a : Nat} (h : bodyP d 0 = .error ((a : Int), 60)) (ha : a < d.length) : decR (d.take (a + 1) ++ s) = (TxnP.zero, (a : Int), (60 : Int)) := by
  have h1 := good_body.tagTake (Nat.zero_le _) h
  have h2 := good_body.errApp s (Nat.zero_le _) h1 (show (60 : Int) ≠ 51 by decide)
  unfold decR
  rw [decP_body, h2]
theorem dec_tailcut {d : List UInt8} {t : TxnP} {q : Nat} (h : bodyP d 0 = .ok (t, q)) (hq : q < d.length) : decR (d.take q) = (t, 0, 0) := by
  have h1 := good_body.okTake q (Nat.zero_le _) h (Nat.le_refl _)
  unfold decR
  rw [decP_body, h1]
  dsimp only
  rw [if_neg (by rw [List.length_take]; omega)]
theorem dec_endcut {d : List UInt8} {a : Nat} (h : bodyP d 0 = .error ((a : Int), 51)) : decR (d.take a) = (TxnP.zero, (a : Int), (51 : Int)) := by
  have h1 := good_body.endTake (Nat.zero_le _) h
  unfold decR
  rw [decP_body, h1]
end Go.Proofs.Ytlioccfedophhaa
/- The sweep, in plain: its state, a row taken. -/
set_option linter.unusedVariables false
set_option linter.unusedSimpArgs false
namespace Go.Proofs.Ytlioccfedophhaa
open Go
set_option maxRecDepth 20000
set_option maxHeartbeats 1000000
structure StD where
  limit : Int
  opn : List (Int × Int)
  begun : List Int
  ended : List DoneT
  last : RowW
  taken : Bool
  held : List VerK
  most : Int
  broken : Bool
def rowZ : RowW := ⟨0, 0, 0, 0, 0, 0, ByteArray.empty⟩
def newS (limit : Int) : StD := ⟨limit, [], [], [], rowZ, false, [], 0, false⟩
def startD (o : List (Int × Int)) (p : Int) : Option Int := (o.find? (fun e => decide (p = e.1))).map Prod.snd
def bodyD (r : RowW) : List UInt8 := r.body.data.toList
def refuseD (st : StD) (r : RowW) : TxnP × Int :=
  if st.broken = true then (.zero, 164)
  else if ¬ r.Right ∨ r.kind = 3 then (.zero, 90)
  else if st.taken = true ∧ ¬ rowBefore 1 st.last r then (.zero, 161)
  else if r.kind = 2 then (if r.index ∈ st.begun then (.zero, 163) else (.zero, 0))
  else match startD st.opn r.index with
    | none => (.zero, 163)
    | some s => if (decR (bodyD r)).2.2 ≠ 0 ∨ (decR (bodyD r)).1.start ≠ s ∨ (decR (bodyD r)).1.fin ≠ r.time then (.zero, 162) else ((decR (bodyD r)).1, 0)
def StD.n (st : StD) : Nat := st.opn.length + st.held.length
def holdD (st : StD) : Int × StD :=
  if st.limit < (st.n : Int) then (164, { st with most := max st.most (st.n : Int), broken := true }) else (0, { st with most := max st.most (st.n : Int) })
def floorD (t : Int) (o : List (Int × Int)) : Int := o.foldl (fun f e => if e.2 < f then e.2 else f) t
def beginD (st : StD) (r : RowW) : StD := { st with last := r, taken := true, opn := st.opn ++ [(r.index, r.time)], begun := st.begun ++ [r.index] }
def endD (st : StD) (r : RowW) (t : TxnP) : StD := { st with last := r, taken := true, opn := st.opn.filter (fun e => decide (r.index ≠ e.1)), ended := st.ended ++ [⟨r.index, t⟩], held := st.held ++ newD ⟨r.index, t⟩ }
def takeD (st : StD) (r : RowW) : (List ViolW × Int) × StD :=
  if (refuseD st r).2 ≠ 0 then (([], (refuseD st r).2), st)
  else if r.kind = 2 then (([], (holdD (beginD st r)).1), (holdD (beginD st r)).2)
  else if (holdD (endD st r (refuseD st r).1)).1 ≠ 0 then (([], (holdD (endD st r (refuseD st r).1)).1), (holdD (endD st r (refuseD st r).1)).2)
  else ((judgeD st.ended ⟨r.index, (refuseD st r).1⟩, 0), { (holdD (endD st r (refuseD st r).1)).2 with held := pruneD (floorD r.time (endD st r (refuseD st r).1).opn) (endD st r (refuseD st r).1).held })
theorem floorD_le : ∀ (o : List (Int × Int)) (t : Int), floorD t o ≤ t ∧ (∀ e ∈ o, floorD t o ≤ e.2) ∧ (∀ F, F ≤ t → (∀ e ∈ o, F ≤ e.2) → F ≤ floorD t o)
  | [], t => ⟨Int.le_refl _, fun e he => (by cases he), fun F h _ => h⟩
  | x :: o, t => by
    obtain ⟨h1, h2, h3⟩ := floorD_le o (if x.2 < t then x.2 else t)
    have e : floorD t (x :: o) = floorD (if x.2 < t then x.2 else t) o := rfl
    rw [e]
    have hm : (if x.2 < t then x.2 else t) ≤ t ∧ (if x.2 < t then x.2 else t) ≤ x.2 := by split <;> omega
    refine ⟨by omega, fun y hy => ?_, fun F hF hF2 => h3 F (by have := hF2 x (List.mem_cons_self ..); split <;> omega) fun y hy => hF2 y (List.mem_cons_of_mem _ hy)⟩
    rcases List.mem_cons.1 hy with rfl | hy
    · omega
    · exact h2 y hy
theorem floorD_eq {o : List (Int × Int)} {t m : Int} (h1 : m ≤ t) (h2 : ∀ e ∈ o, m ≤ e.2) (h3 : m = t ∨ ∃ e ∈ o, m = e.2) : floorD t o = m := by
  obtain ⟨f1, f2, f3⟩ := floorD_le o t
  have := f3 m h1 h2
  rcases h3 with h3 | ⟨e, he, h3⟩
  · omega
  · have := f2 e he
    omega
/-- a right transaction -/
def TxnP.Ok (t : TxnP) : Prop := (t.w none 0).err = 0
theorem TxnP.Ok.small {t : TxnP} (h : t.Ok) : t.ops.length ≤ 16 ∧ (0 ≤ t.start ∧ t.start ≤ 1099511627776) ∧ (0 ≤ t.fin ∧ t.fin ≤ 1099511627776) ∧ (∀ o ∈ t.ops, o.Right) ∧ (0 ≤ t.status ∧ t.status ≤ 1) := by
  obtain ⟨⟨_, _, h1, h2, _, _, h3⟩, h4, h5⟩ := TxnW.ok_of h
  exact ⟨h4, h1, h2, h5, h3⟩
theorem dec_ok {d : List UInt8} (h : (decR d).2.2 = 0) : (decR d).1.Ok := by
  rcases dec_cases d with ⟨t, h1, h2⟩ | ⟨t, q, h1, _⟩ | ⟨a, e, h1, _, _, h2⟩
  · rw [h1]
    exact (dec_one h2 none 0).1
  · rw [h1] at h; cases h
  · rw [h1] at h
    have h' : e = 0 := h
    omega
structure EndOk (st : StD) (d : DoneT) : Prop where
  ok : d.t.Ok
  pl : 0 ≤ d.place ∧ d.place ≤ 4095
  lt : d.t.start < d.t.fin
  tk : st.taken = true
  beh : d.t.fin < st.last.time ∨ (d.t.fin = st.last.time ∧ (1 < st.last.kind ∨ (st.last.kind = 1 ∧ d.place ≤ st.last.index)))
/-- what holds of a state: F is the floor at which it was pruned -/
structure InvD (st : StD) (F : Int) : Prop where
  lim : 0 ≤ st.limit ∧ st.limit ≤ 1048576
  srt : SrtD st.ended
  fin : ∀ d ∈ st.ended, EndOk st d
  opn : ∀ e ∈ st.opn, (0 ≤ e.1 ∧ e.1 ≤ 4095) ∧ F ≤ e.2 ∧ (0 ≤ e.2 ∧ e.2 ≤ 1099511627776) ∧ st.taken = true ∧ (e.2 < st.last.time ∨ (e.2 = st.last.time ∧ st.last.kind = 2))
  beg : st.begun.Nodup
  per : st.begun.Perm (st.opn.map Prod.fst ++ st.ended.map DoneT.place)
  flo : F ≤ 0 ∨ (st.taken = true ∧ F ≤ st.last.time)
  lst : st.taken = true → st.last.Right ∧ (st.last.kind = 1 ∨ st.last.kind = 2)
  chn : ∀ k, ∃ P, chD k (allD st.ended) = P ++ chD k st.held ∧ (P = [] ∨ ∃ v r, chD k st.held = v :: r ∧ v.commit ≤ F)
  mst : 0 ≤ st.most ∧ st.most ≤ 1048576
  hl : st.held.length ≤ 16 * st.ended.length
theorem InvD.new {limit : Int} (h : 0 ≤ limit ∧ limit ≤ 1048576) : InvD (newS limit) 0 :=
  ⟨h, .nil, fun d hd => (by cases hd), fun e he => (by cases he), .nil, .nil, .inl (Int.le_refl _), fun h => (by cases h), fun k => ⟨[], rfl, .inl rfl⟩, ⟨Int.le_refl _, by show (0 : Int) ≤ 1048576; decide⟩, Nat.le_refl _⟩
/-- a list of places, each once, is no longer than a log -/
theorem places_len : ∀ (n : Nat) (l : List Int), l.Nodup → (∀ x ∈ l, 0 ≤ x ∧ x < (n : Int)) → l.length ≤ n
  | 0, l, _, h => by
    cases l with
    | nil => exact Nat.le_refl _
    | cons a r => have := h a (List.mem_cons_self ..); omega
  | n + 1, l, hn, hl => by
    by_cases hm : (n : Int) ∈ l
    · obtain ⟨s, t, rfl⟩ := List.append_of_mem hm
      have hp : (s ++ (n : Int) :: t).Perm ((n : Int) :: (s ++ t)) := List.perm_middle
      have hn2 := List.nodup_cons.1 (hp.nodup_iff.1 hn)
      have := places_len n (s ++ t) hn2.2 fun x hx => by
        have h1 := hl x (hp.mem_iff.2 (List.mem_cons_of_mem _ hx))
        have h2 : x ≠ (n : Int) := fun e => hn2.1 (e ▸ hx)
        omega
      rw [hp.length_eq]
      simp only [List.length_cons]
      omega
    · have := places_len n l hn fun x hx => by
        have h1 := hl x hx
        have h2 : x ≠ (n : Int) := fun e => hm (e ▸ hx)
        omega
      omega
theorem InvD.len {st : StD} {F : Int} (h : InvD st F) : st.begun.length ≤ 4096 ∧ st.opn.length + st.ended.length = st.begun.length := by
  have hl := h.per.length_eq
  rw [List.length_append, List.length_map, List.length_map] at hl
  refine ⟨places_len 4096 st.begun h.beg fun x hx => ?_, hl.symm⟩
  rcases List.mem_append.1 (h.per.mem_iff.1 hx) with hx | hx
  · obtain ⟨e, he, rfl⟩ := List.mem_map.1 hx
    have := (h.opn e he).1
    omega
  · obtain ⟨d, hd, rfl⟩ := List.mem_map.1 hx
    have := (h.fin d hd).pl
    omega
end Go.Proofs.Ytlioccfedophhaa
/- judge: the violations of a transaction that ends. -/
set_option linter.unusedVariables false
set_option linter.unusedSimpArgs false
namespace Go.Proofs.Ytlioccfedophhaa
open Go
set_option maxRecDepth 20000
set_option maxHeartbeats 2000000
attribute [local irreducible] WX WC WQ Val VCall WY WR
theorem rSwQ_0 {A B : Prop} (k : B) (h : Hold B → A := by intro k; (repeat (first | (apply wx_val; (first | exact v_move rfl | exact v_assign rfl | exact v_nil rfl | exact v_faddr rfl rfl | exact v_ldT rfl rfl rfl (by rfl) | exact v_ldAT rfl (by rfl) | exact v_len rfl rfl | exact v_eq rfl rfl | exact v_ne rfl rfl | exact v_lt rfl rfl | exact v_strne rfl rfl | exact v_addi rfl rfl (by omega) | exact v_not rfl | exact v_pickT rfl rfl | exact v_pickF rfl rfl | exact v_iaddrE (by assumption) rfl rfl rfl (by omega) | (first | exact v_ldQ 1 0 rfl rfl rfl rfl rfl) | exact v_bne rfl rfl rfl); rfl) | refine wx_no rfl rfl rfl ?_ | refine wx_ungd rfl rfl ?_ | refine wc_seq ?_ | refine wc_region ?_ | refine wx_nil ?_ | refine wq_next ?_ | refine wc_block ?_ | refine wc_ret ?_ | refine wc_skip ?_ | refine wc_exit ?_ | refine wq_then_exit ?_ | refine wq_block ?_ | refine wq_block_exit rfl ?_ | refine wx_setn ?_ | refine wc_setn ?_ | refine wq_setn ?_ | refine wc_reads rfl (by decide +kernel) ?_ | refine wc_condF rfl ?_ | refine wl_storeT rfl rfl rfl (by rfl) (by exact .inl (Nat.le_refl _)) rfl ?_ | refine wl_stAT rfl rfl (by rfl) (by rfl) (by exact .inl (Nat.le_refl _)) rfl ?_)); exact k.out) : A := h ⟨k⟩
/-- what stands in a sweep's struct -/
structure SwW where
  lim : Int
  m1 : Nat
  m2 : Nat
  last : RowW
  tk : Bool
  gs : Nat
  gf : Nat
  tt : Int
  tf : Int
  ta : Bool
  most : Int
  br : Bool
def SwW.cells (s : SwW) : List Value := [.int .i64 s.lim, .map (some s.m1), .map (some s.m2), .int .i64 s.last.kind, .int .i64 s.last.time, .int .i64 s.last.seq, .int .i64 s.last.index, .int .i64 s.last.fro, .int .i64 s.last.to, .string s.last.body, .bool s.tk, .pointer (some ⟨s.gs, 0, none⟩), .pointer (some ⟨s.gf, 0, none⟩), .int .i64 s.tt, .int .i64 s.tf, .bool s.ta, .int .i64 s.most, .bool s.br]
abbrev swB (g : Nat) (s : SwW) : Seg := [(g, .cells s.cells.toArray 69 (0, 0))]
abbrev jM (g : Nat) (s : SwW) (mc : Nat) (nh : Int) (es : List ChE) (clk : Nat) (q : Fo) (n : Nat) : List Seg := [swB g s, stB s.gs mc nh, mpK Value.string mc (chL es) clk, chSg es, q.seg s.gf n]
abbrev VL (l : List ViolW) (q : Option Addr × Nat × Seg) : Prop := Buf 42 12 q.1 l.length q.2.1 (l.flatMap ViolW.cells) q.2.2
theorem kinds_step {f : Nat → OpW → Option ViolW} {l : List OpW} {k : Int} {n : Nat} {o : OpW} (h : l[n]? = some o) : kindsN f l k (n + 1) = kindsN f l k n ++ (match f n o with
      | some v => if v.kind = k then [v] else []
      | none => []) := by
  conv => lhs; unfold kindsN
  rw [h]
  rfl
theorem kinds_none {f : Nat → OpW → Option ViolW} {l : List OpW} {k : Int} {n : Nat} {o : OpW} (h : l[n]? = some o) (hf : f n o = none) : kindsN f l k (n + 1) = kindsN f l k n := by
  rw [kinds_step h, hf]; exact List.append_nil _
theorem kinds_no {f : Nat → OpW → Option ViolW} {l : List OpW} {k : Int} {n : Nat} {o : OpW} {v : ViolW} (h : l[n]? = some o) (hf : f n o = some v) (hk : v.kind ≠ k) : kindsN f l k (n + 1) = kindsN f l k n := by
  rw [kinds_step h, hf]; dsimp only; rw [if_neg hk]; exact List.append_nil _
theorem kinds_yes {f : Nat → OpW → Option ViolW} {l : List OpW} {k : Int} {n : Nat} {o : OpW} {v : ViolW} (h : l[n]? = some o) (hf : f n o = some v) (hk : v.kind = k) : kindsN f l k (n + 1) = kindsN f l k n ++ [v] := by
  rw [kinds_step h, hf]; dsimp only; rw [if_pos hk]
def baseV (p : Int) (t : TxnP) : ViolW := ⟨0, t.fin, p, -1, -1, ⟨#[]⟩, false, ⟨#[]⟩, false, ⟨#[]⟩, t.start, t.fin⟩
theorem VL.nil : VL [] (none, 0, []) := Buf.nil _ _
theorem VL.snoc {l : List ViolW} {v : ViolW} {A : Option Addr} {c : Nat} {E : Seg} (h : Buf 42 12 A (l.length + 1) c (l.flatMap ViolW.cells ++ v.cells) E) : VL (l ++ [v]) (A, c, E) := by
  unfold VL
  rw [List.length_append, show (l ++ [v]).flatMap ViolW.cells = l.flatMap ViolW.cells ++ v.cells by simp]
  exact h
section
variable {g mc clk n : Nat} {s : SwW} {nh : Int} {es : List ChE} {H : List VerK} {q : Fo} {m : Nat} {A : Ks}
theorem judge_spec {At : Option Addr} {c : Nat} {t : TxnP} (p : Int) (hch : ChOk es clk H) (hR : ∀ k, Rise (chD k H)) (hl : H.length ≤ 1048576) (hq : FoOk m A q) (hm : m ≤ 1048576) (ht : t.ops.length ≤ 16) (hc : t.ops.length ≤ c)
    (w : World) (hv : Vw (ids (jM g s mc nh es clk q A.length)) w At (t.ops.flatMap OpW.cells)) (ho : Own w (jM g s mc nh es clk q A.length)) :
    Calls Try.prog 35 #[.pointer (some ⟨g, 0, none⟩), .int .i64 p, .agg (t.cells At c).toArray] w
      (Ret (β := Option Addr × Nat × Seg) w (ids (jM g s mc nh es clk q A.length)) (fun x => .slice x.1 (judgeQ (if s.ta = true ∧ s.tt = t.fin then some s.tf else none) (fun k => (firstS (ovK k t.start t.fin A)).map (fun s => (s.c, s.b))) (fun k => atC t.start (chD k H)) p t).length x.2.1) (fun x => jM g s mc nh es clk q A.length ++ [x.2.2])
        (fun x => VL (judgeQ (if s.ta = true ∧ s.tt = t.fin then some s.tf else none) (fun k => (firstS (ovK k t.start t.fin A)).map (fun s => (s.c, s.b))) (fun k => atC t.start (chD k H)) p t) x)) := by
  refine go [.pointer (some ⟨g, 0, none⟩), .int .i64 p, .agg (t.cells At c).toArray] (jM g s mc nh es clk q A.length) Try.func35 Try.ntmps35 rfl rfl ho ?_
  have c1 := fun k w' ho => First_law (g := s.gf) (q := q) k t.start t.fin hq (by omega) w' ho
  have c2 := fun k w' ho => chAt_spec (g := s.gs) (m := mc) (n := nh) hch hR hl k t.start w' ho
  obtain ⟨fst, hfst⟩ : ∃ f, f = fun k => (firstS (ovK k t.start t.fin A)).map (fun s => (s.c, s.b)) := ⟨_, rfl⟩
  obtain ⟨see, hsee⟩ : ∃ f, f = fun k => atC t.start (chD k H) := ⟨_, rfl⟩
  obtain ⟨tw, htw⟩ : ∃ f : Option Int, f = if s.ta = true ∧ s.tt = t.fin then some s.tf else none := ⟨_, rfl⟩
  rw [← hfst, ← hsee, ← htw]
  refine rSwQ_0 ?_
  refine wl_boxA rfl rfl (fun g5 => ?_)
  refine rSwQ_0 ?_
  (try refine wx_ungd rfl rfl ?_)
  apply wx_val
  exact v_build (cs := ((baseV p t).cells).toArray) rfl (by kernel_rfl)
  rfl
  refine wl_alloc rfl rfl (fun g7 => ?_)
  repeat (first | (apply wx_val; (first | exact v_assign rfl); rfl) | refine wc_seq ?_ | refine wc_region ?_ | refine wx_nil ?_ | refine wq_next ?_ | refine wc_setn ?_ | refine wl_stAT rfl rfl (by rfl) (by rfl) (by exact .inl (Nat.le_refl _)) rfl ?_)
  refine wc_meetK (ι := Unit) [0, 1, 5, 6, 7, 8] (fun _ => [(49, .bool (decide (t.status = 1 ∧ s.ta = true ∧ s.tt = t.fin)))]) (fun _ => []) (M1 := []) (fun _ => True) rfl ?_ ?_
  · refine wc_cat ?_
    refine rSwQ_0 ?_
    refine wx_gif rfl rfl (fun hs => ?_) (fun hs => ?_)
    · refine rSwQ_0 ?_
      refine wx_gbool rfl rfl (fun hta => ?_) (fun hta => ?_)
      · refine rSwQ_0 ?_
        rw [show decide (s.tt = t.fin) = decide (t.status = 1 ∧ s.ta = true ∧ s.tt = t.fin) by simp [hs, hta]]
        refine wq_cutK (()) ?_ (by repeat (first | exact trivial | refine ⟨rfl, ?_⟩)) (by first | exact catEq | exact rfl)
        exact trivial
      · rw [decide_eq_false (show ¬ (t.status = 1 ∧ s.ta = true ∧ s.tt = t.fin) by simp [hta])]
        refine rSwQ_0 ?_
        refine wq_cutK (()) ?_ (by repeat (first | exact trivial | refine ⟨rfl, ?_⟩)) (by first | exact catEq | exact rfl)
        exact trivial
    · rw [decide_eq_false (show ¬ (t.status = 1 ∧ s.ta = true ∧ s.tt = t.fin) by simp [hs])]
      refine rSwQ_0 ?_
      refine wq_cutK (()) ?_ (by repeat (first | exact trivial | refine ⟨rfl, ?_⟩)) (by first | exact catEq | exact rfl)
      exact trivial
  rintro ⟨⟩ -
  refine wc_fcat ?_
  refine wc_cat ?_
  refine wc_seg ?_
  refine wc_meetK (ι := Option Addr × Nat × Seg) [0, 1, 5, 6, 7] (fun x => [(8, .slice x.1 (twinL tw p t).length x.2.1)]) (fun x => [x.2.2]) (M1 := [[]]) (fun x => VL (twinL tw p t) x) rfl ?_ ?_
  · refine wc_cat ?_
    refine wc_if rfl (fun hs => ?_) (fun hs => ?_)
    · have e : twinL tw p t = [{ baseV p t with kind := 5, witness := s.tf }] := by
        rw [htw, if_pos ⟨hs.2.1, hs.2.2⟩]
        unfold twinL
        dsimp only
        rw [if_pos hs.1]
        rfl
      refine rSwQ_0 ?_
      refine wl_alloc rfl rfl (fun g9 => ?_)
      refine rSwQ_0 ?_
      refine wc_heldX [] [swB g s] rfl (by (repeat (first | exact panicNot_M2 rfl | exact panicNot_D3 rfl | with_reducible exact panicNot_of panicOk_body | with_reducible apply panicNot_block | with_reducible apply panicNot_then))) (fun hQd => ?_)
      refine tkX 0 rfl (v_move rfl) ?_
      refine tkX 1 rfl (v_nil rfl) ?_
      refine tkX 2 rfl (v_faddr rfl rfl) ?_
      refine tkX 3 rfl (v_faddr rfl rfl) ?_
      refine tkX 4 rfl (v_ldT rfl rfl rfl (by rfl)) ?_
      refine tkX 5 rfl (v_faddr rfl rfl) ?_
      refine efX 6 rfl ?_
      refine rSwQ_0 ?_
      (try refine wx_nil ?_)
      refine hdX ?_
      refine tkX 7 rfl (v_faddr rfl rfl) ?_
      refine efX 8 rfl ?_
      refine rSwQ_0 ?_
      (try refine wx_nil ?_)
      refine hdX ?_
      refine wh_done (by decide +kernel) ?_
      refine wq_blk g9 (ViolW.cells { baseV p t with kind := 5, witness := s.tf }) rfl ?_
      refine wq_setn ?_
      rw [e]
      refine rSwQ_0 ?_
      refine wl_lit rfl rfl rfl rfl rfl (by decide) rfl (fun g60 => ?_)
      refine wl_app1T rfl VL.nil rfl rfl rfl rfl (by decide) rfl (fun A3 c3 E3 hb3 => ?_)
      refine rSwQ_0 ?_
      refine wq_cutK ((A3, c3, E3)) ?_ (by repeat (first | exact trivial | refine ⟨rfl, ?_⟩)) (by first | exact catEq | exact rfl)
      exact VL.snoc (l := []) hb3
    · have e : twinL tw p t = [] := by
        rw [htw]
        unfold twinL
        by_cases hx : s.ta = true ∧ s.tt = t.fin
        · rw [if_pos hx]
          dsimp only
          rw [if_neg fun e => hs ⟨e, hx⟩]
        · rw [if_neg hx]
      rw [e]
      refine rSwQ_0 ?_
      refine wq_cutK ((none, 0, [])) ?_ (by repeat (first | exact trivial | refine ⟨rfl, ?_⟩)) (by first | exact catEq | exact rfl)
      exact VL.nil
  rintro ⟨A8, c8, E8⟩ hb8
  dsimp only at hb8 ⊢
  refine wc_fcat ?_
  refine wc_cat ?_
  refine rSwQ_0 ?_
  refine wc_seg ?_
  refine wc_seg ?_
  refine wc_seg ?_
  refine wc_loopM (ι := Nat × (Option Addr × Nat × Seg) × (Option Addr × Nat × Seg) × (Option Addr × Nat × Seg)) ([[], [], []]) [0, 1, 5, 6, 7, 8, 63, 64] (fun x => [(65, .int .i64 (x.1 : Nat)), (10, .slice x.2.1.1 (kindsN (oneQ fst see p t) t.ops 6 x.1).length x.2.1.2.1), (11, .slice x.2.2.1.1 (kindsN (oneQ fst see p t) t.ops 7 x.1).length x.2.2.1.2.1), (12, .slice x.2.2.2.1 (kindsN (oneQ fst see p t) t.ops 8 x.1).length x.2.2.2.2.1)]) (fun x => [x.2.1.2.2, x.2.2.1.2.2, x.2.2.2.2.2]) (fun x => (x.1 ≤ t.ops.length ∧ VL (kindsN (oneQ fst see p t) t.ops 6 x.1) x.2.1 ∧ VL (kindsN (oneQ fst see p t) t.ops 7 x.1) x.2.2.1 ∧ VL (kindsN (oneQ fst see p t) t.ops 8 x.1) x.2.2.2)) (fun x => t.ops.length - x.1) ((0, (none, 0, []), (none, 0, []), (none, 0, []))) rfl rfl ?_ (by repeat (first | exact trivial | refine ⟨rfl, ?_⟩)) ?_
  · exact ⟨Nat.zero_le _, VL.nil, VL.nil, VL.nil⟩
  rintro ⟨j, ⟨A10, c10, E10⟩, ⟨A11, c11, E11⟩, ⟨A12, c12, E12⟩⟩ ⟨h1, hb10, hb11, hb12⟩
  try dsimp only
  refine wc_fcat ?_
  refine wc_cat ?_
  dsimp only at h1 hb10 hb11 hb12 ⊢
  refine rSwQ_0 ?_
  refine wc_if rfl (fun h2 => ?_) (fun h2 => ?_)
  · obtain ⟨o, ho⟩ : ∃ o, t.ops[j]? = some o := ⟨t.ops[j]'(by omega), List.getElem?_eq_getElem _⟩
    obtain ⟨gA, oA, hA, hca⟩ := hv.elZ (k := 4) (by decide) (fun _ => rfl) (by omega)
    have hlt := List.length_take (i := j) (l := t.ops)
    have hvw : ∀ {w' : World} {M : List Seg}, Res w (ids (jM g s mc nh es clk q A.length)) w' M → Vw [] w' (cutA At 0 j c 4) ((t.ops.take j).flatMap OpW.cells) := fun {w' M} hr => by
      have := vw_cut (l := 0) (h := j) (c := c) (sz := 4) (hv.keep hr) (by omega) (by rw [flat_len' (k := 4) (fun _ => rfl)]; omega) (by omega)
      rw [flat_dt (f := OpW.cells) (k := 4) (fun _ => rfl)] at this
      exact this.rd.vw
    refine rSwQ_0 ?_
    (try refine wx_ungd rfl rfl ?_)
    apply wx_val
    exact v_loadA (cs := o.cells) rfl rfl (fun w' hr u x hj => hca ho hr hj (by rw [Int.toNat_natCast]))
    rfl
    skip
    refine wl_alloc rfl rfl (fun g14 => ?_)
    refine rSwQ_0 ?_
    refine wl_alloc rfl rfl (fun g15 => ?_)
    refine rSwQ_0 ?_
    refine wc_heldN [] [[(g14, .cells o.cells.toArray 49 (0, 0))]] (fun hQd => ?_)
    refine tkX 0 rfl (v_move rfl) ?_
    refine tkX 1 rfl (v_faddr rfl rfl) ?_
    refine tkX 2 rfl (v_ldT rfl rfl rfl (by rfl)) ?_
    refine tkX 3 rfl (v_faddr rfl rfl) ?_
    refine efX 4 rfl ?_
    refine rSwQ_0 ?_
    (try refine wx_nil ?_)
    refine hdX ?_
    refine tkX 5 rfl (v_faddr rfl rfl) ?_
    refine efX 6 rfl ?_
    refine rSwQ_0 ?_
    (try refine wx_nil ?_)
    refine hdX ?_
    refine wh_done (by decide +kernel) ?_
    obtain ⟨v0, hv0⟩ : ∃ v0 : ViolW, v0 = { baseV p t with op := (j : Nat), key := o.key } := ⟨_, rfl⟩
    refine wq_blk g15 v0.cells (by rw [hv0]; rfl) ?_
    refine wq_setn ?_
    refine rSwQ_0 ?_
    refine wc_meetK (ι := Nat) [0, 1, 5, 6, 7, 8, 10, 11, 12, 13, 14, 15, 63, 64, 65] (fun g16 => [(16, .pointer (some ⟨g16, 0, none⟩)), (17, .bool (lastN o.key t.ops j).isSome)]) (fun g16 => [[(g16, .cells ((lastN o.key t.ops j).getD opZ).cells.toArray 49 (0, 0))]]) (M1 := []) (fun _ => True) rfl ?_ ?_
    · refine wc_cat ?_
      have ew : lastN o.key (t.ops.take j) (t.ops.take j).length = lastN o.key t.ops j := by
        rw [show (t.ops.take j).length = j by omega, lastN_take _ _ _ _ (Nat.le_refl _)]
      have cw := fun w' hv' => written_spec (A := cutA At 0 j c 4) (c := c - 0) (l := t.ops.take j) o.key (by omega) w' hv'
      rw [ew] at cw
      refine wc_heldN [] [[(g5, .cells (t.cells At c).toArray 47 (0, 0))], [(g14, .cells o.cells.toArray 49 (0, 0))]] (fun hQd => ?_)
      refine tkX 0 rfl (v_faddr rfl rfl) ?_
      refine tkX 1 rfl (v_ldT rfl rfl rfl (by rfl)) ?_
      refine tkX 2 rfl (v_move rfl) ?_
      refine tkX 3 rfl (v_sliceN (l := 0) (h := j) (m := (t.ops.take j).length) rfl rfl rfl (by rfl) (by omega) (by omega) (by omega)) ?_
      refine tkX 4 rfl (v_faddr rfl rfl) ?_
      refine tkX 5 rfl (v_ldT rfl rfl rfl (by rfl)) ?_
      refine wh_eff2 6 10 rfl rfl (by decide +kernel) ?_ ?_
      · skip
        (try refine wx_ungd rfl rfl ?_)
        refine wx_vcall (vc_pure' rfl rfl (fun w' hr => cw w' (hvw hr))) rfl ?_
        (try refine wx_nil ?_)
        refine hdX ?_
        refine tkX 7 rfl (v_move rfl) ?_
        refine tkX 8 rfl (v_extract rfl rfl) ?_
        refine tkX 9 rfl (v_extract rfl rfl) ?_
        refine efX 10 rfl ?_
        refine wl_alloc rfl rfl (fun g16 => ?_)
        (try refine wx_nil ?_)
        refine hdX ?_
        refine efX 11 rfl ?_
        refine rSwQ_0 ?_
        (try refine wx_nil ?_)
        refine hdX ?_
        refine tkX 12 rfl (v_assign rfl) ?_
        refine wh_done (by decide +kernel) ?_
        refine wq_cutK (g16) ?_ (by repeat (first | exact trivial | refine ⟨rfl, ?_⟩)) (by first | exact catEq | exact rfl)
        exact trivial
      · refine wl_alloc rfl rfl (fun g16 => ?_)
        (try refine wx_nil ?_)
        refine hdX ?_
        refine efX 6 rfl ?_
        (try refine wx_ungd rfl rfl ?_)
        refine wx_vcall (vc_pure' rfl rfl (fun w' hr => cw w' (hvw hr))) rfl ?_
        (try refine wx_nil ?_)
        refine hdX ?_
        refine tkX 7 rfl (v_move rfl) ?_
        refine tkX 8 rfl (v_extract rfl rfl) ?_
        refine tkX 9 rfl (v_extract rfl rfl) ?_
        refine efX 11 rfl ?_
        refine rSwQ_0 ?_
        (try refine wx_nil ?_)
        refine hdX ?_
        refine tkX 12 rfl (v_assign rfl) ?_
        refine wh_done (by decide +kernel) ?_
        refine wq_cutK (g16) ?_ (by repeat (first | exact trivial | refine ⟨rfl, ?_⟩)) (by first | exact catEq | exact rfl)
        exact trivial
    rintro g16 -
    refine wc_fcat ?_
    refine wc_cat ?_
    refine rSwQ_0 ?_
    refine wc_if rfl (fun hk => ?_) (fun hk => ?_)
    · refine rSwQ_0 ?_
      refine wc_meetK (ι := Nat) [0, 1, 5, 6, 7, 8, 10, 11, 12, 13, 14, 15, 16, 17, 63, 64, 65] (fun g18 => [(18, .pointer (some ⟨g18, 0, none⟩)), (19, .bool (firstS (ovK o.key t.start t.fin A)).isSome)]) (fun g18 => [[(g18, .cells ((firstS (ovK o.key t.start t.fin A)).getD Sp.zero).cells.toArray 110 (0, 0))]]) (M1 := []) (fun _ => True) rfl ?_ ?_
      · refine wc_cat ?_
        refine wc_heldN [] [swB g s, [(g5, .cells (t.cells At c).toArray 47 (0, 0))], [(g14, .cells o.cells.toArray 49 (0, 0))]] (fun hQd => ?_)
        refine tkX 0 rfl (v_move rfl) ?_
        refine tkX 1 rfl (v_nil rfl) ?_
        refine tkX 2 rfl (v_faddr rfl rfl) ?_
        refine tkX 3 rfl (v_ldT rfl rfl rfl (by rfl)) ?_
        refine tkX 4 rfl (v_faddr rfl rfl) ?_
        refine tkX 5 rfl (v_ldT rfl rfl rfl (by rfl)) ?_
        refine tkX 6 rfl (v_faddr rfl rfl) ?_
        refine tkX 7 rfl (v_ldT rfl rfl rfl (by rfl)) ?_
        refine tkX 8 rfl (v_faddr rfl rfl) ?_
        refine tkX 9 rfl (v_ldT rfl rfl rfl (by rfl)) ?_
        refine wh_eff2 10 14 rfl rfl (by decide +kernel) ?_ ?_
        · skip
          (try refine wx_ungd rfl rfl ?_)
          refine wx_vcall (vc_callT (fun w' hr ho => c1 o.key w' ho) rfl rfl) rfl ?_
          (try refine wx_nil ?_)
          refine hdX ?_
          refine tkX 11 rfl (v_move rfl) ?_
          refine tkX 12 rfl (v_extract rfl rfl) ?_
          refine tkX 13 rfl (v_extract rfl rfl) ?_
          refine efX 14 rfl ?_
          refine wl_alloc rfl rfl (fun g18 => ?_)
          (try refine wx_nil ?_)
          refine hdX ?_
          refine efX 15 rfl ?_
          refine rSwQ_0 ?_
          (try refine wx_nil ?_)
          refine hdX ?_
          refine tkX 16 rfl (v_assign rfl) ?_
          refine wh_done (by decide +kernel) ?_
          refine wq_cutK (g18) ?_ (by repeat (first | exact trivial | refine ⟨rfl, ?_⟩)) (by first | exact catEq | exact rfl)
          exact trivial
        · refine wl_alloc rfl rfl (fun g18 => ?_)
          (try refine wx_nil ?_)
          refine hdX ?_
          refine efX 10 rfl ?_
          (try refine wx_ungd rfl rfl ?_)
          refine wx_vcall (vc_callT (fun w' hr ho => c1 o.key w' ho) rfl rfl) rfl ?_
          (try refine wx_nil ?_)
          refine hdX ?_
          refine tkX 11 rfl (v_move rfl) ?_
          refine tkX 12 rfl (v_extract rfl rfl) ?_
          refine tkX 13 rfl (v_extract rfl rfl) ?_
          refine efX 15 rfl ?_
          refine rSwQ_0 ?_
          (try refine wx_nil ?_)
          refine hdX ?_
          refine tkX 16 rfl (v_assign rfl) ?_
          refine wh_done (by decide +kernel) ?_
          refine wq_cutK (g18) ?_ (by repeat (first | exact trivial | refine ⟨rfl, ?_⟩)) (by first | exact catEq | exact rfl)
          exact trivial
      rintro g18 -
      refine wc_fcat ?_
      refine wc_cat ?_
      have l8 := kindsN_len (oneQ fst see p t) t.ops 8 j
      cases hF : firstS (ovK o.key t.start t.fin A) with
      | none =>
        have e1 : oneQ fst see p t j o = none := by
          unfold oneQ
          rw [if_pos hk, hfst]
          dsimp only
          rw [hF]
          rfl
        dsimp only [Option.isSome_none]
        refine rSwQ_0 ?_
        rw [← kinds_none (k := 6) ho e1] at hb10 ⊢
        rw [← kinds_none (k := 7) ho e1] at hb11 ⊢
        rw [← kinds_none (k := 8) ho e1] at hb12 ⊢
        skip
        refine wq_roundK ((j + 1, (A10, c10, E10), (A11, c11, E11), (A12, c12, E12))) ?_ ?_ (by repeat (first | exact trivial | refine ⟨rfl, ?_⟩)) (by first | exact catEq | exact rfl)
        · exact ⟨by dsimp only; omega, hb10, hb11, hb12⟩
        · dsimp only; omega
      | some f =>
        dsimp only [Option.isSome_some, Option.getD_some]
        cases hw : lastN o.key t.ops j with
        | some u =>
          have e1 : oneQ fst see p t j o = none := by
            unfold oneQ
            rw [if_pos hk, hfst]
            dsimp only
            rw [hF, hw]
            rfl
          dsimp only [Option.isSome_some, Option.getD_some, Bool.not_true]
          refine rSwQ_0 ?_
          rw [← kinds_none (k := 6) ho e1] at hb10 ⊢
          rw [← kinds_none (k := 7) ho e1] at hb11 ⊢
          rw [← kinds_none (k := 8) ho e1] at hb12 ⊢
          skip
          refine wq_roundK ((j + 1, (A10, c10, E10), (A11, c11, E11), (A12, c12, E12))) ?_ ?_ (by repeat (first | exact trivial | refine ⟨rfl, ?_⟩)) (by first | exact catEq | exact rfl)
          · exact ⟨by dsimp only; omega, hb10, hb11, hb12⟩
          · dsimp only; omega
        | none =>
          dsimp only [Option.isSome_none, Option.getD_none, Bool.not_false]
          refine rSwQ_0 ?_
          refine wc_if rfl (fun hs => ?_) (fun hs => ?_)
          · have e1 : oneQ fst see p t j o = some ⟨8, t.fin, p, (j : Nat), f.c, o.key, false, ByteArray.empty, false, ByteArray.empty, t.start, f.b⟩ := by
              unfold oneQ
              rw [if_pos hk, hfst]
              dsimp only
              rw [hF, hw]
              dsimp only [Option.map_some, Option.isNone_none]
              rw [if_pos ⟨rfl, hs⟩]
            refine rSwQ_0 ?_
            refine wc_heldN [] [[(g18, .cells f.cells.toArray 110 (0, 0))]] (fun hQd => ?_)
            refine tkX 0 rfl (v_faddr rfl rfl) ?_
            refine tkX 1 rfl (v_ldT rfl rfl rfl (by rfl)) ?_
            refine tkX 2 rfl (v_faddr rfl rfl) ?_
            refine tkX 3 rfl (v_ldT rfl rfl rfl (by rfl)) ?_
            refine tkX 4 rfl (v_faddr rfl rfl) ?_
            refine efX 5 rfl ?_
            refine rSwQ_0 ?_
            (try refine wx_nil ?_)
            refine hdX ?_
            refine tkX 6 rfl (v_faddr rfl rfl) ?_
            refine efX 7 rfl ?_
            refine rSwQ_0 ?_
            (try refine wx_nil ?_)
            refine hdX ?_
            refine tkX 8 rfl (v_faddr rfl rfl) ?_
            refine efX 9 rfl ?_
            refine rSwQ_0 ?_
            (try refine wx_nil ?_)
            refine hdX ?_
            refine wh_done (by decide +kernel) ?_
            refine wq_blk g15 (ViolW.cells ⟨8, t.fin, p, (j : Nat), f.c, o.key, false, ByteArray.empty, false, ByteArray.empty, t.start, f.b⟩) (by rw [hv0]; rfl) ?_
            refine wq_setn ?_
            refine rSwQ_0 ?_
            refine wl_lit rfl rfl rfl rfl rfl (by decide) rfl (fun g60 => ?_)
            refine wl_app1T rfl hb12 rfl rfl rfl rfl (by omega) rfl (fun A3 c3 E3 hb3 => ?_)
            have hb3' := VL.snoc (v := ⟨8, t.fin, p, (j : Nat), f.c, o.key, false, ByteArray.empty, false, ByteArray.empty, t.start, f.b⟩) hb3
            rw [← kinds_yes (k := 8) ho e1 rfl] at hb3'
            have el : (kindsN (oneQ fst see p t) t.ops 8 j).length + 1 = (kindsN (oneQ fst see p t) t.ops 8 (j + 1)).length := by
              rw [kinds_yes (k := 8) ho e1 rfl, List.length_append]; rfl
            rw [el]
            rw [← kinds_no (k := 6) ho e1 (show (8 : Int) ≠ 6 by decide)] at hb10 ⊢
            rw [← kinds_no (k := 7) ho e1 (show (8 : Int) ≠ 7 by decide)] at hb11 ⊢
            refine rSwQ_0 ?_
            refine wq_roundK ((j + 1, (A10, c10, E10), (A11, c11, E11), (A3, c3, E3))) ?_ ?_ (by repeat (first | exact trivial | refine ⟨rfl, ?_⟩)) (by first | exact catEq | exact rfl)
            · exact ⟨by dsimp only; omega, hb10, hb11, hb3'⟩
            · dsimp only; omega
          · have e1 : oneQ fst see p t j o = none := by
              unfold oneQ
              rw [if_pos hk, hfst]
              dsimp only
              rw [hF, hw]
              dsimp only [Option.map_some, Option.isNone_none]
              rw [if_neg fun e => hs e.2]
            rw [← kinds_none (k := 6) ho e1] at hb10 ⊢
            rw [← kinds_none (k := 7) ho e1] at hb11 ⊢
            rw [← kinds_none (k := 8) ho e1] at hb12 ⊢
            refine rSwQ_0 ?_
            refine wq_roundK ((j + 1, (A10, c10, E10), (A11, c11, E11), (A12, c12, E12))) ?_ ?_ (by repeat (first | exact trivial | refine ⟨rfl, ?_⟩)) (by first | exact catEq | exact rfl)
            · exact ⟨by dsimp only; omega, hb10, hb11, hb12⟩
            · dsimp only; omega
    · have l6 := kindsN_len (oneQ fst see p t) t.ops 6 j
      have l7 := kindsN_len (oneQ fst see p t) t.ops 7 j
      cases hw : lastN o.key t.ops j with
      | some u =>
        dsimp only [Option.isSome_some, Option.getD_some]
        iterate 8 (first | (apply wx_val; (first | exact v_move rfl | exact v_assign rfl); rfl) | refine wc_seq ?_ | refine wc_region ?_ | refine wx_nil ?_ | refine wq_next ?_ | refine wc_condT rfl ?_)
        refine wc_meetK (ι := Unit) [0, 1, 5, 6, 7, 8, 10, 11, 12, 13, 14, 15, 16, 17, 63, 64, 65] (fun _ => [(183, .bool (decide (u.found ≠ o.found ∨ u.value ≠ o.value)))]) (fun _ => []) (M1 := []) (fun _ => True) rfl ?_ ?_
        · refine wc_cat ?_
          refine rSwQ_0 ?_
          refine wx_gbool rfl rfl (fun hx => ?_) (fun hx => ?_)
          · have hx' : u.found ≠ o.found := by simpa using hx
            rw [decide_eq_true (show u.found ≠ o.found ∨ u.value ≠ o.value from .inl hx')]
            refine rSwQ_0 ?_
            refine wq_cutK (()) ?_ (by repeat (first | exact trivial | refine ⟨rfl, ?_⟩)) (by first | exact catEq | exact rfl)
            exact trivial
          · have hx' : u.found = o.found := by simpa using hx
            rw [show decide (u.found ≠ o.found ∨ u.value ≠ o.value) = decide (u.value ≠ o.value) by simp [hx']]
            refine rSwQ_0 ?_
            refine wq_cutK (()) ?_ (by repeat (first | exact trivial | refine ⟨rfl, ?_⟩)) (by first | exact catEq | exact rfl)
            exact trivial
        rintro ⟨⟩ -
        refine wc_fcat ?_
        refine wc_cat ?_
        refine wc_if rfl (fun hd => ?_) (fun hd => ?_)
        · have e1 : oneQ fst see p t j o = some ⟨6, t.fin, p, (j : Nat), -1, o.key, u.found, u.value, o.found, o.value, t.start, t.fin⟩ := by
            unfold oneQ
            rw [if_neg hk, hw]
            dsimp only
            rw [if_pos hd]
          subst hv0
          refine rSwQ_0 ?_
          (try refine wx_ungd rfl rfl ?_)
          refine wx_vcall (vc_pure' rfl rfl (fun w' hr => told_spec ⟨6, t.fin, p, (j : Nat), -1, o.key, false, ⟨#[]⟩, false, ⟨#[]⟩, t.start, t.fin⟩ u.found u.value o w')) rfl ?_
          skip
          refine wl_lit rfl rfl rfl rfl rfl (by decide) rfl (fun g60 => ?_)
          refine wl_app1T rfl hb10 rfl rfl rfl rfl (by omega) rfl (fun A3 c3 E3 hb3 => ?_)
          have hb3' := VL.snoc (v := ⟨6, t.fin, p, (j : Nat), -1, o.key, u.found, u.value, o.found, o.value, t.start, t.fin⟩) hb3
          rw [← kinds_yes (k := 6) ho e1 rfl] at hb3'
          have el : (kindsN (oneQ fst see p t) t.ops 6 j).length + 1 = (kindsN (oneQ fst see p t) t.ops 6 (j + 1)).length := by
            rw [kinds_yes (k := 6) ho e1 rfl, List.length_append]; rfl
          rw [el]
          rw [← kinds_no (k := 7) ho e1 (show (6 : Int) ≠ 7 by decide)] at hb11 ⊢
          rw [← kinds_no (k := 8) ho e1 (show (6 : Int) ≠ 8 by decide)] at hb12 ⊢
          refine rSwQ_0 ?_
          refine wq_roundK ((j + 1, (A3, c3, E3), (A11, c11, E11), (A12, c12, E12))) ?_ ?_ (by repeat (first | exact trivial | refine ⟨rfl, ?_⟩)) (by first | exact catEq | exact rfl)
          · exact ⟨by dsimp only; omega, hb3', hb11, hb12⟩
          · dsimp only; omega
        · have e1 : oneQ fst see p t j o = none := by
            unfold oneQ
            rw [if_neg hk, hw]
            dsimp only
            rw [if_neg hd]
          rw [← kinds_none (k := 6) ho e1] at hb10 ⊢
          rw [← kinds_none (k := 7) ho e1] at hb11 ⊢
          rw [← kinds_none (k := 8) ho e1] at hb12 ⊢
          refine rSwQ_0 ?_
          refine wq_roundK ((j + 1, (A10, c10, E10), (A11, c11, E11), (A12, c12, E12))) ?_ ?_ (by repeat (first | exact trivial | refine ⟨rfl, ?_⟩)) (by first | exact catEq | exact rfl)
          · exact ⟨by dsimp only; omega, hb10, hb11, hb12⟩
          · dsimp only; omega
      | none =>
        dsimp only [Option.isSome_none, Option.getD_none]
        refine rSwQ_0 ?_
        obtain ⟨x, hx⟩ : ∃ x, x = atC t.start (chD o.key H) := ⟨_, rfl⟩
        have cA := c2 o.key
        rw [← hx] at cA
        refine wc_meetK (ι := Nat) [0, 1, 5, 6, 7, 8, 10, 11, 12, 13, 14, 15, 16, 17, 63, 64, 65] (fun g20 => [(20, .pointer (some ⟨g20, 0, none⟩)), (21, .bool x.isSome)]) (fun g20 => [[(g20, .cells (x.getD VerW.zero).cells.toArray 115 (0, 0))]]) (M1 := []) (fun _ => True) rfl ?_ ?_
        · refine wc_cat ?_
          refine wc_heldN [] [swB g s, [(g5, .cells (t.cells At c).toArray 47 (0, 0))], [(g14, .cells o.cells.toArray 49 (0, 0))]] (fun hQd => ?_)
          refine tkX 0 rfl (v_move rfl) ?_
          refine tkX 1 rfl (v_nil rfl) ?_
          refine tkX 2 rfl (v_faddr rfl rfl) ?_
          refine tkX 3 rfl (v_ldT rfl rfl rfl (by rfl)) ?_
          refine tkX 4 rfl (v_faddr rfl rfl) ?_
          refine tkX 5 rfl (v_ldT rfl rfl rfl (by rfl)) ?_
          refine tkX 6 rfl (v_faddr rfl rfl) ?_
          refine tkX 7 rfl (v_ldT rfl rfl rfl (by rfl)) ?_
          refine wh_eff2 8 12 rfl rfl (by decide +kernel) ?_ ?_
          · skip
            (try refine wx_ungd rfl rfl ?_)
            refine wx_vcall (vc_callT (fun w' hr ho => cA w' ho) rfl rfl) rfl ?_
            (try refine wx_nil ?_)
            refine hdX ?_
            refine tkX 9 rfl (v_move rfl) ?_
            refine tkX 10 rfl (v_extract rfl rfl) ?_
            refine tkX 11 rfl (v_extract rfl rfl) ?_
            refine efX 12 rfl ?_
            refine wl_alloc rfl rfl (fun g20 => ?_)
            (try refine wx_nil ?_)
            refine hdX ?_
            refine efX 13 rfl ?_
            refine rSwQ_0 ?_
            (try refine wx_nil ?_)
            refine hdX ?_
            refine tkX 14 rfl (v_assign rfl) ?_
            refine wh_done (by decide +kernel) ?_
            refine wq_cutK (g20) ?_ (by repeat (first | exact trivial | refine ⟨rfl, ?_⟩)) (by first | exact catEq | exact rfl)
            exact trivial
          · refine wl_alloc rfl rfl (fun g20 => ?_)
            (try refine wx_nil ?_)
            refine hdX ?_
            refine efX 8 rfl ?_
            (try refine wx_ungd rfl rfl ?_)
            refine wx_vcall (vc_callT (fun w' hr ho => cA w' ho) rfl rfl) rfl ?_
            (try refine wx_nil ?_)
            refine hdX ?_
            refine tkX 9 rfl (v_move rfl) ?_
            refine tkX 10 rfl (v_extract rfl rfl) ?_
            refine tkX 11 rfl (v_extract rfl rfl) ?_
            refine efX 13 rfl ?_
            refine rSwQ_0 ?_
            (try refine wx_nil ?_)
            refine hdX ?_
            refine tkX 14 rfl (v_assign rfl) ?_
            refine wh_done (by decide +kernel) ?_
            refine wq_cutK (g20) ?_ (by repeat (first | exact trivial | refine ⟨rfl, ?_⟩)) (by first | exact catEq | exact rfl)
            exact trivial
        rintro g20 -
        refine wc_fcat ?_
        refine wc_cat ?_
        have hsx : see o.key = x := by rw [hsee, hx]
        obtain ⟨y, hy⟩ : ∃ y, y = x.getD VerW.zero := ⟨_, rfl⟩
        rw [← hy]
        iterate 1 (first | refine wc_seq ?_)
        refine wc_meetK (ι := Unit) [0, 1, 5, 6, 7, 8, 10, 11, 12, 13, 14, 15, 16, 17, 20, 21, 63, 64, 65] (fun _ => [(109, .bool (decide (y.found ≠ o.found ∨ y.value ≠ o.value)))]) (fun _ => []) (M1 := []) (fun _ => True) rfl ?_ ?_
        · refine wc_cat ?_
          refine rSwQ_0 ?_
          refine wx_gbool rfl rfl (fun hx => ?_) (fun hx => ?_)
          · have hx' : y.found ≠ o.found := by simpa using hx
            rw [decide_eq_true (show y.found ≠ o.found ∨ y.value ≠ o.value from .inl hx')]
            refine rSwQ_0 ?_
            refine wq_cutK (()) ?_ (by repeat (first | exact trivial | refine ⟨rfl, ?_⟩)) (by first | exact catEq | exact rfl)
            exact trivial
          · have hx' : y.found = o.found := by simpa using hx
            rw [show decide (y.found ≠ o.found ∨ y.value ≠ o.value) = decide (y.value ≠ o.value) by simp [hx']]
            refine rSwQ_0 ?_
            refine wq_cutK (()) ?_ (by repeat (first | exact trivial | refine ⟨rfl, ?_⟩)) (by first | exact catEq | exact rfl)
            exact trivial
        rintro ⟨⟩ -
        refine wc_fcat ?_
        refine wc_cat ?_
        refine wc_if rfl (fun hd => ?_) (fun hd => ?_)
        · obtain ⟨wit, hwit⟩ : ∃ wit : Int, wit = if x.isSome then y.writer else -1 := ⟨_, rfl⟩
          have e1 : oneQ fst see p t j o = some ⟨7, t.fin, p, (j : Nat), wit, o.key, y.found, y.value, o.found, o.value, y.commit, t.start⟩ := by
            unfold oneQ
            rw [if_neg hk, hw]
            dsimp only
            rw [hsx, ← hy, if_pos hd, hwit]
          refine rSwQ_0 ?_
          refine wc_heldN [] [[(g20, .cells y.cells.toArray 115 (0, 0))], [(g5, .cells (t.cells At c).toArray 47 (0, 0))]] (fun hQd => ?_)
          refine tkX 0 rfl (v_faddr rfl rfl) ?_
          refine tkX 1 rfl (v_ldT rfl rfl rfl (by rfl)) ?_
          refine tkX 2 rfl (v_faddr rfl rfl) ?_
          refine tkX 3 rfl (v_ldT rfl rfl rfl (by rfl)) ?_
          refine tkX 4 rfl (v_faddr rfl rfl) ?_
          refine efX 5 rfl ?_
          refine rSwQ_0 ?_
          (try refine wx_nil ?_)
          refine hdX ?_
          refine tkX 6 rfl (v_faddr rfl rfl) ?_
          refine efX 7 rfl ?_
          refine rSwQ_0 ?_
          (try refine wx_nil ?_)
          refine hdX ?_
          refine tkX 8 rfl (v_faddr rfl rfl) ?_
          refine efX 9 rfl ?_
          refine rSwQ_0 ?_
          (try refine wx_nil ?_)
          refine hdX ?_
          refine wh_done (by decide +kernel) ?_
          refine wq_blk g15 (ViolW.cells ⟨7, t.fin, p, (j : Nat), -1, o.key, false, ByteArray.empty, false, ByteArray.empty, y.commit, t.start⟩) (by rw [hv0]; rfl) ?_
          refine wq_setn ?_
          refine rSwQ_0 ?_
          refine wc_meetK (ι := Unit) [0, 1, 5, 6, 7, 8, 10, 11, 12, 13, 14, 15, 16, 17, 20, 63, 64, 65] (fun _ => []) (fun _ => [[(g15, .cells (ViolW.cells ⟨7, t.fin, p, (j : Nat), wit, o.key, false, ByteArray.empty, false, ByteArray.empty, y.commit, t.start⟩).toArray 42 (0, 0))]]) (M1 := [[(g15, .cells (ViolW.cells ⟨7, t.fin, p, (j : Nat), -1, o.key, false, ByteArray.empty, false, ByteArray.empty, y.commit, t.start⟩).toArray 42 (0, 0))]]) (fun _ => True) rfl ?_ ?_
          · refine wc_cat ?_
            refine wc_bool rfl (fun hx2 => ?_) (fun hx2 => ?_)
            · refine rSwQ_0 ?_
              refine wq_blk g15 (ViolW.cells ⟨7, t.fin, p, (j : Nat), wit, o.key, false, ByteArray.empty, false, ByteArray.empty, y.commit, t.start⟩) (by rw [hwit, if_pos hx2]; rfl) ?_
              refine wq_setn ?_
              refine wq_cutK (()) ?_ (by repeat (first | exact trivial | refine ⟨rfl, ?_⟩)) (by first | exact catEq | exact rfl)
              exact trivial
            · refine rSwQ_0 ?_
              refine wq_blk g15 (ViolW.cells ⟨7, t.fin, p, (j : Nat), wit, o.key, false, ByteArray.empty, false, ByteArray.empty, y.commit, t.start⟩) (by rw [hwit, if_neg (by rw [hx2]; decide)]) ?_
              refine wq_setn ?_
              refine wq_cutK (()) ?_ (by repeat (first | exact trivial | refine ⟨rfl, ?_⟩)) (by first | exact catEq | exact rfl)
              exact trivial
          rintro ⟨⟩ -
          refine wc_fcat ?_
          refine wc_cat ?_
          refine rSwQ_0 ?_
          (try refine wx_ungd rfl rfl ?_)
          refine wx_vcall (vc_pure' rfl rfl (fun w' hr => told_spec ⟨7, t.fin, p, (j : Nat), wit, o.key, false, ⟨#[]⟩, false, ⟨#[]⟩, y.commit, t.start⟩ y.found y.value o w')) rfl ?_
          skip
          refine wl_lit rfl rfl rfl rfl rfl (by decide) rfl (fun g60 => ?_)
          refine wl_app1T rfl hb11 rfl rfl rfl rfl (by omega) rfl (fun A3 c3 E3 hb3 => ?_)
          have hb3' := VL.snoc (v := ⟨7, t.fin, p, (j : Nat), wit, o.key, y.found, y.value, o.found, o.value, y.commit, t.start⟩) hb3
          rw [← kinds_yes (k := 7) ho e1 rfl] at hb3'
          have el : (kindsN (oneQ fst see p t) t.ops 7 j).length + 1 = (kindsN (oneQ fst see p t) t.ops 7 (j + 1)).length := by
            rw [kinds_yes (k := 7) ho e1 rfl, List.length_append]; rfl
          rw [el]
          rw [← kinds_no (k := 6) ho e1 (show (7 : Int) ≠ 6 by decide)] at hb10 ⊢
          rw [← kinds_no (k := 8) ho e1 (show (7 : Int) ≠ 8 by decide)] at hb12 ⊢
          refine rSwQ_0 ?_
          refine wq_roundK ((j + 1, (A10, c10, E10), (A3, c3, E3), (A12, c12, E12))) ?_ ?_ (by repeat (first | exact trivial | refine ⟨rfl, ?_⟩)) (by first | exact catEq | exact rfl)
          · exact ⟨by dsimp only; omega, hb10, hb3', hb12⟩
          · dsimp only; omega
        · have e1 : oneQ fst see p t j o = none := by
            unfold oneQ
            rw [if_neg hk, hw]
            dsimp only
            rw [hsx, ← hy, if_neg hd]
          rw [← kinds_none (k := 6) ho e1] at hb10 ⊢
          rw [← kinds_none (k := 7) ho e1] at hb11 ⊢
          rw [← kinds_none (k := 8) ho e1] at hb12 ⊢
          refine rSwQ_0 ?_
          refine wq_roundK ((j + 1, (A10, c10, E10), (A11, c11, E11), (A12, c12, E12))) ?_ ?_ (by repeat (first | exact trivial | refine ⟨rfl, ?_⟩)) (by first | exact catEq | exact rfl)
          · exact ⟨by dsimp only; omega, hb10, hb11, hb12⟩
          · dsimp only; omega
  · obtain rfl : j = t.ops.length := by omega
    have l6 := kindsN_len (oneQ fst see p t) t.ops 6 t.ops.length
    have l7 := kindsN_len (oneQ fst see p t) t.ops 7 t.ops.length
    have l8 := kindsN_len (oneQ fst see p t) t.ops 8 t.ops.length
    have l5 := twinL_len tw p t
    have one : ∀ (l : List ViolW) (u : Value), u ∈ l.flatMap ViolW.cells → u.oneCell' = true := fun l u hu => by
      obtain ⟨a, _, h⟩ := List.mem_flatMap.1 hu
      exact List.all_eq_true.1 (show a.cells.all Value.oneCell' = true from rfl) u h
    refine rSwQ_0 ?_
    refine wl_appT rfl hb8 rfl rfl (fun w' hr => src_slice rfl (hb10.rdT hr) (flat_len' (k := 12) (fun _ => rfl) _) (by decide) (one _)) (by omega) rfl (fun A1 c1' E1 hb1 => ?_)
    refine rSwQ_0 ?_
    refine wl_appT rfl hb1 rfl rfl (fun w' hr => src_slice rfl (hb11.rdT hr) (flat_len' (k := 12) (fun _ => rfl) _) (by decide) (one _)) (by omega) rfl (fun A2 c2' E2 hb2 => ?_)
    refine rSwQ_0 ?_
    refine wl_appT rfl hb2 rfl rfl (fun w' hr => src_slice rfl (hb12.rdT hr) (flat_len' (k := 12) (fun _ => rfl) _) (by decide) (one _)) (by omega) rfl (fun A3 c3' E3 hb3 => ?_)
    refine rSwQ_0 ?_
    have el : (judgeQ tw fst see p t).length = (twinL tw p t).length + (kindsN (oneQ fst see p t) t.ops 6 t.ops.length).length + (kindsN (oneQ fst see p t) t.ops 7 t.ops.length).length + (kindsN (oneQ fst see p t) t.ops 8 t.ops.length).length := by
      unfold judgeQ
      simp only [List.length_append]
    refine wq_ret1T (A3, c3', E3) rfl (by rw [el]; rfl) ?_ rfl
    unfold VL
    rw [el]
    unfold judgeQ
    simp only [List.flatMap_append]
    exact hb3
end
end Go.Proofs.Ytlioccfedophhaa
/- The sweep, in plain: what its parts answer is what the ended transactions say. -/
set_option linter.unusedVariables false
set_option linter.unusedSimpArgs false
namespace Go.Proofs.Ytlioccfedophhaa
open Go
set_option maxRecDepth 20000
set_option maxHeartbeats 1000000
theorem ver_commit (k : ByteArray) (d : DoneT) : (verD k d).commit = d.t.fin := by unfold verD; split <;> rfl
theorem ver_writer (k : ByteArray) (d : DoneT) : (verD k d).writer = d.place := by unfold verD; split <;> rfl
theorem ver_above (k : ByteArray) (a b : DoneT) : above (verD k b) (verD k a) = lexD a b := by
  rw [Bool.eq_iff_iff, above_iff, lexD_iff, ver_commit, ver_commit, ver_writer, ver_writer]
theorem rise_all {E : List DoneT} (h : SrtD E) (k : ByteArray) : Rise (chD k (allD E)) := by
  rw [allD_key]
  refine List.pairwise_map.2 ?_
  exact (h.filter _).imp fun {a b} hab => by rw [ver_above]; exact hab
theorem InvD.rise {st : StD} {F : Int} (h : InvD st F) (k : ByteArray) : Rise (chD k st.held) := by
  obtain ⟨P, e, _⟩ := h.chn k
  have := rise_all h.srt k
  rw [e] at this
  exact (List.pairwise_append.1 this).2.1
theorem find_rev {α β : Type} (f : α → β) (p : α → Bool) (q : β → Bool) : ∀ E : List α, ((E.filter p).map f).reverse.find? q = (E.reverse.find? (fun d => p d && q (f d))).map f
  | [] => rfl
  | d :: E => by
    have ih := find_rev f p q E
    rw [List.reverse_cons, List.find?_append, List.filter_cons]
    by_cases hp : p d = true
    · rw [if_pos hp, List.map_cons, List.reverse_cons, List.find?_append, ih]
      cases hE : E.reverse.find? (fun d => p d && q (f d)) with
      | some x => rfl
      | none =>
        simp only [Option.map_none, Option.none_or, List.find?_cons, hp, Bool.true_and]
        cases q (f d) <;> rfl
    · rw [if_neg hp, ih]
      have hp' : p d = false := by simpa using hp
      cases hE : E.reverse.find? (fun d => p d && q (f d)) with
      | some x => rfl
      | none => simp [hp']
/-- what the versions held show is what the ended transactions say -/
theorem see_eq {st : StD} {F s : Int} (h : InvD st F) (hF : F ≤ s) (k : ByteArray) : atC s (chD k st.held) = seeD st.ended s k := by
  obtain ⟨P, e, hP⟩ := h.chn k
  rw [atC_find (h.rise k)]
  have h1 : seeD st.ended s k = (chD k (allD st.ended)).reverse.find? (fun v => decide (v.commit ≤ s)) := by
    rw [allD_key, find_rev]
    unfold seeD
    simp only [ver_commit]
  rw [h1, e, List.reverse_append, List.find?_append]
  rcases hP with rfl | ⟨v, r, hv, hc⟩
  · simp
  · have : ((chD k st.held).reverse.find? (fun v => decide (v.commit ≤ s))).isSome = true := by
      rw [List.find?_isSome]
      exact ⟨v, by rw [hv]; simp, decide_eq_true (Int.le_trans hc hF)⟩
    obtain ⟨x, hx⟩ := Option.isSome_iff_exists.1 this
    rw [hx]
    rfl
/-- the spans held are those of the ended ones whose end lies behind the floor -/
def SpI (E : List DoneT) (F : Int) (A : Ks) : Prop := ∀ k s, (k, s) ∈ A ↔ ∃ d ∈ E, wroteD k d = true ∧ s = ⟨d.t.start, d.t.fin, d.place⟩ ∧ F < d.t.fin
theorem first_eq {E : List DoneT} {F lo hi : Int} {A : Ks} (hE : SrtD E) (hA : SpI E F A) (hF : F ≤ lo) (hs : ∀ d ∈ E, d.t.start < d.t.fin ∧ d.t.fin ≤ hi) (k : ByteArray) : (firstS (ovK k lo hi A)).map (fun s => (s.c, s.b)) = fstD E lo k := by
  unfold fstD
  cases hf : E.find? (fun d => wroteD k d && decide (lo < d.t.fin)) with
  | none =>
    have hn := List.find?_eq_none.1 hf
    have : ovK k lo hi A = [] := by
      rw [List.eq_nil_iff_forall_not_mem]
      intro s hm
      obtain ⟨h1, h2, h3⟩ := ovK_mem.1 hm
      obtain ⟨d, hd, hw, rfl, h4⟩ := (hA k s).1 h1
      have := hn d hd
      rw [hw] at this
      simp at this
      have h3' : lo < d.t.fin := h3
      omega
    rw [this]
    rfl
  | some d =>
    obtain ⟨hp, l1, l2, hE2, hl1⟩ := List.find?_eq_some_iff_append.1 hf
    rw [Bool.and_eq_true, decide_eq_true_iff] at hp
    have hd : d ∈ E := by rw [hE2]; simp
    have hm : (⟨d.t.start, d.t.fin, d.place⟩ : Sp) ∈ ovK k lo hi A := ovK_mem.2 ⟨(hA _ _).2 ⟨d, hd, hp.1, rfl, by omega⟩, by have := hs d hd; show d.t.start < hi; omega, hp.2⟩
    rcases firstS_spec (ovK k lo hi A) with ⟨h1, h2⟩ | ⟨_, f, h1, h2, h3⟩
    · rw [h1] at hm; cases hm
    · rw [h1]
      obtain ⟨g1, g2, g3⟩ := ovK_mem.1 h2
      obtain ⟨d', hd', hw', rfl, h4⟩ := (hA k f).1 g1
      have hdd : d' = d := by
        rw [hE2] at hd'
        rcases List.mem_append.1 hd' with hd' | hd'
        · have := hl1 d' hd'
          rw [hw'] at this
          simp at this
          have g3' : lo < d'.t.fin := g3
          omega
        · rcases List.mem_cons.1 hd' with e | hd'
          · exact e
          · exfalso
            rw [hE2] at hE
            have hx := (List.pairwise_cons.1 (List.pairwise_append.1 hE).2.1).1 d' hd'
            have hy := h3 _ hm
            rw [lexD_iff] at hx
            unfold lexF at hy
            dsimp only at hy
            omega
      subst hdd
      rfl
/-- the first that committed at the last time -/
structure TwI (E : List DoneT) (tt tf : Int) (ta : Bool) : Prop where
  no : ta = false → ∀ d ∈ E, d.t.status ≠ 1
  yes : ta = true → twD E tt = some tf ∧ ∀ d ∈ E, d.t.status = 1 → d.t.fin ≤ tt
theorem TwI.nil (tt tf : Int) : TwI [] tt tf false := ⟨fun _ d hd => (by cases hd), fun h => (by cases h)⟩
theorem twD_some {E : List DoneT} {f w : Int} (h : twD E f = some w) : ∃ d ∈ E, d.t.status = 1 ∧ d.t.fin = f ∧ d.place = w := by
  unfold twD at h
  cases hf : E.find? (fun d => decide (d.t.status = 1) && decide (d.t.fin = f)) with
  | none => rw [hf] at h; cases h
  | some d =>
    rw [hf] at h
    have hp := List.find?_some hf
    rw [Bool.and_eq_true, decide_eq_true_iff, decide_eq_true_iff] at hp
    exact ⟨d, List.mem_of_find?_eq_some hf, hp.1, hp.2, by simpa using h⟩
theorem twD_none {E : List DoneT} {f : Int} (h : ∀ d ∈ E, d.t.status = 1 → d.t.fin ≠ f) : twD E f = none := by
  unfold twD
  rw [Option.map_eq_none_iff, List.find?_eq_none]
  intro d hd
  by_cases hs : d.t.status = 1
  · simp [hs, h d hd hs]
  · simp [hs]
theorem tw_eq {E : List DoneT} {tt tf f : Int} {ta : Bool} (h : TwI E tt tf ta) (hf : ∀ d ∈ E, d.t.fin ≤ f) : twD E f = if ta = true ∧ tt = f then some tf else none := by
  cases ta with
  | false => rw [if_neg (by simp)]; exact twD_none fun d hd hs => absurd hs (h.no rfl d hd)
  | true =>
    obtain ⟨h1, h2⟩ := h.yes rfl
    by_cases e : tt = f
    · rw [if_pos ⟨rfl, e⟩, ← e, h1]
    · rw [if_neg (fun x => e x.2)]
      refine twD_none fun d hd hs e2 => ?_
      have := h2 d hd hs
      obtain ⟨d', hd', _, e3, _⟩ := twD_some h1
      have := hf d' hd'
      omega
theorem TwI.put {E : List DoneT} {tt tf : Int} {ta : Bool} (h : TwI E tt tf ta) {d : DoneT} (hf : ∀ x ∈ E, x.t.fin ≤ d.t.fin) (hd : d.t.status = 1) :
    TwI (E ++ [d]) (if ta = true ∧ tt = d.t.fin then tt else d.t.fin) (if ta = true ∧ tt = d.t.fin then tf else d.place) true := by
  refine ⟨fun e => (by cases e), fun _ => ?_⟩
  have hx := tw_eq h hf
  have e : twD (E ++ [d]) d.t.fin = (twD E d.t.fin).or (some d.place) := by
    unfold twD
    rw [List.find?_append]
    cases E.find? (fun x => decide (x.t.status = 1) && decide (x.t.fin = d.t.fin)) with
    | some x => rfl
    | none => simp [hd]
  by_cases hc : ta = true ∧ tt = d.t.fin
  · rw [if_pos hc, if_pos hc]
    rw [if_pos hc] at hx
    rw [hc.2]
    refine ⟨by rw [e, hx]; rfl, fun x hx hs => ?_⟩
    rcases List.mem_append.1 hx with hx | hx
    · exact hf x hx
    · rw [List.mem_singleton.1 hx]; exact Int.le_refl _
  · rw [if_neg hc, if_neg hc]
    rw [if_neg hc] at hx
    refine ⟨by rw [e, hx]; rfl, fun x hx hs => ?_⟩
    rcases List.mem_append.1 hx with hx | hx
    · exact hf x hx
    · rw [List.mem_singleton.1 hx]; exact Int.le_refl _
theorem TwI.skip {E : List DoneT} {tt tf : Int} {ta : Bool} (h : TwI E tt tf ta) {d : DoneT} (hd : d.t.status ≠ 1) : TwI (E ++ [d]) tt tf ta := by
  refine ⟨fun e x hx => ?_, fun e => ⟨?_, fun x hx hs => ?_⟩⟩
  · rcases List.mem_append.1 hx with hx | hx
    · exact h.no e x hx
    · rw [List.mem_singleton.1 hx]; exact hd
  · rw [← (h.yes e).1]
    unfold twD
    rw [List.find?_append]
    cases E.find? (fun x => decide (x.t.status = 1) && decide (x.t.fin = tt)) with
    | some x => rfl
    | none => simp [hd]
  · rcases List.mem_append.1 hx with hx | hx
    · exact (h.yes e).2 x hx hs
    · rw [List.mem_singleton.1 hx] at hs; exact absurd hs hd
end Go.Proofs.Ytlioccfedophhaa
/- The sweep, in plain: what holds of a state holds behind a row. -/
set_option linter.unusedVariables false
set_option linter.unusedSimpArgs false
namespace Go.Proofs.Ytlioccfedophhaa
open Go
set_option maxRecDepth 20000
set_option maxHeartbeats 1000000
/-- what an accepted row is like -/
theorem refuse_ok {st : StD} {r : RowW} (h : (refuseD st r).2 = 0) : st.broken = false ∧ r.Right ∧ (st.taken = true → rowBefore 1 st.last r) ∧
    ((r.kind = 2 ∧ r.index ∉ st.begun ∧ (refuseD st r).1 = .zero) ∨ (r.kind = 1 ∧ ∃ s, startD st.opn r.index = some s ∧ (decR (bodyD r)).2.2 = 0 ∧ (decR (bodyD r)).1.start = s ∧ (decR (bodyD r)).1.fin = r.time ∧ (refuseD st r).1 = (decR (bodyD r)).1)) := by
  unfold refuseD at h ⊢
  by_cases h1 : st.broken = true
  · rw [if_pos h1] at h; exact absurd h (by decide)
  rw [if_neg h1] at h ⊢
  by_cases h2 : ¬ r.Right ∨ r.kind = 3
  · rw [if_pos h2] at h; exact absurd h (by decide)
  rw [if_neg h2] at h ⊢
  by_cases h3 : st.taken = true ∧ ¬ rowBefore 1 st.last r
  · rw [if_pos h3] at h; exact absurd h (by decide)
  rw [if_neg h3] at h ⊢
  have hr : r.Right := Decidable.not_not.1 fun e => h2 (.inl e)
  refine ⟨by simpa using h1, hr, fun e => Decidable.not_not.1 fun e2 => h3 ⟨e, e2⟩, ?_⟩
  by_cases h4 : r.kind = 2
  · rw [if_pos h4] at h ⊢
    by_cases h5 : r.index ∈ st.begun
    · rw [if_pos h5] at h; exact absurd h (by decide)
    · rw [if_neg h5]
      exact .inl ⟨h4, h5, rfl⟩
  · rw [if_neg h4] at h ⊢
    have h5 : r.kind = 1 := by
      have := hr.1
      have : r.kind ≠ 3 := fun e => h2 (.inr e)
      omega
    refine .inr ⟨h5, ?_⟩
    cases hs : startD st.opn r.index with
    | none =>
      rw [hs] at h
      have h' : (163 : Int) = 0 := h
      omega
    | some s =>
      rw [hs] at h
      dsimp only at h ⊢
      by_cases h6 : (decR (bodyD r)).2.2 ≠ 0 ∨ (decR (bodyD r)).1.start ≠ s ∨ (decR (bodyD r)).1.fin ≠ r.time
      · rw [if_pos h6] at h; exact absurd h (by decide)
      · rw [if_neg h6]
        exact ⟨s, rfl, Decidable.not_not.1 fun e => h6 (.inl e), Decidable.not_not.1 fun e => h6 (.inr (.inl e)), Decidable.not_not.1 fun e => h6 (.inr (.inr e)), rfl⟩
theorem before_one {a b : RowW} (h : rowBefore 1 a b) : a.time < b.time ∨ (a.time = b.time ∧ (a.kind < b.kind ∨ (a.kind = b.kind ∧ a.index < b.index))) := by
  rcases h with ⟨_, h⟩ | ⟨h, _⟩
  · exact h
  · exact absurd h (by decide)
theorem start_mem {o : List (Int × Int)} {p s : Int} (h : startD o p = some s) : (p, s) ∈ o := by
  unfold startD at h
  cases hf : o.find? (fun e => decide (p = e.1)) with
  | none => rw [hf] at h; cases h
  | some e =>
    rw [hf] at h
    have hp : p = e.1 := by simpa using List.find?_some hf
    have hs : e.2 = s := by simpa using h
    have := List.mem_of_find?_eq_some hf
    rw [hp, ← hs]
    exact this
theorem start_perm {p s : Int} : ∀ {o : List (Int × Int)}, (o.map Prod.fst).Nodup → startD o p = some s → o.Perm ((p, s) :: o.filter (fun e => decide (p ≠ e.1)))
  | [], _, h => by cases h
  | x :: r, hn, h => by
    rw [List.map_cons, List.nodup_cons] at hn
    by_cases hx : p = x.1
    · have hs : x.2 = s := by
        unfold startD at h
        rw [List.find?_cons_of_pos (by simpa using hx)] at h
        simpa using h
      have : r.filter (fun e => decide (p ≠ e.1)) = r := by
        rw [List.filter_eq_self]
        intro e he
        have : p ≠ e.1 := fun e2 => hn.1 (hx ▸ e2 ▸ List.mem_map_of_mem he)
        simpa using this
      rw [List.filter_cons_of_neg (by simpa using hx), this, hx, ← hs]
    · have h' : startD r p = some s := by
        unfold startD at h ⊢
        rw [List.find?_cons_of_neg (by simpa using hx)] at h
        exact h
      have ih := start_perm hn.2 h'
      rw [List.filter_cons_of_pos (by simpa using hx)]
      exact (ih.cons x).trans (List.Perm.swap _ _ _)
theorem newN_len (d : DoneT) : ∀ n, (newN d n).length ≤ n
  | 0 => Nat.le_refl _
  | n + 1 => by
    have := newN_len d n
    unfold newN
    rw [List.length_append]
    split
    · split <;> simp <;> omega
    · simp; omega
theorem newD_len {d : DoneT} (h : d.t.Ok) : (newD d).length ≤ 16 := by
  have := newN_len d d.t.ops.length
  have := h.small.1
  unfold newD
  split
  · omega
  · exact Nat.zero_le _
theorem InvD.n_le {st : StD} {F : Int} (h : InvD st F) : st.n ≤ 69632 := by
  have := h.len
  have := h.hl
  unfold StD.n
  omega
theorem InvD.hold {st : StD} {F : Int} (h : InvD st F) : InvD (holdD st).2 F := by
  have hn := h.n_le
  have hm := h.mst
  unfold holdD
  split
  · exact { h with mst := by dsimp only; omega, fin := fun d hd => { h.fin d hd with } }
  · exact { h with mst := by dsimp only; omega, fin := fun d hd => { h.fin d hd with } }
theorem InvD.row {st : StD} {F : Int} (h : InvD st F) {r : RowW} (hr : (refuseD st r).2 = 0) : (st.taken = true → st.last.time ≤ r.time) ∧ F ≤ r.time := by
  obtain ⟨_, h2, h3, _⟩ := refuse_ok hr
  have hx : st.taken = true → st.last.time ≤ r.time := fun e => by have := before_one (h3 e); omega
  refine ⟨hx, ?_⟩
  rcases h.flo with h4 | ⟨h4, h5⟩
  · have := h2.2.1; omega
  · have := hx h4; omega
theorem InvD.begin {st : StD} {F : Int} (h : InvD st F) {r : RowW} (hr : (refuseD st r).2 = 0) (hk : r.kind = 2) : InvD (beginD st r) F := by
  obtain ⟨h1, h2, h3, h4⟩ := refuse_ok hr
  obtain ⟨h5, h6⟩ := h.row hr
  rcases h4 with ⟨_, h4, _⟩ | ⟨h4, _⟩
  · refine { h with fin := fun d hd => ?_, opn := fun e he => ?_, beg := ?_, per := ?_, flo := .inr ⟨rfl, h6⟩, lst := fun _ => ⟨h2, .inr hk⟩ }
    · obtain ⟨g1, g2, g3, g4, g5⟩ := h.fin d hd
      have := h5 g4
      exact ⟨g1, g2, g3, rfl, by show d.t.fin < r.time ∨ (d.t.fin = r.time ∧ (1 < r.kind ∨ _)); omega⟩
    · rcases List.mem_append.1 he with he | he
      · obtain ⟨g1, g2, g3, g4, g5⟩ := h.opn e he
        have := h5 g4
        exact ⟨g1, g2, g3, rfl, by show e.2 < r.time ∨ (e.2 = r.time ∧ r.kind = 2); omega⟩
      · rw [List.mem_singleton.1 he]
        have := h2.2
        exact ⟨this.2.2.1, h6, this.1, rfl, .inr ⟨rfl, hk⟩⟩
    · show (st.begun ++ [r.index]).Nodup
      refine List.nodup_append.2 ⟨h.beg, by simp, fun a ha b hb e => ?_⟩
      rw [List.mem_singleton.1 hb] at e
      exact h4 (e ▸ ha)
    · show (st.begun ++ [r.index]).Perm ((st.opn ++ [(r.index, r.time)]).map Prod.fst ++ st.ended.map DoneT.place)
      rw [List.map_append, List.append_assoc]
      refine (h.per.append_right _).trans ?_
      rw [List.append_assoc]
      exact List.Perm.append_left _ List.perm_append_comm
  · omega
/-- what holds of the transaction of an accepted end row -/
structure EndI (st : StD) (F : Int) (r : RowW) (t : TxnP) : Prop where
  ok : t.Ok
  idx : 0 ≤ r.index ∧ r.index ≤ 4095
  fin : t.fin = r.time
  mem : (r.index, t.start) ∈ st.opn
  start : startD st.opn r.index = some t.start
  lt : t.start < t.fin
  flo : F ≤ t.start
  beh : ∀ d ∈ st.ended, lexD d ⟨r.index, t⟩ = true
  opn : ∀ e ∈ st.opn, e.2 < r.time
  new : ∀ d ∈ st.ended, d.place ≠ r.index
theorem InvD.ended {st : StD} {F : Int} (h : InvD st F) {r : RowW} (hr : (refuseD st r).2 = 0) (hk : r.kind ≠ 2) : EndI st F r (refuseD st r).1 := by
  obtain ⟨h1, h2, h3, h4⟩ := refuse_ok hr
  obtain ⟨h5, h6⟩ := h.row hr
  rcases h4 with ⟨h4, _⟩ | ⟨h4, s, g1, g2, g3, g4, g5⟩
  · exact absurd h4 hk
  · rw [g5]
    have hm := start_mem g1
    have hop : ∀ e ∈ st.opn, e.2 < r.time := fun e he => by
      obtain ⟨_, _, _, k4, k5⟩ := h.opn e he
      have := before_one (h3 k4)
      omega
    refine ⟨dec_ok g2, h2.2.2.2.1, g4, by rw [g3]; exact hm, by rw [g3]; exact g1, by rw [g3, g4]; exact hop _ hm, by rw [g3]; exact (h.opn _ hm).2.1, fun d hd => ?_, hop, fun d hd e => ?_⟩
    · rw [lexD_iff]
      show d.t.fin < (decR (bodyD r)).1.fin ∨ (d.t.fin = (decR (bodyD r)).1.fin ∧ d.place < r.index)
      rw [g4]
      obtain ⟨_, _, _, k4, k5⟩ := h.fin d hd
      have := before_one (h3 k4)
      omega
    · have hn := (h.per.nodup_iff.1 h.beg)
      rw [List.nodup_append] at hn
      exact hn.2.2 r.index (List.mem_map_of_mem (f := Prod.fst) hm) d.place (List.mem_map_of_mem hd) e.symm
theorem chD_mem {k : ByteArray} {H : List VerK} {v : VerW} : v ∈ chD k H ↔ ⟨k, v⟩ ∈ H := by
  unfold chD
  rw [List.mem_map]
  constructor
  · rintro ⟨x, hx, rfl⟩
    rw [List.mem_filter, decide_eq_true_iff] at hx
    obtain ⟨hx, rfl⟩ := hx
    exact hx
  · intro h
    exact ⟨_, List.mem_filter.2 ⟨h, decide_eq_true rfl⟩, rfl⟩
theorem InvD.finish {st : StD} {F : Int} (h : InvD st F) {r : RowW} {t : TxnP} (hr : (refuseD st r).2 = 0) (hk : r.kind ≠ 2) (he : EndI st F r t) : InvD (endD st r t) F := by
  obtain ⟨h1, h2, h3, h4⟩ := refuse_ok hr
  obtain ⟨h5, h6⟩ := h.row hr
  have hk1 : r.kind = 1 := by
    rcases h4 with ⟨h4, _⟩ | ⟨h4, _⟩
    · exact absurd h4 hk
    · exact h4
  have hnd := (h.per.nodup_iff.1 h.beg)
  rw [List.nodup_append] at hnd
  have hop := start_perm hnd.1 he.start
  refine { h with srt := ?_, fin := fun d hd => ?_, opn := fun e h7 => ?_, per := ?_, flo := .inr ⟨rfl, h6⟩, lst := fun _ => ⟨h2, .inl hk1⟩, chn := fun k => ?_, hl := ?_ }
  · exact List.pairwise_append.2 ⟨h.srt, List.pairwise_singleton .., fun a ha b hb => by rw [List.mem_singleton.1 hb]; exact he.beh a ha⟩
  · rcases List.mem_append.1 hd with hd | hd
    · obtain ⟨g1, g2, g3, g4, g5⟩ := h.fin d hd
      have := (lexD_iff _ _).1 (he.beh d hd)
      have hf := he.fin
      dsimp only at this
      exact ⟨g1, g2, g3, rfl, by show d.t.fin < r.time ∨ (d.t.fin = r.time ∧ (1 < r.kind ∨ (r.kind = 1 ∧ d.place ≤ r.index))); omega⟩
    · rw [List.mem_singleton.1 hd]
      exact ⟨he.ok, he.idx, he.lt, rfl, .inr ⟨he.fin, .inr ⟨hk1, Int.le_refl _⟩⟩⟩
  · have h7' := List.mem_filter.1 h7
    obtain ⟨g1, g2, g3, g4, g5⟩ := h.opn e h7'.1
    exact ⟨g1, g2, g3, rfl, .inl (he.opn e h7'.1)⟩
  · show st.begun.Perm ((st.opn.filter (fun e => decide (r.index ≠ e.1))).map Prod.fst ++ (st.ended ++ [(⟨r.index, t⟩ : DoneT)]).map DoneT.place)
    refine h.per.trans (((hop.map Prod.fst).append_right _).trans ?_)
    rw [List.map_cons, List.map_append, List.cons_append, ← List.append_assoc]
    exact List.perm_append_singleton (a := r.index) .. |>.symm
  · obtain ⟨P, e, hP⟩ := h.chn k
    refine ⟨P, ?_, ?_⟩
    · show chD k (allD (st.ended ++ [(⟨r.index, t⟩ : DoneT)])) = P ++ chD k (st.held ++ newD ⟨r.index, t⟩)
      rw [allD_snoc, chD_append, chD_append, e, List.append_assoc]
    · rcases hP with hP | ⟨v, rr, hv, hc⟩
      · exact .inl hP
      · refine .inr ⟨v, rr ++ chD k (newD ⟨r.index, t⟩), ?_, hc⟩
        show chD k (st.held ++ newD ⟨r.index, t⟩) = _
        rw [chD_append, hv]
        rfl
  · show (st.held ++ newD ⟨r.index, t⟩).length ≤ 16 * (st.ended ++ [(⟨r.index, t⟩ : DoneT)]).length
    have := newD_len (d := ⟨r.index, t⟩) he.ok
    have := h.hl
    rw [List.length_append, List.length_append, List.length_singleton]
    omega
theorem prune_len (F : Int) (H : List VerK) : (pruneD F H).length ≤ H.length := List.length_filter_le _ _
/-- pruned at a greater floor -/
theorem InvD.prune {st : StD} {F F' : Int} (h : InvD st F) (hF : F ≤ F') (h1 : ∀ e ∈ st.opn, F' ≤ e.2) (h2 : st.taken = true) (h3 : F' ≤ st.last.time) : InvD { st with held := pruneD F' st.held } F' := by
  refine { h with fin := fun d hd => { h.fin d hd with }, opn := fun e he => ?_, flo := .inr ⟨h2, h3⟩, chn := fun k => ?_, hl := Nat.le_trans (prune_len _ _) h.hl }
  · obtain ⟨g1, g2, g3, g4, g5⟩ := h.opn e he
    exact ⟨g1, h1 e he, g3, g4, g5⟩
  · obtain ⟨P, e, hP⟩ := h.chn k
    have hr := h.rise k
    refine ⟨P ++ (chD k st.held).take (upC F' (chD k st.held) - 1), ?_, ?_⟩
    · show _ = _ ++ chD k (pruneD F' st.held)
      rw [chD_prune k hr, e, List.append_assoc]
      unfold prC
      rw [List.take_append_drop]
    · show _ ∨ ∃ v r, chD k (pruneD F' st.held) = v :: r ∧ _
      rw [chD_prune k hr]
      unfold prC
      by_cases hu : upC F' (chD k st.held) = 0
      · rw [hu]
        rcases hP with rfl | ⟨v, rr, hv, hc⟩
        · exact .inl (by simp)
        · exact .inr ⟨v, rr, by simp [hv], by omega⟩
      · have hle := upC_le F' (chD k st.held)
        have hg : (chD k st.held)[upC F' (chD k st.held) - 1]? = some ((chD k st.held)[upC F' (chD k st.held) - 1]'(by omega)) := List.getElem?_eq_getElem _
        refine .inr ⟨_, _, List.drop_eq_getElem_cons (by omega), ?_⟩
        exact (upC_get (s := F') hr hg).2 (by omega)
theorem InvD.take {st : StD} {F : Int} (h : InvD st F) (r : RowW) : ∃ F', F ≤ F' ∧ InvD (takeD st r).2 F' := by
  unfold takeD
  by_cases hr : (refuseD st r).2 = 0
  · rw [if_neg (by simpa using hr)]
    by_cases hk : r.kind = 2
    · rw [if_pos hk]
      exact ⟨F, Int.le_refl _, (h.begin hr hk).hold⟩
    · rw [if_neg hk]
      have he := h.ended hr hk
      have hx := h.finish hr hk he
      by_cases hh : (holdD (endD st r (refuseD st r).1)).1 = 0
      · rw [if_neg (by simpa using hh)]
        obtain ⟨f1, f2, f3⟩ := floorD_le (endD st r (refuseD st r).1).opn r.time
        have eh : (holdD (endD st r (refuseD st r).1)).2 = { endD st r (refuseD st r).1 with most := max (endD st r (refuseD st r).1).most ((endD st r (refuseD st r).1).n : Int) } := by
          unfold holdD at hh ⊢
          split
          · rename_i h1; rw [if_pos h1] at hh
            have hh' : (164 : Int) = 0 := hh
            omega
          · rfl
        have hh2 := hx.hold
        rw [eh] at hh2 ⊢
        refine ⟨_, f3 F (h.row hr).2 fun e h7 => (h.opn e (List.mem_filter.1 h7).1).2.1, ?_⟩
        exact hh2.prune (f3 F (h.row hr).2 fun e h7 => (h.opn e (List.mem_filter.1 h7).1).2.1) f2 rfl f1
      · rw [if_pos hh]
        exact ⟨F, Int.le_refl _, hx.hold⟩
  · rw [if_pos hr]
    exact ⟨F, Int.le_refl _, h⟩
end Go.Proofs.Ytlioccfedophhaa
