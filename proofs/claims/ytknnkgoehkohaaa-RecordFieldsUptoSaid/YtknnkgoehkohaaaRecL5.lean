/- Each bound is met: a number at its bound is taken and comes back, one past it is refused. -/
import Derived.Test.YtknnkgoehkohaaaRecP2
set_option linter.unusedVariables false
set_option linter.unusedSimpArgs false
namespace Go.Proofs.Ytknnkgoehkohaaa
open Go
set_option maxRecDepth 20000
set_option maxHeartbeats 4000000
theorem wc_meetB {P : Program} {Q : Exit → Act → World → Prop} {nt : Sh} {w0 : World} {X : List Nat} {fr : Fr} {M : List Seg} {ι : Type} {b : Nat} (F : ι → Fr) (MM : ι → List Seg) (ok : ι → Prop) {p q : Code}
    (hx : WC P (Exit.inBlock b (Exit.then (CutI nt w0 X F MM ok) Q)) nt w0 X p fr M) (hy : ∀ j, ok j → WC P Q nt w0 X q (F j) (MM j)) : WC P (Exit.inBlock b (Exit.then (q.wp P Q) Q)) nt w0 X p fr M :=
  fun a w hs hr => wp_mono (hx a w hs hr) fun e a w hq => by
    cases e with
    | normal => obtain ⟨j, hj, hs1, hr1⟩ := hq; exact hy j hj a w hs1 hr1
    | exit i =>
      unfold Exit.inBlock at hq ⊢
      dsimp only at hq ⊢
      split at hq
      · rename_i hi
        rw [if_pos hi]
        obtain ⟨j, hj, hs1, hr1⟩ := hq
        exact hy j hj a w hs1 hr1
      · rename_i hi
        rw [if_neg hi]
        exact hq
    | goto l => exact hq
    | ret => exact hq
    | panic c => exact hq
    | outgrown => exact hq
attribute [local irreducible] WX WC WQ Val VCall
theorem TxnW.w_err (t : TxnW) (A : Option Addr) (c : Nat) : (t.p.w A c).err = t.err := rfl
theorem TxnW.w_enc (t : TxnW) (A : Option Addr) (c : Nat) : (t.p.w A c).encB = t.encB := rfl
def op1 : OpW := ⟨1, ⟨#[107]⟩, true, ⟨#[118]⟩⟩
def opK : OpW := ⟨3, ⟨#[107]⟩, false, ⟨#[]⟩⟩
def nine : ByteArray := ⟨#[49, 50, 51, 52, 53, 54, 55, 56, 57]⟩
def sev : ByteArray := ⟨#[49, 50, 51, 52, 53, 54, 55, 56, 57, 48, 49, 50, 51, 52, 53, 54, 55]⟩
def txF (k d : Nat) : TxnP := ⟨if k = 0 then 1048575 + (d : Int) else 1, if k = 1 then 1048575 + (d : Int) else 1, if k = 2 then 1099511627776 + (d : Int) else 1, if k = 3 then 1099511627776 + (d : Int) else 1,
  if k = 4 then 1099511627776 + (d : Int) else 1, if k = 5 then 1099511627776 + (d : Int) else 1, if k = 6 then 1 + (d : Int) else 1,
  ⟨1, if k = 8 then nine.extract 0 (8 + d) else if k = 10 then (⟨#[107]⟩ : ByteArray).extract d 1 else ⟨#[107]⟩, true, if k = 9 then sev.extract 0 (16 + d) else ⟨#[118]⟩⟩ :: (if k = 7 then List.replicate (15 + d) opK else [])⟩
def wantF (k : Nat) : Int := if k < 7 then 62 else if k = 7 then 63 else 64
theorem fld_right {k d : Nat} (hd : d ≤ 1) (h : d = 0 ∨ k < 8) (hk : k ≤ 10) : ∀ o ∈ (txF k d).ops, o.Right := by
  intro o ho
  simp only [txF, List.mem_cons] at ho
  rcases ho with rfl | ho
  · have hk' : k = 0 ∨ k = 1 ∨ k = 2 ∨ k = 3 ∨ k = 4 ∨ k = 5 ∨ k = 6 ∨ k = 7 ∨ k = 8 ∨ k = 9 ∨ k = 10 := by omega
    have hd' : d = 0 ∨ d = 1 := by omega
    unfold OpW.Right
    rcases hk' with rfl | rfl | rfl | rfl | rfl | rfl | rfl | rfl | rfl | rfl | rfl <;> rcases hd' with rfl | rfl <;> first | decide | (exfalso; omega)
  · split at ho
    · have := List.eq_of_mem_replicate ho
      subst this
      unfold OpW.Right opK
      decide
    · simp at ho
theorem fld_wrong {k : Nat} (h8 : 8 ≤ k) (hk : k ≤ 10) : ∃ o ∈ (txF k 1).ops, ¬ o.Right := by
  refine ⟨_, List.mem_cons_self, ?_⟩
  have hk' : k = 8 ∨ k = 9 ∨ k = 10 := by omega
  unfold OpW.Right
  rcases hk' with rfl | rfl | rfl <;> decide
theorem fld_ops (k d : Nat) (hk : k ≠ 7) : (txF k d).ops.length = 1 := by simp [txF, hk]
theorem fld_ops7 (d : Nat) : (txF 7 d).ops.length = 16 + d := by simp [txF]; omega
theorem fld_ok {k : Nat} (hk : k ≤ 10) (A : Option Addr) (c : Nat) : ((txF k 0).w A c).err = 0 := by
  refine err0 ?_ ?_ (fld_right (by omega) (.inl rfl) hk)
  · unfold TxnW.FieldsOk
    dsimp only [TxnP.w, txF]
    refine ⟨?_, ?_, ?_, ?_, ?_, ?_, ?_⟩ <;> split <;> omega
  · show (txF k 0).ops.length ≤ 16
    by_cases h7 : k = 7
    · subst h7; rw [fld_ops7]; omega
    · rw [fld_ops k 0 h7]; omega
theorem fld_no {k : Nat} (hk : k ≤ 10) (A : Option Addr) (c : Nat) : ((txF k 1).w A c).err = wantF k := by
  unfold wantF
  by_cases h6 : k < 7
  · rw [if_pos h6]
    refine err62 ?_
    unfold TxnW.FieldsOk
    dsimp only [TxnP.w, txF]
    have hk' : k = 0 ∨ k = 1 ∨ k = 2 ∨ k = 3 ∨ k = 4 ∨ k = 5 ∨ k = 6 := by omega
    rcases hk' with rfl | rfl | rfl | rfl | rfl | rfl | rfl <;> decide
  rw [if_neg h6]
  have hf : ((txF k 1).w A c).FieldsOk := by
    unfold TxnW.FieldsOk
    dsimp only [TxnP.w, txF]
    refine ⟨?_, ?_, ?_, ?_, ?_, ?_, ?_⟩ <;> (rw [if_neg (by omega)]; decide)
  by_cases h7 : k = 7
  · subst h7
    rw [if_pos rfl]
    refine err63 hf ?_
    show 16 < (txF 7 1).ops.length
    rw [fld_ops7]; omega
  · rw [if_neg h7]
    obtain ⟨o, ho, hr⟩ := fld_wrong (by omega) hk
    refine err64 hf ?_ ho hr
    show (txF k 1).ops.length ≤ 16
    rw [fld_ops k 1 h7]; omega
theorem Fields_law (k : Int) (p : Bool) (w : World) :
    Calls Try.prog 7 #[.int .i64 k, .bool p] w (Holds w) := by
  refine go [.int .i64 k, .bool p] [] Try.func7 Try.ntmps7 rfl rfl (own_nil w) ?_
  repeat (first | (apply wx_val; (first | exact v_move rfl | exact v_assign rfl | exact v_lt rfl rfl | exact v_not rfl); rfl) | refine wc_seq ?_ | refine wc_region ?_ | refine wx_nil ?_ | refine wq_next ?_ | refine wc_skip ?_ | refine wc_condF rfl ?_ | (apply wx_vcall; exact vc_pure rfl rfl (fun w' => anchor_spec w'); rfl))
  refine wx_gif rfl rfl (fun h1 => ?_) (fun h1 => ?_)
  · repeat (first | (apply wx_val; (first | exact v_assign rfl | exact v_pickT rfl rfl); rfl) | refine wx_no rfl rfl rfl ?_ | refine wc_seq ?_ | refine wc_region ?_ | refine wx_nil ?_ | refine wq_next ?_ | refine wc_ret ?_ | refine wq_then_ret ?_ | refine wc_condT rfl ?_)
    exact wq_clear (wq_ret1 () rfl rfl trivial rfl)
  repeat (first | (apply wx_val; (first | exact v_move rfl | exact v_gt rfl rfl | exact v_pickF rfl rfl); rfl) | refine wx_ungd rfl rfl ?_ | refine wx_nil ?_ | refine wq_next ?_)
  refine wc_if rfl (fun h2 => ?_) (fun h2 => ?_)
  · repeat (first | (apply wx_val; (first | exact v_assign rfl); rfl) | refine wc_seq ?_ | refine wc_region ?_ | refine wx_nil ?_ | refine wq_next ?_ | refine wc_ret ?_ | refine wq_then_ret ?_)
    exact wq_clear (wq_ret1 () rfl rfl trivial rfl)
  obtain ⟨K, rfl⟩ : ∃ N : Nat, k = N := ⟨k.toNat, by omega⟩
  have hK : K ≤ 10 := by omega
  obtain ⟨D, hD, hpD⟩ : ∃ D : Nat, D ≤ 1 ∧ p = decide (D = 1) := by
    cases p
    · exact ⟨0, by omega, rfl⟩
    · exact ⟨1, by omega, rfl⟩
  repeat (first | (apply wx_val; (first | exact v_move rfl | exact v_assign rfl); rfl) | refine wc_seq ?_ | refine wc_region ?_ | refine wx_nil ?_ | refine wq_next ?_ | refine wc_skip ?_)
  refine wc_meet (ι := Unit) (fun _ => [(0, .int .i64 (K : Nat)), (1, .bool p), (5, .int .i64 (D : Nat))]) (fun _ => []) (fun _ => True) ?_ (fun _ _ => ?_)
  · have hD' : D = 0 ∨ D = 1 := by omega
    rcases hD' with rfl | rfl <;> subst hpD
    · repeat (first | refine wc_skip ?_ | refine wc_condF rfl ?_)
      exact wq_cut () trivial ⟨rfl, rfl, rfl, trivial⟩ rfl
    · repeat (first | (apply wx_val; (first | exact v_assign rfl); rfl) | refine wc_region ?_ | refine wx_nil ?_ | refine wc_condT rfl ?_)
      exact wq_cut () trivial ⟨rfl, rfl, rfl, trivial⟩ rfl
  repeat (first | refine wc_seq ?_ | refine wc_region ?_)
  (try refine wx_ungd rfl rfl ?_)
  apply wx_val
  exact v_build (cs := ((OpW.cells ⟨1, ⟨#[107]⟩, true, ⟨#[118]⟩⟩)).toArray) rfl (by kernel_rfl)
  rfl
  refine wl_litB rfl rfl rfl rfl rfl (by decide) rfl (fun g23 E23 hb23 => ?_)
  have hb23' : BufO [⟨1, ⟨#[107]⟩, true, ⟨#[118]⟩⟩] (some ⟨g23, 0, none⟩, 1, E23) := hb23
  skip
  (try refine wx_ungd rfl rfl ?_)
  apply wx_val
  exact v_build (cs := ((TxnP.cells ⟨1, 1, 1, 1, 1, 1, 1, [⟨1, ⟨#[107]⟩, true, ⟨#[118]⟩⟩]⟩ (some ⟨g23, 0, none⟩) 1)).toArray) rfl (by kernel_rfl)
  rfl
  refine wl_alloc rfl rfl (fun g6 => ?_)
  repeat (first | (apply wx_val; (first | exact v_move rfl | exact v_assign rfl | exact v_eq rfl rfl); rfl) | refine wc_seq ?_ | refine wc_region ?_ | refine wx_nil ?_ | refine wq_next ?_ | refine wc_block ?_ | refine wc_setn ?_ | refine wl_stAT rfl rfl (by rfl) (by rfl) (by exact .inl (Nat.le_refl _)) rfl ?_)
  refine wc_meetB (ι := Option Addr × Nat × Seg) (fun q => [(0, .int .i64 (K : Nat)), (1, .bool p), (5, .int .i64 (D : Nat)), (6, .pointer (some ⟨g6, 0, none⟩)), (7, .int .i64 (wantF K))]) (fun q => [[(g6, .cells ((txF K D).cells q.1 q.2.1).toArray 26 (0, 0))], q.2.2]) (fun q => BufO (txF K D).ops q) ?_ (fun q hq => ?_)
  · clear h1 h2
    have hK' : K = 0 ∨ K = 1 ∨ K = 2 ∨ K = 3 ∨ K = 4 ∨ K = 5 ∨ K = 6 ∨ K = 7 ∨ K = 8 ∨ K = 9 ∨ K = 10 := by omega
    have hD' : D = 0 ∨ D = 1 := by omega
    rcases hK' with rfl | rfl | rfl | rfl | rfl | rfl | rfl | rfl | rfl | rfl | rfl
    · repeat (first | (apply wx_val; (first | exact v_move rfl | exact v_faddr rfl rfl | exact v_addi rfl rfl (by omega)); rfl) | refine wc_region ?_ | refine wx_nil ?_ | refine wq_block ?_ | refine wc_condT rfl ?_ | refine wq_setn ?_ | refine wl_storeT rfl rfl rfl (by rfl) (by exact .inl (Nat.le_refl _)) rfl ?_)
      exact wq_cut (some ⟨g23, 0, none⟩, 1, E23) hb23' ⟨rfl, rfl, rfl, rfl, rfl, trivial⟩ rfl
    · repeat (first | (apply wx_val; (first | exact v_move rfl | exact v_assign rfl | exact v_faddr rfl rfl | exact v_eq rfl rfl | exact v_addi rfl rfl (by omega)); rfl) | refine wc_seq ?_ | refine wc_region ?_ | refine wx_nil ?_ | refine wq_next ?_ | refine wq_block ?_ | refine wc_condT rfl ?_ | refine wc_condF rfl ?_ | refine wq_setn ?_ | refine wl_storeT rfl rfl rfl (by rfl) (by exact .inl (Nat.le_refl _)) rfl ?_)
      exact wq_cut (some ⟨g23, 0, none⟩, 1, E23) hb23' ⟨rfl, rfl, rfl, rfl, rfl, trivial⟩ rfl
    · repeat (first | (apply wx_val; (first | exact v_move rfl | exact v_assign rfl | exact v_faddr rfl rfl | exact v_eq rfl rfl | exact v_addi rfl rfl (by omega)); rfl) | refine wc_seq ?_ | refine wc_region ?_ | refine wx_nil ?_ | refine wq_next ?_ | refine wq_block ?_ | refine wc_condT rfl ?_ | refine wc_condF rfl ?_ | refine wq_setn ?_ | refine wl_storeT rfl rfl rfl (by rfl) (by exact .inl (Nat.le_refl _)) rfl ?_)
      exact wq_cut (some ⟨g23, 0, none⟩, 1, E23) hb23' ⟨rfl, rfl, rfl, rfl, rfl, trivial⟩ rfl
    · repeat (first | (apply wx_val; (first | exact v_move rfl | exact v_assign rfl | exact v_faddr rfl rfl | exact v_eq rfl rfl | exact v_addi rfl rfl (by omega)); rfl) | refine wc_seq ?_ | refine wc_region ?_ | refine wx_nil ?_ | refine wq_next ?_ | refine wq_block ?_ | refine wc_condT rfl ?_ | refine wc_condF rfl ?_ | refine wq_setn ?_ | refine wl_storeT rfl rfl rfl (by rfl) (by exact .inl (Nat.le_refl _)) rfl ?_)
      exact wq_cut (some ⟨g23, 0, none⟩, 1, E23) hb23' ⟨rfl, rfl, rfl, rfl, rfl, trivial⟩ rfl
    · repeat (first | (apply wx_val; (first | exact v_move rfl | exact v_assign rfl | exact v_faddr rfl rfl | exact v_eq rfl rfl | exact v_addi rfl rfl (by omega)); rfl) | refine wc_seq ?_ | refine wc_region ?_ | refine wx_nil ?_ | refine wq_next ?_ | refine wq_block ?_ | refine wc_condT rfl ?_ | refine wc_condF rfl ?_ | refine wq_setn ?_ | refine wl_storeT rfl rfl rfl (by rfl) (by exact .inl (Nat.le_refl _)) rfl ?_)
      exact wq_cut (some ⟨g23, 0, none⟩, 1, E23) hb23' ⟨rfl, rfl, rfl, rfl, rfl, trivial⟩ rfl
    · repeat (first | (apply wx_val; (first | exact v_move rfl | exact v_assign rfl | exact v_faddr rfl rfl | exact v_eq rfl rfl | exact v_addi rfl rfl (by omega)); rfl) | refine wc_seq ?_ | refine wc_region ?_ | refine wx_nil ?_ | refine wq_next ?_ | refine wq_block ?_ | refine wc_condT rfl ?_ | refine wc_condF rfl ?_ | refine wq_setn ?_ | refine wl_storeT rfl rfl rfl (by rfl) (by exact .inl (Nat.le_refl _)) rfl ?_)
      exact wq_cut (some ⟨g23, 0, none⟩, 1, E23) hb23' ⟨rfl, rfl, rfl, rfl, rfl, trivial⟩ rfl
    · repeat (first | (apply wx_val; (first | exact v_move rfl | exact v_assign rfl | exact v_faddr rfl rfl | exact v_eq rfl rfl | exact v_addi rfl rfl (by omega)); rfl) | refine wc_seq ?_ | refine wc_region ?_ | refine wx_nil ?_ | refine wq_next ?_ | refine wq_block ?_ | refine wc_condT rfl ?_ | refine wc_condF rfl ?_ | refine wq_setn ?_ | refine wl_storeT rfl rfl rfl (by rfl) (by exact .inl (Nat.le_refl _)) rfl ?_)
      exact wq_cut (some ⟨g23, 0, none⟩, 1, E23) hb23' ⟨rfl, rfl, rfl, rfl, rfl, trivial⟩ rfl
    · repeat (first | (apply wx_val; (first | exact v_assign rfl | exact v_eq rfl rfl); rfl) | refine wc_seq ?_ | refine wc_region ?_ | refine wx_nil ?_ | refine wq_next ?_ | refine wc_block ?_ | refine wc_condT rfl ?_ | refine wc_condF rfl ?_)
      refine wc_loopM (ι := Nat × Option Addr × Nat × Seg) ([[(g6, .cells (TxnP.cells ⟨1, 1, 1, 1, 1, 1, 1, [⟨1, ⟨#[107]⟩, true, ⟨#[118]⟩⟩]⟩ (some ⟨g23, 0, none⟩) 1).toArray 26 (0, 0))], E23]) [0, 1, 5, 6, 25] (fun q => []) (fun q => [[(g6, .cells (TxnP.cells ⟨1, 1, 1, 1, 1, 1, 1, op1 :: List.replicate q.1 opK⟩ q.2.1 q.2.2.1).toArray 26 (0, 0))], q.2.2.2]) (fun q => q.1 ≤ 15 + D ∧ BufO (op1 :: List.replicate q.1 opK) (q.2.1, q.2.2.1, q.2.2.2)) (fun q => 15 + D - q.1) ((0, some ⟨g23, 0, none⟩, 1, E23)) rfl rfl ?_ (by repeat (first | exact trivial)) ?_
      · exact ⟨Nat.zero_le _, hb23'⟩
      rintro ⟨j, A7, c7, E7⟩ ⟨hj, hb7⟩
      try dsimp only
      refine wc_fcat ?_
      refine wc_cat ?_
      dsimp only at hj hb7 ⊢
      have hl7 : (op1 :: List.replicate j opK).length = j + 1 := by simp
      repeat (first | (apply wx_val; (first | exact v_move rfl | exact v_faddr rfl rfl | exact v_ldT rfl rfl rfl (by rfl) | exact v_len rfl rfl | exact v_lt rfl rfl | exact v_addi rfl rfl (by omega)); rfl) | refine wc_seq ?_ | refine wc_region ?_ | refine wx_nil ?_ | refine wq_next ?_)
      refine wc_if rfl (fun hx => ?_) (fun hx => ?_)
      · dsimp only at hx
        repeat (first | (apply wx_val; (first | exact v_faddr rfl rfl | exact v_ldT rfl rfl rfl (by rfl)); rfl) | refine wc_region ?_ | refine wq_next ?_ | refine wc_block ?_ | refine wc_skip ?_)
        (try refine wx_ungd rfl rfl ?_)
        apply wx_val
        exact v_build (cs := ((OpW.cells opK)).toArray) rfl (by kernel_rfl)
        rfl
        refine wl_lit rfl rfl rfl rfl rfl (by decide) rfl (fun g72 => ?_)
        refine wl_app1T rfl hb7 rfl rfl rfl rfl (by omega) rfl (fun A8 c8 E8 hb8 => ?_)
        have hb8' : BufO (op1 :: List.replicate (j + 1) opK) (A8, c8, E8) := by
          have e : op1 :: List.replicate (j + 1) opK = (op1 :: List.replicate j opK) ++ [opK] := by rw [List.replicate_succ', List.cons_append]
          dsimp only [BufO]
          rw [e, List.flatMap_append, List.length_append]
          exact hb8
        repeat (first | (apply wx_val; (first | exact v_faddr rfl rfl); rfl) | refine wx_nil ?_ | refine wq_block ?_ | refine wq_setn ?_ | refine wl_storeT rfl rfl rfl (by rfl) (by exact .inl (Nat.le_refl _)) rfl ?_)
        refine wq_blk g6 (TxnP.cells ⟨1, 1, 1, 1, 1, 1, 1, op1 :: List.replicate (j + 1) opK⟩ A8 c8) rfl ?_
        refine wq_setn ?_
        refine wq_roundK ((j + 1, A8, c8, E8)) ?_ ?_ (by repeat (first | exact trivial | refine ⟨rfl, ?_⟩)) (by first | exact catEq | exact rfl)
        · exact ⟨by dsimp only; omega, hb8'⟩
        · dsimp only; omega
      dsimp only at hx
      have hj' : j = 15 + D := by omega
      subst hj'
      repeat (first | (apply wx_val; (first | exact v_assign rfl); rfl) | refine wc_region ?_ | refine wx_nil ?_ | refine wq_next ?_ | refine wc_exit ?_ | refine wq_then_exit ?_ | refine wq_block ?_ | refine wq_block_exit rfl ?_)
      exact wq_cut (A7, c7, E7) hb7 ⟨rfl, rfl, rfl, rfl, rfl, trivial⟩ rfl
    · repeat (first | (apply wx_val; (first | exact v_assign rfl | exact v_eq rfl rfl); rfl) | refine wc_seq ?_ | refine wc_region ?_ | refine wx_nil ?_ | refine wq_next ?_ | refine wc_condT rfl ?_ | refine wc_condF rfl ?_)
      rcases hD' with rfl | rfl
      ·
        refine wc_heldX [] [[(g6, .cells (TxnP.cells ⟨1, 1, 1, 1, 1, 1, 1, [⟨1, ⟨#[107]⟩, true, ⟨#[118]⟩⟩]⟩ (some ⟨g23, 0, none⟩) 1).toArray 26 (0, 0))]] rfl (by (repeat (first | with_reducible exact panicNot_of panicOk_body | with_reducible apply panicNot_block | with_reducible apply panicNot_then))) (fun hQd => ?_)
        (apply wh_takeX 0; (first | exact fun _ h => h | exact fun _ h => res_takes h); exact hQd; rfl; rfl; exact v_faddr rfl rfl; decide +kernel; decide +kernel; decide +kernel; rfl)
        (apply wh_takeX 1; (first | exact fun _ h => res_takes h); exact hQd; rfl; rfl; (first | exact v_ldT rfl rfl rfl (by rfl)); decide +kernel; decide +kernel; decide +kernel; rfl)
        (apply wh_takeX 2; (first | exact fun _ h => h | exact fun _ h => res_takes h); exact hQd; rfl; rfl; exact v_move rfl; decide +kernel; decide +kernel; decide +kernel; rfl)
        (apply wh_takeX 3; (first | exact fun _ h => h | exact fun _ h => res_takes h); exact hQd; rfl; rfl; (first | exact v_addi rfl rfl (by omega) | exact v_add rfl rfl); decide +kernel; decide +kernel; decide +kernel; rfl)
        (apply wh_takeX 4; (first | exact fun _ h => h | exact fun _ h => res_takes h); exact hQd; rfl; rfl; (exact v_scut rfl rfl rfl rfl (by decide)); decide +kernel; decide +kernel; decide +kernel; rfl)
        (apply wh_takeX 5; (first | exact fun _ h => h | exact fun _ h => res_takes h); exact hQd; rfl; rfl; (exact v_iaddr rfl rfl rfl (by decide)); decide +kernel; decide +kernel; decide +kernel; rfl)
        (apply wh_takeX 6; (first | exact fun _ h => h | exact fun _ h => res_takes h); exact hQd; rfl; rfl; exact v_faddr rfl rfl; decide +kernel; decide +kernel; decide +kernel; rfl)
        refine wh_eff 7 rfl (by decide +kernel) ?_
        refine wl_bsetT 1 rfl hb23 rfl rfl rfl (by decide) rfl rfl (fun E' hb' => ?_)
        (try refine wx_nil ?_)
        refine wq_held (by (first | exact fun _ h => h | exact fun _ h => res_takes h)) ?_
        refine wh_done (by decide +kernel) ?_
        repeat (first | (apply wx_val; (first | exact v_assign rfl); rfl) | refine wc_region ?_ | refine wx_nil ?_ | refine wq_next ?_ | refine wq_block ?_)
        refine wq_only [[(g6, .cells (TxnP.cells ⟨1, 1, 1, 1, 1, 1, 1, [⟨1, ⟨#[107]⟩, true, ⟨#[118]⟩⟩]⟩ (some ⟨g23, 0, none⟩) 1).toArray 26 (0, 0))], E'] ?_
        exact wq_cut (some ⟨g23, 0, none⟩, 1, E') hb' ⟨rfl, rfl, rfl, rfl, rfl, trivial⟩ rfl
      ·
        refine wc_heldX [] [[(g6, .cells (TxnP.cells ⟨1, 1, 1, 1, 1, 1, 1, [⟨1, ⟨#[107]⟩, true, ⟨#[118]⟩⟩]⟩ (some ⟨g23, 0, none⟩) 1).toArray 26 (0, 0))]] rfl (by (repeat (first | with_reducible exact panicNot_of panicOk_body | with_reducible apply panicNot_block | with_reducible apply panicNot_then))) (fun hQd => ?_)
        (apply wh_takeX 0; (first | exact fun _ h => h | exact fun _ h => res_takes h); exact hQd; rfl; rfl; exact v_faddr rfl rfl; decide +kernel; decide +kernel; decide +kernel; rfl)
        (apply wh_takeX 1; (first | exact fun _ h => res_takes h); exact hQd; rfl; rfl; (first | exact v_ldT rfl rfl rfl (by rfl)); decide +kernel; decide +kernel; decide +kernel; rfl)
        (apply wh_takeX 2; (first | exact fun _ h => h | exact fun _ h => res_takes h); exact hQd; rfl; rfl; exact v_move rfl; decide +kernel; decide +kernel; decide +kernel; rfl)
        (apply wh_takeX 3; (first | exact fun _ h => h | exact fun _ h => res_takes h); exact hQd; rfl; rfl; (first | exact v_addi rfl rfl (by omega) | exact v_add rfl rfl); decide +kernel; decide +kernel; decide +kernel; rfl)
        (apply wh_takeX 4; (first | exact fun _ h => h | exact fun _ h => res_takes h); exact hQd; rfl; rfl; (exact v_scut rfl rfl rfl rfl (by decide)); decide +kernel; decide +kernel; decide +kernel; rfl)
        (apply wh_takeX 5; (first | exact fun _ h => h | exact fun _ h => res_takes h); exact hQd; rfl; rfl; (exact v_iaddr rfl rfl rfl (by decide)); decide +kernel; decide +kernel; decide +kernel; rfl)
        (apply wh_takeX 6; (first | exact fun _ h => h | exact fun _ h => res_takes h); exact hQd; rfl; rfl; exact v_faddr rfl rfl; decide +kernel; decide +kernel; decide +kernel; rfl)
        refine wh_eff 7 rfl (by decide +kernel) ?_
        refine wl_bsetT 1 rfl hb23 rfl rfl rfl (by decide) rfl rfl (fun E' hb' => ?_)
        (try refine wx_nil ?_)
        refine wq_held (by (first | exact fun _ h => h | exact fun _ h => res_takes h)) ?_
        refine wh_done (by decide +kernel) ?_
        repeat (first | (apply wx_val; (first | exact v_assign rfl); rfl) | refine wc_region ?_ | refine wx_nil ?_ | refine wq_next ?_ | refine wq_block ?_)
        refine wq_only [[(g6, .cells (TxnP.cells ⟨1, 1, 1, 1, 1, 1, 1, [⟨1, ⟨#[107]⟩, true, ⟨#[118]⟩⟩]⟩ (some ⟨g23, 0, none⟩) 1).toArray 26 (0, 0))], E'] ?_
        exact wq_cut (some ⟨g23, 0, none⟩, 1, E') hb' ⟨rfl, rfl, rfl, rfl, rfl, trivial⟩ rfl
    · repeat (first | (apply wx_val; (first | exact v_assign rfl | exact v_eq rfl rfl); rfl) | refine wc_seq ?_ | refine wc_region ?_ | refine wx_nil ?_ | refine wq_next ?_ | refine wc_condT rfl ?_ | refine wc_condF rfl ?_)
      rcases hD' with rfl | rfl
      ·
        refine wc_heldX [] [[(g6, .cells (TxnP.cells ⟨1, 1, 1, 1, 1, 1, 1, [⟨1, ⟨#[107]⟩, true, ⟨#[118]⟩⟩]⟩ (some ⟨g23, 0, none⟩) 1).toArray 26 (0, 0))]] rfl (by (repeat (first | with_reducible exact panicNot_of panicOk_body | with_reducible apply panicNot_block | with_reducible apply panicNot_then))) (fun hQd => ?_)
        (apply wh_takeX 0; (first | exact fun _ h => h | exact fun _ h => res_takes h); exact hQd; rfl; rfl; exact v_faddr rfl rfl; decide +kernel; decide +kernel; decide +kernel; rfl)
        (apply wh_takeX 1; (first | exact fun _ h => res_takes h); exact hQd; rfl; rfl; (first | exact v_ldT rfl rfl rfl (by rfl)); decide +kernel; decide +kernel; decide +kernel; rfl)
        (apply wh_takeX 2; (first | exact fun _ h => h | exact fun _ h => res_takes h); exact hQd; rfl; rfl; exact v_move rfl; decide +kernel; decide +kernel; decide +kernel; rfl)
        (apply wh_takeX 3; (first | exact fun _ h => h | exact fun _ h => res_takes h); exact hQd; rfl; rfl; (first | exact v_addi rfl rfl (by omega) | exact v_add rfl rfl); decide +kernel; decide +kernel; decide +kernel; rfl)
        (apply wh_takeX 4; (first | exact fun _ h => h | exact fun _ h => res_takes h); exact hQd; rfl; rfl; (exact v_scut rfl rfl rfl rfl (by decide)); decide +kernel; decide +kernel; decide +kernel; rfl)
        (apply wh_takeX 5; (first | exact fun _ h => h | exact fun _ h => res_takes h); exact hQd; rfl; rfl; (exact v_iaddr rfl rfl rfl (by decide)); decide +kernel; decide +kernel; decide +kernel; rfl)
        (apply wh_takeX 6; (first | exact fun _ h => h | exact fun _ h => res_takes h); exact hQd; rfl; rfl; exact v_faddr rfl rfl; decide +kernel; decide +kernel; decide +kernel; rfl)
        refine wh_eff 7 rfl (by decide +kernel) ?_
        refine wl_bsetT 3 rfl hb23 rfl rfl rfl (by decide) rfl rfl (fun E' hb' => ?_)
        (try refine wx_nil ?_)
        refine wq_held (by (first | exact fun _ h => h | exact fun _ h => res_takes h)) ?_
        refine wh_done (by decide +kernel) ?_
        repeat (first | (apply wx_val; (first | exact v_assign rfl); rfl) | refine wc_region ?_ | refine wx_nil ?_ | refine wq_next ?_ | refine wq_block ?_)
        refine wq_only [[(g6, .cells (TxnP.cells ⟨1, 1, 1, 1, 1, 1, 1, [⟨1, ⟨#[107]⟩, true, ⟨#[118]⟩⟩]⟩ (some ⟨g23, 0, none⟩) 1).toArray 26 (0, 0))], E'] ?_
        exact wq_cut (some ⟨g23, 0, none⟩, 1, E') hb' ⟨rfl, rfl, rfl, rfl, rfl, trivial⟩ rfl
      ·
        refine wc_heldX [] [[(g6, .cells (TxnP.cells ⟨1, 1, 1, 1, 1, 1, 1, [⟨1, ⟨#[107]⟩, true, ⟨#[118]⟩⟩]⟩ (some ⟨g23, 0, none⟩) 1).toArray 26 (0, 0))]] rfl (by (repeat (first | with_reducible exact panicNot_of panicOk_body | with_reducible apply panicNot_block | with_reducible apply panicNot_then))) (fun hQd => ?_)
        (apply wh_takeX 0; (first | exact fun _ h => h | exact fun _ h => res_takes h); exact hQd; rfl; rfl; exact v_faddr rfl rfl; decide +kernel; decide +kernel; decide +kernel; rfl)
        (apply wh_takeX 1; (first | exact fun _ h => res_takes h); exact hQd; rfl; rfl; (first | exact v_ldT rfl rfl rfl (by rfl)); decide +kernel; decide +kernel; decide +kernel; rfl)
        (apply wh_takeX 2; (first | exact fun _ h => h | exact fun _ h => res_takes h); exact hQd; rfl; rfl; exact v_move rfl; decide +kernel; decide +kernel; decide +kernel; rfl)
        (apply wh_takeX 3; (first | exact fun _ h => h | exact fun _ h => res_takes h); exact hQd; rfl; rfl; (first | exact v_addi rfl rfl (by omega) | exact v_add rfl rfl); decide +kernel; decide +kernel; decide +kernel; rfl)
        (apply wh_takeX 4; (first | exact fun _ h => h | exact fun _ h => res_takes h); exact hQd; rfl; rfl; (exact v_scut rfl rfl rfl rfl (by decide)); decide +kernel; decide +kernel; decide +kernel; rfl)
        (apply wh_takeX 5; (first | exact fun _ h => h | exact fun _ h => res_takes h); exact hQd; rfl; rfl; (exact v_iaddr rfl rfl rfl (by decide)); decide +kernel; decide +kernel; decide +kernel; rfl)
        (apply wh_takeX 6; (first | exact fun _ h => h | exact fun _ h => res_takes h); exact hQd; rfl; rfl; exact v_faddr rfl rfl; decide +kernel; decide +kernel; decide +kernel; rfl)
        refine wh_eff 7 rfl (by decide +kernel) ?_
        refine wl_bsetT 3 rfl hb23 rfl rfl rfl (by decide) rfl rfl (fun E' hb' => ?_)
        (try refine wx_nil ?_)
        refine wq_held (by (first | exact fun _ h => h | exact fun _ h => res_takes h)) ?_
        refine wh_done (by decide +kernel) ?_
        repeat (first | (apply wx_val; (first | exact v_assign rfl); rfl) | refine wc_region ?_ | refine wx_nil ?_ | refine wq_next ?_ | refine wq_block ?_)
        refine wq_only [[(g6, .cells (TxnP.cells ⟨1, 1, 1, 1, 1, 1, 1, [⟨1, ⟨#[107]⟩, true, ⟨#[118]⟩⟩]⟩ (some ⟨g23, 0, none⟩) 1).toArray 26 (0, 0))], E'] ?_
        exact wq_cut (some ⟨g23, 0, none⟩, 1, E') hb' ⟨rfl, rfl, rfl, rfl, rfl, trivial⟩ rfl
    · repeat (first | (apply wx_val; (first | exact v_assign rfl | exact v_eq rfl rfl); rfl) | refine wc_seq ?_ | refine wc_region ?_ | refine wx_nil ?_ | refine wq_next ?_ | refine wc_condT rfl ?_ | refine wc_condF rfl ?_)
      rcases hD' with rfl | rfl
      ·
        refine wc_heldX [] [[(g6, .cells (TxnP.cells ⟨1, 1, 1, 1, 1, 1, 1, [⟨1, ⟨#[107]⟩, true, ⟨#[118]⟩⟩]⟩ (some ⟨g23, 0, none⟩) 1).toArray 26 (0, 0))]] rfl (by (repeat (first | with_reducible exact panicNot_of panicOk_body | with_reducible apply panicNot_block | with_reducible apply panicNot_then))) (fun hQd => ?_)
        (apply wh_takeX 0; (first | exact fun _ h => h | exact fun _ h => res_takes h); exact hQd; rfl; rfl; exact v_faddr rfl rfl; decide +kernel; decide +kernel; decide +kernel; rfl)
        (apply wh_takeX 1; (first | exact fun _ h => res_takes h); exact hQd; rfl; rfl; (first | exact v_ldT rfl rfl rfl (by rfl)); decide +kernel; decide +kernel; decide +kernel; rfl)
        (apply wh_takeX 2; (first | exact fun _ h => h | exact fun _ h => res_takes h); exact hQd; rfl; rfl; exact v_move rfl; decide +kernel; decide +kernel; decide +kernel; rfl)
        (apply wh_takeX 3; (first | exact fun _ h => h | exact fun _ h => res_takes h); exact hQd; rfl; rfl; (exact v_scut rfl rfl rfl rfl (by decide)); decide +kernel; decide +kernel; decide +kernel; rfl)
        (apply wh_takeX 4; (first | exact fun _ h => h | exact fun _ h => res_takes h); exact hQd; rfl; rfl; (exact v_iaddr rfl rfl rfl (by decide)); decide +kernel; decide +kernel; decide +kernel; rfl)
        (apply wh_takeX 5; (first | exact fun _ h => h | exact fun _ h => res_takes h); exact hQd; rfl; rfl; exact v_faddr rfl rfl; decide +kernel; decide +kernel; decide +kernel; rfl)
        refine wh_eff 6 rfl (by decide +kernel) ?_
        refine wl_bsetT 1 rfl hb23 rfl rfl rfl (by decide) rfl rfl (fun E' hb' => ?_)
        (try refine wx_nil ?_)
        refine wq_held (by (first | exact fun _ h => h | exact fun _ h => res_takes h)) ?_
        refine wh_done (by decide +kernel) ?_
        repeat (first | (apply wx_val; (first | exact v_assign rfl); rfl) | refine wc_region ?_ | refine wx_nil ?_ | refine wq_next ?_ | refine wq_block ?_)
        refine wq_only [[(g6, .cells (TxnP.cells ⟨1, 1, 1, 1, 1, 1, 1, [⟨1, ⟨#[107]⟩, true, ⟨#[118]⟩⟩]⟩ (some ⟨g23, 0, none⟩) 1).toArray 26 (0, 0))], E'] ?_
        exact wq_cut (some ⟨g23, 0, none⟩, 1, E') hb' ⟨rfl, rfl, rfl, rfl, rfl, trivial⟩ rfl
      ·
        refine wc_heldX [] [[(g6, .cells (TxnP.cells ⟨1, 1, 1, 1, 1, 1, 1, [⟨1, ⟨#[107]⟩, true, ⟨#[118]⟩⟩]⟩ (some ⟨g23, 0, none⟩) 1).toArray 26 (0, 0))]] rfl (by (repeat (first | with_reducible exact panicNot_of panicOk_body | with_reducible apply panicNot_block | with_reducible apply panicNot_then))) (fun hQd => ?_)
        (apply wh_takeX 0; (first | exact fun _ h => h | exact fun _ h => res_takes h); exact hQd; rfl; rfl; exact v_faddr rfl rfl; decide +kernel; decide +kernel; decide +kernel; rfl)
        (apply wh_takeX 1; (first | exact fun _ h => res_takes h); exact hQd; rfl; rfl; (first | exact v_ldT rfl rfl rfl (by rfl)); decide +kernel; decide +kernel; decide +kernel; rfl)
        (apply wh_takeX 2; (first | exact fun _ h => h | exact fun _ h => res_takes h); exact hQd; rfl; rfl; exact v_move rfl; decide +kernel; decide +kernel; decide +kernel; rfl)
        (apply wh_takeX 3; (first | exact fun _ h => h | exact fun _ h => res_takes h); exact hQd; rfl; rfl; (exact v_scut rfl rfl rfl rfl (by decide)); decide +kernel; decide +kernel; decide +kernel; rfl)
        (apply wh_takeX 4; (first | exact fun _ h => h | exact fun _ h => res_takes h); exact hQd; rfl; rfl; (exact v_iaddr rfl rfl rfl (by decide)); decide +kernel; decide +kernel; decide +kernel; rfl)
        (apply wh_takeX 5; (first | exact fun _ h => h | exact fun _ h => res_takes h); exact hQd; rfl; rfl; exact v_faddr rfl rfl; decide +kernel; decide +kernel; decide +kernel; rfl)
        refine wh_eff 6 rfl (by decide +kernel) ?_
        refine wl_bsetT 1 rfl hb23 rfl rfl rfl (by decide) rfl rfl (fun E' hb' => ?_)
        (try refine wx_nil ?_)
        refine wq_held (by (first | exact fun _ h => h | exact fun _ h => res_takes h)) ?_
        refine wh_done (by decide +kernel) ?_
        repeat (first | (apply wx_val; (first | exact v_assign rfl); rfl) | refine wc_region ?_ | refine wx_nil ?_ | refine wq_next ?_ | refine wq_block ?_)
        refine wq_only [[(g6, .cells (TxnP.cells ⟨1, 1, 1, 1, 1, 1, 1, [⟨1, ⟨#[107]⟩, true, ⟨#[118]⟩⟩]⟩ (some ⟨g23, 0, none⟩) 1).toArray 26 (0, 0))], E'] ?_
        exact wq_cut (some ⟨g23, 0, none⟩, 1, E') hb' ⟨rfl, rfl, rfl, rfl, rfl, trivial⟩ rfl
  obtain ⟨A, c, E⟩ := q
  dsimp only at hq ⊢
  obtain ⟨T, hT⟩ : ∃ T, T = txF K D := ⟨_, rfl⟩
  rw [← hT] at hq ⊢
  have hTl : T.ops.length ≤ 17 := by
    rw [hT]
    by_cases h7 : K = 7
    · subst h7; rw [fld_ops7]; omega
    · rw [fld_ops K D h7]; omega
  repeat (first | (apply wx_val; (first | exact v_ldAT rfl (by rfl)); rfl) | refine wc_seq ?_ | refine wc_region ?_)
  refine wl_callT (M1 := []) (fun w' hr ho => Copy_spec (t := T.w A c) (by show T.ops.length ≤ _; omega) w' (hq.vwT hr)) rfl rfl rfl ?_
  rintro ⟨A3, c3, E3⟩ hb3
  have hb3' : BufO T.ops (A3, c3, E3) := hb3
  dsimp only at hb3 ⊢
  repeat (first | refine wx_cat ?_)
  refine wl_callT (M1 := []) (fun w' hr ho => Encode_spec (t := T.w A3 c3) w' (hb3'.vwT hr)) rfl rfl rfl ?_
  rintro ⟨A4, c4, E4⟩ hb4
  dsimp only at hb4 ⊢
  have hD' : D = 0 ∨ D = 1 := by omega
  rcases hD' with rfl | rfl <;> subst hpD
  · have he : ∀ A c, (T.w A c).err = 0 := fun A c => by rw [hT]; exact fld_ok hK A c
    rw [show (T.w A3 c3).encB = (T.w A3 c3).body from if_pos (he _ _)] at hb4 ⊢
    rw [he A3 c3]
    obtain ⟨q1, q2, q3⟩ := (T.w A3 c3).ok_of (he _ _)
    have hbl := body_len q1 q2 q3
    repeat (first | (apply wx_val; (first | exact v_move rfl | exact v_assign rfl | exact v_extract rfl rfl); rfl) | refine wc_seq ?_ | refine wc_region ?_ | refine wx_nil ?_ | refine wq_next ?_ | refine wc_skip ?_ | refine wc_condF rfl ?_ | refine wx_cat ?_)
    refine wl_callT (M1 := []) (fun w' hr ho => Decode_spec (d := (T.w A3 c3).body) (by omega) w' (hb4.vwT hr)) rfl rfl rfl ?_
    rintro ⟨A5, c5, E5⟩ hb5
    rw [dec_body (he A3 c3)] at hb5 ⊢
    have hb5' : BufO T.ops (A5, c5, E5) := hb5
    dsimp only at hb5 ⊢
    repeat (first | (apply wx_val; (first | exact v_move rfl | exact v_extract rfl rfl); rfl) | refine wx_cat ?_)
    refine wl_alloc rfl rfl (fun g10 => ?_)
    repeat (first | (apply wx_val; (first | exact v_move rfl | exact v_assign rfl | exact v_ldAT rfl (by rfl) | exact v_eq rfl rfl | exact v_pickT rfl rfl); rfl) | refine wx_ungd rfl rfl ?_ | refine wc_seq ?_ | refine wc_region ?_ | refine wx_nil ?_ | refine wq_next ?_ | refine wx_setn ?_ | refine wl_stAT rfl rfl (by rfl) (by rfl) (by exact .inl (Nat.le_refl _)) rfl ?_)
    (try refine wx_ungd rfl rfl ?_)
    refine wx_vcall (vc_pure' rfl rfl (fun w' hr => Same_spec (t := T) (by omega) w' (hq.vwT hr) (hb5'.vwT hr))) rfl ?_
    repeat (first | (apply wx_val; (first | exact v_assign rfl | exact v_pickT rfl rfl); rfl) | refine wx_nil ?_ | refine wq_next ?_ | refine wc_ret ?_)
    exact wq_clear (wq_ret1 () rfl rfl trivial rfl)
  · have he : ∀ A c, (T.w A c).err = wantF K := fun A c => by rw [hT]; exact fld_no hK A c
    have hw : wantF K ≠ 0 := by
      unfold wantF
      split
      · decide
      · split <;> decide
    rw [show (T.w A3 c3).encB = [] from if_neg (by rw [he]; exact hw)] at hb4 ⊢
    rw [he A3 c3]
    repeat (first | (apply wx_val; (first | exact v_move rfl | exact v_assign rfl | exact v_extract rfl rfl | exact v_eq rfl rfl); rfl) | refine wc_seq ?_ | refine wc_region ?_ | refine wx_nil ?_ | refine wq_next ?_ | refine wc_condT rfl ?_ | refine wx_cat ?_)
    refine wx_gset true rfl rfl (by simp) ?_
    repeat (first | (apply wx_val; (first | exact v_move rfl | exact v_ldAT rfl (by rfl) | exact v_len rfl rfl | exact v_eq rfl rfl | exact v_pickT rfl rfl); rfl) | refine wx_ungd rfl rfl ?_)
    (try refine wx_ungd rfl rfl ?_)
    refine wx_vcall (vc_pure' rfl rfl (fun w' hr => recValid_spec (T.w A c) w' (hq.vwT hr))) rfl ?_
    rw [he A c]
    repeat (first | (apply wx_val; (first | exact v_move rfl | exact v_assign rfl | exact v_eq rfl rfl | exact v_pickT rfl rfl); rfl) | refine wx_ungd rfl rfl ?_ | refine wx_nil ?_ | refine wq_next ?_ | refine wc_ret ?_ | refine wq_then_ret ?_)
    exact wq_clear (wq_ret1 () rfl (bool_val (by simp)) trivial rfl)
end Go.Proofs.Ytknnkgoehkohaaa
