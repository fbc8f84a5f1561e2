/- The document's machine: Seen, held. -/
import Derived.Test.YtgidabcmbngcbaaMac1
set_option linter.unusedVariables false
set_option linter.unusedSimpArgs false
namespace Go.Proofs.Ytgidabcmbngcbaa
open Go
set_option maxRecDepth 20000
set_option maxHeartbeats 2000000
attribute [local irreducible] WX WC WQ Val VCall
def RunW.txnC (r : RunW) : List Value := r.t.cells
theorem run_part {r : RunW} {j : Nat} {u : Value} (hj : r.t.cells[j]? = some u) : r.cells[j]? = some u := by
  have h8 : j < 8 := (List.getElem?_eq_some_iff.1 hj).1
  obtain rfl | rfl | rfl | rfl | rfl | rfl | rfl | rfl : j = 0 ∨ j = 1 ∨ j = 2 ∨ j = 3 ∨ j = 4 ∨ j = 5 ∨ j = 6 ∨ j = 7 := by omega
  all_goals exact hj
/-- a run that left something of a key, or none -/
def HasLeft (k : ByteArray) (L : List RunW) (x : Int) : Prop := x = -1 ∨ ∃ i : Nat, ∃ r, x = (i : Nat) ∧ L[i]? = some r ∧ 0 ≤ leftP k r.t.ops.xs
section mc
variable {g : Nat} {y : Mc} {L : List RunW} {E S : Seg}
theorem RunsO.r16 (h : RunsO L y E S) {i : Nat} {r : RunW} (hi : L[i]? = some r) : r.t.ops.xs.length ≤ 16 ∧ r.at_.xs.length = r.t.ops.xs.length ∧ (∀ o ∈ r.t.ops.xs, o.Right) := h.small r (List.mem_of_getElem? hi)
theorem Seen_spec (k : ByteArray) (time : Int) (hn : L.length ≤ 4096) (h : RunsO L y E S) (w : World) (ho : Own w [mcB g y L.length, E, S]) :
    Calls Try.prog 61 #[.pointer (some ⟨g, 0, none⟩), .string k, .int .i64 time] w (Ret (β := Int) w (ids [mcB g y L.length, E, S]) (fun x => .int .i64 x) (fun _ => [mcB g y L.length, E, S]) (HasLeft k L)) := by
  refine go [.pointer (some ⟨g, 0, none⟩), .string k, .int .i64 time] [mcB g y L.length, E, S] Try.func61 Try.ntmps61 rfl rfl ho ?_
  repeat (first | (apply wx_val; (first | exact v_assign rfl); rfl) | refine wc_seq ?_ | refine wc_region ?_ | refine wx_nil ?_ | refine wq_next ?_ | refine wc_block ?_)
  refine wc_loopK (ι := Nat × Int) [0, 1, 2] (fun z => [(8, .int .i64 (z.1 : Nat)), (7, .int .i64 z.2)]) (fun z => []) (fun z => z.1 ≤ L.length ∧ HasLeft k L z.2) (fun z => L.length - z.1) ((0, -1)) rfl ?_ (by repeat (first | exact trivial | refine ⟨rfl, ?_⟩)) ?_
  · exact ⟨Nat.zero_le _, .inl rfl⟩
  rintro ⟨i, b⟩ ⟨h1, h2⟩
  try dsimp only
  refine wc_fcat ?_
  refine wc_cat ?_
  dsimp only at h1 h2
  repeat (first | (apply wx_val; (first | exact v_move rfl | exact v_nil rfl | exact v_faddr rfl rfl | exact v_ldT rfl rfl rfl (by rfl) | exact v_len rfl rfl | exact v_lt rfl rfl); rfl) | refine wc_seq ?_ | refine wc_region ?_ | refine wx_nil ?_ | refine wq_next ?_)
  refine wc_if rfl (fun hd => ?_) (fun hd => ?_)
  · obtain ⟨r, hs⟩ : ∃ s, L[i]? = some s := ⟨L[i], List.getElem?_eq_getElem (by omega)⟩
    obtain ⟨ga, hA⟩ := h.sp.ptr (by omega)
    have h16 := h.r16 hs
    repeat (first | (apply wx_val; (first | exact v_move rfl | exact v_nil rfl | exact v_faddr rfl rfl | exact v_ldT rfl rfl rfl (by rfl) | exact v_iaddrE (by assumption) rfl rfl rfl (by omega)); rfl) | refine wc_seq ?_ | refine wc_region ?_ | refine wq_next ?_ | refine wc_block ?_ | refine wc_skip ?_)
    (try refine wx_ungd rfl rfl ?_)
    apply wx_val
    exact v_loadA (cs := r.t.cells) rfl rfl (fun w' hr j u hj => h.sp.elemT (i := i) hA (by decide) (fun _ => rfl) hs hr (j := j) (run_part hj) (by omega))
    rfl
    skip
    refine wl_alloc rfl rfl (fun g9 => ?_)
    repeat (first | refine wc_seq ?_ | refine wx_nil ?_ | refine wq_next ?_ | refine wc_setn ?_ | refine wl_stAT rfl rfl (by rfl) (by rfl) (by exact .inl (Nat.le_refl _)) rfl ?_)
    refine wc_quiet rfl (by decide +kernel) ?_
    repeat (first | (apply wx_val; (first | exact v_move rfl | exact v_nil rfl | exact v_faddr rfl rfl | exact v_ldT rfl rfl rfl (by rfl) | exact v_iaddrE (by assumption) rfl rfl rfl (by omega)); rfl))
    (try refine wx_ungd rfl rfl ?_)
    apply wx_val
    exact v_load rfl rfl rfl (fun w' hr => h.sp.elemT (i := i) hA (by decide) (fun _ => rfl) hs hr (j := 8) rfl (by omega))
    rfl
    repeat (first | (apply wx_val; (first | exact v_move rfl | exact v_eq rfl rfl); rfl))
    refine wx_gif rfl rfl (fun q1 => ?_) (fun q1 => ?_)
    rotate_left
    · skip
      repeat (first | (apply wx_val; (first | exact v_move rfl | exact v_assign rfl | exact v_addi rfl rfl (by omega) | exact v_pickF rfl rfl); rfl) | refine wx_no rfl rfl rfl ?_ | refine wx_undef rfl rfl rfl ?_ | refine wc_region ?_ | refine wx_nil ?_ | refine wq_next ?_ | refine wc_skip ?_ | refine wq_block ?_ | refine wc_condF rfl ?_)
      refine wq_roundK ((i + 1, b)) ?_ ?_ (by repeat (first | exact trivial | refine ⟨rfl, ?_⟩)) (by first | exact catEq | exact rfl)
      · exact ⟨by dsimp only; omega, h2⟩
      · show L.length - (i + 1) < L.length - i
        omega
    repeat (first | (apply wx_val; (first | exact v_move rfl | exact v_faddr rfl rfl | exact v_ldT rfl rfl rfl (by rfl) | exact v_eq rfl rfl | exact v_pickT rfl rfl); rfl) | refine wx_ungd rfl rfl ?_)
    refine wx_gif rfl rfl (fun q2 => ?_) (fun q2 => ?_)
    rotate_left
    · skip
      repeat (first | (apply wx_val; (first | exact v_move rfl | exact v_assign rfl | exact v_addi rfl rfl (by omega) | exact v_pickF rfl rfl); rfl) | refine wx_no rfl rfl rfl ?_ | refine wx_undef rfl rfl rfl ?_ | refine wc_region ?_ | refine wx_nil ?_ | refine wq_next ?_ | refine wc_skip ?_ | refine wq_block ?_ | refine wc_condF rfl ?_)
      refine wq_roundK ((i + 1, b)) ?_ ?_ (by repeat (first | exact trivial | refine ⟨rfl, ?_⟩)) (by first | exact catEq | exact rfl)
      · exact ⟨by dsimp only; omega, h2⟩
      · show L.length - (i + 1) < L.length - i
        omega
    repeat (first | (apply wx_val; (first | exact v_move rfl | exact v_faddr rfl rfl | exact v_ldT rfl rfl rfl (by rfl) | exact v_le rfl rfl | exact v_pickT rfl rfl); rfl) | refine wx_ungd rfl rfl ?_)
    refine wx_gif rfl rfl (fun q3 => ?_) (fun q3 => ?_)
    rotate_left
    · skip
      repeat (first | (apply wx_val; (first | exact v_move rfl | exact v_assign rfl | exact v_addi rfl rfl (by omega) | exact v_pickF rfl rfl); rfl) | refine wx_no rfl rfl rfl ?_ | refine wx_undef rfl rfl rfl ?_ | refine wc_region ?_ | refine wx_nil ?_ | refine wq_next ?_ | refine wc_skip ?_ | refine wq_block ?_ | refine wc_condF rfl ?_)
      refine wq_roundK ((i + 1, b)) ?_ ?_ (by repeat (first | exact trivial | refine ⟨rfl, ?_⟩)) (by first | exact catEq | exact rfl)
      · exact ⟨by dsimp only; omega, h2⟩
      · show L.length - (i + 1) < L.length - i
        omega
    repeat (first | (apply wx_val; (first | exact v_move rfl | exact v_ldAT rfl (by rfl)); rfl) | refine wx_ungd rfl rfl ?_)
    (try refine wx_ungd rfl rfl ?_)
    refine wx_vcall (vc_pure' rfl rfl (fun w' hr => Left_spec r.t k (by omega) w' (h.hang.reads hr hs).1)) rfl ?_
    repeat (first | (apply wx_val; (first | exact v_move rfl | exact v_ge rfl rfl | exact v_pickT rfl rfl); rfl) | refine wx_ungd rfl rfl ?_)
    refine wx_gif rfl rfl (fun q4 => ?_) (fun q4 => ?_)
    rotate_left
    · skip
      repeat (first | (apply wx_val; (first | exact v_move rfl | exact v_assign rfl | exact v_addi rfl rfl (by omega) | exact v_pickF rfl rfl); rfl) | refine wx_no rfl rfl rfl ?_ | refine wx_undef rfl rfl rfl ?_ | refine wc_region ?_ | refine wx_nil ?_ | refine wq_next ?_ | refine wc_skip ?_ | refine wq_block ?_ | refine wc_condF rfl ?_)
      refine wq_roundK ((i + 1, b)) ?_ ?_ (by repeat (first | exact trivial | refine ⟨rfl, ?_⟩)) (by first | exact catEq | exact rfl)
      · exact ⟨by dsimp only; omega, h2⟩
      · show L.length - (i + 1) < L.length - i
        omega
    repeat (first | (apply wx_val; (first | exact v_move rfl | exact v_lt rfl rfl); rfl) | refine wx_ungd rfl rfl ?_)
    refine wx_gif rfl rfl (fun q5 => ?_) (fun q5 => ?_)
    · skip
      repeat (first | (apply wx_val; (first | exact v_move rfl | exact v_assign rfl | exact v_addi rfl rfl (by omega) | exact v_pickT rfl rfl); rfl) | refine wx_no rfl rfl rfl ?_ | refine wx_ungd rfl rfl ?_ | refine wc_region ?_ | refine wx_nil ?_ | refine wq_next ?_ | refine wq_block ?_ | refine wc_condT rfl ?_)
      refine wq_roundK ((i + 1, (i : Nat))) ?_ ?_ (by repeat (first | exact trivial | refine ⟨rfl, ?_⟩)) (by first | exact catEq | exact rfl)
      · exact ⟨by dsimp only; omega, .inr ⟨i, r, rfl, hs, by simpa using q4⟩⟩
      · show L.length - (i + 1) < L.length - i
        omega
    rcases h2 with h2 | ⟨j, r2, rfl, hs2, h22⟩
    · omega
    have hjl := (List.getElem?_eq_some_iff.1 hs2).1
    repeat (first | (apply wx_val; (first | exact v_move rfl | exact v_nil rfl | exact v_faddr rfl rfl | exact v_ldT rfl rfl rfl (by rfl) | exact v_iaddrE (by assumption) rfl rfl rfl (by omega)); rfl) | refine wx_ungd rfl rfl ?_)
    (try refine wx_ungd rfl rfl ?_)
    apply wx_val
    exact v_load rfl rfl rfl (fun w' hr => h.sp.elemT (i := j) hA (by decide) (fun _ => rfl) hs2 hr (j := 3) rfl (by omega))
    rfl
    repeat (first | (apply wx_val; (first | exact v_gt rfl rfl | exact v_pickT rfl rfl | exact v_pickF rfl rfl); rfl) | refine wx_ungd rfl rfl ?_ | refine wx_nil ?_ | refine wq_next ?_)
    refine wc_if rfl (fun q6 => ?_) (fun q6 => ?_)
    · skip
      repeat (first | (apply wx_val; (first | exact v_move rfl | exact v_assign rfl | exact v_addi rfl rfl (by omega)); rfl) | refine wc_region ?_ | refine wx_nil ?_ | refine wq_next ?_ | refine wq_block ?_)
      refine wq_roundK ((i + 1, (i : Nat))) ?_ ?_ (by repeat (first | exact trivial | refine ⟨rfl, ?_⟩)) (by first | exact catEq | exact rfl)
      · exact ⟨by dsimp only; omega, .inr ⟨i, r, rfl, hs, by simpa using q4⟩⟩
      · show L.length - (i + 1) < L.length - i
        omega
    · skip
      repeat (first | (apply wx_val; (first | exact v_move rfl | exact v_assign rfl | exact v_addi rfl rfl (by omega)); rfl) | refine wc_region ?_ | refine wx_nil ?_ | refine wq_next ?_ | refine wc_skip ?_ | refine wq_block ?_)
      refine wq_roundK ((i + 1, (j : Nat))) ?_ ?_ (by repeat (first | exact trivial | refine ⟨rfl, ?_⟩)) (by first | exact catEq | exact rfl)
      · exact ⟨by dsimp only; omega, .inr ⟨j, r2, rfl, hs2, h22⟩⟩
      · show L.length - (i + 1) < L.length - i
        omega
  · have : i = L.length := by omega
    subst this
    repeat (first | (apply wx_val; (first | exact v_move rfl | exact v_assign rfl); rfl) | refine wc_seq ?_ | refine wc_region ?_ | refine wx_nil ?_ | refine wq_next ?_ | refine wc_ret ?_ | refine wc_exit ?_ | refine wq_then_exit ?_ | refine wq_block_exit rfl ?_)
    exact wq_ret1T b rfl rfl h2 rfl
/-- a value that a read may tell -/
def VOk (x : ByteArray × Bool) : Prop := x.1.size ≤ 16 ∧ (x.2 = true ∨ x.1.size = 0)
theorem leftP_get {k : ByteArray} {l : List OpW} (h : 0 ≤ leftP k l) : ∃ (j : Nat) (o : OpW), leftP k l = (j : Nat) ∧ l[j]? = some o := by
  obtain ⟨j, hj⟩ := Int.eq_ofNat_of_zero_le h
  have := (leftN_range k l l.length).2
  have hl : j < l.length := by
    unfold leftP at hj
    omega
  exact ⟨j, l[j], hj, List.getElem?_eq_getElem hl⟩
theorem right_val {o : OpW} (h : o.Right) : VOk (o.value, o.found) := by
  unfold OpW.Right at h
  exact ⟨h.2.2.1, by rcases h.2.2.2 with h | h | h; exact h.2; exact .inl h.2; exact .inr h.2.2⟩
theorem held_spec (k : ByteArray) {x : Int} (hn : L.length ≤ 4096) (h : RunsO L y E S) (hx : HasLeft k L x) (w : World) (ho : Own w [mcB g y L.length, E, S]) :
    Calls Try.prog 63 #[.pointer (some ⟨g, 0, none⟩), .int .i64 x, .string k] w (Ret (β := ByteArray × Bool) w (ids [mcB g y L.length, E, S]) (fun q => .tuple #[.string q.1, .bool q.2]) (fun _ => [mcB g y L.length, E, S]) VOk) := by
  refine go [.pointer (some ⟨g, 0, none⟩), .int .i64 x, .string k] [mcB g y L.length, E, S] Try.func63 Try.ntmps63 rfl rfl ho ?_
  rcases hx with rfl | ⟨i, r, rfl, hs, h2⟩
  · skip
    repeat (first | (apply wx_val; (first | exact v_move rfl | exact v_assign rfl | exact v_lt rfl rfl); rfl) | refine wc_seq ?_ | refine wc_region ?_ | refine wx_nil ?_ | refine wq_next ?_ | refine wc_ret ?_ | refine wq_then_ret ?_ | refine wc_condT rfl ?_)
    exact wq_ret2T (ByteArray.mk #[], false) rfl rfl rfl rfl ⟨by decide, .inr rfl⟩ rfl
  obtain ⟨ga, hA⟩ := h.sp.ptr (by have := (List.getElem?_eq_some_iff.1 hs).1; omega)
  have hil : i < L.length := (List.getElem?_eq_some_iff.1 hs).1
  have h16 := h.r16 hs
  obtain ⟨j, o, hj, ho2⟩ := leftP_get h2
  have hor := right_val (h16.2.2 o (List.mem_of_getElem? ho2))
  obtain ⟨S1, E1, E2, S2, eS, hb1, _, _, _⟩ := h.hang.find hs
  have hjl := (List.getElem?_eq_some_iff.1 ho2).1
  obtain ⟨gb, hB⟩ := hb1.ptr (by omega)
  have hin : ∀ p ∈ E1, p ∈ S := fun p hp => by rw [eS]; simp [hp]
  have leftJ := fun w' hv => Left_spec r.t k (by omega) w' hv
  rw [hj] at leftJ
  repeat (first | (apply wx_val; (first | exact v_move rfl | exact v_assign rfl | exact v_lt rfl rfl); rfl) | refine wc_seq ?_ | refine wc_region ?_ | refine wx_nil ?_ | refine wq_next ?_ | refine wc_skip ?_ | refine wc_condF rfl ?_)
  refine wc_heldX [] [mcB g y L.length, E, S] rfl (by (repeat (first | exact panicNot_D3 rfl | with_reducible exact panicNot_of panicOk_body | with_reducible apply panicNot_block | with_reducible apply panicNot_then))) (fun hQd => ?_)
  (apply wh_takeX 0; (first | exact fun _ h => h | exact fun _ h => res_takes h); exact hQd; rfl; rfl; exact v_move rfl; decide +kernel; decide +kernel; decide +kernel; rfl)
  (apply wh_takeX 1; (first | exact fun _ h => h | exact fun _ h => res_takes h); exact hQd; rfl; rfl; exact v_nil rfl; decide +kernel; decide +kernel; decide +kernel; rfl)
  (apply wh_takeX 2; (first | exact fun _ h => h | exact fun _ h => res_takes h); exact hQd; rfl; rfl; exact v_faddr rfl rfl; decide +kernel; decide +kernel; decide +kernel; rfl)
  (apply wh_takeX 3; (first | exact fun _ h => h); exact hQd; rfl; rfl; (first | exact v_ldT rfl rfl rfl (by rfl)); decide +kernel; decide +kernel; decide +kernel; rfl)
  (apply wh_takeX 4; (first | exact fun _ h => h | exact fun _ h => res_takes h); exact hQd; rfl; rfl; exact v_move rfl; decide +kernel; decide +kernel; decide +kernel; rfl)
  (apply wh_takeX 5; (first | exact fun _ h => h); exact hQd; rfl; rfl; (first | exact v_iaddrE (by assumption) rfl rfl rfl (by omega)); decide +kernel; decide +kernel; decide +kernel; rfl)
  (apply wh_takeX 6; (first | exact fun _ h => h | exact fun _ h => res_takes h); exact hQd; rfl; rfl; exact v_faddr rfl rfl; decide +kernel; decide +kernel; decide +kernel; rfl)
  (apply wh_takeX 7; (first | exact fun _ h => h | exact fun _ h => res_takes h); exact hQd; rfl; rfl; exact v_faddr rfl rfl; decide +kernel; decide +kernel; decide +kernel; rfl)
  (apply wh_takeX 8; (first | exact fun _ h => h); exact hQd; rfl; rfl; (exact v_load rfl rfl rfl (fun w' hr => h.sp.elemT (i := i) hA (by decide) (fun _ => rfl) hs hr (j := 7) rfl (by omega))); decide +kernel; decide +kernel; decide +kernel; rfl)
  (apply wh_takeX 9; (first | exact fun _ h => h | exact fun _ h => res_takes h); exact hQd; rfl; rfl; exact v_move rfl; decide +kernel; decide +kernel; decide +kernel; rfl)
  (apply wh_takeX 10; (first | exact fun _ h => h | exact fun _ h => res_takes h); exact hQd; rfl; rfl; exact v_nil rfl; decide +kernel; decide +kernel; decide +kernel; rfl)
  (apply wh_takeX 11; (first | exact fun _ h => h | exact fun _ h => res_takes h); exact hQd; rfl; rfl; exact v_faddr rfl rfl; decide +kernel; decide +kernel; decide +kernel; rfl)
  (apply wh_takeX 12; (first | exact fun _ h => h); exact hQd; rfl; rfl; (first | exact v_ldT rfl rfl rfl (by rfl)); decide +kernel; decide +kernel; decide +kernel; rfl)
  (apply wh_takeX 13; (first | exact fun _ h => h | exact fun _ h => res_takes h); exact hQd; rfl; rfl; exact v_move rfl; decide +kernel; decide +kernel; decide +kernel; rfl)
  (apply wh_takeX 14; (first | exact fun _ h => h); exact hQd; rfl; rfl; (first | exact v_iaddrE (by assumption) rfl rfl rfl (by omega)); decide +kernel; decide +kernel; decide +kernel; rfl)
  (apply wh_takeX 15; (first | exact fun _ h => h | exact fun _ h => res_takes h); exact hQd; rfl; rfl; exact v_faddr rfl rfl; decide +kernel; decide +kernel; decide +kernel; rfl)
  (apply wh_takeX 16; (first | exact fun _ h => h); exact hQd; rfl; rfl; (exact v_loadA (cs := r.t.cells) rfl rfl (fun w' hr j u hj => h.sp.elemT (i := i) hA (by decide) (fun _ => rfl) hs hr (j := j) (run_part hj) (by omega))); decide +kernel; decide +kernel; decide +kernel; rfl)
  (apply wh_takeX 17; (first | exact fun _ h => h | exact fun _ h => res_takes h); exact hQd; rfl; rfl; exact v_move rfl; decide +kernel; decide +kernel; decide +kernel; rfl)
  refine wh_eff2 18 21 rfl rfl (by decide +kernel) ?_ ?_
  · skip
    (try refine wx_ungd rfl rfl ?_)
    refine wx_vcall (vc_pure' rfl rfl (fun w' hr => leftJ w' (h.hang.reads hr hs).1)) rfl ?_
    (try refine wx_nil ?_)
    refine wq_held (by (first | exact fun _ h => h | exact fun _ h => res_takes h)) ?_
    (apply wh_takeX 19; (first | exact fun _ h => h | exact fun _ h => res_takes h); exact hQd; rfl; rfl; (exact v_iaddrE hB rfl rfl rfl (by omega)); decide +kernel; decide +kernel; decide +kernel; rfl)
    (apply wh_takeX 20; (first | exact fun _ h => h); exact hQd; rfl; rfl; (exact v_loadA (cs := o.cells) rfl rfl (fun w' hr p u hp => cellM (f := OpW.cells) (k := 4) (fun _ => rfl) (by decide) hb1 hin hB hr ho2 hp (by omega))); decide +kernel; decide +kernel; decide +kernel; rfl)
    refine wh_eff 21 rfl (by decide +kernel) ?_
    refine wl_alloc rfl rfl (fun g8 => ?_)
    (try refine wx_nil ?_)
    refine wq_held (by (first | exact fun _ h => h | exact fun _ h => res_takes h)) ?_
    refine wh_eff 22 rfl (by decide +kernel) ?_
    repeat (first | refine wx_nil ?_ | refine wq_setn ?_ | refine wl_stAT rfl rfl (by rfl) (by rfl) (by exact .inl (Nat.le_refl _)) rfl ?_)
    (try refine wx_nil ?_)
    refine wq_held (by (first | exact fun _ h => h | exact fun _ h => res_takes h)) ?_
    refine wh_done (by decide +kernel) ?_
    repeat (first | (apply wx_val; (first | exact v_assign rfl | exact v_faddr rfl rfl | exact v_ldT rfl rfl rfl (by rfl)); rfl) | refine wc_seq ?_ | refine wx_nil ?_ | refine wq_next ?_ | refine wc_ret ?_ | refine wc_reads rfl (by decide +kernel) ?_)
    exact wq_ret2T (o.value, o.found) rfl rfl rfl rfl hor rfl
  · refine wl_alloc rfl rfl (fun g8 => ?_)
    (try refine wx_nil ?_)
    refine wq_held (by (first | exact fun _ h => h | exact fun _ h => res_takes h)) ?_
    refine wh_eff 18 rfl (by decide +kernel) ?_
    skip
    (try refine wx_ungd rfl rfl ?_)
    refine wx_vcall (vc_pure' rfl rfl (fun w' hr => leftJ w' (h.hang.reads hr hs).1)) rfl ?_
    (try refine wx_nil ?_)
    refine wq_held (by (first | exact fun _ h => h | exact fun _ h => res_takes h)) ?_
    (apply wh_takeX 19; (first | exact fun _ h => h | exact fun _ h => res_takes h); exact hQd; rfl; rfl; (exact v_iaddrE hB rfl rfl rfl (by omega)); decide +kernel; decide +kernel; decide +kernel; rfl)
    (apply wh_takeX 20; (first | exact fun _ h => res_takes h); exact hQd; rfl; rfl; (exact v_loadA (cs := o.cells) rfl rfl (fun w' hr p u hp => cellM (f := OpW.cells) (k := 4) (fun _ => rfl) (by decide) hb1 hin hB hr ho2 hp (by omega))); decide +kernel; decide +kernel; decide +kernel; rfl)
    refine wh_eff 22 rfl (by decide +kernel) ?_
    repeat (first | refine wx_nil ?_ | refine wq_setn ?_ | refine wl_stAT rfl rfl (by rfl) (by rfl) (by exact .inl (Nat.le_refl _)) rfl ?_)
    (try refine wx_nil ?_)
    refine wq_held (by (first | exact fun _ h => h | exact fun _ h => res_takes h)) ?_
    refine wh_done (by decide +kernel) ?_
    repeat (first | (apply wx_val; (first | exact v_assign rfl | exact v_faddr rfl rfl | exact v_ldT rfl rfl rfl (by rfl)); rfl) | refine wc_seq ?_ | refine wx_nil ?_ | refine wq_next ?_ | refine wc_ret ?_ | refine wc_reads rfl (by decide +kernel) ?_)
    exact wq_ret2T (o.value, o.found) rfl rfl rfl rfl hor rfl
end mc
end Go.Proofs.Ytgidabcmbngcbaa
