/- Heights stay within an AVL tree's bounds. -/
import Derived.Test.YtjeghbachokljaaSpV
set_option linter.unusedVariables false
set_option linter.unusedSimpArgs false
namespace Go.Proofs.Ytjeghbachokljaa
open Go
set_option maxRecDepth 20000
set_option maxHeartbeats 2000000
attribute [local irreducible] WX WC WQ Val VCall WY WR
def kK : ByteArray := ByteArray.mk #[107]
def sp1 (j : Nat) : Sp := ⟨(j : Nat), (j : Nat) + 1, 0⟩
def bC (b : Bool) : List Value := [.bool b]
structure HIn (n : Nat) (H : List Bool) (A : Ks) : Prop where
  len : H.length = n
  mem : ∀ e, e ∈ A ↔ ∃ j, H[j]? = some true ∧ e = (kK, sp1 j)
theorem sp1_inj {i j : Nat} (h : sp1 i = sp1 j) : i = j := by
  have := congrArg Sp.a h
  simp only [sp1] at this
  omega
theorem HIn.has {n : Nat} {H : List Bool} {A : Ks} (h : HIn n H A) {j : Nat} {b : Bool} (hb : H[j]? = some b) : hasA (kK, sp1 j) A = b := by
  cases b with
  | true => exact hasA_iff.2 ((h.mem _).2 ⟨j, hb, rfl⟩)
  | false =>
    refine hasA_no.2 fun hm => ?_
    obtain ⟨i, h1, h2⟩ := (h.mem _).1 hm
    have := sp1_inj (congrArg Prod.snd h2)
    subst this
    rw [hb] at h1
    cases h1
theorem HIn.ins {n : Nat} {H : List Bool} {A : Ks} (h : HIn n H A) {j : Nat} (hj : j < n) : HIn n (H.set j true) (insAll (kK, sp1 j) A) := by
  refine ⟨by rw [List.length_set]; exact h.len, fun e => ?_⟩
  rw [(insAll_perm _ A).mem_iff, List.mem_cons, h.mem]
  have hl := h.len
  constructor
  · rintro (rfl | ⟨i, h1, rfl⟩)
    · exact ⟨j, by simp [List.getElem?_set, hl, hj], rfl⟩
    · refine ⟨i, ?_, rfl⟩
      by_cases e : j = i
      · subst e; simp [List.getElem?_set, hl, hj]
      · rw [List.getElem?_set_ne e]; exact h1
  · rintro ⟨i, h1, rfl⟩
    by_cases e : j = i
    · subst e; exact .inl rfl
    · rw [List.getElem?_set_ne e] at h1
      exact .inr ⟨i, h1, rfl⟩
theorem HIn.del {n : Nat} {H : List Bool} {A : Ks} (h : HIn n H A) {j : Nat} (hj : j < n) : HIn n (H.set j false) (delAll (kK, sp1 j) A) := by
  refine ⟨by rw [List.length_set]; exact h.len, fun e => ?_⟩
  have hl := h.len
  unfold delAll
  rw [List.mem_filter, h.mem]
  constructor
  · rintro ⟨⟨i, h1, rfl⟩, h2⟩
    have hne : j ≠ i := fun e => by subst e; simp at h2
    exact ⟨i, by rw [List.getElem?_set_ne hne]; exact h1, rfl⟩
  · rintro ⟨i, h1, rfl⟩
    by_cases e : j = i
    · subst e
      rw [List.getElem?_set_self (by omega)] at h1
      cases h1
    · rw [List.getElem?_set_ne e] at h1
      exact ⟨⟨i, h1, rfl⟩, by simpa using fun h2 => e (sp1_inj h2).symm⟩
theorem HIn.all {n : Nat} {H : List Bool} {A : Ks} (h : HIn n H A) : A.length = (ofK kK A).length := by
  unfold ofK
  rw [List.length_map, List.filter_eq_self.2]
  intro e he
  obtain ⟨j, _, rfl⟩ := (h.mem e).1 he
  simp
theorem code_sp1 {j : Nat} (hj : j < 800) (b : Bool) : insCode kK (sp1 j) b = if b then 141 else 0 := by
  unfold insCode
  rw [if_neg (by decide), if_neg]
  unfold rightS sp1
  rw [decide_eq_true (by dsimp only; omega)]
  decide
theorem insN_sp1 {j : Nat} (hj : j < 800) {A : Ks} {b : Bool} (hb : hasA (kK, sp1 j) A = b) : insN kK (sp1 j) A = if b then A else insAll (kK, sp1 j) A := by
  unfold insN
  rw [hb, code_sp1 hj]
  cases b <;> rfl
theorem rep_bC (n : Nat) : (List.replicate n false).flatMap bC = List.replicate n (Value.bool false) := by
  induction n with
  | zero => rfl
  | succ n ih => rw [List.replicate_succ, List.replicate_succ, List.flatMap_cons, ih]; rfl
theorem HeightS_law (n0 s0 : Int) {A : Option Addr} {c : Nat} {l : List Int} (hl : l.length ≤ 1048576) (w : World) (hv : Vw [] w A (l.flatMap (fun n => [Value.int .i64 n]))) :
    Calls Try.prog 4 #[.int .i64 n0, .int .i64 s0, .slice A l.length c] w (Holds w) := by
  refine go [.int .i64 n0, .int .i64 s0, .slice A l.length c] [] Try.func4 Try.ntmps4 rfl rfl (own_nil w) ?_
  by_cases hg : n0 < 1 ∨ 800 < n0 ∨ s0 < 1 ∨ 800 < s0
  · skip
    repeat' (first | (apply wx_val; (first | exact v_move rfl | exact v_assign rfl | exact v_lt rfl rfl | exact v_gt rfl rfl | exact v_not rfl | exact v_pickT rfl rfl | exact v_pickF rfl rfl); rfl) | refine wx_no rfl rfl rfl ?_ | refine wx_ungd rfl rfl ?_ | refine wc_seq ?_ | refine wc_region ?_ | refine wx_nil ?_ | refine wq_next ?_ | refine wc_ret ?_ | refine wc_skip ?_ | refine wq_then_ret ?_ | refine wc_condT rfl ?_ | refine wc_condF rfl ?_ | (apply wx_vcall; exact vc_pure rfl rfl (fun w' => anchor_spec w'); rfl) | refine wc_if rfl (fun _ => ?_) (fun _ => ?_) | refine wx_gif rfl rfl (fun _ => ?_) (fun _ => ?_))
    all_goals first
      | exact wq_clear (wq_ret1 () rfl rfl trivial rfl)
      | (exfalso; omega)
  obtain ⟨n, rfl⟩ := Int.eq_ofNat_of_zero_le (show 0 ≤ n0 by omega)
  obtain ⟨st, rfl⟩ := Int.eq_ofNat_of_zero_le (show 0 ≤ s0 by omega)
  have hn : 1 ≤ n ∧ n ≤ 800 := by omega
  have hs : 1 ≤ st ∧ st ≤ 800 := by omega
  clear hg
  repeat (first | (apply wx_val; (first | exact v_move rfl | exact v_assign rfl | exact v_lt rfl rfl | exact v_not rfl); rfl) | refine wc_seq ?_ | refine wc_region ?_ | refine wx_nil ?_ | refine wq_next ?_ | refine wc_skip ?_ | refine wc_condF rfl ?_ | (apply wx_vcall; exact vc_pure rfl rfl (fun w' => anchor_spec w'); rfl))
  refine wx_gset false rfl rfl (decide_eq_false (by omega)) ?_
  repeat (first | (apply wx_val; (first | exact v_move rfl | exact v_gt rfl rfl | exact v_pickF rfl rfl); rfl) | refine wx_ungd rfl rfl ?_)
  refine wx_gset false rfl rfl (decide_eq_false (by omega)) ?_
  repeat (first | (apply wx_val; (first | exact v_move rfl | exact v_lt rfl rfl | exact v_pickF rfl rfl); rfl) | refine wx_ungd rfl rfl ?_)
  refine wx_gset false rfl rfl (decide_eq_false (by omega)) ?_
  repeat (first | (apply wx_val; (first | exact v_move rfl | exact v_gt rfl rfl | exact v_pickF rfl rfl); rfl) | refine wx_ungd rfl rfl ?_ | refine wx_nil ?_ | refine wq_next ?_)
  refine wc_not rfl (decide_eq_false (by omega)) ?_
  repeat (first | refine wc_seq ?_ | refine wc_region ?_ | refine wq_next ?_ | refine wc_skip ?_)
  refine wl_callT (M1 := []) (fun w' hr ho => New_law w') rfl rfl rfl ?_
  rintro ⟨g, q⟩ hq
  dsimp only at hq ⊢
  repeat (first | (apply wx_val; (first | exact v_move rfl | exact v_assign rfl | exact v_eqnil rfl rfl rfl); rfl) | refine wc_seq ?_ | refine wc_region ?_ | refine wx_nil ?_ | refine wq_next ?_ | refine wc_skip ?_ | refine wc_cat ?_ | refine wc_condF rfl ?_)
  refine wl_make rfl rfl rfl rfl (by omega) (by omega) (by omega) rfl (fun g8 => ?_)
  rw [madeCells_one rfl]
  simp only [Int.toNat_natCast, Nat.mul_one]
  have hb0 : Buf 4 1 (some ⟨g8, 0, none⟩) n n ((List.replicate n false).flatMap bC) [(g8, .cells (List.replicate n (Value.bool false)).toArray 4 (0, 0))] := by
    rw [rep_bC]
    exact Buf.full (List.replicate n (Value.bool false)) (by simp) (by simp only [maxLen]; omega)
  generalize ([(g8, .cells (List.replicate n (Value.bool false)).toArray 4 (0, 0))] : Seg) = E0 at *
  have hi0 : HIn n (List.replicate n false) [] := ⟨by simp, fun e => ⟨fun h => (by cases h), fun ⟨j, h1, _⟩ => by
    have := List.mem_of_getElem? h1
    have := (List.mem_replicate.1 this).2
    cases this⟩⟩
  repeat (first | (apply wx_val; (first | exact v_assign rfl); rfl) | refine wc_seq ?_ | refine wc_region ?_ | refine wx_nil ?_ | refine wq_next ?_ | refine wc_block ?_)
  refine wc_loopK (ι := Nat × List Bool × Ks × Fo × Seg) [0, 1, 2, 7, 8] (fun z => [(9, .int .i64 (z.2.2.1.length : Nat)), (10, .int .i64 (z.1 : Nat))]) (fun z => [z.2.2.2.1.seg g z.2.2.1.length, z.2.2.2.2]) (fun z => z.1 ≤ n ∧ FoOk z.1 z.2.2.1 z.2.2.2.1 ∧ HIn n z.2.1 z.2.2.1 ∧ Buf 4 1 (some ⟨g8, 0, none⟩) n n (z.2.1.flatMap bC) z.2.2.2.2) (fun z => n - z.1) ((0, List.replicate n false, [], q, E0)) rfl ?_ (by repeat (first | exact trivial | refine ⟨rfl, ?_⟩)) ?_
  · exact ⟨by omega, hq, hi0, hb0⟩
  rintro ⟨i, H, A, q, E⟩ ⟨h1, h2, h3, h4⟩
  try dsimp only
  refine wc_fcat ?_
  refine wc_cat ?_
  dsimp only at h1 h2 h3 h4
  repeat (first | (apply wx_val; (first | exact v_move rfl | exact v_lt rfl rfl); rfl) | refine wc_seq ?_ | refine wc_region ?_ | refine wx_nil ?_ | refine wq_next ?_)
  refine wc_if rfl (fun hd => ?_) (fun hd => ?_)
  · have hm : i * st ≤ 640000 := Nat.le_trans (Nat.mul_le_mul (show i ≤ 800 by omega) hs.2) (by decide)
    have hat := Nat.mod_lt (i * st) (show 0 < n by omega)
    have hx : (i : Int) * (st : Int) % (n : Int) = ((i * st % n : Nat) : Int) := by simp
    have hx2 : 0 ≤ (i : Int) * (st : Int) % (n : Int) ∧ (i : Int) * (st : Int) % (n : Int) < 800 := by rw [hx]; omega
    repeat (first | (apply wx_val; (first | exact v_move rfl | exact v_assign rfl | exact v_addi rfl rfl (by omega) | exact v_remi rfl rfl (by omega) | exact v_muli rfl rfl (by omega)); rfl) | refine wc_seq ?_ | refine wc_region ?_ | refine wx_nil ?_ | refine wq_next ?_ | refine wc_block ?_ | refine wc_skip ?_)
    rw [hx]
    clear hx2 hx
    generalize i * st % n = j at *
    (try refine wx_ungd rfl rfl ?_)
    apply wx_val
    exact v_build (cs := ((Sp.cells (sp1 j))).toArray) rfl (by kernel_rfl)
    rfl
    skip
    refine wl_alloc rfl rfl (fun g12 => ?_)
    repeat (first | (apply wx_val; (first | exact v_move rfl | (first | exact v_ldQ 0 0 rfl rfl rfl rfl rfl)); rfl) | refine wc_seq ?_ | refine wc_region ?_ | refine wx_nil ?_ | refine wq_next ?_ | refine wx_setn ?_ | refine wl_stAT rfl rfl (by rfl) (by rfl) (by exact .inl (Nat.le_refl _)) rfl ?_)
    have hlt : j < H.length := by have := h3.len; omega
    obtain ⟨b, hb⟩ : ∃ b, H[j]? = some b := ⟨H[j], List.getElem?_eq_getElem hlt⟩
    have hj8 : j < 800 := by omega
    have c1 := fun w' ho => Insert_law (g := g) kK (sp1 j) h2 (by omega) w' ho
    rw [insN_sp1 hj8 (h3.has hb), h3.has hb, code_sp1 hj8] at c1
    cases b with
    | true =>
      simp only [if_true] at c1
      refine wl_callT (fun w' hr ho => c1 w' ho) rfl rfl rfl ?_
      intro q2 h5
      refine wx_cat ?_
      repeat (first | (apply wx_val; (first | exact v_move rfl | exact v_assign rfl | exact v_eq rfl rfl | exact v_iaddr rfl rfl rfl (by omega)); rfl) | refine wc_seq ?_ | refine wc_region ?_ | refine wx_nil ?_ | refine wq_next ?_)
      (try refine wx_ungd rfl rfl ?_)
      apply wx_val
      exact v_load rfl rfl rfl (fun w' hr => h4.elemT (i := j) rfl (by decide) (fun _ => rfl) hb hr (j := 0) rfl (by rw [Int.toNat_natCast, Nat.add_zero]))
      rfl
      repeat (first | (apply wx_val; (first | exact v_move rfl | exact v_eq rfl rfl | exact v_iaddr rfl rfl rfl (by omega) | exact v_beq rfl rfl rfl); rfl) | refine wx_ungd rfl rfl ?_)
      (try refine wx_ungd rfl rfl ?_)
      apply wx_val
      exact v_load rfl rfl rfl (fun w' hr => h4.elemT (i := j) rfl (by decide) (fun _ => rfl) hb hr (j := 0) rfl (by rw [Int.toNat_natCast, Nat.add_zero]))
      rfl
      repeat (first | (apply wx_val; (first | exact v_move rfl | exact v_pickF rfl rfl | exact v_iaddr rfl rfl rfl (by omega) | exact v_bne rfl rfl rfl); rfl) | refine wx_ungd rfl rfl ?_ | refine wc_seq ?_ | refine wc_region ?_ | refine wx_nil ?_ | refine wq_next ?_ | refine wc_skip ?_ | refine wc_condF rfl ?_)
      (try refine wx_ungd rfl rfl ?_)
      apply wx_val
      exact v_load rfl rfl rfl (fun w' hr => h4.elemT (i := j) rfl (by decide) (fun _ => rfl) hb hr (j := 0) rfl (by rw [Int.toNat_natCast, Nat.add_zero]))
      rfl
      repeat (first | (apply wx_val; (first | exact v_move rfl | exact v_not rfl); rfl) | refine wc_seq ?_ | refine wc_region ?_ | refine wx_nil ?_ | refine wq_next ?_ | refine wc_skip ?_ | refine wc_condF rfl ?_)
      (try refine wx_ungd rfl rfl ?_)
      refine wx_vcall (vc_callT (fun w' hr ho => (Height_law (g := g) kK h5) w' ho) rfl rfl) rfl ?_
      skip
      (try refine wx_ungd rfl rfl ?_)
      refine wx_vcall (vc_pure' rfl rfl (fun w' hr => High_law h5 kK (by omega) h3.all w')) rfl ?_
      repeat (first | (apply wx_val; (first | exact v_move rfl | exact v_assign rfl | exact v_addi rfl rfl (by omega) | exact v_not rfl); rfl) | refine wc_region ?_ | refine wx_nil ?_ | refine wq_next ?_ | refine wc_skip ?_ | refine wq_block ?_ | refine wc_condF rfl ?_)
      refine wq_roundK ((i + 1, H, A, q2, E)) ?_ ?_ (by repeat (first | exact trivial | refine ⟨rfl, ?_⟩)) (by first | exact catEq | exact rfl)
      · exact ⟨by dsimp only; omega, h5, h3, h4⟩
      · show n - (i + 1) < n - i
        omega
    | false =>
      simp only [Bool.false_eq_true, if_false] at c1
      refine wl_callT (fun w' hr ho => c1 w' ho) rfl rfl rfl ?_
      intro q2 h5
      refine wx_cat ?_
      repeat (first | (apply wx_val; (first | exact v_move rfl | exact v_assign rfl | exact v_eq rfl rfl | exact v_iaddr rfl rfl rfl (by omega)); rfl) | refine wc_seq ?_ | refine wc_region ?_ | refine wx_nil ?_ | refine wq_next ?_)
      (try refine wx_ungd rfl rfl ?_)
      apply wx_val
      exact v_load rfl rfl rfl (fun w' hr => h4.elemT (i := j) rfl (by decide) (fun _ => rfl) hb hr (j := 0) rfl (by rw [Int.toNat_natCast, Nat.add_zero]))
      rfl
      repeat (first | (apply wx_val; (first | exact v_move rfl | exact v_eq rfl rfl | exact v_iaddr rfl rfl rfl (by omega) | exact v_beq rfl rfl rfl); rfl) | refine wx_ungd rfl rfl ?_)
      (try refine wx_ungd rfl rfl ?_)
      apply wx_val
      exact v_load rfl rfl rfl (fun w' hr => h4.elemT (i := j) rfl (by decide) (fun _ => rfl) hb hr (j := 0) rfl (by rw [Int.toNat_natCast, Nat.add_zero]))
      rfl
      repeat (first | (apply wx_val; (first | exact v_move rfl | exact v_pickF rfl rfl | exact v_iaddr rfl rfl rfl (by omega) | exact v_bne rfl rfl rfl); rfl) | refine wx_ungd rfl rfl ?_ | refine wc_seq ?_ | refine wc_region ?_ | refine wx_nil ?_ | refine wq_next ?_ | refine wc_skip ?_ | refine wc_condF rfl ?_)
      (try refine wx_ungd rfl rfl ?_)
      apply wx_val
      exact v_load rfl rfl rfl (fun w' hr => h4.elemT (i := j) rfl (by decide) (fun _ => rfl) hb hr (j := 0) rfl (by rw [Int.toNat_natCast, Nat.add_zero]))
      rfl
      repeat (first | (apply wx_val; (first | exact v_move rfl | exact v_not rfl | exact v_iaddr rfl rfl rfl (by omega)); rfl) | refine wc_seq ?_ | refine wc_region ?_ | refine wx_nil ?_ | refine wq_next ?_ | refine wc_condT rfl ?_)
      refine wl_setFT j 0 (f := bC) (k := 1) false true (fun _ => rfl) (by decide) rfl h4 rfl rfl (by rw [Int.toNat_natCast]; omega) hb h3.len.symm rfl rfl rfl (fun E3 hb3 => ?_)
      have h6 := h3.ins hat
      have hlen := insAll_len (kK, sp1 j) A
      have hls := h2.lens.1
      repeat (first | (apply wx_val; (first | exact v_move rfl | exact v_assign rfl | exact v_addi rfl rfl (by omega)); rfl) | refine wc_seq ?_ | refine wc_region ?_ | refine wx_nil ?_ | refine wq_next ?_)
      (try refine wx_ungd rfl rfl ?_)
      refine wx_vcall (vc_callT (fun w' hr ho => (Height_law (g := g) kK h5) w' ho) rfl rfl) rfl ?_
      skip
      rw [show ((A.length : Nat) : Int) + 1 = ((insAll (kK, sp1 j) A).length : Nat) by omega]
      (try refine wx_ungd rfl rfl ?_)
      refine wx_vcall (vc_pure' rfl rfl (fun w' hr => High_law h5 kK (by omega) h6.all w')) rfl ?_
      repeat (first | (apply wx_val; (first | exact v_move rfl | exact v_assign rfl | exact v_addi rfl rfl (by omega) | exact v_not rfl); rfl) | refine wc_region ?_ | refine wx_nil ?_ | refine wq_next ?_ | refine wc_skip ?_ | refine wq_block ?_ | refine wc_condF rfl ?_)
      refine wq_roundK ((i + 1, H.set j true, insAll (kK, sp1 j) A, q2, E3)) ?_ ?_ (by repeat (first | exact trivial | refine ⟨rfl, ?_⟩)) (by first | exact catEq | exact rfl)
      · exact ⟨by dsimp only; omega, h5, h6, hb3⟩
      · show n - (i + 1) < n - i
        omega
  repeat (first | (apply wx_val; (first | exact v_move rfl | exact v_len rfl rfl); rfl) | refine wc_seq ?_ | refine wc_region ?_ | refine wx_nil ?_ | refine wq_next ?_ | refine wc_block ?_ | refine wc_exit ?_ | refine wq_then_exit ?_ | refine wq_block_exit rfl ?_)
  clear hi0 hb0 hq
  refine wc_loopK (ι := Nat × List Bool × Ks × Fo × Seg) [0, 2, 7, 8, 85, 86] (fun z => [(9, .int .i64 (z.2.2.1.length : Nat)), (87, .int .i64 (z.1 : Nat))]) (fun z => [z.2.2.2.1.seg g z.2.2.1.length, z.2.2.2.2]) (fun z => z.1 ≤ l.length ∧ FoOk i z.2.2.1 z.2.2.2.1 ∧ HIn n z.2.1 z.2.2.1 ∧ Buf 4 1 (some ⟨g8, 0, none⟩) n n (z.2.1.flatMap bC) z.2.2.2.2) (fun z => l.length - z.1) ((0, H, A, q, E)) rfl ?_ (by repeat (first | exact trivial | refine ⟨rfl, ?_⟩)) ?_
  · exact ⟨by omega, h2, h3, h4⟩
  clear h2 h3 h4
  rintro ⟨p, H, A, q, E⟩ ⟨h1', h2, h3, h4⟩
  try dsimp only
  refine wc_fcat ?_
  refine wc_cat ?_
  dsimp only at h1' h2 h3 h4
  repeat (first | (apply wx_val; (first | exact v_lt rfl rfl); rfl) | refine wc_seq ?_ | refine wc_region ?_ | refine wx_nil ?_ | refine wq_next ?_)
  refine wc_if rfl (fun hd => ?_) (fun hd => ?_)
  · have hlt : p < l.length := by omega
    obtain ⟨x, hx⟩ : ∃ x, l[p]? = some x := ⟨l[p], List.getElem?_eq_getElem hlt⟩
    obtain ⟨ga, oa, rfl, hcell⟩ := hv.atF (f := fun n => [Value.int .i64 n]) (k := 1) (fun _ => rfl) (by decide) (show 0 < l.length by omega)
    repeat (first | (apply wx_val; (first | exact v_iaddr rfl rfl rfl (by omega)); rfl) | refine wc_seq ?_ | refine wc_region ?_ | refine wq_next ?_ | refine wc_block ?_ | refine wc_skip ?_)
    (try refine wx_ungd rfl rfl ?_)
    apply wx_val
    exact v_load rfl rfl rfl (fun w' hr => hcell p x 0 _ hx rfl hr (by rw [Int.toNat_natCast, Nat.add_zero]))
    rfl
    repeat (first | (apply wx_val; (first | exact v_move rfl | exact v_assign rfl | exact v_lt rfl rfl); rfl) | refine wc_seq ?_ | refine wc_region ?_ | refine wx_nil ?_ | refine wq_next ?_)
    by_cases hx0 : x < 0 ∨ n ≤ x
    · by_cases hx1 : x < 0
      · refine wx_gset true rfl rfl (decide_eq_true hx1) ?_
        repeat (first | (apply wx_val; (first | exact v_move rfl | exact v_addi rfl rfl (by omega) | exact v_pickT rfl rfl); rfl) | refine wx_no rfl rfl rfl ?_ | refine wc_region ?_ | refine wx_nil ?_ | refine wq_next ?_ | refine wc_exit ?_ | refine wq_then_exit ?_ | refine wq_block_exit rfl ?_ | refine wc_condT rfl ?_)
        refine wq_roundK ((p + 1, H, A, q, E)) ?_ ?_ (by repeat (first | exact trivial | refine ⟨rfl, ?_⟩)) (by first | exact catEq | exact rfl)
        · exact ⟨by dsimp only; omega, h2, h3, h4⟩
        · show l.length - (p + 1) < l.length - p
          omega
      · refine wx_gset false rfl rfl (decide_eq_false hx1) ?_
        repeat (first | (apply wx_val; (first | exact v_move rfl | exact v_ge rfl rfl | exact v_pickF rfl rfl); rfl) | refine wx_ungd rfl rfl ?_ | refine wx_nil ?_ | refine wq_next ?_)
        refine wc_yes rfl (decide_eq_true (by omega)) ?_
        repeat (first | (apply wx_val; (first | exact v_move rfl | exact v_addi rfl rfl (by omega)); rfl) | refine wc_region ?_ | refine wx_nil ?_ | refine wq_next ?_ | refine wc_exit ?_ | refine wq_then_exit ?_ | refine wq_block_exit rfl ?_)
        refine wq_roundK ((p + 1, H, A, q, E)) ?_ ?_ (by repeat (first | exact trivial | refine ⟨rfl, ?_⟩)) (by first | exact catEq | exact rfl)
        · exact ⟨by dsimp only; omega, h2, h3, h4⟩
        · show l.length - (p + 1) < l.length - p
          omega
    obtain ⟨j, rfl⟩ := Int.eq_ofNat_of_zero_le (show 0 ≤ x by omega)
    have hat : j < n := by omega
    have hlt : j < H.length := by have := h3.len; omega
    obtain ⟨b, hb⟩ : ∃ b, H[j]? = some b := ⟨H[j], List.getElem?_eq_getElem hlt⟩
    refine wx_gset false rfl rfl (decide_eq_false (by omega)) ?_
    repeat (first | (apply wx_val; (first | exact v_move rfl | exact v_ge rfl rfl | exact v_pickF rfl rfl); rfl) | refine wx_ungd rfl rfl ?_ | refine wx_nil ?_ | refine wq_next ?_)
    refine wc_not rfl (decide_eq_false (by omega)) ?_
    repeat (first | refine wc_seq ?_ | refine wq_next ?_ | refine wc_skip ?_)
    have c1 := fun w' ho => Remove_law (g := g) kK (sp1 j) h2 (by omega) w' ho
    rw [h3.has hb] at c1
    have h6 := h3.del hat
    refine wc_heldX [] [E] rfl (by (repeat (first | exact panicNot_M2 rfl | exact panicNot_D3 rfl | with_reducible exact panicNot_of panicOk_body | with_reducible apply panicNot_block | with_reducible apply panicNot_then))) (fun hQd => ?_)
    (apply wh_takeX 0; (first | exact fun _ h => h | exact fun _ h => res_takes h); exact hQd; rfl; rfl; exact v_move rfl; decide +kernel; decide +kernel; decide +kernel; rfl)
    (apply wh_takeX 1; (first | exact fun _ h => h | exact fun _ h => res_takes h); exact hQd; rfl; rfl; exact v_move rfl; decide +kernel; decide +kernel; decide +kernel; rfl)
    (apply wh_takeX 2; (first | exact fun _ h => h | exact fun _ h => res_takes h); exact hQd; rfl; rfl; exact v_move rfl; decide +kernel; decide +kernel; decide +kernel; rfl)
    (apply wh_takeX 3; (first | exact fun _ h => h | exact fun _ h => res_takes h); exact hQd; rfl; rfl; (first | exact v_addi rfl rfl (by omega) | exact v_add rfl rfl); decide +kernel; decide +kernel; decide +kernel; rfl)
    (apply wh_takeX 4; (first | exact fun _ h => h | exact fun _ h => res_takes h); exact hQd; rfl; rfl; (exact v_build (cs := (Sp.cells (sp1 j)).toArray) rfl (by kernel_rfl)); decide +kernel; decide +kernel; decide +kernel; rfl)
    (apply wh_takeX 6; (first | exact fun _ h => h | exact fun _ h => res_takes h); exact hQd; rfl; rfl; exact v_move rfl; decide +kernel; decide +kernel; decide +kernel; rfl)
    (apply wh_takeX 7; (first | exact fun _ h => h | exact fun _ h => res_takes h); exact hQd; rfl; rfl; exact v_move rfl; decide +kernel; decide +kernel; decide +kernel; rfl)
    (apply wh_takeX 8; (first | exact fun _ h => res_takes h); exact hQd; rfl; rfl; (first | exact v_iaddr rfl rfl rfl (by omega)); decide +kernel; decide +kernel; decide +kernel; rfl)
    (apply wh_takeX 9; (first | exact fun _ h => res_takes h); exact hQd; rfl; rfl; (exact v_load rfl rfl rfl (fun w' hr => h4.elemT (i := j) rfl (by decide) (fun _ => rfl) hb hr (j := 0) rfl (by rw [Int.toNat_natCast, Nat.add_zero]))); decide +kernel; decide +kernel; decide +kernel; rfl)
    refine wh_eff 5 rfl (by decide +kernel) ?_
    refine wl_callT (fun w' hr ho => c1 w' ho) rfl rfl rfl ?_
    intro q2 h5
    refine wx_cat ?_
    (try refine wx_nil ?_)
    refine wq_held (by (first | exact fun _ h => h | exact fun _ h => res_takes h)) ?_
    (apply wh_takeX 10; (first | exact fun _ h => res_takes h); exact hQd; rfl; rfl; (first | exact v_bne rfl rfl rfl); decide +kernel; decide +kernel; decide +kernel; rfl)
    refine wh_done (by decide +kernel) ?_
    repeat (first | refine wq_next ?_)
    refine wc_not rfl (by cases b <;> rfl) ?_
    repeat (first | (apply wx_val; (first | exact v_move rfl | exact v_iaddr rfl rfl rfl (by omega)); rfl) | refine wc_seq ?_ | refine wc_region ?_ | refine wq_next ?_ | refine wc_skip ?_)
    (try refine wx_ungd rfl rfl ?_)
    apply wx_val
    exact v_load rfl rfl rfl (fun w' hr => h4.elemT (i := j) rfl (by decide) (fun _ => rfl) hb hr (j := 0) rfl (by rw [Int.toNat_natCast, Nat.add_zero]))
    rfl
    cases b with
    | true =>
      have hdl := delAll_len h2.ok.nd ((h3.mem _).2 ⟨j, hb, rfl⟩)
      have hls := h2.lens.1
      repeat (first | (apply wx_val; (first | exact v_move rfl | exact v_iaddr rfl rfl rfl (by omega)); rfl) | refine wc_seq ?_ | refine wc_region ?_ | refine wx_nil ?_ | refine wq_next ?_ | refine wc_condT rfl ?_)
      refine wl_setFT j 0 (f := bC) (k := 1) true false (fun _ => rfl) (by decide) rfl h4 rfl rfl (by rw [Int.toNat_natCast]; omega) hb h3.len.symm rfl rfl rfl (fun E3 hb3 => ?_)
      repeat (first | (apply wx_val; (first | exact v_move rfl | exact v_assign rfl | exact v_subi rfl rfl (by omega)); rfl) | refine wc_seq ?_ | refine wc_region ?_ | refine wx_nil ?_ | refine wq_next ?_)
      (try refine wx_ungd rfl rfl ?_)
      refine wx_vcall (vc_callT (fun w' hr ho => (Height_law (g := g) kK h5) w' ho) rfl rfl) rfl ?_
      skip
      rw [show ((A.length : Nat) : Int) - 1 = ((delAll (kK, sp1 j) A).length : Nat) by omega]
      (try refine wx_ungd rfl rfl ?_)
      refine wx_vcall (vc_pure' rfl rfl (fun w' hr => High_law h5 kK (by omega) h6.all w')) rfl ?_
      repeat (first | (apply wx_val; (first | exact v_move rfl | exact v_not rfl); rfl) | refine wx_ungd rfl rfl ?_)
      (try refine wx_ungd rfl rfl ?_)
      refine wx_vcall (vc_callT (fun w' hr ho => (Count_law (g := g) h5) w' ho) rfl rfl) rfl ?_
      repeat (first | (apply wx_val; (first | exact v_move rfl | exact v_ne rfl rfl | exact v_pickF rfl rfl); rfl) | refine wx_ungd rfl rfl ?_ | refine wx_nil ?_ | refine wq_next ?_)
      refine wc_not rfl (by simp) ?_
      repeat (first | (apply wx_val; (first | exact v_move rfl | exact v_addi rfl rfl (by omega)); rfl) | refine wc_region ?_ | refine wx_nil ?_ | refine wq_next ?_ | refine wc_skip ?_ | refine wq_block ?_)
      refine wq_roundK ((p + 1, H.set j false, delAll (kK, sp1 j) A, q2, E3)) ?_ ?_ (by repeat (first | exact trivial | refine ⟨rfl, ?_⟩)) (by first | exact catEq | exact rfl)
      · exact ⟨by dsimp only; omega, h5, h6, hb3⟩
      · show l.length - (p + 1) < l.length - p
        omega
    | false =>
      rw [delAll_none (hasA_no.1 (h3.has hb))] at h5 ⊢
      have hls := h2.lens.1
      repeat (first | (apply wx_val; (first | exact v_move rfl); rfl) | refine wc_seq ?_ | refine wc_region ?_ | refine wx_nil ?_ | refine wq_next ?_ | refine wc_skip ?_ | refine wc_condF rfl ?_)
      (try refine wx_ungd rfl rfl ?_)
      refine wx_vcall (vc_callT (fun w' hr ho => (Height_law (g := g) kK h5) w' ho) rfl rfl) rfl ?_
      skip
      (try refine wx_ungd rfl rfl ?_)
      refine wx_vcall (vc_pure' rfl rfl (fun w' hr => High_law h5 kK (by omega) h3.all w')) rfl ?_
      repeat (first | (apply wx_val; (first | exact v_move rfl | exact v_not rfl); rfl) | refine wx_ungd rfl rfl ?_)
      (try refine wx_ungd rfl rfl ?_)
      refine wx_vcall (vc_callT (fun w' hr ho => (Count_law (g := g) h5) w' ho) rfl rfl) rfl ?_
      repeat (first | (apply wx_val; (first | exact v_move rfl | exact v_ne rfl rfl | exact v_pickF rfl rfl); rfl) | refine wx_ungd rfl rfl ?_ | refine wx_nil ?_ | refine wq_next ?_)
      refine wc_not rfl (by simp) ?_
      repeat (first | (apply wx_val; (first | exact v_move rfl | exact v_addi rfl rfl (by omega)); rfl) | refine wc_region ?_ | refine wx_nil ?_ | refine wq_next ?_ | refine wc_skip ?_ | refine wq_block ?_)
      refine wq_roundK ((p + 1, H, A, q2, E)) ?_ ?_ (by repeat (first | exact trivial | refine ⟨rfl, ?_⟩)) (by first | exact catEq | exact rfl)
      · exact ⟨by dsimp only; omega, h5, h3, h4⟩
      · show l.length - (p + 1) < l.length - p
        omega
  repeat (first | (apply wx_val; (first | exact v_assign rfl); rfl) | refine wc_seq ?_ | refine wc_region ?_ | refine wx_nil ?_ | refine wq_next ?_ | refine wc_ret ?_ | refine wc_exit ?_ | refine wq_then_exit ?_ | refine wq_block_exit rfl ?_)
  exact wq_clear (wq_ret1 () rfl rfl trivial rfl)
end Go.Proofs.Ytjeghbachokljaa
