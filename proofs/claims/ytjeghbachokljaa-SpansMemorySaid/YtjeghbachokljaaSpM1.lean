/- Answers are memory of their own. -/
import Derived.Test.YtjeghbachokljaaSpV
set_option linter.unusedVariables false
set_option linter.unusedSimpArgs false
namespace Go.Proofs.Ytjeghbachokljaa
open Go
set_option maxRecDepth 20000
set_option maxHeartbeats 2000000
attribute [local irreducible] WX WC WQ Val VCall WY WR
def kM : ByteArray := ByteArray.mk #[107]
def sp2 (j : Nat) : Sp := ⟨(j : Nat), 100, (j : Nat)⟩
def m7 : Sp := ⟨-7, 0, 0⟩
def m8 : Sp := ⟨-8, 0, 0⟩
def memA (n : Nat) : Ks := (List.range n).map (fun j => (kM, sp2 j))
def memL (n : Nat) : List Sp := (List.range n).map sp2
theorem memA_len (n : Nat) : (memA n).length = n := by simp [memA]
theorem memL_len (n : Nat) : (memL n).length = n := by simp [memL]
theorem memL_get {n i : Nat} (h : i < n) : (memL n)[i]? = some (sp2 i) := by simp [memL, h]
theorem insAll_last {e : ByteArray × Sp} : ∀ {A : Ks}, (∀ x ∈ A, ¬ cmpS e.2 x.2 < 0) → insAll e A = A ++ [e]
  | [], _ => rfl
  | x :: r, h => by
    unfold insAll
    rw [if_neg (h x (List.mem_cons_self ..)), insAll_last fun y hy => h y (List.mem_cons_of_mem _ hy)]
    rfl
theorem memA_ins {i : Nat} (h : i < 60) : insCode kM (sp2 i) (hasA (kM, sp2 i) (memA i)) = 0 ∧ insN kM (sp2 i) (memA i) = memA (i + 1) := by
  have hn : hasA (kM, sp2 i) (memA i) = false := hasA_no.2 fun hm => by
    obtain ⟨j, hj, he⟩ := List.mem_map.1 hm
    have h1 := List.mem_range.1 hj
    have h2 := congrArg (fun x => x.2.a) he
    simp only [sp2] at h2
    omega
  have hc : insCode kM (sp2 i) (hasA (kM, sp2 i) (memA i)) = 0 := by
    rw [hn]
    unfold insCode
    rw [if_neg (by decide), if_neg]
    · rfl
    · unfold rightS sp2
      rw [decide_eq_true (by dsimp only; omega)]
      decide
  refine ⟨hc, ?_⟩
  unfold insN
  rw [if_pos hc, insAll_last]
  · unfold memA
    rw [List.range_succ, List.map_append]
    rfl
  · intro x hx
    obtain ⟨j, hj, rfl⟩ := List.mem_map.1 hx
    have h1 := List.mem_range.1 hj
    refine ncmp.2 ?_
    unfold ltS sp2
    dsimp only
    omega
theorem memA_ov {n : Nat} (h : n ≤ 60) : ovK kM 0 100 (memA n) = memL n := by
  have e : ofK kM (memA n) = memL n := by
    unfold ofK memA memL
    rw [List.filter_eq_self.2, List.map_map]
    · rfl
    · intro x hx
      obtain ⟨j, hj, rfl⟩ := List.mem_map.1 hx
      simp
  unfold ovK
  rw [e]
  refine List.filter_eq_self.2 fun x hx => ?_
  obtain ⟨j, hj, rfl⟩ := List.mem_map.1 hx
  have h1 := List.mem_range.1 hj
  show decide ((j : Int) < 100 ∧ (0 : Int) < 100) = true
  rw [decide_eq_true_eq]
  omega
abbrev lit8 (g : Nat) : Seg := [(g, .cells ([m8, m8].flatMap Sp.cells).toArray 28 (0, 0))]
theorem Mem_law (n0 : Int) (w : World) : Calls Try.prog 3 #[.int .i64 n0] w (Holds w) := by
  refine go [.int .i64 n0] [] Try.func3 Try.ntmps3 rfl rfl (own_nil w) ?_
  by_cases hg : n0 < 1 ∨ 60 < n0
  · skip
    repeat' (first | (apply wx_val; (first | exact v_move rfl | exact v_assign rfl | exact v_lt rfl rfl | exact v_gt rfl rfl | exact v_not rfl | exact v_pickT rfl rfl | exact v_pickF rfl rfl); rfl) | refine wx_no rfl rfl rfl ?_ | refine wx_ungd rfl rfl ?_ | refine wc_seq ?_ | refine wc_region ?_ | refine wx_nil ?_ | refine wq_next ?_ | refine wc_ret ?_ | refine wc_skip ?_ | refine wq_then_ret ?_ | refine wc_condT rfl ?_ | refine wc_condF rfl ?_ | (apply wx_vcall; exact vc_pure rfl rfl (fun w' => anchor_spec w'); rfl) | refine wc_if rfl (fun _ => ?_) (fun _ => ?_) | refine wx_gif rfl rfl (fun _ => ?_) (fun _ => ?_))
    all_goals first
      | exact wq_clear (wq_ret1 () rfl rfl trivial rfl)
      | (exfalso; omega)
  obtain ⟨n, rfl⟩ := Int.eq_ofNat_of_zero_le (show 0 ≤ n0 by omega)
  have hn : 1 ≤ n ∧ n ≤ 60 := by omega
  clear hg
  repeat (first | (apply wx_val; (first | exact v_move rfl | exact v_assign rfl | exact v_lt rfl rfl | exact v_not rfl); rfl) | refine wc_seq ?_ | refine wc_region ?_ | refine wx_nil ?_ | refine wq_next ?_ | refine wc_skip ?_ | refine wc_condF rfl ?_ | (apply wx_vcall; exact vc_pure rfl rfl (fun w' => anchor_spec w'); rfl))
  refine wx_gset false rfl rfl (decide_eq_false (by omega)) ?_
  repeat (first | (apply wx_val; (first | exact v_move rfl | exact v_gt rfl rfl | exact v_pickF rfl rfl); rfl) | refine wx_ungd rfl rfl ?_ | refine wx_nil ?_ | refine wq_next ?_)
  refine wc_not rfl (decide_eq_false (by omega)) ?_
  repeat (first | refine wc_seq ?_ | refine wc_region ?_ | refine wq_next ?_ | refine wc_skip ?_)
  refine wl_callT (M1 := []) (fun w' hr ho => New_law w') rfl rfl rfl ?_
  rintro ⟨g, q⟩ hq
  dsimp only at hq ⊢
  repeat (first | (apply wx_val; (first | exact v_move rfl | exact v_assign rfl | exact v_eqnil rfl rfl rfl); rfl) | refine wc_seq ?_ | refine wc_region ?_ | refine wx_nil ?_ | refine wq_next ?_ | refine wc_block ?_ | refine wc_skip ?_ | refine wc_cat ?_ | refine wc_condF rfl ?_)
  refine wc_mem (M' := [q.seg g (memA 0).length]) rfl ?_
  refine wc_loopK (ι := Nat × Fo) [0, 3] (fun z => [(4, .int .i64 (z.1 : Nat))]) (fun z => [z.2.seg g (memA z.1).length]) (fun z => z.1 ≤ n ∧ FoOk z.1 (memA z.1) z.2) (fun z => n - z.1) ((0, q)) rfl ?_ (by repeat (first | exact trivial | refine ⟨rfl, ?_⟩)) ?_
  · exact ⟨by omega, hq⟩
  clear hq q
  rintro ⟨i, q⟩ ⟨h1, h2⟩
  try dsimp only
  refine wc_fcat ?_
  refine wc_cat ?_
  dsimp only at h1 h2
  repeat (first | (apply wx_val; (first | exact v_move rfl | exact v_lt rfl rfl); rfl) | refine wc_seq ?_ | refine wc_region ?_ | refine wx_nil ?_ | refine wq_next ?_)
  refine wc_if rfl (fun hd => ?_) (fun hd => ?_)
  · have hi := memA_ins (show i < 60 by omega)
    have c1 := fun w' ho => Insert_law (g := g) kM (sp2 i) h2 (by omega) w' ho
    rw [hi.1, hi.2] at c1
    repeat (first | (apply wx_val; (first | exact v_move rfl); rfl) | refine wc_seq ?_ | refine wc_region ?_ | refine wq_next ?_ | refine wc_block ?_ | refine wc_skip ?_)
    (try refine wx_ungd rfl rfl ?_)
    apply wx_val
    exact v_build (cs := ((Sp.cells (sp2 i))).toArray) rfl (by kernel_rfl)
    rfl
    skip
    refine wl_callT (fun w' hr ho => c1 w' ho) rfl rfl rfl ?_
    intro q2 h5
    refine wx_cat ?_
    repeat (first | (apply wx_val; (first | exact v_move rfl | exact v_assign rfl | exact v_ne rfl rfl | exact v_addi rfl rfl (by omega)); rfl) | refine wc_region ?_ | refine wx_nil ?_ | refine wq_next ?_ | refine wc_skip ?_ | refine wq_block ?_ | refine wc_condF rfl ?_)
    refine wq_roundK ((i + 1, q2)) ?_ ?_ (by repeat (first | exact trivial | refine ⟨rfl, ?_⟩)) (by first | exact catEq | exact rfl)
    · exact ⟨by dsimp only; omega, h5⟩
    · show n - (i + 1) < n - i
      omega
  obtain rfl : i = n := by omega
  clear hd h1
  have hov := memA_ov hn.2
  have c1 := fun w' ho => Overlap_law (g := g) kM 0 100 h2 (by omega) w' ho
  rw [hov, memL_len] at c1
  repeat (first | (apply wx_val; (first | exact v_move rfl); rfl) | refine wc_seq ?_ | refine wc_region ?_ | refine wq_next ?_ | refine wc_exit ?_ | refine wq_then_exit ?_ | refine wq_block_exit rfl ?_)
  refine wl_callT (fun w' hr ho => c1 w' ho) rfl rfl rfl ?_
  rintro ⟨A5, c5, E5⟩ hb5
  dsimp only at hb5 ⊢
  refine wx_cat ?_
  repeat (first | (apply wx_val; (first | exact v_move rfl); rfl))
  refine wl_callT (fun w' hr ho => c1 w' ho) rfl rfl rfl ?_
  rintro ⟨A6, c6, E6⟩ hb6
  dsimp only at hb6 ⊢
  refine wx_cat ?_
  repeat (first | (apply wx_val; (first | exact v_move rfl | exact v_assign rfl | exact v_len rfl rfl | exact v_ne rfl rfl); rfl) | refine wc_seq ?_ | refine wc_region ?_ | refine wx_nil ?_ | refine wq_next ?_)
  refine wx_gset false rfl rfl (decide_eq_false (by simp)) ?_
  repeat (first | (apply wx_val; (first | exact v_move rfl | exact v_len rfl rfl | exact v_ne rfl rfl | exact v_pickF rfl rfl); rfl) | refine wx_ungd rfl rfl ?_ | refine wx_nil ?_ | refine wq_next ?_)
  refine wc_not rfl (decide_eq_false (by simp)) ?_
  repeat (first | (apply wx_val; (first | exact v_move rfl | exact v_len rfl rfl); rfl) | refine wc_seq ?_ | refine wc_region ?_ | refine wx_nil ?_ | refine wq_next ?_ | refine wc_block ?_ | refine wc_skip ?_)
  obtain ⟨g5, hA5⟩ := hb5.ptr (by omega)
  obtain ⟨g6, hA6⟩ := hb6.ptr (by omega)
  clear c1
  refine wc_loopK (ι := Nat × List Sp × Seg) [0, 3, 5, 6, 48] (fun z => [(49, .int .i64 (z.1 : Nat))]) (fun z => [z.2.2]) (fun z => z.1 ≤ i ∧ z.2.1.length = i ∧ SpL z.2.1 A5 i c5 z.2.2 ∧ (∀ j, j < z.1 → z.2.1[j]? = some m7)) (fun z => i - z.1) ((0, memL i, E5)) rfl ?_ (by repeat (first | exact trivial | refine ⟨rfl, ?_⟩)) ?_
  · exact ⟨by omega, memL_len i, hb5, fun j hj => by omega⟩
  clear hb5 E5
  rintro ⟨p, Z, E5⟩ ⟨h1, hz, hb5, hz7⟩
  try dsimp only
  refine wc_fcat ?_
  refine wc_cat ?_
  dsimp only at h1 hz hb5 hz7
  repeat (first | (apply wx_val; (first | exact v_lt rfl rfl); rfl) | refine wc_seq ?_ | refine wc_region ?_ | refine wx_nil ?_ | refine wq_next ?_)
  refine wc_if rfl (fun hd => ?_) (fun hd => ?_)
  · skip
    repeat (first | (apply wx_val; (first | exact v_move rfl | exact v_assign rfl); rfl) | refine wc_seq ?_ | refine wc_region ?_ | refine wx_nil ?_ | refine wq_next ?_ | refine wc_block ?_ | refine wc_skip ?_)
    (try refine wx_ungd rfl rfl ?_)
    apply wx_val
    exact v_build (cs := ((Sp.cells m7)).toArray) rfl (by kernel_rfl)
    rfl
    repeat (first | (apply wx_val; (first | exact v_iaddrE (by assumption) rfl rfl rfl (by omega)); rfl))
    refine wl_setAT p (f := Sp.cells) (k := 3) m7 (fun _ => rfl) hA5 hb5 rfl rfl (by rw [Int.toNat_natCast]; exact Nat.zero_add _) rfl hz.symm (by omega) rfl (fun E' hb' => ?_)
    repeat (first | (apply wx_val; (first | exact v_move rfl | exact v_addi rfl rfl (by omega)); rfl) | refine wc_region ?_ | refine wx_nil ?_ | refine wq_next ?_ | refine wq_block ?_)
    refine wq_roundK ((p + 1, Z.set p m7, E')) ?_ ?_ (by repeat (first | exact trivial | refine ⟨rfl, ?_⟩)) (by first | exact catEq | exact rfl)
    · refine ⟨by dsimp only; omega, by rw [List.length_set]; exact hz, hb', fun j hj => ?_⟩
      by_cases e : p = j
      · subst e; rw [List.getElem?_set_self (by omega)]
      · rw [List.getElem?_set_ne e]; exact hz7 j (by dsimp only at hj; omega)
    · show i - (p + 1) < i - p
      omega
  have hp : p = i := by omega
  subst hp
  clear hd h1
  repeat (first | (apply wx_val; (first | exact v_move rfl); rfl) | refine wc_seq ?_ | refine wc_region ?_ | refine wq_next ?_ | refine wc_exit ?_ | refine wq_then_exit ?_ | refine wq_block_exit rfl ?_)
  (try refine wx_ungd rfl rfl ?_)
  apply wx_val
  exact v_build (cs := ((Sp.cells m8)).toArray) rfl (by kernel_rfl)
  rfl
  skip
  (try refine wx_ungd rfl rfl ?_)
  apply wx_val
  exact v_build (cs := ((Sp.cells m8)).toArray) rfl (by kernel_rfl)
  rfl
  skip
  refine wl_lit rfl rfl rfl rfl rfl (by decide) rfl (fun g60 => ?_)
  refine wx_mem (M' := [lit8 g60, E5, q.seg g (memA p).length, E6]) (by kernel_rfl) ?_
  have hbl : Buf 28 3 (some ⟨g60, 0, none⟩) 2 2 ([m8, m8].flatMap Sp.cells) (lit8 g60) := Buf.full _ rfl (by decide)
  skip
  refine wl_appT rfl hb5 rfl rfl (fun w' hr => src_slice rfl (hbl.rdT hr) rfl (by decide) (fun u hu => by
    simp only [List.flatMap_cons, List.flatMap_nil, Sp.cells, List.append_nil, List.cons_append, List.nil_append, List.mem_cons, List.not_mem_nil, or_false] at hu
    rcases hu with rfl | rfl | rfl | rfl | rfl | rfl <;> rfl)) (by omega) rfl (fun A8 c8 E8 hb8 => ?_)
  rw [← List.flatMap_append] at hb8
  obtain ⟨g8, hA8⟩ := hb8.ptr (by omega)
  have c1 := fun w' ho => Overlap_law (g := g) kM 0 100 h2 (by omega) w' ho
  rw [hov, memL_len] at c1
  repeat (first | (apply wx_val; (first | exact v_move rfl | exact v_assign rfl); rfl) | refine wc_seq ?_ | refine wc_region ?_ | refine wx_nil ?_ | refine wq_next ?_)
  refine wl_callT (fun w' hr ho => c1 w' ho) rfl rfl rfl ?_
  rintro ⟨A9, c9, E9⟩ hb9
  dsimp only at hb9 ⊢
  refine wx_cat ?_
  repeat (first | (apply wx_val; (first | exact v_move rfl | exact v_assign rfl | exact v_len rfl rfl | exact v_ne rfl rfl); rfl) | refine wc_seq ?_ | refine wc_region ?_ | refine wx_nil ?_ | refine wq_next ?_)
  refine wc_not rfl (decide_eq_false (by simp)) ?_
  obtain ⟨g9, hA9⟩ := hb9.ptr (by omega)
  clear c1
  have hz8 : ∀ j, j < p → (Z ++ [m8, m8])[j]? = some m7 := fun j hj => by rw [List.getElem?_append_left (by omega)]; exact hz7 j hj
  have hz9 : (Z ++ [m8, m8])[p]? = some m8 := by rw [List.getElem?_append_right (by omega), hz, Nat.sub_self]; rfl
  generalize Z ++ [m8, m8] = Y at *
  repeat (first | (apply wx_val; (first | exact v_move rfl | exact v_len rfl rfl); rfl) | refine wc_seq ?_ | refine wc_region ?_ | refine wx_nil ?_ | refine wq_next ?_ | refine wc_block ?_ | refine wc_skip ?_)
  refine wc_loopK (ι := Nat) [0, 3, 6, 8, 9, 69] (fun z => [(70, .int .i64 (z : Nat))]) (fun z => []) (fun z => z ≤ p) (fun z => p - z) (0) rfl ?_ (by repeat (first | exact trivial | refine ⟨rfl, ?_⟩)) ?_
  · omega
  rintro r h1
  try dsimp only
  refine wc_fcat ?_
  refine wc_cat ?_
  repeat (first | (apply wx_val; (first | exact v_lt rfl rfl); rfl) | refine wc_seq ?_ | refine wc_region ?_ | refine wx_nil ?_ | refine wq_next ?_)
  refine wc_if rfl (fun hd => ?_) (fun hd => ?_)
  · have hr : r < p := by omega
    repeat (first | (apply wx_val; (first | exact v_move rfl | exact v_assign rfl | exact v_faddr rfl rfl | exact v_iaddrE (by assumption) rfl rfl rfl (by omega)); rfl) | refine wc_seq ?_ | refine wc_region ?_ | refine wx_nil ?_ | refine wq_next ?_ | refine wc_block ?_ | refine wc_skip ?_)
    (try refine wx_ungd rfl rfl ?_)
    apply wx_val
    exact v_load rfl rfl rfl (fun w' hr => hb6.elemT (i := r) hA6 (by decide) (fun _ => rfl) (memL_get (by omega)) hr (j := 0) rfl (by rw [Int.toNat_natCast]))
    rfl
    repeat (first | (apply wx_val; (first | exact v_move rfl | exact v_ne rfl rfl); rfl))
    refine wx_gset false rfl rfl (decide_eq_false (by simp [sp2])) ?_
    repeat (first | (apply wx_val; (first | exact v_move rfl | exact v_faddr rfl rfl | exact v_iaddrE (by assumption) rfl rfl rfl (by omega)); rfl) | refine wx_ungd rfl rfl ?_)
    (try refine wx_ungd rfl rfl ?_)
    apply wx_val
    exact v_load rfl rfl rfl (fun w' hr => hb9.elemT (i := r) hA9 (by decide) (fun _ => rfl) (memL_get (by omega)) hr (j := 0) rfl (by rw [Int.toNat_natCast]))
    rfl
    repeat (first | (apply wx_val; (first | exact v_move rfl | exact v_ne rfl rfl | exact v_pickF rfl rfl); rfl) | refine wx_ungd rfl rfl ?_)
    refine wx_gset false rfl rfl (decide_eq_false (by simp [sp2])) ?_
    repeat (first | (apply wx_val; (first | exact v_move rfl | exact v_faddr rfl rfl | exact v_iaddrE (by assumption) rfl rfl rfl (by omega)); rfl) | refine wx_ungd rfl rfl ?_)
    (try refine wx_ungd rfl rfl ?_)
    apply wx_val
    exact v_load rfl rfl rfl (fun w' hr => hb8.elemT (i := r) hA8 (by decide) (fun _ => rfl) (hz8 r (by omega)) hr (j := 0) rfl (by rw [Int.toNat_natCast]))
    rfl
    repeat (first | (apply wx_val; (first | exact v_move rfl | exact v_ne rfl rfl | exact v_addi rfl rfl (by omega) | exact v_pickF rfl rfl); rfl) | refine wx_ungd rfl rfl ?_ | refine wc_region ?_ | refine wx_nil ?_ | refine wq_next ?_ | refine wc_skip ?_ | refine wq_block ?_ | refine wc_condF rfl ?_)
    refine wq_roundK (r + 1) ?_ ?_ (by repeat (first | exact trivial | refine ⟨rfl, ?_⟩)) (by first | exact catEq | exact rfl)
    · omega
    · omega
  · skip
    repeat (first | (apply wx_val; (first | exact v_move rfl | exact v_faddr rfl rfl | exact v_iaddrE (by assumption) rfl rfl rfl (by omega)); rfl) | refine wc_seq ?_ | refine wc_region ?_ | refine wq_next ?_ | refine wc_exit ?_ | refine wq_then_exit ?_ | refine wq_block_exit rfl ?_)
    (try refine wx_ungd rfl rfl ?_)
    apply wx_val
    exact v_load rfl rfl rfl (fun w' hr => hb8.elemT (i := p) hA8 (by decide) (fun _ => rfl) hz9 hr (j := 0) rfl (by rw [Int.toNat_natCast]))
    rfl
    repeat (first | (apply wx_val; (first | exact v_move rfl | exact v_eq rfl rfl); rfl) | refine wx_ungd rfl rfl ?_)
    (try refine wx_ungd rfl rfl ?_)
    refine wx_vcall (vc_callT (fun w' hr ho => (Count_law (g := g) h2) w' ho) rfl rfl) rfl ?_
    repeat (first | (apply wx_val; (first | exact v_move rfl | exact v_assign rfl | exact v_eq rfl rfl | exact v_pickT rfl rfl); rfl) | refine wx_ungd rfl rfl ?_ | refine wx_nil ?_ | refine wq_next ?_ | refine wc_ret ?_)
    exact wq_clear (wq_ret1 () rfl (bool_val (by simp [memA_len])) trivial rfl)
end Go.Proofs.Ytjeghbachokljaa
