/- Just those that overlap are given, each once and rising; First ends ahead of all. -/
import Derived.Test.YtjeghbachokljaaSpFi
set_option linter.unusedVariables false
set_option linter.unusedSimpArgs false
namespace Go.Proofs.Ytjeghbachokljaa
open Go
set_option maxRecDepth 20000
set_option maxHeartbeats 2000000
attribute [local irreducible] WX WC WQ Val VCall WY WR
def kO : ByteArray := ByteArray.mk #[107]
abbrev spC (g : Nat) (s : Sp) : Seg := [(g, .cells s.cells.toArray 28 (0, 0))]
theorem Over_law {A : Option Addr} {c : Nat} {l : List Sp} (hl : l.length ≤ 1048576) (lo hi : Int) (w : World) (hv : Vw [] w A (l.flatMap Sp.cells)) :
    Calls Try.prog 6 #[.slice A l.length c, .int .i64 lo, .int .i64 hi] w (Holds w) := by
  refine go [.slice A l.length c, .int .i64 lo, .int .i64 hi] [] Try.func6 Try.ntmps6 rfl rfl (own_nil w) ?_
  repeat (first | (apply wx_val; (first | exact v_assign rfl | exact v_not rfl); rfl) | refine wc_seq ?_ | refine wc_region ?_ | refine wx_nil ?_ | refine wq_next ?_ | refine wc_skip ?_ | refine wc_condF rfl ?_ | (apply wx_vcall; exact vc_pure rfl rfl (fun w' => anchor_spec w'); rfl))
  refine wl_callT (M1 := []) (fun w' hr ho => New_law w') rfl rfl rfl ?_
  rintro ⟨g, q⟩ hq
  dsimp only at hq ⊢
  repeat (first | (apply wx_val; (first | exact v_move rfl | exact v_assign rfl | exact v_len rfl rfl | exact v_eqnil rfl rfl rfl); rfl) | refine wc_seq ?_ | refine wc_region ?_ | refine wx_nil ?_ | refine wq_next ?_ | refine wc_block ?_ | refine wc_skip ?_ | refine wc_cat ?_ | refine wc_condF rfl ?_)
  refine wc_mem (M' := [q.seg g ([] : Ks).length]) rfl ?_
  refine wc_loopK (ι := Nat × Ks × Fo) [0, 1, 2, 7, 21, 22] (fun z => [(8, .int .i64 ((ovK kO lo hi z.2.1).length : Nat)), (23, .int .i64 (z.1 : Nat))]) (fun z => [z.2.2.seg g z.2.1.length]) (fun z => z.1 ≤ l.length ∧ FoOk z.1 z.2.1 z.2.2 ∧ Rgt z.2.1) (fun z => l.length - z.1) ((0, [], q)) rfl ?_ (by repeat (first | exact trivial | refine ⟨rfl, ?_⟩)) ?_
  · exact ⟨by omega, hq, Rgt.nil⟩
  clear hq q
  rintro ⟨i, B, q⟩ ⟨h1, h2, h3⟩
  try dsimp only
  refine wc_fcat ?_
  refine wc_cat ?_
  dsimp only at h1 h2 h3
  repeat (first | (apply wx_val; (first | exact v_lt rfl rfl); rfl) | refine wc_seq ?_ | refine wc_region ?_ | refine wx_nil ?_ | refine wq_next ?_)
  refine wc_if rfl (fun hd => ?_) (fun hd => ?_)
  · have hlt : i < l.length := by omega
    obtain ⟨s, hs⟩ : ∃ s, l[i]? = some s := ⟨l[i], List.getElem?_eq_getElem hlt⟩
    obtain ⟨ga, oa, rfl, hcell⟩ := hv.atF (f := Sp.cells) (k := 3) (fun _ => rfl) (by decide) (show 0 < l.length by omega)
    have c1 := fun w' ho => Insert_law (g := g) kO s h2 (by omega) w' ho
    have hoi := ovK_ins (k := kO) (lo := lo) (hi := hi) (A := B) (s := s)
    have hol := ovK_len (k := kO) (lo := lo) (hi := hi) (A := B)
    have hls := h2.lens.1
    have h4 := h3.put kO s
    repeat (first | (apply wx_val; (first | exact v_iaddr rfl rfl rfl (by omega)); rfl) | refine wc_seq ?_ | refine wc_region ?_ | refine wq_next ?_ | refine wc_block ?_ | refine wc_skip ?_)
    (try refine wx_ungd rfl rfl ?_)
    apply wx_val
    exact v_loadA (cs := s.cells) rfl rfl (fun w' hr j u hj => hcell i s j u hs hj hr (by rw [Int.toNat_natCast]))
    rfl
    skip
    refine wl_alloc rfl rfl (fun g10 => ?_)
    repeat (first | (apply wx_val; (first | exact v_move rfl | (first | exact v_ldQ 0 0 rfl rfl rfl rfl rfl)); rfl) | refine wc_seq ?_ | refine wc_region ?_ | refine wx_nil ?_ | refine wq_next ?_ | refine wx_setn ?_ | refine wl_stAT rfl rfl (by rfl) (by rfl) (by exact .inl (Nat.le_refl _)) rfl ?_)
    refine wl_callT (fun w' hr ho => c1 w' ho) rfl rfl rfl ?_
    intro q2 h5
    refine wx_cat ?_
    by_cases hc : insCode kO s (hasA (kO, s) B) = 0
    · have eN : insN kO s B = insAll (kO, s) B := if_pos hc
      rw [eN] at h4 h5 ⊢
      rw [hc]
      by_cases ha : s.a < hi
      · by_cases hb : lo < s.b
        · rw [if_pos ⟨ha, hb⟩] at hoi
          repeat (first | (apply wx_val; (first | exact v_move rfl | exact v_faddr rfl rfl | exact v_ldT rfl rfl rfl (by rfl) | exact v_eq rfl rfl | exact v_lt rfl rfl | exact v_pickT rfl rfl); rfl) | refine wx_ungd rfl rfl ?_)
          refine wx_gset true rfl rfl (decide_eq_true ha) ?_
          repeat (first | (apply wx_val; (first | exact v_move rfl | exact v_faddr rfl rfl | exact v_ldT rfl rfl rfl (by rfl) | exact v_gt rfl rfl | exact v_pickT rfl rfl); rfl) | refine wx_ungd rfl rfl ?_ | refine wx_nil ?_ | refine wq_next ?_)
          refine wc_yes rfl (decide_eq_true hb) ?_
          repeat (first | (apply wx_val; (first | exact v_move rfl | exact v_assign rfl | exact v_addi rfl rfl (by omega)); rfl) | refine wc_region ?_ | refine wx_nil ?_ | refine wq_next ?_ | refine wq_block ?_)
          rw [show ((ovK kO lo hi B).length : Int) + 1 = ((ovK kO lo hi (insAll (kO, s) B)).length : Nat) by omega]
          skip
          refine wq_roundK ((i + 1, insAll (kO, s) B, q2)) ?_ ?_ (by repeat (first | exact trivial | refine ⟨rfl, ?_⟩)) (by first | exact catEq | exact rfl)
          · exact ⟨by dsimp only; omega, h5, h4⟩
          · show l.length - (i + 1) < l.length - i
            omega
        · rw [if_neg (fun e => hb e.2)] at hoi
          rw [show (ovK kO lo hi B).length = (ovK kO lo hi (insAll (kO, s) B)).length by omega]
          repeat (first | (apply wx_val; (first | exact v_move rfl | exact v_faddr rfl rfl | exact v_ldT rfl rfl rfl (by rfl) | exact v_eq rfl rfl | exact v_lt rfl rfl | exact v_pickT rfl rfl); rfl) | refine wx_ungd rfl rfl ?_)
          refine wx_gset true rfl rfl (decide_eq_true ha) ?_
          repeat (first | (apply wx_val; (first | exact v_move rfl | exact v_faddr rfl rfl | exact v_ldT rfl rfl rfl (by rfl) | exact v_gt rfl rfl | exact v_pickT rfl rfl); rfl) | refine wx_ungd rfl rfl ?_ | refine wx_nil ?_ | refine wq_next ?_)
          refine wc_not rfl (decide_eq_false hb) ?_
          repeat (first | (apply wx_val; (first | exact v_move rfl | exact v_addi rfl rfl (by omega)); rfl) | refine wc_region ?_ | refine wx_nil ?_ | refine wq_next ?_ | refine wc_skip ?_ | refine wq_block ?_)
          refine wq_roundK ((i + 1, insAll (kO, s) B, q2)) ?_ ?_ (by repeat (first | exact trivial | refine ⟨rfl, ?_⟩)) (by first | exact catEq | exact rfl)
          · exact ⟨by dsimp only; omega, h5, h4⟩
          · show l.length - (i + 1) < l.length - i
            omega
      · rw [if_neg (fun e => ha e.1)] at hoi
        rw [show (ovK kO lo hi B).length = (ovK kO lo hi (insAll (kO, s) B)).length by omega]
        repeat (first | (apply wx_val; (first | exact v_move rfl | exact v_faddr rfl rfl | exact v_ldT rfl rfl rfl (by rfl) | exact v_eq rfl rfl | exact v_lt rfl rfl | exact v_pickT rfl rfl); rfl) | refine wx_ungd rfl rfl ?_)
        refine wx_gset false rfl rfl (decide_eq_false ha) ?_
        repeat (first | (apply wx_val; (first | exact v_move rfl | exact v_addi rfl rfl (by omega) | exact v_pickF rfl rfl); rfl) | refine wx_no rfl rfl rfl ?_ | refine wc_region ?_ | refine wx_nil ?_ | refine wq_next ?_ | refine wc_skip ?_ | refine wq_block ?_ | refine wc_condF rfl ?_)
        refine wq_roundK ((i + 1, insAll (kO, s) B, q2)) ?_ ?_ (by repeat (first | exact trivial | refine ⟨rfl, ?_⟩)) (by first | exact catEq | exact rfl)
        · exact ⟨by dsimp only; omega, h5, h4⟩
        · show l.length - (i + 1) < l.length - i
          omega
    · have eN : insN kO s B = B := if_neg hc
      rw [eN] at h4 h5 ⊢
      repeat (first | (apply wx_val; (first | exact v_move rfl | exact v_eq rfl rfl); rfl))
      refine wx_gset false rfl rfl (decide_eq_false hc) ?_
      repeat (first | (apply wx_val; (first | exact v_move rfl | exact v_addi rfl rfl (by omega) | exact v_pickF rfl rfl); rfl) | refine wx_no rfl rfl rfl ?_ | refine wc_region ?_ | refine wx_nil ?_ | refine wq_next ?_ | refine wc_skip ?_ | refine wq_block ?_ | refine wc_condF rfl ?_)
      refine wq_roundK ((i + 1, B, q2)) ?_ ?_ (by repeat (first | exact trivial | refine ⟨rfl, ?_⟩)) (by first | exact catEq | exact rfl)
      · exact ⟨by dsimp only; omega, h5, h4⟩
      · show l.length - (i + 1) < l.length - i
        omega
  obtain rfl : i = l.length := by omega
  clear hd h1
  have c1 := fun w' ho => Overlap_law (g := g) kO lo hi h2 (by omega) w' ho
  have c2 := fun w' ho => First_law (g := g) kO lo hi h2 (by omega) w' ho
  have hoM := fun s => ovK_mem (k := kO) (lo := lo) (hi := hi) (A := B) (s := s)
  have hoS := ovK_srt (k := kO) (lo := lo) (hi := hi) h2.ok
  have hoL := ovK_len (k := kO) (lo := lo) (hi := hi) (A := B)
  have hls := h2.lens.1
  have hF := firstS_spec (ovK kO lo hi B)
  generalize ovK kO lo hi B = O at *
  repeat (first | (apply wx_val; (first | exact v_move rfl); rfl) | refine wc_seq ?_ | refine wc_region ?_ | refine wq_next ?_ | refine wc_exit ?_ | refine wq_then_exit ?_ | refine wq_block_exit rfl ?_)
  refine wl_callT (fun w' hr ho => c1 w' ho) rfl rfl rfl ?_
  rintro ⟨A11, c11, E11⟩ hb
  dsimp only at hb ⊢
  refine wx_cat ?_
  repeat (first | (apply wx_val; (first | exact v_move rfl | exact v_assign rfl); rfl) | refine wc_seq ?_ | refine wc_region ?_ | refine wx_nil ?_ | refine wq_next ?_)
  refine wl_callT (fun w' hr ho => c2 w' ho) rfl rfl rfl ?_
  rintro - -
  clear c1 c2
  rcases hF with ⟨rfl, hf⟩ | ⟨hp, f, hf, hfm, hfl⟩
  · rw [hf]
    dsimp only [Option.getD_none, Option.isSome_none, List.length_nil]
    repeat (first | (apply wx_val; (first | exact v_move rfl | exact v_extract rfl rfl); rfl) | refine wx_cat ?_)
    refine wl_alloc rfl rfl (fun g12 => ?_)
    repeat (first | (apply wx_val; (first | exact v_move rfl | exact v_assign rfl | exact v_len rfl rfl | exact v_ne rfl rfl | exact v_gt rfl rfl | exact v_pickF rfl rfl | exact v_bne rfl rfl rfl); rfl) | refine wx_ungd rfl rfl ?_ | refine wc_seq ?_ | refine wc_region ?_ | refine wx_nil ?_ | refine wq_next ?_ | refine wc_block ?_ | refine wc_skip ?_ | refine wc_setn ?_ | refine wc_condF rfl ?_ | refine wl_stAT rfl rfl (by rfl) (by rfl) (by exact .inl (Nat.le_refl _)) rfl ?_)
    refine wc_unroll ?_
    repeat (first | (apply wx_val; (first | exact v_move rfl | exact v_assign rfl | exact v_lt rfl rfl | exact v_not rfl | exact v_pickT rfl rfl); rfl) | refine wx_no rfl rfl rfl ?_ | refine wx_undef rfl rfl rfl ?_ | refine wc_seq ?_ | refine wc_region ?_ | refine wx_nil ?_ | refine wq_next ?_ | refine wc_ret ?_ | refine wc_exit ?_ | refine wq_then_exit ?_ | refine wq_block_exit rfl ?_ | refine wc_condF rfl ?_)
    exact wq_clear (wq_ret1 () rfl rfl trivial rfl)
  rw [hf]
  dsimp only [Option.getD_some, Option.isSome_some]
  repeat (first | (apply wx_val; (first | exact v_move rfl | exact v_extract rfl rfl); rfl) | refine wx_cat ?_)
  refine wl_alloc rfl rfl (fun g12 => ?_)
  repeat (first | (apply wx_val; (first | exact v_move rfl | exact v_assign rfl | exact v_len rfl rfl | exact v_ne rfl rfl); rfl) | refine wc_seq ?_ | refine wc_region ?_ | refine wx_nil ?_ | refine wq_next ?_ | refine wx_setn ?_ | refine wl_stAT rfl rfl (by rfl) (by rfl) (by exact .inl (Nat.le_refl _)) rfl ?_)
  refine wx_gset false rfl rfl (decide_eq_false (by simp)) ?_
  repeat (first | (apply wx_val; (first | exact v_move rfl | exact v_gt rfl rfl | exact v_pickF rfl rfl | exact v_bne rfl rfl rfl); rfl) | refine wx_ungd rfl rfl ?_ | refine wx_nil ?_ | refine wq_next ?_)
  refine wc_not rfl (by simp; omega) ?_
  obtain ⟨g11, hA11⟩ := hb.ptr hp
  repeat (first | (apply wx_val; (first | exact v_move rfl | exact v_len rfl rfl); rfl) | refine wc_seq ?_ | refine wc_region ?_ | refine wx_nil ?_ | refine wq_next ?_ | refine wc_block ?_ | refine wc_skip ?_)
  refine wc_loopK (ι := Nat × Fo) [0, 1, 2, 7, 11, 12, 13, 67, 68] (fun z => [(69, .int .i64 (z.1 : Nat))]) (fun z => [z.2.seg g B.length]) (fun z => z.1 ≤ O.length ∧ FoOk (l.length + z.1) B z.2) (fun z => O.length - z.1) ((0, q)) rfl ?_ (by repeat (first | exact trivial | refine ⟨rfl, ?_⟩)) ?_
  · exact ⟨by omega, h2⟩
  clear h2
  rintro ⟨p, q⟩ ⟨h1, h2⟩
  try dsimp only
  refine wc_fcat ?_
  refine wc_cat ?_
  dsimp only at h1 h2
  repeat (first | (apply wx_val; (first | exact v_lt rfl rfl); rfl) | refine wc_seq ?_ | refine wc_region ?_ | refine wx_nil ?_ | refine wq_next ?_)
  refine wc_if rfl (fun hd => ?_) (fun hd => ?_)
  · have hlt : p < O.length := by omega
    obtain ⟨s, hs⟩ : ∃ s, O[p]? = some s := ⟨O[p], List.getElem?_eq_getElem hlt⟩
    have hsm := List.mem_of_getElem? hs
    obtain ⟨m1, m2, m3⟩ := (hoM s).1 hsm
    have hnl := hfl s hsm
    unfold lexF at hnl
    have c1 := fun w' ho => Insert_law (g := g) kO s h2 (by omega) w' ho
    rw [(h3.two m1).1, (h3.two m1).2] at c1
    repeat (first | (apply wx_val; (first | exact v_move rfl | exact v_iaddrE (by assumption) rfl rfl rfl (by omega)); rfl) | refine wc_seq ?_ | refine wc_region ?_ | refine wq_next ?_ | refine wc_block ?_ | refine wc_skip ?_)
    (try refine wx_ungd rfl rfl ?_)
    apply wx_val
    exact v_elemT hA11 hb (by decide) (fun _ => rfl) hs rfl (by rw [Int.toNat_natCast]) rfl
    rfl
    skip
    refine wl_alloc rfl rfl (fun g15 => ?_)
    iterate 5 (first | (apply wx_val; (first | exact v_assign rfl); rfl) | refine wc_seq ?_ | refine wx_nil ?_ | refine wq_next ?_ | refine wl_stAT rfl rfl (by rfl) (by rfl) (by exact .inl (Nat.le_refl _)) rfl ?_)
    refine wc_setn ?_
    refine wc_meetK (ι := Unit) [0, 1, 2, 7, 11, 12, 13, 14, 15, 67, 68, 69] (fun _ => []) (fun _ => []) (M1 := []) (fun _ => True) rfl ?_ ?_
    · by_cases hq : s.b = f.b
      · skip
        repeat (first | (apply wx_val; (first | exact v_move rfl | exact v_faddr rfl rfl | exact v_ldT rfl rfl rfl (by rfl) | exact v_ge rfl rfl); rfl) | refine wc_seq ?_ | refine wc_region ?_ | refine wx_cat ?_)
        refine wx_gset false rfl rfl (decide_eq_false (by omega)) ?_
        repeat (first | (apply wx_val; (first | exact v_move rfl | exact v_faddr rfl rfl | exact v_ldT rfl rfl rfl (by rfl) | exact v_le rfl rfl | exact v_pickF rfl rfl); rfl) | refine wx_ungd rfl rfl ?_)
        refine wx_gset false rfl rfl (decide_eq_false (by omega)) ?_
        repeat (first | (apply wx_val; (first | exact v_move rfl | exact v_faddr rfl rfl | exact v_ldT rfl rfl rfl (by rfl) | exact v_lt rfl rfl | exact v_pickF rfl rfl); rfl) | refine wx_ungd rfl rfl ?_)
        refine wx_gset false rfl rfl (decide_eq_false (by omega)) ?_
        repeat (first | (apply wx_val; (first | exact v_move rfl | exact v_faddr rfl rfl | exact v_ldT rfl rfl rfl (by rfl) | exact v_eq rfl rfl); rfl) | refine wx_ungd rfl rfl ?_)
        refine wx_gset true rfl rfl (decide_eq_true hq) ?_
        repeat (first | (apply wx_val; (first | exact v_faddr rfl rfl | exact v_ldT rfl rfl rfl (by rfl) | exact v_lt rfl rfl | exact v_pickT rfl rfl | exact v_pickF rfl rfl); rfl) | refine wx_ungd rfl rfl ?_ | refine wx_nil ?_ | refine wq_next ?_)
        refine wc_not rfl (decide_eq_false (by omega)) ?_
        repeat (first | refine wc_skip ?_)
        refine wq_cutK (()) ?_ (by repeat (first | exact trivial | refine ⟨rfl, ?_⟩)) (by first | exact catEq | exact rfl)
        trivial
      · skip
        repeat (first | (apply wx_val; (first | exact v_move rfl | exact v_faddr rfl rfl | exact v_ldT rfl rfl rfl (by rfl) | exact v_ge rfl rfl); rfl) | refine wc_seq ?_ | refine wc_region ?_ | refine wx_cat ?_)
        refine wx_gset false rfl rfl (decide_eq_false (by omega)) ?_
        repeat (first | (apply wx_val; (first | exact v_move rfl | exact v_faddr rfl rfl | exact v_ldT rfl rfl rfl (by rfl) | exact v_le rfl rfl | exact v_pickF rfl rfl); rfl) | refine wx_ungd rfl rfl ?_)
        refine wx_gset false rfl rfl (decide_eq_false (by omega)) ?_
        repeat (first | (apply wx_val; (first | exact v_move rfl | exact v_faddr rfl rfl | exact v_ldT rfl rfl rfl (by rfl) | exact v_lt rfl rfl | exact v_pickF rfl rfl); rfl) | refine wx_ungd rfl rfl ?_)
        refine wx_gset false rfl rfl (decide_eq_false (by omega)) ?_
        repeat (first | (apply wx_val; (first | exact v_move rfl | exact v_faddr rfl rfl | exact v_ldT rfl rfl rfl (by rfl) | exact v_eq rfl rfl); rfl) | refine wx_ungd rfl rfl ?_)
        refine wx_gset false rfl rfl (decide_eq_false hq) ?_
        repeat (first | (apply wx_val; (first | exact v_pickF rfl rfl); rfl) | refine wx_no rfl rfl rfl ?_ | refine wx_ungd rfl rfl ?_ | refine wx_nil ?_ | refine wq_next ?_ | refine wc_skip ?_ | refine wc_condF rfl ?_)
        refine wq_cutK (()) ?_ (by repeat (first | exact trivial | refine ⟨rfl, ?_⟩)) (by first | exact catEq | exact rfl)
        trivial
    rintro - -
    refine wc_fcat ?_
    refine wc_cat ?_
    iterate 1 (first | refine wc_seq ?_)
    refine wc_meetK (ι := Unit) [0, 1, 2, 7, 11, 12, 13, 14, 15, 67, 68, 69] (fun _ => []) (fun _ => []) (M1 := []) (fun _ => True) rfl ?_ ?_
    · cases p with
      | zero =>
        repeat (first | (apply wx_val; (first | exact v_move rfl | exact v_gt rfl rfl | exact v_pickF rfl rfl); rfl) | refine wx_no rfl rfl rfl ?_ | refine wx_undef rfl rfl rfl ?_ | refine wc_seq ?_ | refine wx_nil ?_ | refine wq_next ?_ | refine wc_skip ?_ | refine wc_cat ?_ | refine wc_reads rfl (by decide +kernel) ?_ | refine wc_condF rfl ?_)
        refine wq_cutK (()) ?_ (by repeat (first | exact trivial | refine ⟨rfl, ?_⟩)) (by first | exact catEq | exact rfl)
        trivial
      | succ p =>
        obtain ⟨u, hu⟩ : ∃ u, O[p]? = some u := ⟨O[p], List.getElem?_eq_getElem (by omega)⟩
        have hus : ltS u s := by
          have h1 := List.getElem?_eq_some_iff.1 hu
          have h2 := List.getElem?_eq_some_iff.1 hs
          rw [← h1.2, ← h2.2]
          exact List.pairwise_iff_getElem.1 hoS p (p + 1) _ _ (by omega)
        unfold ltS at hus
        by_cases e1 : u.a = s.a
        · by_cases e2 : u.b = s.b
          · skip
            repeat (first | (apply wx_val; (first | exact v_move rfl | exact v_gt rfl rfl); rfl) | refine wc_seq ?_ | refine wc_cat ?_ | refine wc_reads rfl (by decide +kernel) ?_)
            refine wx_gset true rfl rfl (decide_eq_true (by omega)) ?_
            repeat (first | (apply wx_val; (first | exact v_move rfl | exact v_faddr rfl rfl | exact v_subi rfl rfl (by omega) | exact v_iaddrE (by assumption) rfl rfl rfl (by omega)); rfl) | refine wx_ungd rfl rfl ?_)
            (try refine wx_ungd rfl rfl ?_)
            apply wx_val
            exact v_load rfl rfl rfl (fun w' hr => hb.elemT (i := p) hA11 (by decide) (fun _ => rfl) hu hr (j := 0) rfl (by omega))
            rfl
            repeat (first | (apply wx_val; (first | exact v_move rfl | exact v_faddr rfl rfl | exact v_ldT rfl rfl rfl (by rfl) | exact v_gt rfl rfl); rfl) | refine wx_ungd rfl rfl ?_)
            refine wx_gset false rfl rfl (decide_eq_false (by omega)) ?_
            repeat (first | (apply wx_val; (first | exact v_move rfl | exact v_faddr rfl rfl | exact v_subi rfl rfl (by omega) | exact v_iaddrE (by assumption) rfl rfl rfl (by omega)); rfl) | refine wx_ungd rfl rfl ?_)
            (try refine wx_ungd rfl rfl ?_)
            apply wx_val
            exact v_load rfl rfl rfl (fun w' hr => hb.elemT (i := p) hA11 (by decide) (fun _ => rfl) hu hr (j := 0) rfl (by omega))
            rfl
            repeat (first | (apply wx_val; (first | exact v_move rfl | exact v_faddr rfl rfl | exact v_ldT rfl rfl rfl (by rfl) | exact v_eq rfl rfl); rfl) | refine wx_ungd rfl rfl ?_)
            refine wx_gset true rfl rfl (decide_eq_true (by omega)) ?_
            repeat (first | (apply wx_val; (first | exact v_move rfl | exact v_faddr rfl rfl | exact v_subi rfl rfl (by omega) | exact v_iaddrE (by assumption) rfl rfl rfl (by omega)); rfl) | refine wx_ungd rfl rfl ?_)
            (try refine wx_ungd rfl rfl ?_)
            apply wx_val
            exact v_load rfl rfl rfl (fun w' hr => hb.elemT (i := p) hA11 (by decide) (fun _ => rfl) hu hr (j := 1) rfl (by omega))
            rfl
            repeat (first | (apply wx_val; (first | exact v_move rfl | exact v_faddr rfl rfl | exact v_ldT rfl rfl rfl (by rfl) | exact v_gt rfl rfl); rfl) | refine wx_ungd rfl rfl ?_)
            refine wx_gset false rfl rfl (decide_eq_false (by omega)) ?_
            repeat (first | (apply wx_val; (first | exact v_move rfl | exact v_faddr rfl rfl | exact v_subi rfl rfl (by omega) | exact v_iaddrE (by assumption) rfl rfl rfl (by omega)); rfl) | refine wx_ungd rfl rfl ?_)
            (try refine wx_ungd rfl rfl ?_)
            apply wx_val
            exact v_load rfl rfl rfl (fun w' hr => hb.elemT (i := p) hA11 (by decide) (fun _ => rfl) hu hr (j := 1) rfl (by omega))
            rfl
            repeat (first | (apply wx_val; (first | exact v_move rfl | exact v_faddr rfl rfl | exact v_ldT rfl rfl rfl (by rfl) | exact v_eq rfl rfl); rfl) | refine wx_ungd rfl rfl ?_)
            refine wx_gset true rfl rfl (decide_eq_true (by omega)) ?_
            repeat (first | (apply wx_val; (first | exact v_move rfl | exact v_faddr rfl rfl | exact v_subi rfl rfl (by omega) | exact v_iaddrE (by assumption) rfl rfl rfl (by omega)); rfl) | refine wx_ungd rfl rfl ?_)
            (try refine wx_ungd rfl rfl ?_)
            apply wx_val
            exact v_load rfl rfl rfl (fun w' hr => hb.elemT (i := p) hA11 (by decide) (fun _ => rfl) hu hr (j := 2) rfl (by omega))
            rfl
            repeat (first | (apply wx_val; (first | exact v_faddr rfl rfl | exact v_ldT rfl rfl rfl (by rfl) | exact v_ge rfl rfl | exact v_pickT rfl rfl | exact v_pickF rfl rfl); rfl) | refine wx_ungd rfl rfl ?_ | refine wx_nil ?_ | refine wq_next ?_)
            refine wc_not rfl (decide_eq_false (by omega)) ?_
            repeat (first | refine wc_skip ?_)
            refine wq_cutK (()) ?_ (by repeat (first | exact trivial | refine ⟨rfl, ?_⟩)) (by first | exact catEq | exact rfl)
            trivial
          · skip
            repeat (first | (apply wx_val; (first | exact v_move rfl | exact v_gt rfl rfl); rfl) | refine wc_seq ?_ | refine wc_cat ?_ | refine wc_reads rfl (by decide +kernel) ?_)
            refine wx_gset true rfl rfl (decide_eq_true (by omega)) ?_
            repeat (first | (apply wx_val; (first | exact v_move rfl | exact v_faddr rfl rfl | exact v_subi rfl rfl (by omega) | exact v_iaddrE (by assumption) rfl rfl rfl (by omega)); rfl) | refine wx_ungd rfl rfl ?_)
            (try refine wx_ungd rfl rfl ?_)
            apply wx_val
            exact v_load rfl rfl rfl (fun w' hr => hb.elemT (i := p) hA11 (by decide) (fun _ => rfl) hu hr (j := 0) rfl (by omega))
            rfl
            repeat (first | (apply wx_val; (first | exact v_move rfl | exact v_faddr rfl rfl | exact v_ldT rfl rfl rfl (by rfl) | exact v_gt rfl rfl); rfl) | refine wx_ungd rfl rfl ?_)
            refine wx_gset false rfl rfl (decide_eq_false (by omega)) ?_
            repeat (first | (apply wx_val; (first | exact v_move rfl | exact v_faddr rfl rfl | exact v_subi rfl rfl (by omega) | exact v_iaddrE (by assumption) rfl rfl rfl (by omega)); rfl) | refine wx_ungd rfl rfl ?_)
            (try refine wx_ungd rfl rfl ?_)
            apply wx_val
            exact v_load rfl rfl rfl (fun w' hr => hb.elemT (i := p) hA11 (by decide) (fun _ => rfl) hu hr (j := 0) rfl (by omega))
            rfl
            repeat (first | (apply wx_val; (first | exact v_move rfl | exact v_faddr rfl rfl | exact v_ldT rfl rfl rfl (by rfl) | exact v_eq rfl rfl); rfl) | refine wx_ungd rfl rfl ?_)
            refine wx_gset true rfl rfl (decide_eq_true (by omega)) ?_
            repeat (first | (apply wx_val; (first | exact v_move rfl | exact v_faddr rfl rfl | exact v_subi rfl rfl (by omega) | exact v_iaddrE (by assumption) rfl rfl rfl (by omega)); rfl) | refine wx_ungd rfl rfl ?_)
            (try refine wx_ungd rfl rfl ?_)
            apply wx_val
            exact v_load rfl rfl rfl (fun w' hr => hb.elemT (i := p) hA11 (by decide) (fun _ => rfl) hu hr (j := 1) rfl (by omega))
            rfl
            repeat (first | (apply wx_val; (first | exact v_move rfl | exact v_faddr rfl rfl | exact v_ldT rfl rfl rfl (by rfl) | exact v_gt rfl rfl); rfl) | refine wx_ungd rfl rfl ?_)
            refine wx_gset false rfl rfl (decide_eq_false (by omega)) ?_
            repeat (first | (apply wx_val; (first | exact v_move rfl | exact v_faddr rfl rfl | exact v_subi rfl rfl (by omega) | exact v_iaddrE (by assumption) rfl rfl rfl (by omega)); rfl) | refine wx_ungd rfl rfl ?_)
            (try refine wx_ungd rfl rfl ?_)
            apply wx_val
            exact v_load rfl rfl rfl (fun w' hr => hb.elemT (i := p) hA11 (by decide) (fun _ => rfl) hu hr (j := 1) rfl (by omega))
            rfl
            repeat (first | (apply wx_val; (first | exact v_move rfl | exact v_faddr rfl rfl | exact v_ldT rfl rfl rfl (by rfl) | exact v_eq rfl rfl); rfl) | refine wx_ungd rfl rfl ?_)
            refine wx_gset false rfl rfl (decide_eq_false (by omega)) ?_
            repeat (first | (apply wx_val; (first | exact v_pickT rfl rfl | exact v_pickF rfl rfl); rfl) | refine wx_no rfl rfl rfl ?_ | refine wx_ungd rfl rfl ?_ | refine wx_nil ?_ | refine wq_next ?_ | refine wc_skip ?_ | refine wc_condF rfl ?_)
            refine wq_cutK (()) ?_ (by repeat (first | exact trivial | refine ⟨rfl, ?_⟩)) (by first | exact catEq | exact rfl)
            trivial
        · skip
          repeat (first | (apply wx_val; (first | exact v_move rfl | exact v_gt rfl rfl); rfl) | refine wc_seq ?_ | refine wc_cat ?_ | refine wc_reads rfl (by decide +kernel) ?_)
          refine wx_gset true rfl rfl (decide_eq_true (by omega)) ?_
          repeat (first | (apply wx_val; (first | exact v_move rfl | exact v_faddr rfl rfl | exact v_subi rfl rfl (by omega) | exact v_iaddrE (by assumption) rfl rfl rfl (by omega)); rfl) | refine wx_ungd rfl rfl ?_)
          (try refine wx_ungd rfl rfl ?_)
          apply wx_val
          exact v_load rfl rfl rfl (fun w' hr => hb.elemT (i := p) hA11 (by decide) (fun _ => rfl) hu hr (j := 0) rfl (by omega))
          rfl
          repeat (first | (apply wx_val; (first | exact v_move rfl | exact v_faddr rfl rfl | exact v_ldT rfl rfl rfl (by rfl) | exact v_gt rfl rfl); rfl) | refine wx_ungd rfl rfl ?_)
          refine wx_gset false rfl rfl (decide_eq_false (by omega)) ?_
          repeat (first | (apply wx_val; (first | exact v_move rfl | exact v_faddr rfl rfl | exact v_subi rfl rfl (by omega) | exact v_iaddrE (by assumption) rfl rfl rfl (by omega)); rfl) | refine wx_ungd rfl rfl ?_)
          (try refine wx_ungd rfl rfl ?_)
          apply wx_val
          exact v_load rfl rfl rfl (fun w' hr => hb.elemT (i := p) hA11 (by decide) (fun _ => rfl) hu hr (j := 0) rfl (by omega))
          rfl
          repeat (first | (apply wx_val; (first | exact v_move rfl | exact v_faddr rfl rfl | exact v_ldT rfl rfl rfl (by rfl) | exact v_eq rfl rfl); rfl) | refine wx_ungd rfl rfl ?_)
          refine wx_gset false rfl rfl (decide_eq_false (by omega)) ?_
          repeat (first | (apply wx_val; (first | exact v_pickT rfl rfl | exact v_pickF rfl rfl); rfl) | refine wx_no rfl rfl rfl ?_ | refine wx_undef rfl rfl rfl ?_ | refine wx_ungd rfl rfl ?_ | refine wx_nil ?_ | refine wq_next ?_ | refine wc_skip ?_ | refine wc_condF rfl ?_)
          refine wq_cutK (()) ?_ (by repeat (first | exact trivial | refine ⟨rfl, ?_⟩)) (by first | exact catEq | exact rfl)
          trivial
    rintro - -
    refine wc_fcat ?_
    refine wc_cat ?_
    repeat (first | (apply wx_val; (first | exact v_move rfl | exact v_ldAT rfl (by rfl)); rfl) | refine wc_seq ?_ | refine wc_region ?_)
    refine wl_callT (fun w' hr ho => c1 w' ho) rfl rfl rfl ?_
    intro q2 h5
    refine wx_cat ?_
    repeat (first | (apply wx_val; (first | exact v_move rfl | exact v_ne rfl rfl | exact v_addi rfl rfl (by omega)); rfl) | refine wc_region ?_ | refine wx_nil ?_ | refine wq_next ?_ | refine wc_skip ?_ | refine wq_block ?_ | refine wc_condF rfl ?_)
    refine wq_roundK ((p + 1, q2)) ?_ ?_ (by repeat (first | exact trivial | refine ⟨rfl, ?_⟩)) (by first | exact catEq | exact rfl)
    · exact ⟨by dsimp only; omega, h5.up (by dsimp only; omega)⟩
    · show O.length - (p + 1) < O.length - p
      omega
  · have c1 := fun w' ho => Remove_law (g := g) kO f h2 (by omega) w' ho
    obtain ⟨m1, m2, m3⟩ := (hoM f).1 hfm
    rw [hasA_iff.2 m1] at c1
    repeat (first | (apply wx_val; (first | exact v_move rfl | exact v_faddr rfl rfl | exact v_ldT rfl rfl rfl (by rfl) | exact v_lt rfl rfl | exact v_not rfl); rfl) | refine wx_ungd rfl rfl ?_ | refine wc_seq ?_ | refine wc_region ?_ | refine wq_next ?_ | refine wc_exit ?_ | refine wq_then_exit ?_ | refine wq_block_exit rfl ?_)
    refine wx_gset true rfl rfl (decide_eq_true m2) ?_
    repeat (first | (apply wx_val; (first | exact v_move rfl | exact v_faddr rfl rfl | exact v_ldT rfl rfl rfl (by rfl) | exact v_gt rfl rfl | exact v_pickT rfl rfl); rfl) | refine wx_ungd rfl rfl ?_)
    refine wx_gset true rfl rfl (decide_eq_true m3) ?_
    repeat (first | (apply wx_val; (first | exact v_move rfl | exact v_ldAT rfl (by rfl)); rfl) | refine wx_ungd rfl rfl ?_)
    refine wl_callT (fun w' hr ho => c1 w' ho) rfl rfl rfl ?_
    intro q2 h5
    repeat (first | (apply wx_val; (first | exact v_assign rfl | exact v_pickT rfl rfl | exact v_pickF rfl rfl); rfl) | refine wx_ungd rfl rfl ?_ | refine wx_nil ?_ | refine wq_next ?_ | refine wc_ret ?_ | refine wq_cat ?_)
    exact wq_clear (wq_ret1 () rfl rfl trivial rfl)
end Go.Proofs.Ytjeghbachokljaa
