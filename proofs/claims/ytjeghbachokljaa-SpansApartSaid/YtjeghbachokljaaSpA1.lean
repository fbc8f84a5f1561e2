/- Keys have nothing to do with one another; the order of putting in doesn't matter. -/
import Derived.Test.YtjeghbachokljaaSpFi
set_option linter.unusedVariables false
set_option linter.unusedSimpArgs false
namespace Go.Proofs.Ytjeghbachokljaa
open Go
set_option maxRecDepth 20000
set_option maxHeartbeats 2000000
attribute [local irreducible] WX WC WQ Val VCall WY WR
theorem mem_insN {k : ByteArray} {s : Sp} {A : Ks} {e : ByteArray × Sp} : e ∈ insN k s A ↔ e ∈ A ∨ (e = (k, s) ∧ insCode k s false = 0) := by
  unfold insN
  cases hh : hasA (k, s) A with
  | true =>
    have hm := hasA_iff.1 hh
    rw [if_neg (fun h => absurd (code_zero h) (by decide))]
    constructor
    · exact .inl
    · rintro (h | ⟨rfl, _⟩)
      · exact h
      · exact hm
  | false =>
    by_cases hc : insCode k s false = 0
    · rw [if_pos hc, (insAll_perm _ A).mem_iff, List.mem_cons]
      constructor
      · rintro (h | h)
        · exact .inr ⟨h, hc⟩
        · exact .inl h
      · rintro (h | ⟨h, _⟩)
        · exact .inr h
        · exact .inl h
    · rw [if_neg hc]
      constructor
      · exact .inl
      · rintro (h | ⟨_, h⟩)
        · exact h
        · exact absurd h hc
theorem srt_ext : ∀ {l m : List Sp}, l.Pairwise ltS → m.Pairwise ltS → (∀ x, x ∈ l ↔ x ∈ m) → l = m
  | [], [], _, _, _ => rfl
  | [], b :: m, _, _, h => by have := (h b).2 (List.mem_cons_self ..); cases this
  | a :: l, [], _, _, h => by have := (h a).1 (List.mem_cons_self ..); cases this
  | a :: l, b :: m, hl, hm, h => by
    obtain ⟨l1, l2⟩ := List.pairwise_cons.1 hl
    obtain ⟨m1, m2⟩ := List.pairwise_cons.1 hm
    have e : a = b := by
      rcases List.mem_cons.1 ((h a).1 (List.mem_cons_self ..)) with e | h1
      · exact e
      · rcases List.mem_cons.1 ((h b).2 (List.mem_cons_self ..)) with e | h2
        · exact e.symm
        · exact absurd (l1 b h2) (fun h3 => ltS_asym h3 (m1 a h1))
    subst e
    rw [srt_ext l2 m2 fun x => ?_]
    constructor
    · intro hx
      rcases List.mem_cons.1 ((h x).1 (List.mem_cons_of_mem _ hx)) with rfl | h1
      · exact absurd (l1 x hx) (ltS_irr x)
      · exact h1
    · intro hx
      rcases List.mem_cons.1 ((h x).2 (List.mem_cons_of_mem _ hx)) with rfl | h1
      · exact absurd (m1 x hx) (ltS_irr x)
      · exact h1
theorem ovK_del {k : ByteArray} {lo hi : Int} {A : Ks} {s : Sp} : ovK k lo hi (delAll (k, s) A) = (ovK k lo hi A).filter (fun x => decide (x ≠ s)) := by
  unfold ovK ovQ
  rw [ofK_del, if_pos rfl, List.filter_filter, List.filter_filter]
  congr 1
  funext x
  exact Bool.and_comm _ _
theorem head_drop {s : Sp} {l : List Sp} (hs : (s :: l).Pairwise ltS) : (s :: l).filter (fun x => decide (x ≠ s)) = l := by
  obtain ⟨h1, h2⟩ := List.pairwise_cons.1 hs
  rw [List.filter_cons_of_neg (by simp)]
  exact filter_ne fun hm => ltS_irr _ (h1 s hm)
/-- what a forest has of a key, where the spans of a list were put in -/
def HasOf (k : ByteArray) (l : List Sp) (A : Ks) : Prop := ∀ s, (k, s) ∈ A ↔ s ∈ l ∧ insCode k s false = 0
theorem HasOf.put {k : ByteArray} {l : List Sp} {A : Ks} (h : HasOf k l A) (s : Sp) : HasOf k (l ++ [s]) (insN k s A) := fun x => by
  rw [mem_insN, h x]
  constructor
  · rintro (⟨h1, h2⟩ | ⟨h1, h2⟩)
    · exact ⟨List.mem_append.2 (.inl h1), h2⟩
    · have : x = s := congrArg Prod.snd h1
      exact ⟨by rw [this]; simp, this ▸ h2⟩
  · rintro ⟨h1, h2⟩
    rcases List.mem_append.1 h1 with h1 | h1
    · exact .inl ⟨h1, h2⟩
    · have : x = s := List.mem_singleton.1 h1
      exact .inr ⟨by rw [this], this ▸ h2⟩
theorem HasOf.other {k k' : ByteArray} {l : List Sp} {A : Ks} (h : HasOf k l A) (hk : k ≠ k') (s : Sp) : HasOf k l (insN k' s A) := fun x => by
  rw [mem_insN, h x]
  constructor
  · rintro (h1 | ⟨h1, _⟩)
    · exact h1
    · exact absurd (congrArg Prod.fst h1) hk
  · exact .inl
theorem take_succ {α : Type} {l : List α} {i : Nat} {s : α} (h : l[i]? = some s) : l.take (i + 1) = l.take i ++ [s] := by
  rw [List.take_add_one, h]; rfl
abbrev spD (g : Nat) (s : Sp) : Seg := [(g, .cells s.cells.toArray 28 (0, 0))]
theorem Apart_law {A : Option Addr} {c : Nat} {l : List Sp} (hl : l.length ≤ 1048576) (ka kb : ByteArray) (lo hi : Int) (w : World) (hv : Vw [] w A (l.flatMap Sp.cells)) :
    Calls Try.prog 7 #[.slice A l.length c, .string ka, .string kb, .int .i64 lo, .int .i64 hi] w (Holds w) := by
  refine go [.slice A l.length c, .string ka, .string kb, .int .i64 lo, .int .i64 hi] [] Try.func7 Try.ntmps7 rfl rfl (own_nil w) ?_
  by_cases hg : ka = kb ∨ ka.size < 1 ∨ 8 < ka.size
  · skip
    repeat' (first | (apply wx_val; (first | exact v_move rfl | exact v_assign rfl | exact v_slen rfl rfl | exact v_lt rfl rfl | exact v_gt rfl rfl | exact v_streq rfl rfl | exact v_not rfl | exact v_pickT rfl rfl | exact v_pickF rfl rfl); rfl) | refine wx_no rfl rfl rfl ?_ | refine wx_ungd rfl rfl ?_ | refine wc_seq ?_ | refine wc_region ?_ | refine wx_nil ?_ | refine wq_next ?_ | refine wc_ret ?_ | refine wc_skip ?_ | refine wq_then_ret ?_ | refine wc_condT rfl ?_ | refine wc_condF rfl ?_ | (apply wx_vcall; exact vc_pure rfl rfl (fun w' => anchor_spec w'); rfl) | refine wc_if rfl (fun _ => ?_) (fun _ => ?_) | refine wx_gif rfl rfl (fun _ => ?_) (fun _ => ?_))
    all_goals first
      | exact wq_clear (wq_ret1 () rfl rfl trivial rfl)
      | (exfalso; rcases hg with h | h | h <;> first | contradiction | omega)
  have hk : ka ≠ kb := fun e => hg (.inl e)
  have hsz : 1 ≤ ka.size ∧ ka.size ≤ 8 := by omega
  clear hg
  repeat (first | (apply wx_val; (first | exact v_move rfl | exact v_assign rfl | exact v_streq rfl rfl | exact v_not rfl); rfl) | refine wc_seq ?_ | refine wc_region ?_ | refine wx_nil ?_ | refine wq_next ?_ | refine wc_skip ?_ | refine wc_condF rfl ?_ | (apply wx_vcall; exact vc_pure rfl rfl (fun w' => anchor_spec w'); rfl))
  refine wx_gset false rfl rfl (decide_eq_false hk) ?_
  repeat (first | (apply wx_val; (first | exact v_move rfl | exact v_slen rfl rfl | exact v_lt rfl rfl | exact v_pickF rfl rfl); rfl) | refine wx_ungd rfl rfl ?_)
  refine wx_gset false rfl rfl (decide_eq_false (by omega)) ?_
  repeat (first | (apply wx_val; (first | exact v_move rfl | exact v_slen rfl rfl | exact v_gt rfl rfl | exact v_pickF rfl rfl); rfl) | refine wx_ungd rfl rfl ?_ | refine wx_nil ?_ | refine wq_next ?_)
  refine wc_not rfl (decide_eq_false (by omega)) ?_
  repeat (first | refine wc_seq ?_ | refine wc_region ?_ | refine wq_next ?_ | refine wc_skip ?_)
  refine wl_callT (M1 := []) (fun w' hr ho => New_law w') rfl rfl rfl ?_
  rintro ⟨gf, q⟩ hq
  dsimp only at hq ⊢
  refine wx_cat ?_
  refine wl_callT (M1 := []) (fun w' hr ho => New_law w') rfl rfl rfl ?_
  rintro ⟨gg, r⟩ hr0
  dsimp only at hr0 ⊢
  refine wx_cat ?_
  repeat (first | (apply wx_val; (first | exact v_move rfl | exact v_assign rfl | exact v_len rfl rfl | exact v_eqnil rfl rfl rfl | exact v_pickF rfl rfl); rfl) | refine wx_ungd rfl rfl ?_ | refine wc_seq ?_ | refine wc_region ?_ | refine wx_nil ?_ | refine wq_next ?_ | refine wc_block ?_ | refine wc_skip ?_ | refine wc_condF rfl ?_)
  refine wc_mem (M' := [r.seg gg ([] : Ks).length, q.seg gf ([] : Ks).length]) rfl ?_
  refine wc_loopK (ι := Nat × Ks × Fo × Ks × Fo) [0, 1, 2, 3, 4, 11, 12, 44, 45] (fun z => [(46, .int .i64 (z.1 : Nat))]) (fun z => [z.2.2.1.seg gf z.2.1.length, z.2.2.2.2.seg gg z.2.2.2.1.length]) (fun z => z.1 ≤ l.length ∧ FoOk (2 * z.1) z.2.1 z.2.2.1 ∧ FoOk z.1 z.2.2.2.1 z.2.2.2.2 ∧ HasOf ka (l.take z.1) z.2.1 ∧ HasOf ka (l.reverse.take z.1) z.2.2.2.1) (fun z => l.length - z.1) ((0, [], q, [], r)) rfl ?_ (by repeat (first | exact trivial | refine ⟨rfl, ?_⟩)) ?_
  · exact ⟨by omega, hq, hr0, fun s => by simp, fun s => by simp⟩
  clear hq hr0 q r
  rintro ⟨i, B, q, C, r⟩ ⟨h1, h2, h3, h4, h5⟩
  try dsimp only
  refine wc_fcat ?_
  refine wc_cat ?_
  dsimp only at h1 h2 h3 h4 h5
  repeat (first | (apply wx_val; (first | exact v_lt rfl rfl); rfl) | refine wc_seq ?_ | refine wc_region ?_ | refine wx_nil ?_ | refine wq_next ?_)
  refine wc_if rfl (fun hd => ?_) (fun hd => ?_)
  · have hlt : i < l.length := by omega
    obtain ⟨s, hs⟩ : ∃ s, l[i]? = some s := ⟨l[i], List.getElem?_eq_getElem hlt⟩
    obtain ⟨s', hs'⟩ : ∃ s, l[l.length - 1 - i]? = some s := ⟨l[l.length - 1 - i], List.getElem?_eq_getElem (by omega)⟩
    have hrev : l.reverse[i]? = some s' := by rw [List.getElem?_reverse hlt]; exact hs'
    obtain ⟨ga, oa, rfl, hcell⟩ := hv.atF (f := Sp.cells) (k := 3) (fun _ => rfl) (by decide) (show 0 < l.length by omega)
    have c1 := fun w' ho => Insert_law (g := gf) ka s h2 (by omega) w' ho
    have c3 := fun w' ho => Insert_law (g := gg) ka s' h3 (by omega) w' ho
    have h6 := (h4.put s).other hk ⟨s.a, s.b, (i : Int) % 4096⟩
    have h7 := h5.put s'
    rw [← take_succ hs] at h6
    rw [← take_succ hrev] at h7
    repeat (first | (apply wx_val; (first | exact v_move rfl | exact v_iaddr rfl rfl rfl (by omega)); rfl) | refine wc_seq ?_ | refine wc_region ?_ | refine wq_next ?_ | refine wc_block ?_ | refine wc_skip ?_)
    (try refine wx_ungd rfl rfl ?_)
    apply wx_val
    exact v_loadA (cs := s.cells) rfl rfl (fun w' hr j u hj => hcell i s j u hs hj hr (by rw [Int.toNat_natCast]))
    rfl
    skip
    refine wl_alloc rfl rfl (fun g14 => ?_)
    repeat (first | (apply wx_val; (first | exact v_move rfl | exact v_assign rfl | (first | exact v_ldQ 0 0 rfl rfl rfl rfl rfl)); rfl) | refine wc_seq ?_ | refine wc_region ?_ | refine wx_nil ?_ | refine wq_next ?_ | refine wx_setn ?_ | refine wl_stAT rfl rfl (by rfl) (by rfl) (by exact .inl (Nat.le_refl _)) rfl ?_)
    refine wl_callT (fun w' hr ho => c1 w' ho) rfl rfl rfl ?_
    intro q1 k1
    have c2 := fun w' ho => Insert_law (g := gf) kb ⟨s.a, s.b, (i : Int) % 4096⟩ k1 (by omega) w' ho
    refine wx_cat ?_
    repeat (first | (apply wx_val; (first | exact v_move rfl | exact v_faddr rfl rfl | exact v_ldT rfl rfl rfl (by rfl) | exact v_remi rfl rfl (by omega)); rfl) | refine wc_seq ?_ | refine wc_region ?_ | refine wx_nil ?_ | refine wq_next ?_)
    (try refine wx_ungd rfl rfl ?_)
    apply wx_val
    exact v_build (cs := ((Sp.cells ⟨s.a, s.b, (i : Int) % 4096⟩)).toArray) rfl (by kernel_rfl)
    rfl
    skip
    refine wl_callT (fun w' hr ho => c2 w' ho) rfl rfl rfl ?_
    intro q2 k2
    refine wx_cat ?_
    repeat (first | (apply wx_val; (first | exact v_move rfl | exact v_len rfl rfl | exact v_subi rfl rfl (by omega) | exact v_iaddr rfl rfl rfl (by omega)); rfl) | refine wc_region ?_ | refine wx_nil ?_ | refine wq_next ?_)
    (try refine wx_ungd rfl rfl ?_)
    apply wx_val
    exact v_loadA (cs := s'.cells) rfl rfl (fun w' hr j u hj => hcell (l.length - 1 - i) s' j u hs' hj hr (by rw [show ((l.length : Int) - 1 - (i : Int)).toNat = l.length - 1 - i by omega]))
    rfl
    skip
    refine wl_callT (fun w' hr ho => c3 w' ho) rfl rfl rfl ?_
    intro r2 k3
    refine wx_cat ?_
    repeat (first | (apply wx_val; (first | exact v_move rfl | exact v_addi rfl rfl (by omega)); rfl) | refine wc_region ?_ | refine wx_nil ?_ | refine wq_next ?_ | refine wq_block ?_)
    refine wq_roundK ((i + 1, insN kb ⟨s.a, s.b, (i : Int) % 4096⟩ (insN ka s B), q2, insN ka s' C, r2)) ?_ ?_ (by repeat (first | exact trivial | refine ⟨rfl, ?_⟩)) (by first | exact catEq | exact rfl)
    · exact ⟨by dsimp only; omega, k2, k3, h6, h7⟩
    · show l.length - (i + 1) < l.length - i
      omega
  obtain rfl : i = l.length := by omega
  rw [List.take_length] at h4
  rw [List.take_of_length_le (by simp)] at h5
  clear hd h1
  have hO : ovK ka lo hi C = ovK ka lo hi B := by
    refine srt_ext (ovK_srt h3.ok) (ovK_srt h2.ok) fun x => ?_
    rw [ovK_mem, ovK_mem, h4 x, h5 x, List.mem_reverse]
  have c1 := fun w' ho => Overlap_law (g := gf) ka lo hi h2 (by omega) w' ho
  have c2 := fun w' ho => Overlap_law (g := gg) ka lo hi h3 (by omega) w' ho
  rw [hO] at c2
  have hoS := ovK_srt (k := ka) (lo := lo) (hi := hi) h2.ok
  have hoL := ovK_len (k := ka) (lo := lo) (hi := hi) (A := B)
  have hls := h2.lens.1
  obtain ⟨O, hOe⟩ : ∃ O, O = ovK ka lo hi B := ⟨_, rfl⟩
  rw [← hOe] at c1 c2 hoS hoL
  repeat (first | (apply wx_val; (first | exact v_move rfl); rfl) | refine wc_seq ?_ | refine wc_region ?_ | refine wq_next ?_ | refine wc_exit ?_ | refine wq_then_exit ?_ | refine wq_block_exit rfl ?_)
  refine wl_callT (fun w' hr ho => c1 w' ho) rfl rfl rfl ?_
  rintro ⟨A15, c15, E15⟩ hb5
  dsimp only at hb5 ⊢
  refine wx_cat ?_
  repeat (first | (apply wx_val; (first | exact v_move rfl); rfl))
  refine wl_callT (fun w' hr ho => c2 w' ho) rfl rfl rfl ?_
  rintro ⟨A16, c16, E16⟩ hb6
  dsimp only at hb6 ⊢
  refine wx_cat ?_
  clear c1 c2
  repeat (first | (apply wx_val; (first | exact v_move rfl | exact v_assign rfl | exact v_len rfl rfl | exact v_ne rfl rfl); rfl) | refine wc_seq ?_ | refine wc_region ?_ | refine wx_nil ?_ | refine wq_next ?_)
  refine wc_not rfl (by simp) ?_
  repeat (first | (apply wx_val; (first | exact v_move rfl | exact v_len rfl rfl); rfl) | refine wc_seq ?_ | refine wc_region ?_ | refine wx_nil ?_ | refine wq_next ?_ | refine wc_block ?_ | refine wc_skip ?_)
  refine wc_loopK (ι := Nat) [1, 3, 4, 11, 15, 16, 92, 93] (fun z => [(94, .int .i64 (z : Nat))]) (fun z => []) (fun z => z ≤ O.length) (fun z => O.length - z) (0) rfl ?_ (by repeat (first | exact trivial | refine ⟨rfl, ?_⟩)) ?_
  · omega
  rintro p h1
  try dsimp only
  refine wc_fcat ?_
  refine wc_cat ?_
  repeat (first | (apply wx_val; (first | exact v_lt rfl rfl); rfl) | refine wc_seq ?_ | refine wc_region ?_ | refine wx_nil ?_ | refine wq_next ?_)
  refine wc_if rfl (fun hd => ?_) (fun hd => ?_)
  · obtain ⟨s, hs⟩ : ∃ s, O[p]? = some s := ⟨O[p], List.getElem?_eq_getElem (by omega)⟩
    obtain ⟨g15, hA15⟩ := hb5.ptr (by omega)
    obtain ⟨g16, hA16⟩ := hb6.ptr (by omega)
    repeat (first | (apply wx_val; (first | exact v_move rfl | exact v_iaddrE (by assumption) rfl rfl rfl (by omega)); rfl) | refine wc_seq ?_ | refine wc_region ?_ | refine wq_next ?_ | refine wc_block ?_ | refine wc_skip ?_)
    (try refine wx_ungd rfl rfl ?_)
    apply wx_val
    exact v_elemT hA15 hb5 (by decide) (fun _ => rfl) hs rfl (by rw [Int.toNat_natCast]) rfl
    rfl
    skip
    refine wl_alloc rfl rfl (fun g18 => ?_)
    repeat (first | (apply wx_val; (first | exact v_move rfl | exact v_assign rfl | exact v_ldAT rfl (by rfl) | exact v_iaddrE (by assumption) rfl rfl rfl (by omega)); rfl) | refine wc_seq ?_ | refine wx_nil ?_ | refine wq_next ?_ | refine wc_setn ?_ | refine wc_reads rfl (by decide +kernel) ?_ | refine wl_stAT rfl rfl (by rfl) (by rfl) (by exact .inl (Nat.le_refl _)) rfl ?_)
    (try refine wx_ungd rfl rfl ?_)
    apply wx_val
    exact v_elemT hA16 hb6 (by decide) (fun _ => rfl) hs rfl (by rw [Int.toNat_natCast]) rfl
    rfl
    repeat (first | (apply wx_val; (first | exact v_neA rfl rfl (by kernel_rfl)); rfl) | refine wx_nil ?_ | refine wq_next ?_)
    refine wc_not rfl (by simp [Sp.cells, eqL, eqV]) ?_
    repeat (first | (apply wx_val; (first | exact v_move rfl | exact v_addi rfl rfl (by omega)); rfl) | refine wc_region ?_ | refine wx_nil ?_ | refine wq_next ?_ | refine wc_skip ?_ | refine wq_block ?_)
    refine wq_roundK (p + 1) ?_ ?_ (by repeat (first | exact trivial | refine ⟨rfl, ?_⟩)) (by first | exact catEq | exact rfl)
    · omega
    · omega
  clear hd h1
  repeat (first | (apply wx_val; (first | exact v_move rfl | exact v_len rfl rfl); rfl) | refine wc_seq ?_ | refine wc_region ?_ | refine wx_nil ?_ | refine wq_next ?_ | refine wc_block ?_ | refine wc_exit ?_ | refine wq_then_exit ?_ | refine wq_block_exit rfl ?_)
  clear h4 h5 hO h3 hb6
  refine wc_loopK (ι := Nat × Ks × Fo) [1, 3, 4, 11, 106, 107] (fun z => [(108, .int .i64 (z.1 : Nat))]) (fun z => [z.2.2.seg gf z.2.1.length]) (fun z => z.1 ≤ O.length ∧ FoOk (2 * l.length) z.2.1 z.2.2 ∧ ovK ka lo hi z.2.1 = O.drop z.1) (fun z => O.length - z.1) ((0, B, q)) rfl ?_ (by repeat (first | exact trivial | refine ⟨rfl, ?_⟩)) ?_
  · exact ⟨by omega, h2, hOe.symm⟩
  have hOb : O.length ≤ 2097152 := by omega
  clear h2 hOe hls hoL B q
  rintro ⟨p, B, q⟩ ⟨h1, h2, h3⟩
  try dsimp only
  refine wc_fcat ?_
  refine wc_cat ?_
  dsimp only at h1 h2 h3
  repeat (first | (apply wx_val; (first | exact v_lt rfl rfl); rfl) | refine wc_seq ?_ | refine wc_region ?_ | refine wx_nil ?_ | refine wq_next ?_)
  refine wc_if rfl (fun hd => ?_) (fun hd => ?_)
  · obtain ⟨s, hs⟩ : ∃ s, O[p]? = some s := ⟨O[p], List.getElem?_eq_getElem (by omega)⟩
    obtain ⟨g15, hA15⟩ := hb5.ptr (by omega)
    have hdr : O.drop p = s :: O.drop (p + 1) := by
      obtain ⟨h, e⟩ := List.getElem?_eq_some_iff.1 hs
      rw [List.drop_eq_getElem_cons h, e]
    have c1 := fun w' ho => Remove_law (g := gf) ka s h2 (by omega) w' ho
    have hm : (ka, s) ∈ B := (ovK_mem.1 (show s ∈ ovK ka lo hi B by rw [h3, hdr]; exact List.mem_cons_self ..)).1
    rw [hasA_iff.2 hm] at c1
    have h4 : ovK ka lo hi (delAll (ka, s) B) = O.drop (p + 1) := by
      rw [ovK_del, h3, hdr]
      exact head_drop (hdr ▸ hoS.sublist (List.drop_sublist p O))
    repeat (first | (apply wx_val; (first | exact v_iaddrE (by assumption) rfl rfl rfl (by omega)); rfl) | refine wc_seq ?_ | refine wc_region ?_ | refine wq_next ?_ | refine wc_block ?_ | refine wc_skip ?_)
    (try refine wx_ungd rfl rfl ?_)
    apply wx_val
    exact v_elemT hA15 hb5 (by decide) (fun _ => rfl) hs rfl (by rw [Int.toNat_natCast]) rfl
    rfl
    skip
    refine wl_alloc rfl rfl (fun g20 => ?_)
    repeat (first | (apply wx_val; (first | exact v_move rfl | (first | exact v_ldQ 0 0 rfl rfl rfl rfl rfl)); rfl) | refine wc_seq ?_ | refine wc_region ?_ | refine wx_nil ?_ | refine wq_next ?_ | refine wx_setn ?_ | refine wl_stAT rfl rfl (by rfl) (by rfl) (by exact .inl (Nat.le_refl _)) rfl ?_)
    refine wl_callT (fun w' hr ho => c1 w' ho) rfl rfl rfl ?_
    intro q2 k1
    refine wx_cat ?_
    repeat (first | (apply wx_val; (first | exact v_move rfl | exact v_addi rfl rfl (by omega) | exact v_not rfl); rfl) | refine wc_region ?_ | refine wx_nil ?_ | refine wq_next ?_ | refine wc_skip ?_ | refine wq_block ?_ | refine wc_condF rfl ?_)
    refine wq_roundK ((p + 1, delAll (ka, s) B, q2)) ?_ ?_ (by repeat (first | exact trivial | refine ⟨rfl, ?_⟩)) (by first | exact catEq | exact rfl)
    · exact ⟨by dsimp only; omega, k1, h4⟩
    · show O.length - (p + 1) < O.length - p
      omega
  have hp : p = O.length := by omega
  rw [hp, List.drop_length] at h3
  have c1 := fun w' ho => Overlap_law (g := gf) ka lo hi h2 (by omega) w' ho
  rw [h3] at c1
  repeat (first | (apply wx_val; (first | exact v_move rfl); rfl) | refine wc_seq ?_ | refine wc_region ?_ | refine wq_next ?_ | refine wc_exit ?_ | refine wq_then_exit ?_ | refine wq_block_exit rfl ?_)
  refine wl_callT (fun w' hr ho => c1 w' ho) rfl rfl rfl ?_
  rintro ⟨A15, c15, E15⟩ -
  repeat (first | (apply wx_val; (first | exact v_assign rfl | exact v_len rfl rfl | exact v_eq rfl rfl); rfl) | refine wx_nil ?_ | refine wq_next ?_ | refine wc_ret ?_ | refine wq_cat ?_)
  exact wq_clear (wq_ret1 () rfl rfl trivial rfl)
end Go.Proofs.Ytjeghbachokljaa
