/- Every script of pieces and readings: each answer is the document's. -/
import Derived.Test.YtjfjleejbbmmaaaLogK
set_option linter.unusedVariables false
set_option linter.unusedSimpArgs false
namespace Go.Proofs.Ytjfjleejbbmmaaa
open Go
set_option maxRecDepth 20000
set_option maxHeartbeats 2000000
attribute [local irreducible] WX WC WQ Val VCall
structure LopW where
  kind : Int
  data : LstV UInt8
def LopW.cells (o : LopW) : List Value := [.int .i64 o.kind, .slice o.data.A o.data.xs.length o.data.c]
def lopSum (L : List LopW) : Nat := (L.map (fun o => o.data.xs.length)).sum
theorem lopSum_succ {L : List LopW} {i : Nat} {o : LopW} (h : L[i]? = some o) : lopSum (L.take (i + 1)) = lopSum (L.take i) + o.data.xs.length := by
  unfold lopSum
  rw [List.take_add_one, h]
  simp
theorem lopSum_le : ∀ (L : List LopW) (i : Nat), lopSum (L.take i) ≤ lopSum L
  | [], i => by simp
  | o :: L, 0 => by simp [lopSum]
  | o :: L, i + 1 => by
    have := lopSum_le L i
    simp only [lopSum, List.take_succ_cons, List.map_cons, List.sum_cons] at this ⊢
    omega
theorem entry_small (D : Dsc) : D.entry.1.1.ops.length ≤ 16 := by
  unfold Dsc.entry
  split
  · split <;> exact Nat.zero_le _
  · split
    · exact Nat.zero_le _
    · split
      · exact Nat.zero_le _
      · split
        · exact Nat.zero_le _
        · dsimp only
          split
          · exact Nat.zero_le _
          · exact decR_len _
theorem next_small (D : Dsc) : D.next.1.1.ops.length ≤ 16 := by
  unfold Dsc.next
  split
  · exact Nat.zero_le _
  · split
    · split
      · exact Nat.zero_le _
      · exact Nat.zero_le _
      · exact entry_small _
    · split
      · split <;> exact Nat.zero_le _
      · exact entry_small _
structure Play (L : List LopW) (i : Nat) (S : Scn) (D : Dsc) (E Ed : Seg) (q qd : Option Addr × Nat) : Prop where
  rest : RestO S E q
  both : Both S D
  data : BufB D.data (qd.1, qd.2, Ed)
  small : D.data.length ≤ lopSum (L.take i)
theorem Scans_law {L : List LopW} {B : Option Addr} {cB : Nat} (hl : L.length ≤ 1048576) (hs : lopSum L ≤ 1048576) (w : World) (hv : Vw [] w B (L.flatMap LopW.cells)) (hrd : ∀ o ∈ L, Vw [] w o.data.A (bys o.data.xs)) :
    Calls Try.prog 11 #[.slice B L.length cB] w (Holds w) := by
  refine go [.slice B L.length cB] [] Try.func11 Try.ntmps11 rfl rfl (own_nil w) ?_
  repeat (first | (apply wx_val; (first | exact v_assign rfl | exact v_not rfl); rfl) | refine wc_seq ?_ | refine wc_region ?_ | refine wx_nil ?_ | refine wq_next ?_ | refine wc_skip ?_ | refine wc_condF rfl ?_ | (apply wx_vcall; exact vc_pure rfl rfl (fun w' => anchor_spec w'); rfl))
  refine wl_callT (M1 := []) (fun w' hr ho => scNew_spec w') rfl rfl rfl ?_
  rintro g -
  refine wx_cat ?_
  repeat (first | (apply wx_val; (first | exact v_move rfl | exact v_assign rfl | exact v_eqnil rfl rfl rfl); rfl) | refine wc_seq ?_ | refine wc_region ?_ | refine wx_nil ?_ | refine wq_next ?_ | refine wc_skip ?_ | refine wc_condF rfl ?_)
  (try refine wx_ungd rfl rfl ?_)
  apply wx_val
  exact v_build (cs := (dcC Dsc.new none 0).toArray) rfl (by kernel_rfl)
  rfl
  refine wl_boxA (l := dcC Dsc.new none 0) rfl rfl (fun gr => ?_)
  repeat (first | (apply wx_val; (first | exact v_move rfl | exact v_assign rfl | exact v_len rfl rfl); rfl) | refine wc_seq ?_ | refine wc_region ?_ | refine wx_nil ?_ | refine wq_next ?_ | refine wc_block ?_)
  refine wc_seg ?_
  refine wc_seg ?_
  refine wc_loopK (ι := Nat × (Scn × Dsc) × ((Option Addr × Nat) × Seg) × ((Option Addr × Nat) × Seg)) [3, 4, 22, 23] (fun q => [(24, .int .i64 (q.1 : Nat))]) (fun q => [scB g q.2.2.1.1.1 q.2.2.1.1.2 q.2.1.1, q.2.2.1.2, dcB gr q.2.2.2.1.1 q.2.2.2.1.2 q.2.1.2, q.2.2.2.2]) (fun q => q.1 ≤ L.length ∧ Play L q.1 q.2.1.1 q.2.1.2 q.2.2.1.2 q.2.2.2.2 q.2.2.1.1 q.2.2.2.1) (fun q => L.length - q.1) ((0, (Scn.new, Dsc.new), ((none, 0), []), ((none, 0), []))) rfl ?_ (by repeat (first | exact trivial | refine ⟨rfl, ?_⟩)) ?_
  · exact ⟨Nat.zero_le _, ⟨(Buf.nil _ _).r, both_new, Buf.nil _ _, Nat.zero_le _⟩⟩
  rintro ⟨i, ⟨S, D⟩, ⟨⟨A, c⟩, E⟩, ⟨⟨Ad, cd⟩, Ed⟩⟩ ⟨hi, hb, hk, hd, hsm⟩
  try dsimp only
  refine wc_fcat ?_
  refine wc_cat ?_
  dsimp only at hi hb hk hd hsm ⊢
  have hsl := lopSum_le L i
  have hpl := hk.place
  have hrl := hk.rest
  have hke := hk.keeps.ended
  have hkp := hk.keeps.place
  have hkc := hk.keeps.count
  have hkl := hk.keeps.le
  have hdl := hd.le
  try dsimp only at hdl
  repeat (first | (apply wx_val; (first | exact v_lt rfl rfl); rfl) | refine wc_seq ?_ | refine wc_region ?_ | refine wx_nil ?_ | refine wq_next ?_)
  refine wc_if rfl (fun h0 => ?_) (fun h0 => ?_)
  case refine_2 =>
    repeat (first | (apply wx_val; (first | exact v_move rfl); rfl) | refine wc_seq ?_ | refine wc_region ?_ | refine wq_next ?_ | refine wc_exit ?_ | refine wq_then_exit ?_ | refine wq_block_exit rfl ?_)
    refine wl_callT (fun w' hr ho => tells_spec (g := g) (gr := gr) (A := A) (c := c) (B := Ad) (cr := cd) (S := S) (D := D) hk w' ho) rfl rfl rfl ?_
    rintro - -
    repeat (first | (apply wx_val; (first | exact v_assign rfl); rfl) | refine wx_nil ?_ | refine wq_next ?_ | refine wc_ret ?_ | refine wq_cat ?_)
    exact wq_clear (wq_ret1 () rfl rfl trivial rfl)
  obtain ⟨o, ho⟩ : ∃ o, L[i]? = some o := ⟨L[i]'(by omega), List.getElem?_eq_getElem _⟩
  have hm := List.mem_of_getElem? ho
  have hsu := lopSum_succ ho
  have hsl2 := lopSum_le L (i + 1)
  obtain ⟨ga, oa, hA1, hca⟩ := hv.elT (k := 2) (by decide) (fun _ => rfl) (by omega)
  repeat (first | (apply wx_val; (first | exact v_iaddrE (by assumption) rfl rfl rfl (by omega)); rfl) | refine wc_seq ?_ | refine wc_region ?_ | refine wq_next ?_ | refine wc_block ?_ | refine wc_skip ?_)
  (try refine wx_ungd rfl rfl ?_)
  apply wx_val
  exact v_loadA (cs := o.cells) rfl rfl (fun w' hr j u hj => hca ho hr hj (by rw [Int.toNat_natCast]))
  rfl
  refine wl_alloc rfl rfl (fun g6 => ?_)
  repeat (first | (apply wx_val; (first | exact v_assign rfl | exact v_faddr rfl rfl | exact v_ldT rfl rfl rfl (by rfl) | exact v_eq rfl rfl); rfl) | refine wc_seq ?_ | refine wc_region ?_ | refine wx_nil ?_ | refine wq_next ?_ | refine wc_block ?_ | refine wx_setn ?_ | refine wl_stAT rfl rfl (by rfl) (by rfl) (by exact .inl (Nat.le_refl _)) rfl ?_)
  refine wc_if rfl (fun h1 => ?_) (fun h1 => ?_)
  · repeat (first | (apply wx_val; (first | exact v_move rfl); rfl) | refine wc_seq ?_ | refine wc_region ?_)
    refine wl_lit0 rfl rfl (fun g33 E0 hb0 => ?_)
    repeat (first | (apply wx_val; (first | exact v_faddr rfl rfl | exact v_ldT rfl rfl rfl (by rfl)); rfl))
    refine wl_appT rfl hb0 rfl rfl (fun w' hr => src_slice rfl (Vw.keep (hrd o hm) hr).rd (by simp) (by decide) (one_bys _)) (by omega) rfl (fun A2 c2 E2 hb2 => ?_)
    simp only [Nat.zero_add, List.nil_append] at hb2 ⊢
    refine wl_callT (M1 := [scB g A c S, E]) (fun w' hr ho => scFeed_spec (A := A) (c := c) (S := S) (E := E) (l := o.data.xs) hb (by omega) w' (hb2.vwO hr) ho) rfl rfl rfl ?_
    rintro ⟨A3, c3, E3⟩ hb3
    dsimp only at hb3 ⊢
    have hf := hk.feed o.data.xs
    cases hen : D.ended with
    | true =>
      have eD : D.feed o.data.xs = D := by unfold Dsc.feed; rw [if_pos hen]
      rw [if_pos (by rw [hke, hen])]
      repeat (first | (apply wx_val; (first | exact v_move rfl | exact v_assign rfl | exact v_nil rfl | exact v_faddr rfl rfl | exact v_ldT rfl rfl rfl (by rfl) | exact v_eq rfl rfl | exact v_bne rfl rfl rfl); rfl) | refine wc_seq ?_ | refine wc_region ?_ | refine wx_nil ?_ | refine wq_next ?_ | refine wx_cat ?_)
      refine wx_gset false rfl rfl (by rw [hen]; rfl) ?_
      repeat (first | (apply wx_val; (first | exact v_move rfl | exact v_nil rfl | exact v_faddr rfl rfl | exact v_ldT rfl rfl rfl (by rfl) | exact v_eq rfl rfl | exact v_pickF rfl rfl | exact v_beq rfl rfl rfl); rfl) | refine wx_ungd rfl rfl ?_ | refine wx_nil ?_ | refine wq_next ?_)
      refine wc_not rfl (by rw [hen]; rfl) ?_
      repeat (first | (apply wx_val; (first | exact v_move rfl | exact v_nil rfl | exact v_faddr rfl rfl | exact v_ldT rfl rfl rfl (by rfl) | exact v_not rfl); rfl) | refine wc_seq ?_ | refine wc_region ?_ | refine wx_nil ?_ | refine wq_next ?_ | refine wc_skip ?_)
      refine wc_not rfl (by rw [hen]; rfl) ?_
      repeat (first | (apply wx_val; (first | exact v_move rfl | exact v_addi rfl rfl (by omega)); rfl) | refine wc_region ?_ | refine wx_nil ?_ | refine wq_next ?_ | refine wc_skip ?_ | refine wq_block ?_)
      refine wq_roundK ((i + 1, (S.feed o.data.xs, D), ((A3, c3), E3), ((Ad, cd), Ed))) ?_ ?_ (by repeat (first | exact trivial | refine ⟨rfl, ?_⟩)) (by first | exact catEq | exact rfl)
      · rw [eD] at hf
        exact ⟨(show i + 1 ≤ L.length by omega), hb3, hf, hd, (by dsimp only; omega)⟩
      · dsimp only; omega
    | false =>
      have eD : D.feed o.data.xs = { D with data := D.data ++ o.data.xs } := by unfold Dsc.feed; rw [if_neg (by rw [hen]; decide)]
      rw [if_neg (by rw [hke, hen]; decide)]
      repeat (first | (apply wx_val; (first | exact v_move rfl | exact v_assign rfl | exact v_nil rfl | exact v_faddr rfl rfl | exact v_ldT rfl rfl rfl (by rfl) | exact v_eq rfl rfl | exact v_bne rfl rfl rfl); rfl) | refine wc_seq ?_ | refine wc_region ?_ | refine wx_nil ?_ | refine wq_next ?_ | refine wx_cat ?_)
      refine wx_gset false rfl rfl (by rw [hen]; rfl) ?_
      repeat (first | (apply wx_val; (first | exact v_move rfl | exact v_nil rfl | exact v_faddr rfl rfl | exact v_ldT rfl rfl rfl (by rfl) | exact v_eq rfl rfl | exact v_pickF rfl rfl | exact v_beq rfl rfl rfl); rfl) | refine wx_ungd rfl rfl ?_ | refine wx_nil ?_ | refine wq_next ?_)
      refine wc_not rfl (by rw [hen]; rfl) ?_
      repeat (first | (apply wx_val; (first | exact v_move rfl | exact v_nil rfl | exact v_faddr rfl rfl | exact v_ldT rfl rfl rfl (by rfl) | exact v_not rfl); rfl) | refine wc_seq ?_ | refine wc_region ?_ | refine wx_nil ?_ | refine wq_next ?_ | refine wc_skip ?_)
      refine wc_yes rfl (by rw [hen]; rfl) ?_
      skip
      refine wc_heldX [] [[(g6, .cells o.cells.toArray 61 (0, 0))]] rfl (by (repeat (first | with_reducible exact panicNot_of panicOk_body | with_reducible apply panicNot_block | with_reducible apply panicNot_then))) (fun hQd => ?_)
      (apply wh_takeX 0; (first | exact fun _ h => h | exact fun _ h => res_takes h); exact hQd; rfl; rfl; exact v_move rfl; decide +kernel; decide +kernel; decide +kernel; rfl)
      (apply wh_takeX 1; (first | exact fun _ h => h | exact fun _ h => res_takes h); exact hQd; rfl; rfl; exact v_move rfl; decide +kernel; decide +kernel; decide +kernel; rfl)
      (apply wh_takeX 2; (first | exact fun _ h => h | exact fun _ h => res_takes h); exact hQd; rfl; rfl; exact v_nil rfl; decide +kernel; decide +kernel; decide +kernel; rfl)
      (apply wh_takeX 3; (first | exact fun _ h => h | exact fun _ h => res_takes h); exact hQd; rfl; rfl; exact v_faddr rfl rfl; decide +kernel; decide +kernel; decide +kernel; rfl)
      (apply wh_takeX 5; (first | exact fun _ h => h | exact fun _ h => res_takes h); exact hQd; rfl; rfl; exact v_faddr rfl rfl; decide +kernel; decide +kernel; decide +kernel; rfl)
      (apply wh_takeX 6; (first | exact fun _ h => res_takes h); exact hQd; rfl; rfl; (first | exact v_ldT rfl rfl rfl (by rfl)); decide +kernel; decide +kernel; decide +kernel; rfl)
      refine wh_eff 4 rfl (by decide +kernel) ?_
      repeat (first | (apply wx_val; (first | exact v_ldT rfl rfl rfl (by rfl)); rfl) | refine wx_nil ?_)
      (try refine wx_nil ?_)
      refine wq_held (by (first | exact fun _ h => h | exact fun _ h => res_takes h)) ?_
      refine wh_eff 7 rfl (by decide +kernel) ?_
      refine wl_appT rfl hd rfl rfl (fun w' hr => src_slice rfl (Vw.keep (hrd o hm) hr).rd (by simp) (by decide) (one_bys _)) (by omega) rfl (fun A4 c4 E4 hb4 => ?_)
      rw [← bys_append, ← List.length_append] at hb4
      rw [← List.length_append]
      (try refine wx_nil ?_)
      refine wq_held (by (first | exact fun _ h => h | exact fun _ h => res_takes h)) ?_
      (apply wh_takeX 8; (first | exact fun _ h => h | exact fun _ h => res_takes h); exact hQd; rfl; rfl; exact v_nil rfl; decide +kernel; decide +kernel; decide +kernel; rfl)
      (apply wh_takeX 9; (first | exact fun _ h => h | exact fun _ h => res_takes h); exact hQd; rfl; rfl; exact v_faddr rfl rfl; decide +kernel; decide +kernel; decide +kernel; rfl)
      refine wh_eff 10 rfl (by decide +kernel) ?_
      repeat (first | refine wx_nil ?_ | refine wq_setn ?_ | refine wl_storeT rfl rfl rfl (by rfl) (by exact .inl (Nat.le_refl _)) rfl ?_)
      (try refine wx_nil ?_)
      refine wq_held (by (first | exact fun _ h => h | exact fun _ h => res_takes h)) ?_
      refine wh_done (by decide +kernel) ?_
      repeat (first | (apply wx_val; (first | exact v_move rfl | exact v_addi rfl rfl (by omega)); rfl) | refine wc_region ?_ | refine wx_nil ?_ | refine wq_next ?_ | refine wq_block ?_)
      refine wq_blk gr (dcC { D with data := D.data ++ o.data.xs } A4 c4) (by rfl) ?_
      refine wq_setn ?_
      refine wq_roundK ((i + 1, (S.feed o.data.xs, { D with data := D.data ++ o.data.xs }), ((A3, c3), E3), ((A4, c4), E4))) ?_ ?_ (by repeat (first | exact trivial | refine ⟨rfl, ?_⟩)) (by first | exact catEq | exact rfl)
      · rw [eD] at hf
        exact ⟨(show i + 1 ≤ L.length by omega), hb3, hf, hb4, (by dsimp only; rw [List.length_append]; omega)⟩
      · dsimp only; omega
  repeat (first | (apply wx_val; (first | exact v_assign rfl | exact v_eq rfl rfl); rfl) | refine wc_seq ?_ | refine wc_region ?_ | refine wx_nil ?_ | refine wq_next ?_)
  refine wc_if rfl (fun h2 => ?_) (fun h2 => ?_)
  · repeat (first | (apply wx_val; (first | exact v_move rfl); rfl) | refine wc_seq ?_ | refine wc_region ?_)
    refine wl_callT (fun w' hr ho => scEnd_spec (A := A) (c := c) (S := S) w' ho) rfl rfl rfl ?_
    rintro - -
    have hf := hk.stop
    cases hen : D.ended with
    | true =>
      rw [if_pos (by rw [hke, hen])]
      repeat (first | (apply wx_val; (first | exact v_move rfl | exact v_assign rfl | exact v_nil rfl | exact v_faddr rfl rfl | exact v_ldT rfl rfl rfl (by rfl) | exact v_eq rfl rfl | exact v_bne rfl rfl rfl); rfl) | refine wc_seq ?_ | refine wc_region ?_ | refine wx_nil ?_ | refine wq_next ?_ | refine wx_cat ?_)
      refine wx_gset false rfl rfl (by rw [hen]; rfl) ?_
      repeat (first | (apply wx_val; (first | exact v_move rfl | exact v_nil rfl | exact v_faddr rfl rfl | exact v_ldT rfl rfl rfl (by rfl) | exact v_eq rfl rfl | exact v_pickF rfl rfl | exact v_beq rfl rfl rfl); rfl) | refine wx_ungd rfl rfl ?_ | refine wx_nil ?_ | refine wq_next ?_)
      refine wc_not rfl (by rw [hen]; rfl) ?_
      repeat (first | (apply wx_val; (first | exact v_move rfl | exact v_nil rfl | exact v_faddr rfl rfl | exact v_addi rfl rfl (by omega)); rfl) | refine wc_region ?_ | refine wx_nil ?_ | refine wq_next ?_ | refine wc_skip ?_ | refine wq_block ?_ | refine wq_setn ?_ | refine wl_storeT rfl rfl rfl (by rfl) (by exact .inl (Nat.le_refl _)) rfl ?_)
      refine wq_blk gr (dcC { D with ended := true } Ad cd) (by rfl) ?_
      refine wq_setn ?_
      refine wq_roundK ((i + 1, ({ S with ended := true }, { D with ended := true }), ((A, c), E), ((Ad, cd), Ed))) ?_ ?_ (by repeat (first | exact trivial | refine ⟨rfl, ?_⟩)) (by first | exact catEq | exact rfl)
      · exact ⟨(show i + 1 ≤ L.length by omega), hb.same rfl, hf, hd, (by dsimp only; omega)⟩
      · dsimp only; omega
    | false =>
      rw [if_neg (by rw [hke, hen]; decide)]
      repeat (first | (apply wx_val; (first | exact v_move rfl | exact v_assign rfl | exact v_nil rfl | exact v_faddr rfl rfl | exact v_ldT rfl rfl rfl (by rfl) | exact v_eq rfl rfl | exact v_bne rfl rfl rfl); rfl) | refine wc_seq ?_ | refine wc_region ?_ | refine wx_nil ?_ | refine wq_next ?_ | refine wx_cat ?_)
      refine wx_gset false rfl rfl (by rw [hen]; rfl) ?_
      repeat (first | (apply wx_val; (first | exact v_move rfl | exact v_nil rfl | exact v_faddr rfl rfl | exact v_ldT rfl rfl rfl (by rfl) | exact v_eq rfl rfl | exact v_pickF rfl rfl | exact v_beq rfl rfl rfl); rfl) | refine wx_ungd rfl rfl ?_ | refine wx_nil ?_ | refine wq_next ?_)
      refine wc_not rfl (by rw [hen]; rfl) ?_
      repeat (first | (apply wx_val; (first | exact v_move rfl | exact v_nil rfl | exact v_faddr rfl rfl | exact v_addi rfl rfl (by omega)); rfl) | refine wc_region ?_ | refine wx_nil ?_ | refine wq_next ?_ | refine wc_skip ?_ | refine wq_block ?_ | refine wq_setn ?_ | refine wl_storeT rfl rfl rfl (by rfl) (by exact .inl (Nat.le_refl _)) rfl ?_)
      refine wq_blk gr (dcC { D with ended := true } Ad cd) (by rfl) ?_
      refine wq_setn ?_
      refine wq_roundK ((i + 1, ({ S with ended := true }, { D with ended := true }), ((A, c), E), ((Ad, cd), Ed))) ?_ ?_ (by repeat (first | exact trivial | refine ⟨rfl, ?_⟩)) (by first | exact catEq | exact rfl)
      · exact ⟨(show i + 1 ≤ L.length by omega), hb.same rfl, hf, hd, (by dsimp only; omega)⟩
      · dsimp only; omega
  repeat (first | (apply wx_val; (first | exact v_assign rfl | exact v_eq rfl rfl); rfl) | refine wc_seq ?_ | refine wc_region ?_ | refine wx_nil ?_ | refine wq_next ?_)
  refine wc_if rfl (fun h3 => ?_) (fun h3 => ?_)
  · obtain ⟨n1, n2⟩ := hk.next
    have hns := next_small D
    have hnd := (next_data D).1
    repeat (first | (apply wx_val; (first | exact v_move rfl); rfl) | refine wc_seq ?_ | refine wc_region ?_)
    refine wl_callT (fun w' hr ho => scNext_spec (A := A) (c := c) (S := S) (E := E) hb (by omega) (by omega) (by omega) w' ho) rfl rfl rfl ?_
    rintro ⟨⟨A4, c4⟩, ⟨A5, c5, E5⟩⟩ ⟨hb4, hb5⟩
    dsimp only at hb4 hb5 ⊢
    rw [n1] at hb5 ⊢
    repeat (first | (apply wx_val; (first | exact v_move rfl | exact v_extract rfl rfl); rfl) | refine wx_cat ?_)
    refine wl_alloc rfl rfl (fun g9 => ?_)
    repeat (first | (apply wx_val; (first | exact v_move rfl | exact v_assign rfl); rfl) | refine wc_seq ?_ | refine wc_region ?_ | refine wx_nil ?_ | refine wq_next ?_ | refine wx_setn ?_ | refine wl_stAT rfl rfl (by rfl) (by rfl) (by exact .inl (Nat.le_refl _)) rfl ?_)
    refine wl_callT (M1 := [dcB gr Ad cd D]) (fun w' hr ho => dcNext_spec (A := Ad) (c := cd) (D := D) (by omega) hdl.1 hdl.2 (fun _ => hpl) hkl (keeps_foot hk.keeps) w' (hd.vwO hr) ho) rfl rfl rfl ?_
    rintro ⟨A6, c6, E6⟩ hb6
    dsimp only at hb6 ⊢
    repeat (first | (apply wx_val; (first | exact v_move rfl | exact v_extract rfl rfl); rfl) | refine wx_cat ?_)
    refine wl_alloc rfl rfl (fun g12 => ?_)
    repeat (first | (apply wx_val; (first | exact v_move rfl | exact v_assign rfl | exact v_ne rfl rfl); rfl) | refine wc_seq ?_ | refine wc_region ?_ | refine wx_nil ?_ | refine wq_next ?_ | refine wx_setn ?_ | refine wl_stAT rfl rfl (by rfl) (by rfl) (by exact .inl (Nat.le_refl _)) rfl ?_)
    refine wx_gset false rfl rfl (by simp) ?_
    repeat (first | (apply wx_val; (first | exact v_move rfl | exact v_pickF rfl rfl | exact v_bne rfl rfl rfl); rfl) | refine wx_ungd rfl rfl ?_)
    refine wx_gset false rfl rfl (by simp) ?_
    repeat (first | (apply wx_val; (first | exact v_ldAT rfl (by rfl)); rfl) | refine wx_ungd rfl rfl ?_)
    (try refine wx_ungd rfl rfl ?_)
    refine wx_vcall (vc_pure' rfl rfl (fun w' hr => Same_spec (t := D.next.1.1) (by omega) w' (hb5.vwT hr) (hb6.vwT hr))) rfl ?_
    repeat (first | (apply wx_val; (first | exact v_move rfl | exact v_addi rfl rfl (by omega) | exact v_not rfl | exact v_pickF rfl rfl); rfl) | refine wx_ungd rfl rfl ?_ | refine wc_region ?_ | refine wx_nil ?_ | refine wq_next ?_ | refine wc_skip ?_ | refine wq_block ?_ | refine wc_condF rfl ?_)
    refine wq_roundK ((i + 1, (S.next.2, D.next.2), ((A4, c4), E), ((Ad, cd), Ed))) ?_ ?_ (by repeat (first | exact trivial | refine ⟨rfl, ?_⟩)) (by first | exact catEq | exact rfl)
    · refine ⟨(show i + 1 ≤ L.length by omega), hb4, n2, ?_, ?_⟩
      · dsimp only
        rw [hnd]
        exact hd
      · dsimp only
        rw [hnd]
        omega
    · dsimp only; omega
  repeat (first | (apply wx_val; (first | exact v_assign rfl | exact v_eq rfl rfl); rfl) | refine wc_seq ?_ | refine wc_region ?_ | refine wx_nil ?_ | refine wq_next ?_)
  refine wc_if rfl (fun h4 => ?_) (fun h4 => ?_)
  · repeat (first | (apply wx_val; (first | exact v_move rfl); rfl) | refine wc_seq ?_ | refine wc_region ?_)
    refine wl_callT (fun w' hr ho => tells_spec (g := g) (gr := gr) (A := A) (c := c) (B := Ad) (cr := cd) (S := S) (D := D) hk w' ho) rfl rfl rfl ?_
    rintro - -
    repeat (first | (apply wx_val; (first | exact v_move rfl | exact v_addi rfl rfl (by omega) | exact v_not rfl); rfl) | refine wc_region ?_ | refine wx_nil ?_ | refine wq_next ?_ | refine wc_skip ?_ | refine wq_block ?_ | refine wc_cat ?_ | refine wc_condF rfl ?_)
    refine wq_roundK ((i + 1, (S, D), ((A, c), E), ((Ad, cd), Ed))) ?_ ?_ (by repeat (first | exact trivial | refine ⟨rfl, ?_⟩)) (by first | exact catEq | exact rfl)
    · exact ⟨(show i + 1 ≤ L.length by omega), hb, hk, hd, (by dsimp only; omega)⟩
    · dsimp only; omega
  · repeat (first | (apply wx_val; (first | exact v_move rfl | exact v_addi rfl rfl (by omega)); rfl) | refine wc_region ?_ | refine wx_nil ?_ | refine wq_next ?_ | refine wc_skip ?_ | refine wq_block ?_)
    refine wq_roundK ((i + 1, (S, D), ((A, c), E), ((Ad, cd), Ed))) ?_ ?_ (by repeat (first | exact trivial | refine ⟨rfl, ?_⟩)) (by first | exact catEq | exact rfl)
    · exact ⟨(show i + 1 ≤ L.length by omega), hb, hk, hd, (by dsimp only; omega)⟩
    · dsimp only; omega
end Go.Proofs.Ytjfjleejbbmmaaa
