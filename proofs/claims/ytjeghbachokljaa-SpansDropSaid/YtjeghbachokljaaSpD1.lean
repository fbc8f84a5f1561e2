/- What is dropped ended at the floor or earlier; the rest is as before. -/
import Derived.Test.YtjeghbachokljaaSpY
import Derived.Test.YtjeghbachokljaaSpSo
set_option linter.unusedVariables false
set_option linter.unusedSimpArgs false
namespace Go.Proofs.Ytjeghbachokljaa
open Go
set_option maxRecDepth 20000
set_option maxHeartbeats 2000000
attribute [local irreducible] WX WC WQ Val VCall WY WR
theorem ofK_filter (k : ByteArray) (p : Sp → Bool) : ∀ A : Ks, ofK k (A.filter (fun x => p x.2)) = (ofK k A).filter p
  | [] => rfl
  | x :: r => by
    have ih := ofK_filter k p r
    rw [ofK_cons]
    by_cases hp : p x.2 = true
    · rw [List.filter_cons_of_pos (p := fun x : ByteArray × Sp => p x.2) hp, ofK_cons]
      by_cases hk : x.1 = k
      · rw [if_pos hk, if_pos hk, List.filter_cons_of_pos hp, ih]
      · rw [if_neg hk, if_neg hk, ih]
    · rw [List.filter_cons_of_neg (p := fun x : ByteArray × Sp => p x.2) hp, ih]
      by_cases hk : x.1 = k
      · rw [if_pos hk, List.filter_cons_of_neg hp]
      · rw [if_neg hk]
def aft (fl : Int) (A : Ks) : Ks := A.filter (fun x => decide (fl < x.2.b))
theorem ovK_aft (k : ByteArray) (fl to : Int) (A : Ks) : ovK k fl to (aft fl A) = ovK k fl to A := by
  unfold ovK ovQ aft
  rw [ofK_filter k (fun s => decide (fl < s.b)), List.filter_filter]
  refine List.filter_congr fun s _ => ?_
  by_cases h1 : s.a < to <;> by_cases h2 : fl < s.b <;> simp [h1, h2]
theorem aft_del (fl : Int) (e : ByteArray × Sp) (A : Ks) : delAll e (aft fl A) = aft fl (delAll e A) := by
  unfold delAll aft
  rw [List.filter_filter, List.filter_filter]
  refine List.filter_congr fun s _ => Bool.and_comm _ _
theorem aft_len (fl : Int) : ∀ A : Ks, (A.filter (fun x => decide (x.2.b ≤ fl))).length + (aft fl A).length = A.length
  | [] => rfl
  | x :: r => by
    have ih := aft_len fl r
    unfold aft at *
    by_cases h : x.2.b ≤ fl
    · rw [List.filter_cons_of_pos (by simpa using h), List.filter_cons_of_neg (by simp; omega)]
      simp only [List.length_cons]
      omega
    · rw [List.filter_cons_of_neg (by simpa using h), List.filter_cons_of_pos (by simp; omega)]
      simp only [List.length_cons]
      omega
theorem aft_none (fl : Int) (A : Ks) : (aft fl A).filter (fun x => decide (x.2.b ≤ fl)) = [] := List.filter_eq_nil_iff.2 fun x hx => by
  have := (List.mem_filter.1 hx).2
  simp only [decide_eq_true_eq] at this ⊢
  omega
theorem aft_aft (fl : Int) (A : Ks) : (aft fl A).filter (fun x => decide (fl < x.2.b)) = aft fl A := List.filter_eq_self.2 fun x hx => (List.mem_filter.1 hx).2
theorem mem_aft {fl : Int} {e : ByteArray × Sp} {A : Ks} : e ∈ aft fl A ↔ e ∈ A ∧ fl < e.2.b := by
  unfold aft
  rw [List.mem_filter, decide_eq_true_iff]
theorem has_aft {fl : Int} {e : ByteArray × Sp} {A : Ks} (h : e ∈ A) : hasA e (aft fl A) = decide (fl < e.2.b) := by
  by_cases hf : fl < e.2.b
  · rw [decide_eq_true hf]; exact hasA_iff.2 (mem_aft.2 ⟨h, hf⟩)
  · rw [decide_eq_false hf]; exact hasA_no.2 fun hm => hf (mem_aft.1 hm).2
theorem Rgt.ab {A : Ks} (h : Rgt A) : ∀ x ∈ A, x.2.a ≤ x.2.b := fun x hx => by
  have h1 := h x hx
  unfold insCode at h1
  split at h1
  · exact absurd h1 (by decide)
  · split at h1
    · exact absurd h1 (by decide)
    · rename_i h2 h3
      have : rightS x.2 = true := by
        cases e : rightS x.2 with
        | true => rfl
        | false => exact absurd e h3
      unfold rightS at this
      have := of_decide_eq_true this
      omega
def FromS (l : List SOp) (A : Ks) : Prop := ∀ e ∈ A, ∃ o ∈ l, o.kind = 1 ∧ e = (o.key, o.s)
theorem FromS.put {l : List SOp} {A : Ks} (h : FromS l A) {o : SOp} (ho : o.kind = 1) : FromS (l ++ [o]) (insN o.key o.s A) := fun e he => by
  unfold insN at he
  have : e ∈ A ∨ e = (o.key, o.s) := by
    split at he
    · rcases List.mem_cons.1 ((insAll_perm _ A).mem_iff.1 he) with h1 | h1
      · exact .inr h1
      · exact .inl h1
    · exact .inl he
  rcases this with h1 | h1
  · obtain ⟨o', h2, h3⟩ := h e h1
    exact ⟨o', List.mem_append.2 (.inl h2), h3⟩
  · exact ⟨o, by simp, ho, h1⟩
theorem FromS.more {l : List SOp} {A : Ks} (h : FromS l A) (o : SOp) : FromS (l ++ [o]) A := fun e he => by
  obtain ⟨o', h2, h3⟩ := h e he
  exact ⟨o', List.mem_append.2 (.inl h2), h3⟩
theorem FromS.skip {l : List SOp} {A : Ks} {o : SOp} (h : FromS (o :: l) A) (ho : o.kind ≠ 1) : FromS l A := fun e he => by
  obtain ⟨o', h2, h3, h4⟩ := h e he
  rcases List.mem_cons.1 h2 with rfl | h2
  · exact absurd h3 ho
  · exact ⟨o', h2, h3, h4⟩
theorem FromS.del {l : List SOp} {A : Ks} {o : SOp} (h : FromS (o :: l) A) : FromS l (delAll (o.key, o.s) A) := fun e he => by
  have h1 := List.mem_filter.1 he
  obtain ⟨o', h2, h3, h4⟩ := h e h1.1
  rcases List.mem_cons.1 h2 with rfl | h2
  · exact absurd h4 (by simpa using h1.2)
  · exact ⟨o', h2, h3, h4⟩
theorem v_eqno {P : Program} {nt : Sh} {w0 : World} {X : List Nat} {fr : Fr} {M : List Seg} {dst : Option Nat} {t u ty : TypeId} {pos : String} {af : Array Edge} {gd : Option (Nat × Bool)} {x y : Operand} {k : IntKind} {a b : Int} (hx : ev fr x = some (.int k a)) (hy : ev fr y = some (.int k b)) (h : a ≠ b) : Val P nt w0 X fr M ⟨dst, .binOp .eql t x y u, ty, pos, af, gd⟩ (.bool false) := by
  have := v_eq (P := P) (nt := nt) (w0 := w0) (X := X) (M := M) (dst := dst) (ty := ty) (pos := pos) (af := af) (gd := gd) (t := t) (u := u) hx hy
  rwa [decide_eq_false h] at this
abbrev opB (g : Nat) (o : SOp) : Seg := [(g, .cells o.cells.toArray 49 (0, 0))]
theorem DropL_law {A : Option Addr} {c : Nat} {l : List SOp} (hl : l.length ≤ 1048576) (fl to : Int) (w : World) (hv : Vw [] w A (l.flatMap SOp.cells)) :
    Calls Try.prog 9 #[.slice A l.length c, .int .i64 fl, .int .i64 to] w (Holds w) := by
  refine go [.slice A l.length c, .int .i64 fl, .int .i64 to] [] Try.func9 Try.ntmps9 rfl rfl (own_nil w) ?_
  repeat (first | (apply wx_val; (first | exact v_assign rfl | exact v_not rfl); rfl) | refine wc_seq ?_ | refine wc_region ?_ | refine wx_nil ?_ | refine wq_next ?_ | refine wc_skip ?_ | refine wc_condF rfl ?_ | (apply wx_vcall; exact vc_pure rfl rfl (fun w' => anchor_spec w'); rfl))
  refine wl_callT (M1 := []) (fun w' hr ho => New_law w') rfl rfl rfl ?_
  rintro ⟨gf, q⟩ hq
  dsimp only at hq ⊢
  refine wx_cat ?_
  refine wl_callT (M1 := []) (fun w' hr ho => New_law w') rfl rfl rfl ?_
  rintro ⟨gg, r⟩ hr0
  dsimp only at hr0 ⊢
  refine wx_cat ?_
  repeat (first | (apply wx_val; (first | exact v_move rfl | exact v_assign rfl | exact v_len rfl rfl | exact v_eqnil rfl rfl rfl | exact v_pickF rfl rfl); rfl) | refine wx_ungd rfl rfl ?_ | refine wc_seq ?_ | refine wc_region ?_ | refine wx_nil ?_ | refine wq_next ?_ | refine wc_block ?_ | refine wc_skip ?_ | refine wc_condF rfl ?_)
  refine wc_mem (M' := [r.seg gg ([] : Ks).length, q.seg gf ([] : Ks).length]) rfl ?_
  refine wc_loopK (ι := Nat × Ks × Fo × Fo) [0, 1, 2, 7, 8, 30, 31] (fun z => [(32, .int .i64 (z.1 : Nat))]) (fun z => [z.2.2.1.seg gf z.2.1.length, z.2.2.2.seg gg z.2.1.length]) (fun z => z.1 ≤ l.length ∧ FoOk z.1 z.2.1 z.2.2.1 ∧ FoOk z.1 z.2.1 z.2.2.2 ∧ Rgt z.2.1 ∧ FromS (l.take z.1) z.2.1) (fun z => l.length - z.1) ((0, [], q, r)) rfl ?_ (by repeat (first | exact trivial | refine ⟨rfl, ?_⟩)) ?_
  · exact ⟨by omega, hq, hr0, Rgt.nil, fun e he => by cases he⟩
  clear hq hr0 q r
  rintro ⟨i, B, q, r⟩ ⟨h1, h2, h3, h4, h5⟩
  try dsimp only
  refine wc_fcat ?_
  refine wc_cat ?_
  dsimp only at h1 h2 h3 h4 h5
  repeat (first | (apply wx_val; (first | exact v_lt rfl rfl); rfl) | refine wc_seq ?_ | refine wc_region ?_ | refine wx_nil ?_ | refine wq_next ?_)
  refine wc_if rfl (fun hd => ?_) (fun hd => ?_)
  · obtain ⟨o, hs⟩ : ∃ s, l[i]? = some s := ⟨l[i], List.getElem?_eq_getElem (by omega)⟩
    obtain ⟨ga, oa, rfl, hcell⟩ := hv.atF (f := SOp.cells) (k := 7) (fun _ => rfl) (by decide) (show 0 < l.length by omega)
    have htk : l.take (i + 1) = l.take i ++ [o] := by rw [List.take_add_one, hs]; rfl
    repeat (first | (apply wx_val; (first | exact v_iaddr rfl rfl rfl (by omega)); rfl) | refine wc_seq ?_ | refine wc_region ?_ | refine wq_next ?_ | refine wc_block ?_ | refine wc_skip ?_)
    (try refine wx_ungd rfl rfl ?_)
    apply wx_val
    exact v_loadA (cs := o.cells) rfl rfl (fun w' hr j u hj => hcell i o j u hs hj hr (by rw [Int.toNat_natCast]))
    rfl
    skip
    refine wl_alloc rfl rfl (fun g10 => ?_)
    by_cases hk : o.kind = 1
    · obtain ⟨kd, oa1, ob1, key, s⟩ := o
      have hk : kd = 1 := hk
      subst hk
      have c1 := fun w' ho => Insert_law (g := gf) key s h2 (by omega) w' ho
      have c2 := fun w' ho => Insert_law (g := gg) key s h3 (by omega) w' ho
      have h6 := h5.put (o := ⟨1, oa1, ob1, key, s⟩) rfl
      rw [← htk] at h6
      have h7 := h4.put key s
      repeat (first | refine wc_seq ?_ | refine wx_nil ?_ | refine wq_next ?_ | refine wc_setn ?_ | refine wl_stAT rfl rfl (by rfl) (by rfl) (by exact .inl (Nat.le_refl _)) rfl ?_)
      refine wc_heldX [] [opB g10 ⟨1, oa1, ob1, key, s⟩] rfl (by (repeat (first | with_reducible exact panicNot_of panicOk_body | with_reducible apply panicNot_block | with_reducible apply panicNot_then))) (fun hQd => ?_)
      (apply wh_takeX 0; (first | exact fun _ h => h | exact fun _ h => res_takes h); exact hQd; rfl; rfl; exact v_faddr rfl rfl; decide +kernel; decide +kernel; decide +kernel; rfl)
      (apply wh_takeX 1; (first | exact fun _ h => res_takes h); exact hQd; rfl; rfl; (first | exact v_ldT rfl rfl rfl (by rfl)); decide +kernel; decide +kernel; decide +kernel; rfl)
      (apply wh_takeX 2; (first | exact fun _ h => res_takes h); exact hQd; rfl; rfl; (first | exact v_eq rfl rfl); decide +kernel; decide +kernel; decide +kernel; rfl)
      (apply wh_takeX 3; (first | exact fun _ h => h | exact fun _ h => res_takes h); exact hQd; rfl; rfl; exact v_move rfl; decide +kernel; decide +kernel; decide +kernel; rfl)
      (first | refine wh_yes 39 rfl rfl ?_ | refine wh_yes 39 rfl (decide_eq_true rfl) ?_ | refine wh_yes 39 rfl (by simp) ?_)
      (first | (apply wh_takegX 4; (first | exact fun _ h => res_takes h); exact hQd; rfl; rfl; rfl; rfl; exact v_move rfl; decide +kernel; decide +kernel; decide +kernel; rfl))
      (first | (apply wh_takegX 5; (first | exact fun _ h => res_takes h); exact hQd; rfl; rfl; rfl; rfl; exact v_faddr rfl rfl; decide +kernel; decide +kernel; decide +kernel; rfl))
      (first | (apply wh_takegX 6; (first | exact fun _ h => res_takes h); exact hQd; rfl; rfl; rfl; rfl; (first | exact v_ldT rfl rfl rfl (by rfl)); decide +kernel; decide +kernel; decide +kernel; rfl))
      (first | (apply wh_takegX 7; (first | exact fun _ h => res_takes h); exact hQd; rfl; rfl; rfl; rfl; exact v_faddr rfl rfl; decide +kernel; decide +kernel; decide +kernel; rfl))
      (first | (apply wh_takegX 8; (first | exact fun _ h => res_takes h); exact hQd; rfl; rfl; rfl; rfl; (first | (first | exact v_ldQ 0 0 rfl rfl rfl rfl rfl)); decide +kernel; decide +kernel; decide +kernel; rfl))
      (first | (apply wh_takegX 10; (first | exact fun _ h => res_takes h); exact hQd; rfl; rfl; rfl; rfl; exact v_move rfl; decide +kernel; decide +kernel; decide +kernel; rfl))
      (first | (apply wh_takegX 11; (first | exact fun _ h => res_takes h); exact hQd; rfl; rfl; rfl; rfl; exact v_faddr rfl rfl; decide +kernel; decide +kernel; decide +kernel; rfl))
      (first | (apply wh_takegX 12; (first | exact fun _ h => res_takes h); exact hQd; rfl; rfl; rfl; rfl; (first | exact v_ldT rfl rfl rfl (by rfl)); decide +kernel; decide +kernel; decide +kernel; rfl))
      (first | (apply wh_takegX 13; (first | exact fun _ h => res_takes h); exact hQd; rfl; rfl; rfl; rfl; exact v_faddr rfl rfl; decide +kernel; decide +kernel; decide +kernel; rfl))
      (first | (apply wh_takegX 14; (first | exact fun _ h => res_takes h); exact hQd; rfl; rfl; rfl; rfl; (first | (first | exact v_ldQ 0 0 rfl rfl rfl rfl rfl)); decide +kernel; decide +kernel; decide +kernel; rfl))
      refine wh_eff 9 rfl (by decide +kernel) ?_
      refine wx_ungd rfl rfl ?_
      refine wl_callT (fun w' hr ho => c1 w' ho) rfl rfl rfl ?_
      intro q2 k2
      refine wx_cat ?_
      (try refine wx_nil ?_)
      refine wq_held (by (first | exact fun _ h => h | exact fun _ h => res_takes h)) ?_
      refine wh_eff 15 rfl (by decide +kernel) ?_
      refine wx_ungd rfl rfl ?_
      refine wl_callT (fun w' hr ho => c2 w' ho) rfl rfl rfl ?_
      intro r2 k3
      refine wx_cat ?_
      (try refine wx_nil ?_)
      refine wq_held (by (first | exact fun _ h => h | exact fun _ h => res_takes h)) ?_
      (first | (apply wh_takegX 16; (first | exact fun _ h => res_takes h); exact hQd; rfl; rfl; rfl; rfl; (first | exact v_ne rfl rfl); decide +kernel; decide +kernel; decide +kernel; rfl))
      (apply wh_takeX 17; (first | exact fun _ h => h | exact fun _ h => res_takes h); exact hQd; rfl; rfl; (first | exact v_pickT rfl rfl | exact v_pickF rfl rfl | exact v_pick rfl rfl rfl); decide +kernel; decide +kernel; decide +kernel; rfl)
      refine wh_done (by decide +kernel) ?_
      repeat (first | refine wq_next ?_)
      refine wc_not rfl (by simp) ?_
      repeat (first | (apply wx_val; (first | exact v_move rfl | exact v_addi rfl rfl (by omega)); rfl) | refine wc_region ?_ | refine wx_nil ?_ | refine wq_next ?_ | refine wc_skip ?_ | refine wq_block ?_)
      refine wq_roundK ((i + 1, insN key s B, q2, r2)) ?_ ?_ (by repeat (first | exact trivial | refine ⟨rfl, ?_⟩)) (by first | exact catEq | exact rfl)
      · exact ⟨by dsimp only; omega, k2, k3, h7, h6⟩
      · show l.length - (i + 1) < l.length - i
        omega
    · have h6 := h5.more o
      rw [← htk] at h6
      repeat (first | refine wc_seq ?_ | refine wx_nil ?_ | refine wq_next ?_ | refine wc_setn ?_ | refine wl_stAT rfl rfl (by rfl) (by rfl) (by exact .inl (Nat.le_refl _)) rfl ?_)
      refine wc_heldX [] [opB g10 o] rfl (by (repeat (first | exact panicNot_M2 rfl | exact panicNot_D3 rfl | with_reducible exact panicNot_of panicOk_body | with_reducible apply panicNot_block | with_reducible apply panicNot_then))) (fun hQd => ?_)
      (apply wh_takeX 0; (first | exact fun _ h => h | exact fun _ h => res_takes h); exact hQd; rfl; rfl; exact v_faddr rfl rfl; decide +kernel; decide +kernel; decide +kernel; rfl)
      (apply wh_takeX 1; (first | exact fun _ h => res_takes h); exact hQd; rfl; rfl; (first | exact v_ldT rfl rfl rfl (by rfl)); decide +kernel; decide +kernel; decide +kernel; rfl)
      (apply wh_takeX 2; (first | exact fun _ h => h | exact fun _ h => res_takes h); exact hQd; rfl; rfl; (exact v_eqno rfl rfl hk); decide +kernel; decide +kernel; decide +kernel; rfl)
      (apply wh_takeX 3; (first | exact fun _ h => h | exact fun _ h => res_takes h); exact hQd; rfl; rfl; exact v_move rfl; decide +kernel; decide +kernel; decide +kernel; rfl)
      (first | (apply wh_takegX 4; (first | exact fun _ h => res_takes h); exact hQd; rfl; rfl; rfl; rfl; exact v_move rfl; decide +kernel; decide +kernel; decide +kernel; rfl) | (apply wh_takenX 4; (first | exact fun _ h => res_takes h); exact hQd; rfl; rfl; rfl; (first | exact .inl rfl); decide +kernel; decide +kernel; decide +kernel; rfl))
      (first | (apply wh_takegX 5; (first | exact fun _ h => res_takes h); exact hQd; rfl; rfl; rfl; rfl; exact v_faddr rfl rfl; decide +kernel; decide +kernel; decide +kernel; rfl) | (apply wh_takenX 5; (first | exact fun _ h => res_takes h); exact hQd; rfl; rfl; rfl; (first | exact .inl rfl); decide +kernel; decide +kernel; decide +kernel; rfl))
      (first | (apply wh_takenX 6; (first | exact fun _ h => res_takes h); exact hQd; rfl; rfl; rfl; (first | exact .inl rfl); decide +kernel; decide +kernel; decide +kernel; rfl))
      (first | (apply wh_takegX 7; (first | exact fun _ h => res_takes h); exact hQd; rfl; rfl; rfl; rfl; exact v_faddr rfl rfl; decide +kernel; decide +kernel; decide +kernel; rfl) | (apply wh_takenX 7; (first | exact fun _ h => res_takes h); exact hQd; rfl; rfl; rfl; (first | exact .inl rfl); decide +kernel; decide +kernel; decide +kernel; rfl))
      (first | (apply wh_takenX 8; (first | exact fun _ h => res_takes h); exact hQd; rfl; rfl; rfl; (first | exact .inl rfl); decide +kernel; decide +kernel; decide +kernel; rfl))
      (first | (apply wh_takenX 9; (first | exact fun _ h => res_takes h); exact hQd; rfl; rfl; rfl; (first | exact .inl rfl); decide +kernel; decide +kernel; decide +kernel; rfl))
      (first | (apply wh_takegX 10; (first | exact fun _ h => res_takes h); exact hQd; rfl; rfl; rfl; rfl; exact v_move rfl; decide +kernel; decide +kernel; decide +kernel; rfl) | (apply wh_takenX 10; (first | exact fun _ h => res_takes h); exact hQd; rfl; rfl; rfl; (first | exact .inl rfl); decide +kernel; decide +kernel; decide +kernel; rfl))
      (first | (apply wh_takegX 11; (first | exact fun _ h => res_takes h); exact hQd; rfl; rfl; rfl; rfl; exact v_faddr rfl rfl; decide +kernel; decide +kernel; decide +kernel; rfl) | (apply wh_takenX 11; (first | exact fun _ h => res_takes h); exact hQd; rfl; rfl; rfl; (first | exact .inl rfl); decide +kernel; decide +kernel; decide +kernel; rfl))
      (first | (apply wh_takenX 12; (first | exact fun _ h => res_takes h); exact hQd; rfl; rfl; rfl; (first | exact .inl rfl); decide +kernel; decide +kernel; decide +kernel; rfl))
      (first | (apply wh_takegX 13; (first | exact fun _ h => res_takes h); exact hQd; rfl; rfl; rfl; rfl; exact v_faddr rfl rfl; decide +kernel; decide +kernel; decide +kernel; rfl) | (apply wh_takenX 13; (first | exact fun _ h => res_takes h); exact hQd; rfl; rfl; rfl; (first | exact .inl rfl); decide +kernel; decide +kernel; decide +kernel; rfl))
      (first | (apply wh_takenX 14; (first | exact fun _ h => res_takes h); exact hQd; rfl; rfl; rfl; (first | exact .inl rfl); decide +kernel; decide +kernel; decide +kernel; rfl))
      (first | (apply wh_takenX 15; (first | exact fun _ h => res_takes h); exact hQd; rfl; rfl; rfl; (first | exact .inl rfl); decide +kernel; decide +kernel; decide +kernel; rfl))
      (first | (apply wh_takenX 16; (first | exact fun _ h => res_takes h); exact hQd; rfl; rfl; rfl; (first | exact .inl rfl); decide +kernel; decide +kernel; decide +kernel; rfl))
      (apply wh_takeX 17; (first | exact fun _ h => h | exact fun _ h => res_takes h); exact hQd; rfl; rfl; (first | exact v_pickT rfl rfl | exact v_pickF rfl rfl | exact v_pick rfl rfl rfl); decide +kernel; decide +kernel; decide +kernel; rfl)
      refine wh_done (by decide +kernel) ?_
      repeat (first | (apply wx_val; (first | exact v_move rfl | exact v_addi rfl rfl (by omega)); rfl) | refine wc_region ?_ | refine wx_nil ?_ | refine wq_next ?_ | refine wc_skip ?_ | refine wq_block ?_ | refine wc_condF rfl ?_)
      refine wq_roundK ((i + 1, B, q, r)) ?_ ?_ (by repeat (first | exact trivial | refine ⟨rfl, ?_⟩)) (by first | exact catEq | exact rfl)
      · exact ⟨by dsimp only; omega, h2.up (by dsimp only; omega), h3.up (by dsimp only; omega), h4, h6⟩
      · show l.length - (i + 1) < l.length - i
        omega
  obtain rfl : i = l.length := by omega
  clear hd h1
  rw [List.take_length] at h5
  have hab := h4.ab
  have c1 := fun w' ho => Count_law (g := gf) h2 w' ho
  have c2 := fun w' ho => Drop_law (g := gf) fl h2 hab (by omega) w' ho
  have hal := aft_len fl B
  obtain ⟨N1, hN1⟩ : ∃ N1, N1 = (aft fl B).length := ⟨_, rfl⟩
  have hB := h2.lens.1
  repeat (first | (apply wx_val; (first | exact v_move rfl); rfl) | refine wc_seq ?_ | refine wc_region ?_ | refine wq_next ?_ | refine wc_exit ?_ | refine wq_then_exit ?_ | refine wq_block_exit rfl ?_)
  (try refine wx_ungd rfl rfl ?_)
  refine wx_vcall (vc_callT (fun w' hr ho => c1 w' ho) rfl rfl) rfl ?_
  repeat (first | (apply wx_val; (first | exact v_move rfl | exact v_assign rfl); rfl) | refine wc_seq ?_ | refine wc_region ?_ | refine wx_nil ?_ | refine wq_next ?_)
  refine wl_callT (fun w' hr ho => c2 w' ho) rfl rfl rfl ?_
  intro q1 k1
  rw [show (B.filter (fun x => decide (x.2.b ≤ fl))).length = B.length - N1 by omega]
  have k1 : FoOk l.length (aft fl B) q1 := k1
  have c3 := fun w' ho => Count_law (g := gf) k1 w' ho
  have c4 := fun w' ho => Drop_law (g := gf) fl k1 (fun x hx => hab x (mem_aft.1 hx).1) (by omega) w' ho
  rw [aft_none, aft_aft] at c4
  refine wx_mem (M' := [q1.seg gf (aft fl B).length, r.seg gg B.length]) rfl ?_
  rw [← hN1] at c3
  rw [← hN1] at c4
  rw [← hN1]
  clear c1 c2 h2 q
  repeat (first | (apply wx_val; (first | exact v_move rfl | exact v_assign rfl | exact v_lt rfl rfl); rfl) | refine wx_ungd rfl rfl ?_ | refine wc_seq ?_ | refine wc_region ?_ | refine wx_nil ?_ | refine wq_next ?_)
  (try refine wx_ungd rfl rfl ?_)
  refine wx_vcall (vc_callT (fun w' hr ho => c3 w' ho) rfl rfl) rfl ?_
  repeat (first | (apply wx_val; (first | exact v_move rfl | exact v_ne rfl rfl | exact v_subi rfl rfl (by omega) | exact v_pickF rfl rfl); rfl) | refine wx_ungd rfl rfl ?_)
  refine wx_gset false rfl rfl (decide_eq_false (by omega)) ?_
  repeat (first | (apply wx_val; (first | exact v_move rfl); rfl) | refine wx_ungd rfl rfl ?_)
  refine wl_callT (fun w' hr ho => c4 w' ho) rfl rfl rfl ?_
  intro q2 k2
  refine wx_cat ?_
  clear c3 c4 hab
  repeat (first | (apply wx_val; (first | exact v_move rfl | exact v_assign rfl | exact v_len rfl rfl | exact v_ne rfl rfl | exact v_pickF rfl rfl); rfl) | refine wx_ungd rfl rfl ?_ | refine wc_seq ?_ | refine wc_region ?_ | refine wx_nil ?_ | refine wq_next ?_ | refine wc_block ?_ | refine wc_skip ?_ | refine wc_condF rfl ?_)
  rw [hN1]
  refine wc_loopK (ι := (Nat × Nat) × Ks × Fo × Fo) [0, 1, 2, 7, 8, 11, 12, 76, 77] (fun z => [(13, .int .i64 (z.1.2 : Nat)), (78, .int .i64 (z.1.1 : Nat))]) (fun z => [z.2.2.1.seg gf (aft fl z.2.1).length, z.2.2.2.seg gg z.2.1.length]) (fun z => z.1.1 ≤ l.length ∧ z.1.2 + (aft fl z.2.1).length = N1 ∧ FoOk l.length (aft fl z.2.1) z.2.2.1 ∧ FoOk l.length z.2.1 z.2.2.2 ∧ FromS (l.drop z.1.1) z.2.1) (fun z => l.length - z.1.1) (((0, 0), B, q2, r)) rfl ?_ (by repeat (first | exact trivial | refine ⟨rfl, ?_⟩)) ?_
  · exact ⟨Nat.zero_le _, by rw [Nat.zero_add]; exact hN1.symm, k2, h3, h5⟩
  have hBN : N1 ≤ B.length := by omega
  clear k2 h3 h4 h5
  rintro ⟨⟨p, n⟩, C, q, r⟩ ⟨h1, h2, h3, h4, h5⟩
  try dsimp only
  refine wc_fcat ?_
  refine wc_cat ?_
  dsimp only at h1 h2 h3 h4 h5
  repeat (first | (apply wx_val; (first | exact v_lt rfl rfl); rfl) | refine wc_seq ?_ | refine wc_region ?_ | refine wx_nil ?_ | refine wq_next ?_)
  refine wc_if rfl (fun hd => ?_) (fun hd => ?_)
  · obtain ⟨o, hs⟩ : ∃ s, l[p]? = some s := ⟨l[p], List.getElem?_eq_getElem (by omega)⟩
    obtain ⟨ga, oa, rfl, hcell⟩ := hv.atF (f := SOp.cells) (k := 7) (fun _ => rfl) (by decide) (show 0 < l.length by omega)
    have hdr : l.drop p = o :: l.drop (p + 1) := by
      obtain ⟨h, e⟩ := List.getElem?_eq_some_iff.1 hs
      rw [List.drop_eq_getElem_cons h, e]
    rw [hdr] at h5
    repeat (first | (apply wx_val; (first | exact v_iaddr rfl rfl rfl (by omega)); rfl) | refine wc_seq ?_ | refine wc_region ?_ | refine wq_next ?_ | refine wc_block ?_ | refine wc_skip ?_)
    (try refine wx_ungd rfl rfl ?_)
    apply wx_val
    exact v_loadA (cs := o.cells) rfl rfl (fun w' hr j u hj => hcell p o j u hs hj hr (by rw [Int.toNat_natCast]))
    rfl
    skip
    refine wl_alloc rfl rfl (fun g15 => ?_)
    by_cases hk : o.kind = 1
    rotate_left
    · repeat (first | (apply wx_val; (first | exact v_faddr rfl rfl | exact v_ldT rfl rfl rfl (by rfl) | exact v_ne rfl rfl); rfl) | refine wc_seq ?_ | refine wc_region ?_ | refine wx_nil ?_ | refine wq_next ?_ | refine wx_setn ?_ | refine wl_stAT rfl rfl (by rfl) (by rfl) (by exact .inl (Nat.le_refl _)) rfl ?_)
      refine wc_yes rfl (decide_eq_true hk) ?_
      repeat (first | (apply wx_val; (first | exact v_move rfl | exact v_addi rfl rfl (by omega)); rfl) | refine wc_region ?_ | refine wx_nil ?_ | refine wq_next ?_ | refine wc_exit ?_ | refine wq_then_exit ?_ | refine wq_block_exit rfl ?_)
      refine wq_roundK (((p + 1, n), C, q, r)) ?_ ?_ (by repeat (first | exact trivial | refine ⟨rfl, ?_⟩)) (by first | exact catEq | exact rfl)
      · exact ⟨by dsimp only; omega, h2, h3, h4, h5.skip hk⟩
      · show l.length - (p + 1) < l.length - p
        omega
    obtain ⟨kd, oa1, ob1, key, s⟩ := o
    have hk : kd = 1 := hk
    subst hk
    have c1 := fun w' ho => Overlap_law (g := gf) key fl to h3 (by omega) w' ho
    have c2 := fun w' ho => Overlap_law (g := gg) key fl to h4 (by omega) w' ho
    rw [ovK_aft] at c1
    have hoL := ovK_len (k := key) (lo := fl) (hi := to) (A := C)
    have hCl := h4.lens.1
    have h6 : FromS (l.drop (p + 1)) (delAll (key, s) C) := FromS.del (o := ⟨1, oa1, ob1, key, s⟩) h5
    generalize ovK key fl to C = O at *
    repeat (first | (apply wx_val; (first | exact v_faddr rfl rfl | exact v_ldT rfl rfl rfl (by rfl) | exact v_ne rfl rfl); rfl) | refine wc_seq ?_ | refine wc_region ?_ | refine wx_nil ?_ | refine wq_next ?_ | refine wc_skip ?_ | refine wx_setn ?_ | refine wc_condF rfl ?_ | refine wl_stAT rfl rfl (by rfl) (by rfl) (by exact .inl (Nat.le_refl _)) rfl ?_)
    refine wc_heldX [] [opB g15 ⟨1, oa1, ob1, key, s⟩] rfl (by (repeat (first | with_reducible exact panicNot_of panicOk_body | with_reducible apply panicNot_block | with_reducible apply panicNot_then))) (fun hQd => ?_)
    (apply wh_takeX 0; (first | exact fun _ h => h | exact fun _ h => res_takes h); exact hQd; rfl; rfl; exact v_move rfl; decide +kernel; decide +kernel; decide +kernel; rfl)
    (apply wh_takeX 1; (first | exact fun _ h => h | exact fun _ h => res_takes h); exact hQd; rfl; rfl; exact v_faddr rfl rfl; decide +kernel; decide +kernel; decide +kernel; rfl)
    (apply wh_takeX 2; (first | exact fun _ h => res_takes h); exact hQd; rfl; rfl; (first | exact v_ldT rfl rfl rfl (by rfl)); decide +kernel; decide +kernel; decide +kernel; rfl)
    (apply wh_takeX 3; (first | exact fun _ h => h | exact fun _ h => res_takes h); exact hQd; rfl; rfl; exact v_move rfl; decide +kernel; decide +kernel; decide +kernel; rfl)
    (apply wh_takeX 4; (first | exact fun _ h => h | exact fun _ h => res_takes h); exact hQd; rfl; rfl; exact v_move rfl; decide +kernel; decide +kernel; decide +kernel; rfl)
    (apply wh_takeX 6; (first | exact fun _ h => h | exact fun _ h => res_takes h); exact hQd; rfl; rfl; exact v_move rfl; decide +kernel; decide +kernel; decide +kernel; rfl)
    (apply wh_takeX 7; (first | exact fun _ h => h | exact fun _ h => res_takes h); exact hQd; rfl; rfl; exact v_faddr rfl rfl; decide +kernel; decide +kernel; decide +kernel; rfl)
    (apply wh_takeX 8; (first | exact fun _ h => res_takes h); exact hQd; rfl; rfl; (first | exact v_ldT rfl rfl rfl (by rfl)); decide +kernel; decide +kernel; decide +kernel; rfl)
    (apply wh_takeX 9; (first | exact fun _ h => h | exact fun _ h => res_takes h); exact hQd; rfl; rfl; exact v_move rfl; decide +kernel; decide +kernel; decide +kernel; rfl)
    (apply wh_takeX 10; (first | exact fun _ h => h | exact fun _ h => res_takes h); exact hQd; rfl; rfl; exact v_move rfl; decide +kernel; decide +kernel; decide +kernel; rfl)
    refine wh_eff 5 rfl (by decide +kernel) ?_
    refine wl_callT (fun w' hr ho => c1 w' ho) rfl rfl rfl ?_
    rintro ⟨A16, c16, E16⟩ hb6
    dsimp only at hb6 ⊢
    refine wx_cat ?_
    (try refine wx_nil ?_)
    refine wq_held (by (first | exact fun _ h => h | exact fun _ h => res_takes h)) ?_
    refine wh_eff 11 rfl (by decide +kernel) ?_
    refine wl_callT (fun w' hr ho => c2 w' ho) rfl rfl rfl ?_
    rintro ⟨A17, c17, E17⟩ hb7
    dsimp only at hb7 ⊢
    refine wx_cat ?_
    (try refine wx_nil ?_)
    refine wq_held (by (first | exact fun _ h => h | exact fun _ h => res_takes h)) ?_
    (apply wh_takeX 12; (first | exact fun _ h => h | exact fun _ h => res_takes h); exact hQd; rfl; rfl; exact v_assign rfl; decide +kernel; decide +kernel; decide +kernel; rfl)
    (apply wh_takeX 13; (first | exact fun _ h => h | exact fun _ h => res_takes h); exact hQd; rfl; rfl; exact v_assign rfl; decide +kernel; decide +kernel; decide +kernel; rfl)
    refine wh_done (by decide +kernel) ?_
    repeat (first | (apply wx_val; (first | exact v_move rfl | exact v_len rfl rfl | exact v_ne rfl rfl); rfl) | refine wc_seq ?_ | refine wc_region ?_ | refine wx_nil ?_ | refine wq_next ?_)
    refine wc_not rfl (by simp) ?_
    repeat (first | (apply wx_val; (first | exact v_move rfl | exact v_len rfl rfl); rfl) | refine wc_seq ?_ | refine wc_region ?_ | refine wx_nil ?_ | refine wq_next ?_ | refine wc_block ?_ | refine wc_skip ?_)
    refine wc_loopK (ι := Nat) [0, 1, 2, 7, 8, 11, 12, 13, 15, 16, 17, 76, 77, 78, 102, 103] (fun z => [(104, .int .i64 (z : Nat))]) (fun z => []) (fun z => z ≤ O.length) (fun z => O.length - z) (0) rfl ?_ (by repeat (first | exact trivial | refine ⟨rfl, ?_⟩)) ?_
    · omega
    rintro u y1
    try dsimp only
    refine wc_fcat ?_
    refine wc_cat ?_
    repeat (first | (apply wx_val; (first | exact v_lt rfl rfl); rfl) | refine wc_seq ?_ | refine wc_region ?_ | refine wx_nil ?_ | refine wq_next ?_)
    refine wc_if rfl (fun hd2 => ?_) (fun hd2 => ?_)
    · obtain ⟨t, ht⟩ : ∃ s, O[u]? = some s := ⟨O[u], List.getElem?_eq_getElem (by omega)⟩
      obtain ⟨g16, hA16⟩ := hb6.ptr (by omega)
      obtain ⟨g17, hA17⟩ := hb7.ptr (by omega)
      repeat (first | (apply wx_val; (first | exact v_move rfl | exact v_iaddrE (by assumption) rfl rfl rfl (by omega)); rfl) | refine wc_seq ?_ | refine wc_region ?_ | refine wq_next ?_ | refine wc_block ?_ | refine wc_skip ?_)
      (try refine wx_ungd rfl rfl ?_)
      apply wx_val
      exact v_elemT hA16 hb6 (by decide) (fun _ => rfl) ht rfl (by rw [Int.toNat_natCast]) rfl
      rfl
      skip
      refine wl_alloc rfl rfl (fun g19 => ?_)
      repeat (first | (apply wx_val; (first | exact v_move rfl | exact v_assign rfl | exact v_ldAT rfl (by rfl) | exact v_iaddrE (by assumption) rfl rfl rfl (by omega)); rfl) | refine wc_seq ?_ | refine wx_nil ?_ | refine wq_next ?_ | refine wc_setn ?_ | refine wc_reads rfl (by decide +kernel) ?_ | refine wl_stAT rfl rfl (by rfl) (by rfl) (by exact .inl (Nat.le_refl _)) rfl ?_)
      (try refine wx_ungd rfl rfl ?_)
      apply wx_val
      exact v_elemT hA17 hb7 (by decide) (fun _ => rfl) ht rfl (by rw [Int.toNat_natCast]) rfl
      rfl
      repeat (first | (apply wx_val; (first | exact v_neA rfl rfl (by kernel_rfl)); rfl) | refine wx_nil ?_ | refine wq_next ?_)
      refine wc_not rfl (by simp [Sp.cells, eqL, eqV]) ?_
      repeat (first | (apply wx_val; (first | exact v_move rfl | exact v_addi rfl rfl (by omega)); rfl) | refine wc_region ?_ | refine wx_nil ?_ | refine wq_next ?_ | refine wc_skip ?_ | refine wq_block ?_)
      refine wq_roundK (u + 1) ?_ ?_ (by repeat (first | exact trivial | refine ⟨rfl, ?_⟩)) (by first | exact catEq | exact rfl)
      · omega
      · omega
    have c3 := fun w' ho => Remove_law (g := gg) key s h4 (by omega) w' ho
    have hdn := fun h => delAll_none (e := (key, s)) (A := C) h
    have hca := fun h => has_aft (fl := fl) (e := (key, s)) (A := C) h
    have c4 := fun w' ho => Remove_law (g := gf) key s h3 (by omega) w' ho
    rw [aft_del] at c4
    have hdl := fun h => delAll_len (e := (key, s)) h3.ok.nd h
    rw [aft_del] at hdl
    have hma := mem_aft (fl := fl) (e := (key, s)) (A := C)
    cases hh : hasA (key, s) C with
    | false =>
      rw [hh, hdn (hasA_no.1 hh)] at c3
      rw [hdn (hasA_no.1 hh)] at h6
      repeat (first | (apply wx_val; (first | exact v_move rfl | exact v_faddr rfl rfl | exact v_ldT rfl rfl rfl (by rfl)); rfl) | refine wc_seq ?_ | refine wc_region ?_ | refine wq_next ?_ | refine wc_exit ?_ | refine wq_then_exit ?_ | refine wq_block_exit rfl ?_)
      (try refine wx_ungd rfl rfl ?_)
      apply wx_val
      exact v_ldQ 4 0 rfl rfl rfl rfl rfl
      rfl
      skip
      refine wl_callT (fun w' hr ho => c3 w' ho) rfl rfl rfl ?_
      intro r2 k4
      refine wx_cat ?_
      repeat (first | (apply wx_val; (first | exact v_move rfl | exact v_addi rfl rfl (by omega)); rfl) | refine wc_region ?_ | refine wx_nil ?_ | refine wq_next ?_ | refine wc_skip ?_ | refine wq_block ?_ | refine wc_condF rfl ?_)
      refine wq_roundK (((p + 1, n), C, q, r2)) ?_ ?_ (by repeat (first | exact trivial | refine ⟨rfl, ?_⟩)) (by first | exact catEq | exact rfl)
      · exact ⟨by dsimp only; omega, h2, h3, k4, h6⟩
      · show l.length - (p + 1) < l.length - p
        omega
    | true =>
      have hm := hasA_iff.1 hh
      rw [hh] at c3
      rw [hca hm] at c4
      repeat (first | (apply wx_val; (first | exact v_move rfl | exact v_faddr rfl rfl | exact v_ldT rfl rfl rfl (by rfl)); rfl) | refine wc_seq ?_ | refine wc_region ?_ | refine wq_next ?_ | refine wc_exit ?_ | refine wq_then_exit ?_ | refine wq_block_exit rfl ?_)
      (try refine wx_ungd rfl rfl ?_)
      apply wx_val
      exact v_ldQ 4 0 rfl rfl rfl rfl rfl
      rfl
      skip
      refine wl_callT (fun w' hr ho => c3 w' ho) rfl rfl rfl ?_
      intro r2 k4
      refine wx_cat ?_
      repeat (first | refine wc_seq ?_ | refine wx_nil ?_ | refine wq_next ?_ | refine wc_condT rfl ?_)
      refine wc_heldX [] [opB g15 ⟨1, oa1, ob1, key, s⟩] rfl (by (repeat (first | with_reducible exact panicNot_of panicOk_body | with_reducible apply panicNot_block | with_reducible apply panicNot_then))) (fun hQd => ?_)
      (apply wh_takeX 0; (first | exact fun _ h => h | exact fun _ h => res_takes h); exact hQd; rfl; rfl; exact v_move rfl; decide +kernel; decide +kernel; decide +kernel; rfl)
      (apply wh_takeX 1; (first | exact fun _ h => h | exact fun _ h => res_takes h); exact hQd; rfl; rfl; exact v_faddr rfl rfl; decide +kernel; decide +kernel; decide +kernel; rfl)
      (apply wh_takeX 2; (first | exact fun _ h => res_takes h); exact hQd; rfl; rfl; (first | exact v_ldT rfl rfl rfl (by rfl)); decide +kernel; decide +kernel; decide +kernel; rfl)
      (apply wh_takeX 3; (first | exact fun _ h => h | exact fun _ h => res_takes h); exact hQd; rfl; rfl; exact v_faddr rfl rfl; decide +kernel; decide +kernel; decide +kernel; rfl)
      (apply wh_takeX 4; (first | exact fun _ h => res_takes h); exact hQd; rfl; rfl; (first | (first | exact v_ldQ 0 0 rfl rfl rfl rfl rfl)); decide +kernel; decide +kernel; decide +kernel; rfl)
      (apply wh_takeX 6; (first | exact fun _ h => h | exact fun _ h => res_takes h); exact hQd; rfl; rfl; exact v_faddr rfl rfl; decide +kernel; decide +kernel; decide +kernel; rfl)
      (apply wh_takeX 7; (first | exact fun _ h => h | exact fun _ h => res_takes h); exact hQd; rfl; rfl; exact v_faddr rfl rfl; decide +kernel; decide +kernel; decide +kernel; rfl)
      (apply wh_takeX 8; (first | exact fun _ h => res_takes h); exact hQd; rfl; rfl; (first | exact v_ldT rfl rfl rfl (by rfl)); decide +kernel; decide +kernel; decide +kernel; rfl)
      (apply wh_takeX 9; (first | exact fun _ h => h | exact fun _ h => res_takes h); exact hQd; rfl; rfl; exact v_move rfl; decide +kernel; decide +kernel; decide +kernel; rfl)
      (apply wh_takeX 10; (first | exact fun _ h => h | exact fun _ h => res_takes h); exact hQd; rfl; rfl; exact v_gt rfl rfl; decide +kernel; decide +kernel; decide +kernel; rfl)
      refine wh_eff 5 rfl (by decide +kernel) ?_
      refine wl_callT (fun w' hr ho => c4 w' ho) rfl rfl rfl ?_
      intro q2 k3
      refine wx_cat ?_
      (try refine wx_nil ?_)
      refine wq_held (by (first | exact fun _ h => h | exact fun _ h => res_takes h)) ?_
      (apply wh_takeX 11; (first | exact fun _ h => res_takes h); exact hQd; rfl; rfl; (first | exact v_bne rfl rfl rfl); decide +kernel; decide +kernel; decide +kernel; rfl)
      refine wh_done (by decide +kernel) ?_
      repeat (first | refine wq_next ?_)
      refine wc_not rfl (by simp) ?_
      repeat (first | (apply wx_val; (first | exact v_move rfl | exact v_faddr rfl rfl | exact v_ldT rfl rfl rfl (by rfl) | exact v_gt rfl rfl); rfl) | refine wc_seq ?_ | refine wc_region ?_ | refine wx_nil ?_ | refine wq_next ?_ | refine wc_skip ?_)
      refine wc_if rfl (fun hf => ?_) (fun hf => ?_)
      · have := hdl (hma.2 ⟨hm, hf⟩)
        repeat (first | (apply wx_val; (first | exact v_move rfl | exact v_assign rfl | exact v_addi rfl rfl (by omega)); rfl) | refine wc_region ?_ | refine wx_nil ?_ | refine wq_next ?_ | refine wq_block ?_)
        refine wq_roundK (((p + 1, n + 1), delAll (key, s) C, q2, r2)) ?_ ?_ (by repeat (first | exact trivial | refine ⟨rfl, ?_⟩)) (by first | exact catEq | exact rfl)
        · exact ⟨by dsimp only; omega, by dsimp only; omega, k3, k4, h6⟩
        · show l.length - (p + 1) < l.length - p
          omega
      · have hnm : (key, s) ∉ aft fl C := fun h => hf (hma.1 h).2
        have hno := delAll_none hnm
        rw [aft_del] at hno
        repeat (first | (apply wx_val; (first | exact v_move rfl | exact v_addi rfl rfl (by omega)); rfl) | refine wc_region ?_ | refine wx_nil ?_ | refine wq_next ?_ | refine wc_skip ?_ | refine wq_block ?_)
        refine wq_roundK (((p + 1, n), delAll (key, s) C, q2, r2)) ?_ ?_ (by repeat (first | exact trivial | refine ⟨rfl, ?_⟩)) (by first | exact catEq | exact rfl)
        · exact ⟨by dsimp only; omega, by dsimp only; rw [hno]; exact h2, k3, k4, h6⟩
        · show l.length - (p + 1) < l.length - p
          omega
  have hp : p = l.length := by omega
  rw [hp, List.drop_length] at h5
  have hC : C = [] := List.eq_nil_iff_forall_not_mem.2 fun e he => by
    obtain ⟨o, ho, _⟩ := h5 e he
    cases ho
  subst hC
  have h2 : n = N1 := by simpa [aft] using h2
  subst h2
  have c1 := fun w' ho => Count_law (g := gf) h3 w' ho
  have c2 := fun w' ho => Count_law (g := gg) h4 w' ho
  repeat (first | (apply wx_val; (first | exact v_move rfl | exact v_eq rfl rfl | exact v_subi rfl rfl (by omega)); rfl) | refine wc_seq ?_ | refine wc_region ?_ | refine wq_next ?_ | refine wc_exit ?_ | refine wq_then_exit ?_ | refine wq_block_exit rfl ?_)
  refine wx_gset true rfl rfl (decide_eq_true (by omega)) ?_
  repeat (first | (apply wx_val; (first | exact v_move rfl); rfl) | refine wx_ungd rfl rfl ?_)
  (try refine wx_ungd rfl rfl ?_)
  refine wx_vcall (vc_callT (fun w' hr ho => c1 w' ho) rfl rfl) rfl ?_
  repeat (first | (apply wx_val; (first | exact v_move rfl | exact v_eq rfl rfl | exact v_pickT rfl rfl); rfl) | refine wx_ungd rfl rfl ?_)
  (try refine wx_ungd rfl rfl ?_)
  refine wx_vcall (vc_callT (fun w' hr ho => c2 w' ho) rfl rfl) rfl ?_
  repeat (first | (apply wx_val; (first | exact v_assign rfl | exact v_eq rfl rfl | exact v_pickT rfl rfl); rfl) | refine wx_ungd rfl rfl ?_ | refine wx_nil ?_ | refine wq_next ?_ | refine wc_ret ?_)
  exact wq_clear (wq_ret1 () rfl rfl trivial rfl)
end Go.Proofs.Ytjeghbachokljaa
