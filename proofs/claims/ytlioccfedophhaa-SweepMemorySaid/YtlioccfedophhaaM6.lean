/- Parts of the proof: SpS, SpO, SpT, SpU, SpQ, SpV, SpFi, SpW, SpX, SwL, SwN, SwP. -/
import Derived.Test.YtlioccfedophhaaM5
import Derived.Test.YtlioccfedophhaaM4
import Derived.Test.YtlioccfedophhaaM3
/- The walk over a tree. -/
set_option linter.unusedVariables false
set_option linter.unusedSimpArgs false
namespace Go.Proofs.Ytlioccfedophhaa
open Go
set_option maxRecDepth 20000
set_option maxHeartbeats 2000000
attribute [local irreducible] WX WC WQ Val VCall WY
theorem rSpS_0 {A B : Prop} (k : B) (h : Hold B → A := by intro k; (repeat (first | (apply wx_val; (first | exact v_move rfl | exact v_assign rfl | exact v_nil rfl | exact v_faddr rfl rfl | exact v_ldT rfl rfl rfl (by rfl) | exact v_eq rfl rfl | exact v_ge rfl rfl | exact v_not rfl | exact v_pickT rfl rfl | exact v_pickF rfl rfl | exact v_iaddrE (by assumption) rfl rfl rfl (by omega)); rfl) | refine wx_no rfl rfl rfl ?_ | refine wx_ungd rfl rfl ?_ | refine wc_seq ?_ | refine wc_region ?_ | refine wx_nil ?_ | refine wq_next ?_ | refine wc_ret ?_ | refine wc_skip ?_ | refine wq_then_ret ?_ | refine wc_setn ?_ | refine wc_cat ?_ | refine wq_cat ?_ | refine wc_condT rfl ?_ | refine wc_condF rfl ?_ | refine wl_stAT rfl rfl (by rfl) (by rfl) (by exact .inl (Nat.le_refl _)) rfl ?_)); exact k.out) : A := h ⟨k⟩
/-- the spans that the walk meets -/
def overT (lo hi : Int) : Tr → List Sp
  | .nil => []
  | .node _ l s r _ f => if f ≤ lo then [] else overT lo hi l ++ (if hi ≤ s.a then [] else (if lo < s.b then [s] else []) ++ overT lo hi r)
theorem overT_len (lo hi : Int) : ∀ t : Tr, (overT lo hi t).length ≤ t.size
  | .nil => Nat.le_refl _
  | .node i l s r h f => by
    have h1 := overT_len lo hi l
    have h2 := overT_len lo hi r
    unfold overT Tr.size
    split
    · simp
    · rw [List.length_append]
      split
      · simp; omega
      · rw [List.length_append]
        split <;> simp <;> omega
section fs
variable {g k : Nat} {y : Fa} {cnt : Int} {N : List Nd} {E : Seg}
theorem walk_spec {β : Type} (MB : β → Seg) (ok : List Sp → β → Prop) {lp n0 : Nat} (lo hi : Int) (h1 : ArO N N.length y.A y.c E) (h3 : Inb N)
    (hY : ∀ pre q (s : Sp) W, pre.length < n0 → ok pre q → Own W [MB q] → YieldAt Fence.wide 0 Try.prog lp #[.agg s.cells.toArray] W (Ret (β := β) W (ids [MB q]) (fun _ => .bool true) (fun q' => [MB q']) (ok (pre ++ [s])))) (t : Tr) :
    ∀ pre q, At N t → pre.length + t.size ≤ n0 → ok pre q → ∀ w, Own w [fsB g y N.length k cnt, E, MB q] →
    Calls Try.prog 95 #[.pointer (some ⟨g, 0, none⟩), .int .i64 (t.ix : Nat), .int .i64 lo, .int .i64 hi, .func (.yield lp) #[] #[]] w (Ret (β := β) w (ids [fsB g y N.length k cnt, E, MB q]) (fun _ => .bool true) (fun q' => [fsB g y N.length k cnt, E, MB q']) (ok (pre ++ overT lo hi t))) := by
  have hp := h3.pos
  have hsm := h3.small
  obtain ⟨ga, hA⟩ := h1.ptr hp
  induction t with
  | nil =>
    intro pre q ht hz hq w ho
    refine go [.pointer (some ⟨g, 0, none⟩), .int .i64 0, .int .i64 lo, .int .i64 hi, .func (.yield lp) #[] #[]] [fsB g y N.length k cnt, E, MB q] Try.func95 Try.ntmps95 rfl rfl ho ?_
    have hN0 := (nd_mem hp).1
    refine rSpS_0 ?_
    (try refine wx_ungd rfl rfl ?_)
    apply wx_val
    exact v_loadA (cs := Nd.cells (nd N 0)) rfl rfl (fun w' hr j u hj => h1.elemT (i := 0) hA (by decide) (fun _ => rfl) hN0 hr (j := j) (v := u) hj (by simp))
    rfl
    refine wl_alloc rfl rfl (fun g11 => ?_)
    refine rSpS_0 ?_
    exact wq_ret1T q rfl rfl (by simpa [overT] using hq) rfl
  | node i l s0 r hh ff ihl ihr =>
    intro pre q ht hz hq w ho
    obtain ⟨t1, t2, hnd, hlr1, hlr2⟩ := ht
    have hNi := (nd_mem t2).1
    refine go [.pointer (some ⟨g, 0, none⟩), .int .i64 (i : Nat), .int .i64 lo, .int .i64 hi, .func (.yield lp) #[] #[]] [fsB g y N.length k cnt, E, MB q] Try.func95 Try.ntmps95 rfl rfl ho ?_
    have hl1 := overT_len lo hi l
    have hl2 := overT_len lo hi r
    simp only [Tr.size] at hz
    unfold overT
    refine rSpS_0 ?_
    (try refine wx_ungd rfl rfl ?_)
    apply wx_val
    exact v_loadA (cs := Nd.cells ⟨s0, l.ix, r.ix, hh, ff⟩) rfl rfl (fun w' hr j u hj => h1.elemT (i := i) hA (by decide) (fun _ => rfl) hNi hr (j := j) (v := u) (by rw [hnd]; exact hj) (by rw [Int.toNat_natCast]))
    rfl
    refine wl_alloc rfl rfl (fun g11 => ?_)
    repeat' (first | (apply wx_val; (first | exact v_move rfl | exact v_assign rfl | exact v_faddr rfl rfl | exact v_ldT rfl rfl rfl (by rfl) | exact v_eq rfl rfl | exact v_le rfl rfl | exact v_pickT rfl rfl | exact v_pickF rfl rfl); rfl) | refine wx_no rfl rfl rfl ?_ | refine wx_ungd rfl rfl ?_ | refine wc_seq ?_ | refine wc_region ?_ | refine wx_nil ?_ | refine wq_next ?_ | refine wc_ret ?_ | refine wc_skip ?_ | refine wq_then_ret ?_ | refine wx_setn ?_ | refine wc_condT rfl ?_ | refine wl_stAT rfl rfl (by rfl) (by rfl) (by exact .inl (Nat.le_refl _)) rfl ?_ | refine wc_if rfl (fun _ => ?_) (fun _ => ?_) | refine wx_gif rfl rfl (fun _ => ?_) (fun _ => ?_))
    · exact absurd (show (i : Int) = 0 by assumption) (by omega)
    · rename_i hx hy
      rw [if_pos hy]
      exact wq_ret1T q rfl rfl (by simpa using hq) rfl
    rename_i hx hy
    have hy' : ¬ ff ≤ lo := hy
    rw [if_neg hy']
    refine wl_callT (fun w' hr ho => ihl pre q hlr1 (by omega) hq w' ho) rfl rfl rfl ?_
    intro q1 hq1
    refine rSpS_0 ?_
    refine wc_if rfl (fun hc => ?_) (fun hc => ?_)
    · have hc' : hi ≤ s0.a := hc
      rw [if_pos hc']
      refine rSpS_0 ?_
      exact wq_ret1T q1 rfl rfl (by simpa using hq1) rfl
    have hc' : ¬ hi ≤ s0.a := hc
    rw [if_neg hc']
    refine wc_skip (wq_next ?_)
    (repeat refine wc_seq ?_)
    refine wc_regionY ?_
    refine wy_val (v_faddr rfl rfl) (.inl rfl) rfl rfl ?_
    refine wy_val (v_faddr rfl rfl) (.inl rfl) rfl rfl ?_
    refine wy_val (v_load rfl rfl rfl (ld 3 0 rfl rfl rfl)) (.inl rfl) rfl rfl ?_
    refine wy_val (v_move rfl) (.inl rfl) rfl rfl ?_
    by_cases hb : lo < s0.b
    · rw [if_pos hb]
      refine wy_val (v := .bool true) (decide_eq_true hb ▸ v_gt rfl rfl) (.inl rfl) rfl rfl ?_
      refine wy_val (v_move rfl) (.inl rfl) rfl rfl ?_
      refine wy_val (v_move rfl) (.inr ⟨_, _, _, rfl, rfl, rfl⟩) rfl rfl ?_
      refine wy_val (v_faddr rfl rfl) (.inr ⟨_, _, _, rfl, rfl, rfl⟩) rfl rfl ?_
      refine wy_val (v_ldQ 3 0 rfl rfl rfl rfl rfl) (.inr ⟨_, _, _, rfl, rfl, rfl⟩) rfl rfl ?_
      refine wy_yield (fun w' hr ho => hY _ q1 s0 w' (by simp only [List.length_append]; omega) hq1 ho) rfl rfl (.inr ⟨_, _, _, rfl, rfl, rfl⟩) rfl ?_
      intro q2 hq2
      refine wy_of (out_then (out_body (P := Try.prog) (fn := Try.f95))) rfl ?_
      refine rSpS_0 ?_
      refine wl_callT (fun w' hr ho => ihr _ q2 hlr2 (by simp only [List.length_append, List.length_cons, List.length_nil]; omega) hq2 w' ho) rfl rfl rfl ?_
      intro q3 hq3
      refine rSpS_0 ?_
      exact wq_ret1T q3 rfl rfl (by simpa using hq3) rfl
    · rw [if_neg hb]
      refine wy_val (v := .bool false) (decide_eq_false hb ▸ v_gt rfl rfl) (.inl rfl) rfl rfl ?_
      refine wy_val (v_move rfl) (.inl rfl) rfl rfl ?_
      refine wy_no rfl rfl rfl ?_
      refine wy_no rfl rfl rfl ?_
      refine wy_no rfl rfl rfl ?_
      refine wy_no rfl rfl rfl ?_
      refine wy_no rfl rfl rfl ?_
      refine wy_of (out_then (out_body (P := Try.prog) (fn := Try.f95))) rfl ?_
      refine rSpS_0 ?_
      refine wl_callT (fun w' hr ho => ihr _ q1 hlr2 (by simp only [List.length_append]; omega) hq1 w' ho) rfl rfl rfl ?_
      intro q3 hq3
      refine rSpS_0 ?_
      exact wq_ret1T q3 rfl rfl (by simpa using hq3) rfl
end fs
end Go.Proofs.Ytlioccfedophhaa
/- All spans of a forest in one list, in order: what is put in, what is taken out, what a key has. -/
set_option linter.unusedVariables false
set_option linter.unusedSimpArgs false
namespace Go.Proofs.Ytlioccfedophhaa
open Go
set_option maxRecDepth 20000
set_option maxHeartbeats 1000000
abbrev Ks := List (ByteArray × Sp)
def ofK (k : ByteArray) (A : Ks) : List Sp := (A.filter (fun e => decide (e.1 = k))).map Prod.snd
def insAll (e : ByteArray × Sp) : Ks → Ks
  | [] => [e]
  | x :: r => if cmpS e.2 x.2 < 0 then e :: x :: r else x :: insAll e r
def delAll (e : ByteArray × Sp) (A : Ks) : Ks := A.filter (fun x => decide (x ≠ e))
structure AOk (A : Ks) : Prop where
  srt : A.Pairwise (fun x y => ¬ ltS y.2 x.2)
  nd : A.Nodup
theorem mem_ofK {k : ByteArray} {A : Ks} {s : Sp} : s ∈ ofK k A ↔ (k, s) ∈ A := by
  unfold ofK
  constructor
  · intro h
    obtain ⟨⟨k', s'⟩, h1, rfl⟩ := List.mem_map.1 h
    have := List.mem_filter.1 h1
    have e : k' = k := by simpa using this.2
    exact e ▸ this.1
  · intro h
    exact List.mem_map.2 ⟨(k, s), List.mem_filter.2 ⟨h, by simp⟩, rfl⟩
theorem ofK_len (k : ByteArray) (A : Ks) : (ofK k A).length ≤ A.length := by
  unfold ofK
  rw [List.length_map]
  exact List.length_filter_le _ _
theorem insAll_perm (e : ByteArray × Sp) : ∀ A : Ks, (insAll e A).Perm (e :: A)
  | [] => List.Perm.refl _
  | x :: r => by
    unfold insAll
    split
    · exact List.Perm.refl _
    · exact ((insAll_perm e r).cons x).trans (List.Perm.swap ..)
theorem insAll_len (e : ByteArray × Sp) (A : Ks) : (insAll e A).length = A.length + 1 := by rw [(insAll_perm e A).length_eq]; rfl
theorem ncmp {s t : Sp} : ¬ cmpS s t < 0 ↔ ¬ ltS s t := ⟨fun h h2 => h (lt_cmp h2), fun h h2 => h (cmp_lt h2)⟩
theorem ltS_mid {s t u : Sp} (h1 : ltS s t) (h2 : ¬ ltS u t) : ltS s u := by unfold ltS at *; omega
theorem nlt_trans {s t u : Sp} (h1 : ¬ ltS t s) (h2 : ¬ ltS u t) : ¬ ltS u s := by unfold ltS at *; omega
theorem insAll_ok {e : ByteArray × Sp} : ∀ {A : Ks}, AOk A → e ∉ A → AOk (insAll e A) := fun {A} h he => by
  refine ⟨?_, (insAll_perm e A).nodup_iff.2 (List.nodup_cons.2 ⟨he, h.nd⟩)⟩
  have hs := h.srt
  clear h he
  induction A with
  | nil => exact List.pairwise_singleton ..
  | cons x r ih =>
    obtain ⟨h1, h2⟩ := List.pairwise_cons.1 hs
    unfold insAll
    by_cases hc : cmpS e.2 x.2 < 0
    · rw [if_pos hc]
      have hl := cmp_lt hc
      refine List.pairwise_cons.2 ⟨fun y hy h3 => ?_, hs⟩
      rcases List.mem_cons.1 hy with rfl | hy
      · exact ltS_asym hl h3
      · exact ltS_asym (ltS_mid hl (h1 y hy)) h3
    · rw [if_neg hc]
      refine List.pairwise_cons.2 ⟨fun y hy => ?_, ih h2⟩
      rcases List.mem_cons.1 ((insAll_perm e r).mem_iff.1 hy) with rfl | hy
      · exact ncmp.1 hc
      · exact h1 y hy
theorem ofK_cons {k : ByteArray} {x : ByteArray × Sp} {r : Ks} : ofK k (x :: r) = if x.1 = k then x.2 :: ofK k r else ofK k r := by
  unfold ofK
  by_cases h : x.1 = k
  · rw [List.filter_cons_of_pos (by simpa using h), if_pos h]; rfl
  · rw [List.filter_cons_of_neg (by simpa using h), if_neg h]
theorem insL_front {s : Sp} : ∀ {l : List Sp}, (∀ x ∈ l, ltS s x) → insL s l = s :: l
  | [], _ => rfl
  | x :: r, h => by
    unfold insL
    rw [if_pos (lt_cmp (h x (List.mem_cons_self ..)))]
theorem ofK_ins {k : ByteArray} {s : Sp} : ∀ {A : Ks}, A.Pairwise (fun x y => ¬ ltS y.2 x.2) → ∀ k', ofK k' (insAll (k, s) A) = if k' = k then insL s (ofK k A) else ofK k' A
  | [], _, k' => by
    unfold insAll
    rw [ofK_cons]
    by_cases h : k' = k
    · rw [if_pos h.symm, if_pos h, h]; rfl
    · rw [if_neg (fun e => h e.symm), if_neg h]
  | x :: r, hs, k' => by
    obtain ⟨h1, h2⟩ := List.pairwise_cons.1 hs
    have ih := ofK_ins (k := k) (s := s) h2
    unfold insAll
    by_cases hc : cmpS s x.2 < 0
    · rw [if_pos hc, ofK_cons]
      by_cases h : k' = k
      · subst h
        rw [if_pos rfl, if_pos rfl]
        refine (insL_front fun y hy => ?_).symm
        have hl := cmp_lt hc
        rcases List.mem_cons.1 (mem_ofK.1 hy) with e | hm
        · rw [show y = x.2 from by rw [← e]]; exact hl
        · exact ltS_mid hl (h1 _ hm)
      · rw [if_neg (fun e => h e.symm), if_neg h]
    · rw [if_neg hc, ofK_cons, ih k', ofK_cons (k := k), ofK_cons (k := k')]
      by_cases h : k' = k
      · subst h
        rw [if_pos rfl, if_pos rfl]
        by_cases hx : x.1 = k'
        · rw [if_pos hx, if_pos hx]
          show _ = insL s (x.2 :: _)
          rw [insL, if_neg hc]
        · rw [if_neg hx, if_neg hx]
      · rw [if_neg h, if_neg h]
theorem delAll_ok {e : ByteArray × Sp} {A : Ks} (h : AOk A) : AOk (delAll e A) := ⟨h.srt.filter _, h.nd.filter _⟩
theorem delAll_none {e : ByteArray × Sp} {A : Ks} (h : e ∉ A) : delAll e A = A := List.filter_eq_self.2 fun x hx => by
  have : x ≠ e := fun e2 => h (e2 ▸ hx)
  simpa using this
theorem delAll_len {e : ByteArray × Sp} : ∀ {A : Ks}, A.Nodup → e ∈ A → (delAll e A).length + 1 = A.length
  | [], _, h => by cases h
  | x :: r, hn, h => by
    obtain ⟨h1, h2⟩ := List.nodup_cons.1 hn
    by_cases hx : x = e
    · subst hx
      have : delAll x (x :: r) = delAll x r := List.filter_cons_of_neg (by simp)
      rw [this, delAll_none h1]
      rfl
    · have : delAll e (x :: r) = x :: delAll e r := List.filter_cons_of_pos (by simpa using hx)
      rw [this]
      have := delAll_len h2 ((List.mem_cons.1 h).resolve_left fun e2 => hx e2.symm)
      simp only [List.length_cons]
      omega
theorem ofK_del {k : ByteArray} {s : Sp} : ∀ {A : Ks} (k' : ByteArray), ofK k' (delAll (k, s) A) = if k' = k then (ofK k A).filter (fun x => decide (x ≠ s)) else ofK k' A
  | [], k' => by simp [delAll, ofK]
  | x :: r, k' => by
    have ih := ofK_del (k := k) (s := s) (A := r) k'
    by_cases hx : x = (k, s)
    · subst hx
      have : delAll (k, s) ((k, s) :: r) = delAll (k, s) r := List.filter_cons_of_neg (by simp)
      rw [this, ih, ofK_cons, ofK_cons, if_pos rfl]
      by_cases h : k' = k
      · rw [if_pos h, if_pos h, List.filter_cons_of_neg (by simp)]
      · rw [if_neg h, if_neg h, if_neg (fun e => h e.symm)]
    · have : delAll (k, s) (x :: r) = x :: delAll (k, s) r := List.filter_cons_of_pos (by simpa using hx)
      rw [this, ofK_cons, ih, ofK_cons, ofK_cons]
      by_cases h : k' = k
      · subst h
        rw [if_pos rfl, if_pos rfl]
        by_cases hk : x.1 = k'
        · have hs : x.2 ≠ s := fun e => hx (Prod.ext hk e)
          rw [if_pos hk, if_pos hk, List.filter_cons_of_pos (by simpa using hs)]
        · rw [if_neg hk, if_neg hk]
      · rw [if_neg h, if_neg h]
theorem mem_hasT {s : Sp} : ∀ {t : Tr}, Srt t → s ∈ toL t → hasT t s = true
  | .nil, _, h => by cases h
  | .node i l s0 r hh ff, hs, hm => by
    obtain ⟨s1, s2, s3, s4⟩ := hs.node
    unfold hasT
    rcases cmp_cases s s0 with h | h | h
    · rw [if_neg (by omega), if_pos h.1]
      exact mem_hasT s1 (mem_left hs hm h.1)
    · rw [if_pos h.1]
    · rw [if_neg (by omega), if_neg (by omega)]
      exact mem_hasT s2 (mem_right hs hm h.1)
theorem toL_node {i : Nat} {l r : Tr} {s : Sp} {h f : Int} : toL (.node i l s r h f) = toL l ++ s :: toL r := rfl
def ovQ (lo hi : Int) (l : List Sp) : List Sp := l.filter (fun s => decide (s.a < hi ∧ lo < s.b))
theorem overT_eq (lo hi : Int) : ∀ {t : Tr}, Avl t → Srt t → overT lo hi t = ovQ lo hi (toL t)
  | .nil, _, _ => rfl
  | .node i l s r h f, ha, hs => by
    obtain ⟨a1, a2, a3, a4, a5⟩ := ha
    obtain ⟨s1, s2, s3, s4⟩ := hs.node
    have i1 := overT_eq lo hi a1 s1
    have i2 := overT_eq lo hi a2 s2
    unfold overT
    by_cases h1 : f ≤ lo
    · rw [if_pos h1]
      refine (List.filter_eq_nil_iff.2 fun x hx => ?_).symm
      have : x.b ≤ f := a5 x hx
      simp; intros; omega
    · rw [if_neg h1, i1, i2]
      rw [toL_node]
      unfold ovQ
      rw [List.filter_append]
      congr 1
      by_cases h2 : hi ≤ s.a
      · rw [if_pos h2]
        refine (List.filter_eq_nil_iff.2 fun x hx => ?_).symm
        have : s.a ≤ x.a := by
          rcases List.mem_cons.1 hx with rfl | hx
          · exact Int.le_refl _
          · have := s4 x hx
            unfold ltS at this
            omega
        simp; intros; omega
      · rw [if_neg h2]
        by_cases h3 : lo < s.b
        · rw [if_pos h3, List.filter_cons_of_pos (by simp; omega)]; rfl
        · rw [if_neg h3, List.filter_cons_of_neg (by simp; omega)]; rfl
/-- what an AVL tree of a height must hold: the least, and the most -/
def fibA : Nat → Nat
  | 0 => 0
  | 1 => 1
  | n + 2 => fibA n + fibA (n + 1) + 1
theorem fibA_mono : ∀ n, fibA n ≤ fibA (n + 1)
  | 0 => by decide
  | 1 => by decide
  | n + 2 => by
    show fibA (n + 2) ≤ fibA (n + 1) + fibA (n + 2) + 1
    omega
theorem Avl.count : ∀ {t : Tr} (n : Nat), Avl t → t.hh = n → fibA n ≤ t.size ∧ t.size < 2 ^ n
  | .nil, n, _, h => by
    have : n = 0 := by have := hh_nil; omega
    subst this
    exact ⟨Nat.le_refl _, by decide⟩
  | .node i l s r hh f, n, ha, h => by
    obtain ⟨a1, a2, a3, a4, a5⟩ := ha
    rw [hh_node] at h
    have p1 := a1.pos
    have p2 := a2.pos
    have m := maxI_c l.hh r.hh
    obtain ⟨x, hx⟩ := Int.eq_ofNat_of_zero_le p1.1
    obtain ⟨y, hy⟩ := Int.eq_ofNat_of_zero_le p2.1
    have c1 := Avl.count x a1 hx
    have c2 := Avl.count y a2 hy
    have hn : n = 1 + x ∨ n = 1 + y := by omega
    have e1 : (Tr.node i l s r hh f).size = l.size + r.size + 1 := rfl
    rw [e1]
    have hp : ∀ a b : Nat, a ≤ b → 2 ^ a ≤ 2 ^ b := fun a b h => Nat.pow_le_pow_right (by decide) h
    rcases (show (n = x + 1 ∧ y = x) ∨ (n = x + 1 ∧ x = y + 1) ∨ (n = y + 1 ∧ y = x + 1) by omega) with ⟨e, e2⟩ | ⟨e, e2⟩ | ⟨e, e2⟩
    · subst e e2
      have := Nat.pow_succ 2 y
      refine ⟨?_, by omega⟩
      cases y with
      | zero => show 1 ≤ _; omega
      | succ z =>
        have := fibA_mono z
        show fibA z + fibA (z + 1) + 1 ≤ _
        omega
    · subst e e2
      have := Nat.pow_succ 2 (y + 1)
      have := hp y (y + 1) (by omega)
      refine ⟨?_, by omega⟩
      show fibA y + fibA (y + 1) + 1 ≤ _
      omega
    · subst e e2
      have := Nat.pow_succ 2 (x + 1)
      have := hp x (x + 1) (by omega)
      refine ⟨?_, by omega⟩
      show fibA x + fibA (x + 1) + 1 ≤ _
      omega
end Go.Proofs.Ytlioccfedophhaa
/- The iterator over a tree; Overlap and First. -/
set_option linter.unusedVariables false
set_option linter.unusedSimpArgs false
namespace Go.Proofs.Ytlioccfedophhaa
open Go
set_option maxRecDepth 20000
set_option maxHeartbeats 2000000
attribute [local irreducible] WX WC WQ Val VCall WY WR
abbrev bxP (b g : Nat) : Seg := [(b, .cells [.pointer (some ⟨g, 0, none⟩)].toArray 64 (0, 0))]
abbrev bxS (b : Nat) (k : ByteArray) : Seg := [(b, .cells [.string k].toArray 9 (0, 0))]
abbrev bxI (b : Nat) (v : Int) : Seg := [(b, .cells [.int .i64 v].toArray 3 (0, 0))]
abbrev ovP (b : Nat × Nat × Nat × Nat) : Array Value := #[.pointer (some ⟨b.1, 0, none⟩), .pointer (some ⟨b.2.1, 0, none⟩), .pointer (some ⟨b.2.2.1, 0, none⟩), .pointer (some ⟨b.2.2.2, 0, none⟩)]
abbrev ovB (g : Nat) (k : ByteArray) (lo hi : Int) (b : Nat × Nat × Nat × Nat) : List Seg := [bxP b.1 g, bxS b.2.1 k, bxI b.2.2.1 lo, bxI b.2.2.2 hi]
section fs
variable {g : Nat} {y : Fa} {cnt : Int} {N : List Nd} {sp : List Nat} {E : Seg} {L : TE ByteArray} {clk : Nat}
theorem over_spec (k : ByteArray) (lo hi : Int) (w : World) :
    Calls Try.prog 80 #[.pointer (some ⟨g, 0, none⟩), .string k, .int .i64 lo, .int .i64 hi] w (Ret (β := Nat × Nat × Nat × Nat) w (ids []) (fun b => .func (.func 94) #[] (ovP b)) (fun b => ovB g k lo hi b) (fun _ => True)) := by
  refine go [.pointer (some ⟨g, 0, none⟩), .string k, .int .i64 lo, .int .i64 hi] [] Try.func80 Try.ntmps80 rfl rfl (own_nil w) ?_
  repeat (first | refine wc_seq ?_ | refine wc_region ?_)
  refine wl_box rfl rfl (fun g4 => ?_)
  refine wl_box rfl rfl (fun g5 => ?_)
  refine wl_box rfl rfl (fun g6 => ?_)
  refine wl_box rfl rfl (fun g7 => ?_)
  refine wx_mem (M' := [bxI g7 hi, bxI g6 lo, bxS g5 k, bxP g4 g]) rfl ?_
  repeat (first | (apply wx_val; (first | exact v_assign rfl | exact v_mkFunc rfl rfl); rfl) | refine wc_seq ?_ | refine wc_region ?_ | refine wx_nil ?_ | refine wq_next ?_ | refine wc_ret ?_)
  exact wq_ret1T (g4, g5, g6, g7) rfl rfl trivial rfl
theorem over1_spec {β : Type} (MB : β → Seg) (ok : List Sp → β → Prop) {lp n0 : Nat} (k : ByteArray) (lo hi : Int) (b : Nat × Nat × Nat × Nat) {t : Tr} (h1 : ArO N N.length y.A y.c E) (h3 : Inb N) (ht : At N t) (hL : RootAt L k t)
    (hz : t.size ≤ n0) (hY : ∀ pre q (s : Sp) W, pre.length < n0 → ok pre q → Own W [MB q] → YieldAt Fence.wide 0 Try.prog lp #[.agg s.cells.toArray] W (Ret (β := β) W (ids [MB q]) (fun _ => .bool true) (fun q' => [MB q']) (ok (pre ++ [s])))) (q : β) (hq : ok [] q) (w : World)
    (ho : Own w (ovB g k lo hi b ++ [fsB g y N.length sp.length cnt, E, mpB y.m L clk, MB q])) :
    Calls Try.prog 94 (#[.func (.yield lp) #[] #[]] ++ ovP b) w (Ret (β := β) w (ids (ovB g k lo hi b ++ [fsB g y N.length sp.length cnt, E, mpB y.m L clk, MB q])) (fun _ => .tuple #[]) (fun q' => ovB g k lo hi b ++ [fsB g y N.length sp.length cnt, E, mpB y.m L clk, MB q']) (ok (overT lo hi t))) := by
  refine go [.func (.yield lp) #[] #[], .pointer (some ⟨b.1, 0, none⟩), .pointer (some ⟨b.2.1, 0, none⟩), .pointer (some ⟨b.2.2.1, 0, none⟩), .pointer (some ⟨b.2.2.2, 0, none⟩)] (ovB g k lo hi b ++ [fsB g y N.length sp.length cnt, E, mpB y.m L clk, MB q]) Try.func94 Try.ntmps94 rfl rfl ho ?_
  refine wc_cat ?_
  skip
  refine wc_heldN [] [bxP b.1 g, bxS b.2.1 k, bxI b.2.2.1 lo, bxI b.2.2.2 hi, fsB g y N.length sp.length cnt] (fun hQd => ?_)
  refine tkX 0 rfl (v_ldT rfl rfl rfl (by rfl)) ?_
  refine tkX 1 rfl (v_ldT rfl rfl rfl (by rfl)) ?_
  refine tkX 2 rfl (v_nil rfl) ?_
  refine tkX 3 rfl (v_faddr rfl rfl) ?_
  refine tkX 4 rfl (v_ldT rfl rfl rfl (by rfl)) ?_
  refine tkX 5 rfl (v_ldT rfl rfl rfl (by rfl)) ?_
  refine tkX 7 rfl (v_ldT rfl rfl rfl (by rfl)) ?_
  refine tkX 8 rfl (v_ldT rfl rfl rfl (by rfl)) ?_
  refine tkX 9 rfl (v_move rfl) ?_
  refine efX 6 rfl ?_
  (try refine wx_ungd rfl rfl ?_)
  apply wx_val
  exact v_agetT (clk := clk) hL rfl rfl rfl rfl rfl
  rfl
  (try refine wx_nil ?_)
  refine hdX ?_
  refine efX 10 rfl ?_
  refine wl_callT (fun w' hr ho => walk_spec (k := sp.length) (cnt := cnt) MB ok lo hi h1 h3 hY t [] q ht (by simpa using hz) hq w' ho) rfl rfl rfl ?_
  intro q1 hq1
  refine wx_cat ?_
  (try refine wx_nil ?_)
  refine hdX ?_
  refine wh_done (by decide +kernel) ?_
  skip
  refine wq_normR ?_
  exact wq_ret0T q1 rfl rfl hq1
/-- the list that Overlap builds: the loop's record, the list's cell, the list -/
abbrev olC (b : Nat) (A : Option Addr) (n c : Nat) : Seg := [(b, .cells [.slice A n c].toArray 124 (0, 0))]
abbrev SpL (l : List Sp) (A : Option Addr) (n c : Nat) (E : Seg) : Prop := Buf 110 3 A n c (l.flatMap Sp.cells) E
end fs
end Go.Proofs.Ytlioccfedophhaa
/- First. -/
set_option linter.unusedVariables false
set_option linter.unusedSimpArgs false
namespace Go.Proofs.Ytlioccfedophhaa
open Go
set_option maxRecDepth 20000
set_option maxHeartbeats 2000000
attribute [local irreducible] WX WC WQ Val VCall WY WR
theorem rSpU_0 {A B : Prop} (k : B) (h : Hold B → A := by intro k; (repeat (first | (apply wx_val; (first | exact v_move rfl | exact v_assign rfl | exact v_ldAT rfl (by rfl)); rfl) | refine wc_seq ?_ | refine wc_region ?_ | refine wx_nil ?_ | refine wq_next ?_ | refine wc_block ?_ | refine wc_ret ?_ | refine wq_block ?_ | refine wx_setn ?_ | refine wq_setn ?_ | refine wc_cat ?_ | refine wl_storeT rfl rfl rfl (by rfl) (by exact .inl (Nat.le_refl _)) rfl ?_ | refine wl_stAT rfl rfl (by rfl) (by rfl) (by exact .inl (Nat.le_refl _)) rfl ?_)); exact k.out) : A := h ⟨k⟩
theorem leavesIn_eq {F : Fence} {n : Nat} {P : Program} {fn : Func} {t1 t2 : Array Value} {R : Ending → World → Prop} (e : results fn t1 = results fn t2) : ∀ (ds : List Deferred) (u : FrameMode) (w : World), LeavesIn F n P fn t1 R ds u w → LeavesIn F n P fn t2 R ds u w
  | [], .returning, w, h => by unfold LeavesIn at h ⊢; rwa [← e]
  | [], .panicking c, w, h => h
  | [], .run, w, h => h
  | d :: ds, u, w, h => by
    unfold LeavesIn at h ⊢
    obtain ⟨h1, h2, fv, cap, f, args, h3, h4, h5, h6⟩ := h
    refine ⟨h1, h2, fv, cap, f, args, h3, h4, h5, h6.mono fun en u' w' he => ?_⟩
    cases en with
    | returned v => exact leavesIn_eq e ds _ _ he
    | panicked c => exact leavesIn_eq e ds _ _ he
    | outgrown => exact he
theorem leavesInM_eq {F : Fence} {n : Nat} {P : Program} {fn : Func} {t1 t2 : Array Value} {R : Ending → World → Prop} (e : results fn t1 = results fn t2) : ∀ (ds : List Deferred) (u : FrameMode) (w : World), LeavesInM F n P fn t1 R ds u w → LeavesInM F n P fn t2 R ds u w
  | [], u, w, h => leavesIn_eq e [] u w h
  | d :: ds, u, w, h => by
    unfold LeavesInM at h ⊢
    obtain ⟨h1, h⟩ := h
    refine ⟨h1, ?_⟩
    rcases h with ⟨r, w', h2, h3, h4⟩ | ⟨h2, fv, cap, f, args, h3, h4, h5, h6⟩
    · exact .inl ⟨r, w', h2, h3, leavesInM_eq e ds _ _ h4⟩
    · refine .inr ⟨h2, fv, cap, f, args, h3, h4, h5, h6.mono fun en u' w' he => ?_⟩
      cases en with
      | returned v => exact leavesInM_eq e ds _ _ he
      | panicked c => exact leavesInM_eq e ds _ _ he
      | outgrown => exact he
theorem panicNot_M2 {P : Program} {fn : Func} {s1 s2 t1 : Nat} {R : Ending → World → Prop} (hr : fn.results = #[.cell s1 t1, .tmp s2]) : PanicNot [s1, s2] (bodyPostM Fence.wide 0 P fn R) := fun c d v a w hk hq => by
  have h1 : d ≠ s1 ∧ d ≠ s2 := by simpa using hk
  have e : results fn (a.tmps.setIfInBounds d v) = results fn a.tmps := by simp [results, hr, Array.getElem?_setIfInBounds_ne h1.1, Array.getElem?_setIfInBounds_ne h1.2, Array.getD_eq_getD_getElem?]
  exact leavesInM_eq e _ _ _ hq
section L
variable {P : Program} {fn : Func} {w0 : World} {X : List Nat} {fr : Fr} {M : List Seg} {β : Type} {val : β → Value} {MM : β → List Seg} {φ : β → Prop}
theorem wq_retMA2 {n D a b t g : Nat} (x : β) {R' L : List Seg} {cs : List Value} {v2 : Value} {et : TypeId} {fz : Nat × Nat} (hr : fn.results = #[.cell a t, .tmp b]) [T : Take (dfB D) M R'] [T2 : Takes (MM x) R' L] (h1 : look fr a = some (.pointer (some ⟨g, 0, none⟩))) [B : BlkIn g R' (.cells cs.toArray et fz)] (hn : aggN P t = some cs.length) (h2 : look fr b = some v2) (hv : val x = .tuple #[.agg cs.toArray, v2]) (hφ : φ x) :
    WQ (bodyPostM Fence.wide 0 P fn (Ret w0 X val MM φ)) ⟨n, [{ target := .collected D, args := #[] }]⟩ w0 X .ret fr M :=
  wq_retM x (fun a w hs hres => by
    obtain ⟨g2, g3⟩ := aggN_spec hn
    have g4 := run_loadCells_list (P := P) w ⟨g, 0, none⟩ cs (fun k v hk => by rw [add_plain, Nat.zero_add]; exact B.cell hres hk)
    rw [hv]
    simp only [Go.results, hr]
    simp [hs.has _ _ h1, hs.has _ _ h2, asAddr, loadVar, g2, g3, g4]) hφ
end L
def Sp.zero : Sp := ⟨0, 0, 0⟩
def cmpF (s b : Sp) : Int := firstNZ [cmpI s.b b.b, cmpI s.c b.c, cmpI s.a b.a]
def stepF (o : Option Sp) (s : Sp) : Option Sp := match o with
  | none => some s
  | some b => if cmpF s b < 0 then some s else some b
def firstS (l : List Sp) : Option Sp := l.foldl stepF none
abbrev bsC (b : Nat) (o : Option Sp) : Seg := [(b, .cells (o.getD Sp.zero).cells.toArray 110 (0, 0))]
abbrev bsS (b : Nat) (s : Sp) : Seg := [(b, .cells s.cells.toArray 110 (0, 0))]
abbrev fdC (b : Nat) (v : Bool) : Seg := [(b, .cells [.bool v].toArray 4 (0, 0))]
section fs
variable {g : Nat} {y : Fa} {cnt : Int} {N : List Nd} {sp : List Nat} {E : Seg} {L : TE ByteArray} {clk : Nat}
theorem first_spec (k : ByteArray) (lo hi : Int) {t : Tr} (h1 : ArO N N.length y.A y.c E) (h3 : Inb N) (ht : At N t) (hz : t.size ≤ 1099511627776) (hL : RootAt L k t) (w : World) (ho : Own w [fsB g y N.length sp.length cnt, E, mpB y.m L clk]) :
    Calls Try.prog 54 #[.pointer (some ⟨g, 0, none⟩), .string k, .int .i64 lo, .int .i64 hi] w (Ret (β := Unit) w (ids [fsB g y N.length sp.length cnt, E, mpB y.m L clk]) (fun _ => .tuple #[.agg ((firstS (overT lo hi t)).getD Sp.zero).cells.toArray, .bool (firstS (overT lo hi t)).isSome]) (fun _ => [fsB g y N.length sp.length cnt, E, mpB y.m L clk]) (fun _ => True)) := by
  refine goM [.pointer (some ⟨g, 0, none⟩), .string k, .int .i64 lo, .int .i64 hi] [fsB g y N.length sp.length cnt, E, mpB y.m L clk] Try.func54 Try.ntmps54 rfl rfl ho ?_
  refine rSpU_0 ?_
  refine wl_alloc rfl rfl (fun g8 => ?_)
  refine rSpU_0 ?_
  refine wl_alloc rfl rfl (fun g10 => ?_)
  refine rSpU_0 ?_
  refine wl_alloc rfl rfl (fun g11 => ?_)
  refine rSpU_0 ?_
  refine wl_callT (fun w' hr ho => over_spec k lo hi w') rfl rfl rfl ?_
  intro b _
  refine rSpU_0 ?_
  refine wc_mem (M' := [bxP b.1 g, bxS b.2.1 k, bxI b.2.2.1 lo, bxI b.2.2.2 hi, fdC g11 false, bsC g10 none, bsS g8 Sp.zero, fsB g y N.length sp.length cnt, E, mpB y.m L clk]) (by kernel_rfl) ?_
  refine wc_rangeFunc (β := Option Sp) (val := fun _ => .tuple #[]) (M1 := ovB g k lo hi b ++ [fsB g y N.length sp.length cnt, E, mpB y.m L clk] ++ [bsC g10 none, fdC g11 false]) (MM := fun q => ovB g k lo hi b ++ [fsB g y N.length sp.length cnt, E, mpB y.m L clk] ++ [bsC g10 q, fdC g11 q.isSome]) (φ := fun q => q = firstS (overT lo hi t)) rfl rfl ?_ ?_
  · intro lp D fn a w' rc erc hs ho'
    refine Calls.mono' (over1_spec (g := g) (sp := sp) (cnt := cnt) (clk := clk) (n0 := 1099511627776) (lp := lp) (β := Option Sp) (fun q => lpB lp rc ++ [bsC g10 q, fdC g11 q.isSome].flatten) (fun pre q => q = firstS pre) k lo hi b h1 h3 ht hL hz ?_ none rfl w' (ho'.flatP (flat_mid _ _ _))) (fun e w2 hR => ret_flat hR (flat_mid (lpB lp rc) (ovB g k lo hi b ++ [fsB g y N.length sp.length cnt, E, mpB y.m L clk]) [bsC g10 none, fdC g11 false]).symm (fun q _ => (flat_mid (lpB lp rc) (ovB g k lo hi b ++ [fsB g y N.length sp.length cnt, E, mpB y.m L clk]) [bsC g10 q, fdC g11 q.isSome]).symm))
    rintro pre q s W hlt eq1 hoW
    have enew : firstS (pre ++ [s]) = stepF q s := by rw [eq1, firstS, List.foldl_append]; rfl
    refine yield_mono (yield_of (R := Ret (β := Option Sp) W (ids (lpB lp rc :: [bsC g10 q, fdC g11 q.isSome])) (fun _ => .bool true) (fun q => lpB lp rc :: [bsC g10 q, fdC g11 q.isSome]) (fun q => q = firstS (pre ++ [s]))) erc hs rfl (hoW.flatP (flat_in _ _)) ?_) (fun e w2 hR => ret_flat hR (flat_in _ _).symm (fun q _ => (flat_in _ _).symm))
    rw [enew]
    clear enew eq1
    cases q with
    | none =>
      refine wr_region out_ass rfl ?_
      refine wl_alloc rfl rfl (fun g12 => ?_)
      refine rSpU_0 ?_
      refine wq_begin (r := rc) (by rw [erc]; rfl) ?_
      refine wr_block (wr_seq ?_)
      refine wr_heldX [] [bsS g12 s, bsC g10 none, fdC g11 (Option.isSome (none : Option Sp))] rfl (by (repeat (first | with_reducible exact out_round | with_reducible apply out_block | with_reducible apply out_then))) rfl (by (repeat (first | with_reducible exact panicNot_of panicOk_round | with_reducible apply panicNot_block | with_reducible apply panicNot_then))) (fun hQd => ?_)
      refine tkX 0 rfl (v_ldT rfl rfl rfl (by rfl)) ?_
      refine tkX 1 rfl (by first | exact v_not rfl | exact v_negi rfl (by omega)) ?_
      refine tkX 2 rfl (v_move rfl) ?_
      first | refine tkgX 3 rfl (v_faddr rfl rfl) ?_ | refine tknX 3 rfl ?_
      refine tknX 4 rfl ?_
      first | refine tkgX 5 rfl (v_faddr rfl rfl) ?_ | refine tknX 5 rfl ?_
      refine tknX 6 rfl ?_
      refine tknX 7 rfl ?_
      first | refine tkgX 8 rfl (v_faddr rfl rfl) ?_ | refine tknX 8 rfl ?_
      refine tknX 9 rfl ?_
      first | refine tkgX 10 rfl (v_faddr rfl rfl) ?_ | refine tknX 10 rfl ?_
      refine tknX 11 rfl ?_
      refine tknX 12 rfl ?_
      first | refine tkgX 13 rfl (v_faddr rfl rfl) ?_ | refine tknX 13 rfl ?_
      refine tknX 14 rfl ?_
      first | refine tkgX 15 rfl (v_faddr rfl rfl) ?_ | refine tknX 15 rfl ?_
      refine tknX 16 rfl ?_
      refine tknX 17 rfl ?_
      refine tknX 18 rfl ?_
      refine tknX 19 rfl ?_
      first | refine tkgX 20 rfl (v_lt rfl rfl) ?_ | refine tknX 20 rfl ?_
      refine tkX 21 rfl (by first | exact v_pickT rfl rfl | exact v_pickF rfl rfl | exact v_pick rfl rfl rfl) ?_
      refine wh_done (by decide +kernel) ?_
      refine wr_next ?_
      refine wr_if (p := True) rfl (fun _ => ?_) (fun hd => absurd trivial hd)
      refine wr_region (out_block out_round) rfl ?_
      refine rSpU_0 ?_
      refine wq_blk g11 [.bool true] (by rfl) ?_
      refine wq_setn ?_
      exact wq_endM (r := rc) (M2 := [lpB lp rc, bsS g10 s, fdC g11 true]) (by rw [erc]; rfl) (by rw [erc]; rfl) (some s) rfl rfl
    | some bs =>
      refine wr_region out_ass rfl ?_
      refine wl_alloc rfl rfl (fun g12 => ?_)
      refine rSpU_0 ?_
      refine wq_begin (r := rc) (by rw [erc]; rfl) ?_
      refine wr_block (wr_seq ?_)
      refine wr_heldX [] [bsS g12 s, bsC g10 (some bs), fdC g11 (Option.isSome (some bs))] rfl (by (repeat (first | with_reducible exact out_round | with_reducible apply out_block | with_reducible apply out_then))) rfl (by (repeat (first | with_reducible exact panicNot_of panicOk_round | with_reducible apply panicNot_block | with_reducible apply panicNot_then))) (fun hQd => ?_)
      refine tkX 0 rfl (v_ldT rfl rfl rfl (by rfl)) ?_
      refine tkX 1 rfl (by first | exact v_not rfl | exact v_negi rfl (by omega)) ?_
      refine tkX 2 rfl (v_move rfl) ?_
      (first | refine wh_not 21 rfl rfl ?_ | refine wh_not 21 rfl (decide_eq_false rfl) ?_ | refine wh_not 21 rfl (by simp) ?_)
      refine tkgX 3 rfl (v_faddr rfl rfl) ?_
      refine tkgX 4 rfl (v_ldT rfl rfl rfl (by rfl)) ?_
      refine tkgX 5 rfl (v_faddr rfl rfl) ?_
      refine tkgX 6 rfl (v_ldT rfl rfl rfl (by rfl)) ?_
      refine tkgX 8 rfl (v_faddr rfl rfl) ?_
      refine tkgX 9 rfl (v_ldT rfl rfl rfl (by rfl)) ?_
      refine tkgX 10 rfl (v_faddr rfl rfl) ?_
      refine tkgX 11 rfl (v_ldT rfl rfl rfl (by rfl)) ?_
      refine tkgX 13 rfl (v_faddr rfl rfl) ?_
      refine tkgX 14 rfl (v_ldT rfl rfl rfl (by rfl)) ?_
      refine tkgX 15 rfl (v_faddr rfl rfl) ?_
      refine tkgX 16 rfl (v_ldT rfl rfl rfl (by rfl)) ?_
      refine efX 7 rfl ?_
      refine wx_ungd rfl rfl ?_
      (try refine wx_ungd rfl rfl ?_)
      refine wx_vcall (vc_pure' rfl rfl (fun w' hr => cmp_spec _ _ w')) rfl ?_
      (try refine wx_nil ?_)
      refine hdX ?_
      refine efX 12 rfl ?_
      refine wx_ungd rfl rfl ?_
      (try refine wx_ungd rfl rfl ?_)
      refine wx_vcall (vc_pure' rfl rfl (fun w' hr => cmp_spec _ _ w')) rfl ?_
      (try refine wx_nil ?_)
      refine hdX ?_
      refine efX 17 rfl ?_
      refine wx_ungd rfl rfl ?_
      (try refine wx_ungd rfl rfl ?_)
      refine wx_vcall (vc_pure' rfl rfl (fun w' hr => cmp_spec _ _ w')) rfl ?_
      (try refine wx_nil ?_)
      refine hdX ?_
      refine efX 18 rfl ?_
      refine wx_ungd rfl rfl ?_
      refine wl_litB rfl rfl rfl rfl rfl (by decide) rfl (fun g15 E15 hb15 => ?_)
      (try refine wx_nil ?_)
      refine hdX ?_
      refine efX 19 rfl ?_
      refine wx_ungd rfl rfl ?_
      (try refine wx_ungd rfl rfl ?_)
      refine wx_vcall (vc_pure' rfl rfl (fun w' hr => Or_spec (l := [cmpI s.b bs.b, cmpI s.c bs.c, cmpI s.a bs.a]) (by simp) w' (hb15.vwT hr))) rfl ?_
      (try refine wx_nil ?_)
      refine hdX ?_
      refine tkgX 20 rfl (v_lt rfl rfl) ?_
      refine tkX 21 rfl (by first | exact v_pickT rfl rfl | exact v_pickF rfl rfl | exact v_pick rfl rfl rfl) ?_
      refine wh_done (by decide +kernel) ?_
      refine wr_next ?_
      refine wr_if (p := cmpF s bs < 0) rfl (fun hd => ?_) (fun hd => ?_)
      · refine wr_region (out_block out_round) rfl ?_
        refine rSpU_0 ?_
        refine wq_blk g11 [.bool true] (by rfl) ?_
        refine wq_setn ?_
        exact wq_endM (r := rc) (M2 := [lpB lp rc, bsS g10 s, fdC g11 true]) (by rw [erc]; rfl) (by rw [erc]; rfl) (some s) (if_pos hd).symm rfl
      · refine wr_skip (wq_block ?_)
        exact wq_end (r := rc) (by rw [erc]; rfl) (by rw [erc]; rfl) (some bs) (if_neg hd).symm
  · rintro q D rfl
    refine wq_block (wq_next ?_)
    refine wc_mem (M' := [dfB D, bxP b.1 g, bxS b.2.1 k, bxI b.2.2.1 lo, bxI b.2.2.2 hi, fsB g y N.length sp.length cnt, E, mpB y.m L clk, bsC g10 (firstS (overT lo hi t)), fdC g11 (firstS (overT lo hi t)).isSome, bsS g8 Sp.zero]) rfl ?_
    generalize firstS (overT lo hi t) = fo
    refine rSpU_0 ?_
    refine wc_heldX [8, 9] [bsC g10 fo, fdC g11 fo.isSome] rfl (by (repeat (first | exact panicNot_M2 rfl))) (fun hQd => ?_)
    refine tkX 0 rfl (v_ldAT rfl (by rfl)) ?_
    refine tkX 1 rfl (v_ldT rfl rfl rfl (by rfl)) ?_
    refine efX 2 rfl ?_
    refine rSpU_0 ?_
    (try refine wx_nil ?_)
    refine hdX ?_
    refine efX 3 rfl ?_
    refine rSpU_0 ?_
    (try refine wx_nil ?_)
    refine hdX ?_
    refine wh_done (by decide +kernel) ?_
    refine rSpU_0 ?_
    exact wq_retMA2 () rfl rfl rfl rfl rfl trivial
end fs
end Go.Proofs.Ytlioccfedophhaa
/- A forest by what it holds: New, Insert, Remove, Overlap, First, Count, Height by the list of all spans. -/
set_option linter.unusedVariables false
set_option linter.unusedSimpArgs false
namespace Go.Proofs.Ytlioccfedophhaa
open Go
set_option maxRecDepth 20000
set_option maxHeartbeats 2000000
attribute [local irreducible] WX WC WQ Val VCall WY WR
theorem call_conv {P : Program} {F : FuncId} {args : Array Value} {w : World} {β γ : Type} {M N : List Seg} {val : β → Value} {val' : γ → Value} {MM : β → List Seg} {NN : γ → List Seg} {φ : β → Prop} {φ' : γ → Prop} (L : List Seg) (hP : N.flatten.Perm (M ++ L).flatten) (ho : Own w N)
    (h : Own w M → Calls P F args w (Ret w (ids M) val MM φ)) (hf : ∀ x, φ x → ∃ z, val x = val' z ∧ (MM x ++ L).flatten.Perm (NN z).flatten ∧ φ' z) : Calls P F args w (Ret w (ids N) val' NN φ') := by
  have h1 : Own w (M ++ L) := ho.flatP hP
  refine Calls.mono' (h h1.left) fun e w' ⟨x, hx, he, hr⟩ => ?_
  obtain ⟨z, a, b, c⟩ := hf x hx
  exact ⟨z, c, by rw [he, a], (((Res.refl h1).call hr).flatP b).xs (ids_flat hP.symm)⟩
structure Fo where
  y : Fa
  N : List Nd
  sp : List Nat
  E : Seg
  Es : Seg
  L : TE ByteArray
  clk : Nat
  T : ByteArray → Tr
def Fo.seg (g : Nat) (q : Fo) (n : Nat) : Seg := (fsN g q.y q.N q.sp (n : Int) q.E q.Es q.L q.clk).flatten
structure FoOk (m : Nat) (A : Ks) (q : Fo) : Prop where
  fs : FsO q.N q.sp q.y q.E q.Es
  ok : AOk A
  at_ : ∀ k, At q.N (q.T k)
  avl : ∀ k, Avl (q.T k)
  root : ∀ k, RootAt q.L k (q.T k)
  cont : ∀ k, toL (q.T k) = ofK k A
  z : nd q.N 0 = Nd.zero
  nd : ∀ k, (q.T k).ids.Nodup
  dj : ∀ k k', k ≠ k' → ∀ j ∈ (q.T k).ids, j ∉ (q.T k').ids
  spd : q.sp.Nodup
  sp0 : ∀ j ∈ q.sp, 0 < j ∧ j < q.N.length
  spt : ∀ k, ∀ j ∈ (q.T k).ids, j ∉ q.sp
  mok : MapOk q.L q.clk
  len : q.N.length = 1 + A.length + q.sp.length
  nm : q.N.length ≤ m + 1
theorem AOk.srtK {A : Ks} (h : AOk A) (k : ByteArray) : (ofK k A).Pairwise ltS := by
  have h1 := h.srt
  have h2 := h.nd
  clear h
  induction A with
  | nil => exact List.Pairwise.nil
  | cons x r ih =>
    obtain ⟨a1, a2⟩ := List.pairwise_cons.1 h1
    obtain ⟨b1, b2⟩ := List.nodup_cons.1 h2
    rw [ofK_cons]
    split
    · rename_i hx
      refine List.pairwise_cons.2 ⟨fun y hy => ?_, ih a2 b2⟩
      have hm := mem_ofK.1 hy
      rcases cmp_cases x.2 y with h | h | h
      · exact h.2
      · exact absurd (show x ∈ r from by rw [show x = (k, y) from Prod.ext hx h.2]; exact hm) b1
      · exact absurd h.2 (a1 _ hm)
    · exact ih a2 b2
def hasA (e : ByteArray × Sp) (A : Ks) : Bool := A.any (fun x => decide (x = e))
theorem hasA_iff {e : ByteArray × Sp} {A : Ks} : hasA e A = true ↔ e ∈ A := by
  unfold hasA
  rw [List.any_eq_true]
  constructor
  · rintro ⟨x, h1, h2⟩
    exact of_decide_eq_true h2 ▸ h1
  · exact fun h => ⟨e, h, decide_eq_true rfl⟩
theorem hasA_no {e : ByteArray × Sp} {A : Ks} : hasA e A = false ↔ e ∉ A := by
  rw [← hasA_iff]
  cases hasA e A <;> simp
section
variable {m : Nat} {A : Ks} {q : Fo} {g : Nat}
theorem FoOk.srt (h : FoOk m A q) (k : ByteArray) : Srt (q.T k) := by
  unfold Srt
  rw [h.cont]
  exact h.ok.srtK k
theorem FoOk.size (h : FoOk m A q) (k : ByteArray) : (q.T k).size = (ofK k A).length := by rw [← toL_size, h.cont]
theorem FoOk.lens (h : FoOk m A q) : A.length ≤ m ∧ q.sp.length ≤ m ∧ ∀ k, (q.T k).size ≤ m := by
  have h1 := h.len
  have h2 := h.nm
  refine ⟨by omega, by omega, fun k => ?_⟩
  rw [h.size]
  have := ofK_len k A
  omega
theorem FoOk.has (h : FoOk m A q) (k : ByteArray) (s : Sp) : hasT (q.T k) s = hasA (k, s) A := by
  cases e : hasA (k, s) A with
  | true => exact mem_hasT (h.srt k) (by rw [h.cont]; exact mem_ofK.2 (hasA_iff.1 e))
  | false =>
    cases e2 : hasT (q.T k) s with
    | false => rfl
    | true =>
      have := hasT_mem e2
      rw [h.cont] at this
      rw [hasA_iff.2 (mem_ofK.1 this)] at e
      cases e
theorem FoOk.newI (h : FoOk m A q) : 0 < newI q.N q.sp ∧ (∀ k, newI q.N q.sp ∉ (q.T k).ids) ∧ newI q.N q.sp ∉ q.sp.dropLast := by
  have hp := h.fs.inb.pos
  by_cases hs : q.sp = []
  · have e : Go.Proofs.Ytlioccfedophhaa.newI q.N q.sp = q.N.length := by rw [hs]; rfl
    rw [e, hs]
    refine ⟨hp, fun k hm => ?_, by simp⟩
    have := (h.at_ k).lt _ hm
    omega
  · obtain ⟨r, i, hr⟩ := spare_last hs
    have e : Go.Proofs.Ytlioccfedophhaa.newI q.N q.sp = i := by rw [hr]; simp [Go.Proofs.Ytlioccfedophhaa.newI]
    have hi : i ∈ q.sp := by rw [hr]; simp
    rw [e]
    refine ⟨(h.sp0 i hi).1, fun k hm => h.spt k i hm hi, ?_⟩
    have := h.spd
    rw [hr] at this ⊢
    rw [List.dropLast_concat]
    exact fun hm => (List.nodup_append.1 this).2.2 i hm i (by simp) rfl
theorem leafN_len2 (N : List Nd) (sp : List Nat) (s : Sp) : (leafN N sp s).length + sp.length = N.length + 1 + sp.dropLast.length := by
  unfold leafN
  by_cases h : sp = []
  · rw [if_pos h, h]; simp
  · obtain ⟨r, i, rfl⟩ := spare_last h
    rw [if_neg h]; simp; omega
def insN (k : ByteArray) (s : Sp) (A : Ks) : Ks := if insCode k s (hasA (k, s) A) = 0 then insAll (k, s) A else A
theorem FoOk.ins (h : FoOk m A q) (k : ByteArray) (s : Sp) (hm : m ≤ 900000000000) (he : (k, s) ∉ A) {y' : Fa} {E' Es' : Seg} (hf : InsO q.N (insA (q.T k) q.N q.sp s).2.1 (insA (q.T k) q.N q.sp s).2.2 (insA (q.T k) q.N q.sp s).1 q.y (y', E', Es')) :
    ∃ T', FoOk (m + 1) (insAll (k, s) A) ⟨y', (insA (q.T k) q.N q.sp s).2.1, (insA (q.T k) q.N q.sp s).2.2, E', Es', aput k (.int .i64 ((insA (q.T k) q.N q.sp s).1 : Nat)) q.L q.clk, aclk k q.L q.clk, T'⟩ := by
  have hp := h.fs.inb.pos
  have hl := h.lens
  obtain ⟨n0, n1, n2⟩ := h.newI
  have hll := leafN_len2 q.N q.sp s
  have hlb := leafN_len q.N q.sp s
  obtain ⟨t', q1, q2, q3, q4, q5, q6, q7, q8, q9⟩ := ins_law s q.N q.sp h.sp0 hp (q.T k) h.z (h.at_ k) (h.avl k) (h.nd k) (h.srt k) (n1 k) (by have := hl.2.2 k; omega)
  have hdl : ∀ j ∈ q.sp.dropLast, j ∈ q.sp := fun j hj => List.dropLast_subset _ hj
  refine ⟨fun k' => if k' = k then t' else q.T k', hf.1, insAll_ok h.ok he, fun k' => ?_, fun k' => ?_, fun k' => ?_, fun k' => ?_, ?_, fun k' => ?_, fun k1 k2 hne j => ?_, ?_, ?_, fun k' j => ?_, h.mok.put _ _, ?_, ?_⟩
  all_goals dsimp only
  · by_cases hk : k' = k
    · rw [if_pos hk]; exact q2
    · rw [if_neg hk]
      refine (h.at_ k').congr hf.2.2.2 fun j hj => q7 j fun hm2 => ?_
      rcases List.mem_cons.1 hm2 with e | hm2
      · exact n1 k' (e ▸ hj)
      · exact h.dj k' k hk j hj hm2
  · by_cases hk : k' = k
    · rw [if_pos hk]; exact q3
    · rw [if_neg hk]; exact h.avl k'
  · unfold RootAt
    rw [aget_put]
    by_cases hk : k' = k
    · rw [if_pos hk, if_pos hk, q1]; rfl
    · rw [if_neg hk, if_neg hk]; exact h.root k'
  · rw [ofK_ins h.ok.srt]
    by_cases hk : k' = k
    · rw [if_pos hk, if_pos hk, q4, h.cont]
    · rw [if_neg hk, if_neg hk, h.cont]
  · rw [q7 0 fun hm2 => ?_]
    · exact h.z
    · rcases List.mem_cons.1 hm2 with e | hm2
      · omega
      · have := (h.at_ k).lt 0 hm2
        omega
  · by_cases hk : k' = k
    · rw [if_pos hk]
      exact q5.nodup_iff.2 (List.nodup_cons.2 ⟨n1 k, h.nd k⟩)
    · rw [if_neg hk]; exact h.nd k'
  · by_cases h1 : k1 = k
    · have h2 : k2 ≠ k := fun e => hne (h1.trans e.symm)
      rw [if_pos h1, if_neg h2]
      intro hj
      rcases List.mem_cons.1 (q5.mem_iff.1 hj) with rfl | hj
      · exact n1 k2
      · exact h.dj k k2 (fun e => h2 e.symm) j hj
    · rw [if_neg h1]
      intro hj
      by_cases h2 : k2 = k
      · rw [if_pos h2]
        intro hm2
        rcases List.mem_cons.1 (q5.mem_iff.1 hm2) with rfl | hm2
        · exact n1 k1 hj
        · exact h.dj k1 k h1 j hj hm2
      · rw [if_neg h2]
        exact h.dj k1 k2 hne j hj
  · rw [q8]
    exact h.spd.sublist (List.dropLast_sublist _)
  · rw [q8, q9]
    exact fun j hj => ⟨(h.sp0 j (hdl j hj)).1, by have := (h.sp0 j (hdl j hj)).2; omega⟩
  · rw [q8]
    intro hj
    by_cases hk : k' = k
    · rw [if_pos hk] at hj
      rcases List.mem_cons.1 (q5.mem_iff.1 hj) with rfl | hj
      · exact n2
      · exact fun hm2 => h.spt k j hj (hdl j hm2)
    · rw [if_neg hk] at hj
      exact fun hm2 => h.spt k' j hj (hdl j hm2)
  · rw [q8, q9, insAll_len]
    have := h.len
    omega
  · rw [q9]
    have := h.nm
    omega
theorem FoOk.up (h : FoOk m A q) {m' : Nat} (hm : m ≤ m') : FoOk m' A q := ⟨h.fs, h.ok, h.at_, h.avl, h.root, h.cont, h.z, h.nd, h.dj, h.spd, h.sp0, h.spt, h.mok, h.len, Nat.le_trans h.nm (by omega)⟩
theorem seg_perm {M : List Seg} : [M.flatten].flatten.Perm M.flatten := by simp
theorem Insert_law (k : ByteArray) (s : Sp) (h : FoOk m A q) (hm : m ≤ 900000000000) (w : World) (ho : Own w [q.seg g A.length]) :
    Calls Try.prog 58 #[.pointer (some ⟨g, 0, none⟩), .string k, .agg s.cells.toArray] w (Ret (β := Fo) w (ids [q.seg g A.length]) (fun _ => .int .i64 (insCode k s (hasA (k, s) A))) (fun q' => [q'.seg g (insN k s A).length]) (fun q' => FoOk (m + 1) (insN k s A) q')) := by
  have hl := h.lens
  have hh := h.has k s
  by_cases hc : insCode k s (hasA (k, s) A) = 0
  · have he : (k, s) ∉ A := by
      rw [← hasA_no]
      cases e : hasA (k, s) A with
      | false => rfl
      | true =>
        rw [e] at hc
        unfold insCode at hc
        split at hc
        · omega
        · split at hc
          · omega
          · exact absurd hc (by decide)
    have eN : insN k s A = insAll (k, s) A := if_pos hc
    rw [eN, hc]
    refine call_conv (γ := Fo) [] (M := fsN g q.y q.N q.sp A.length q.E q.Es q.L q.clk) (by rw [List.append_nil]; exact seg_perm) ho (fun ho => insert_ok k s h.fs (h.at_ k) (h.root k) h.mok (by have := h.nm; omega) (by omega) (by rw [hh]; exact hc) w ho) ?_
    rintro ⟨y', E', Es'⟩ hx
    obtain ⟨T', hT⟩ := h.ins k s hm he hx
    refine ⟨_, rfl, ?_, hT⟩
    rw [List.append_nil, insAll_len]
    exact seg_perm.symm
  · have eN : insN k s A = A := if_neg hc
    rw [eN]
    refine call_conv (γ := Fo) [] (M := fsN g q.y q.N q.sp A.length q.E q.Es q.L q.clk) (by rw [List.append_nil]; exact seg_perm) ho (fun ho => insert_no k s h.fs (h.at_ k) (h.root k) (by rw [hh]; exact hc) w ho) ?_
    rintro x hx
    refine ⟨q, by rw [hh], ?_, h.up (by omega)⟩
    rw [List.append_nil]
    exact seg_perm.symm
theorem FoOk.rem (h : FoOk m A q) (k : ByteArray) (s : Sp) (hm : m ≤ 900000000000) (he : (k, s) ∈ A) {y' : Fa} {E' Es' : Seg} (hf : RemO q.N (remA (q.T k) q.N q.sp s).2.1 (remA (q.T k) q.N q.sp s).2.2 (remA (q.T k) q.N q.sp s).1 q.y (y', E', Es')) :
    ∃ T', FoOk m (delAll (k, s) A) ⟨y', (remA (q.T k) q.N q.sp s).2.1, (remA (q.T k) q.N q.sp s).2.2, E', Es', mapRem k (remA (q.T k) q.N q.sp s).1 q.L q.clk, aclk k q.L q.clk, T'⟩ := by
  have hp := h.fs.inb.pos
  have hl := h.lens
  obtain ⟨t', p, q1, q2, q3, q4, q5, q6, q7, q8, q9⟩ := rem_law (q.T k) (s := s) (N := q.N) (sp := q.sp) h.z (h.at_ k) (h.avl k) (h.nd k) (h.srt k) (by rw [h.cont]; exact mem_ofK.2 he) (by have := hl.2.2 k; omega)
  have hpk : p ∈ (q.T k).ids := q5.mem_iff.2 (List.mem_cons_self ..)
  have hsub : ∀ j ∈ t'.ids, j ∈ (q.T k).ids := fun j hj => q5.mem_iff.2 (List.mem_cons_of_mem _ hj)
  have hnp := List.nodup_cons.1 (q5.nodup_iff.1 (h.nd k))
  have hpl := (h.at_ k).lt p hpk
  refine ⟨fun k' => if k' = k then t' else q.T k', hf.1, delAll_ok h.ok, fun k' => ?_, fun k' => ?_, fun k' => ?_, fun k' => ?_, ?_, fun k' => ?_, fun k1 k2 hne j => ?_, ?_, ?_, fun k' j => ?_, ?_, ?_, ?_⟩
  all_goals dsimp only
  · by_cases hk : k' = k
    · rw [if_pos hk]; exact q2
    · rw [if_neg hk]
      exact (h.at_ k').congr (by rw [q9]; exact Nat.le_refl _) fun j hj => q7 j fun hm2 => h.dj k' k hk j hj hm2
  · by_cases hk : k' = k
    · rw [if_pos hk]; exact q3
    · rw [if_neg hk]; exact h.avl k'
  · unfold RootAt mapRem
    by_cases h0 : (remA (q.T k) q.N q.sp s).1 = 0
    · rw [if_pos h0, aget_del]
      by_cases hk : k' = k
      · rw [if_pos hk, if_pos hk, ← q1, h0]; rfl
      · rw [if_neg hk, if_neg hk, aget_put, if_neg hk]; exact h.root k'
    · rw [if_neg h0, aget_put]
      by_cases hk : k' = k
      · rw [if_pos hk, if_pos hk, q1]; rfl
      · rw [if_neg hk, if_neg hk]; exact h.root k'
  · rw [ofK_del]
    by_cases hk : k' = k
    · rw [if_pos hk, if_pos hk, q4, h.cont]
    · rw [if_neg hk, if_neg hk, h.cont]
  · rw [q7 0 fun hm2 => ?_]
    · exact h.z
    · have := (h.at_ k).lt 0 hm2
      omega
  · by_cases hk : k' = k
    · rw [if_pos hk]; exact hnp.2
    · rw [if_neg hk]; exact h.nd k'
  · by_cases h1 : k1 = k
    · have h2 : k2 ≠ k := fun e => hne (h1.trans e.symm)
      rw [if_pos h1, if_neg h2]
      exact fun hj => h.dj k k2 (fun e => h2 e.symm) j (hsub j hj)
    · rw [if_neg h1]
      intro hj
      by_cases h2 : k2 = k
      · rw [if_pos h2]
        exact fun hm2 => h.dj k1 k h1 j hj (hsub j hm2)
      · rw [if_neg h2]
        exact h.dj k1 k2 hne j hj
  · rw [q8]
    refine List.nodup_append.2 ⟨h.spd, by simp, fun a ha b hb e => ?_⟩
    rw [List.mem_singleton.1 hb] at e
    exact h.spt k p hpk (e ▸ ha)
  · rw [q8, q9]
    intro j hj
    rcases List.mem_append.1 hj with hj | hj
    · exact h.sp0 j hj
    · rw [List.mem_singleton.1 hj]; exact hpl
  · rw [q8]
    intro hj hm2
    by_cases hk : k' = k
    · rw [if_pos hk] at hj
      rcases List.mem_append.1 hm2 with hm2 | hm2
      · exact h.spt k j (hsub j hj) hm2
      · rw [List.mem_singleton.1 hm2] at hj
        exact hnp.1 hj
    · rw [if_neg hk] at hj
      rcases List.mem_append.1 hm2 with hm2 | hm2
      · exact h.spt k' j hj hm2
      · rw [List.mem_singleton.1 hm2] at hj
        exact h.dj k' k hk p hj hpk
  · unfold mapRem
    split
    · exact (h.mok.put _ _).del _
    · exact h.mok.put _ _
  · rw [q8, q9, List.length_append]
    have := h.len
    have := delAll_len h.ok.nd he
    simp only [List.length_singleton]
    omega
  · rw [q9]
    exact h.nm
theorem Remove_law (k : ByteArray) (s : Sp) (h : FoOk m A q) (hm : m ≤ 900000000000) (w : World) (ho : Own w [q.seg g A.length]) :
    Calls Try.prog 62 #[.pointer (some ⟨g, 0, none⟩), .string k, .agg s.cells.toArray] w (Ret (β := Fo) w (ids [q.seg g A.length]) (fun _ => .bool (hasA (k, s) A)) (fun q' => [q'.seg g (delAll (k, s) A).length]) (fun q' => FoOk m (delAll (k, s) A) q')) := by
  have hl := h.lens
  have hh := h.has k s
  cases hc : hasA (k, s) A with
  | true =>
    have he := hasA_iff.1 hc
    have hdl := delAll_len h.ok.nd he
    refine call_conv (γ := Fo) [] (M := fsN g q.y q.N q.sp A.length q.E q.Es q.L q.clk) (by rw [List.append_nil]; exact seg_perm) ho (fun ho => remove_ok k s h.fs (h.at_ k) (h.srt k) (h.root k) h.mok (by have := h.nm; omega) (by omega) (by omega) (by rw [hh]; exact hc) w ho) ?_
    rintro ⟨y', E', Es'⟩ hx
    obtain ⟨T', hT⟩ := h.rem k s hm he hx
    refine ⟨_, rfl, ?_, hT⟩
    rw [List.append_nil, show ((A.length : Nat) : Int) - 1 = ((delAll (k, s) A).length : Nat) by omega]
    exact seg_perm.symm
  | false =>
    rw [delAll_none (hasA_no.1 hc)]
    refine call_conv (γ := Fo) [] (M := fsN g q.y q.N q.sp A.length q.E q.Es q.L q.clk) (by rw [List.append_nil]; exact seg_perm) ho (fun ho => remove_no k s h.fs (h.at_ k) (h.root k) (by rw [hh]; exact hc) w ho) ?_
    rintro x hx
    refine ⟨q, rfl, ?_, h⟩
    rw [List.append_nil]
    exact seg_perm.symm
theorem seg_perm3 : [q.seg g A.length].flatten.Perm ([fsB g q.y q.N.length q.sp.length A.length, q.E, mpB q.y.m q.L q.clk] ++ [q.Es]).flatten := by
  refine seg_perm.trans ?_
  refine (List.Perm.refl _ : (fsB g q.y q.N.length q.sp.length A.length ++ (q.E ++ (q.Es ++ (mpB q.y.m q.L q.clk ++ [])))).Perm _).trans ?_
  show (fsB g q.y q.N.length q.sp.length A.length ++ (q.E ++ (q.Es ++ (mpB q.y.m q.L q.clk ++ [])))).Perm (fsB g q.y q.N.length q.sp.length A.length ++ (q.E ++ (mpB q.y.m q.L q.clk ++ (q.Es ++ []))))
  refine List.Perm.append_left _ (List.Perm.append_left _ ?_)
  rw [List.append_nil, List.append_nil]
  exact List.perm_append_comm
abbrev ovK (k : ByteArray) (lo hi : Int) (A : Ks) : List Sp := ovQ lo hi (ofK k A)
theorem First_law (k : ByteArray) (lo hi : Int) (h : FoOk m A q) (hm : m ≤ 900000000000) (w : World) (ho : Own w [q.seg g A.length]) :
    Calls Try.prog 54 #[.pointer (some ⟨g, 0, none⟩), .string k, .int .i64 lo, .int .i64 hi] w (Ret (β := Unit) w (ids [q.seg g A.length]) (fun _ => .tuple #[.agg ((firstS (ovK k lo hi A)).getD Sp.zero).cells.toArray, .bool (firstS (ovK k lo hi A)).isSome]) (fun _ => [q.seg g A.length]) (fun _ => True)) := by
  have hl := h.lens
  have e : overT lo hi (q.T k) = ovK k lo hi A := by rw [overT_eq lo hi (h.avl k) (h.srt k), h.cont]
  refine call_conv (γ := Unit) [q.Es] seg_perm3 ho (fun ho => first_spec k lo hi h.fs.ar h.fs.inb (h.at_ k) (by have := hl.2.2 k; omega) (h.root k) w ho) ?_
  rintro x hx
  exact ⟨(), by rw [e], seg_perm3.symm, trivial⟩
theorem New_law (w : World) :
    Calls Try.prog 28 #[] w (Ret (β := Nat × Fo) w (ids []) (fun x => .pointer (some ⟨x.1, 0, none⟩)) (fun x => [x.2.seg x.1 0]) (fun x => FoOk 0 [] x.2)) := by
  refine call_conv (γ := Nat × Fo) [] (List.Perm.refl _) (own_nil w) (fun ho => new_spec w) ?_
  rintro ⟨g', y', E'⟩ hx
  refine ⟨(g', ⟨y', [Nd.zero], [], E', [], [], 0, fun _ => .nil⟩), rfl, ?_, ?_⟩
  · rw [List.append_nil]
    exact seg_perm.symm
  · exact ⟨hx, ⟨List.Pairwise.nil, List.nodup_nil⟩, fun _ => trivial, fun _ => trivial, fun _ => rfl, fun _ => rfl, rfl, fun _ => List.nodup_nil, fun _ _ _ j hj => (by cases hj), List.nodup_nil, fun j hj => (by cases hj), fun _ j hj => (by cases hj), MapOk.nil 0, rfl, Nat.le_refl _⟩
end
end Go.Proofs.Ytlioccfedophhaa
/- The spans law's anchor; what a tree's height may be. -/
set_option linter.unusedVariables false
set_option linter.unusedSimpArgs false
namespace Go.Proofs.Ytlioccfedophhaa
open Go
set_option maxRecDepth 20000
set_option maxHeartbeats 2000000
attribute [local irreducible] WX WC WQ Val VCall WY WR
theorem Vw.atF {α : Type} {f : α → List Value} {k : Nat} (hf : ∀ a, (f a).length = k) (hk : 0 < k) {X : List Nat} {w0 : World} {A : Option Addr} {l : List α} (h : Vw X w0 A (l.flatMap f)) (hl : 0 < l.length) :
    ∃ g o, A = some ⟨g, o, none⟩ ∧ ∀ (i : Nat) (a : α) (p : Nat) (v : Value), l[i]? = some a → (f a)[p]? = some v → ∀ {w : World} {M : List Seg}, Res w0 X w M → ∀ {off : Nat}, off = o + i * k + p → w.cell? ⟨g, off, none⟩ = some v := by
  have hlen : (l.flatMap f).length = l.length * k := by
    clear h hl
    induction l with
    | nil => simp
    | cons a r ih => rw [List.flatMap_cons, List.length_append, hf, ih, List.length_cons, Nat.succ_mul, Nat.add_comm]
  have h0 : 0 < (l.flatMap f).length := by rw [hlen]; exact Nat.mul_pos hl hk
  obtain ⟨g, o, e, hc⟩ := h.at h0
  refine ⟨g, o, e, fun i a p v hi hp w M hr off ho => ?_⟩
  have hpk : p < k := by
    have := (List.getElem?_eq_some_iff.1 hp).1
    rwa [hf] at this
  have hg : (l.flatMap f)[i * k + p]? = some v := by
    rw [flat_get f hk hf, Nat.mul_comm, Nat.mul_add_div hk, Nat.div_eq_of_lt hpk, Nat.add_zero, hi, Nat.mul_add_mod, Nat.mod_eq_of_lt hpk]
    exact hp
  obtain ⟨hj, he⟩ := List.getElem?_eq_some_iff.1 hg
  rw [ho, Nat.add_assoc, hc _ w M hj hr, he]
theorem hh_zero {t : Tr} (h : Avl t) (hs : t.size = 0) : t.hh = 0 := by
  have := h.pos
  omega
theorem hh_one {t : Tr} (h : Avl t) (hs : t.size = 1) : t.hh = 1 := by
  cases t with
  | nil => exact absurd hs (by decide)
  | node i l s r hh f =>
    obtain ⟨h1, h2, h3, h4, h5⟩ := h
    have e : l.size + r.size + 1 = 1 := hs
    rw [hh_node, h3, hh_zero h1 (by omega), hh_zero h2 (by omega)]
    rfl
theorem insN_one {k : ByteArray} {s : Sp} (h : insCode k s false = 0) : insN k s [] = [(k, s)] := by
  unfold insN
  rw [if_pos (show insCode k s (hasA (k, s) []) = 0 from h)]
  rfl
theorem ofK_one (k : ByteArray) (s : Sp) : ofK k [(k, s)] = [s] := by
  rw [ofK_cons, if_pos rfl]
  rfl
section
variable {m : Nat} {A : Ks} {q : Fo} {g : Nat}
theorem FoOk.h1 (h : FoOk m A q) (k : ByteArray) (h1 : (ofK k A).length = 1) : (q.T k).hh = 1 := hh_one (h.avl k) (by rw [h.size]; exact h1)
theorem FoOk.h0 (h : FoOk m A q) (k : ByteArray) (h1 : (ofK k A).length = 0) : (q.T k).hh = 0 := hh_zero (h.avl k) (by rw [h.size]; exact h1)
end
def kA : ByteArray := ByteArray.mk #[97]
def s25 : Sp := ⟨2, 5, 0⟩
end Go.Proofs.Ytlioccfedophhaa
/- Of overlapping spans the one that ends first; what a forest's list is like. -/
set_option linter.unusedVariables false
set_option linter.unusedSimpArgs false
namespace Go.Proofs.Ytlioccfedophhaa
open Go
set_option maxRecDepth 20000
set_option maxHeartbeats 1000000
def lexF (s b : Sp) : Prop := s.b < b.b ∨ (s.b = b.b ∧ (s.c < b.c ∨ (s.c = b.c ∧ s.a < b.a)))
theorem cmpI_c (a b : Int) : (cmpI a b = -1 ∧ a < b) ∨ (cmpI a b = 1 ∧ b < a) ∨ (cmpI a b = 0 ∧ a = b) := by
  unfold cmpI
  by_cases h : a < b
  · rw [if_pos h]; omega
  · rw [if_neg h]
    by_cases h2 : b < a
    · rw [if_pos h2]; omega
    · rw [if_neg h2]; omega
theorem cmpF_lt (s b : Sp) : cmpF s b < 0 ↔ lexF s b := by
  have h1 := cmpI_c s.b b.b
  have h2 := cmpI_c s.c b.c
  have h3 := cmpI_c s.a b.a
  unfold cmpF lexF
  rcases h1 with h1 | h1 | h1
  · simp [firstNZ, h1.1]; omega
  · simp [firstNZ, h1.1]; omega
  · rcases h2 with h2 | h2 | h2
    · simp [firstNZ, h1.1, h2.1]; omega
    · simp [firstNZ, h1.1, h2.1]; omega
    · rcases h3 with h3 | h3 | h3
      · simp [firstNZ, h1.1, h2.1, h3.1]; omega
      · simp [firstNZ, h1.1, h2.1, h3.1]; omega
      · simp [firstNZ, h1.1, h2.1, h3.1]; omega
theorem fold_first : ∀ (l : List Sp) (b : Sp), ∃ f, l.foldl stepF (some b) = some f ∧ f ∈ b :: l ∧ ∀ x ∈ b :: l, ¬ lexF x f
  | [], b => ⟨b, rfl, List.mem_cons_self .., fun x hx => by
    rw [List.mem_singleton.1 hx]
    unfold lexF
    omega⟩
  | s :: r, b => by
    rw [List.foldl_cons]
    by_cases h : lexF s b
    · obtain ⟨f, h1, h2, h3⟩ := fold_first r s
      refine ⟨f, by rw [stepF, if_pos ((cmpF_lt s b).2 h)]; exact h1, List.mem_cons_of_mem _ h2, fun x hx => ?_⟩
      rcases List.mem_cons.1 hx with rfl | hx
      · have := h3 s (List.mem_cons_self ..)
        unfold lexF at *
        omega
      · exact h3 x hx
    · obtain ⟨f, h1, h2, h3⟩ := fold_first r b
      refine ⟨f, by rw [stepF, if_neg (fun e => h ((cmpF_lt s b).1 e))]; exact h1, ?_, fun x hx => ?_⟩
      · rcases List.mem_cons.1 h2 with rfl | h2
        · exact List.mem_cons_self ..
        · exact List.mem_cons_of_mem _ (List.mem_cons_of_mem _ h2)
      · rcases List.mem_cons.1 hx with rfl | hx
        · exact h3 x (List.mem_cons_self ..)
        · rcases List.mem_cons.1 hx with rfl | hx
          · have := h3 b (List.mem_cons_self ..)
            unfold lexF at *
            omega
          · exact h3 x (List.mem_cons_of_mem _ hx)
theorem firstS_spec (l : List Sp) : (l = [] ∧ firstS l = none) ∨ (0 < l.length ∧ ∃ f, firstS l = some f ∧ f ∈ l ∧ ∀ x ∈ l, ¬ lexF x f) := by
  cases l with
  | nil => exact .inl ⟨rfl, rfl⟩
  | cons b r =>
    refine .inr ⟨by simp, ?_⟩
    obtain ⟨f, h1, h2, h3⟩ := fold_first r b
    exact ⟨f, h1, h2, h3⟩
/-- all that a forest holds is right -/
def Rgt (A : Ks) : Prop := ∀ x ∈ A, insCode x.1 x.2 true = 141
theorem Rgt.nil : Rgt [] := fun x hx => by cases hx
theorem code_two {k : ByteArray} {s : Sp} (h : insCode k s false = 0) : insCode k s true = 141 := by
  unfold insCode at h ⊢
  split at h
  · exact absurd h (by decide)
  · rename_i hx
    rw [if_neg hx]
    split at h
    · exact absurd h (by decide)
    · rename_i hy
      rw [if_neg hy]
      rfl
theorem code_zero {k : ByteArray} {s : Sp} {b : Bool} (h : insCode k s b = 0) : b = false := by
  cases b with
  | false => rfl
  | true =>
    unfold insCode at h
    split at h
    · exact absurd h (by decide)
    · split at h
      · exact absurd h (by decide)
      · exact absurd h (by decide)
theorem Rgt.put {A : Ks} (h : Rgt A) (k : ByteArray) (s : Sp) : Rgt (insN k s A) := by
  unfold insN
  split
  · rename_i hc
    intro x hx
    rcases List.mem_cons.1 ((insAll_perm _ A).mem_iff.1 hx) with rfl | hx
    · have e := code_zero hc
      rw [e] at hc
      exact code_two hc
    · exact h x hx
  · exact h
theorem Rgt.del {A : Ks} (h : Rgt A) (e : ByteArray × Sp) : Rgt (delAll e A) := fun x hx => h x (List.mem_filter.1 hx).1
theorem Rgt.two {A : Ks} (h : Rgt A) {k : ByteArray} {s : Sp} (hm : (k, s) ∈ A) : insCode k s (hasA (k, s) A) = 141 ∧ insN k s A = A := by
  have e : insCode k s (hasA (k, s) A) = 141 := by rw [hasA_iff.2 hm]; exact h _ hm
  exact ⟨e, if_neg (by rw [e]; decide)⟩
theorem ovK_mem {k : ByteArray} {lo hi : Int} {A : Ks} {s : Sp} : s ∈ ovK k lo hi A ↔ (k, s) ∈ A ∧ s.a < hi ∧ lo < s.b := by
  unfold ovK ovQ
  rw [List.mem_filter, mem_ofK, decide_eq_true_iff]
theorem ovK_ins {k : ByteArray} {lo hi : Int} {A : Ks} {s : Sp} : (ovK k lo hi (insAll (k, s) A)).length = (ovK k lo hi A).length + (if s.a < hi ∧ lo < s.b then 1 else 0) := by
  have h : (ovK k lo hi (insAll (k, s) A)).Perm (ovK k lo hi ((k, s) :: A)) := (((insAll_perm (k, s) A).filter _).map _).filter _
  rw [h.length_eq]
  unfold ovK
  rw [ofK_cons, if_pos rfl]
  unfold ovQ
  by_cases hc : s.a < hi ∧ lo < s.b
  · rw [if_pos hc]
    rw [show ((k, s) : ByteArray × Sp).2 = s from rfl, List.filter_cons_of_pos (by simpa using hc)]
    rfl
  · rw [if_neg hc]
    rw [show ((k, s) : ByteArray × Sp).2 = s from rfl, List.filter_cons_of_neg (by simpa using hc)]
    rfl
theorem ovK_len {k : ByteArray} {lo hi : Int} {A : Ks} : (ovK k lo hi A).length ≤ A.length := Nat.le_trans (List.length_filter_le _ _) (ofK_len k A)
theorem ovK_srt {k : ByteArray} {lo hi : Int} {A : Ks} (h : AOk A) : (ovK k lo hi A).Pairwise ltS := (h.srtK k).filter _
end Go.Proofs.Ytlioccfedophhaa
/- gather. -/
set_option linter.unusedVariables false
set_option linter.unusedSimpArgs false
namespace Go.Proofs.Ytlioccfedophhaa
open Go
set_option maxRecDepth 20000
set_option maxHeartbeats 2000000
attribute [local irreducible] WX WC WQ Val VCall WY WR
theorem rSpW_0 {A B : Prop} (k : B) (h : Hold B → A := by intro k; (repeat (first | (apply wx_val; (first | exact v_move rfl | exact v_assign rfl | exact v_nil rfl | exact v_faddr rfl rfl | exact v_ldT rfl rfl rfl (by rfl) | exact v_eq rfl rfl | exact v_le rfl rfl | exact v_gt rfl rfl | exact v_pickT rfl rfl | exact v_pickF rfl rfl | exact v_iaddrE (by assumption) rfl rfl rfl (by omega)); rfl) | refine wx_no rfl rfl rfl ?_ | refine wx_ungd rfl rfl ?_ | refine wc_seq ?_ | refine wc_region ?_ | refine wx_nil ?_ | refine wq_next ?_ | refine wc_ret ?_ | refine wc_skip ?_ | refine wq_then_ret ?_ | refine wc_condT rfl ?_)); exact k.out) : A := h ⟨k⟩
def gatT (fl : Int) : Tr → List Sp
  | .nil => []
  | .node _ l s r _ _ => if fl < s.a then gatT fl l else gatT fl l ++ ((if s.b ≤ fl then [s] else []) ++ gatT fl r)
theorem gatT_len (fl : Int) : ∀ t : Tr, (gatT fl t).length ≤ t.size
  | .nil => Nat.le_refl _
  | .node i l s r h f => by
    have h1 := gatT_len fl l
    have h2 := gatT_len fl r
    unfold gatT Tr.size
    split
    · omega
    · rw [List.length_append, List.length_append]
      split
      · simp only [List.length_singleton]; omega
      · simp only [List.length_nil]; omega
theorem gatT_eq (fl : Int) : ∀ {t : Tr}, Srt t → (∀ x ∈ toL t, x.a ≤ x.b) → gatT fl t = (toL t).filter (fun s => decide (s.b ≤ fl))
  | .nil, _, _ => rfl
  | .node i l s r h f, hs, hv => by
    obtain ⟨s1, s2, s3, s4⟩ := hs.node
    rw [toL_node] at hv ⊢
    have i1 := gatT_eq fl s1 fun x hx => hv x (by simp [hx])
    have i2 := gatT_eq fl s2 fun x hx => hv x (by simp [hx])
    unfold gatT
    rw [i1, i2, List.filter_append]
    by_cases hc : fl < s.a
    · rw [if_pos hc]
      rw [(List.filter_eq_nil_iff (l := s :: toL r)).2 (fun x hx => ?_), List.append_nil]
      have h1 : s.a ≤ x.a := by
        rcases List.mem_cons.1 hx with rfl | hx
        · exact Int.le_refl _
        · have := s4 x hx
          unfold ltS at this
          omega
      have h2 := hv x (List.mem_append.2 (.inr hx))
      simp
      omega
    · rw [if_neg hc]
      congr 1
      by_cases h3 : s.b ≤ fl
      · rw [if_pos h3, List.filter_cons_of_pos (by simpa using h3)]; rfl
      · rw [if_neg h3, List.filter_cons_of_neg (by simpa using h3)]; rfl
section fs
variable {g : Nat} {y : Fa} {cnt : Int} {N : List Nd} {k : Nat} {E : Seg}
theorem gather_spec (fl : Int) (h1 : ArO N N.length y.A y.c E) (h3 : Inb N) (t : Tr) : ∀ {O : List Sp} {A : Option Addr} {c : Nat} {Eo : Seg}, At N t → O.length + t.size ≤ 1099511627776 → SpL O A O.length c Eo → ∀ (w : World), Own w [fsB g y N.length k cnt, E, Eo] →
    Calls Try.prog 61 #[.pointer (some ⟨g, 0, none⟩), .int .i64 (t.ix : Nat), .int .i64 fl, .slice A O.length c] w (Ret (β := Option Addr × Nat × Seg) w (ids [fsB g y N.length k cnt, E, Eo]) (fun q => .slice q.1 (O ++ gatT fl t).length q.2.1) (fun q => [fsB g y N.length k cnt, E, q.2.2]) (fun q => SpL (O ++ gatT fl t) q.1 (O ++ gatT fl t).length q.2.1 q.2.2)) := by
  have hp := h3.pos
  have hsm := h3.small
  obtain ⟨ga, hA⟩ := h1.ptr hp
  induction t with
  | nil =>
    intro O A c Eo ht hz hb w ho
    refine go [.pointer (some ⟨g, 0, none⟩), .int .i64 0, .int .i64 fl, .slice A O.length c] [fsB g y N.length k cnt, E, Eo] Try.func61 Try.ntmps61 rfl rfl ho ?_
    rw [show O ++ gatT fl .nil = O from List.append_nil O]
    refine rSpW_0 ?_
    exact wq_ret1T (A, c, Eo) rfl rfl hb rfl
  | node i l s r hh ff ihl ihr =>
    intro O A c Eo ht hz hb w ho
    refine go [.pointer (some ⟨g, 0, none⟩), .int .i64 (i : Nat), .int .i64 fl, .slice A O.length c] [fsB g y N.length k cnt, E, Eo] Try.func61 Try.ntmps61 rfl rfl ho ?_
    obtain ⟨t1, t2, hnd, hl2, hr2⟩ := ht
    have hNi := (nd_mem t2).1
    have hz : O.length + (l.size + r.size + 1) ≤ 1099511627776 := hz
    have hgl := gatT_len fl l
    refine rSpW_0 ?_
    refine wx_gset false rfl rfl (decide_eq_false (by omega)) ?_
    refine rSpW_0 ?_
    (try refine wx_ungd rfl rfl ?_)
    apply wx_val
    exact v_load rfl rfl rfl (fun w' hr => h1.elemT (i := i) hA (by decide) (fun _ => rfl) hNi hr (j := 0) (by rw [hnd]; rfl) (by omega))
    rfl
    refine rSpW_0 ?_
    refine wc_if rfl (fun hc => ?_) (fun hc => ?_)
    · have eG : gatT fl (.node i l s r hh ff) = gatT fl l := if_pos hc
      rw [eG]
      refine rSpW_0 ?_
      refine wc_not rfl (decide_eq_false (by omega)) ?_
      refine rSpW_0 ?_
      (try refine wx_ungd rfl rfl ?_)
      apply wx_val
      exact v_load rfl rfl rfl (fun w' hr => h1.elemT (i := i) hA (by decide) (fun _ => rfl) hNi hr (j := 3) (by rw [hnd]; rfl) (by omega))
      rfl
      refine rSpW_0 ?_
      refine wl_callT (fun w' hr ho => ihl (O := O) (A := A) (c := c) (Eo := Eo) hl2 (by omega) hb w' ho) rfl rfl rfl ?_
      rintro ⟨A2, c2, E2⟩ hb2
      dsimp only at hb2 ⊢
      refine wx_cat ?_
      refine rSpW_0 ?_
      exact wq_ret1T (A2, c2, E2) rfl rfl hb2 rfl
    have eG : gatT fl (.node i l s r hh ff) = gatT fl l ++ ((if s.b ≤ fl then [s] else []) ++ gatT fl r) := if_neg hc
    rw [eG]
    refine rSpW_0 ?_
    (try refine wx_ungd rfl rfl ?_)
    apply wx_val
    exact v_load rfl rfl rfl (fun w' hr => h1.elemT (i := i) hA (by decide) (fun _ => rfl) hNi hr (j := 3) (by rw [hnd]; rfl) (by omega))
    rfl
    refine rSpW_0 ?_
    refine wl_callT (fun w' hr ho => ihl (O := O) (A := A) (c := c) (Eo := Eo) hl2 (by omega) hb w' ho) rfl rfl rfl ?_
    rintro ⟨A2, c2, E2⟩ hb2
    dsimp only at hb2 ⊢
    refine wx_cat ?_
    refine rSpW_0 ?_
    (try refine wx_ungd rfl rfl ?_)
    apply wx_val
    exact v_load rfl rfl rfl (fun w' hr => h1.elemT (i := i) hA (by decide) (fun _ => rfl) hNi hr (j := 1) (by rw [hnd]; rfl) (by omega))
    rfl
    refine rSpW_0 ?_
    have hlen : (O ++ gatT fl l).length = O.length + (gatT fl l).length := List.length_append
    refine wc_if rfl (fun hc2 => ?_) (fun hc2 => ?_)
    · rw [if_pos hc2, show O ++ (gatT fl l ++ ([s] ++ gatT fl r)) = O ++ gatT fl l ++ [s] ++ gatT fl r by simp only [List.append_assoc]]
      refine rSpW_0 ?_
      (try refine wx_ungd rfl rfl ?_)
      apply wx_val
      exact v_loadA (cs := s.cells) rfl rfl (fun w' hr j u hj => h1.elemT (i := i) hA (by decide) (fun _ => rfl) hNi hr (j := j) (v := u) (by rw [hnd]; exact sp_cell hj) (by omega))
      rfl
      skip
      refine wl_lit rfl rfl rfl rfl rfl (by decide) rfl (fun g71 => ?_)
      refine wl_app1T (news := s.cells) rfl hb2 rfl rfl rfl rfl (by omega) rfl (fun A4 c4 E4 hb4 => ?_)
      have hb5 : SpL (O ++ gatT fl l ++ [s]) A4 (O ++ gatT fl l ++ [s]).length c4 E4 := by
        rw [List.length_append]
        show Buf _ _ _ _ _ _ _
        rw [List.flatMap_append]
        simpa using hb4
      rw [show (O ++ gatT fl l).length + 1 = (O ++ gatT fl l ++ [s]).length from (by generalize O ++ gatT fl l = Z; simp)]
      refine rSpW_0 ?_
      (try refine wx_ungd rfl rfl ?_)
      apply wx_val
      exact v_load rfl rfl rfl (fun w' hr => h1.elemT (i := i) hA (by decide) (fun _ => rfl) hNi hr (j := 4) (by rw [hnd]; rfl) (by omega))
      rfl
      refine rSpW_0 ?_
      refine wl_callT (fun w' hr ho => ihr (O := (O ++ gatT fl l ++ [s])) (A := A4) (c := c4) (Eo := E4) hr2 (by simp only [List.length_append, List.length_singleton]; omega) (by assumption) w' ho) rfl rfl rfl ?_
      rintro ⟨A3, c3, E3⟩ hb3
      dsimp only at hb3 ⊢
      refine wx_cat ?_
      refine rSpW_0 ?_
      exact wq_ret1T (A3, c3, E3) rfl rfl hb3 rfl
    · rw [if_neg hc2, show O ++ (gatT fl l ++ ([] ++ gatT fl r)) = O ++ gatT fl l ++ gatT fl r by simp only [List.append_assoc, List.nil_append]]
      refine rSpW_0 ?_
      (try refine wx_ungd rfl rfl ?_)
      apply wx_val
      exact v_load rfl rfl rfl (fun w' hr => h1.elemT (i := i) hA (by decide) (fun _ => rfl) hNi hr (j := 4) (by rw [hnd]; rfl) (by omega))
      rfl
      refine rSpW_0 ?_
      refine wl_callT (fun w' hr ho => ihr (O := (O ++ gatT fl l)) (A := A2) (c := c2) (Eo := E2) hr2 (by simp only [List.length_append, List.length_singleton]; omega) (by assumption) w' ho) rfl rfl rfl ?_
      rintro ⟨A3, c3, E3⟩ hb3
      dsimp only at hb3 ⊢
      refine wx_cat ?_
      refine rSpW_0 ?_
      exact wq_ret1T (A3, c3, E3) rfl rfl hb3 rfl
end fs
end Go.Proofs.Ytlioccfedophhaa
/- Drop: what it gathers and what it leaves, in plain; rules for one's memory cut anew. -/
set_option linter.unusedVariables false
set_option linter.unusedSimpArgs false
namespace Go.Proofs.Ytlioccfedophhaa
open Go
set_option maxRecDepth 20000
set_option maxHeartbeats 1000000
theorem cellS {A : Option Addr} {c gA i j off : Nat} {l : List Sp} {E S : Seg} {s : Sp} {u : Value} {w0 w : World} {X : List Nat} {M : List Seg} (h : SpL l A l.length c E) (hE : ∀ p ∈ E, p ∈ S) (hA : A = some ⟨gA, 0, none⟩) (hr : Res w0 X w M) [k : Has S M] (hi : l[i]? = some s) (hj : s.cells[j]? = some u) (ho : off = 0 + i * 3 + j) : w.cell? ⟨gA, off, none⟩ = some u := by
  have hv := Buf.vwS h hE hr
  have hl : 0 < l.length := by have := (List.getElem?_eq_some_iff.1 hi).1; omega
  obtain ⟨g, o, e, hc⟩ := hv.atF (f := Sp.cells) (k := 3) (fun _ => rfl) (by decide) hl
  rw [hA] at e
  injection e with e
  injection e with e1 e2 e3
  subst e1 e2
  exact hc i s j u hi hj (M := []) (Res.refl (own_nil w)) (by omega)
theorem len_sub {α : Type} : ∀ {l m : List α}, l.Nodup → (∀ x ∈ l, x ∈ m) → l.length ≤ m.length
  | [], m, _, _ => Nat.zero_le _
  | x :: r, m, hn, h => by
    obtain ⟨h1, h2⟩ := List.nodup_cons.1 hn
    obtain ⟨s, t, rfl⟩ := List.append_of_mem (h x (List.mem_cons_self ..))
    have := len_sub (m := s ++ t) h2 fun y hy => by
      rcases List.mem_append.1 (h y (List.mem_cons_of_mem _ hy)) with h3 | h3
      · exact List.mem_append.2 (.inl h3)
      · rcases List.mem_cons.1 h3 with rfl | h3
        · exact absurd hy h1
        · exact List.mem_append.2 (.inr h3)
    simp only [List.length_append, List.length_cons] at this ⊢
    omega
theorem aget_mem {L : TE ByteArray} {clk : Nat} (h : MapOk L clk) {e : ByteArray × Value × Nat} (he : e ∈ L) : aget e.1 L = some e.2.1 := by
  have hk := h.keys
  clear h
  unfold aget
  induction L with
  | nil => cases he
  | cons x r ih =>
    obtain ⟨h1, h2⟩ := List.pairwise_cons.1 hk
    rw [List.find?_cons]
    rcases List.mem_cons.1 he with rfl | hm
    · simp
    · have hne : ¬ e.1 = x.1 := fun e2 => h1 e hm e2.symm
      simp only [hne, decide_false]
      exact ih hm h2
theorem aget_none {L : TE ByteArray} {k : ByteArray} (h : ∀ e ∈ L, e.1 ≠ k) : aget k L = none := by
  unfold aget
  rw [List.find?_eq_none.2 fun x hx => by simpa using fun e => h x hx e.symm]
  rfl
theorem keys_inj {L : TE ByteArray} (hk : L.Pairwise (fun a b => a.1 ≠ b.1)) {a b : ByteArray × Value × Nat} (ha : a ∈ L) (hb : b ∈ L) (e : a.1 = b.1) : a = b := by
  induction L with
  | nil => cases ha
  | cons y l ih =>
    obtain ⟨p1, p2⟩ := List.pairwise_cons.1 hk
    rcases List.mem_cons.1 ha with h1 | h1
    · rcases List.mem_cons.1 hb with h2 | h2
      · rw [h1, h2]
      · rw [h1] at e
        exact absurd e (p1 b h2)
    · rcases List.mem_cons.1 hb with h2 | h2
      · rw [h2] at e
        exact absurd e.symm (p1 a h1)
      · exact ih p2 h1 h2
/-- what a key has that ends at the floor or earlier -/
def endK (fl : Int) (k : ByteArray) (A : Ks) : List Sp := (ofK k A).filter (fun s => decide (s.b ≤ fl))
def inK (K : List ByteArray) (k : ByteArray) : Bool := K.any (fun k' => decide (k' = k))
theorem inK_iff {K : List ByteArray} {k : ByteArray} : inK K k = true ↔ k ∈ K := by
  unfold inK
  rw [List.any_eq_true]
  constructor
  · rintro ⟨x, h1, h2⟩
    exact of_decide_eq_true h2 ▸ h1
  · exact fun h => ⟨k, h, decide_eq_true rfl⟩
theorem sum_one_k {c : Nat} {k : ByteArray} : ∀ {K : List ByteArray}, K.Nodup → (K.map (fun k' => if k = k' then c else 0)).sum = if inK K k then c else 0
  | [], _ => rfl
  | x :: r, hn => by
    obtain ⟨h1, h2⟩ := List.nodup_cons.1 hn
    rw [List.map_cons, List.sum_cons, sum_one_k h2]
    by_cases e : k = x
    · subst e
      have h3 : inK r k = false := by
        cases h4 : inK r k with
        | false => rfl
        | true => exact absurd (inK_iff.1 h4) h1
      have h5 : inK (k :: r) k = true := inK_iff.2 (List.mem_cons_self ..)
      rw [if_pos rfl, h3, h5]
      rfl
    · rw [if_neg e]
      have h5 : inK (x :: r) k = inK r k := by
        unfold inK
        rw [List.any_cons, decide_eq_false (fun e2 => e e2.symm)]
        rfl
      rw [h5, Nat.zero_add]
theorem sum_add (f g : ByteArray → Nat) : ∀ K : List ByteArray, (K.map (fun k => f k + g k)).sum = (K.map f).sum + (K.map g).sum
  | [] => rfl
  | x :: r => by
    rw [List.map_cons, List.map_cons, List.map_cons, List.sum_cons, List.sum_cons, List.sum_cons, sum_add f g r]
    omega
theorem sum_end (fl : Int) {K : List ByteArray} (hn : K.Nodup) : ∀ A : Ks, (K.map (fun k => (endK fl k A).length)).sum = (A.filter (fun x => decide (x.2.b ≤ fl) && inK K x.1)).length
  | [] => by
    have : ∀ K : List ByteArray, (K.map (fun k => (endK fl k []).length)).sum = 0 := fun K => by
      induction K with
      | nil => rfl
      | cons x r ih => rw [List.map_cons, List.sum_cons, ih]; rfl
    rw [this]; rfl
  | x :: r => by
    have ih := sum_end fl hn r
    have e : ∀ k, (endK fl k (x :: r)).length = (endK fl k r).length + (if x.1 = k then (if x.2.b ≤ fl then 1 else 0) else 0) := fun k => by
      unfold endK
      rw [ofK_cons]
      by_cases h : x.1 = k
      · rw [if_pos h, if_pos h]
        by_cases h2 : x.2.b ≤ fl
        · rw [if_pos h2, List.filter_cons_of_pos (by simpa using h2)]; rfl
        · rw [if_neg h2, List.filter_cons_of_neg (by simpa using h2)]; rfl
      · rw [if_neg h, if_neg h]; rfl
    simp only [e]
    rw [sum_add, ih, sum_one_k hn]
    by_cases h : inK K x.1 = true
    · by_cases h2 : x.2.b ≤ fl
      · rw [if_pos h, if_pos h2, List.filter_cons_of_pos (by simp [h, h2])]; rfl
      · rw [if_pos h, if_neg h2, List.filter_cons_of_neg (by simp [h2])]; rfl
    · rw [if_neg h, List.filter_cons_of_neg (by simp [h])]; rfl
def keepP (fl : Int) (K : List ByteArray) (x : ByteArray × Sp) : Bool := !(decide (x.2.b ≤ fl) && inK K x.1)
def delK (k : ByteArray) (l : List Sp) (A : Ks) : Ks := l.foldl (fun B s => delAll (k, s) B) A
theorem delK_snoc (k : ByteArray) (l : List Sp) (s : Sp) (A : Ks) : delK k (l ++ [s]) A = delAll (k, s) (delK k l A) := by
  unfold delK
  rw [List.foldl_append]
  rfl
theorem delK_eq (k : ByteArray) : ∀ (l : List Sp) (A : Ks), delK k l A = A.filter (fun x => !(decide (x.1 = k) && l.any (fun s => decide (s = x.2))))
  | [], A => (List.filter_eq_self.2 fun x _ => by simp).symm
  | s :: r, A => by
    show delK k r (delAll (k, s) A) = _
    rw [delK_eq k r]
    unfold delAll
    rw [List.filter_filter]
    refine List.filter_congr fun x _ => ?_
    rw [List.any_cons]
    by_cases h1 : x.1 = k <;> by_cases h2 : s = x.2
    · have : x = (k, s) := Prod.ext h1 h2.symm
      subst this
      simp
    · have : x ≠ (k, s) := fun e => h2 (by rw [e])
      simp [h1, h2, this]
    · have : x ≠ (k, s) := fun e => h1 (by rw [e])
      simp [h1, this]
    · have : x ≠ (k, s) := fun e => h1 (by rw [e])
      simp [h1, this]
theorem keep_step (fl : Int) (K : List ByteArray) (k : ByteArray) (A : Ks) : delK k (endK fl k A) (A.filter (keepP fl K)) = A.filter (keepP fl (K ++ [k])) := by
  rw [delK_eq, List.filter_filter]
  refine List.filter_congr fun x hx => ?_
  have hin : inK (K ++ [k]) x.1 = (inK K x.1 || decide (k = x.1)) := by
    unfold inK
    rw [List.any_append]
    simp
  have hmem : (endK fl k A).any (fun s => decide (s = x.2)) = true ↔ (k, x.2) ∈ A ∧ x.2.b ≤ fl := by
    rw [List.any_eq_true]
    constructor
    · rintro ⟨s, h1, h2⟩
      have := of_decide_eq_true h2
      subst this
      have h3 := List.mem_filter.1 h1
      exact ⟨mem_ofK.1 h3.1, by simpa using h3.2⟩
    · rintro ⟨h1, h2⟩
      exact ⟨x.2, List.mem_filter.2 ⟨mem_ofK.2 h1, by simpa using h2⟩, by simp⟩
  unfold keepP
  rw [hin]
  by_cases h1 : x.1 = k
  · have hm : (k, x.2) ∈ A := h1 ▸ hx
    by_cases h2 : x.2.b ≤ fl
    · rw [hmem.2 ⟨hm, h2⟩]
      simp [h1, h2]
    · simp [h1, h2]
      intro s hs e
      subst e
      exact absurd (by simpa using (List.mem_filter.1 hs).2) h2
  · have h3 : ¬ k = x.1 := fun e => h1 e.symm
    simp [h1, h3]
theorem keep_none (fl : Int) (A : Ks) : A.filter (keepP fl []) = A := List.filter_eq_self.2 fun x _ => by simp [keepP, inK]
theorem keep_all {fl : Int} {K : List ByteArray} {A : Ks} (h : ∀ x ∈ A, x.1 ∈ K) : A.filter (keepP fl K) = A.filter (fun x => decide (fl < x.2.b)) := List.filter_congr fun x hx => by
  unfold keepP
  rw [inK_iff.2 (h x hx), Bool.and_true]
  by_cases h2 : x.2.b ≤ fl
  · rw [decide_eq_true h2, decide_eq_false (by omega)]; rfl
  · rw [decide_eq_false h2, decide_eq_true (by omega)]; rfl
end Go.Proofs.Ytlioccfedophhaa
/- The store of versions: its memory, in plain. -/
set_option linter.unusedVariables false
set_option linter.unusedSimpArgs false
namespace Go.Proofs.Ytlioccfedophhaa
open Go
set_option maxRecDepth 20000
set_option maxHeartbeats 2000000
structure ChE where
  key : ByteArray
  A : Option Addr
  c : Nat
  vs : List VerW
  born : Nat
  E : Seg
def ChE.te (e : ChE) : ByteArray × Value × Nat := (e.key, .slice e.A e.vs.length e.c, e.born)
def chL (es : List ChE) : TE ByteArray := es.map ChE.te
def chSg (es : List ChE) : Seg := (es.map ChE.E).flatten
abbrev stB (g m : Nat) (n : Int) : Seg := [(g, .cells [.map (some m), .int .i64 n].toArray 91 (0, 0))]
abbrev BufV (vs : List VerW) (A : Option Addr) (c : Nat) (E : Seg) : Prop := Buf 115 4 A vs.length c (vs.flatMap VerW.cells) E
structure ChOk (es : List ChE) (clk : Nat) (H : List VerK) : Prop where
  mok : MapOk (chL es) clk
  buf : ∀ e ∈ es, BufV e.vs e.A e.c e.E
  cont : ∀ e ∈ es, e.vs = chD e.key H
  all : ∀ v ∈ H, ∃ e ∈ es, e.key = v.key
theorem ChOk.nil : ChOk [] 0 [] := ⟨.nil 0, fun e he => (by cases he), fun e he => (by cases he), fun v hv => (by cases hv)⟩
theorem chSg_split (es1 : List ChE) (e : ChE) (es2 : List ChE) : chSg (es1 ++ e :: es2) = chSg es1 ++ e.E ++ chSg es2 := by
  simp [chSg]
theorem ch_keys {es1 es2 : List ChE} {e : ChE} {clk : Nat} (h : MapOk (chL (es1 ++ e :: es2)) clk) : ∀ x, (x ∈ es1 ∨ x ∈ es2) → x.key ≠ e.key ∧ x.born ≠ e.born := by
  have h1 : (es1 ++ e :: es2).Pairwise (fun a b => a.key ≠ b.key) := (List.pairwise_map (f := ChE.te) (R := fun a b => a.1 ≠ b.1)).1 h.keys
  have h2 : (es1 ++ e :: es2).Pairwise (fun a b => a.born ≠ b.born) := (List.pairwise_map (f := ChE.te) (R := fun a b => a.2.2 ≠ b.2.2)).1 h.stamps
  obtain ⟨_, a2, a3⟩ := List.pairwise_append.1 h1
  obtain ⟨_, b2, b3⟩ := List.pairwise_append.1 h2
  rintro x (hx | hx)
  · exact ⟨a3 x hx e (List.mem_cons_self ..), b3 x hx e (List.mem_cons_self ..)⟩
  · exact ⟨fun q => (List.pairwise_cons.1 a2).1 x hx q.symm, fun q => (List.pairwise_cons.1 b2).1 x hx q.symm⟩
theorem ch_aget {es1 es2 : List ChE} {e : ChE} {clk : Nat} (h : MapOk (chL (es1 ++ e :: es2)) clk) : aget e.key (chL (es1 ++ e :: es2)) = some (.slice e.A e.vs.length e.c) := by
  have hk := ch_keys h
  have e2 : (chL (es1 ++ e :: es2)).find? (fun x => decide (e.key = x.1)) = some e.te := by
    unfold chL
    rw [List.find?_map, List.find?_append]
    have : es1.find? ((fun x => decide (e.key = x.1)) ∘ ChE.te) = none := by
      rw [List.find?_eq_none]
      intro x hx
      have := (hk x (.inl hx)).1
      show ¬ (decide (e.key = x.key) = true)
      rw [decide_eq_true_iff]
      exact fun q => this q.symm
    rw [this]
    simp [ChE.te]
  unfold aget
  rw [e2]
  rfl
/-- the entry told in another way -/
theorem ch_aput {es1 es2 : List ChE} {e e' : ChE} {clk : Nat} (h : MapOk (chL (es1 ++ e :: es2)) clk) (h1 : e'.key = e.key) (h2 : e'.born = e.born) :
    chL (es1 ++ e' :: es2) = aput e.key (.slice e'.A e'.vs.length e'.c) (chL (es1 ++ e :: es2)) clk ∧ aclk e.key (chL (es1 ++ e :: es2)) clk = clk := by
  have hk := ch_keys h
  have hg := ch_aget h
  unfold aput aclk
  rw [hg]
  refine ⟨?_, rfl⟩
  rw [if_pos (by rfl)]
  unfold chL
  rw [List.map_append, List.map_append, List.map_append, List.map_cons, List.map_cons, List.map_cons, List.map_map, List.map_map]
  congr 1
  · refine List.map_congr_left fun x hx => ?_
    have := (hk x (.inl hx)).1
    show _ = if e.key = x.te.1 then _ else _
    rw [if_neg (fun q => this q.symm)]
  · congr 1
    · show e'.te = if e.key = e.te.1 then _ else _
      rw [if_pos (by rfl), ← h1]
      unfold ChE.te
      rw [h2]
    · refine List.map_congr_left fun x hx => ?_
      have := (hk x (.inr hx)).1
      show _ = if e.key = x.te.1 then _ else _
      rw [if_neg (fun q => this q.symm)]
theorem chD_snoc (k k' : ByteArray) (H : List VerK) (v : VerW) : chD k' (H ++ [⟨k, v⟩]) = if k' = k then chD k' H ++ [v] else chD k' H := by
  rw [chD_append]
  unfold chD
  by_cases h : k' = k
  · subst h; simp
  · rw [if_neg h, List.filter_cons_of_neg (by simpa using fun e => h e.symm)]; simp
/-- a key looked up: what lies there, and what comes of it when a version is put behind it -/
theorem ch_put {es : List ChE} {clk : Nat} {H : List VerK} (h : ChOk es clk H) (k : ByteArray) : ∃ (A : Option Addr) (c : Nat) (E S1 S2 : Seg),
    (aget k (chL es)).getD (.slice none 0 0) = .slice A (chD k H).length c ∧ BufV (chD k H) A c E ∧ chSg es = S1 ++ E ++ S2 ∧
    ∀ (v : VerW) (A' : Option Addr) (c' : Nat) (E' : Seg), BufV (chD k H ++ [v]) A' c' E' →
      ∃ es', chL es' = aput k (.slice A' ((chD k H).length + 1) c') (chL es) clk ∧ S1 ++ E' ++ S2 = chSg es' ∧ ChOk es' (aclk k (chL es) clk) (H ++ [⟨k, v⟩]) := by
  by_cases hk : ∃ e ∈ es, e.key = k
  · obtain ⟨e, he, rfl⟩ := hk
    obtain ⟨es1, es2, rfl⟩ := List.append_of_mem he
    have hc := h.cont e he
    refine ⟨e.A, e.c, e.E, chSg es1, chSg es2, by rw [ch_aget h.mok, ← hc]; rfl, by rw [← hc]; exact h.buf e he, chSg_split .., fun v A' c' E' hb => ?_⟩
    obtain ⟨q1, q2⟩ := ch_aput (e' := ⟨e.key, A', c', chD e.key H ++ [v], e.born, E'⟩) h.mok rfl rfl
    refine ⟨es1 ++ ⟨e.key, A', c', chD e.key H ++ [v], e.born, E'⟩ :: es2, ?_, by rw [chSg_split], ?_⟩
    · rw [q1]
      simp
    · refine ⟨?_, fun x hx => ?_, fun x hx => ?_, fun u hu => ?_⟩
      · rw [q1, q2]
        have := h.mok.put e.key (.slice A' (chD e.key H ++ [v]).length c')
        rw [q2] at this
        exact this
      · rcases List.mem_append.1 hx with hx | hx
        · exact h.buf x (List.mem_append.2 (.inl hx))
        · rcases List.mem_cons.1 hx with rfl | hx
          · exact hb
          · exact h.buf x (List.mem_append.2 (.inr (List.mem_cons_of_mem _ hx)))
      · rw [chD_snoc]
        rcases List.mem_append.1 hx with hx | hx
        · rw [if_neg (ch_keys h.mok x (.inl hx)).1]
          exact h.cont x (List.mem_append.2 (.inl hx))
        · rcases List.mem_cons.1 hx with rfl | hx
          · rw [if_pos rfl]
          · rw [if_neg (ch_keys h.mok x (.inr hx)).1]
            exact h.cont x (List.mem_append.2 (.inr (List.mem_cons_of_mem _ hx)))
      · rcases List.mem_append.1 hu with hu | hu
        · obtain ⟨x, hx, hq⟩ := h.all u hu
          rcases List.mem_append.1 hx with hx | hx
          · exact ⟨x, List.mem_append.2 (.inl hx), hq⟩
          · rcases List.mem_cons.1 hx with rfl | hx
            · exact ⟨_, List.mem_append.2 (.inr (List.mem_cons_self ..)), hq⟩
            · exact ⟨x, List.mem_append.2 (.inr (List.mem_cons_of_mem _ hx)), hq⟩
        · rw [List.mem_singleton.1 hu]
          exact ⟨_, List.mem_append.2 (.inr (List.mem_cons_self ..)), rfl⟩
  · have hn : ∀ e ∈ es, e.key ≠ k := fun e he q => hk ⟨e, he, q⟩
    have hD : chD k H = [] := by
      rw [List.eq_nil_iff_forall_not_mem]
      intro v hv
      unfold chD at hv
      obtain ⟨x, hx, _⟩ := List.mem_map.1 hv
      rw [List.mem_filter, decide_eq_true_iff] at hx
      obtain ⟨e, he, hq⟩ := h.all x hx.1
      exact hn e he (hq.trans hx.2)
    have hg : aget k (chL es) = none := by
      unfold aget
      rw [List.find?_eq_none.2 fun x hx => ?_]
      · rfl
      · obtain ⟨e, he, rfl⟩ := List.mem_map.1 hx
        have := hn e he
        show ¬ (decide (k = e.key) = true)
        rw [decide_eq_true_iff]
        exact fun q => this q.symm
    refine ⟨none, 0, [], chSg es, [], by rw [hg, hD]; rfl, by rw [hD]; exact Buf.nil _ _, by simp, fun v A' c' E' hb => ?_⟩
    rw [hD] at hb
    refine ⟨es ++ [⟨k, A', c', [v], clk, E'⟩], ?_, by simp [chSg], ?_⟩
    · unfold aput
      rw [hg, hD, if_neg (by simp)]
      simp [chL, ChE.te]
    · refine ⟨?_, fun x hx => ?_, fun x hx => ?_, fun u hu => ?_⟩
      · have := h.mok.put k (.slice A' 1 c')
        unfold aput at this
        rw [hg, if_neg (by simp)] at this
        unfold chL at this ⊢
        rw [List.map_append]
        exact this
      · rcases List.mem_append.1 hx with hx | hx
        · exact h.buf x hx
        · rw [List.mem_singleton.1 hx]; exact hb
      · rw [chD_snoc]
        rcases List.mem_append.1 hx with hx | hx
        · rw [if_neg (hn x hx)]; exact h.cont x hx
        · rw [List.mem_singleton.1 hx]
          show [v] = if k = k then _ else _
          rw [if_pos rfl, hD]
          rfl
      · rcases List.mem_append.1 hu with hu | hu
        · obtain ⟨x, hx, hq⟩ := h.all u hu
          exact ⟨x, List.mem_append.2 (.inl hx), hq⟩
        · rw [List.mem_singleton.1 hu]
          exact ⟨_, List.mem_append.2 (.inr (List.mem_singleton.2 rfl)), rfl⟩
/-- how many versions there are in all -/
def tot (es : List ChE) : Nat := (es.map (fun e => e.vs.length)).sum
theorem tot_len : ∀ {es : List ChE} {H : List VerK}, es.Pairwise (fun a b => a.key ≠ b.key) → (∀ e ∈ es, e.vs = chD e.key H) → (∀ v ∈ H, ∃ e ∈ es, e.key = v.key) → tot es = H.length
  | [], H, _, _, h => by
    have : H = [] := by
      rw [List.eq_nil_iff_forall_not_mem]
      intro v hv
      obtain ⟨e, he, _⟩ := h v hv
      cases he
    rw [this]; rfl
  | e :: es, H, hp, hc, h => by
    obtain ⟨p1, p2⟩ := List.pairwise_cons.1 hp
    have ih := tot_len (es := es) (H := H.filter (fun v => decide (v.key ≠ e.key))) p2 (fun x hx => by
      rw [hc x (List.mem_cons_of_mem _ hx)]
      unfold chD
      rw [List.filter_filter]
      congr 1
      refine List.filter_congr fun v _ => ?_
      by_cases hv : v.key = x.key
      · have : v.key ≠ e.key := fun q => p1 x hx (q.symm.trans hv)
        simp [hv, this]
        exact fun q => p1 x hx q.symm
      · simp [hv]) (fun v hv => by
      rw [List.mem_filter, decide_eq_true_iff] at hv
      obtain ⟨x, hx, hq⟩ := h v hv.1
      rcases List.mem_cons.1 hx with rfl | hx
      · exact absurd hq.symm hv.2
      · exact ⟨x, hx, hq⟩)
    have h1 : tot (e :: es) = e.vs.length + tot es := by simp [tot]
    rw [h1, ih, hc e (List.mem_cons_self ..)]
    have h2 : (H.filter (fun v => decide (v.key = e.key))).length + (H.filter (fun v => decide (v.key ≠ e.key))).length = H.length := by
      clear ih hc h h1
      induction H with
      | nil => rfl
      | cons v r ih =>
        by_cases hv : v.key = e.key
        · rw [List.filter_cons_of_pos (by simpa using hv), List.filter_cons_of_neg (by simpa using hv)]
          simp only [List.length_cons]; omega
        · rw [List.filter_cons_of_neg (by simpa using hv), List.filter_cons_of_pos (by simpa using hv)]
          simp only [List.length_cons]; omega
    unfold chD
    rw [List.length_map]
    exact h2
theorem ChOk.tot {es : List ChE} {clk : Nat} {H : List VerK} (h : ChOk es clk H) : tot es = H.length := tot_len ((List.pairwise_map (f := ChE.te) (R := fun a b => a.1 ≠ b.1)).1 h.mok.keys) h.cont h.all
/-- while it is pruned: those of the stamps D are done -/
structure PrI (F : Int) (H : List VerK) (bs : List Nat) (clk : Nat) (D : List Nat) (es : List ChE) (gone : Nat) : Prop where
  mok : MapOk (chL es) clk
  born : es.map ChE.born = bs
  nd : D.Nodup
  sub : ∀ b ∈ D, b ∈ bs
  buf : ∀ e ∈ es, BufV e.vs e.A e.c e.E
  cont : ∀ e ∈ es, e.vs = if e.born ∈ D then prC F (chD e.key H) else chD e.key H
  all : ∀ v ∈ H, ∃ e ∈ es, e.key = v.key
  num : Go.Proofs.Ytlioccfedophhaa.tot es + gone = H.length
theorem ChOk.begin {es : List ChE} {clk : Nat} {H : List VerK} (h : ChOk es clk H) (F : Int) : PrI F H (es.map ChE.born) clk [] es 0 :=
  ⟨h.mok, rfl, .nil, fun b hb => (by cases hb), h.buf, fun e he => by rw [if_neg (by simp)]; exact h.cont e he, h.all, by rw [h.tot]; rfl⟩
theorem PrI.len {F : Int} {H : List VerK} {bs : List Nat} {clk : Nat} {D : List Nat} {es : List ChE} {gone : Nat} (h : PrI F H bs clk D es gone) : D.length ≤ bs.length := len_sub h.nd h.sub
theorem PrI.done {F : Int} {H : List VerK} {bs : List Nat} {clk : Nat} {D : List Nat} {es : List ChE} {gone : Nat} (h : PrI F H bs clk D es gone) (hr : ∀ k, Rise (chD k H)) (hd : ∀ e ∈ es, e.born ∈ D) : ChOk es clk (pruneD F H) ∧ (pruneD F H).length + gone = H.length := by
  have hc : ∀ e ∈ es, e.vs = chD e.key (pruneD F H) := fun e he => by rw [h.cont e he, if_pos (hd e he), chD_prune _ (hr _)]
  have ha : ∀ v ∈ pruneD F H, ∃ e ∈ es, e.key = v.key := fun v hv => h.all v (List.mem_filter.1 hv).1
  refine ⟨⟨h.mok, h.buf, hc, ha⟩, ?_⟩
  rw [← tot_len ((List.pairwise_map (f := ChE.te) (R := fun a b => a.1 ≠ b.1)).1 h.mok.keys) hc ha]
  exact h.num
theorem tot_split (es1 : List ChE) (e : ChE) (es2 : List ChE) : tot (es1 ++ e :: es2) = tot es1 + e.vs.length + tot es2 := by
  simp [tot]; omega
/-- one entry pruned (or left, where there is nothing to prune) -/
theorem PrI.step {F : Int} {H : List VerK} {bs : List Nat} {clk : Nat} {D : List Nat} {es1 es2 : List ChE} {e : ChE} {gone : Nat} (h : PrI F H bs clk D (es1 ++ e :: es2) gone) (hn : e.born ∉ D) {e' : ChE} (h1 : e'.key = e.key) (h2 : e'.born = e.born) (h3 : e'.vs = prC F (chD e.key H)) (hb : BufV e'.vs e'.A e'.c e'.E) :
    PrI F H bs clk (D ++ [e.born]) (es1 ++ e' :: es2) (gone + (e.vs.length - e'.vs.length)) := by
  have hk := ch_keys h.mok
  obtain ⟨q1, q2⟩ := ch_aput h.mok h1 h2
  have hbo : e.born ∈ bs := by rw [← h.born]; simp
  have he := h.cont e (by simp)
  rw [if_neg hn] at he
  have hlt : e'.vs.length ≤ e.vs.length := by rw [h3, he]; unfold prC; rw [List.length_drop]; omega
  refine ⟨?_, ?_, ?_, fun b hb => ?_, fun x hx => ?_, fun x hx => ?_, fun v hv => ?_, ?_⟩
  · have := h.mok.put e.key (.slice e'.A e'.vs.length e'.c)
    rw [q1]
    rw [q2] at this
    exact this
  · rw [← h.born]
    simp [h2]
  · refine List.nodup_append.2 ⟨h.nd, by simp, fun a ha b hb q => ?_⟩
    rw [List.mem_singleton.1 hb] at q
    exact hn (q ▸ ha)
  · rcases List.mem_append.1 hb with hb | hb
    · exact h.sub b hb
    · rw [List.mem_singleton.1 hb]; exact hbo
  · rcases List.mem_append.1 hx with hx | hx
    · exact h.buf x (List.mem_append.2 (.inl hx))
    · rcases List.mem_cons.1 hx with rfl | hx
      · exact hb
      · exact h.buf x (List.mem_append.2 (.inr (List.mem_cons_of_mem _ hx)))
  · have key : ∀ x, (x ∈ es1 ∨ x ∈ es2) → x ∈ es1 ++ e :: es2 → x.vs = if x.born ∈ D ++ [e.born] then prC F (chD x.key H) else chD x.key H := fun x hx hm => by
      have e1 : (x.born ∈ D ++ [e.born]) ↔ x.born ∈ D := by
        rw [List.mem_append, List.mem_singleton]
        exact ⟨fun q => q.elim id fun q => absurd q (hk x hx).2, .inl⟩
      simp only [e1]
      exact h.cont x hm
    rcases List.mem_append.1 hx with hx | hx
    · exact key x (.inl hx) (List.mem_append.2 (.inl hx))
    · rcases List.mem_cons.1 hx with rfl | hx
      · rw [if_pos (by rw [h2]; simp), h3, h1]
      · exact key x (.inr hx) (List.mem_append.2 (.inr (List.mem_cons_of_mem _ hx)))
  · obtain ⟨x, hx, hq⟩ := h.all v hv
    rcases List.mem_append.1 hx with hx | hx
    · exact ⟨x, List.mem_append.2 (.inl hx), hq⟩
    · rcases List.mem_cons.1 hx with rfl | hx
      · exact ⟨e', List.mem_append.2 (.inr (List.mem_cons_self ..)), h1.trans hq⟩
      · exact ⟨x, List.mem_append.2 (.inr (List.mem_cons_of_mem _ hx)), hq⟩
  · have := h.num
    rw [tot_split] at this ⊢
    omega
end Go.Proofs.Ytlioccfedophhaa
/- The store of versions: New, Count, At, Install. -/
set_option linter.unusedVariables false
set_option linter.unusedSimpArgs false
namespace Go.Proofs.Ytlioccfedophhaa
open Go
set_option maxRecDepth 20000
set_option maxHeartbeats 2000000
attribute [local irreducible] WX WC WQ Val VCall
theorem rSwN_0 {A B : Prop} (k : B) (h : Hold B → A := by intro k; (repeat (first | (apply wx_val; (first | exact v_move rfl | exact v_assign rfl | exact v_nil rfl | exact v_faddr rfl rfl | exact v_ldT rfl rfl rfl (by rfl) | exact v_ldAT rfl (by rfl) | exact v_extract rfl rfl | exact v_len rfl rfl | exact v_slen rfl rfl | exact v_lt rfl rfl | exact v_gt rfl rfl | exact v_addi rfl rfl (by omega) | exact v_subi rfl rfl (by omega) | exact v_not rfl | exact v_pickF rfl rfl | exact v_iaddrE (by assumption) rfl rfl rfl (by omega) | exact v_eqsnil rfl rfl rfl); rfl) | refine wx_ungd rfl rfl ?_ | refine wc_seq ?_ | refine wc_region ?_ | refine wx_nil ?_ | refine wq_next ?_ | refine wc_block ?_ | refine wc_ret ?_ | refine wc_skip ?_ | refine wc_exit ?_ | refine wq_then_ret ?_ | refine wq_then_exit ?_ | refine wq_block ?_ | refine wq_block_exit rfl ?_ | refine wq_setn ?_ | refine wc_condT rfl ?_ | refine wc_condF rfl ?_ | refine wl_storeT rfl rfl rfl (by rfl) (by exact .inl (Nat.le_refl _)) rfl ?_ | refine wl_stAT rfl rfl (by rfl) (by rfl) (by exact .inl (Nat.le_refl _)) rfl ?_)); exact k.out) : A := h ⟨k⟩
theorem wq_part {Q : Exit → Act → World → Prop} {nt : Sh} {w0 : World} {X : List Nat} {fr : Fr} {M : List Seg} (S1 E S2 : Seg) {S : Seg} {R : List Seg} {e : Exit} (hS : S = S1 ++ E ++ S2) [T : Take S M R] (h : WQ Q nt w0 X e fr (E :: S1 :: S2 :: R)) : WQ Q nt w0 X e fr M := by
  subst hS
  exact wq_flat ((flat_perm T.perm).trans (part_perm S1 E S2 R)) h
/-- a cell of an element of a list that lies in a segment with others -/
theorem Buf.elS {α : Type} {f : α → List Value} {k : Nat} {A : Option Addr} {e n c g : Nat} {xs : List α} {E S : Seg} (hb : Buf e k A n c (xs.flatMap f) E) (hE : ∀ p ∈ E, p ∈ S) (hA : A = some ⟨g, 0, none⟩) (hk : 0 < k) (hf : ∀ a, (f a).length = k) {i : Nat} {a : α} (hi : xs[i]? = some a)
    {w0 w : World} {X : List Nat} {M : List Seg} (hr : Res w0 X w M) [h : Has S M] {j : Nat} {v : Value} (hj : (f a)[j]? = some v) {o : Nat} (ho : o = 0 + i * k + j) : w.cell? ⟨g, o, none⟩ = some v := by
  obtain ⟨g', o', e, hc⟩ := (hb.vwS hE hr).elZ hk hf (by have := (List.getElem?_eq_some_iff.1 hi).1; omega)
  rw [hA] at e
  injection e with e
  injection e with e1 e2 e3
  subst e1 e2
  exact hc hi (M := []) (Res.refl (own_nil w)) hj ho
abbrev chM (g m : Nat) (n : Int) (es : List ChE) (clk : Nat) : List Seg := [stB g m n, mpK Value.string m (chL es) clk, chSg es]
theorem chNew_spec (w : World) : Calls Try.prog 27 #[] w (Ret (β := Nat × Nat) w (ids []) (fun x => .pointer (some ⟨x.1, 0, none⟩)) (fun x => chM x.1 x.2 0 [] 0) (fun _ => True)) := by
  refine go [] [] Try.func27 Try.ntmps27 rfl rfl (own_nil w) ?_
  refine rSwN_0 ?_
  refine wl_makeMap rfl (fun g1 => ?_)
  (try refine wx_ungd rfl rfl ?_)
  apply wx_val
  exact v_build (cs := ([Value.map (some g1), .int .i64 0]).toArray) rfl (by kernel_rfl)
  rfl
  refine wl_boxA rfl rfl (fun g3 => ?_)
  refine rSwN_0 ?_
  refine wq_seg ?_
  exact wq_ret1T (g3, g1) rfl rfl trivial (show _ = [stB g3 g1 0, [(g1, .map (ents []) 0)], []] from rfl)
theorem chCount_spec {g m : Nat} {n : Int} (w : World) (ho : Own w [stB g m n]) : Calls Try.prog 39 #[.pointer (some ⟨g, 0, none⟩)] w (Ret (β := Unit) w (ids [stB g m n]) (fun _ => .int .i64 n) (fun _ => [stB g m n]) (fun _ => True)) := by
  refine go [.pointer (some ⟨g, 0, none⟩)] [stB g m n] Try.func39 Try.ntmps39 rfl rfl ho ?_
  refine rSwN_0 ?_
  exact wq_ret1T () rfl rfl trivial rfl
theorem chAt_spec {g m : Nat} {n : Int} {es : List ChE} {clk : Nat} {H : List VerK} (h : ChOk es clk H) (hR : ∀ k, Rise (chD k H)) (hl : H.length ≤ 1048576) (k : ByteArray) (s : Int) (w : World) (ho : Own w (chM g m n es clk)) :
    Calls Try.prog 56 #[.pointer (some ⟨g, 0, none⟩), .string k, .int .i64 s] w (Ret (β := Unit) w (ids (chM g m n es clk)) (fun _ => .tuple #[.agg ((atC s (chD k H)).getD VerW.zero).cells.toArray, .bool (atC s (chD k H)).isSome]) (fun _ => chM g m n es clk) (fun _ => True)) := by
  refine go [.pointer (some ⟨g, 0, none⟩), .string k, .int .i64 s] (chM g m n es clk) Try.func56 Try.ntmps56 rfl rfl ho ?_
  obtain ⟨A, c, E, S1, S2, hg, hb, hS, _⟩ := ch_put h k
  have hE : ∀ p ∈ E, p ∈ chSg es := fun p hp => by rw [hS]; simp [hp]
  have hlC : (chD k H).length ≤ 1048576 := by
    have : (chD k H).length ≤ H.length := by unfold chD; rw [List.length_map]; exact List.length_filter_le _ _
    omega
  have hup := upC_le s (chD k H)
  refine rSwN_0 ?_
  refine wl_alloc rfl rfl (fun g6 => ?_)
  refine rSwN_0 ?_
  (try refine wx_ungd rfl rfl ?_)
  apply wx_val
  exact v_agetK (L := chL es) (clk := clk) hg rfl (keyS rfl) rfl rfl rfl
  rfl
  refine rSwN_0 ?_
  (try refine wx_ungd rfl rfl ?_)
  refine wx_vcall (vc_pure' rfl rfl (fun w' hr => upTo_spec s (hR k) (by omega) w' (hb.vwS hE hr))) rfl ?_
  refine rSwN_0 ?_
  refine wc_if rfl (fun h1 => ?_) (fun h1 => ?_)
  · obtain ⟨u, hu⟩ : ∃ u, upC s (chD k H) = u + 1 := ⟨upC s (chD k H) - 1, by omega⟩
    obtain ⟨v, hv⟩ : ∃ v, (chD k H)[u]? = some v := ⟨(chD k H)[u]'(by omega), List.getElem?_eq_getElem _⟩
    have ea : atC s (chD k H) = some v := by unfold atC; rw [hu]; exact hv
    rw [ea]
    rw [hu]
    obtain ⟨gA, hA⟩ := hb.ptr (by omega)
    refine rSwN_0 ?_
    (try refine wx_ungd rfl rfl ?_)
    apply wx_val
    exact v_loadA (cs := v.cells) rfl rfl (fun w' hr j x hj => hb.elS hE hA (by decide) (fun _ => rfl) hv hr hj (by rw [show ((u + 1 : Nat) : Int) - 1 = (u : Nat) by omega, Int.toNat_natCast]))
    rfl
    refine rSwN_0 ?_
    exact wq_retA2T (cs := v.cells) () rfl rfl rfl rfl rfl trivial rfl
  · have hu : upC s (chD k H) = 0 := by omega
    have ea : atC s (chD k H) = none := by unfold atC; rw [hu]
    rw [ea]
    refine rSwN_0 ?_
    (try refine wx_ungd rfl rfl ?_)
    apply wx_val
    exact v_build (cs := (VerW.zero.cells).toArray) rfl (by kernel_rfl)
    rfl
    refine rSwN_0 ?_
    exact wq_retA2T (cs := VerW.zero.cells) () rfl rfl rfl rfl rfl trivial rfl
theorem chRight_spec (v : VerW) (w : World) : Calls Try.prog 81 #[.agg v.cells.toArray] w (Ret (β := Unit) w (ids []) (fun _ => .bool (decide ((0 ≤ v.commit ∧ v.commit ≤ 1099511627776) ∧ (0 ≤ v.writer ∧ v.writer < 4096) ∧ v.value.size ≤ 16 ∧ (v.found = true ∨ v.value = ⟨#[]⟩)))) (fun _ => []) (fun _ => True)) := by
  refine go [.agg v.cells.toArray] [] Try.func81 Try.ntmps81 rfl rfl (own_nil w) ?_
  refine rSwN_0 ?_
  refine wl_boxA rfl rfl (fun g1 => ?_)
  repeat' (first | (apply wx_val; (first | exact v_move rfl | exact v_assign rfl | exact v_faddr rfl rfl | exact v_ldT rfl rfl rfl (by rfl) | exact v_slen rfl rfl | exact v_lt rfl rfl | exact v_le rfl rfl | exact v_ge rfl rfl | exact v_streq rfl rfl | exact v_pickT rfl rfl | exact v_pickF rfl rfl); rfl) | refine wx_no rfl rfl rfl ?_ | refine wx_undef rfl rfl rfl ?_ | refine wx_ungd rfl rfl ?_ | refine wc_seq ?_ | refine wc_region ?_ | refine wx_nil ?_ | refine wq_next ?_ | refine wc_ret ?_ | refine wx_gif rfl rfl (fun _ => ?_) (fun _ => ?_) | refine wx_gbool rfl rfl (fun _ => ?_) (fun _ => ?_))
  all_goals exact wq_clear (wq_ret1 () rfl (bool_val (by rw [Bool.eq_iff_iff]; simp_all; (try omega); (try (intro _; decide)))) trivial rfl)
theorem v_sub1 {P : Program} {nt : Sh} {w0 : World} {X : List Nat} {fr : Fr} {M : List Seg} {dst : Option Nat} {t u ty : TypeId} {pos : String} {af : Array Edge} {gd : Option (Nat × Bool)} {x : Operand} (m : Nat) (hx : ev fr x = some (.int .i64 ((m + 1 : Nat) : Int))) (hm : m ≤ 1099511627776) :
    Val P nt w0 X fr M ⟨dst, .binOp .sub t x (.const (.int .i64 1)) u, ty, pos, af, gd⟩ (.int .i64 (m : Nat)) := by
  have e : ((m : Nat) : Int) = ((m + 1 : Nat) : Int) - 1 := by omega
  rw [e]
  exact v_subi hx rfl (by omega)
theorem chClone_spec {A : Option Addr} {c : Nat} {vs : List VerW} (hl : vs.length ≤ 1048576) (hA : A = none → vs = []) (w : World) (hv : Vw [] w A (vs.flatMap VerW.cells)) :
    Calls Try.prog 60 #[.slice A vs.length c] w (Ret (β := Option Addr × Nat × Seg) w (ids []) (fun x => .slice x.1 vs.length x.2.1) (fun x => [x.2.2]) (fun x => BufV vs x.1 x.2.1 x.2.2)) := by
  refine go [.slice A vs.length c] [] Try.func60 Try.ntmps60 rfl rfl (own_nil w) ?_
  refine rSwN_0 ?_
  cases A with
  | none =>
    obtain rfl := hA rfl
    refine rSwN_0 ?_
    exact wq_seg (wq_ret1T (none, 0, []) rfl rfl (Buf.nil _ _) rfl)
  | some a =>
    refine rSwN_0 ?_
    refine wl_lit0 rfl rfl (fun g2 E2 hb2 => ?_)
    refine rSwN_0 ?_
    refine wl_appT rfl hb2 rfl rfl (fun w' hr => src_slice rfl (hv.keep hr).rd (flat_len' (k := 4) (fun _ => rfl) _) (by decide) (fun u hu => by
      obtain ⟨a, _, h⟩ := List.mem_flatMap.1 hu
      exact List.all_eq_true.1 (show a.cells.all Value.oneCell' = true from rfl) u h)) (by omega) rfl (fun A3 c3 E3 hb3 => ?_)
    simp only [Nat.zero_add, List.nil_append] at hb3 ⊢
    refine rSwN_0 ?_
    exact wq_ret1T (A3, c3, E3) rfl rfl hb3 rfl
theorem cmp_or (a b : VerW) (h : above b a = true) : firstNZ [cmpI a.commit b.commit, cmpI a.writer b.writer] < 0 := by
  rw [above_iff] at h
  have h1 := cmpI_c a.commit b.commit
  have h2 := cmpI_c a.writer b.writer
  rcases h with h | ⟨h, h3⟩
  · have e : cmpI a.commit b.commit = -1 := by omega
    simp [firstNZ, e]
  · have e : cmpI a.commit b.commit = 0 := by omega
    have e2 : cmpI a.writer b.writer = -1 := by omega
    simp [firstNZ, e, e2]
theorem chInstall_spec {g m : Nat} {n : Int} {es : List ChE} {clk : Nat} {H : List VerK} (h : ChOk es clk H) (hl : H.length ≤ 1048576) (hn : n = (H.length : Nat)) (k : ByteArray) (hk : 1 ≤ k.size ∧ k.size ≤ 8) (v : VerW) (hv : (0 ≤ v.commit ∧ v.commit ≤ 1099511627776) ∧ (0 ≤ v.writer ∧ v.writer < 4096) ∧ v.value.size ≤ 16 ∧ (v.found = true ∨ v.value = ⟨#[]⟩)) (hb : ∀ u ∈ chD k H, above v u = true) (w : World) (ho : Own w (chM g m n es clk)) :
    Calls Try.prog 57 #[.pointer (some ⟨g, 0, none⟩), .string k, .agg v.cells.toArray] w (Ret (β := List ChE × Nat) w (ids (chM g m n es clk)) (fun _ => .int .i64 0) (fun x => chM g m (n + 1) x.1 x.2) (fun x => ChOk x.1 x.2 (H ++ [⟨k, v⟩]))) := by
  refine go [.pointer (some ⟨g, 0, none⟩), .string k, .agg v.cells.toArray] (chM g m n es clk) Try.func57 Try.ntmps57 rfl rfl ho ?_
  obtain ⟨A, c, E, S1, S2, hg, hbf, hS, hput⟩ := ch_put h k
  have hE : ∀ p ∈ E, p ∈ chSg es := fun p hp => by rw [hS]; simp [hp]
  have hlC : (chD k H).length ≤ 1048576 := by
    have : (chD k H).length ≤ H.length := by unfold chD; rw [List.length_map]; exact List.length_filter_le _ _
    omega
  refine rSwN_0 ?_
  refine wl_boxA rfl rfl (fun g5 => ?_)
  refine rSwN_0 ?_
  refine wx_gset false rfl rfl (decide_eq_false (by omega)) ?_
  refine rSwN_0 ?_
  refine wc_not rfl (decide_eq_false (by omega)) ?_
  refine rSwN_0 ?_
  (try refine wx_ungd rfl rfl ?_)
  refine wx_vcall (vc_pure' rfl rfl (fun w' hr => chRight_spec v w')) rfl ?_
  rw [decide_eq_true hv]
  refine rSwN_0 ?_
  (try refine wx_ungd rfl rfl ?_)
  apply wx_val
  exact v_agetK (L := chL es) (clk := clk) hg rfl (keyS rfl) rfl rfl rfl
  rfl
  refine rSwN_0 ?_
  refine wc_meetK (ι := Unit) [0, 1, 5, 6, 7] (fun _ => [(52, .bool false)]) (fun _ => []) (M1 := []) (fun _ => True) rfl ?_ ?_
  · refine wc_cat ?_
    by_cases hz : 0 < (chD k H).length
    · obtain ⟨u, hu⟩ : ∃ u, (chD k H)[(chD k H).length - 1]? = some u := ⟨(chD k H)[(chD k H).length - 1]'(by omega), List.getElem?_eq_getElem _⟩
      obtain ⟨gA, hA⟩ := hbf.ptr (by omega)
      have hlt := cmp_or u v (hb u (List.mem_of_getElem? hu))
      refine wc_heldN [] [[(g5, .cells v.cells.toArray 115 (0, 0))], chSg es] (fun hQd => ?_)
      refine tkX 0 rfl (v_move rfl) ?_
      refine tkX 1 rfl (v_gt rfl rfl) ?_
      refine tkX 2 rfl (v_move rfl) ?_
      refine wh_yes 30 rfl (decide_eq_true (by omega)) ?_
      refine tkgX 3 rfl (v_move rfl) ?_
      refine tkgX 4 rfl (v_move rfl) ?_
      refine tkgX 5 rfl (v_subi rfl rfl (by omega)) ?_
      refine tkgX 6 rfl (v_iaddrE (by assumption) rfl rfl rfl (by omega)) ?_
      refine tkgX 7 rfl (v_faddr rfl rfl) ?_
      refine tkgX 8 rfl (v_load rfl rfl rfl (fun w' hr => hbf.elS hE hA (by decide) (fun _ => rfl) hu hr (j := 0) rfl (by omega))) ?_
      refine tkgX 9 rfl (v_faddr rfl rfl) ?_
      refine tkgX 10 rfl (v_ldT rfl rfl rfl (by rfl)) ?_
      refine tkgX 12 rfl (v_move rfl) ?_
      refine tkgX 13 rfl (v_move rfl) ?_
      refine tkgX 14 rfl (v_subi rfl rfl (by omega)) ?_
      refine tkgX 15 rfl (v_iaddrE (by assumption) rfl rfl rfl (by omega)) ?_
      refine tkgX 16 rfl (v_faddr rfl rfl) ?_
      refine tkgX 17 rfl (v_load rfl rfl rfl (fun w' hr => hbf.elS hE hA (by decide) (fun _ => rfl) hu hr (j := 1) rfl (by omega))) ?_
      refine tkgX 18 rfl (v_faddr rfl rfl) ?_
      refine tkgX 19 rfl (v_ldT rfl rfl rfl (by rfl)) ?_
      refine efX 11 rfl ?_
      refine wx_ungd rfl rfl ?_
      (try refine wx_ungd rfl rfl ?_)
      refine wx_vcall (vc_pure' rfl rfl (fun w' hr => cmp_spec _ _ w')) rfl ?_
      (try refine wx_nil ?_)
      refine hdX ?_
      refine efX 20 rfl ?_
      refine wx_ungd rfl rfl ?_
      (try refine wx_ungd rfl rfl ?_)
      refine wx_vcall (vc_pure' rfl rfl (fun w' hr => cmp_spec _ _ w')) rfl ?_
      (try refine wx_nil ?_)
      refine hdX ?_
      refine efX 21 rfl ?_
      refine wx_ungd rfl rfl ?_
      refine wl_litB rfl rfl rfl rfl rfl (by decide) rfl (fun g21 E21 hb21 => ?_)
      (try refine wx_nil ?_)
      refine hdX ?_
      refine efX 22 rfl ?_
      refine wx_ungd rfl rfl ?_
      (try refine wx_ungd rfl rfl ?_)
      refine wx_vcall (vc_pure' rfl rfl (fun w' hr => Or_spec (l := [cmpI u.commit v.commit, cmpI u.writer v.writer]) (by simp) w' (hb21.vwT hr))) rfl ?_
      (try refine wx_nil ?_)
      refine hdX ?_
      refine tkgX 23 rfl (v_ge rfl rfl) ?_
      refine tkX 24 rfl (by first | exact v_pickT rfl rfl | exact v_pickF rfl rfl | exact v_pick rfl rfl rfl) ?_
      refine wh_done (by decide +kernel) ?_
      rw [decide_eq_false (show ¬ (0 : Int) ≤ firstNZ [cmpI u.commit v.commit, cmpI u.writer v.writer] by omega)]
      refine wq_cutK (()) ?_ (by repeat (first | exact trivial | refine ⟨rfl, ?_⟩)) (by first | exact catEq | exact rfl)
      exact trivial
    · skip
      refine wc_heldN [] [[(g5, .cells v.cells.toArray 115 (0, 0))], chSg es] (fun hQd => ?_)
      refine tkX 0 rfl (v_move rfl) ?_
      refine tkX 1 rfl (v_gt rfl rfl) ?_
      refine tkX 2 rfl (v_move rfl) ?_
      refine wh_not 30 rfl (decide_eq_false (by omega)) ?_
      first | refine tkgX 3 rfl (v_move rfl) ?_ | refine tknX 3 rfl ?_
      first | refine tkgX 4 rfl (v_move rfl) ?_ | refine tknX 4 rfl ?_
      refine tknX 5 rfl ?_
      refine tknX 6 rfl ?_
      first | refine tkgX 7 rfl (v_faddr rfl rfl) ?_ | refine tknX 7 rfl ?_
      refine tknX 8 rfl ?_
      first | refine tkgX 9 rfl (v_faddr rfl rfl) ?_ | refine tknX 9 rfl ?_
      refine tknX 10 rfl ?_
      refine tknX 11 rfl ?_
      first | refine tkgX 12 rfl (v_move rfl) ?_ | refine tknX 12 rfl ?_
      first | refine tkgX 13 rfl (v_move rfl) ?_ | refine tknX 13 rfl ?_
      refine tknX 14 rfl ?_
      refine tknX 15 rfl ?_
      first | refine tkgX 16 rfl (v_faddr rfl rfl) ?_ | refine tknX 16 rfl ?_
      refine tknX 17 rfl ?_
      first | refine tkgX 18 rfl (v_faddr rfl rfl) ?_ | refine tknX 18 rfl ?_
      refine tknX 19 rfl ?_
      refine tknX 20 rfl ?_
      refine tknX 21 rfl ?_
      refine tknX 22 rfl ?_
      first | refine tkgX 23 rfl (v_ge rfl rfl) ?_ | refine tknX 23 rfl ?_
      refine tkX 24 rfl (by first | exact v_pickT rfl rfl | exact v_pickF rfl rfl | exact v_pick rfl rfl rfl) ?_
      refine wh_done (by decide +kernel) ?_
      refine wq_cutK (()) ?_ (by repeat (first | exact trivial | refine ⟨rfl, ?_⟩)) (by first | exact catEq | exact rfl)
      exact trivial
  rintro ⟨⟩ -
  refine wc_fcat ?_
  refine wc_cat ?_
  refine rSwN_0 ?_
  refine wc_part S1 E S2 hS ?_
  refine wc_heldN [] [[(g5, .cells v.cells.toArray 115 (0, 0))], stB g m n] (fun hQd => ?_)
  refine tkX 0 rfl (v_move rfl) ?_
  refine tkX 1 rfl (v_nil rfl) ?_
  refine tkX 2 rfl (v_faddr rfl rfl) ?_
  refine tkX 3 rfl (v_ldT rfl rfl rfl (by rfl)) ?_
  refine tkX 4 rfl (v_move rfl) ?_
  refine tkX 5 rfl (v_move rfl) ?_
  refine tkX 6 rfl (v_ldAT rfl (by rfl)) ?_
  refine efX 7 rfl ?_
  refine wl_lit rfl rfl rfl rfl rfl (by decide) rfl (fun g60 => ?_)
  (try refine wx_nil ?_)
  refine hdX ?_
  refine efX 8 rfl ?_
  refine wl_app1T rfl hbf rfl rfl rfl rfl (by omega) rfl (fun A3 c3 E3 hb3 => ?_)
  obtain ⟨es', q1, q2, q3⟩ := hput v A3 c3 E3 (by
    unfold BufV
    rw [show (chD k H ++ [v]).flatMap VerW.cells = (chD k H).flatMap VerW.cells ++ v.cells by simp, List.length_append]
    exact hb3)
  (try refine wx_nil ?_)
  refine hdX ?_
  refine efX 9 rfl ?_
  refine wl_mputK (L := chL es) (clk := clk) rfl (keyS rfl) h.mok rfl rfl rfl ?_
  rw [← q1]
  (try refine wx_nil ?_)
  refine hdX ?_
  refine wh_done (by decide +kernel) ?_
  refine rSwN_0 ?_
  refine wq_join S1 E3 ?_
  refine wq_join (S1 ++ E3) S2 ?_
  rw [q2]
  refine wq_blk g [.map (some m), .int .i64 (n + 1)] rfl ?_
  refine wq_setn ?_
  exact wq_ret1T (es', aclk k (chL es) clk) rfl rfl q3 (show _ = chM g m (n + 1) es' (aclk k (chL es) clk) from rfl)
/-- as much as a chain of versions has from a place on, in a list of its own -/
theorem chPrune_spec {g m : Nat} {n : Int} {es : List ChE} {clk : Nat} {H : List VerK} (h : ChOk es clk H) (hR : ∀ k, Rise (chD k H)) (hl : H.length ≤ 1048576) (hn : n = (H.length : Nat)) (F : Int) (w : World) (ho : Own w (chM g m n es clk)) :
    Calls Try.prog 37 #[.pointer (some ⟨g, 0, none⟩), .int .i64 F] w (Ret (β := List ChE × Nat) w (ids (chM g m n es clk)) (fun x => .int .i64 (x.2 : Nat)) (fun x => chM g m ((pruneD F H).length : Nat) x.1 clk) (fun x => ChOk x.1 clk (pruneD F H))) := by
  refine go [.pointer (some ⟨g, 0, none⟩), .int .i64 F] (chM g m n es clk) Try.func37 Try.ntmps37 rfl rfl ho ?_
  have h0 := h.begin F
  refine rSwN_0 ?_
  refine wl_rangeK (κ := Value.string) (L := chL es) (clk := clk) rfl rfl rfl (fun r => ?_)
  refine rSwN_0 ?_
  refine wc_loopM (ι := List Nat × List ChE × Nat) ([itK r m clk [], mpK Value.string m (chL es) clk, chSg es]) [0, 1, 13] (fun q => [(5, .int .i64 (q.2.2 : Nat))]) (fun q => [itK r m clk q.1, mpK Value.string m (chL q.2.1) clk, chSg q.2.1]) (fun q => PrI F H (es.map ChE.born) clk q.1 q.2.1 q.2.2) (fun q => es.length - q.1.length) (([], es, 0)) rfl rfl ?_ (by repeat (first | exact trivial | refine ⟨rfl, ?_⟩)) ?_
  · exact h0
  rintro ⟨D, es1, gone⟩ hp
  try dsimp only
  refine wc_fcat ?_
  refine wc_cat ?_
  dsimp only at hp ⊢
  refine rSwN_0 ?_
  refine wl_nextK (κ := Value.string) (g := m) (L := chL es1) (clk := clk) (D := D) hp.mok rfl rfl (fun hz => ?_) (fun e he hne => ?_)
  · have hd : ∀ x ∈ es1, x.born ∈ D := fun x hx => hz x.te (List.mem_map_of_mem hx)
    obtain ⟨d1, d2⟩ := hp.done hR hd
    refine rSwN_0 ?_
    refine wq_blk g [.map (some m), .int .i64 ((pruneD F H).length : Nat)] (by rw [show n - (gone : Nat) = ((pruneD F H).length : Nat) by omega]; rfl) ?_
    refine wq_setn ?_
    exact wq_ret1T (es1, gone) rfl rfl d1 (show _ = chM g m ((pruneD F H).length : Nat) es1 clk from rfl)
  · obtain ⟨x, hx, rfl⟩ := List.mem_map.1 he
    obtain ⟨s1, s2, rfl⟩ := List.append_of_mem hx
    have hnb : x.born ∉ D := hne
    have hc := hp.cont x hx
    rw [if_neg hnb] at hc
    have hb := hp.buf x hx
    have hE : ∀ p ∈ x.E, p ∈ chSg (s1 ++ x :: s2) := fun p hp => by rw [chSg_split]; simp [hp]
    have hRx : Rise x.vs := by rw [hc]; exact hR _
    have hlx : x.vs.length ≤ H.length := by rw [hc]; unfold chD; rw [List.length_map]; exact List.length_filter_le _ _
    have hup := upC_le F x.vs
    have hgn : gone ≤ H.length := by have := hp.num; omega
    have hDl := hp.len
    rw [List.length_map] at hDl
    refine rSwN_0 ?_
    (try refine wx_ungd rfl rfl ?_)
    apply wx_val
    exact v_entryK (κ := Value.string) (g := m) (D := D) (L := chL (s1 ++ x :: s2)) (e := x.te) hp.mok he rfl
    rfl
    dsimp only [ChE.te]
    refine rSwN_0 ?_
    (try refine wx_ungd rfl rfl ?_)
    refine wx_vcall (vc_pure' rfl rfl (fun w' hr => upTo_spec F hRx (by omega) w' (hb.vwS hE hr))) rfl ?_
    refine rSwN_0 ?_
    refine wc_if rfl (fun h1 => ?_) (fun h1 => ?_)
    · obtain ⟨u, hu⟩ : ∃ u, upC F x.vs = u + 2 := ⟨upC F x.vs - 2, by omega⟩
      obtain ⟨gA, hA⟩ := hb.ptr (by omega)
      have hle := hb.le
      have hd : (x.vs.drop (u + 1)).length = x.vs.length - (u + 1) := List.length_drop
      have hvw : ∀ {w' : World} {M : List Seg}, Res w (ids (chM g m n es clk)) w' M → ∀ [Has (chSg (s1 ++ x :: s2)) M], Vw [] w' (cutA x.A (u + 1) x.vs.length x.c 4) ((x.vs.drop (u + 1)).flatMap VerW.cells) := fun {w' M} hr _ => by
        have := vw_cut (l := u + 1) (h := x.vs.length) (c := x.c) (sz := 4) (hb.vwS hE hr) (by omega) (by rw [flat_len' (k := 4) (fun _ => rfl)]; exact Nat.le_refl _) (by omega)
        rw [flat_dt (f := VerW.cells) (k := 4) (fun _ => rfl), List.take_of_length_le (by omega)] at this
        exact this
      obtain ⟨e1, he1⟩ : ∃ e1 : Option Addr → Nat → Seg → ChE, e1 = fun A c E => ⟨x.key, A, c, x.vs.drop (u + 1), x.born, E⟩ := ⟨_, rfl⟩
      rw [hu]
      refine rSwN_0 ?_
      rw [show (gone : Int) + (((u + 2 : Nat) : Int) - 1) = ((gone + (x.vs.length - (x.vs.drop (u + 1)).length) : Nat) : Int) by omega]
      refine wc_heldX [] [stB g m n] rfl (by (repeat (first | exact panicNot_M2 rfl | exact panicNot_D3 rfl | with_reducible exact panicNot_of panicOk_body | with_reducible apply panicNot_block | with_reducible apply panicNot_then))) (fun hQd => ?_)
      refine tkX 0 rfl (v_move rfl) ?_
      refine tkX 1 rfl (v_nil rfl) ?_
      refine tkX 2 rfl (v_faddr rfl rfl) ?_
      refine tkX 3 rfl (v_ldT rfl rfl rfl (by rfl)) ?_
      refine tkX 4 rfl (v_move rfl) ?_
      refine tkX 5 rfl (v_move rfl) ?_
      refine tkX 6 rfl (v_move rfl) ?_
      refine tkX 7 rfl (v_sub1 (u + 1) rfl (by omega)) ?_
      refine tkX 8 rfl (v_sliceN (l := u + 1) (h := x.vs.length) (m := (x.vs.drop (u + 1)).length) rfl rfl (by rfl) rfl (by omega) (by omega) hd.symm) ?_
      refine efX 9 rfl ?_
      refine wl_callT (fun w' hr ho => chClone_spec (vs := x.vs.drop (u + 1)) (by omega) (fun e => by exfalso; unfold cutA at e; rw [hA] at e; split at e <;> simp at e) w' (hvw hr)) rfl rfl rfl ?_
      rintro ⟨A3, c3, E3⟩ hb3
      dsimp only at hb3 ⊢
      refine wx_cat ?_
      (try refine wx_nil ?_)
      refine hdX ?_
      refine efX 10 rfl ?_
      refine wl_mputK (κ := Value.string) (g := m) (L := chL (s1 ++ x :: s2)) (clk := clk) rfl (keyS rfl) hp.mok rfl rfl rfl ?_
      obtain ⟨q1, q2⟩ := ch_aput (e' := e1 A3 c3 E3) hp.mok (by rw [he1]) (by rw [he1])
      have q3 : aput x.key (.slice A3 (x.vs.drop (u + 1)).length c3) (chL (s1 ++ x :: s2)) clk = chL (s1 ++ e1 A3 c3 E3 :: s2) := by rw [q1, he1]
      rw [q3, q2]
      (try refine wx_nil ?_)
      refine hdX ?_
      refine wh_done (by decide +kernel) ?_
      refine rSwN_0 ?_
      refine wq_part (chSg s1) x.E (chSg s2) (chSg_split ..) ?_
      refine wq_join (chSg s1) E3 ?_
      refine wq_join (chSg s1 ++ E3) (chSg s2) ?_
      rw [show chSg s1 ++ E3 ++ chSg s2 = chSg (s1 ++ e1 A3 c3 E3 :: s2) by rw [chSg_split, he1]]
      have hst := hp.step hnb (e' := e1 A3 c3 E3) (by rw [he1]) (by rw [he1]) (by rw [he1, ← hc]; show x.vs.drop (u + 1) = prC F x.vs; unfold prC; rw [hu]; rfl) (by rw [he1]; exact hb3)
      have hsl := hst.len
      rw [List.length_map, List.length_append, List.length_singleton] at hsl
      refine wq_roundK ((D ++ [x.born], s1 ++ e1 A3 c3 E3 :: s2, gone + (x.vs.length - (x.vs.drop (u + 1)).length))) ?_ ?_ (by repeat (first | exact trivial | refine ⟨rfl, ?_⟩)) (by first | exact catEq | exact rfl)
      · have e2 : (e1 A3 c3 E3).vs = x.vs.drop (u + 1) := by rw [he1]
        rw [e2] at hst
        exact hst
      · dsimp only
        rw [List.length_append, List.length_singleton]
        omega
    · have hst := hp.step hnb (e' := x) rfl rfl (by rw [← hc]; unfold prC; rw [show upC F x.vs - 1 = 0 by omega]; rfl) hb
      have hsl := hst.len
      rw [List.length_map, List.length_append, List.length_singleton] at hsl
      rw [Nat.sub_self, Nat.add_zero] at hst
      refine rSwN_0 ?_
      refine wq_roundK ((D ++ [x.born], s1 ++ x :: s2, gone)) ?_ ?_ (by repeat (first | exact trivial | refine ⟨rfl, ?_⟩)) (by first | exact catEq | exact rfl)
      · exact hst
      · dsimp only
        rw [List.length_append, List.length_singleton]
        omega
end Go.Proofs.Ytlioccfedophhaa
/- The last write of a key among operations; a violation filled in. -/
set_option linter.unusedVariables false
set_option linter.unusedSimpArgs false
namespace Go.Proofs.Ytlioccfedophhaa
open Go
set_option maxRecDepth 20000
set_option maxHeartbeats 2000000
attribute [local irreducible] WX WC WQ Val VCall
theorem rSwP_0 {A B : Prop} (k : B) (h : Hold B → A := by intro k; (repeat (first | (apply wx_val; (first | exact v_move rfl | exact v_assign rfl | exact v_faddr rfl rfl | exact v_ldAT rfl (by rfl) | exact v_len rfl rfl | exact v_ne rfl rfl | exact v_ge rfl rfl | exact v_streq rfl rfl | exact v_subi rfl rfl (by omega) | exact v_pickT rfl rfl | exact v_pickF rfl rfl | exact v_iaddrE (by assumption) rfl rfl rfl (by omega)); rfl) | refine wx_no rfl rfl rfl ?_ | refine wx_ungd rfl rfl ?_ | refine wc_seq ?_ | refine wc_region ?_ | refine wx_nil ?_ | refine wq_next ?_ | refine wc_block ?_ | refine wc_ret ?_ | refine wc_skip ?_ | refine wc_exit ?_ | refine wq_then_ret ?_ | refine wq_then_exit ?_ | refine wq_block ?_ | refine wq_block_ret ?_ | refine wq_block_exit rfl ?_ | refine wq_setn ?_ | refine wc_condF rfl ?_ | refine wl_storeT rfl rfl rfl (by rfl) (by exact .inl (Nat.le_refl _)) rfl ?_ | refine wl_stAT rfl rfl (by rfl) (by rfl) (by exact .inl (Nat.le_refl _)) rfl ?_)); exact k.out) : A := h ⟨k⟩
def opZ : OpW := ⟨0, ⟨#[]⟩, false, ⟨#[]⟩⟩
theorem lastN_take (k : ByteArray) (l : List OpW) : ∀ (n j : Nat), n ≤ j → lastN k (l.take j) n = lastN k l n
  | 0, _, _ => rfl
  | n + 1, j, h => by
    unfold lastN
    rw [List.getElem?_take_of_lt (by omega), lastN_take k l n j (by omega)]
theorem lastN_step {k : ByteArray} {l : List OpW} {n : Nat} {o : OpW} (h : l[n]? = some o) : lastN k l (n + 1) = if o.kind ≠ 1 ∧ o.key = k then some o else lastN k l n := by
  conv => lhs; unfold lastN
  rw [h]
theorem written_spec {A : Option Addr} {c : Nat} {l : List OpW} (k : ByteArray) (hl : l.length ≤ 1048576) (w : World) (hv : Vw [] w A (l.flatMap OpW.cells)) :
    Calls Try.prog 53 #[.slice A l.length c, .string k] w (Ret (β := Unit) w (ids []) (fun _ => .tuple #[.agg ((lastN k l l.length).getD opZ).cells.toArray, .bool (lastN k l l.length).isSome]) (fun _ => []) (fun _ => True)) := by
  refine go [.slice A l.length c, .string k] [] Try.func53 Try.ntmps53 rfl rfl (own_nil w) ?_
  refine rSwP_0 ?_
  refine wl_alloc rfl rfl (fun g4 => ?_)
  refine rSwP_0 ?_
  refine wc_loopK (ι := Nat) [0, 1, 4, 5] (fun q => [(6, .int .i64 ((q : Nat) - 1))]) (fun q => []) (fun q => q ≤ l.length ∧ lastN k l l.length = lastN k l q) (fun q => q) (l.length) rfl ?_ (by repeat (first | exact trivial | refine ⟨rfl, ?_⟩)) ?_
  · exact ⟨Nat.le_refl _, rfl⟩
  rintro q ⟨h1, h2⟩
  try dsimp only
  refine wc_fcat ?_
  refine wc_cat ?_
  rw [h2]
  refine rSwP_0 ?_
  refine wc_if rfl (fun h3 => ?_) (fun h3 => ?_)
  · obtain ⟨n, rfl⟩ : ∃ n, q = n + 1 := ⟨q - 1, by omega⟩
    obtain ⟨o, ho⟩ : ∃ o, l[n]? = some o := ⟨l[n]'(by omega), List.getElem?_eq_getElem _⟩
    obtain ⟨gA, oA, hA, hca⟩ := hv.elZ (k := 4) (by decide) (fun _ => rfl) (by omega)
    rw [lastN_step ho] at h2 ⊢
    have ei : (((n + 1 : Nat) : Int) - 1) = (n : Nat) := by omega
    simp only [ei]
    refine rSwP_0 ?_
    (try refine wx_ungd rfl rfl ?_)
    apply wx_val
    exact v_load rfl rfl rfl (fun w' hr => hca ho hr (j := 0) rfl (by rw [Int.toNat_natCast]))
    rfl
    refine rSwP_0 ?_
    refine wx_gif rfl rfl (fun hk => ?_) (fun hk => ?_)
    · refine rSwP_0 ?_
      (try refine wx_ungd rfl rfl ?_)
      apply wx_val
      exact v_load rfl rfl rfl (fun w' hr => hca ho hr (j := 1) rfl (by rw [Int.toNat_natCast]))
      rfl
      refine rSwP_0 ?_
      refine wc_if rfl (fun hk2 => ?_) (fun hk2 => ?_)
      · rw [if_pos ⟨hk, hk2⟩]
        refine rSwP_0 ?_
        (try refine wx_ungd rfl rfl ?_)
        apply wx_val
        exact v_loadA (cs := o.cells) rfl rfl (fun w' hr j x hj => hca ho hr hj (by rw [Int.toNat_natCast]))
        rfl
        refine rSwP_0 ?_
        exact wq_retA2T (cs := o.cells) () rfl rfl rfl rfl rfl trivial rfl
      · rw [if_neg (fun e => hk2 e.2)] at h2 ⊢
        rw [← h2]
        refine rSwP_0 ?_
        refine wq_roundK (n) ?_ ?_ (by repeat (first | exact trivial | refine ⟨rfl, ?_⟩)) (by first | exact catEq | exact rfl)
        · exact ⟨by omega, h2⟩
        · omega
    · rw [if_neg (fun e => hk e.1)] at h2 ⊢
      rw [← h2]
      refine rSwP_0 ?_
      refine wq_roundK (n) ?_ ?_ (by repeat (first | exact trivial | refine ⟨rfl, ?_⟩)) (by first | exact catEq | exact rfl)
      · exact ⟨by omega, h2⟩
      · omega
  · obtain rfl : q = 0 := by omega
    have e : lastN k l 0 = none := rfl
    rw [e]
    refine rSwP_0 ?_
    (try refine wx_ungd rfl rfl ?_)
    apply wx_val
    exact v_build (cs := (opZ.cells).toArray) rfl (by kernel_rfl)
    rfl
    refine rSwP_0 ?_
    exact wq_retA2T (cs := opZ.cells) () rfl rfl rfl rfl rfl trivial rfl
theorem told_spec (v : ViolW) (b : Bool) (x : ByteArray) (o : OpW) (w : World) :
    Calls Try.prog 55 #[.agg v.cells.toArray, .bool b, .string x, .agg o.cells.toArray] w (Ret (β := Unit) w (ids []) (fun _ => .agg (ViolW.cells { v with want := b, expected := x, got := o.found, observed := o.value }).toArray) (fun _ => []) (fun _ => True)) := by
  refine go [.agg v.cells.toArray, .bool b, .string x, .agg o.cells.toArray] [] Try.func55 Try.ntmps55 rfl rfl (own_nil w) ?_
  refine rSwP_0 ?_
  refine wl_boxA rfl rfl (fun g4 => ?_)
  refine wl_boxA rfl rfl (fun g7 => ?_)
  refine wl_alloc rfl rfl (fun g8 => ?_)
  refine rSwP_0 ?_
  refine wc_heldN [] [[(g7, .cells o.cells.toArray 49 (0, 0))]] (fun hQd => ?_)
  refine tkX 0 rfl (v_move rfl) ?_
  refine tkX 1 rfl (v_move rfl) ?_
  refine tkX 2 rfl (v_faddr rfl rfl) ?_
  refine tkX 3 rfl (v_ldT rfl rfl rfl (by rfl)) ?_
  refine tkX 4 rfl (v_faddr rfl rfl) ?_
  refine tkX 5 rfl (v_ldT rfl rfl rfl (by rfl)) ?_
  refine tkX 6 rfl (v_faddr rfl rfl) ?_
  refine efX 7 rfl ?_
  refine rSwP_0 ?_
  (try refine wx_nil ?_)
  refine hdX ?_
  refine tkX 8 rfl (v_faddr rfl rfl) ?_
  refine efX 9 rfl ?_
  refine rSwP_0 ?_
  (try refine wx_nil ?_)
  refine hdX ?_
  refine tkX 10 rfl (v_faddr rfl rfl) ?_
  refine efX 11 rfl ?_
  refine rSwP_0 ?_
  (try refine wx_nil ?_)
  refine hdX ?_
  refine tkX 12 rfl (v_faddr rfl rfl) ?_
  refine efX 13 rfl ?_
  refine rSwP_0 ?_
  (try refine wx_nil ?_)
  refine hdX ?_
  refine wh_done (by decide +kernel) ?_
  refine wq_blk g4 (ViolW.cells { v with want := b, expected := x, got := o.found, observed := o.value }) rfl ?_
  refine wq_setn ?_
  refine rSwP_0 ?_
  exact wq_retAT (cs := ViolW.cells { v with want := b, expected := x, got := o.found, observed := o.value }) () rfl rfl rfl rfl trivial rfl
end Go.Proofs.Ytlioccfedophhaa
