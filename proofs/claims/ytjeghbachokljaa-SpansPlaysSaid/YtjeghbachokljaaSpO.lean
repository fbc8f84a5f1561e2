/- All spans of a forest in one list, in order: what is put in, what is taken out, what a key has. -/
import Derived.Test.YtjeghbachokljaaSpN
import Derived.Test.YtjeghbachokljaaSpS
set_option linter.unusedVariables false
set_option linter.unusedSimpArgs false
namespace Go.Proofs.Ytjeghbachokljaa
open Go
set_option maxRecDepth 20000
set_option maxHeartbeats 1000000
abbrev Ks := List (ByteArray × Sp)
def ofK (k : ByteArray) (A : Ks) : List Sp := (A.filter (fun e => decide (e.1 = k))).map Prod.snd
def insAll (e : ByteArray × Sp) : Ks → Ks
  | [] => [e]
  | x :: r => if cmpS e.2 x.2 < 0 then e :: x :: r else x :: insAll e r
def delAll (e : ByteArray × Sp) (A : Ks) : Ks := A.filter (fun x => decide (x ≠ e))
structure AOk (A : Ks) : Prop where
  srt : A.Pairwise (fun x y => ¬ ltS y.2 x.2)
  nd : A.Nodup
theorem mem_ofK {k : ByteArray} {A : Ks} {s : Sp} : s ∈ ofK k A ↔ (k, s) ∈ A := by
  unfold ofK
  constructor
  · intro h
    obtain ⟨⟨k', s'⟩, h1, rfl⟩ := List.mem_map.1 h
    have := List.mem_filter.1 h1
    have e : k' = k := by simpa using this.2
    exact e ▸ this.1
  · intro h
    exact List.mem_map.2 ⟨(k, s), List.mem_filter.2 ⟨h, by simp⟩, rfl⟩
theorem ofK_len (k : ByteArray) (A : Ks) : (ofK k A).length ≤ A.length := by
  unfold ofK
  rw [List.length_map]
  exact List.length_filter_le _ _
theorem insAll_perm (e : ByteArray × Sp) : ∀ A : Ks, (insAll e A).Perm (e :: A)
  | [] => List.Perm.refl _
  | x :: r => by
    unfold insAll
    split
    · exact List.Perm.refl _
    · exact ((insAll_perm e r).cons x).trans (List.Perm.swap ..)
theorem insAll_len (e : ByteArray × Sp) (A : Ks) : (insAll e A).length = A.length + 1 := by rw [(insAll_perm e A).length_eq]; rfl
theorem ncmp {s t : Sp} : ¬ cmpS s t < 0 ↔ ¬ ltS s t := ⟨fun h h2 => h (lt_cmp h2), fun h h2 => h (cmp_lt h2)⟩
theorem ltS_mid {s t u : Sp} (h1 : ltS s t) (h2 : ¬ ltS u t) : ltS s u := by unfold ltS at *; omega
theorem nlt_trans {s t u : Sp} (h1 : ¬ ltS t s) (h2 : ¬ ltS u t) : ¬ ltS u s := by unfold ltS at *; omega
theorem insAll_ok {e : ByteArray × Sp} : ∀ {A : Ks}, AOk A → e ∉ A → AOk (insAll e A) := fun {A} h he => by
  refine ⟨?_, (insAll_perm e A).nodup_iff.2 (List.nodup_cons.2 ⟨he, h.nd⟩)⟩
  have hs := h.srt
  clear h he
  induction A with
  | nil => exact List.pairwise_singleton ..
  | cons x r ih =>
    obtain ⟨h1, h2⟩ := List.pairwise_cons.1 hs
    unfold insAll
    by_cases hc : cmpS e.2 x.2 < 0
    · rw [if_pos hc]
      have hl := cmp_lt hc
      refine List.pairwise_cons.2 ⟨fun y hy h3 => ?_, hs⟩
      rcases List.mem_cons.1 hy with rfl | hy
      · exact ltS_asym hl h3
      · exact ltS_asym (ltS_mid hl (h1 y hy)) h3
    · rw [if_neg hc]
      refine List.pairwise_cons.2 ⟨fun y hy => ?_, ih h2⟩
      rcases List.mem_cons.1 ((insAll_perm e r).mem_iff.1 hy) with rfl | hy
      · exact ncmp.1 hc
      · exact h1 y hy
theorem ofK_cons {k : ByteArray} {x : ByteArray × Sp} {r : Ks} : ofK k (x :: r) = if x.1 = k then x.2 :: ofK k r else ofK k r := by
  unfold ofK
  by_cases h : x.1 = k
  · rw [List.filter_cons_of_pos (by simpa using h), if_pos h]; rfl
  · rw [List.filter_cons_of_neg (by simpa using h), if_neg h]
theorem insL_front {s : Sp} : ∀ {l : List Sp}, (∀ x ∈ l, ltS s x) → insL s l = s :: l
  | [], _ => rfl
  | x :: r, h => by
    unfold insL
    rw [if_pos (lt_cmp (h x (List.mem_cons_self ..)))]
theorem ofK_ins {k : ByteArray} {s : Sp} : ∀ {A : Ks}, A.Pairwise (fun x y => ¬ ltS y.2 x.2) → ∀ k', ofK k' (insAll (k, s) A) = if k' = k then insL s (ofK k A) else ofK k' A
  | [], _, k' => by
    unfold insAll
    rw [ofK_cons]
    by_cases h : k' = k
    · rw [if_pos h.symm, if_pos h, h]; rfl
    · rw [if_neg (fun e => h e.symm), if_neg h]
  | x :: r, hs, k' => by
    obtain ⟨h1, h2⟩ := List.pairwise_cons.1 hs
    have ih := ofK_ins (k := k) (s := s) h2
    unfold insAll
    by_cases hc : cmpS s x.2 < 0
    · rw [if_pos hc, ofK_cons]
      by_cases h : k' = k
      · subst h
        rw [if_pos rfl, if_pos rfl]
        refine (insL_front fun y hy => ?_).symm
        have hl := cmp_lt hc
        rcases List.mem_cons.1 (mem_ofK.1 hy) with e | hm
        · rw [show y = x.2 from by rw [← e]]; exact hl
        · exact ltS_mid hl (h1 _ hm)
      · rw [if_neg (fun e => h e.symm), if_neg h]
    · rw [if_neg hc, ofK_cons, ih k', ofK_cons (k := k), ofK_cons (k := k')]
      by_cases h : k' = k
      · subst h
        rw [if_pos rfl, if_pos rfl]
        by_cases hx : x.1 = k'
        · rw [if_pos hx, if_pos hx]
          show _ = insL s (x.2 :: _)
          rw [insL, if_neg hc]
        · rw [if_neg hx, if_neg hx]
      · rw [if_neg h, if_neg h]
theorem delAll_ok {e : ByteArray × Sp} {A : Ks} (h : AOk A) : AOk (delAll e A) := ⟨h.srt.filter _, h.nd.filter _⟩
theorem delAll_none {e : ByteArray × Sp} {A : Ks} (h : e ∉ A) : delAll e A = A := List.filter_eq_self.2 fun x hx => by
  have : x ≠ e := fun e2 => h (e2 ▸ hx)
  simpa using this
theorem delAll_len {e : ByteArray × Sp} : ∀ {A : Ks}, A.Nodup → e ∈ A → (delAll e A).length + 1 = A.length
  | [], _, h => by cases h
  | x :: r, hn, h => by
    obtain ⟨h1, h2⟩ := List.nodup_cons.1 hn
    by_cases hx : x = e
    · subst hx
      have : delAll x (x :: r) = delAll x r := List.filter_cons_of_neg (by simp)
      rw [this, delAll_none h1]
      rfl
    · have : delAll e (x :: r) = x :: delAll e r := List.filter_cons_of_pos (by simpa using hx)
      rw [this]
      have := delAll_len h2 ((List.mem_cons.1 h).resolve_left fun e2 => hx e2.symm)
      simp only [List.length_cons]
      omega
theorem ofK_del {k : ByteArray} {s : Sp} : ∀ {A : Ks} (k' : ByteArray), ofK k' (delAll (k, s) A) = if k' = k then (ofK k A).filter (fun x => decide (x ≠ s)) else ofK k' A
  | [], k' => by simp [delAll, ofK]
  | x :: r, k' => by
    have ih := ofK_del (k := k) (s := s) (A := r) k'
    by_cases hx : x = (k, s)
    · subst hx
      have : delAll (k, s) ((k, s) :: r) = delAll (k, s) r := List.filter_cons_of_neg (by simp)
      rw [this, ih, ofK_cons, ofK_cons, if_pos rfl]
      by_cases h : k' = k
      · rw [if_pos h, if_pos h, List.filter_cons_of_neg (by simp)]
      · rw [if_neg h, if_neg h, if_neg (fun e => h e.symm)]
    · have : delAll (k, s) (x :: r) = x :: delAll (k, s) r := List.filter_cons_of_pos (by simpa using hx)
      rw [this, ofK_cons, ih, ofK_cons, ofK_cons]
      by_cases h : k' = k
      · subst h
        rw [if_pos rfl, if_pos rfl]
        by_cases hk : x.1 = k'
        · have hs : x.2 ≠ s := fun e => hx (Prod.ext hk e)
          rw [if_pos hk, if_pos hk, List.filter_cons_of_pos (by simpa using hs)]
        · rw [if_neg hk, if_neg hk]
      · rw [if_neg h, if_neg h]
theorem mem_hasT {s : Sp} : ∀ {t : Tr}, Srt t → s ∈ toL t → hasT t s = true
  | .nil, _, h => by cases h
  | .node i l s0 r hh ff, hs, hm => by
    obtain ⟨s1, s2, s3, s4⟩ := hs.node
    unfold hasT
    rcases cmp_cases s s0 with h | h | h
    · rw [if_neg (by omega), if_pos h.1]
      exact mem_hasT s1 (mem_left hs hm h.1)
    · rw [if_pos h.1]
    · rw [if_neg (by omega), if_neg (by omega)]
      exact mem_hasT s2 (mem_right hs hm h.1)
theorem toL_node {i : Nat} {l r : Tr} {s : Sp} {h f : Int} : toL (.node i l s r h f) = toL l ++ s :: toL r := rfl
def ovQ (lo hi : Int) (l : List Sp) : List Sp := l.filter (fun s => decide (s.a < hi ∧ lo < s.b))
theorem overT_eq (lo hi : Int) : ∀ {t : Tr}, Avl t → Srt t → overT lo hi t = ovQ lo hi (toL t)
  | .nil, _, _ => rfl
  | .node i l s r h f, ha, hs => by
    obtain ⟨a1, a2, a3, a4, a5⟩ := ha
    obtain ⟨s1, s2, s3, s4⟩ := hs.node
    have i1 := overT_eq lo hi a1 s1
    have i2 := overT_eq lo hi a2 s2
    unfold overT
    by_cases h1 : f ≤ lo
    · rw [if_pos h1]
      refine (List.filter_eq_nil_iff.2 fun x hx => ?_).symm
      have : x.b ≤ f := a5 x hx
      simp; intros; omega
    · rw [if_neg h1, i1, i2]
      rw [toL_node]
      unfold ovQ
      rw [List.filter_append]
      congr 1
      by_cases h2 : hi ≤ s.a
      · rw [if_pos h2]
        refine (List.filter_eq_nil_iff.2 fun x hx => ?_).symm
        have : s.a ≤ x.a := by
          rcases List.mem_cons.1 hx with rfl | hx
          · exact Int.le_refl _
          · have := s4 x hx
            unfold ltS at this
            omega
        simp; intros; omega
      · rw [if_neg h2]
        by_cases h3 : lo < s.b
        · rw [if_pos h3, List.filter_cons_of_pos (by simp; omega)]; rfl
        · rw [if_neg h3, List.filter_cons_of_neg (by simp; omega)]; rfl
/-- what an AVL tree of a height must hold: the least, and the most -/
def fibA : Nat → Nat
  | 0 => 0
  | 1 => 1
  | n + 2 => fibA n + fibA (n + 1) + 1
theorem fibA_mono : ∀ n, fibA n ≤ fibA (n + 1)
  | 0 => by decide
  | 1 => by decide
  | n + 2 => by
    show fibA (n + 2) ≤ fibA (n + 1) + fibA (n + 2) + 1
    omega
theorem Avl.count : ∀ {t : Tr} (n : Nat), Avl t → t.hh = n → fibA n ≤ t.size ∧ t.size < 2 ^ n
  | .nil, n, _, h => by
    have : n = 0 := by have := hh_nil; omega
    subst this
    exact ⟨Nat.le_refl _, by decide⟩
  | .node i l s r hh f, n, ha, h => by
    obtain ⟨a1, a2, a3, a4, a5⟩ := ha
    rw [hh_node] at h
    have p1 := a1.pos
    have p2 := a2.pos
    have m := maxI_c l.hh r.hh
    obtain ⟨x, hx⟩ := Int.eq_ofNat_of_zero_le p1.1
    obtain ⟨y, hy⟩ := Int.eq_ofNat_of_zero_le p2.1
    have c1 := Avl.count x a1 hx
    have c2 := Avl.count y a2 hy
    have hn : n = 1 + x ∨ n = 1 + y := by omega
    have e1 : (Tr.node i l s r hh f).size = l.size + r.size + 1 := rfl
    rw [e1]
    have hp : ∀ a b : Nat, a ≤ b → 2 ^ a ≤ 2 ^ b := fun a b h => Nat.pow_le_pow_right (by decide) h
    rcases (show (n = x + 1 ∧ y = x) ∨ (n = x + 1 ∧ x = y + 1) ∨ (n = y + 1 ∧ y = x + 1) by omega) with ⟨e, e2⟩ | ⟨e, e2⟩ | ⟨e, e2⟩
    · subst e e2
      have := Nat.pow_succ 2 y
      refine ⟨?_, by omega⟩
      cases y with
      | zero => show 1 ≤ _; omega
      | succ z =>
        have := fibA_mono z
        show fibA z + fibA (z + 1) + 1 ≤ _
        omega
    · subst e e2
      have := Nat.pow_succ 2 (y + 1)
      have := hp y (y + 1) (by omega)
      refine ⟨?_, by omega⟩
      show fibA y + fibA (y + 1) + 1 ≤ _
      omega
    · subst e e2
      have := Nat.pow_succ 2 (x + 1)
      have := hp x (x + 1) (by omega)
      refine ⟨?_, by omega⟩
      show fibA x + fibA (x + 1) + 1 ≤ _
      omega
end Go.Proofs.Ytjeghbachokljaa
