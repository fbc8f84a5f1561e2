/- A forest by what it holds: New, Insert, Remove, Overlap, First, Count, Height by the list of all spans. -/
import Derived.Test.YtjeghbachokljaaSpO
import Derived.Test.YtjeghbachokljaaSpU
import Derived.Test.YtjeghbachokljaaSpJ
set_option linter.unusedVariables false
set_option linter.unusedSimpArgs false
namespace Go.Proofs.Ytjeghbachokljaa
open Go
set_option maxRecDepth 20000
set_option maxHeartbeats 2000000
attribute [local irreducible] WX WC WQ Val VCall WY WR
theorem call_conv {P : Program} {F : FuncId} {args : Array Value} {w : World} {β γ : Type} {M N : List Seg} {val : β → Value} {val' : γ → Value} {MM : β → List Seg} {NN : γ → List Seg} {φ : β → Prop} {φ' : γ → Prop} (L : List Seg) (hP : N.flatten.Perm (M ++ L).flatten) (ho : Own w N)
    (h : Own w M → Calls P F args w (Ret w (ids M) val MM φ)) (hf : ∀ x, φ x → ∃ z, val x = val' z ∧ (MM x ++ L).flatten.Perm (NN z).flatten ∧ φ' z) : Calls P F args w (Ret w (ids N) val' NN φ') := by
  have h1 : Own w (M ++ L) := ho.flatP hP
  refine Calls.mono' (h h1.left) fun e w' ⟨x, hx, he, hr⟩ => ?_
  obtain ⟨z, a, b, c⟩ := hf x hx
  exact ⟨z, c, by rw [he, a], (((Res.refl h1).call hr).flatP b).xs (ids_flat hP.symm)⟩
structure Fo where
  y : Fa
  N : List Nd
  sp : List Nat
  E : Seg
  Es : Seg
  L : TE ByteArray
  clk : Nat
  T : ByteArray → Tr
def Fo.seg (g : Nat) (q : Fo) (n : Nat) : Seg := (fsN g q.y q.N q.sp (n : Int) q.E q.Es q.L q.clk).flatten
structure FoOk (m : Nat) (A : Ks) (q : Fo) : Prop where
  fs : FsO q.N q.sp q.y q.E q.Es
  ok : AOk A
  at_ : ∀ k, At q.N (q.T k)
  avl : ∀ k, Avl (q.T k)
  root : ∀ k, RootAt q.L k (q.T k)
  cont : ∀ k, toL (q.T k) = ofK k A
  z : nd q.N 0 = Nd.zero
  nd : ∀ k, (q.T k).ids.Nodup
  dj : ∀ k k', k ≠ k' → ∀ j ∈ (q.T k).ids, j ∉ (q.T k').ids
  spd : q.sp.Nodup
  sp0 : ∀ j ∈ q.sp, 0 < j ∧ j < q.N.length
  spt : ∀ k, ∀ j ∈ (q.T k).ids, j ∉ q.sp
  mok : MapOk q.L q.clk
  len : q.N.length = 1 + A.length + q.sp.length
  nm : q.N.length ≤ m + 1
theorem AOk.srtK {A : Ks} (h : AOk A) (k : ByteArray) : (ofK k A).Pairwise ltS := by
  have h1 := h.srt
  have h2 := h.nd
  clear h
  induction A with
  | nil => exact List.Pairwise.nil
  | cons x r ih =>
    obtain ⟨a1, a2⟩ := List.pairwise_cons.1 h1
    obtain ⟨b1, b2⟩ := List.nodup_cons.1 h2
    rw [ofK_cons]
    split
    · rename_i hx
      refine List.pairwise_cons.2 ⟨fun y hy => ?_, ih a2 b2⟩
      have hm := mem_ofK.1 hy
      rcases cmp_cases x.2 y with h | h | h
      · exact h.2
      · exact absurd (show x ∈ r from by rw [show x = (k, y) from Prod.ext hx h.2]; exact hm) b1
      · exact absurd h.2 (a1 _ hm)
    · exact ih a2 b2
def hasA (e : ByteArray × Sp) (A : Ks) : Bool := A.any (fun x => decide (x = e))
theorem hasA_iff {e : ByteArray × Sp} {A : Ks} : hasA e A = true ↔ e ∈ A := by
  unfold hasA
  rw [List.any_eq_true]
  constructor
  · rintro ⟨x, h1, h2⟩
    exact of_decide_eq_true h2 ▸ h1
  · exact fun h => ⟨e, h, decide_eq_true rfl⟩
theorem hasA_no {e : ByteArray × Sp} {A : Ks} : hasA e A = false ↔ e ∉ A := by
  rw [← hasA_iff]
  cases hasA e A <;> simp
section
variable {m : Nat} {A : Ks} {q : Fo} {g : Nat}
theorem FoOk.srt (h : FoOk m A q) (k : ByteArray) : Srt (q.T k) := by
  unfold Srt
  rw [h.cont]
  exact h.ok.srtK k
theorem FoOk.size (h : FoOk m A q) (k : ByteArray) : (q.T k).size = (ofK k A).length := by rw [← toL_size, h.cont]
theorem FoOk.lens (h : FoOk m A q) : A.length ≤ m ∧ q.sp.length ≤ m ∧ ∀ k, (q.T k).size ≤ m := by
  have h1 := h.len
  have h2 := h.nm
  refine ⟨by omega, by omega, fun k => ?_⟩
  rw [h.size]
  have := ofK_len k A
  omega
theorem FoOk.has (h : FoOk m A q) (k : ByteArray) (s : Sp) : hasT (q.T k) s = hasA (k, s) A := by
  cases e : hasA (k, s) A with
  | true => exact mem_hasT (h.srt k) (by rw [h.cont]; exact mem_ofK.2 (hasA_iff.1 e))
  | false =>
    cases e2 : hasT (q.T k) s with
    | false => rfl
    | true =>
      have := hasT_mem e2
      rw [h.cont] at this
      rw [hasA_iff.2 (mem_ofK.1 this)] at e
      cases e
theorem FoOk.newI (h : FoOk m A q) : 0 < newI q.N q.sp ∧ (∀ k, newI q.N q.sp ∉ (q.T k).ids) ∧ newI q.N q.sp ∉ q.sp.dropLast := by
  have hp := h.fs.inb.pos
  by_cases hs : q.sp = []
  · have e : Go.Proofs.Ytjeghbachokljaa.newI q.N q.sp = q.N.length := by rw [hs]; rfl
    rw [e, hs]
    refine ⟨hp, fun k hm => ?_, by simp⟩
    have := (h.at_ k).lt _ hm
    omega
  · obtain ⟨r, i, hr⟩ := spare_last hs
    have e : Go.Proofs.Ytjeghbachokljaa.newI q.N q.sp = i := by rw [hr]; simp [Go.Proofs.Ytjeghbachokljaa.newI]
    have hi : i ∈ q.sp := by rw [hr]; simp
    rw [e]
    refine ⟨(h.sp0 i hi).1, fun k hm => h.spt k i hm hi, ?_⟩
    have := h.spd
    rw [hr] at this ⊢
    rw [List.dropLast_concat]
    exact fun hm => (List.nodup_append.1 this).2.2 i hm i (by simp) rfl
theorem leafN_len2 (N : List Nd) (sp : List Nat) (s : Sp) : (leafN N sp s).length + sp.length = N.length + 1 + sp.dropLast.length := by
  unfold leafN
  by_cases h : sp = []
  · rw [if_pos h, h]; simp
  · obtain ⟨r, i, rfl⟩ := spare_last h
    rw [if_neg h]; simp; omega
def insN (k : ByteArray) (s : Sp) (A : Ks) : Ks := if insCode k s (hasA (k, s) A) = 0 then insAll (k, s) A else A
theorem FoOk.ins (h : FoOk m A q) (k : ByteArray) (s : Sp) (hm : m ≤ 900000000000) (he : (k, s) ∉ A) {y' : Fa} {E' Es' : Seg} (hf : InsO q.N (insA (q.T k) q.N q.sp s).2.1 (insA (q.T k) q.N q.sp s).2.2 (insA (q.T k) q.N q.sp s).1 q.y (y', E', Es')) :
    ∃ T', FoOk (m + 1) (insAll (k, s) A) ⟨y', (insA (q.T k) q.N q.sp s).2.1, (insA (q.T k) q.N q.sp s).2.2, E', Es', aput k (.int .i64 ((insA (q.T k) q.N q.sp s).1 : Nat)) q.L q.clk, aclk k q.L q.clk, T'⟩ := by
  have hp := h.fs.inb.pos
  have hl := h.lens
  obtain ⟨n0, n1, n2⟩ := h.newI
  have hll := leafN_len2 q.N q.sp s
  have hlb := leafN_len q.N q.sp s
  obtain ⟨t', q1, q2, q3, q4, q5, q6, q7, q8, q9⟩ := ins_law s q.N q.sp h.sp0 hp (q.T k) h.z (h.at_ k) (h.avl k) (h.nd k) (h.srt k) (n1 k) (by have := hl.2.2 k; omega)
  have hdl : ∀ j ∈ q.sp.dropLast, j ∈ q.sp := fun j hj => List.dropLast_subset _ hj
  refine ⟨fun k' => if k' = k then t' else q.T k', hf.1, insAll_ok h.ok he, fun k' => ?_, fun k' => ?_, fun k' => ?_, fun k' => ?_, ?_, fun k' => ?_, fun k1 k2 hne j => ?_, ?_, ?_, fun k' j => ?_, h.mok.put _ _, ?_, ?_⟩
  all_goals dsimp only
  · by_cases hk : k' = k
    · rw [if_pos hk]; exact q2
    · rw [if_neg hk]
      refine (h.at_ k').congr hf.2.2.2 fun j hj => q7 j fun hm2 => ?_
      rcases List.mem_cons.1 hm2 with e | hm2
      · exact n1 k' (e ▸ hj)
      · exact h.dj k' k hk j hj hm2
  · by_cases hk : k' = k
    · rw [if_pos hk]; exact q3
    · rw [if_neg hk]; exact h.avl k'
  · unfold RootAt
    rw [aget_put]
    by_cases hk : k' = k
    · rw [if_pos hk, if_pos hk, q1]; rfl
    · rw [if_neg hk, if_neg hk]; exact h.root k'
  · rw [ofK_ins h.ok.srt]
    by_cases hk : k' = k
    · rw [if_pos hk, if_pos hk, q4, h.cont]
    · rw [if_neg hk, if_neg hk, h.cont]
  · rw [q7 0 fun hm2 => ?_]
    · exact h.z
    · rcases List.mem_cons.1 hm2 with e | hm2
      · omega
      · have := (h.at_ k).lt 0 hm2
        omega
  · by_cases hk : k' = k
    · rw [if_pos hk]
      exact q5.nodup_iff.2 (List.nodup_cons.2 ⟨n1 k, h.nd k⟩)
    · rw [if_neg hk]; exact h.nd k'
  · by_cases h1 : k1 = k
    · have h2 : k2 ≠ k := fun e => hne (h1.trans e.symm)
      rw [if_pos h1, if_neg h2]
      intro hj
      rcases List.mem_cons.1 (q5.mem_iff.1 hj) with rfl | hj
      · exact n1 k2
      · exact h.dj k k2 (fun e => h2 e.symm) j hj
    · rw [if_neg h1]
      intro hj
      by_cases h2 : k2 = k
      · rw [if_pos h2]
        intro hm2
        rcases List.mem_cons.1 (q5.mem_iff.1 hm2) with rfl | hm2
        · exact n1 k1 hj
        · exact h.dj k1 k h1 j hj hm2
      · rw [if_neg h2]
        exact h.dj k1 k2 hne j hj
  · rw [q8]
    exact h.spd.sublist (List.dropLast_sublist _)
  · rw [q8, q9]
    exact fun j hj => ⟨(h.sp0 j (hdl j hj)).1, by have := (h.sp0 j (hdl j hj)).2; omega⟩
  · rw [q8]
    intro hj
    by_cases hk : k' = k
    · rw [if_pos hk] at hj
      rcases List.mem_cons.1 (q5.mem_iff.1 hj) with rfl | hj
      · exact n2
      · exact fun hm2 => h.spt k j hj (hdl j hm2)
    · rw [if_neg hk] at hj
      exact fun hm2 => h.spt k' j hj (hdl j hm2)
  · rw [q8, q9, insAll_len]
    have := h.len
    omega
  · rw [q9]
    have := h.nm
    omega
theorem FoOk.up (h : FoOk m A q) {m' : Nat} (hm : m ≤ m') : FoOk m' A q := ⟨h.fs, h.ok, h.at_, h.avl, h.root, h.cont, h.z, h.nd, h.dj, h.spd, h.sp0, h.spt, h.mok, h.len, Nat.le_trans h.nm (by omega)⟩
theorem seg_perm {M : List Seg} : [M.flatten].flatten.Perm M.flatten := by simp
theorem Insert_law (k : ByteArray) (s : Sp) (h : FoOk m A q) (hm : m ≤ 900000000000) (w : World) (ho : Own w [q.seg g A.length]) :
    Calls Try.prog 12 #[.pointer (some ⟨g, 0, none⟩), .string k, .agg s.cells.toArray] w (Ret (β := Fo) w (ids [q.seg g A.length]) (fun _ => .int .i64 (insCode k s (hasA (k, s) A))) (fun q' => [q'.seg g (insN k s A).length]) (fun q' => FoOk (m + 1) (insN k s A) q')) := by
  have hl := h.lens
  have hh := h.has k s
  by_cases hc : insCode k s (hasA (k, s) A) = 0
  · have he : (k, s) ∉ A := by
      rw [← hasA_no]
      cases e : hasA (k, s) A with
      | false => rfl
      | true =>
        rw [e] at hc
        unfold insCode at hc
        split at hc
        · omega
        · split at hc
          · omega
          · exact absurd hc (by decide)
    have eN : insN k s A = insAll (k, s) A := if_pos hc
    rw [eN, hc]
    refine call_conv (γ := Fo) [] (M := fsN g q.y q.N q.sp A.length q.E q.Es q.L q.clk) (by rw [List.append_nil]; exact seg_perm) ho (fun ho => insert_ok k s h.fs (h.at_ k) (h.root k) h.mok (by have := h.nm; omega) (by omega) (by rw [hh]; exact hc) w ho) ?_
    rintro ⟨y', E', Es'⟩ hx
    obtain ⟨T', hT⟩ := h.ins k s hm he hx
    refine ⟨_, rfl, ?_, hT⟩
    rw [List.append_nil, insAll_len]
    exact seg_perm.symm
  · have eN : insN k s A = A := if_neg hc
    rw [eN]
    refine call_conv (γ := Fo) [] (M := fsN g q.y q.N q.sp A.length q.E q.Es q.L q.clk) (by rw [List.append_nil]; exact seg_perm) ho (fun ho => insert_no k s h.fs (h.at_ k) (h.root k) (by rw [hh]; exact hc) w ho) ?_
    rintro x hx
    refine ⟨q, by rw [hh], ?_, h.up (by omega)⟩
    rw [List.append_nil]
    exact seg_perm.symm
theorem FoOk.rem (h : FoOk m A q) (k : ByteArray) (s : Sp) (hm : m ≤ 900000000000) (he : (k, s) ∈ A) {y' : Fa} {E' Es' : Seg} (hf : RemO q.N (remA (q.T k) q.N q.sp s).2.1 (remA (q.T k) q.N q.sp s).2.2 (remA (q.T k) q.N q.sp s).1 q.y (y', E', Es')) :
    ∃ T', FoOk m (delAll (k, s) A) ⟨y', (remA (q.T k) q.N q.sp s).2.1, (remA (q.T k) q.N q.sp s).2.2, E', Es', mapRem k (remA (q.T k) q.N q.sp s).1 q.L q.clk, aclk k q.L q.clk, T'⟩ := by
  have hp := h.fs.inb.pos
  have hl := h.lens
  obtain ⟨t', p, q1, q2, q3, q4, q5, q6, q7, q8, q9⟩ := rem_law (q.T k) (s := s) (N := q.N) (sp := q.sp) h.z (h.at_ k) (h.avl k) (h.nd k) (h.srt k) (by rw [h.cont]; exact mem_ofK.2 he) (by have := hl.2.2 k; omega)
  have hpk : p ∈ (q.T k).ids := q5.mem_iff.2 (List.mem_cons_self ..)
  have hsub : ∀ j ∈ t'.ids, j ∈ (q.T k).ids := fun j hj => q5.mem_iff.2 (List.mem_cons_of_mem _ hj)
  have hnp := List.nodup_cons.1 (q5.nodup_iff.1 (h.nd k))
  have hpl := (h.at_ k).lt p hpk
  refine ⟨fun k' => if k' = k then t' else q.T k', hf.1, delAll_ok h.ok, fun k' => ?_, fun k' => ?_, fun k' => ?_, fun k' => ?_, ?_, fun k' => ?_, fun k1 k2 hne j => ?_, ?_, ?_, fun k' j => ?_, ?_, ?_, ?_⟩
  all_goals dsimp only
  · by_cases hk : k' = k
    · rw [if_pos hk]; exact q2
    · rw [if_neg hk]
      exact (h.at_ k').congr (by rw [q9]; exact Nat.le_refl _) fun j hj => q7 j fun hm2 => h.dj k' k hk j hj hm2
  · by_cases hk : k' = k
    · rw [if_pos hk]; exact q3
    · rw [if_neg hk]; exact h.avl k'
  · unfold RootAt mapRem
    by_cases h0 : (remA (q.T k) q.N q.sp s).1 = 0
    · rw [if_pos h0, aget_del]
      by_cases hk : k' = k
      · rw [if_pos hk, if_pos hk, ← q1, h0]; rfl
      · rw [if_neg hk, if_neg hk, aget_put, if_neg hk]; exact h.root k'
    · rw [if_neg h0, aget_put]
      by_cases hk : k' = k
      · rw [if_pos hk, if_pos hk, q1]; rfl
      · rw [if_neg hk, if_neg hk]; exact h.root k'
  · rw [ofK_del]
    by_cases hk : k' = k
    · rw [if_pos hk, if_pos hk, q4, h.cont]
    · rw [if_neg hk, if_neg hk, h.cont]
  · rw [q7 0 fun hm2 => ?_]
    · exact h.z
    · have := (h.at_ k).lt 0 hm2
      omega
  · by_cases hk : k' = k
    · rw [if_pos hk]; exact hnp.2
    · rw [if_neg hk]; exact h.nd k'
  · by_cases h1 : k1 = k
    · have h2 : k2 ≠ k := fun e => hne (h1.trans e.symm)
      rw [if_pos h1, if_neg h2]
      exact fun hj => h.dj k k2 (fun e => h2 e.symm) j (hsub j hj)
    · rw [if_neg h1]
      intro hj
      by_cases h2 : k2 = k
      · rw [if_pos h2]
        exact fun hm2 => h.dj k1 k h1 j hj (hsub j hm2)
      · rw [if_neg h2]
        exact h.dj k1 k2 hne j hj
  · rw [q8]
    refine List.nodup_append.2 ⟨h.spd, by simp, fun a ha b hb e => ?_⟩
    rw [List.mem_singleton.1 hb] at e
    exact h.spt k p hpk (e ▸ ha)
  · rw [q8, q9]
    intro j hj
    rcases List.mem_append.1 hj with hj | hj
    · exact h.sp0 j hj
    · rw [List.mem_singleton.1 hj]; exact hpl
  · rw [q8]
    intro hj hm2
    by_cases hk : k' = k
    · rw [if_pos hk] at hj
      rcases List.mem_append.1 hm2 with hm2 | hm2
      · exact h.spt k j (hsub j hj) hm2
      · rw [List.mem_singleton.1 hm2] at hj
        exact hnp.1 hj
    · rw [if_neg hk] at hj
      rcases List.mem_append.1 hm2 with hm2 | hm2
      · exact h.spt k' j hj hm2
      · rw [List.mem_singleton.1 hm2] at hj
        exact h.dj k' k hk p hj hpk
  · unfold mapRem
    split
    · exact (h.mok.put _ _).del _
    · exact h.mok.put _ _
  · rw [q8, q9, List.length_append]
    have := h.len
    have := delAll_len h.ok.nd he
    simp only [List.length_singleton]
    omega
  · rw [q9]
    exact h.nm
theorem Remove_law (k : ByteArray) (s : Sp) (h : FoOk m A q) (hm : m ≤ 900000000000) (w : World) (ho : Own w [q.seg g A.length]) :
    Calls Try.prog 17 #[.pointer (some ⟨g, 0, none⟩), .string k, .agg s.cells.toArray] w (Ret (β := Fo) w (ids [q.seg g A.length]) (fun _ => .bool (hasA (k, s) A)) (fun q' => [q'.seg g (delAll (k, s) A).length]) (fun q' => FoOk m (delAll (k, s) A) q')) := by
  have hl := h.lens
  have hh := h.has k s
  cases hc : hasA (k, s) A with
  | true =>
    have he := hasA_iff.1 hc
    have hdl := delAll_len h.ok.nd he
    refine call_conv (γ := Fo) [] (M := fsN g q.y q.N q.sp A.length q.E q.Es q.L q.clk) (by rw [List.append_nil]; exact seg_perm) ho (fun ho => remove_ok k s h.fs (h.at_ k) (h.srt k) (h.root k) h.mok (by have := h.nm; omega) (by omega) (by omega) (by rw [hh]; exact hc) w ho) ?_
    rintro ⟨y', E', Es'⟩ hx
    obtain ⟨T', hT⟩ := h.rem k s hm he hx
    refine ⟨_, rfl, ?_, hT⟩
    rw [List.append_nil, show ((A.length : Nat) : Int) - 1 = ((delAll (k, s) A).length : Nat) by omega]
    exact seg_perm.symm
  | false =>
    rw [delAll_none (hasA_no.1 hc)]
    refine call_conv (γ := Fo) [] (M := fsN g q.y q.N q.sp A.length q.E q.Es q.L q.clk) (by rw [List.append_nil]; exact seg_perm) ho (fun ho => remove_no k s h.fs (h.at_ k) (h.root k) (by rw [hh]; exact hc) w ho) ?_
    rintro x hx
    refine ⟨q, rfl, ?_, h⟩
    rw [List.append_nil]
    exact seg_perm.symm
theorem seg_perm3 : [q.seg g A.length].flatten.Perm ([fsB g q.y q.N.length q.sp.length A.length, q.E, mpB q.y.m q.L q.clk] ++ [q.Es]).flatten := by
  refine seg_perm.trans ?_
  refine (List.Perm.refl _ : (fsB g q.y q.N.length q.sp.length A.length ++ (q.E ++ (q.Es ++ (mpB q.y.m q.L q.clk ++ [])))).Perm _).trans ?_
  show (fsB g q.y q.N.length q.sp.length A.length ++ (q.E ++ (q.Es ++ (mpB q.y.m q.L q.clk ++ [])))).Perm (fsB g q.y q.N.length q.sp.length A.length ++ (q.E ++ (mpB q.y.m q.L q.clk ++ (q.Es ++ []))))
  refine List.Perm.append_left _ (List.Perm.append_left _ ?_)
  rw [List.append_nil, List.append_nil]
  exact List.perm_append_comm
theorem Height_law (k : ByteArray) (h : FoOk m A q) (w : World) (ho : Own w [q.seg g A.length]) :
    Calls Try.prog 16 #[.pointer (some ⟨g, 0, none⟩), .string k] w (Ret (β := Unit) w (ids [q.seg g A.length]) (fun _ => .int .i64 (q.T k).hh) (fun _ => [q.seg g A.length]) (fun _ => True)) := by
  refine call_conv (γ := Unit) [q.Es] seg_perm3 ho (fun ho => height_spec k h.fs.ar h.fs.inb (h.at_ k) (h.root k) w ho) ?_
  rintro x hx
  refine ⟨(), ?_, seg_perm3.symm, trivial⟩
  rw [((h.at_ k).top h.z).1]
theorem Count_law (h : FoOk m A q) (w : World) (ho : Own w [q.seg g A.length]) :
    Calls Try.prog 14 #[.pointer (some ⟨g, 0, none⟩)] w (Ret (β := Unit) w (ids [q.seg g A.length]) (fun _ => .int .i64 (A.length : Nat)) (fun _ => [q.seg g A.length]) (fun _ => True)) :=
  call_conv (γ := Unit) [q.E, q.Es, mpB q.y.m q.L q.clk] (M := [fsB g q.y q.N.length q.sp.length A.length]) seg_perm ho (fun ho => count_spec w ho) fun x hx => ⟨(), rfl, seg_perm.symm, trivial⟩
abbrev ovK (k : ByteArray) (lo hi : Int) (A : Ks) : List Sp := ovQ lo hi (ofK k A)
theorem Overlap_law (k : ByteArray) (lo hi : Int) (h : FoOk m A q) (hm : m ≤ 900000000000) (w : World) (ho : Own w [q.seg g A.length]) :
    Calls Try.prog 13 #[.pointer (some ⟨g, 0, none⟩), .string k, .int .i64 lo, .int .i64 hi] w (Ret (β := Option Addr × Nat × Seg) w (ids [q.seg g A.length]) (fun x => .slice x.1 (ovK k lo hi A).length x.2.1) (fun x => [q.seg g A.length, x.2.2]) (fun x => SpL (ovK k lo hi A) x.1 (ovK k lo hi A).length x.2.1 x.2.2)) := by
  have hl := h.lens
  have e : overT lo hi (q.T k) = ovK k lo hi A := by rw [overT_eq lo hi (h.avl k) (h.srt k), h.cont]
  refine call_conv (γ := Option Addr × Nat × Seg) [q.Es] seg_perm3 ho (fun ho => overlap_spec k lo hi h.fs.ar h.fs.inb (h.at_ k) (by have := hl.2.2 k; omega) (h.root k) w ho) ?_
  rintro ⟨A', c', E'⟩ hx
  rw [e] at hx
  refine ⟨(A', c', E'), by rw [e], ?_, hx⟩
  have := (seg_perm3 (g := g) (A := A) (q := q)).symm.append_right E'
  refine List.Perm.trans ?_ (this.trans ?_)
  · simp only [List.flatten_append, List.flatten_cons, List.flatten_nil, List.append_nil, List.append_assoc]
    refine List.Perm.append_left _ (List.Perm.append_left _ (List.Perm.append_left _ List.perm_append_comm))
  · simp only [List.flatten_cons, List.flatten_nil, List.append_nil]
    exact List.Perm.refl _
theorem First_law (k : ByteArray) (lo hi : Int) (h : FoOk m A q) (hm : m ≤ 900000000000) (w : World) (ho : Own w [q.seg g A.length]) :
    Calls Try.prog 18 #[.pointer (some ⟨g, 0, none⟩), .string k, .int .i64 lo, .int .i64 hi] w (Ret (β := Unit) w (ids [q.seg g A.length]) (fun _ => .tuple #[.agg ((firstS (ovK k lo hi A)).getD Sp.zero).cells.toArray, .bool (firstS (ovK k lo hi A)).isSome]) (fun _ => [q.seg g A.length]) (fun _ => True)) := by
  have hl := h.lens
  have e : overT lo hi (q.T k) = ovK k lo hi A := by rw [overT_eq lo hi (h.avl k) (h.srt k), h.cont]
  refine call_conv (γ := Unit) [q.Es] seg_perm3 ho (fun ho => first_spec k lo hi h.fs.ar h.fs.inb (h.at_ k) (by have := hl.2.2 k; omega) (h.root k) w ho) ?_
  rintro x hx
  exact ⟨(), by rw [e], seg_perm3.symm, trivial⟩
theorem New_law (w : World) :
    Calls Try.prog 11 #[] w (Ret (β := Nat × Fo) w (ids []) (fun x => .pointer (some ⟨x.1, 0, none⟩)) (fun x => [x.2.seg x.1 0]) (fun x => FoOk 0 [] x.2)) := by
  refine call_conv (γ := Nat × Fo) [] (List.Perm.refl _) (own_nil w) (fun ho => new_spec w) ?_
  rintro ⟨g', y', E'⟩ hx
  refine ⟨(g', ⟨y', [Nd.zero], [], E', [], [], 0, fun _ => .nil⟩), rfl, ?_, ?_⟩
  · rw [List.append_nil]
    exact seg_perm.symm
  · exact ⟨hx, ⟨List.Pairwise.nil, List.nodup_nil⟩, fun _ => trivial, fun _ => trivial, fun _ => rfl, fun _ => rfl, rfl, fun _ => List.nodup_nil, fun _ _ _ j hj => (by cases hj), List.nodup_nil, fun j hj => (by cases hj), fun _ j hj => (by cases hj), MapOk.nil 0, rfl, Nat.le_refl _⟩
end
end Go.Proofs.Ytjeghbachokljaa
