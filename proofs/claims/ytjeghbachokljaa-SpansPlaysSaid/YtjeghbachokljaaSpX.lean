/- Drop: what it gathers and what it leaves, in plain; rules for one's memory cut anew. -/
import Derived.Test.YtjeghbachokljaaSpW
set_option linter.unusedVariables false
set_option linter.unusedSimpArgs false
namespace Go.Proofs.Ytjeghbachokljaa
open Go
set_option maxRecDepth 20000
set_option maxHeartbeats 1000000
theorem cellS {A : Option Addr} {c gA i j off : Nat} {l : List Sp} {E S : Seg} {s : Sp} {u : Value} {w0 w : World} {X : List Nat} {M : List Seg} (h : SpL l A l.length c E) (hE : ∀ p ∈ E, p ∈ S) (hA : A = some ⟨gA, 0, none⟩) (hr : Res w0 X w M) [k : Has S M] (hi : l[i]? = some s) (hj : s.cells[j]? = some u) (ho : off = 0 + i * 3 + j) : w.cell? ⟨gA, off, none⟩ = some u := by
  have hv := Buf.vwS h hE hr
  have hl : 0 < l.length := by have := (List.getElem?_eq_some_iff.1 hi).1; omega
  obtain ⟨g, o, e, hc⟩ := hv.atF (f := Sp.cells) (k := 3) (fun _ => rfl) (by decide) hl
  rw [hA] at e
  injection e with e
  injection e with e1 e2 e3
  subst e1 e2
  exact hc i s j u hi hj (M := []) (Res.refl (own_nil w)) (by omega)
theorem len_sub {α : Type} : ∀ {l m : List α}, l.Nodup → (∀ x ∈ l, x ∈ m) → l.length ≤ m.length
  | [], m, _, _ => Nat.zero_le _
  | x :: r, m, hn, h => by
    obtain ⟨h1, h2⟩ := List.nodup_cons.1 hn
    obtain ⟨s, t, rfl⟩ := List.append_of_mem (h x (List.mem_cons_self ..))
    have := len_sub (m := s ++ t) h2 fun y hy => by
      rcases List.mem_append.1 (h y (List.mem_cons_of_mem _ hy)) with h3 | h3
      · exact List.mem_append.2 (.inl h3)
      · rcases List.mem_cons.1 h3 with rfl | h3
        · exact absurd hy h1
        · exact List.mem_append.2 (.inr h3)
    simp only [List.length_append, List.length_cons] at this ⊢
    omega
theorem aget_mem {L : TE ByteArray} {clk : Nat} (h : MapOk L clk) {e : ByteArray × Value × Nat} (he : e ∈ L) : aget e.1 L = some e.2.1 := by
  have hk := h.keys
  clear h
  unfold aget
  induction L with
  | nil => cases he
  | cons x r ih =>
    obtain ⟨h1, h2⟩ := List.pairwise_cons.1 hk
    rw [List.find?_cons]
    rcases List.mem_cons.1 he with rfl | hm
    · simp
    · have hne : ¬ e.1 = x.1 := fun e2 => h1 e hm e2.symm
      simp only [hne, decide_false]
      exact ih hm h2
theorem aget_none {L : TE ByteArray} {k : ByteArray} (h : ∀ e ∈ L, e.1 ≠ k) : aget k L = none := by
  unfold aget
  rw [List.find?_eq_none.2 fun x hx => by simpa using fun e => h x hx e.symm]
  rfl
theorem keys_inj {L : TE ByteArray} (hk : L.Pairwise (fun a b => a.1 ≠ b.1)) {a b : ByteArray × Value × Nat} (ha : a ∈ L) (hb : b ∈ L) (e : a.1 = b.1) : a = b := by
  induction L with
  | nil => cases ha
  | cons y l ih =>
    obtain ⟨p1, p2⟩ := List.pairwise_cons.1 hk
    rcases List.mem_cons.1 ha with h1 | h1
    · rcases List.mem_cons.1 hb with h2 | h2
      · rw [h1, h2]
      · rw [h1] at e
        exact absurd e (p1 b h2)
    · rcases List.mem_cons.1 hb with h2 | h2
      · rw [h2] at e
        exact absurd e.symm (p1 a h1)
      · exact ih p2 h1 h2
/-- what a key has that ends at the floor or earlier -/
def endK (fl : Int) (k : ByteArray) (A : Ks) : List Sp := (ofK k A).filter (fun s => decide (s.b ≤ fl))
def inK (K : List ByteArray) (k : ByteArray) : Bool := K.any (fun k' => decide (k' = k))
theorem inK_iff {K : List ByteArray} {k : ByteArray} : inK K k = true ↔ k ∈ K := by
  unfold inK
  rw [List.any_eq_true]
  constructor
  · rintro ⟨x, h1, h2⟩
    exact of_decide_eq_true h2 ▸ h1
  · exact fun h => ⟨k, h, decide_eq_true rfl⟩
theorem sum_one_k {c : Nat} {k : ByteArray} : ∀ {K : List ByteArray}, K.Nodup → (K.map (fun k' => if k = k' then c else 0)).sum = if inK K k then c else 0
  | [], _ => rfl
  | x :: r, hn => by
    obtain ⟨h1, h2⟩ := List.nodup_cons.1 hn
    rw [List.map_cons, List.sum_cons, sum_one_k h2]
    by_cases e : k = x
    · subst e
      have h3 : inK r k = false := by
        cases h4 : inK r k with
        | false => rfl
        | true => exact absurd (inK_iff.1 h4) h1
      have h5 : inK (k :: r) k = true := inK_iff.2 (List.mem_cons_self ..)
      rw [if_pos rfl, h3, h5]
      rfl
    · rw [if_neg e]
      have h5 : inK (x :: r) k = inK r k := by
        unfold inK
        rw [List.any_cons, decide_eq_false (fun e2 => e e2.symm)]
        rfl
      rw [h5, Nat.zero_add]
theorem sum_add (f g : ByteArray → Nat) : ∀ K : List ByteArray, (K.map (fun k => f k + g k)).sum = (K.map f).sum + (K.map g).sum
  | [] => rfl
  | x :: r => by
    rw [List.map_cons, List.map_cons, List.map_cons, List.sum_cons, List.sum_cons, List.sum_cons, sum_add f g r]
    omega
theorem sum_end (fl : Int) {K : List ByteArray} (hn : K.Nodup) : ∀ A : Ks, (K.map (fun k => (endK fl k A).length)).sum = (A.filter (fun x => decide (x.2.b ≤ fl) && inK K x.1)).length
  | [] => by
    have : ∀ K : List ByteArray, (K.map (fun k => (endK fl k []).length)).sum = 0 := fun K => by
      induction K with
      | nil => rfl
      | cons x r ih => rw [List.map_cons, List.sum_cons, ih]; rfl
    rw [this]; rfl
  | x :: r => by
    have ih := sum_end fl hn r
    have e : ∀ k, (endK fl k (x :: r)).length = (endK fl k r).length + (if x.1 = k then (if x.2.b ≤ fl then 1 else 0) else 0) := fun k => by
      unfold endK
      rw [ofK_cons]
      by_cases h : x.1 = k
      · rw [if_pos h, if_pos h]
        by_cases h2 : x.2.b ≤ fl
        · rw [if_pos h2, List.filter_cons_of_pos (by simpa using h2)]; rfl
        · rw [if_neg h2, List.filter_cons_of_neg (by simpa using h2)]; rfl
      · rw [if_neg h, if_neg h]; rfl
    simp only [e]
    rw [sum_add, ih, sum_one_k hn]
    by_cases h : inK K x.1 = true
    · by_cases h2 : x.2.b ≤ fl
      · rw [if_pos h, if_pos h2, List.filter_cons_of_pos (by simp [h, h2])]; rfl
      · rw [if_pos h, if_neg h2, List.filter_cons_of_neg (by simp [h2])]; rfl
    · rw [if_neg h, List.filter_cons_of_neg (by simp [h])]; rfl
def keepP (fl : Int) (K : List ByteArray) (x : ByteArray × Sp) : Bool := !(decide (x.2.b ≤ fl) && inK K x.1)
def delK (k : ByteArray) (l : List Sp) (A : Ks) : Ks := l.foldl (fun B s => delAll (k, s) B) A
theorem delK_snoc (k : ByteArray) (l : List Sp) (s : Sp) (A : Ks) : delK k (l ++ [s]) A = delAll (k, s) (delK k l A) := by
  unfold delK
  rw [List.foldl_append]
  rfl
theorem delK_eq (k : ByteArray) : ∀ (l : List Sp) (A : Ks), delK k l A = A.filter (fun x => !(decide (x.1 = k) && l.any (fun s => decide (s = x.2))))
  | [], A => (List.filter_eq_self.2 fun x _ => by simp).symm
  | s :: r, A => by
    show delK k r (delAll (k, s) A) = _
    rw [delK_eq k r]
    unfold delAll
    rw [List.filter_filter]
    refine List.filter_congr fun x _ => ?_
    rw [List.any_cons]
    by_cases h1 : x.1 = k <;> by_cases h2 : s = x.2
    · have : x = (k, s) := Prod.ext h1 h2.symm
      subst this
      simp
    · have : x ≠ (k, s) := fun e => h2 (by rw [e])
      simp [h1, h2, this]
    · have : x ≠ (k, s) := fun e => h1 (by rw [e])
      simp [h1, this]
    · have : x ≠ (k, s) := fun e => h1 (by rw [e])
      simp [h1, this]
theorem keep_step (fl : Int) (K : List ByteArray) (k : ByteArray) (A : Ks) : delK k (endK fl k A) (A.filter (keepP fl K)) = A.filter (keepP fl (K ++ [k])) := by
  rw [delK_eq, List.filter_filter]
  refine List.filter_congr fun x hx => ?_
  have hin : inK (K ++ [k]) x.1 = (inK K x.1 || decide (k = x.1)) := by
    unfold inK
    rw [List.any_append]
    simp
  have hmem : (endK fl k A).any (fun s => decide (s = x.2)) = true ↔ (k, x.2) ∈ A ∧ x.2.b ≤ fl := by
    rw [List.any_eq_true]
    constructor
    · rintro ⟨s, h1, h2⟩
      have := of_decide_eq_true h2
      subst this
      have h3 := List.mem_filter.1 h1
      exact ⟨mem_ofK.1 h3.1, by simpa using h3.2⟩
    · rintro ⟨h1, h2⟩
      exact ⟨x.2, List.mem_filter.2 ⟨mem_ofK.2 h1, by simpa using h2⟩, by simp⟩
  unfold keepP
  rw [hin]
  by_cases h1 : x.1 = k
  · have hm : (k, x.2) ∈ A := h1 ▸ hx
    by_cases h2 : x.2.b ≤ fl
    · rw [hmem.2 ⟨hm, h2⟩]
      simp [h1, h2]
    · simp [h1, h2]
      intro s hs e
      subst e
      exact absurd (by simpa using (List.mem_filter.1 hs).2) h2
  · have h3 : ¬ k = x.1 := fun e => h1 e.symm
    simp [h1, h3]
theorem keep_none (fl : Int) (A : Ks) : A.filter (keepP fl []) = A := List.filter_eq_self.2 fun x _ => by simp [keepP, inK]
theorem keep_all {fl : Int} {K : List ByteArray} {A : Ks} (h : ∀ x ∈ A, x.1 ∈ K) : A.filter (keepP fl K) = A.filter (fun x => decide (fl < x.2.b)) := List.filter_congr fun x hx => by
  unfold keepP
  rw [inK_iff.2 (h x hx), Bool.and_true]
  by_cases h2 : x.2.b ≤ fl
  · rw [decide_eq_true h2, decide_eq_false (by omega)]; rfl
  · rw [decide_eq_false h2, decide_eq_true (by omega)]; rfl
end Go.Proofs.Ytjeghbachokljaa
