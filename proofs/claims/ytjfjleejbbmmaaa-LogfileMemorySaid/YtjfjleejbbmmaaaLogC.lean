/- Whole logs: what a reading of all tells. -/
import Derived.Test.YtjfjleejbbmmaaaLogB
set_option linter.unusedVariables false
set_option linter.unusedSimpArgs false
namespace Go.Proofs.Ytjfjleejbbmmaaa
open Go
theorem take_split {d l : List UInt8} {p q : Nat} (h : (d.drop p).take (q - p) = l) (hq : q = p + l.length) : d.drop p = l ++ d.drop q := by
  have := (List.take_append_drop (q - p) (d.drop p)).symm
  rw [h, List.drop_drop, show p + (q - p) = q by omega] at this
  exact this
inductive Entry (D : Dsc) : (TxnP × Bool × Int) × Dsc → Prop
  | txn (t : TxnP) (r : List UInt8) (h : D.data.drop D.place = entB t ++ r) (ht : t.Right) (hc : D.count < 4096) : Entry D ((t, true, 0), { D with place := D.place + (entB t).length, count := D.count + 1 })
  | foot (h : D.data.drop D.place = 0 :: formN D.count) : Entry D ((TxnP.zero, false, 0), { D with place := D.data.length, foot := true })
  | more (h : D.ended = false) : Entry D ((TxnP.zero, false, 0), D)
  | bad (D' : Dsc) (e : Int) (he : e ≠ 0) (hf : D'.fault = e) (h1 : D.place ≤ D'.place) (h2 : D'.place ≤ D.data.length) : Entry D ((TxnP.zero, false, e), D')
theorem miss_cases (D : Dsc) {q : Nat} (h1 : D.place ≤ q) (h2 : q ≤ D.data.length) : Entry D ((TxnP.zero, false, (D.miss q).1), (D.miss q).2) := by
  unfold Dsc.miss
  split
  · exact .bad _ 51 (by decide) rfl h1 h2
  · rename_i h
    exact .more (by simpa using h)
theorem entry_cases (D : Dsc) (hp : D.place ≤ D.data.length) (hc : D.count ≤ 4096) : Entry D D.entry := by
  unfold Dsc.entry
  cases hn : numP D.data D.place 512 with
  | error e =>
    obtain ⟨e1, e2⟩ := numP_err hn
    dsimp only
    split
    · exact miss_cases D (Nat.le_refl _) hp
    · exact .bad _ _ e2 rfl (Nat.le_refl _) hp
  | ok x =>
    obtain ⟨n, q⟩ := x
    obtain ⟨q1, q2, q3⟩ := numP_le hp hn
    obtain ⟨i1, i2, i3, i4⟩ := num_inv hn
    have hs := take_split i1 i2
    dsimp only
    by_cases hz : n = 0
    · subst hz
      rw [if_pos rfl]
      have hq := numP_zero hn
      have hs' : D.data.drop D.place = 0 :: D.data.drop (D.place + 1) := by
        rw [hs, formN_lt (n := 0) (by decide), hq]
        rfl
      unfold Dsc.footer
      cases hm : numP D.data (D.place + 1) 4096 with
      | error e =>
        obtain ⟨e1, e2⟩ := numP_err hm
        dsimp only
        split
        · exact miss_cases D (by omega) (by omega)
        · exact .bad _ _ e2 rfl (by show D.place ≤ D.place + 1; omega) (by show D.place + 1 ≤ _; omega)
      | ok y =>
        obtain ⟨m, z⟩ := y
        obtain ⟨z1, z2, z3⟩ := numP_le (by omega) hm
        obtain ⟨j1, j2, j3, j4⟩ := num_inv hm
        dsimp only
        split
        · exact .bad _ 72 (by decide) rfl (by show D.place ≤ D.place + 1; omega) (by show D.place + 1 ≤ _; omega)
        · rename_i hmc
          have hmc' : m = D.count := Decidable.not_not.1 hmc
          split
          · exact .bad _ 61 (by decide) rfl (by show D.place ≤ z; omega) z1
          · have hz' : z = D.data.length := by omega
            subst hmc'
            have hs2 := take_split j1 j2
            rw [hz', List.drop_length, List.append_nil] at hs2
            rw [hs2] at hs'
            rw [hz']
            exact .foot hs'
    rw [if_neg hz]
    split
    · exact .bad _ 71 (by decide) rfl (Nat.le_refl _) hp
    rename_i h40
    split
    · exact miss_cases D (Nat.le_refl _) hp
    rename_i hl
    obtain ⟨X, hX⟩ : ∃ X, X = (D.data.drop q).take n := ⟨_, rfl⟩
    have hXl : X.length = n := by rw [hX, List.length_take, List.length_drop]; omega
    rw [← hX]
    have hb : ∀ (a : Nat) (e : Int), a ≤ X.length → e ≠ 0 → Entry D ((TxnP.zero, false, e), D.fail (q + ((a : Int)).toNat) e) := fun a e ha he =>
      .bad _ e he rfl (by show D.place ≤ q + ((a : Int)).toNat; omega) (by show q + ((a : Int)).toNat ≤ D.data.length; omega)
    rcases dec_cases X with ⟨t, h1, h2⟩ | ⟨t, a, h1, h2, h3⟩ | ⟨a, e, h1, h2, h3, h4⟩
    · obtain ⟨o1, o2, o3⟩ := dec_one h2 none 0
      have ob : t.body = X := o2
      rw [h1]
      dsimp only
      rw [if_neg (by simp)]
      have hd : D.data.drop q = X ++ D.data.drop (q + n) := by
        have := (List.take_append_drop n (D.data.drop q)).symm
        rw [List.drop_drop, ← hX] at this
        exact this
      have he : D.data.drop D.place = entB t ++ D.data.drop (q + n) := by
        unfold entB
        rw [hs, hd, ob, hXl, List.append_assoc]
      have hel : D.place + (entB t).length = q + n := by
        unfold entB
        rw [List.length_append, ob, hXl]; omega
      rw [← hel]
      exact .txn t _ he o1 (by omega)
    · rw [h1]
      dsimp only
      rw [if_pos (show (61 : Int) ≠ 0 by decide)]
      exact hb a 61 (by omega) (by decide)
    · have he : e ≠ 0 := by rcases h4 with rfl | rfl | rfl | ⟨rfl, _⟩ <;> decide
      rw [h1]
      dsimp only
      rw [if_pos he]
      exact hb a e h3 he
/-- what is read as a log is one -/
theorem all_inv : ∀ (k : Nat) {D : Dsc} (got L : List TxnP) (a : Nat), D.ended = true → D.fault = 0 → D.foot = false → 0 < D.place → D.place ≤ D.data.length → D.count ≤ 4096 → 4096 < D.count + k → D.all k got = (L, a, 0) →
    ∃ l, L = got ++ l ∧ (∀ t ∈ l, t.Right) ∧ D.count + l.length ≤ 4096 ∧ D.data.drop D.place = entsB l ++ (0 :: formN (D.count + l.length)) ∧ a = 0
  | 0, D, got, L, a, hen, hf, hfo, hp, hpl, hc, hk, h => by omega
  | k + 1, D, got, L, a, hen, hf, hfo, hp, hpl, hc, hk, h => by
    have hn : D.next = D.entry := by
      unfold Dsc.next
      rw [if_neg (by simp [hf]), if_neg (by omega), if_neg (by simp [hfo])]
    unfold Dsc.all at h
    rw [hn] at h
    have hE := entry_cases D hpl hc
    generalize hX : D.entry = X at h hE
    cases hE with
    | txn t r e ht hlt =>
      dsimp only at h
      rw [if_neg (by simp), if_neg (by simp)] at h
      have hlen := congrArg List.length e
      rw [List.length_drop, List.length_append] at hlen
      obtain ⟨l, h1, h2, h3, h4, h5⟩ := all_inv k (D := { D with place := D.place + (entB t).length, count := D.count + 1 }) (got ++ [t]) L a hen hf hfo (by dsimp only; omega) (by dsimp only; omega) (by dsimp only; omega) (by dsimp only; omega) h
      dsimp only at h3 h4
      refine ⟨t :: l, by rw [h1]; simp, fun x hx => ?_, by rw [List.length_cons]; omega, ?_, h5⟩
      · rcases List.mem_cons.1 hx with rfl | hx
        · exact ht
        · exact h2 x hx
      · rw [e]
        rw [drop_more e] at h4
        rw [h4, List.length_cons, show D.count + (l.length + 1) = D.count + 1 + l.length by omega]
        simp [entsB]
    | foot e =>
      dsimp only at h
      rw [if_neg (by simp), if_pos rfl] at h
      have h1 := congrArg Prod.fst h
      have h2 := congrArg (fun x => x.2.1) h
      exact ⟨[], by simpa using h1.symm, by simp, by simpa using hc, by simpa [entsB] using e, h2.symm⟩
    | more e => rw [hen] at e; cases e
    | bad D' e he hf' h1 h2 =>
      dsimp only at h
      rw [if_pos he] at h
      exact absurd (congrArg (fun x => x.2.2) h) he
theorem head_none : ∀ (m l : List UInt8) (i : Nat), headAt m l i = none → l = m ++ l.drop m.length
  | [], _, _, h => rfl
  | _ :: _, [], i, h => by simp [headAt] at h
  | m :: r, x :: l, i, h => by
    simp only [headAt] at h
    split at h
    · rename_i e
      have := head_none r l (i + 1) h
      rw [e, List.length_cons, List.drop_succ_cons, List.cons_append, ← this]
    · simp at h
theorem log_inv {d : List UInt8} {L : List TxnP} {a : Nat} (h : (⟨d, true, 0, 0, false, 0⟩ : Dsc).all 4097 [] = (L, a, 0)) : d = logB L ∧ (∀ t ∈ L, t.Right) ∧ L.length ≤ 4096 ∧ a = 0 := by
  cases hh : headAt magicB d 0 with
  | some r =>
    obtain ⟨i, b⟩ := r
    have hn : (⟨d, true, 0, 0, false, 0⟩ : Dsc).next.1.2.2 ≠ 0 := by
      unfold Dsc.next
      rw [if_neg (by simp), if_pos rfl]
      dsimp only
      rw [hh]
      cases b
      · show (70 : Int) ≠ 0
        decide
      · show (51 : Int) ≠ 0
        decide
    unfold Dsc.all at h
    rw [if_pos hn] at h
    exact absurd (congrArg (fun x => x.2.2) h) hn
  | none =>
    have h4 := headAt_none _ _ _ hh
    have h0 : (⟨d, true, 0, 0, false, 0⟩ : Dsc).next = (⟨d, true, 4, 0, false, 0⟩ : Dsc).next := by
      unfold Dsc.next
      rw [if_neg (by simp), if_pos rfl, if_neg (by simp), if_neg (by simp), if_neg (by simp)]
      dsimp only
      rw [hh]
    have h1 : (⟨d, true, 0, 0, false, 0⟩ : Dsc).all 4097 [] = (⟨d, true, 4, 0, false, 0⟩ : Dsc).all 4097 [] := by
      unfold Dsc.all
      rw [h0]
    rw [h1] at h
    obtain ⟨l, g1, g2, g3, g4, g5⟩ := all_inv 4097 [] L a rfl rfl rfl (by show 0 < 4; decide) h4 (Nat.zero_le _) (by show 4096 < 0 + 4097; decide) h
    rw [List.nil_append] at g1
    subst g1
    dsimp only at g3 g4
    rw [Nat.zero_add] at g3 g4
    refine ⟨?_, g2, g3, g5⟩
    have := head_none _ _ _ hh
    rw [show magicB.length = 4 from rfl, g4] at this
    exact this
end Go.Proofs.Ytjfjleejbbmmaaa
