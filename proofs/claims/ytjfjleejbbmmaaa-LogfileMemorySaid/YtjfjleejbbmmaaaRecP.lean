/- The plain laws of reading: what is read stays as it was where more stands behind; what it doesn't need may be cut off. -/
import Derived.Test.YtjfjleejbbmmaaaRecD1
set_option linter.unusedVariables false
set_option linter.unusedSimpArgs false
namespace Go.Proofs.Ytjfjleejbbmmaaa
open Go
theorem scanL_more (s : List UInt8) : ∀ (l : List UInt8) (i acc : Nat), (scanL i acc l).2.2 ≠ 51 → scanL i acc (l ++ s) = scanL i acc l
  | [], i, acc, h => by
    simp only [scanL] at h
    split at h
    · rename_i h8
      rw [List.nil_append]
      cases s with
      | nil => rfl
      | cons b r => simp only [scanL]; rw [if_pos h8, if_pos h8]
    · exact absurd rfl h
  | b :: r, i, acc, h => by
    simp only [List.cons_append, scanL] at h ⊢
    split
    · rfl
    · rename_i h8
      rw [if_neg h8] at h
      split
      · rfl
      · rename_i h1
        rw [if_neg h1] at h
        exact scanL_more s r _ _ h
theorem scanL_take (m : Nat) : ∀ (l : List UInt8) (i acc : Nat), (scanL i acc l).2.2 = 0 → (scanL i acc l).2.1 ≤ i + m → scanL i acc (l.take m) = scanL i acc l
  | [], i, acc, h, _ => by rw [List.take_nil]
  | b :: r, i, acc, h, hm => by
    have hsz := scanL_size (b :: r) i acc h
    cases m with
    | zero => omega
    | succ m =>
      simp only [List.take_succ_cons, scanL] at h hm ⊢
      split
      · rfl
      · rename_i h8
        rw [if_neg h8] at h hm
        split
        · rfl
        · rename_i h1
          rw [if_neg h1] at h hm
          exact scanL_take m r _ _ h (by omega)
theorem scanL_code : ∀ (l : List UInt8) (i acc : Nat), (scanL i acc l).2.2 = 0 ∨ (scanL i acc l).2.2 = 51 ∨ (scanL i acc l).2.2 = 52
  | [], i, acc => by simp only [scanL]; split <;> simp
  | b :: r, i, acc => by
    simp only [scanL]
    split
    · simp
    · split
      · split
        · simp
        · simp
      · exact scanL_code r _ _
/-- a reading that goes forward and looks at no more than it tells -/
structure Good {α : Type} (P : List UInt8 → Nat → PR α) : Prop where
  okLe : ∀ {d p x q}, p ≤ d.length → P d p = .ok (x, q) → p ≤ q ∧ q ≤ d.length
  errAt : ∀ {d p e}, p ≤ d.length → P d p = .error e → ∃ a : Nat, e.1 = a ∧ p ≤ a ∧ a ≤ d.length ∧ (e.2 = 51 ∨ e.2 = 52 ∨ e.2 = 53 ∨ (e.2 = 60 ∧ a < d.length))
  okApp : ∀ {d p r} (s : List UInt8), p ≤ d.length → P d p = .ok r → P (d ++ s) p = .ok r
  errApp : ∀ {d p e} (s : List UInt8), p ≤ d.length → P d p = .error e → e.2 ≠ 51 → P (d ++ s) p = .error e
  okTake : ∀ {d p x q} (m : Nat), p ≤ d.length → P d p = .ok (x, q) → q ≤ m → P (d.take m) p = .ok (x, q)
  endTake : ∀ {d p} {a : Nat}, p ≤ d.length → P d p = .error ((a : Int), 51) → P (d.take a) p = .error ((a : Int), 51)
  tagTake : ∀ {d p} {a : Nat}, p ≤ d.length → P d p = .error ((a : Int), 60) → P (d.take (a + 1)) p = .error ((a : Int), 60)
def bindP {α β : Type} (P : List UInt8 → Nat → PR α) (Q : α → List UInt8 → Nat → PR β) : List UInt8 → Nat → PR β := fun d p => match P d p with
  | .error e => .error e
  | .ok (x, q) => Q x d q
def pureP {α : Type} (x : α) : List UInt8 → Nat → PR α := fun _ p => .ok (x, p)
theorem good_pure {α : Type} (x : α) : Good (pureP x) where
  okLe h1 h := by injection h with h; injection h with _ h; omega
  errAt _ h := by cases h
  okApp _ _ h := h
  errApp _ _ h := by cases h
  okTake _ _ h _ := h
  endTake _ h := by cases h
  tagTake _ h := by cases h
theorem good_bind {α β : Type} {P : List UInt8 → Nat → PR α} {Q : α → List UInt8 → Nat → PR β} (hP : Good P) (hQ : ∀ x, Good (Q x)) : Good (bindP P Q) where
  okLe {d p x q} h1 h := by
    unfold bindP at h
    cases hp : P d p with
    | error e => rw [hp] at h; cases h
    | ok r =>
      obtain ⟨y, p2⟩ := r
      rw [hp] at h
      have a1 := hP.okLe h1 hp
      have a2 := (hQ y).okLe a1.2 h
      omega
  errAt {d p e} h1 h := by
    unfold bindP at h
    cases hp : P d p with
    | error e2 =>
      rw [hp] at h
      injection h with h
      subst h
      exact hP.errAt h1 hp
    | ok r =>
      obtain ⟨y, p2⟩ := r
      rw [hp] at h
      have a1 := hP.okLe h1 hp
      obtain ⟨a, b1, b2, b3, b4⟩ := (hQ y).errAt a1.2 h
      exact ⟨a, b1, by omega, b3, b4⟩
  okApp {d p r} s h1 h := by
    unfold bindP at h ⊢
    cases hp : P d p with
    | error e => rw [hp] at h; cases h
    | ok r =>
      obtain ⟨y, p2⟩ := r
      rw [hp] at h
      rw [hP.okApp s h1 hp]
      exact (hQ y).okApp s (hP.okLe h1 hp).2 h
  errApp {d p e} s h1 h he := by
    unfold bindP at h ⊢
    cases hp : P d p with
    | error e2 =>
      rw [hp] at h
      injection h with h
      subst h
      rw [hP.errApp s h1 hp he]
    | ok r =>
      obtain ⟨y, p2⟩ := r
      rw [hp] at h
      rw [hP.okApp s h1 hp]
      exact (hQ y).errApp s (hP.okLe h1 hp).2 h he
  okTake {d p x q} m h1 h hm := by
    unfold bindP at h ⊢
    cases hp : P d p with
    | error e => rw [hp] at h; cases h
    | ok r =>
      obtain ⟨y, p2⟩ := r
      rw [hp] at h
      have a1 := hP.okLe h1 hp
      have a2 := (hQ y).okLe a1.2 h
      rw [hP.okTake m h1 hp (by omega)]
      exact (hQ y).okTake m a1.2 h hm
  endTake {d p a} h1 h := by
    unfold bindP at h ⊢
    cases hp : P d p with
    | error e =>
      rw [hp] at h
      injection h with h
      subst h
      rw [hP.endTake h1 hp]
    | ok r =>
      obtain ⟨y, p2⟩ := r
      rw [hp] at h
      have a1 := hP.okLe h1 hp
      obtain ⟨a', b1, b2, b3, b4⟩ := (hQ y).errAt a1.2 h
      have b1' : a = a' := by have h9 : (a : Int) = a' := b1; omega
      rw [hP.okTake a h1 hp (by omega)]
      exact (hQ y).endTake a1.2 h
  tagTake {d p a} h1 h := by
    unfold bindP at h ⊢
    cases hp : P d p with
    | error e =>
      rw [hp] at h
      injection h with h
      subst h
      rw [hP.tagTake h1 hp]
    | ok r =>
      obtain ⟨y, p2⟩ := r
      rw [hp] at h
      have a1 := hP.okLe h1 hp
      obtain ⟨a', b1, b2, b3, b4⟩ := (hQ y).errAt a1.2 h
      have b1' : a = a' := by have h9 : (a : Int) = a' := b1; omega
      rw [hP.okTake (a + 1) h1 hp (by omega)]
      exact (hQ y).tagTake a1.2 h
theorem drop_app {d s : List UInt8} {p : Nat} (h : p ≤ d.length) : (d ++ s).drop p = d.drop p ++ s := by rw [List.drop_append_of_le_length h]
theorem take_drop_le {d : List UInt8} {p m : Nat} : (d.take m).drop p = (d.drop p).take (m - p) := by rw [List.drop_take]
theorem good_num (most : Int) : Good (fun d p => numP d p most) where
  okLe {d p x q} h1 h := by have := numP_le h1 h; omega
  errAt {d p e} h1 h := by
    unfold numP at h
    split at h
    · rename_i hs
      injection h with h
      subst h
      refine ⟨p, rfl, Nat.le_refl _, h1, ?_⟩
      rcases scanL_code (d.drop p) 0 0 with h2 | h2 | h2
      · exact absurd h2 hs
      · exact .inl h2
      · exact .inr (.inl h2)
    · split at h
      · injection h with h
        subst h
        exact ⟨p, rfl, Nat.le_refl _, h1, .inr (.inr (.inl rfl))⟩
      · cases h
  okApp {d p r} s h1 h := by
    unfold numP at h ⊢
    rw [drop_app h1]
    split at h
    · cases h
    · rename_i hs
      rw [scanL_more s _ _ _ (by simp at hs; rw [hs]; decide), if_neg hs]
      exact h
  errApp {d p e} s h1 h he := by
    unfold numP at h ⊢
    rw [drop_app h1]
    split at h
    · rename_i hs
      injection h with h
      subst h
      rw [scanL_more s _ _ _ he, if_pos hs]
    · rename_i hs
      rw [scanL_more s _ _ _ (by simp at hs; rw [hs]; decide), if_neg hs]
      exact h
  okTake {d p x q} m h1 h hm := by
    have hle := numP_le h1 h
    unfold numP at h ⊢
    rw [take_drop_le]
    split at h
    · cases h
    · rename_i hs
      split at h
      · cases h
      · rename_i hb
        injection h with h
        injection h with h2 h3
        have hs' : (scanL 0 0 (d.drop p)).2.2 = 0 := by simpa using hs
        rw [scanL_take _ _ _ _ hs' (by omega), if_neg hs, if_neg hb, ← h2, ← h3]
  endTake {d p a} h1 h := by
    unfold numP at h
    split at h
    · injection h with h
      injection h with h2 h3
      have : p = a := by omega
      subst this
      unfold numP
      rw [take_drop_le, Nat.sub_self, List.take_zero]
      simp [scanL]
    · split at h
      · injection h with h
        injection h with h2 h3
        cases h3
      · cases h
  tagTake {d p a} h1 h := by
    exfalso
    unfold numP at h
    split at h
    · injection h with h
      injection h with h2 h3
      rcases scanL_code (d.drop p) 0 0 with h4 | h4 | h4 <;> rw [h4] at h3 <;> cases h3
    · split at h
      · injection h with h
        injection h with h2 h3
        cases h3
      · cases h
theorem good_text (least most : Int) : Good (fun d p => textP d p least most) where
  okLe {d p x q} h1 h := by have := textP_le h1 h; omega
  errAt {d p e} h1 h := by
    unfold textP at h
    split at h
    · rename_i hs
      injection h with h
      subst h
      refine ⟨p, rfl, Nat.le_refl _, h1, ?_⟩
      rcases scanL_code (d.drop p) 0 0 with h2 | h2 | h2
      · exact absurd h2 hs
      · exact .inl h2
      · exact .inr (.inl h2)
    · split at h
      · injection h with h
        subst h
        exact ⟨p, rfl, Nat.le_refl _, h1, .inr (.inr (.inl rfl))⟩
      · split at h
        · injection h with h
          subst h
          exact ⟨p, rfl, Nat.le_refl _, h1, .inl rfl⟩
        · cases h
  okApp {d p r} s h1 h := by
    unfold textP at h ⊢
    rw [drop_app h1]
    split at h
    · cases h
    · rename_i hs
      rw [scanL_more s _ _ _ (by simp at hs; rw [hs]; decide), if_neg hs]
      split at h
      · cases h
      · rename_i hb
        rw [if_neg hb]
        split at h
        · cases h
        · rename_i hl
          rw [if_neg (by rw [List.length_append]; omega), drop_app (by omega), List.take_append_of_le_length (by rw [List.length_drop]; omega)]
          exact h
  errApp {d p e} s h1 h he := by
    unfold textP at h ⊢
    rw [drop_app h1]
    split at h
    · rename_i hs
      injection h with h
      subst h
      rw [scanL_more s _ _ _ he, if_pos hs]
    · rename_i hs
      rw [scanL_more s _ _ _ (by simp at hs; rw [hs]; decide), if_neg hs]
      split at h
      · rename_i hb
        rw [if_pos hb]
        exact h
      · split at h
        · injection h with h
          subst h
          exact absurd rfl he
        · cases h
  okTake {d p x q} m h1 h hm := by
    have hle := textP_le h1 h
    unfold textP at h ⊢
    rw [take_drop_le]
    split at h
    · cases h
    · rename_i hs
      split at h
      · cases h
      · rename_i hb
        split at h
        · cases h
        · rename_i hl
          injection h with h
          injection h with h2 h3
          have hs' : (scanL 0 0 (d.drop p)).2.2 = 0 := by simpa using hs
          rw [scanL_take _ _ _ _ hs' (by omega), if_neg hs, if_neg hb, if_neg (by rw [List.length_take]; omega), take_drop_le, List.take_take, Nat.min_eq_left (by omega), ← h2, ← h3]
  endTake {d p a} h1 h := by
    have hpa : p = a := by
      unfold textP at h
      split at h
      · injection h with h
        injection h with h2 h3
        omega
      · split at h
        · injection h with h
          injection h with h2 h3
          cases h3
        · split at h
          · injection h with h
            injection h with h2 h3
            omega
          · cases h
    subst hpa
    unfold textP
    rw [take_drop_le, Nat.sub_self, List.take_zero]
    simp [scanL]
  tagTake {d p a} h1 h := by
    exfalso
    unfold textP at h
    split at h
    · injection h with h
      injection h with h2 h3
      rcases scanL_code (d.drop p) 0 0 with h4 | h4 | h4 <;> rw [h4] at h3 <;> cases h3
    · split at h
      · injection h with h
        injection h with h2 h3
        cases h3
      · split at h
        · injection h with h
          injection h with h2 h3
          cases h3
        · cases h
def tagP (d : List UInt8) (p : Nat) : PR Nat :=
  if d.length ≤ p then .error (p, 51) else if (d.getD p 0).toNat = 0 ∨ 4 < (d.getD p 0).toNat then .error (p, 60) else .ok ((d.getD p 0).toNat, p + 1)
theorem getD_app {d s : List UInt8} {p : Nat} (h : p < d.length) : (d ++ s).getD p 0 = d.getD p 0 := by simp [List.getD_eq_getElem?_getD, List.getElem?_append_left h]
theorem getD_take {d : List UInt8} {p m : Nat} (h : p < m) : (d.take m).getD p 0 = d.getD p 0 := by simp [List.getD_eq_getElem?_getD, List.getElem?_take_of_lt h]
theorem good_tag : Good tagP where
  okLe {d p x q} h1 h := by
    unfold tagP at h
    split at h
    · cases h
    · split at h
      · cases h
      · injection h with h
        injection h with _ h
        omega
  errAt {d p e} h1 h := by
    unfold tagP at h
    split at h
    · injection h with h
      subst h
      exact ⟨p, rfl, Nat.le_refl _, h1, .inl rfl⟩
    · split at h
      · injection h with h
        subst h
        exact ⟨p, rfl, Nat.le_refl _, h1, .inr (.inr (.inr ⟨rfl, by omega⟩))⟩
      · cases h
  okApp {d p r} s h1 h := by
    unfold tagP at h ⊢
    split at h
    · cases h
    · rename_i hl
      rw [if_neg (by rw [List.length_append]; omega), getD_app (by omega)]
      exact h
  errApp {d p e} s h1 h he := by
    unfold tagP at h ⊢
    split at h
    · injection h with h
      subst h
      exact absurd rfl he
    · rename_i hl
      rw [if_neg (by rw [List.length_append]; omega), getD_app (by omega)]
      exact h
  okTake {d p x q} m h1 h hm := by
    unfold tagP at h ⊢
    split at h
    · cases h
    · rename_i hl
      split at h
      · cases h
      · rename_i ht
        injection h with h
        injection h with h2 h3
        rw [if_neg (by rw [List.length_take]; omega), getD_take (by omega), if_neg ht, h2, h3]
  endTake {d p a} h1 h := by
    have hpa : p = a := by
      unfold tagP at h
      split at h
      · injection h with h
        injection h with h2 h3
        omega
      · split at h
        · injection h with h
          injection h with h2 h3
          cases h3
        · cases h
    subst hpa
    unfold tagP
    rw [if_pos (by rw [List.length_take]; omega)]
  tagTake {d p a} h1 h := by
    unfold tagP at h ⊢
    split at h
    · injection h with h
      injection h with h2 h3
      cases h3
    · rename_i hl
      split at h
      · rename_i ht
        injection h with h
        injection h with h2 h3
        have hpa : p = a := by omega
        subst hpa
        rw [if_neg (by rw [List.length_take]; omega), getD_take (by omega), if_pos ht]
      · cases h
theorem opP_bind : opP = bindP tagP (fun g => bindP (fun d p => textP d p 1 8) (fun k => if g = 1 ∨ g = 3 then bindP (fun d p => textP d p 0 16) (fun v => pureP ⟨kindT g, ⟨k.toArray⟩, true, ⟨v.toArray⟩⟩) else pureP ⟨kindT g, ⟨k.toArray⟩, false, ⟨#[]⟩⟩)) := by
  funext d p
  unfold opP bindP tagP
  split
  · rfl
  · split
    · rfl
    · dsimp only [bindP]
      cases textP d (p + 1) 1 8 with
      | error e => rfl
      | ok r =>
        obtain ⟨k, p2⟩ := r
        dsimp only
        split
        · rename_i hg
          dsimp only [bindP]
          cases textP d p2 0 16 with
          | error e => rfl
          | ok r => rfl
        · rfl
theorem good_op : Good opP := by
  rw [opP_bind]
  refine good_bind good_tag fun g => good_bind (good_text 1 8) fun k => ?_
  split
  · exact good_bind (good_text 0 16) fun v => good_pure _
  · exact good_pure _
theorem good_ops : ∀ n, Good (fun d p => opsP d n p)
  | 0 => by
    have : (fun d p => opsP d 0 p) = pureP [] := by funext d p; rfl
    rw [this]; exact good_pure _
  | n + 1 => by
    have : (fun d p => opsP d (n + 1) p) = bindP opP (fun o => bindP (fun d p => opsP d n p) (fun l => pureP (o :: l))) := by
      funext d p
      rw [opsP]
      dsimp only [bindP]
      cases opP d p with
      | error e => rfl
      | ok r =>
        dsimp only
        cases opsP d n r.2 with
        | error e => rfl
        | ok r => rfl
    rw [this]
    exact good_bind good_op fun o => good_bind (good_ops n) fun l => good_pure _
theorem good_nums : ∀ ms, Good (fun d p => numsP d ms p)
  | [] => by
    have : (fun d p => numsP d [] p) = pureP [] := by funext d p; rfl
    rw [this]; exact good_pure _
  | m :: r => by
    have : (fun d p => numsP d (m :: r) p) = bindP (fun d p => numP d p m) (fun n => bindP (fun d p => numsP d r p) (fun l => pureP (n :: l))) := by
      funext d p
      rw [numsP]
      dsimp only [bindP]
      cases numP d p m with
      | error e => rfl
      | ok r2 =>
        dsimp only
        cases numsP d r r2.2 with
        | error e => rfl
        | ok r => rfl
    rw [this]
    exact good_bind (good_num m) fun o => good_bind (good_nums r) fun l => good_pure _
end Go.Proofs.Ytjfjleejbbmmaaa
