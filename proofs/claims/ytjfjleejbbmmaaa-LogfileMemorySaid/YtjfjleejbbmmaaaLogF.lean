/- Logs that come in pieces; logs of very many. -/
import Derived.Test.YtjfjleejbbmmaaaLogE
set_option linter.unusedVariables false
set_option linter.unusedSimpArgs false
namespace Go.Proofs.Ytjfjleejbbmmaaa
open Go
theorem entB_pos (t : TxnP) : 0 < (entB t).length := by
  unfold entB
  rw [List.length_append]
  have := formN_pos t.body.length
  omega
theorem more_self {D : Dsc} (h : D.ended = true) : D.more [] true = D := by
  obtain ⟨d, en, p, c, fo, fa⟩ := D
  dsimp only at h
  subst h
  simp [Dsc.more]
theorem entry_grow {D : Dsc} (hp : D.place ≤ D.data.length) (hc : D.count ≤ 4096) (h : D.entry.1.2.1 = true) : D.entry.2.count = D.count + 1 ∧ D.place + 1 ≤ D.entry.2.place ∧ D.entry.2.count ≤ 4096 := by
  have hE := entry_cases D hp hc
  generalize D.entry = X at h hE
  cases hE with
  | txn t r e ht hlt =>
    have := entB_pos t
    exact ⟨rfl, by dsimp only; omega, by dsimp only; omega⟩
  | foot e => cases h
  | more e => cases h
  | bad D' e he hf' h1 h2 => cases h
theorem next_grow {D : Dsc} (hf : D.fault = 0) (hp : D.place ≤ D.data.length) (hc : D.count ≤ 4096) (h : D.next.1.2.1 = true) : D.next.2.count = D.count + 1 ∧ D.place + 1 ≤ D.next.2.place ∧ D.next.2.count ≤ 4096 := by
  unfold Dsc.next at h ⊢
  rw [if_neg (by simp [hf])] at h ⊢
  by_cases h0 : D.place = 0
  · rw [if_pos h0] at h ⊢
    cases hh : headAt magicB D.data 0 with
    | none =>
      rw [hh] at h
      obtain ⟨a1, a2, a3⟩ := entry_grow (D := { D with place := 4 }) (headAt_none _ _ _ hh) hc h
      dsimp only at a1 a2 a3 ⊢
      exact ⟨a1, by omega, a3⟩
    | some r =>
      obtain ⟨i, c⟩ := r
      rw [hh] at h
      cases c <;> cases h
  · rw [if_neg h0] at h ⊢
    by_cases hfo : D.foot = true
    · rw [if_pos hfo] at h
      split at h <;> cases h
    · rw [if_neg hfo] at h ⊢
      exact entry_grow hp hc h
/-- a fault that is told stays -/
theorem entry_fault {D : Dsc} (hp : D.place ≤ D.data.length) (hc : D.count ≤ 4096) (h : D.entry.1.2.2 ≠ 0) : D.entry.2.fault = D.entry.1.2.2 := by
  have hE := entry_cases D hp hc
  generalize D.entry = X at h hE
  cases hE with
  | txn t r e ht hlt => exact absurd rfl h
  | foot e => exact absurd rfl h
  | more e => exact absurd rfl h
  | bad D' e he hf' h1 h2 => exact hf'
theorem next_fault {D : Dsc} (hf : D.fault = 0) (hp : D.place ≤ D.data.length) (hc : D.count ≤ 4096) (h : D.next.1.2.2 ≠ 0) : D.next.2.fault = D.next.1.2.2 ∧ D.next.1.2.1 = false := by
  have hfl : D.next.1.2.1 = false := by
    cases hok : D.next.1.2.1 with
    | false => rfl
    | true => exact absurd (next_ok hf hp hc hok).1 h
  refine ⟨?_, hfl⟩
  unfold Dsc.next at h ⊢
  rw [if_neg (by simp [hf])] at h ⊢
  by_cases h0 : D.place = 0
  · rw [if_pos h0] at h ⊢
    cases hh : headAt magicB D.data 0 with
    | none =>
      rw [hh] at h
      exact entry_fault (D := { D with place := 4 }) (headAt_none _ _ _ hh) hc h
    | some r =>
      obtain ⟨i, c⟩ := r
      rw [hh] at h
      cases c
      · rfl
      · dsimp only at h ⊢
        unfold Dsc.miss at h ⊢
        split
        · rfl
        · rename_i hen
          rw [if_neg hen] at h
          exact absurd rfl h
  · rw [if_neg h0] at h ⊢
    by_cases hfo : D.foot = true
    · rw [if_pos hfo] at h ⊢
      split
      · rfl
      · rename_i hl
        rw [if_neg hl] at h
        exact absurd rfl h
    · rw [if_neg hfo] at h ⊢
      exact entry_fault hp hc h
/-- what waits for more bytes goes on as if it had never been asked -/
structure Waits (D D' : Dsc) : Prop where
  data : D'.data = D.data
  ended : D'.ended = D.ended
  fault : D'.fault = D.fault
  count : D'.count = D.count
  up : D.place ≤ D'.place
  le : D'.place ≤ D.data.length
  again : ∀ s b, (D.more s b).next = (D'.more s b).next
theorem Waits.refl {D : Dsc} (h : D.place ≤ D.data.length) : Waits D D := ⟨rfl, rfl, rfl, rfl, Nat.le_refl _, h, fun _ _ => rfl⟩
theorem footer_wait {D : Dsc} (hen : D.ended = false) (hf : D.fault = 0) (hfo : D.foot = false) (hp0 : 0 < D.place) (hp : D.place + 1 ≤ D.data.length) (h : D.footer.1 = 0)
    (he : ∀ s b, (D.more s b).next = ((TxnP.zero, false, (D.more s b).footer.1), (D.more s b).footer.2)) : Waits D D.footer.2 := by
  obtain ⟨d, en, p, c, fo, fa⟩ := D
  dsimp only at hen hp hf hfo hp0
  subst hen; subst hf; subst hfo
  cases hm : numP d (p + 1) 4096 with
  | error e =>
    have e1 : (Dsc.mk d false p c false 0).footer = (Dsc.mk d false p c false 0).footer := rfl
    obtain ⟨_, e2⟩ := numP_err hm
    by_cases h51 : e.2 = 51
    · have : (Dsc.mk d false p c false 0).footer.2 = Dsc.mk d false p c false 0 := by
        unfold Dsc.footer
        dsimp only
        rw [hm]
        dsimp only
        rw [if_pos h51]
        rfl
      rw [this]
      exact Waits.refl (by dsimp only; omega)
    · unfold Dsc.footer at h
      dsimp only at h
      rw [hm] at h
      dsimp only at h
      rw [if_neg h51] at h
      exact absurd h e2
  | ok y =>
    obtain ⟨m, z⟩ := y
    obtain ⟨z1, z2, z3⟩ := numP_le hp hm
    have hf2 : (Dsc.mk d false p c false 0).footer.2 = Dsc.mk d false z c true 0 ∧ m = c ∧ z = d.length := by
      unfold Dsc.footer at h ⊢
      dsimp only at h ⊢
      rw [hm] at h ⊢
      dsimp only at h ⊢
      by_cases hmc : m ≠ c
      · rw [if_pos hmc] at h
        have h' : (72 : Int) = 0 := h
        cases h'
      · rw [if_neg hmc] at h ⊢
        by_cases hz : z < d.length
        · rw [if_pos hz] at h
          have h' : (61 : Int) = 0 := h
          cases h'
        · rw [if_neg hz]
          exact ⟨rfl, Decidable.not_not.1 hmc, by omega⟩
    obtain ⟨hf2, rfl, hz⟩ := hf2
    rw [hf2]
    refine ⟨rfl, rfl, rfl, rfl, by dsimp only; omega, by dsimp only; omega, fun s b => ?_⟩
    rw [he]
    have hz0 : ¬ z = 0 := by omega
    unfold Dsc.footer Dsc.next Dsc.more
    dsimp only
    rw [(good_num 4096).okApp s hp hm]
    dsimp only
    rw [if_neg (show ¬ (m ≠ m) by simp), if_neg (show ¬ ((0 : Int) ≠ 0) by simp), if_neg hz0, if_pos rfl]
    by_cases hs : z < (d ++ s).length
    · rw [if_pos hs, if_pos hs]
      rfl
    · rw [if_neg hs, if_neg hs]
theorem entry_wait {D : Dsc} (hen : D.ended = false) (hf : D.fault = 0) (hfo : D.foot = false) (hp0 : 0 < D.place) (hp : D.place ≤ D.data.length) (h1 : D.entry.1.2.1 = false) (h2 : D.entry.1.2.2 = 0) : Waits D D.entry.2 := by
  have hne : ∀ s b, (D.more s b).next = (D.more s b).entry := fun s b => by
    unfold Dsc.next
    rw [if_neg (by show ¬ D.fault ≠ 0; simp [hf]), if_neg (show ¬ (D.more s b).place = 0 by show ¬ D.place = 0; omega), if_neg (show ¬ (D.more s b).foot = true by show ¬ D.foot = true; simp [hfo])]
  cases hn : numP D.data D.place 512 with
  | error e =>
    obtain ⟨e1, e2⟩ := numP_err hn
    by_cases h51 : e.2 = 51
    · have : D.entry.2 = D := by
        unfold Dsc.entry
        rw [hn]
        dsimp only
        rw [if_pos h51]
        unfold Dsc.miss
        rw [hen]
        rfl
      rw [this]
      exact Waits.refl hp
    · unfold Dsc.entry at h2
      rw [hn] at h2
      dsimp only at h2
      rw [if_neg h51] at h2
      exact absurd h2 e2
  | ok x =>
    obtain ⟨n, q⟩ := x
    obtain ⟨q1, q2, q3⟩ := numP_le hp hn
    by_cases hz : n = 0
    · subst hz
      have hq := numP_zero hn
      have he : ∀ s b, (D.more s b).entry = ((TxnP.zero, false, (D.more s b).footer.1), (D.more s b).footer.2) := fun s b => by
        unfold Dsc.entry
        rw [show (D.more s b).data = D.data ++ s from rfl, show (D.more s b).place = D.place from rfl, (good_num 512).okApp s hp hn]
        dsimp only
        rw [if_pos rfl]
      have e0 : D.entry = ((TxnP.zero, false, D.footer.1), D.footer.2) := by
        unfold Dsc.entry
        rw [hn]
        dsimp only
        rw [if_pos rfl]
      rw [e0] at h2 ⊢
      exact footer_wait hen hf hfo hp0 (by omega) h2 (fun s b => by rw [hne, he])
    · have : D.entry.2 = D := by
        unfold Dsc.entry at h1 h2 ⊢
        rw [hn] at h1 h2 ⊢
        dsimp only at h1 h2 ⊢
        rw [if_neg hz] at h1 h2 ⊢
        by_cases hc : 4096 ≤ D.count
        · rw [if_pos hc] at h2
          have h' : (71 : Int) = 0 := h2
          cases h'
        rw [if_neg hc] at h1 h2 ⊢
        by_cases hl : D.data.length < q + n
        · rw [if_pos hl]
          unfold Dsc.miss
          rw [hen]
          rfl
        rw [if_neg hl] at h1 h2
        by_cases hr : (decR ((D.data.drop q).take n)).2.2 ≠ 0
        · rw [if_pos hr] at h2
          exact absurd h2 hr
        · rw [if_neg hr] at h1
          cases h1
      rw [this]
      exact Waits.refl hp
theorem next_wait {D : Dsc} (hen : D.ended = false) (hf : D.fault = 0) (hp : D.place ≤ D.data.length) (hfp : D.place = 0 → D.foot = false) (h1 : D.next.1.2.1 = false) (h2 : D.next.1.2.2 = 0) : Waits D D.next.2 := by
  by_cases h0 : D.place = 0
  · cases hh : headAt magicB D.data 0 with
    | none =>
      have h4 := headAt_none _ _ _ hh
      have e0 : D.next = ({ D with place := 4 } : Dsc).entry := by
        unfold Dsc.next
        rw [if_neg (by simp [hf]), if_pos h0, hh]
      rw [e0] at h1 h2 ⊢
      have hw := entry_wait (D := { D with place := 4 }) hen hf (hfp h0) (by show 0 < 4; decide) h4 h1 h2
      refine ⟨hw.data, hw.ended, hw.fault, hw.count, by have := hw.up; dsimp only at this; omega, hw.le, fun s b => ?_⟩
      rw [← hw.again]
      have eL : (D.more s b).next = (({ D with place := 4 } : Dsc).more s b).entry := by
        unfold Dsc.next
        rw [if_neg (show ¬ (D.more s b).fault ≠ 0 by show ¬ D.fault ≠ 0; simp [hf]), if_pos (show (D.more s b).place = 0 from h0), show (D.more s b).data = D.data ++ s from rfl, headAt_app _ _ s _ _ hh (fun j e => by cases e)]
        rfl
      have eR : (({ D with place := 4 } : Dsc).more s b).next = (({ D with place := 4 } : Dsc).more s b).entry := by
        unfold Dsc.next
        rw [if_neg (show ¬ (({ D with place := 4 } : Dsc).more s b).fault ≠ 0 by show ¬ D.fault ≠ 0; simp [hf]), if_neg (show ¬ (({ D with place := 4 } : Dsc).more s b).place = 0 by show ¬ 4 = 0; decide), if_neg (show ¬ (({ D with place := 4 } : Dsc).more s b).foot = true by show ¬ D.foot = true; simp [hfp h0])]
      rw [eL, eR]
    | some r =>
      obtain ⟨i, c⟩ := r
      have e0 : D.next.2 = D := by
        unfold Dsc.next at h2 ⊢
        rw [if_neg (by simp [hf]), if_pos h0, hh] at h2 ⊢
        cases c
        · have h' : (70 : Int) = 0 := h2
          cases h'
        · dsimp only
          unfold Dsc.miss
          rw [hen]
          rfl
      rw [e0]
      exact Waits.refl hp
  · by_cases hfo : D.foot = true
    · have e0 : D.next.2 = D := by
        unfold Dsc.next at h2 ⊢
        rw [if_neg (by simp [hf]), if_neg h0, if_pos hfo] at h2 ⊢
        by_cases hl : D.place < D.data.length
        · rw [if_pos hl] at h2
          have h' : (61 : Int) = 0 := h2
          cases h'
        · rw [if_neg hl]
      rw [e0]
      exact Waits.refl hp
    · have e0 : D.next = D.entry := by
        unfold Dsc.next
        rw [if_neg (by simp [hf]), if_neg h0, if_neg hfo]
      rw [e0] at h1 h2 ⊢
      exact entry_wait hen hf (by simpa using hfo) (by omega) hp h1 h2
/-- a reading at its end -/
theorem next_fin {D : Dsc} (hen : D.ended = true) (hf : D.fault = 0) (hp : D.place ≤ D.data.length) (hc : D.count ≤ 4096) (hfp : D.place = 0 → D.foot = false) (h1 : D.next.1.2.1 = false) (h2 : D.next.1.2.2 = 0) :
    D.next.2.foot = true ∧ D.next.2.place = D.data.length ∧ D.next.2.count = D.count ∧ D.next.2.fault = 0 ∧ D.next.2.data = D.data ∧ D.next.2.ended = true := by
  have key : ∀ D : Dsc, D.ended = true → D.fault = 0 → D.place ≤ D.data.length → D.count ≤ 4096 → D.entry.1.2.1 = false → D.entry.1.2.2 = 0 → D.entry.2.foot = true ∧ D.entry.2.place = D.data.length ∧ D.entry.2.count = D.count ∧ D.entry.2.fault = 0 ∧ D.entry.2.data = D.data ∧ D.entry.2.ended = true := fun D hen hf hp hc h1 h2 => by
    have hE := entry_cases D hp hc
    generalize D.entry = X at h1 h2 hE
    cases hE with
    | txn t r e ht hlt => cases h1
    | foot e => exact ⟨rfl, rfl, rfl, hf, rfl, hen⟩
    | more e => rw [hen] at e; cases e
    | bad D' e he hf' h3 h4 => exact absurd h2 he
  unfold Dsc.next at h1 h2 ⊢
  rw [if_neg (by simp [hf])] at h1 h2 ⊢
  by_cases h0 : D.place = 0
  · rw [if_pos h0] at h1 h2 ⊢
    cases hh : headAt magicB D.data 0 with
    | none =>
      rw [hh] at h1 h2
      exact key { D with place := 4 } hen hf (headAt_none _ _ _ hh) hc h1 h2
    | some r =>
      obtain ⟨i, c⟩ := r
      rw [hh] at h2
      cases c
      · have h' : (70 : Int) = 0 := h2
        cases h'
      · dsimp only at h2
        unfold Dsc.miss at h2
        rw [if_pos hen] at h2
        have h' : (51 : Int) = 0 := h2
        cases h'
  · rw [if_neg h0] at h1 h2 ⊢
    by_cases hfo : D.foot = true
    · rw [if_pos hfo] at h1 h2 ⊢
      by_cases hl : D.place < D.data.length
      · rw [if_pos hl] at h2
        have h' : (61 : Int) = 0 := h2
        cases h'
      · rw [if_neg hl]
        exact ⟨hfo, by dsimp only; omega, rfl, hf, rfl, hen⟩
    · rw [if_neg hfo] at h1 h2 ⊢
      exact key D hen hf hp hc h1 h2
/-- a reading under way of bytes of which 'rest' lies ahead; R: what a reading of all tells -/
structure Under (data : List UInt8) (R : List TxnP × Nat × Int) (D : Dsc) (got : List TxnP) (rest : List UInt8) : Prop where
  fault : D.fault = 0
  le : D.place ≤ D.data.length
  count : D.count ≤ 4096
  num : got.length = D.count
  small : D.count ≤ D.place
  data : D.data ++ rest = data
  ended : D.ended = true → rest = []
  foot : D.place = 0 → D.foot = false
  all : (D.more rest true).all (4097 - D.count) got = R
theorem Under.nextMore {data rest : List UInt8} {R : List TxnP × Nat × Int} {D : Dsc} {got : List TxnP} (h : Under data R D got rest) (hn : D.next.1.2.1 = true ∨ D.next.1.2.2 ≠ 0) : (D.more rest true).next = (D.next.1, D.next.2.more rest true) ∨ (D.ended = true ∧ rest = []) := by
  cases he : D.ended with
  | false => exact .inl (next_app he h.fault h.le rest true hn)
  | true => exact .inr ⟨rfl, h.ended he⟩
theorem next_foot {D : Dsc} (hp : D.next.1.2.1 = true) (h : D.foot = false ∨ True) : True := trivial
theorem Under.ok {data rest : List UInt8} {R : List TxnP × Nat × Int} {D : Dsc} {got : List TxnP} (h : Under data R D got rest) (hn : D.next.1.2.1 = true) : D.next.1.2.2 = 0 ∧ Under data R D.next.2 (got ++ [D.next.1.1]) rest ∧ D.next.2.count = D.count + 1 ∧ D.next.2.ended = D.ended ∧ D.next.2.data = D.data := by
  obtain ⟨a1, a2, a3, a4, a5, a6⟩ := next_ok h.fault h.le h.count hn
  obtain ⟨b1, b2, b3⟩ := next_grow h.fault h.le h.count hn
  have := h.small
  refine ⟨a1, ⟨a4, by rw [a2]; exact a5, a6, by rw [List.length_append, h.num, b1]; rfl, by omega, by rw [a2]; exact h.data, fun he => h.ended (by rw [← a3]; exact he), fun hz => by omega, ?_⟩, b1, a3, a2⟩
  have hc := h.count
  have hall := h.all
  rw [show 4097 - D.count = (4097 - D.next.2.count) + 1 by omega] at hall
  unfold Dsc.all at hall
  rcases h.nextMore (.inl hn) with e | ⟨e1, e2⟩
  · rw [e] at hall
    dsimp only at hall
    rw [if_neg (by rw [a1]; simp), if_neg (by rw [hn]; simp)] at hall
    exact hall
  · subst e2
    rw [more_self e1, if_neg (by rw [a1]; simp), if_neg (by rw [hn]; simp)] at hall
    rw [more_self (a3.trans e1)]
    exact hall
theorem Under.bad {data rest : List UInt8} {R : List TxnP × Nat × Int} {D : Dsc} {got : List TxnP} (h : Under data R D got rest) (hn : D.next.1.2.2 ≠ 0) : R = ([], D.next.2.place, D.next.1.2.2) ∧ D.next.2.fault = D.next.1.2.2 ∧ D.next.1.2.1 = false ∧ D.next.2.place ≤ D.data.length := by
  obtain ⟨b1, b2⟩ := next_fault h.fault h.le h.count hn
  refine ⟨?_, b1, b2, next_bad h.fault h.le h.count hn⟩
  have hc := h.count
  have hall := h.all
  rw [show 4097 - D.count = (4096 - D.count) + 1 by omega] at hall
  unfold Dsc.all at hall
  rcases h.nextMore (.inr hn) with e | ⟨e1, e2⟩
  · rw [e] at hall
    dsimp only at hall
    rw [if_pos hn] at hall
    exact hall.symm
  · subst e2
    rw [more_self e1, if_pos hn] at hall
    exact hall.symm
theorem Under.wait {data rest : List UInt8} {R : List TxnP × Nat × Int} {D : Dsc} {got : List TxnP} (h : Under data R D got rest) (hen : D.ended = false) (h1 : D.next.1.2.1 = false) (h2 : D.next.1.2.2 = 0) : Under data R D.next.2 got rest ∧ D.next.2.ended = false ∧ D.next.2.data = D.data := by
  have hw := next_wait hen h.fault h.le h.foot h1 h2
  have hs := h.small
  have hu := hw.up
  refine ⟨⟨hw.fault.trans h.fault, by rw [hw.data]; exact hw.le, by rw [hw.count]; exact h.count, by rw [hw.count]; exact h.num, by rw [hw.count]; omega, by rw [hw.data]; exact h.data, fun he => (by rw [hw.ended, hen] at he; cases he), fun hz => ?_, ?_⟩, hw.ended.trans hen, hw.data⟩
  · have hz0 : D.place = 0 := by omega
    have hf0 := h.foot hz0
    cases hh : headAt magicB D.data 0 with
    | none =>
      have h4 := headAt_none _ _ _ hh
      have e0 : D.next = ({ D with place := 4 } : Dsc).entry := by
        unfold Dsc.next
        rw [if_neg (by simp [h.fault]), if_pos hz0, hh]
      rw [e0] at h1 h2 hz
      have hw4 := entry_wait (D := { D with place := 4 }) hen h.fault hf0 (by show 0 < 4; decide) h4 h1 h2
      have := hw4.up
      dsimp only at this hz
      omega
    | some r =>
      obtain ⟨i, c⟩ := r
      have e0 : D.next.2 = D := by
        unfold Dsc.next at h2 ⊢
        rw [if_neg (by simp [h.fault]), if_pos hz0, hh] at h2 ⊢
        cases c
        · have h' : (70 : Int) = 0 := h2
          cases h'
        · dsimp only
          unfold Dsc.miss
          rw [hen]
          rfl
      rw [e0]
      exact hf0
  · rw [← h.all, hw.count]
    have hc := h.count
    rw [show 4097 - D.count = (4096 - D.count) + 1 by omega]
    unfold Dsc.all
    rw [hw.again]
theorem Under.fin {data rest : List UInt8} {R : List TxnP × Nat × Int} {D : Dsc} {got : List TxnP} (h : Under data R D got rest) (hen : D.ended = true) (h1 : D.next.1.2.1 = false) (h2 : D.next.1.2.2 = 0) :
    R = (got, 0, 0) ∧ D.next.2.foot = true ∧ D.next.2.place = data.length ∧ D.next.2.count = got.length ∧ D.next.2.fault = 0 ∧ D.next.2.ended = true ∧ D.next.2.data = data := by
  obtain ⟨a1, a2, a3, a4, a5, a6⟩ := next_fin hen h.fault h.le h.count h.foot h1 h2
  have hr := h.ended hen
  subst hr
  have hd := h.data
  rw [List.append_nil] at hd
  refine ⟨?_, a1, by rw [a2, hd], by rw [a3, h.num], a4, a6, a5.trans hd⟩
  have hall := h.all
  have hc := h.count
  rw [show 4097 - D.count = (4096 - D.count) + 1 by omega, more_self hen] at hall
  unfold Dsc.all at hall
  rw [if_neg (by rw [h2]; simp), if_pos h1] at hall
  exact hall.symm
/-- more bytes come -/
theorem Under.feed {data l rest : List UInt8} {R : List TxnP × Nat × Int} {D : Dsc} {got : List TxnP} (h : Under data R D got (l ++ rest)) (hen : D.ended = false) : Under data R (D.feed l) got rest ∧ (D.feed l).ended = false ∧ (D.feed l).data = D.data ++ l := by
  have e : D.feed l = { D with data := D.data ++ l } := by unfold Dsc.feed; rw [hen]; rfl
  rw [e]
  refine ⟨⟨h.fault, ?_, h.count, h.num, h.small, by rw [← h.data]; simp, fun he => ?_, h.foot, ?_⟩, hen, rfl⟩
  · have := h.le
    show D.place ≤ (D.data ++ l).length
    rw [List.length_append]; omega
  · have he' : D.ended = true := he
    rw [hen] at he'; cases he'
  · rw [← h.all]
    show Dsc.all _ (Dsc.more _ rest true) got = _
    congr 1
    simp [Dsc.more]
/-- all bytes came -/
theorem Under.stop {data : List UInt8} {R : List TxnP × Nat × Int} {D : Dsc} {got : List TxnP} (h : Under data R D got []) : Under data R { D with ended := true } got [] :=
  ⟨h.fault, h.le, h.count, h.num, h.small, h.data, fun _ => rfl, h.foot, h.all⟩
theorem under_new (data : List UInt8) : Under data ((⟨data, true, 0, 0, false, 0⟩ : Dsc).all 4097 []) Dsc.new [] data :=
  ⟨rfl, Nat.le_refl _, Nat.zero_le _, rfl, Nat.le_refl _, rfl, fun h => (by cases h), fun _ => rfl, rfl⟩
theorem under_whole (data : List UInt8) : Under data ((⟨data, true, 0, 0, false, 0⟩ : Dsc).all 4097 []) ⟨data, true, 0, 0, false, 0⟩ [] [] :=
  ⟨rfl, Nat.zero_le _, Nat.zero_le _, rfl, Nat.le_refl _, by simp, fun _ => rfl, fun _ => rfl, congrArg (fun D : Dsc => D.all 4097 []) (more_self rfl)⟩
theorem all_place : ∀ (k : Nat) {D : Dsc} (got : List TxnP), D.fault = 0 → D.place ≤ D.data.length → D.count ≤ 4096 → (D.all k got).2.1 ≤ D.data.length
  | 0, D, got, hf, hp, hc => Nat.zero_le _
  | k + 1, D, got, hf, hp, hc => by
    unfold Dsc.all
    split
    · rename_i h
      exact next_bad hf hp hc h
    · split
      · exact Nat.zero_le _
      · rename_i h1 h2
        obtain ⟨a1, a2, a3, a4, a5, a6⟩ := next_ok hf hp hc (by simpa using h2)
        rw [← a2]
        exact all_place k _ a4 (by rw [a2]; exact a5) a6
theorem all_bad : ∀ (k : Nat) {D : Dsc} (got : List TxnP), (D.all k got).2.2 ≠ 0 → (D.all k got).1 = []
  | 0, D, got, h => absurd rfl h
  | k + 1, D, got, h => by
    unfold Dsc.all at h ⊢
    split
    · rfl
    · rename_i h1
      rw [if_neg h1] at h
      split
      · rename_i h2
        rw [if_pos h2] at h
        exact absurd rfl h
      · rename_i h2
        rw [if_neg h2] at h
        exact all_bad k _ h
theorem all_good : ∀ (k : Nat) {D : Dsc} (got : List TxnP), (D.all k got).2.2 = 0 → (D.all k got).2.1 = 0
  | 0, D, got, h => rfl
  | k + 1, D, got, h => by
    unfold Dsc.all at h ⊢
    split
    · rename_i h1
      rw [if_pos h1] at h
      exact absurd h h1
    · rename_i h1
      rw [if_neg h1] at h
      split
      · rfl
      · rename_i h2
        rw [if_neg h2] at h
        exact all_good k _ h
/-! ### very many -/
theorem ents_go : ∀ (l : List TxnP) (k : Nat) {D : Dsc} {r : List UInt8} (got : List TxnP), (∀ t ∈ l, t.Right) → D.fault = 0 → D.foot = false → 0 < D.place → D.count + l.length ≤ 4096 → D.data.drop D.place = entsB l ++ r →
    D.all (k + l.length) got = ({ D with place := D.place + (entsB l).length, count := D.count + l.length } : Dsc).all k (got ++ l)
  | [], k, D, r, got, hl, hf, hfo, hp, hc, h => by simp [entsB]
  | t :: l, k, D, r, got, hl, hf, hfo, hp, hc, h => by
    have he : D.data.drop D.place = entB t ++ (entsB l ++ r) := by rw [h]; simp [entsB]
    simp only [List.length_cons] at hc
    have hn : D.next = ((t, true, 0), { D with place := D.place + (entB t).length, count := D.count + 1 }) := by
      unfold Dsc.next
      rw [if_neg (by simp [hf]), if_neg (by omega), if_neg (by simp [hfo])]
      exact entry_at he (hl t (by simp)) (by omega)
    rw [List.length_cons, show k + (l.length + 1) = (k + l.length) + 1 by omega, Dsc.all, hn]
    dsimp only
    rw [if_neg (by simp), if_neg (by simp)]
    rw [ents_go l k (D := { D with place := D.place + (entB t).length, count := D.count + 1 }) (r := r) (got ++ [t]) (fun x hx => hl x (by simp [hx])) hf hfo (by dsimp only; omega) (by dsimp only; omega) (by dsimp only; exact drop_more he)]
    simp only [entsB, List.flatMap_cons, List.length_append, List.append_assoc, List.cons_append, List.nil_append]
    congr 2 <;> omega
theorem log_more {l : List TxnP} {t : TxnP} (hl : ∀ x ∈ l, x.Right) (ht : t.Right) (hc : l.length = 4096) (r : List UInt8) :
    (⟨magicB ++ (entsB l ++ (entB t ++ r)), true, 0, 0, false, 0⟩ : Dsc).all 4097 [] = ([], 4 + (entsB l).length, 71) := by
  obtain ⟨d, hd⟩ : ∃ d, d = magicB ++ (entsB l ++ (entB t ++ r)) := ⟨_, rfl⟩
  rw [← hd]
  have h4 : d.drop 4 = entsB l ++ (entB t ++ r) := by rw [hd, List.drop_left' (show magicB.length = 4 from rfl)]
  have h0 : (⟨d, true, 0, 0, false, 0⟩ : Dsc).next = (⟨d, true, 4, 0, false, 0⟩ : Dsc).next := by
    have hh : headAt magicB d 0 = none := by rw [hd]; rfl
    unfold Dsc.next
    rw [if_neg (by simp), if_pos rfl, if_neg (by simp), if_neg (by simp), if_neg (by simp)]
    dsimp only
    rw [hh]
  have h1 : (⟨d, true, 0, 0, false, 0⟩ : Dsc).all 4097 [] = (⟨d, true, 4, 0, false, 0⟩ : Dsc).all 4097 [] := by
    unfold Dsc.all
    rw [h0]
  rw [h1, show 4097 = 1 + l.length by omega, ents_go l 1 (D := ⟨d, true, 4, 0, false, 0⟩) (r := entB t ++ r) [] hl rfl rfl (by show 0 < 4; decide) (by dsimp only; omega) h4]
  dsimp only
  have h5 : d.drop (4 + (entsB l).length) = entB t ++ r := drop_more h4
  have hp := t.body_pos ht
  have hb := t.body_le ht
  have hn : numP d (4 + (entsB l).length) 512 = .ok (t.body.length, 4 + (entsB l).length + (formN t.body.length).length) := num_at (r := t.body ++ r) (by rw [h5]; simp [entB]) (by omega) (by omega)
  have hnx : (⟨d, true, 4 + (entsB l).length, 0 + l.length, false, 0⟩ : Dsc).next = ((TxnP.zero, false, 71), ⟨d, true, 4 + (entsB l).length, 0 + l.length, false, 71⟩) := by
    unfold Dsc.next
    rw [if_neg (by simp), if_neg (by dsimp only; omega), if_neg (by simp)]
    unfold Dsc.entry
    dsimp only
    rw [hn]
    dsimp only
    rw [if_neg (by omega), if_pos (by omega)]
    rfl
  rw [show (1 : Nat) = 0 + 1 from rfl, Dsc.all, hnx]
  dsimp only
  rw [if_pos (by decide)]
end Go.Proofs.Ytjfjleejbbmmaaa
