/- The plain readings of logs: the scanner's and the document's, step by step the same. -/
import Derived.Test.YtjfjleejbbmmaaaRecP2
set_option linter.unusedVariables false
set_option linter.unusedSimpArgs false
namespace Go.Proofs.Ytjfjleejbbmmaaa
open Go
theorem scan_take : ∀ (k : Nat) (l : List UInt8) (i acc : Nat), i + k = 8 → scanL i acc (l.take k) = scanL i acc l
  | 0, l, i, acc, h => by
    have hi : 8 ≤ i := by omega
    cases l <;> simp [scanL, hi]
  | k + 1, [], i, acc, h => rfl
  | k + 1, b :: r, i, acc, h => by
    have := scan_take k r (i + 1) (acc + (b.toNat % 128) * 128 ^ i) (by omega)
    simp only [List.take_succ_cons, scanL, this]
/-- a number is told by the eight bytes at its place -/
theorem scan_win (l : List UInt8) : scanL 0 0 (l.take 8) = scanL 0 0 l := scan_take 8 l 0 0 rfl
def magicB : List UInt8 := [80, 82, 79, 1]
/-- where the bytes leave the magic ones, and whether they lack -/
def headAt : List UInt8 → List UInt8 → Nat → Option (Nat × Bool)
  | [], _, _ => none
  | _ :: _, [], i => some (i, true)
  | m :: r, b :: l, i => if b = m then headAt r l (i + 1) else some (i, false)
/-! ### the scanner -/
structure Scn where
  rest : List UInt8
  at_ : Nat
  state : Nat
  count : Nat
  ended : Bool
  fault : Int
def Scn.fail (S : Scn) (p : Nat) (e : Int) : Scn := { S with at_ := S.at_ + p, fault := e }
def Scn.short (S : Scn) (p : Nat) : Int × Scn := if S.ended then (51, S.fail p 51) else (0, S)
def Scn.read (S : Scn) (n : Nat) : Scn := { S with at_ := S.at_ + n, rest := S.rest.drop n }
def Scn.number (S : Scn) (p : Nat) (most : Int) : (Nat × Nat × Bool × Int) × Scn :=
  match numP S.rest p most with
  | .ok (n, q) => ((n, q - p, true, 0), S)
  | .error e => if e.2 = 51 then ((0, 0, false, (S.short p).1), (S.short p).2) else ((0, 0, false, e.2), S.fail p e.2)
def Scn.head (S : Scn) : (Bool × Int) × Scn :=
  match headAt magicB S.rest 0 with
  | none => ((true, 0), { S.read 4 with state := 1 })
  | some (i, true) => ((false, (S.short i).1), (S.short i).2)
  | some (i, false) => ((false, 70), S.fail i 70)
def Scn.foot (S : Scn) (p : Nat) : Int × Scn :=
  match S.number p 4096 with
  | ((_, _, false, e), S') => (e, S')
  | ((n, size, true, _), _) => if n ≠ S.count then (72, S.fail p 72) else
    if p + size < S.rest.length then (61, { S.read (p + size) with state := 2, fault := 61 }) else (0, { S.read (p + size) with state := 2 })
def Scn.entry (S : Scn) : (TxnP × Bool × Int) × Scn :=
  match S.number 0 512 with
  | ((_, _, false, e), S') => ((TxnP.zero, false, e), S')
  | ((n, size, true, _), _) =>
    if n = 0 then ((TxnP.zero, false, (S.foot size).1), (S.foot size).2) else
    if S.count = 4096 then ((TxnP.zero, false, 71), S.fail 0 71) else
    if S.rest.length < size + n then ((TxnP.zero, false, (S.short 0).1), (S.short 0).2) else
    let r := decR ((S.rest.drop size).take n)
    if r.2.2 ≠ 0 then ((TxnP.zero, false, r.2.2), S.fail (size + r.2.1.toNat) r.2.2) else
    ((r.1, true, 0), { S.read (size + n) with count := S.count + 1 })
def Scn.next (S : Scn) : (TxnP × Bool × Int) × Scn :=
  if S.fault ≠ 0 then ((TxnP.zero, false, S.fault), S) else
  if S.state = 0 then (match S.head with
    | ((false, e), S') => ((TxnP.zero, false, e), S')
    | ((true, _), S') => S'.entry) else
  if S.state = 1 then S.entry else
  if S.rest ≠ [] then ((TxnP.zero, false, 61), S.fail 0 61) else ((TxnP.zero, false, 0), S)
/-! ### the document's -/
structure Dsc where
  data : List UInt8
  ended : Bool
  place : Nat
  count : Nat
  foot : Bool
  fault : Int
def Dsc.fail (D : Dsc) (p : Nat) (e : Int) : Dsc := { D with place := p, fault := e }
def Dsc.miss (D : Dsc) (p : Nat) : Int × Dsc := if D.ended then (51, D.fail p 51) else (0, D)
def Dsc.footer (D : Dsc) : Int × Dsc :=
  match numP D.data (D.place + 1) 4096 with
  | .error e => if e.2 = 51 then D.miss (D.place + 1) else (e.2, D.fail (D.place + 1) e.2)
  | .ok (n, q) => if n ≠ D.count then (72, D.fail (D.place + 1) 72) else
    if q < D.data.length then (61, { D with place := q, foot := true, fault := 61 }) else (0, { D with place := q, foot := true })
def Dsc.entry (D : Dsc) : (TxnP × Bool × Int) × Dsc :=
  match numP D.data D.place 512 with
  | .error e => if e.2 = 51 then ((TxnP.zero, false, (D.miss D.place).1), (D.miss D.place).2) else ((TxnP.zero, false, e.2), D.fail D.place e.2)
  | .ok (n, q) =>
    if n = 0 then ((TxnP.zero, false, D.footer.1), D.footer.2) else
    if 4096 ≤ D.count then ((TxnP.zero, false, 71), D.fail D.place 71) else
    if D.data.length < q + n then ((TxnP.zero, false, (D.miss D.place).1), (D.miss D.place).2) else
    let r := decR ((D.data.drop q).take n)
    if r.2.2 ≠ 0 then ((TxnP.zero, false, r.2.2), D.fail (q + r.2.1.toNat) r.2.2) else
    ((r.1, true, 0), { D with place := q + n, count := D.count + 1 })
def Dsc.next (D : Dsc) : (TxnP × Bool × Int) × Dsc :=
  if D.fault ≠ 0 then ((TxnP.zero, false, D.fault), D) else
  if D.place = 0 then (match headAt magicB D.data 0 with
    | some (i, true) => ((TxnP.zero, false, (D.miss i).1), (D.miss i).2)
    | some (i, false) => ((TxnP.zero, false, 70), D.fail i 70)
    | none => ({ D with place := 4 } : Dsc).entry) else
  if D.foot then (if D.place < D.data.length then ((TxnP.zero, false, 61), D.fail D.place 61) else ((TxnP.zero, false, 0), D)) else D.entry
/-- the scanner keeps what the document's reading has not read -/
structure Keeps (S : Scn) (D : Dsc) : Prop where
  fault : S.fault = D.fault
  place : S.at_ = D.place
  count : S.count = D.count
  ended : S.ended = D.ended
  foot : (S.state = 2 ↔ D.foot = true)
  le : D.count ≤ 4096
  rest : S.fault = 0 → D.place ≤ D.data.length ∧ S.rest = D.data.drop D.place ∧ S.state ≤ 2 ∧ (S.state = 0 ↔ D.place = 0)
theorem numP_drop (d : List UInt8) (p q : Nat) (most : Int) : numP (d.drop p) q most = match numP d (p + q) most with
    | .ok (n, r) => .ok (n, r - p)
    | .error e => .error (q, e.2) := by
  unfold numP
  rw [List.drop_drop]
  split
  · rfl
  · split
    · rfl
    · simp; omega
theorem scan_pos : ∀ (l : List UInt8) (i acc : Nat), 0 < i → (scanL i acc l).2.2 = 0 → 0 < (scanL i acc l).1
  | [], i, acc, h, h0 => by simp only [scanL] at h0; split at h0 <;> simp at h0
  | b :: r, i, acc, h, h0 => by
    simp only [scanL] at h0 ⊢
    split at h0
    · simp at h0
    · rename_i h8
      rw [if_neg h8]
      split at h0
      · rename_i hb
        rw [if_pos hb]
        split at h0
        · simp at h0
        · rename_i hz
          rw [if_neg hz]
          have hb0 : 0 < b.toNat := by omega
          have := Nat.mul_pos hb0 (Nat.pow_pos (n := i) (show 0 < 128 by decide))
          simp only
          omega
      · rename_i hb
        rw [if_neg hb]
        exact scan_pos r _ _ (by omega) h0
theorem scan_zero : ∀ (l : List UInt8), (scanL 0 0 l).2.2 = 0 → (scanL 0 0 l).1 = 0 → (scanL 0 0 l).2.1 = 1
  | [], h0, _ => by simp [scanL] at h0
  | b :: r, h0, h1 => by
    simp only [scanL] at h0 h1 ⊢
    rw [if_neg (by decide)] at h0 h1 ⊢
    by_cases hb : b.toNat < 128
    · rw [if_pos hb] at h0 h1 ⊢
      rw [if_neg (by omega)] at h0 h1 ⊢
    · rw [if_neg hb] at h0 h1 ⊢
      have := scan_pos r _ _ (by decide) h0
      omega
theorem numP_zero {d : List UInt8} {p q : Nat} {most : Int} (h : numP d p most = .ok (0, q)) : q = p + 1 := by
  unfold numP at h
  split at h
  · cases h
  · rename_i h0
    split at h
    · cases h
    · have h2 := Except.ok.inj h
      have e1 := congrArg Prod.fst h2
      have e2 := congrArg Prod.snd h2
      simp only at e1 e2
      rw [scan_zero _ (Decidable.not_not.1 h0) e1] at e2
      exact e2.symm
theorem numP_err {d : List UInt8} {p : Nat} {most : Int} {e : Int × Int} (h : numP d p most = .error e) : e.1 = p ∧ e.2 ≠ 0 := by
  unfold numP at h
  split at h
  · rename_i h1
    cases h
    exact ⟨rfl, h1⟩
  · split at h
    · cases h
      refine ⟨rfl, ?_⟩
      show (53 : Int) ≠ 0
      decide
    · cases h
theorem headAt_some : ∀ (m l : List UInt8) (i j : Nat) (b : Bool), headAt m l i = some (j, b) → i ≤ j ∧ j ≤ i + l.length
  | [], _, _, _, _, h => by simp [headAt] at h
  | _ :: _, [], i, j, b, h => by simp [headAt] at h; omega
  | m :: r, x :: l, i, j, b, h => by
    simp only [headAt] at h
    split at h
    · have := headAt_some r l (i + 1) j b h
      simp only [List.length_cons]; omega
    · simp at h; simp only [List.length_cons]; omega
theorem headAt_none : ∀ (m l : List UInt8) (i : Nat), headAt m l i = none → m.length ≤ l.length
  | [], _, _, h => Nat.zero_le _
  | _ :: _, [], i, h => by simp [headAt] at h
  | m :: r, x :: l, i, h => by
    simp only [headAt] at h
    split at h
    · have := headAt_none r l (i + 1) h
      simp only [List.length_cons]; omega
    · simp at h
theorem Keeps.failed {S : Scn} {D : Dsc} (h : Keeps S D) {p q : Nat} {e : Int} (he : e ≠ 0) (hq : q = D.place + p) : Keeps (S.fail p e) (D.fail q e) := by
  obtain ⟨a1, a2, a3, a4, a5, a6, a7⟩ := h
  exact ⟨rfl, by simp only [Scn.fail, Dsc.fail]; omega, a3, a4, a5, a6, fun hz => absurd hz he⟩
theorem Keeps.shorted {S : Scn} {D : Dsc} (h : Keeps S D) {p q : Nat} (hq : q = D.place + p) : (S.short p).1 = (D.miss q).1 ∧ Keeps (S.short p).2 (D.miss q).2 := by
  unfold Scn.short Dsc.miss
  rw [h.ended]
  split
  · exact ⟨rfl, h.failed (by decide) hq⟩
  · exact ⟨rfl, h⟩
theorem foot_rel {S : Scn} {D : Dsc} (h : Keeps S D) (hf : S.fault = 0) (hs : S.state = 1) {size : Nat} (h1 : size = 1) (hl : D.place + size ≤ D.data.length) : (S.foot size).1 = D.footer.1 ∧ Keeps (S.foot size).2 D.footer.2 := by
  subst h1
  obtain ⟨b1, b2, b3, b4⟩ := h.rest hf
  unfold Scn.foot Scn.number Dsc.footer
  rw [b2, numP_drop]
  cases hn : numP D.data (D.place + 1) 4096 with
  | error e =>
    obtain ⟨e1, e2⟩ := numP_err hn
    dsimp only
    by_cases h51 : e.2 = 51
    · rw [if_pos h51, if_pos h51]
      exact h.shorted rfl
    · rw [if_neg h51, if_neg h51]
      exact ⟨rfl, h.failed e2 rfl⟩
  | ok r =>
    obtain ⟨n, q⟩ := r
    obtain ⟨q1, q2, q3⟩ := numP_le hl hn
    dsimp only
    rw [h.count]
    by_cases hc : n ≠ D.count
    · rw [if_pos hc, if_pos hc]
      exact ⟨rfl, h.failed (by decide) rfl⟩
    · rw [if_neg hc, if_neg hc, List.length_drop]
      have hq : 1 + (q - D.place - 1) = q - D.place := by omega
      rw [hq]
      by_cases ht : q < D.data.length
      · rw [if_pos ht, if_pos (by omega)]
        exact ⟨rfl, ⟨rfl, by show S.at_ + _ = q; rw [h.place]; omega, h.count, h.ended, ⟨fun _ => rfl, fun _ => rfl⟩, h.le, fun hz => by cases hz⟩⟩
      · rw [if_neg ht, if_neg (by omega)]
        refine ⟨rfl, ⟨h.fault, by show S.at_ + _ = q; rw [h.place]; omega, h.count, h.ended, ⟨fun _ => rfl, fun _ => rfl⟩, h.le, fun _ => ⟨q1, ?_, Nat.le_refl _, ⟨fun hz => by simp at hz, fun hz => by have hz' : q = 0 := hz; omega⟩⟩⟩⟩
        show S.rest.drop _ = D.data.drop q
        rw [b2, List.drop_drop]
        congr 1
        omega
theorem entry_rel {S : Scn} {D : Dsc} (h : Keeps S D) (hf : S.fault = 0) (hs : S.state = 1) : S.entry.1 = D.entry.1 ∧ Keeps S.entry.2 D.entry.2 := by
  obtain ⟨b1, b2, b3, b4⟩ := h.rest hf
  unfold Scn.entry Scn.number Dsc.entry
  rw [b2, numP_drop, Nat.add_zero]
  cases hn : numP D.data D.place 512 with
  | error e =>
    obtain ⟨e1, e2⟩ := numP_err hn
    dsimp only
    by_cases h51 : e.2 = 51
    · rw [if_pos h51, if_pos h51]
      obtain ⟨c1, c2⟩ := h.shorted (p := 0) rfl
      exact ⟨by dsimp only; rw [c1]; rfl, c2⟩
    · rw [if_neg h51, if_neg h51]
      exact ⟨rfl, h.failed e2 rfl⟩
  | ok r =>
    obtain ⟨n, q⟩ := r
    obtain ⟨q1, q2, q3⟩ := numP_le b1 hn
    dsimp only
    rw [Nat.sub_zero]
    by_cases hz : n = 0
    · subst hz
      rw [if_pos rfl, if_pos rfl]
      have hq := numP_zero hn
      obtain ⟨c1, c2⟩ := foot_rel h hf hs (size := q - D.place) (by omega) (by omega)
      exact ⟨by rw [c1], c2⟩
    rw [if_neg hz, if_neg hz, h.count]
    by_cases hc : D.count = 4096
    · rw [if_pos hc, if_pos (show 4096 ≤ D.count by omega)]
      exact ⟨rfl, h.failed (by decide) rfl⟩
    have := h.le
    rw [if_neg hc, if_neg (show ¬ 4096 ≤ D.count by omega), List.length_drop]
    by_cases hl : D.data.length < q + n
    · rw [if_pos hl, if_pos (show D.data.length - D.place < q - D.place + n by omega)]
      obtain ⟨c1, c2⟩ := h.shorted (p := 0) rfl
      exact ⟨by dsimp only; rw [c1]; rfl, c2⟩
    rw [if_neg hl, if_neg (show ¬ D.data.length - D.place < q - D.place + n by omega)]
    have hd : (D.data.drop D.place).drop (q - D.place) = D.data.drop q := by rw [List.drop_drop]; congr 1; omega
    rw [hd]
    by_cases hr : (decR ((D.data.drop q).take n)).2.2 ≠ 0
    · rw [if_pos hr, if_pos hr]
      exact ⟨rfl, h.failed hr (by omega)⟩
    · rw [if_neg hr, if_neg hr]
      refine ⟨rfl, ⟨h.fault, by show S.at_ + _ = q + n; rw [h.place]; omega, rfl, h.ended, h.foot, by show D.count + 1 ≤ 4096; omega, fun _ => ⟨by show q + n ≤ D.data.length; omega, ?_, b3, ⟨fun hz => by have hz' : S.state = 0 := hz; omega, fun hz => by have hz' : q + n = 0 := hz; omega⟩⟩⟩⟩
      show S.rest.drop _ = D.data.drop (q + n)
      rw [b2, List.drop_drop]
      congr 1
      omega
theorem next_rel {S : Scn} {D : Dsc} (h : Keeps S D) : S.next.1 = D.next.1 ∧ Keeps S.next.2 D.next.2 := by
  unfold Scn.next Dsc.next
  rw [h.fault]
  by_cases hf : D.fault ≠ 0
  · rw [if_pos hf, if_pos hf]
    exact ⟨rfl, h⟩
  have hf' : S.fault = 0 := by rw [h.fault]; exact Decidable.not_not.1 hf
  obtain ⟨b1, b2, b3, b4⟩ := h.rest hf'
  rw [if_neg hf, if_neg hf]
  by_cases h0 : S.state = 0
  · have hp := b4.1 h0
    rw [if_pos h0, if_pos hp]
    unfold Scn.head
    rw [b2, hp, List.drop_zero]
    cases hh : headAt magicB D.data 0 with
    | none =>
      have h4 := headAt_none _ _ _ hh
      dsimp only
      refine entry_rel ⟨h.fault, by show S.at_ + 4 = 4; rw [h.place, hp], h.count, h.ended, ⟨fun hz => absurd hz (by show ¬ (1 : Nat) = 2; decide), fun hz => ?_⟩, h.le, fun _ => ⟨h4, ?_, by show 1 ≤ 2; decide, ⟨fun hz => absurd hz (by show ¬ (1 : Nat) = 0; decide), fun hz => absurd hz (by show ¬ (4 : Nat) = 0; decide)⟩⟩⟩ hf' rfl
      · have := h.foot.2 hz
        omega
      · show S.rest.drop 4 = D.data.drop 4
        rw [b2, hp, List.drop_zero]
    | some r =>
      obtain ⟨i, b⟩ := r
      obtain ⟨i1, i2⟩ := headAt_some _ _ _ _ _ hh
      cases b
      · exact ⟨rfl, h.failed (by decide) (by omega)⟩
      · obtain ⟨c1, c2⟩ := h.shorted (p := i) (q := i) (by omega)
        exact ⟨by dsimp only; rw [c1], c2⟩
  · have hp : D.place ≠ 0 := fun e => h0 (b4.2 e)
    rw [if_neg h0, if_neg hp]
    by_cases h1 : S.state = 1
    · have hfo : D.foot ≠ true := fun e => by have := h.foot.2 e; omega
      rw [if_pos h1, if_neg hfo]
      exact entry_rel h hf' h1
    · have h2 : S.state = 2 := by omega
      rw [if_neg h1, if_pos (h.foot.1 h2), b2]
      by_cases hr : D.place < D.data.length
      · rw [if_pos hr, if_pos (by intro e; have := congrArg List.length e; simp at this; omega)]
        exact ⟨rfl, h.failed (by decide) rfl⟩
      · rw [if_neg hr, if_neg (by rw [List.drop_eq_nil_of_le (by omega)]; simp)]
        exact ⟨rfl, h⟩
end Go.Proofs.Ytjfjleejbbmmaaa
