/- Whole logs: what is written is read back, and nothing else is. -/
import Derived.Test.YtjfjleejbbmmaaaLogA
set_option linter.unusedVariables false
set_option linter.unusedSimpArgs false
namespace Go.Proofs.Ytjfjleejbbmmaaa
open Go
def TxnP.body (t : TxnP) : List UInt8 := (t.w none 0).body
def TxnP.Right (t : TxnP) : Prop := (t.w none 0).err = 0
def entB (t : TxnP) : List UInt8 := formN t.body.length ++ t.body
def entsB (l : List TxnP) : List UInt8 := l.flatMap entB
def logB (l : List TxnP) : List UInt8 := magicB ++ (entsB l ++ (0 :: formN l.length))
theorem TxnP.body_pos {t : TxnP} (h : t.Right) : 0 < t.body.length := by
  rcases Nat.eq_zero_or_pos t.body.length with e | e
  · have h1 := dec_body h
    have e' : t.body = [] := List.eq_nil_of_length_eq_zero e
    unfold TxnP.body at e'
    rw [e'] at h1
    have h2 := congrArg (fun x => x.2.2) h1
    have h3 : (decR []).2.2 = 51 := rfl
    rw [h3] at h2
    cases h2
  · exact e
theorem TxnP.body_le {t : TxnP} (h : t.Right) : t.body.length ≤ 464 := by
  obtain ⟨h1, h2, h3⟩ := (t.w none 0).ok_of h
  exact body_len h1 h2 h3
theorem drop_more {d l r : List UInt8} {p : Nat} (h : d.drop p = l ++ r) : d.drop (p + l.length) = r := by
  rw [← List.drop_drop, h, List.drop_left]
/-- feeding and ending -/
def Scn.feed (S : Scn) (l : List UInt8) : Scn := if S.ended then S else if S.fault = 0 then { S with rest := S.rest ++ l } else S
def Dsc.feed (D : Dsc) (l : List UInt8) : Dsc := if D.ended then D else { D with data := D.data ++ l }
theorem feed_rel {S : Scn} {D : Dsc} (h : Keeps S D) (l : List UInt8) : Keeps (S.feed l) (D.feed l) := by
  unfold Scn.feed Dsc.feed
  rw [h.ended]
  split
  · exact h
  · split
    · rename_i hf
      obtain ⟨b1, b2, b3, b4⟩ := h.rest hf
      refine ⟨h.fault, h.place, h.count, rfl, h.foot, h.le, fun _ => ⟨?_, ?_, b3, b4⟩⟩
      · show D.place ≤ (D.data ++ l).length
        rw [List.length_append]; omega
      · show S.rest ++ l = (D.data ++ l).drop D.place
        rw [b2, List.drop_append_of_le_length b1]
    · rename_i hf
      exact ⟨h.fault, h.place, h.count, h.ended, h.foot, h.le, fun hz => absurd hz hf⟩
theorem end_rel {S : Scn} {D : Dsc} (h : Keeps S D) : Keeps { S with ended := true } { D with ended := true } :=
  ⟨h.fault, h.place, h.count, rfl, h.foot, h.le, h.rest⟩
def Scn.new : Scn := ⟨[], 0, 0, 0, false, 0⟩
def Dsc.new : Dsc := ⟨[], false, 0, 0, false, 0⟩
theorem new_rel : Keeps Scn.new Dsc.new := ⟨rfl, rfl, rfl, rfl, ⟨fun h => absurd h (by decide), fun h => absurd h (by decide)⟩, Nat.zero_le _, fun _ => ⟨Nat.le_refl _, rfl, by decide, ⟨fun _ => rfl, fun _ => rfl⟩⟩⟩
/-- a reading of all -/
def Scn.all : Nat → Scn → List TxnP → List TxnP × Nat × Int
  | 0, S, l => (l, 0, 0)
  | k + 1, S, l => if S.next.1.2.2 ≠ 0 then ([], S.next.2.at_, S.next.1.2.2) else if S.next.1.2.1 = false then (l, 0, 0) else Scn.all k S.next.2 (l ++ [S.next.1.1])
def Dsc.all : Nat → Dsc → List TxnP → List TxnP × Nat × Int
  | 0, D, l => (l, 0, 0)
  | k + 1, D, l => if D.next.1.2.2 ≠ 0 then ([], D.next.2.place, D.next.1.2.2) else if D.next.1.2.1 = false then (l, 0, 0) else Dsc.all k D.next.2 (l ++ [D.next.1.1])
theorem all_rel : ∀ (k : Nat) {S : Scn} {D : Dsc} (l : List TxnP), Keeps S D → S.all k l = D.all k l
  | 0, S, D, l, h => rfl
  | k + 1, S, D, l, h => by
    obtain ⟨h1, h2⟩ := next_rel h
    unfold Scn.all Dsc.all
    rw [h1, h2.place]
    split
    · rfl
    · split
      · rfl
      · exact all_rel k _ h2
/-! ### a right log is read -/
theorem entry_at {D : Dsc} {t : TxnP} {r : List UInt8} (h : D.data.drop D.place = entB t ++ r) (ht : t.Right) (hc : D.count < 4096) :
    D.entry = ((t, true, 0), { D with place := D.place + (entB t).length, count := D.count + 1 }) := by
  have hp := t.body_pos ht
  have hl := t.body_le ht
  have hn : numP D.data D.place 512 = .ok (t.body.length, D.place + (formN t.body.length).length) := num_at (r := t.body ++ r) (by rw [h]; simp [entB]) (by omega) (by omega)
  have h2 : D.data.drop (D.place + (formN t.body.length).length) = t.body ++ r := drop_more (by rw [h]; simp [entB])
  have hlen := congrArg List.length h2
  rw [List.length_drop, List.length_append] at hlen
  unfold Dsc.entry
  rw [hn]
  dsimp only
  rw [if_neg (by omega), if_neg (by omega), if_neg (by omega), h2, List.take_left]
  have hd : decR t.body = (t, 0, 0) := dec_body ht
  rw [hd]
  dsimp only
  rw [if_neg (by simp)]
  simp [entB, Nat.add_assoc]
theorem foot_at {D : Dsc} {r : List UInt8} (h : D.data.drop D.place = (0 :: formN D.count) ++ r) (hc : D.count ≤ 4096) :
    D.entry = ((TxnP.zero, false, if r = [] then 0 else 61), { D with place := D.place + 1 + (formN D.count).length, foot := true, fault := if r = [] then D.fault else 61 }) := by
  have hn : numP D.data D.place 512 = .ok (0, D.place + 1) := by
    have := num_at (d := D.data) (p := D.place) (n := 0) (most := 512) (r := formN D.count ++ r) (by rw [h, formN_lt (n := 0) (by decide)]; rfl) (by omega) (by omega)
    rw [formN_lt (n := 0) (by decide)] at this
    exact this
  have h2 : D.data.drop (D.place + 1) = formN D.count ++ r := drop_more (l := [0]) (by rw [h]; rfl)
  have h3 : numP D.data (D.place + 1) 4096 = .ok (D.count, D.place + 1 + (formN D.count).length) := num_at h2 (by omega) (by omega)
  have h4 := congrArg List.length (drop_more h2)
  rw [List.length_drop] at h4
  have hf := formN_pos D.count
  have h5 := congrArg List.length h2
  rw [List.length_drop, List.length_append] at h5
  unfold Dsc.entry Dsc.footer
  rw [hn]
  dsimp only
  rw [if_pos rfl, h3]
  dsimp only
  rw [if_neg (by simp)]
  by_cases hr : r = []
  · subst hr
    rw [if_neg (by simp at h4; omega)]
    simp
  · have : 0 < r.length := List.length_pos_iff.2 hr
    rw [if_pos (by omega)]
    simp [hr]
theorem ents_at : ∀ (l : List TxnP) (k : Nat) {D : Dsc} {r : List UInt8} (got : List TxnP), (∀ t ∈ l, t.Right) → D.fault = 0 → D.foot = false → 0 < D.place → D.count + l.length ≤ 4096 → l.length < k → D.data.drop D.place = entsB l ++ ((0 :: formN (D.count + l.length)) ++ r) →
    D.all k got = if r = [] then (got ++ l, 0, 0) else ([], D.data.length - r.length, 61)
  | [], k, D, r, got, hl, hf, hfo, hp, hc, hk, h => by
    obtain ⟨k, rfl⟩ : ∃ j, k = j + 1 := ⟨k - 1, by simp at hk; omega⟩
    have hn : D.next = ((TxnP.zero, false, if r = [] then 0 else 61), { D with place := D.place + 1 + (formN D.count).length, foot := true, fault := if r = [] then D.fault else 61 }) := by
      unfold Dsc.next
      rw [if_neg (by simp [hf]), if_neg (by omega), if_neg (by simp [hfo])]
      exact foot_at (by simpa [entsB] using h) (by simp at hc; omega)
    have h4 := congrArg List.length h
    simp only [entsB, List.flatMap_nil, List.nil_append, List.length_drop, List.length_append, List.length_cons, List.length_nil, Nat.add_zero] at h4
    unfold Dsc.all
    rw [hn]
    dsimp only
    by_cases hr : r = []
    · subst hr
      simp
    · rw [if_neg hr, if_pos (by decide), if_neg hr]
      refine Prod.ext rfl (Prod.ext ?_ rfl)
      dsimp only
      omega
  | t :: l, k, D, r, got, hl, hf, hfo, hp, hc, hk, h => by
    obtain ⟨k, rfl⟩ : ∃ j, k = j + 1 := ⟨k - 1, by simp at hk; omega⟩
    have he : D.data.drop D.place = entB t ++ (entsB l ++ ((0 :: formN (D.count + (t :: l).length)) ++ r)) := by rw [h]; simp [entsB]
    simp only [List.length_cons] at hc hk
    have hn : D.next = ((t, true, 0), { D with place := D.place + (entB t).length, count := D.count + 1 }) := by
      unfold Dsc.next
      rw [if_neg (by simp [hf]), if_neg (by omega), if_neg (by simp [hfo])]
      exact entry_at he (hl t (by simp)) (by omega)
    unfold Dsc.all
    rw [hn]
    dsimp only
    rw [if_neg (by simp), if_neg (by simp)]
    have := ents_at l k (D := { D with place := D.place + (entB t).length, count := D.count + 1 }) (r := r) (got ++ [t]) (fun x hx => hl x (by simp [hx])) hf hfo (by dsimp only; omega) (by dsimp only; omega) (by omega) (by
      dsimp only
      rw [drop_more he, List.length_cons, show D.count + (l.length + 1) = D.count + 1 + l.length by omega])
    rw [this]
    simp
/-- a right log is read, and what stands behind it is told -/
theorem log_at {l : List TxnP} (hl : ∀ t ∈ l, t.Right) (hc : l.length ≤ 4096) (r : List UInt8) (e : Bool) :
    (⟨logB l ++ r, e, 0, 0, false, 0⟩ : Dsc).all 4097 [] = if r = [] then (l, 0, 0) else ([], (logB l).length, 61) := by
  obtain ⟨D, hD⟩ : ∃ D : Dsc, D = ⟨logB l ++ r, e, 4, 0, false, 0⟩ := ⟨_, rfl⟩
  have h0 : (⟨logB l ++ r, e, 0, 0, false, 0⟩ : Dsc).next = D.next := by
    rw [hD]
    unfold Dsc.next
    rw [if_neg (by simp), if_pos rfl, if_neg (by simp), if_neg (by simp), if_neg (by simp)]
    rfl
  have h1 : (⟨logB l ++ r, e, 0, 0, false, 0⟩ : Dsc).all 4097 [] = D.all 4097 [] := by
    unfold Dsc.all
    rw [h0]
  rw [h1, ents_at l 4097 (D := D) (r := r) [] hl (by rw [hD]) (by rw [hD]) (by rw [hD]; show 0 < 4; decide) (by rw [hD]; dsimp only; omega) (by omega) (by
    rw [hD]
    show (logB l ++ r).drop 4 = _
    unfold logB
    rw [List.append_assoc, List.drop_left' (show magicB.length = 4 from rfl)]
    simp)]
  rw [hD]
  dsimp only
  split
  · rfl
  · rw [List.length_append]
    simp
end Go.Proofs.Ytjfjleejbbmmaaa
