/- However a log is cut into pieces, the scanner answers what a reading of the whole does. -/
import Derived.Test.YtjfjleejbbmmaaaLogK
set_option linter.unusedVariables false
set_option linter.unusedSimpArgs false
namespace Go.Proofs.Ytjfjleejbbmmaaa
open Go
set_option maxRecDepth 20000
set_option maxHeartbeats 4000000
attribute [local irreducible] WX WC WQ Val VCall
def intC (n : Int) : List Value := [.int .i64 n]
/-- a scanner under way; 'from_' bytes were fed, or all ('all'), and the end was said ('D.ended') -/
structure Cuts (d : List UInt8) (S : Scn) (D : Dsc) (got : List TxnP) (from_ : Nat) : Prop where
  keeps : Keeps S D
  run : Under d (allD d) D got (d.drop from_)
  le : from_ ≤ d.length
/-- .. or told -/
inductive Told (d : List UInt8) (S : Scn) (D : Dsc) (got : List TxnP) : Int → Prop
  | fault (e : Int) (he : e ≠ 0) (h : allD d = ([], S.at_, e)) (hd : S.done = false) : Told d S D got e
  | fin (h : allD d = (got, 0, 0)) (hd : S.done = true) (hp : S.at_ = d.length) (hc : S.count = got.length) : Told d S D got 0
theorem Cuts.whole {d : List UInt8} {S : Scn} {D : Dsc} {got : List TxnP} {n : Nat} (h : Cuts d S D got n) (hn : n = d.length ∨ D.ended = true) : Under d (allD d) D got [] := by
  have hr := h.run
  rcases hn with rfl | hn
  · rwa [List.drop_length] at hr
  · have := hr.ended hn
    rwa [this] at hr
theorem done_of {S : Scn} {D : Dsc} (h : Keeps S D) (hf : D.fault ≠ 0) : S.done = false := by
  unfold Scn.done
  rw [h.fault, decide_eq_false hf, Bool.and_false]
theorem done_at {S : Scn} {D : Dsc} (h : Keeps S D) (h1 : D.foot = true) (h2 : D.place = D.data.length) (h3 : D.fault = 0) (h4 : D.ended = true) : S.done = true := by
  have hf : S.fault = 0 := by rw [h.fault]; exact h3
  obtain ⟨b1, b2, b3, b4⟩ := h.rest hf
  have hs := h.foot.2 h1
  unfold Scn.done
  rw [decide_eq_true (by omega), h.ended, h4, decide_eq_true (by rw [b2, List.length_drop]; omega), decide_eq_true hf]
  rfl
/-- one reading -/
theorem Cuts.step {d : List UInt8} {S : Scn} {D : Dsc} {got : List TxnP} {n : Nat} (h : Cuts d S D got n) :
    (D.next.1.2.1 = true ∧ D.next.1.2.2 = 0 ∧ Cuts d S.next.2 D.next.2 (got ++ [D.next.1.1]) n ∧ D.next.2.ended = D.ended ∧ D.next.2.count = D.count + 1) ∨
    (D.next.1.2.1 = false ∧ ((D.next.1.2.2 ≠ 0 ∧ Told d S.next.2 D.next.2 got D.next.1.2.2) ∨ (D.next.1.2.2 = 0 ∧ D.ended = false ∧ Cuts d S.next.2 D.next.2 got n ∧ D.next.2.ended = false) ∨ (D.next.1.2.2 = 0 ∧ D.ended = true ∧ Told d S.next.2 D.next.2 got 0))) := by
  obtain ⟨n1, n2⟩ := next_rel h.keeps
  cases hn : D.next.1.2.1 with
  | true =>
    obtain ⟨a1, a2, a3, a4, a5⟩ := h.run.ok hn
    exact .inl ⟨rfl, a1, ⟨n2, a2, h.le⟩, a4, a3⟩
  | false =>
    refine .inr ⟨rfl, ?_⟩
    by_cases he : D.next.1.2.2 = 0
    · cases hen : D.ended with
      | false =>
        obtain ⟨a1, a2, a3⟩ := h.run.wait hen hn he
        exact .inr (.inl ⟨he, rfl, ⟨n2, a1, h.le⟩, a2⟩)
      | true =>
        obtain ⟨a1, a2, a3, a4, a5, a6, a7⟩ := h.run.fin hen hn he
        exact .inr (.inr ⟨he, rfl, .fin a1 (done_at n2 a2 (by rw [a3, a7]) a5 a6) (by rw [n2.place, a3]) (by rw [n2.count, a4])⟩)
    · obtain ⟨a1, a2, a3, a4⟩ := h.run.bad he
      exact .inl ⟨he, .fault _ he (by rw [n2.place]; exact a1) (done_of n2 (by rw [a2]; exact he))⟩
theorem Cuts.feed {d : List UInt8} {S : Scn} {D : Dsc} {got : List TxnP} {n m : Nat} (h : Cuts d S D got n) (hen : D.ended = false) (hm : n + m ≤ d.length) {l : List UInt8} (hl : l = (d.drop n).take m) :
    Cuts d (S.feed l) (D.feed l) got (n + m) ∧ (D.feed l).ended = false := by
  have e : d.drop n = l ++ d.drop (n + m) := by
    rw [hl, ← List.drop_drop, List.take_append_drop]
  have hr := h.run
  rw [e] at hr
  obtain ⟨a1, a2, a3⟩ := hr.feed hen
  exact ⟨⟨feed_rel h.keeps l, a1, hm⟩, a2⟩
theorem Cuts.stop {d : List UInt8} {S : Scn} {D : Dsc} {got : List TxnP} (h : Cuts d S D got d.length) : Cuts d { S with ended := true } { D with ended := true } got d.length := by
  refine ⟨end_rel h.keeps, ?_, Nat.le_refl _⟩
  have := h.whole (.inl rfl)
  rw [List.drop_length]
  exact this.stop
theorem cuts_new (d : List UInt8) : Cuts d Scn.new Dsc.new [] 0 := ⟨new_rel, under_new d, Nat.zero_le _⟩
theorem Cuts.bounds {d : List UInt8} {S : Scn} {D : Dsc} {got : List TxnP} {n : Nat} (h : Cuts d S D got n) : S.at_ + S.rest.length ≤ d.length ∧ got.length ≤ d.length ∧ S.count = D.count ∧ D.count ≤ 4096 ∧ got.length = D.count := by
  have h1 := keeps_place h.keeps h.run.fault
  have h2 := congrArg List.length h.run.data
  have h3 := h.run.small
  have h4 := h.run.le
  rw [List.length_append] at h2
  exact ⟨by omega, by rw [h.run.num]; omega, h.keeps.count, h.run.count, h.run.num⟩
end Go.Proofs.Ytjfjleejbbmmaaa
