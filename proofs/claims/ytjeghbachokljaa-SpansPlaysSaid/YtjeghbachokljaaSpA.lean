/- The arena of a forest: nodes, and what is done to them, in plain. -/
import Derived.Test.YtjeghbachokljaaProg
import Derived.Test.YtjeghbachokljaaKit2
set_option linter.unusedVariables false
set_option linter.unusedSimpArgs false
namespace Go.Proofs.Ytjeghbachokljaa
open Go
set_option maxRecDepth 20000
structure Sp where
  a : Int
  b : Int
  c : Int
deriving DecidableEq
def Sp.cells (s : Sp) : List Value := [.int .i64 s.a, .int .i64 s.b, .int .i64 s.c]
structure Nd where
  s : Sp
  l : Nat
  r : Nat
  h : Int
  f : Int
def Nd.cells (n : Nd) : List Value := [.int .i64 n.s.a, .int .i64 n.s.b, .int .i64 n.s.c, .int .i64 (n.l : Nat), .int .i64 (n.r : Nat), .int .i64 n.h, .int .i64 n.f]
def Nd.zero : Nd := ⟨⟨0, 0, 0⟩, 0, 0, 0, 0⟩
def nd (N : List Nd) (i : Nat) : Nd := N.getD i Nd.zero
def w64 (x : Int) : Int := IntKind.i64.wrap x
def maxI (a b : Int) : Int := if a < b then b else a
def cmpI (a b : Int) : Int := if a < b then -1 else if b < a then 1 else 0
def cmpS (s t : Sp) : Int := if cmpI s.a t.a ≠ 0 then cmpI s.a t.a else if cmpI s.b t.b ≠ 0 then cmpI s.b t.b else cmpI s.c t.c
def rightS (s : Sp) : Bool := decide (0 ≤ s.a ∧ s.a ≤ s.b ∧ s.b ≤ 1099511627776 ∧ 0 ≤ s.c ∧ s.c < 4096)
def farA (N : List Nd) (n : Nd) : Int :=
  let f1 := if n.l ≠ 0 then maxI n.s.b (nd N n.l).f else n.s.b
  if n.r ≠ 0 then maxI f1 (nd N n.r).f else f1
def fixA (N : List Nd) (i : Nat) : List Nd := N.set i { nd N i with h := w64 (1 + maxI (nd N (nd N i).l).h (nd N (nd N i).r).h), f := farA N (nd N i) }
def turnA (N : List Nd) (i : Nat) (left : Bool) : Nat × List Nd :=
  if left then
    let k := (nd N i).l
    let N1 := N.set i { nd N i with l := (nd N k).r }
    let N2 := N1.set k { nd N1 k with r := i }
    (k, fixA (fixA N2 i) k)
  else
    let k := (nd N i).r
    let N1 := N.set i { nd N i with r := (nd N k).l }
    let N2 := N1.set k { nd N1 k with l := i }
    (k, fixA (fixA N2 i) k)
def leanA (N : List Nd) (i : Nat) : Int := w64 ((nd N (nd N i).l).h - (nd N (nd N i).r).h)
def balA (N : List Nd) (i : Nat) : Nat × List Nd :=
  let N1 := fixA N i
  if leanA N1 i = 2 then
    let l := (nd N1 i).l
    let N2 := if leanA N1 l < 0 then ((turnA N1 l false).2).set i { nd (turnA N1 l false).2 i with l := (turnA N1 l false).1 } else N1
    turnA N2 i true
  else if leanA N1 i = -2 then
    let r := (nd N1 i).r
    let N2 := if 0 < leanA N1 r then ((turnA N1 r true).2).set i { nd (turnA N1 r true).2 i with r := (turnA N1 r true).1 } else N1
    turnA N2 i false
  else (i, N1)
/-- all that nodes point to is there -/
structure Inb (N : List Nd) : Prop where
  pos : 0 < N.length
  small : N.length ≤ 4611686018427387904
  l : ∀ n ∈ N, n.l < N.length
  r : ∀ n ∈ N, n.r < N.length
theorem nd_mem {N : List Nd} {i : Nat} (h : i < N.length) : N[i]? = some (nd N i) ∧ nd N i ∈ N := by
  have e : N[i]? = some (nd N i) := by simp [nd, List.getD, List.getElem?_eq_getElem h]
  exact ⟨e, List.mem_of_getElem? e⟩
theorem Inb.set {N : List Nd} (h : Inb N) {i : Nat} {n : Nd} (h1 : n.l < N.length) (h2 : n.r < N.length) : Inb (N.set i n) := by
  refine ⟨by rw [List.length_set]; exact h.pos, by rw [List.length_set]; exact h.small, fun m hm => ?_, fun m hm => ?_⟩
  · rw [List.length_set]
    rcases List.mem_or_eq_of_mem_set hm with hm | rfl
    · exact h.l m hm
    · exact h1
  · rw [List.length_set]
    rcases List.mem_or_eq_of_mem_set hm with hm | rfl
    · exact h.r m hm
    · exact h2
theorem Inb.ndl {N : List Nd} (h : Inb N) {i : Nat} (hi : i < N.length) : (nd N i).l < N.length := h.l _ (nd_mem hi).2
theorem Inb.ndr {N : List Nd} (h : Inb N) {i : Nat} (hi : i < N.length) : (nd N i).r < N.length := h.r _ (nd_mem hi).2
theorem fixA_len (N : List Nd) (i : Nat) : (fixA N i).length = N.length := by simp [fixA]
theorem Inb.fix {N : List Nd} (h : Inb N) {i : Nat} (hi : i < N.length) : Inb (fixA N i) := h.set (h.ndl hi) (h.ndr hi)
theorem nd_set_same {N : List Nd} {i : Nat} {n : Nd} (h : i < N.length) : nd (N.set i n) i = n := by simp [nd, List.getD, h]
theorem nd_set_other {N : List Nd} {i j : Nat} {n : Nd} (h : i ≠ j) : nd (N.set i n) j = nd N j := by simp [nd, List.getD, List.getElem?_set, h]
theorem turnA_len (N : List Nd) (i : Nat) (b : Bool) : (turnA N i b).2.length = N.length := by
  unfold turnA
  split <;> simp [fixA_len]
theorem turnA_inb {N : List Nd} (h : Inb N) {i : Nat} (hi : i < N.length) (b : Bool) : Inb (turnA N i b).2 ∧ (turnA N i b).1 < N.length := by
  unfold turnA
  cases b
  · have hk := h.ndr hi
    have h1 : Inb (N.set i { nd N i with r := (nd N (nd N i).r).l }) := h.set (h.ndl hi) (h.ndl hk)
    have hl1 : (N.set i { nd N i with r := (nd N (nd N i).r).l }).length = N.length := by simp
    have h2 := h1.set (i := (nd N i).r) (n := { nd (N.set i { nd N i with r := (nd N (nd N i).r).l }) (nd N i).r with l := i }) (by rw [hl1]; exact hi) (h1.ndr (by rw [hl1]; exact hk))
    exact ⟨(h2.fix (by simp; exact hi)).fix (by rw [fixA_len]; simp; exact hk), hk⟩
  · have hk := h.ndl hi
    have h1 : Inb (N.set i { nd N i with l := (nd N (nd N i).l).r }) := h.set (h.ndr hk) (h.ndr hi)
    have hl1 : (N.set i { nd N i with l := (nd N (nd N i).l).r }).length = N.length := by simp
    have h2 := h1.set (i := (nd N i).l) (n := { nd (N.set i { nd N i with l := (nd N (nd N i).l).r }) (nd N i).l with r := i }) (h1.ndl (by rw [hl1]; exact hk)) (by rw [hl1]; exact hi)
    exact ⟨(h2.fix (by simp; exact hi)).fix (by rw [fixA_len]; simp; exact hk), hk⟩
theorem balA_inb {N : List Nd} (h : Inb N) {i : Nat} (hi : i < N.length) : Inb (balA N i).2 ∧ (balA N i).1 < N.length ∧ (balA N i).2.length = N.length := by
  have h1 := h.fix hi
  have hl1 := fixA_len N i
  unfold balA
  dsimp only
  split
  · have hk := h1.ndl (i := i) (by rw [hl1]; exact hi)
    have ht := turnA_inb h1 hk false
    have htl := turnA_len (fixA N i) (nd (fixA N i) i).l false
    split
    · have h2 := ht.1.set (i := i) (n := { nd (turnA (fixA N i) (nd (fixA N i) i).l false).2 i with l := (turnA (fixA N i) (nd (fixA N i) i).l false).1 }) (by rw [htl]; exact ht.2) (ht.1.ndr (by rw [htl, hl1]; exact hi))
      have h3 := turnA_inb h2 (i := i) (by rw [List.length_set, htl, hl1]; exact hi) true
      refine ⟨h3.1, ?_, ?_⟩
      · have := h3.2
        rwa [List.length_set, htl, hl1] at this
      · rw [turnA_len, List.length_set, htl, hl1]
    · have h3 := turnA_inb h1 (i := i) (by rw [hl1]; exact hi) true
      exact ⟨h3.1, by have := h3.2; rwa [hl1] at this, by rw [turnA_len, hl1]⟩
  · split
    · have hk := h1.ndr (i := i) (by rw [hl1]; exact hi)
      have ht := turnA_inb h1 hk true
      have htl := turnA_len (fixA N i) (nd (fixA N i) i).r true
      split
      · have h2 := ht.1.set (i := i) (n := { nd (turnA (fixA N i) (nd (fixA N i) i).r true).2 i with r := (turnA (fixA N i) (nd (fixA N i) i).r true).1 }) (ht.1.ndl (by rw [htl, hl1]; exact hi)) (by rw [htl]; exact ht.2)
        have h3 := turnA_inb h2 (i := i) (by rw [List.length_set, htl, hl1]; exact hi) false
        refine ⟨h3.1, ?_, ?_⟩
        · have := h3.2
          rwa [List.length_set, htl, hl1] at this
        · rw [turnA_len, List.length_set, htl, hl1]
      · have h3 := turnA_inb h1 (i := i) (by rw [hl1]; exact hi) false
        exact ⟨h3.1, by have := h3.2; rwa [hl1] at this, by rw [turnA_len, hl1]⟩
    · exact ⟨h1, hi, hl1⟩
end Go.Proofs.Ytjeghbachokljaa
