/- Skews: what a greater one lets pass, and clocks set on: the plain law. -/
import Derived.Test.YtgidabcmbngcbaaRules4
set_option linter.unusedVariables false
set_option linter.unusedSimpArgs false
namespace Go.Proofs.Ytgidabcmbngcbaa
open Go
/-- a list of violations and one of a greater skew: some of the kinds 3 and 4 are left out -/
inductive Sk : List ViolW → List ViolW → Prop
  | nil : Sk [] []
  | keep {v : ViolW} {a b : List ViolW} : Sk a b → Sk (v :: a) (v :: b)
  | drop {v : ViolW} {a b : List ViolW} : (v.kind = 3 ∨ v.kind = 4) → b.head? ≠ some v → Sk a b → Sk (v :: a) b
theorem sk_shapes {p : Int} {t : TxnW} {eps more : Int} (hm : 0 ≤ more) : Sk (shapes p t eps) (shapes p t (eps + more)) := by
  simp only [shapes, upto, part, p1, p2, p3, p4, List.nil_append, List.append_assoc]
  have h3 : eps + more < t.invoke - t.start → eps < t.invoke - t.start := by omega
  have h4 : eps + more < t.fin - t.ret → eps < t.fin - t.ret := by omega
  have q4 : Sk (if eps < t.fin - t.ret then [sh 4 p t.fin t.fin t.ret] else []) (if eps + more < t.fin - t.ret then [sh 4 p t.fin t.fin t.ret] else []) := by
    by_cases a : eps + more < t.fin - t.ret
    · rw [if_pos a, if_pos (h4 a)]; exact .keep .nil
    · rw [if_neg a]
      by_cases b : eps < t.fin - t.ret
      · rw [if_pos b]; exact .drop (.inr rfl) (by simp) .nil
      · rw [if_neg b]; exact .nil
  have q3 : Sk ((if eps < t.invoke - t.start then [sh 3 p t.start t.invoke t.start] else []) ++ (if eps < t.fin - t.ret then [sh 4 p t.fin t.fin t.ret] else [])) ((if eps + more < t.invoke - t.start then [sh 3 p t.start t.invoke t.start] else []) ++ (if eps + more < t.fin - t.ret then [sh 4 p t.fin t.fin t.ret] else [])) := by
    by_cases a : eps + more < t.invoke - t.start
    · rw [if_pos a, if_pos (h3 a)]; exact .keep q4
    · rw [if_neg a]
      by_cases b : eps < t.invoke - t.start
      · rw [if_pos b]
        refine .drop (.inl rfl) ?_ q4
        rw [List.nil_append]
        split
        · simp [sh]
        · simp
      · rw [if_neg b]; exact q4
  by_cases a : t.fin ≤ t.start <;> by_cases b : t.ret < t.invoke
  · rw [if_pos a, if_pos b]; exact .keep (.keep q3)
  · rw [if_pos a, if_neg b]; exact .keep q3
  · rw [if_neg a, if_pos b]; exact .keep q3
  · rw [if_neg a, if_neg b]; exact q3
theorem shapes_mem {p : Int} {t : TxnW} {eps : Int} {v : ViolW} (h : v ∈ shapes p t eps) : (v.time = t.start ∨ v.time = t.fin) ∧ (v.fro = t.start ∨ v.fro = t.fin ∨ v.fro = t.invoke) ∧ (v.to = t.fin ∨ v.to = t.ret ∨ v.to = t.start) ∧
    (v.kind = 1 ∨ v.kind = 2 ∨ (v.kind = 3 ∧ eps < t.invoke - t.start) ∨ (v.kind = 4 ∧ eps < t.fin - t.ret)) := by
  simp only [shapes, upto, part, p1, p2, p3, p4, List.nil_append, List.append_assoc, List.mem_append] at h
  rcases h with h | h | h | h
  · split at h
    · obtain rfl : v = _ := by simpa using h
      exact ⟨.inl rfl, .inl rfl, .inl rfl, .inl rfl⟩
    · cases h
  · split at h
    · obtain rfl : v = _ := by simpa using h
      exact ⟨.inl rfl, .inr (.inr rfl), .inr (.inl rfl), .inr (.inl rfl)⟩
    · cases h
  · split at h
    · rename_i hc
      obtain rfl : v = _ := by simpa using h
      exact ⟨.inl rfl, .inr (.inr rfl), .inr (.inr rfl), .inr (.inr (.inl ⟨rfl, hc⟩))⟩
    · cases h
  · split at h
    · rename_i hc
      obtain rfl : v = _ := by simpa using h
      exact ⟨.inr rfl, .inr (.inl rfl), .inr (.inl rfl), .inr (.inr (.inr ⟨rfl, hc⟩))⟩
    · cases h
def ViolW.shift (d : Int) (v : ViolW) : ViolW := { v with time := v.time + d, fro := v.fro + d, to := v.to + d }
def TxnW.shift (d : Int) (t : TxnW) : TxnW := { t with start := t.start + d, fin := t.fin + d, invoke := t.invoke + d, ret := t.ret + d }
theorem shapes_shift (p : Int) (t : TxnW) (eps d : Int) : shapes p (t.shift d) eps = (shapes p t eps).map (ViolW.shift d) := by
  simp only [shapes, upto, List.map_append, List.map_nil]
  have e1 : part p (t.shift d) eps 0 = (part p t eps 0).map (ViolW.shift d) := by
    simp only [part, p1]
    by_cases h : t.fin ≤ t.start
    · rw [if_pos h, if_pos (c := (TxnW.shift d t).fin ≤ (TxnW.shift d t).start) (show t.fin + d ≤ t.start + d by omega)]; rfl
    · rw [if_neg h, if_neg (c := (TxnW.shift d t).fin ≤ (TxnW.shift d t).start) (show ¬ (t.fin + d ≤ t.start + d) by omega)]; rfl
  have e2 : part p (t.shift d) eps 1 = (part p t eps 1).map (ViolW.shift d) := by
    simp only [part, p2]
    by_cases h : t.ret < t.invoke
    · rw [if_pos h, if_pos (c := (TxnW.shift d t).ret < (TxnW.shift d t).invoke) (show t.ret + d < t.invoke + d by omega)]; rfl
    · rw [if_neg h, if_neg (c := (TxnW.shift d t).ret < (TxnW.shift d t).invoke) (show ¬ (t.ret + d < t.invoke + d) by omega)]; rfl
  have e3 : part p (t.shift d) eps 2 = (part p t eps 2).map (ViolW.shift d) := by
    simp only [part, p3]
    by_cases h : eps < t.invoke - t.start
    · rw [if_pos h, if_pos (c := eps < (TxnW.shift d t).invoke - (TxnW.shift d t).start) (show eps < t.invoke + d - (t.start + d) by omega)]; rfl
    · rw [if_neg h, if_neg (c := eps < (TxnW.shift d t).invoke - (TxnW.shift d t).start) (show ¬ (eps < t.invoke + d - (t.start + d)) by omega)]; rfl
  have e4 : part p (t.shift d) eps 3 = (part p t eps 3).map (ViolW.shift d) := by
    simp only [part, p4]
    by_cases h : eps < t.fin - t.ret
    · rw [if_pos h, if_pos (c := eps < (TxnW.shift d t).fin - (TxnW.shift d t).ret) (show eps < t.fin + d - (t.ret + d) by omega)]; rfl
    · rw [if_neg h, if_neg (c := eps < (TxnW.shift d t).fin - (TxnW.shift d t).ret) (show ¬ (eps < t.fin + d - (t.ret + d)) by omega)]; rfl
  rw [e1, e2, e3, e4]
theorem shift_err {t : TxnW} {d : Int} (h : t.err = 0) (hs : t.start ≤ 549755813888 ∧ t.fin ≤ 549755813888 ∧ t.invoke ≤ 549755813888 ∧ t.ret ≤ 549755813888) (hd : 0 ≤ d ∧ d ≤ 549755813888) : (t.shift d).err = 0 := by
  rcases err_cases t with he | he | he | ⟨_, hf, hl, hr⟩
  · omega
  · omega
  · omega
  · refine err0 ?_ hl hr
    simp only [TxnW.FieldsOk, TxnW.shift] at hf ⊢
    omega
end Go.Proofs.Ytgidabcmbngcbaa
