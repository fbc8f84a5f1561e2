/- Parts of the proof: SwA, SwB, SpM, SpL, SwM, SwK, SpA, SpB, SpC, SpD, SpE, SpF, SpG. -/
import Derived.Test.YtlioccfedophhaaM2
import Derived.Test.YtlioccfedophhaaM3
import Derived.Test.YtlioccfedophhaaProg
import Derived.Maps.RangeRun
/- The sweep, in plain: what a transaction that ends answers. -/
set_option linter.unusedVariables false
set_option linter.unusedSimpArgs false
namespace Go.Proofs.Ytlioccfedophhaa
open Go
set_option maxRecDepth 20000
set_option maxHeartbeats 1000000
/-- a version -/
structure VerW where
  commit : Int
  writer : Int
  found : Bool
  value : ByteArray
def VerW.cells (v : VerW) : List Value := [.int .i64 v.commit, .int .i64 v.writer, .bool v.found, .string v.value]
def VerW.zero : VerW := ⟨0, 0, false, ByteArray.empty⟩
/-- the place of the last write or delete of a key among the first n operations, or -1 -/
def leftN (k : ByteArray) (l : List OpW) : Nat → Int
  | 0 => -1
  | n + 1 => match l[n]? with
    | some o => if o.kind ≠ 1 ∧ o.key = k then (n : Nat) else leftN k l n
    | none => leftN k l n
/-- and itself -/
def lastN (k : ByteArray) (l : List OpW) : Nat → Option OpW
  | 0 => none
  | n + 1 => match l[n]? with
    | some o => if o.kind ≠ 1 ∧ o.key = k then some o else lastN k l n
    | none => lastN k l n
theorem left_last (k : ByteArray) (l : List OpW) : ∀ n, (leftN k l n = -1 ∧ lastN k l n = none) ∨ ∃ (i : Nat) (o : OpW), i < n ∧ leftN k l n = (i : Nat) ∧ l[i]? = some o ∧ lastN k l n = some o ∧ o.kind ≠ 1 ∧ o.key = k
  | 0 => .inl ⟨rfl, rfl⟩
  | n + 1 => by
    unfold leftN lastN
    cases h : l[n]? with
    | none =>
      rcases left_last k l n with h1 | ⟨i, o, h1, h2⟩
      · exact .inl h1
      · exact .inr ⟨i, o, by omega, h2⟩
    | some o =>
      dsimp only
      by_cases hc : o.kind ≠ 1 ∧ o.key = k
      · rw [if_pos hc, if_pos hc]
        exact .inr ⟨n, o, by omega, rfl, h, rfl, hc.1, hc.2⟩
      · rw [if_neg hc, if_neg hc]
        rcases left_last k l n with h1 | ⟨i, o, h1, h2⟩
        · exact .inl h1
        · exact .inr ⟨i, o, by omega, h2⟩
theorem leftN_range (k : ByteArray) (l : List OpW) (n : Nat) : -1 ≤ leftN k l n ∧ leftN k l n < (n : Nat) := by
  rcases left_last k l n with ⟨h, _⟩ | ⟨i, o, h1, h2, _⟩ <;> omega
theorem lastN_iff (k : ByteArray) (l : List OpW) (n : Nat) : (lastN k l n).isSome = true ↔ 0 ≤ leftN k l n := by
  rcases left_last k l n with ⟨h, h2⟩ | ⟨i, o, h1, h2, h3, h4, _⟩
  · rw [h, h2]; simp
  · rw [h2, h4]; simp
theorem lastN_some {k : ByteArray} {l : List OpW} {n : Nat} : (lastN k l n).isSome = true ↔ ∃ i o, i < n ∧ l[i]? = some o ∧ o.kind ≠ 1 ∧ o.key = k := by
  constructor
  · intro h
    rcases left_last k l n with ⟨_, h2⟩ | ⟨i, o, h1, h2, h3, h4, h5, h6⟩
    · rw [h2] at h; cases h
    · exact ⟨i, o, h1, h3, h5, h6⟩
  · rintro ⟨i, o, h1, h2, h3, h4⟩
    induction n with
    | zero => omega
    | succ n ih =>
      unfold lastN
      by_cases hi : i = n
      · subst hi
        rw [h2]
        dsimp only
        rw [if_pos ⟨h3, h4⟩]; rfl
      · have := ih (by omega)
        cases h : l[n]? with
        | none => exact this
        | some u =>
          dsimp only
          split
          · rfl
          · exact this
/-- a transaction that has ended, with its place -/
structure DoneT where
  place : Int
  t : TxnP
def DoneT.cells (d : DoneT) (A : Option Addr) (c : Nat) : List Value := .int .i64 d.place :: d.t.cells A c
/-- it committed, and wrote or deleted the key -/
def wroteD (k : ByteArray) (d : DoneT) : Bool := decide (d.t.status = 1) && (lastN k d.t.ops d.t.ops.length).isSome
def verD (k : ByteArray) (d : DoneT) : VerW := match lastN k d.t.ops d.t.ops.length with
  | some w => ⟨d.t.fin, d.place, w.found, w.value⟩
  | none => ⟨d.t.fin, d.place, false, ByteArray.empty⟩
/-- the order of the ends -/
def lexD (a b : DoneT) : Bool := decide (a.t.fin < b.t.fin) || (decide (a.t.fin = b.t.fin) && decide (a.place < b.place))
theorem lexD_iff (a b : DoneT) : lexD a b = true ↔ a.t.fin < b.t.fin ∨ (a.t.fin = b.t.fin ∧ a.place < b.place) := by
  unfold lexD
  simp only [Bool.or_eq_true, Bool.and_eq_true, decide_eq_true_eq]
theorem lexD_asymm {a b : DoneT} (h : lexD a b = true) : lexD b a = false := by
  rw [← Bool.not_eq_true, lexD_iff]
  rw [lexD_iff] at h
  omega
abbrev SrtD (E : List DoneT) : Prop := E.Pairwise (fun a b => lexD a b = true)
/-- the best of those that p holds of, as a loop finds it: its place -/
def bestN (E : List DoneT) (p : DoneT → Bool) (lt : DoneT → DoneT → Bool) : Nat → Option Nat
  | 0 => none
  | n + 1 => match E[n]? with
    | none => bestN E p lt n
    | some d => if p d then (match bestN E p lt n with
      | none => some n
      | some b => match E[b]? with
        | some u => if lt d u then some n else some b
        | none => some b) else bestN E p lt n
theorem bestN_lt {E : List DoneT} {p : DoneT → Bool} {lt : DoneT → DoneT → Bool} : ∀ {n b : Nat}, bestN E p lt n = some b → b < n ∧ ∃ d, E[b]? = some d ∧ p d = true
  | 0, b, h => by cases h
  | n + 1, b, h => by
    unfold bestN at h
    cases hd : E[n]? with
    | none =>
      rw [hd] at h
      have := bestN_lt h
      exact ⟨by omega, this.2⟩
    | some d =>
      rw [hd] at h
      dsimp only at h
      by_cases hp : p d = true
      · rw [if_pos hp] at h
        cases hb : bestN E p lt n with
        | none =>
          rw [hb] at h
          obtain rfl : n = b := by simpa using h
          exact ⟨by omega, d, hd, hp⟩
        | some c =>
          obtain ⟨h1, u, h2, h3⟩ := bestN_lt hb
          rw [hb] at h
          dsimp only at h
          rw [h2] at h
          dsimp only at h
          by_cases hl : lt d u = true
          · rw [if_pos hl] at h
            obtain rfl : n = b := by simpa using h
            exact ⟨by omega, d, hd, hp⟩
          · rw [if_neg hl] at h
            obtain rfl : c = b := by simpa using h
            exact ⟨by omega, u, h2, h3⟩
      · rw [if_neg hp] at h
        have := bestN_lt h
        exact ⟨by omega, this.2⟩
/-- where what comes later is never better: the first -/
theorem best_first {E : List DoneT} {p : DoneT → Bool} {lt : DoneT → DoneT → Bool} (hs : E.Pairwise (fun a b => lt b a = false)) : ∀ n, n ≤ E.length → (bestN E p lt n).bind (fun b => E[b]?) = (E.take n).find? p
  | 0, _ => by simp [bestN]
  | n + 1, hn => by
    have ih := best_first (p := p) hs n (by omega)
    have hd : E[n]? = some E[n] := List.getElem?_eq_getElem hn
    rw [List.take_add_one, hd, List.find?_append]
    unfold bestN
    rw [hd]
    dsimp only
    simp only [Option.toList_some, List.find?_cons, List.find?_nil]
    by_cases hp : p E[n] = true
    · rw [if_pos hp, hp]
      dsimp only
      cases hb : bestN E p lt n with
      | none =>
        rw [hb] at ih
        have ih' : (E.take n).find? p = none := ih.symm
        rw [ih']
        exact hd
      | some c =>
        obtain ⟨h1, u, h2, h3⟩ := bestN_lt hb
        rw [hb] at ih
        have ih' : (E.take n).find? p = some u := by rw [← ih]; exact h2
        dsimp only
        rw [h2, ih']
        dsimp only
        obtain ⟨hc, hu⟩ := List.getElem?_eq_some_iff.1 h2
        have := List.pairwise_iff_getElem.1 hs c n hc (by omega) h1
        rw [hu] at this
        rw [if_neg (by rw [this]; decide)]
        exact h2
    · rw [if_neg hp, Bool.not_eq_true] at *
      rw [hp]
      dsimp only
      rw [Option.or_none]
      exact ih
/-- where what comes later is always better: the last -/
theorem best_last {E : List DoneT} {p : DoneT → Bool} {lt : DoneT → DoneT → Bool} (hs : E.Pairwise (fun a b => lt b a = true)) : ∀ n, n ≤ E.length → (bestN E p lt n).bind (fun b => E[b]?) = (E.take n).reverse.find? p
  | 0, _ => by simp [bestN]
  | n + 1, hn => by
    have ih := best_last (p := p) hs n (by omega)
    have hd : E[n]? = some E[n] := List.getElem?_eq_getElem hn
    rw [List.take_add_one, hd, List.reverse_append]
    unfold bestN
    rw [hd]
    dsimp only
    simp only [Option.toList_some, List.reverse_cons, List.reverse_nil, List.nil_append, List.cons_append, List.find?_cons]
    by_cases hp : p E[n] = true
    · rw [if_pos hp, hp]
      dsimp only
      cases hb : bestN E p lt n with
      | none => exact hd
      | some c =>
        obtain ⟨h1, u, h2, h3⟩ := bestN_lt hb
        dsimp only
        rw [h2]
        dsimp only
        obtain ⟨hc, hu⟩ := List.getElem?_eq_some_iff.1 h2
        have := List.pairwise_iff_getElem.1 hs c n hc (by omega) h1
        rw [hu] at this
        rw [if_pos this]
        exact hd
    · rw [if_neg hp, Bool.not_eq_true] at *
      rw [hp]
      exact ih
/-- the writer of a key that committed first behind a time: its place and its end -/
def fstD (E : List DoneT) (s : Int) (k : ByteArray) : Option (Int × Int) := (E.find? (fun d => wroteD k d && decide (s < d.t.fin))).map (fun d => (d.place, d.t.fin))
/-- what is seen of a key at a time -/
def seeD (E : List DoneT) (s : Int) (k : ByteArray) : Option VerW := (E.reverse.find? (fun d => wroteD k d && decide (d.t.fin ≤ s))).map (verD k)
/-- the first that committed at a time -/
def twD (E : List DoneT) (f : Int) : Option Int := (E.find? (fun d => decide (d.t.status = 1) && decide (d.t.fin = f))).map DoneT.place
/-- the violation of one operation, out of the answers on its key -/
def oneQ (fst : ByteArray → Option (Int × Int)) (see : ByteArray → Option VerW) (p : Int) (t : TxnP) (j : Nat) (o : OpW) : Option ViolW :=
  if o.kind ≠ 1 then
    match fst o.key with
    | some x => if (lastN o.key t.ops j).isNone ∧ t.status = 1 then some ⟨8, t.fin, p, (j : Nat), x.1, o.key, false, ByteArray.empty, false, ByteArray.empty, t.start, x.2⟩ else none
    | none => none
  else match lastN o.key t.ops j with
    | some w => if w.found ≠ o.found ∨ w.value ≠ o.value then some ⟨6, t.fin, p, (j : Nat), -1, o.key, w.found, w.value, o.found, o.value, t.start, t.fin⟩ else none
    | none =>
      if ((see o.key).getD VerW.zero).found ≠ o.found ∨ ((see o.key).getD VerW.zero).value ≠ o.value then
        some ⟨7, t.fin, p, (j : Nat), if (see o.key).isSome then ((see o.key).getD VerW.zero).writer else -1, o.key, ((see o.key).getD VerW.zero).found, ((see o.key).getD VerW.zero).value, o.found, o.value, ((see o.key).getD VerW.zero).commit, t.start⟩
      else none
def kindsN (f : Nat → OpW → Option ViolW) (l : List OpW) (k : Int) : Nat → List ViolW
  | 0 => []
  | n + 1 => kindsN f l k n ++ (match l[n]? with
    | none => []
    | some o => match f n o with
      | some v => if v.kind = k then [v] else []
      | none => [])
def twinL (tw : Option Int) (p : Int) (t : TxnP) : List ViolW := match tw with
  | some w => if t.status = 1 then [⟨5, t.fin, p, -1, w, ByteArray.empty, false, ByteArray.empty, false, ByteArray.empty, t.start, t.fin⟩] else []
  | none => []
def judgeQ (tw : Option Int) (fst : ByteArray → Option (Int × Int)) (see : ByteArray → Option VerW) (p : Int) (t : TxnP) : List ViolW :=
  twinL tw p t ++ kindsN (oneQ fst see p t) t.ops 6 t.ops.length ++ kindsN (oneQ fst see p t) t.ops 7 t.ops.length ++ kindsN (oneQ fst see p t) t.ops 8 t.ops.length
/-- the violations of a transaction that ends behind those -/
def judgeD (E : List DoneT) (d : DoneT) : List ViolW := judgeQ (twD E d.t.fin) (fstD E d.t.start) (seeD E d.t.start) d.place d.t
theorem kindsN_len (f : Nat → OpW → Option ViolW) (l : List OpW) (k : Int) : ∀ n, (kindsN f l k n).length ≤ n
  | 0 => Nat.le_refl _
  | n + 1 => by
    have := kindsN_len f l k n
    unfold kindsN
    rw [List.length_append]
    split
    · simp; omega
    · split
      · split
        · simp; omega
        · simp; omega
      · simp; omega
theorem twinL_len (tw : Option Int) (p : Int) (t : TxnP) : (twinL tw p t).length ≤ 1 := by
  unfold twinL
  split
  · split <;> simp
  · simp
theorem judgeQ_len (tw : Option Int) (fst : ByteArray → Option (Int × Int)) (see : ByteArray → Option VerW) (p : Int) (t : TxnP) : (judgeQ tw fst see p t).length ≤ 3 * t.ops.length + 1 := by
  unfold judgeQ
  have h1 := twinL_len tw p t
  have h2 := kindsN_len (oneQ fst see p t) t.ops 6 t.ops.length
  have h3 := kindsN_len (oneQ fst see p t) t.ops 7 t.ops.length
  have h4 := kindsN_len (oneQ fst see p t) t.ops 8 t.ops.length
  simp only [List.length_append]
  omega
/-- a version and its key -/
structure VerK where
  key : ByteArray
  v : VerW
/-- the versions that a transaction writes, among its first n operations -/
def newN (d : DoneT) : Nat → List VerK
  | 0 => []
  | n + 1 => newN d n ++ (match d.t.ops[n]? with
    | some o => if o.kind ≠ 1 ∧ (lastN o.key d.t.ops n).isNone then [⟨o.key, verD o.key d⟩] else []
    | none => [])
def newD (d : DoneT) : List VerK := if d.t.status = 1 then newN d d.t.ops.length else []
def allD (E : List DoneT) : List VerK := E.flatMap newD
def chD (k : ByteArray) (H : List VerK) : List VerW := (H.filter (fun v => decide (v.key = k))).map VerK.v
theorem chD_append (k : ByteArray) (H H2 : List VerK) : chD k (H ++ H2) = chD k H ++ chD k H2 := by
  unfold chD
  rw [List.filter_append, List.map_append]
theorem newN_key (d : DoneT) (k : ByteArray) : ∀ n, chD k (newN d n) = if (lastN k d.t.ops n).isSome then [verD k d] else []
  | 0 => rfl
  | n + 1 => by
    have ih := newN_key d k n
    unfold newN
    rw [chD_append, ih]
    cases h : d.t.ops[n]? with
    | none =>
      dsimp only
      have e : lastN k d.t.ops (n + 1) = lastN k d.t.ops n := by
        conv => lhs; unfold lastN
        rw [h]
      rw [e]
      exact List.append_nil _
    | some o =>
      dsimp only
      have e : lastN k d.t.ops (n + 1) = if o.kind ≠ 1 ∧ o.key = k then some o else lastN k d.t.ops n := by
        conv => lhs; unfold lastN
        rw [h]
      rw [e]
      by_cases hk : o.kind ≠ 1 ∧ o.key = k
      · rw [if_pos hk]
        obtain ⟨hk1, rfl⟩ := hk
        cases hl : lastN o.key d.t.ops n with
        | none =>
          simp [chD, hk1]
        | some u =>
          simp [chD]
      · rw [if_neg hk]
        by_cases hc : o.kind ≠ 1 ∧ (lastN o.key d.t.ops n).isNone = true
        · rw [if_pos hc]
          have : ¬ o.key = k := fun e => hk ⟨hc.1, e⟩
          simp [chD, this]
        · rw [if_neg hc]
          simp [chD]
theorem newD_key (d : DoneT) (k : ByteArray) : chD k (newD d) = if wroteD k d then [verD k d] else [] := by
  unfold newD wroteD
  by_cases h : d.t.status = 1
  · rw [if_pos h, newN_key]
    simp [h]
  · rw [if_neg h]
    simp [h, chD]
theorem allD_snoc (E : List DoneT) (d : DoneT) : allD (E ++ [d]) = allD E ++ newD d := by
  unfold allD
  simp
theorem allD_key (k : ByteArray) : ∀ E : List DoneT, chD k (allD E) = (E.filter (wroteD k)).map (verD k)
  | [] => rfl
  | d :: E => by
    have ih := allD_key k E
    have : allD (d :: E) = newD d ++ allD E := rfl
    rw [this, chD_append, ih, newD_key, List.filter_cons]
    split
    · rfl
    · rfl
end Go.Proofs.Ytlioccfedophhaa
/- The sweep, in plain: versions pruned, what is seen. -/
set_option linter.unusedVariables false
set_option linter.unusedSimpArgs false
namespace Go.Proofs.Ytlioccfedophhaa
open Go
set_option maxRecDepth 20000
set_option maxHeartbeats 1000000
/-- u comes behind v -/
def above (u v : VerW) : Bool := decide (v.commit < u.commit) || (decide (v.commit = u.commit) && decide (v.writer < u.writer))
theorem above_iff (u v : VerW) : above u v = true ↔ v.commit < u.commit ∨ (v.commit = u.commit ∧ v.writer < u.writer) := by
  unfold above
  simp only [Bool.or_eq_true, Bool.and_eq_true, decide_eq_true_eq]
theorem above_asymm {u v : VerW} (h : above u v = true) : above v u = false := by
  rw [← Bool.not_eq_true, above_iff]
  rw [above_iff] at h
  omega
theorem above_irrefl (v : VerW) : above v v = false := by
  rw [← Bool.not_eq_true, above_iff]
  omega
abbrev Rise (C : List VerW) : Prop := C.Pairwise (fun u v => above v u = true)
/-- how many versions have a commit of at most a time, at the front -/
def upC (s : Int) : List VerW → Nat
  | [] => 0
  | v :: r => if v.commit ≤ s then upC s r + 1 else 0
theorem upC_le (s : Int) : ∀ C, upC s C ≤ C.length
  | [] => Nat.le_refl _
  | v :: r => by
    have := upC_le s r
    unfold upC
    split <;> simp <;> omega
theorem upC_get {s : Int} : ∀ {C : List VerW}, Rise C → ∀ {i : Nat} {v : VerW}, C[i]? = some v → (v.commit ≤ s ↔ i < upC s C)
  | [], _, i, v, h => by simp at h
  | u :: r, hs, 0, v, h => by
    obtain rfl : u = v := by simpa using h
    unfold upC
    split
    · rename_i hc; exact ⟨fun _ => by omega, fun _ => hc⟩
    · rename_i hc; exact ⟨fun h => absurd h hc, fun h => by omega⟩
  | u :: r, hs, i + 1, v, h => by
    obtain ⟨h1, h2⟩ := List.pairwise_cons.1 hs
    have h' : r[i]? = some v := by simpa using h
    have ih := upC_get (s := s) h2 h'
    have hu := (above_iff _ _).1 (h1 v (List.mem_of_getElem? h'))
    unfold upC
    split
    · rw [ih]; omega
    · omega
/-- what a chain shows at a time -/
def atC (s : Int) (C : List VerW) : Option VerW := match upC s C with
  | 0 => none
  | n + 1 => C[n]?
theorem atC_find {s : Int} {C : List VerW} (hs : Rise C) : atC s C = C.reverse.find? (fun v => decide (v.commit ≤ s)) := by
  have hk := fun (i : Nat) (v : VerW) (h : C[i]? = some v) => upC_get (s := s) hs h
  have hle := upC_le s C
  unfold atC
  have key : ∀ n, n ≤ C.length → upC s C ≤ n → (match upC s C with | 0 => none | m + 1 => C[m]?) = (C.take n).reverse.find? (fun v => decide (v.commit ≤ s)) := fun n => by
    induction n with
    | zero =>
      intro _ h
      rw [show upC s C = 0 by omega]
      rfl
    | succ n ih =>
      intro hn h
      have hd : C[n]? = some C[n] := List.getElem?_eq_getElem hn
      have := hk n _ hd
      rw [List.take_add_one, hd, List.reverse_append]
      simp only [Option.toList_some, List.reverse_cons, List.reverse_nil, List.nil_append, List.cons_append, List.find?_cons]
      by_cases hc : upC s C = n + 1
      · rw [hc, decide_eq_true (this.2 (by omega))]
        exact hd
      · rw [decide_eq_false (fun h2 => by have := this.1 h2; omega)]
        exact ih (by omega) (by omega)
  have := key C.length (Nat.le_refl _) hle
  rwa [List.take_length] at this
/-- a chain pruned -/
def prC (F : Int) (C : List VerW) : List VerW := C.drop (upC F C - 1)
/-- all versions pruned -/
def pruneD (F : Int) (H : List VerK) : List VerK := H.filter (fun v => !H.any (fun u => decide (u.key = v.key) && (decide (u.v.commit ≤ F) && above u.v v.v)))
theorem upC_any {F : Int} {C : List VerW} (hs : Rise C) : C.any (fun u => decide (u.commit ≤ F)) = decide (0 < upC F C) := by
  cases C with
  | nil => rfl
  | cons u r =>
    rw [Bool.eq_iff_iff, List.any_eq_true, decide_eq_true_iff]
    constructor
    · rintro ⟨x, hx, hc⟩
      obtain ⟨i, hi⟩ := List.mem_iff_getElem?.1 hx
      have := (upC_get (s := F) hs hi).1 (of_decide_eq_true hc)
      omega
    · intro h
      exact ⟨u, List.mem_cons_self .., decide_eq_true ((upC_get (s := F) hs (i := 0) (v := u) rfl).2 h)⟩
theorem prC_filter {F : Int} : ∀ {C : List VerW}, Rise C → C.filter (fun v => !C.any (fun u => decide (u.commit ≤ F) && above u v)) = prC F C
  | [], _ => rfl
  | v :: r, hs => by
    obtain ⟨h1, h2⟩ := List.pairwise_cons.1 hs
    have ih := prC_filter (F := F) h2
    have hr : r.filter (fun w => !(v :: r).any (fun u => decide (u.commit ≤ F) && above u w)) = r.filter (fun w => !r.any (fun u => decide (u.commit ≤ F) && above u w)) := by
      refine List.filter_congr fun w hw => ?_
      rw [List.any_cons, above_asymm (h1 w hw), Bool.and_false, Bool.false_or]
    have hv : (v :: r).any (fun u => decide (u.commit ≤ F) && above u v) = decide (0 < upC F r) := by
      rw [List.any_cons, above_irrefl, Bool.and_false, Bool.false_or, ← upC_any h2]
      rw [Bool.eq_iff_iff, List.any_eq_true, List.any_eq_true]
      constructor
      · rintro ⟨u, hu, h⟩
        rw [Bool.and_eq_true] at h
        exact ⟨u, hu, h.1⟩
      · rintro ⟨u, hu, h⟩
        exact ⟨u, hu, by rw [h, h1 u hu]; rfl⟩
    rw [List.filter_cons, hv, hr, ih]
    have hu : upC F (v :: r) = if v.commit ≤ F then upC F r + 1 else 0 := rfl
    show _ = (v :: r).drop (upC F (v :: r) - 1)
    rw [hu]
    unfold prC
    by_cases hc : v.commit ≤ F
    · rw [if_pos hc]
      by_cases hn : 0 < upC F r
      · rw [decide_eq_true hn, if_neg (by decide)]
        obtain ⟨n, hn2⟩ : ∃ n, upC F r = n + 1 := ⟨upC F r - 1, by omega⟩
        rw [hn2]
        rfl
      · rw [decide_eq_false hn, if_pos (by decide), show upC F r = 0 by omega]
        rfl
    · rw [if_neg hc]
      have hn : upC F r = 0 := by
        cases r with
        | nil => rfl
        | cons u r =>
          have := (above_iff _ _).1 (h1 u (List.mem_cons_self ..))
          unfold upC
          rw [if_neg (by omega)]
      rw [hn]
      rfl
theorem chD_prune {F : Int} {H : List VerK} (k : ByteArray) (hs : Rise (chD k H)) : chD k (pruneD F H) = prC F (chD k H) := by
  rw [← prC_filter hs]
  unfold chD pruneD
  rw [List.filter_map, List.filter_filter, List.filter_filter]
  refine congrArg _ (List.filter_congr fun v _ => ?_)
  by_cases hk : v.key = k
  · subst hk
    rw [decide_eq_true rfl, Bool.true_and, Bool.and_true]
    congr 1
    simp only [Function.comp, List.any_map, List.any_filter]
  · rw [decide_eq_false hk, Bool.false_and, Bool.and_false]
end Go.Proofs.Ytlioccfedophhaa
/- Maps under string keys. -/
set_option linter.unusedVariables false
set_option linter.unusedSimpArgs false
namespace Go.Proofs.Ytlioccfedophhaa
open Go
set_option maxRecDepth 20000
section
variable {α : Type}
def adel [DecidableEq α] (a : α) (L : TE α) : TE α := L.filter (fun e => decide (a ≠ e.1))
theorem aget_del [DecidableEq α] {a b : α} : ∀ {L : TE α}, aget b (adel a L) = if b = a then none else aget b L
  | [] => by simp [adel, aget]
  | e :: r => by
    have ih := aget_del (a := a) (b := b) (L := r)
    unfold adel aget at *
    by_cases h : a = e.1
    · rw [List.filter_cons_of_neg (by simp [h]), ih, List.find?_cons]
      by_cases hb : b = a
      · rw [if_pos hb, if_pos hb]
      · rw [if_neg hb, if_neg hb, show decide (b = e.1) = false by rw [← h]; simp [hb]]
    · rw [List.filter_cons_of_pos (by simp [h]), List.find?_cons, List.find?_cons]
      by_cases hb : b = e.1
      · have hba : ¬ b = a := fun e2 => h (by rw [← e2, hb])
        rw [if_neg hba]
        simp [hb]
      · simp only [decide_eq_true_eq, hb, decide_false]
        exact ih
theorem MapOk.del [DecidableEq α] {L : TE α} {clk : Nat} (h : MapOk L clk) (a : α) : MapOk (adel a L) clk :=
  ⟨h.keys.filter _, h.stamps.filter _, fun e he => h.lt e (List.mem_filter.1 he).1⟩
theorem adel_erase [DecidableEq α] {a : α} {u : Value} {b : Nat} : ∀ {L : TE α} {n : Nat}, L.Pairwise (fun a b => a.1 ≠ b.1) → L[n]? = some (a, u, b) → L.eraseIdx n = adel a L
  | [], n, _, h => by simp at h
  | e :: r, 0, hp, h => by
    obtain rfl : e = (a, u, b) := by simpa using h
    unfold adel
    rw [List.filter_cons_of_neg (by simp), List.eraseIdx_cons_zero]
    exact (List.filter_eq_self.2 fun x hx => by simpa using (List.pairwise_cons.1 hp).1 x hx).symm
  | e :: r, n + 1, hp, h => by
    have h' : r[n]? = some (a, u, b) := by simpa using h
    have hne : e.1 ≠ a := (List.pairwise_cons.1 hp).1 _ (List.mem_of_getElem? h')
    unfold adel
    rw [List.filter_cons_of_pos (by simpa using fun e2 => hne e2.symm), List.eraseIdx_cons_succ, adel_erase (List.pairwise_cons.1 hp).2 h']
    rfl
theorem adel_none [DecidableEq α] {a : α} {L : TE α} (h : L.find? (fun e => decide (a = e.1)) = none) : adel a L = L :=
  List.filter_eq_self.2 fun x hx => by simpa using List.find?_eq_none.1 h x hx
theorem erase_map {β γ : Type} (f : β → γ) : ∀ (l : List β) (n : Nat), (l.map f).eraseIdx n = (l.eraseIdx n).map f
  | [], n => by simp
  | e :: r, 0 => by simp
  | e :: r, n + 1 => by simp [erase_map f r n]
theorem ents_erase {κ : α → Value} {L : TE α} {n : Nat} (h : n < L.length) : (ents (tents κ L)).eraseIdxIfInBounds n = ents (tents κ (L.eraseIdx n)) := by
  apply Array.ext'
  unfold Array.eraseIdxIfInBounds
  rw [dif_pos (by simpa [ents, tents] using h)]
  simp [ents, tents, erase_map]
end
section
variable {α : Type} {κ : α → Value} {P : Program} {ops : Array Oper} {Q : Exit → Act → World → Prop} {nt : Sh} {w0 : World} {X : List Nat} {fr : Fr} {M : List Seg} {rest : List Oper} {ty : TypeId} {pos : String} {af : Array Edge} {t : TypeId} {x y s : Operand}
/-- delete(m, k) -/
theorem wl_mdel [DecidableEq α] (i : Nat) {kt e t2 : TypeId} {g clk : Nat} {L : TE α} {a : α} (ht : mapT P t = some (kt, e)) (hok : MapOk L clk) (hx : ev fr x = some (.map (some g))) (hs : ev fr s = some (κ a)) (hi : M[i]? = some [(g, .map (ents (tents κ L)) clk)])
    (hκ : ∀ a b, keyEq (κ a) (κ b) = decide (a = b)) (hg : KeyGood P kt (κ a)) (hk : ∀ b, KeyOk P kt (κ a) (κ b)) (h : WX .seq P ops Q nt w0 X rest fr (M.set i [(g, .map (ents (tents κ (adel a L))) clk)])) :
    WX .seq P ops Q nt w0 X (⟨none, .call ⟨.builtin .delete, #[x, s], #[t, t2]⟩, ty, pos, af, none⟩ :: rest) fr M :=
  wl_step rfl rfl fun c w hst hr => by
    obtain ⟨hu, dk, hdk⟩ := mapT_spec ht
    have hb := hr.blk hi (j := 0) rfl
    have hf := run_findKey hdk (l := tents κ L) (k := κ a) (fun e he => by
      obtain ⟨e', _, rfl⟩ := List.mem_map.1 he
      exact hk e'.1) w
    have hgo : (getObj g).run P w = .ok (.map (ents (tents κ L)) clk) w := run_getObj_map hb
    have hso := run_setObj_map (P := P) (es' := ents (tents κ (adel a L))) (clk' := clk) hb
    refine ⟨.tuple #[], { w with heap := w.heap.setIfInBounds g (.map (ents (tents κ (adel a L))) clk) }, _, ?_, hr.turnAt hi (res_obj hb), h⟩
    have hto : (ents (tents κ L)).toList = (tents κ L).map ent := by simp [ents]
    rcases mlook_t hκ a L 0 with ⟨h1, h2⟩ | ⟨n, u, b, h1, h2, h3⟩
    · rw [adel_none h2] at hso ⊢
      simp [execOp, resolve, invoke, builtin, Builtin.delete_, hst.ev hx, hst.ev hs, run_underlying hu, hgo, hg.check, hto, hf, h1, hso]
    · have hlt := (List.getElem?_eq_some_iff.1 h2).1
      have hee := ents_erase (κ := κ) hlt
      rw [adel_erase hok.keys h2] at hee
      simp [execOp, resolve, invoke, builtin, Builtin.delete_, hst.ev hx, hst.ev hs, run_underlying hu, hgo, hg.check, hto, hf, h1, hee, hso]
end
abbrev mpB (g : Nat) (L : TE ByteArray) (clk : Nat) : Seg := [(g, .map (ents (tents Value.string L)) clk)]
section
variable {P : Program} {ops : Array Oper} {Q : Exit → Act → World → Prop} {nt : Sh} {w0 : World} {X : List Nat} {fr : Fr} {M : List Seg} {rest : List Oper} {ty : TypeId} {pos : String} {af : Array Edge} {t : TypeId} {x y s : Operand}
theorem v_agetT {dst : Option Nat} {gd : Option (Nat × Bool)} {kt e : TypeId} {g clk : Nat} {L : TE ByteArray} {a : ByteArray} {z v : Value} {R : List Seg} [T : Take (mpB g L clk) M R] (hv : (aget a L).getD z = v) (ht : mapT P t = some (kt, e)) (hz : zeroV P e = some z) (hx : ev fr x = some (.map (some g))) (hy : ev fr y = some (.string a)) (hks : P.underlying kt = some .string) :
    Val P nt w0 X fr M ⟨dst, .lookup t x y false, ty, pos, af, gd⟩ v := by
  obtain ⟨i, hi⟩ := List.mem_iff_getElem?.1 (T.perm.mem_iff.2 (List.mem_cons_self ..))
  exact v_agetV (κ := Value.string) i 0 hv ht hz hx hy hi rfl key_string (good_string hks a) (ok_string hks a)
theorem wl_mputT {kt e : TypeId} {g clk : Nat} {L : TE ByteArray} {a : ByteArray} {v : Value} {R : List Seg} [T : Take (mpB g L clk) M R] (ht : mapT P t = some (kt, e)) (hok : MapOk L clk) (hx : ev fr x = some (.map (some g))) (hs : ev fr s = some (.string a)) (hy : ev fr y = some v) (hks : P.underlying kt = some .string)
    (h : WX .seq P ops Q nt w0 X rest fr (mpB g (aput a v L clk) (aclk a L clk) :: R)) :
    WX .seq P ops Q nt w0 X (⟨none, .mapUpdate t x s y, ty, pos, af, none⟩ :: rest) fr M :=
  wx_sub (M1 := mpB g L clk :: R) (L := []) (by simpa using T.perm) (wl_mput (κ := Value.string) 0 ht hok hx hs hy rfl key_string (good_string hks a) (ok_string hks a) h)
theorem wl_mdelT {kt e t2 : TypeId} {g clk : Nat} {L : TE ByteArray} {a : ByteArray} {R : List Seg} [T : Take (mpB g L clk) M R] (ht : mapT P t = some (kt, e)) (hok : MapOk L clk) (hx : ev fr x = some (.map (some g))) (hs : ev fr s = some (.string a)) (hks : P.underlying kt = some .string)
    (h : WX .seq P ops Q nt w0 X rest fr (mpB g (adel a L) clk :: R)) :
    WX .seq P ops Q nt w0 X (⟨none, .call ⟨.builtin .delete, #[x, s], #[t, t2]⟩, ty, pos, af, none⟩ :: rest) fr M :=
  wx_sub (M1 := mpB g L clk :: R) (L := []) (by simpa using T.perm) (wl_mdel (κ := Value.string) 0 ht hok hx hs rfl key_string (good_string hks a) (ok_string hks a) h)
end
end Go.Proofs.Ytlioccfedophhaa
/- for k, v := range m over a map of one's own that the loop does not turn. -/
set_option linter.unusedVariables false
set_option linter.unusedSimpArgs false
namespace Go.Proofs.Ytlioccfedophhaa
open Go
set_option maxRecDepth 20000
abbrev itB (r g clk : Nat) (D : TE ByteArray) : Seg := [(r, .mapIter (some g) clk (D.map (·.2.2)).toArray clk)]
section
variable {P : Program} {ops : Array Oper} {Q : Exit → Act → World → Prop} {nt : Sh} {w0 : World} {X : List Nat} {fr : Fr} {M : List Seg} {rest : List Oper} {ty : TypeId} {pos : String} {af : Array Edge} {t : TypeId} {x : Operand}
theorem take_blk {w : World} {g : Nat} {o : Obj} {R : List Seg} [T : Take [(g, o)] M R] (hr : Res w0 X w M) : w.heap[g]? = some o := by
  obtain ⟨i, hi⟩ := List.mem_iff_getElem?.1 (T.perm.mem_iff.2 (List.mem_cons_self ..))
  exact hr.blk hi (j := 0) rfl
theorem wl_range {d : Nat} {kt e : TypeId} {g clk : Nat} {L : TE ByteArray} {R : List Seg} [T : Take (mpB g L clk) M R] (ht : mapT P t = some (kt, e)) (hx : ev fr x = some (.map (some g))) (hd : Nat.blt d nt.n = true)
    (h : ∀ r, WX .seq P ops Q nt w0 X rest ((d, .pointer (some ⟨r, 0, none⟩)) :: fr) (itB r g clk [] :: M)) :
    WX .seq P ops Q nt w0 X (⟨some d, .range t x, ty, pos, af, none⟩ :: rest) fr M :=
  wl_step rfl hd fun c w hs hr => by
    have hb := take_blk (T := T) hr
    have hu := (mapT_spec ht).1
    refine ⟨_, w.alloc (.mapIter (some g) clk #[] clk), _, ?_, hr.new _ rfl rfl rfl rfl, h _⟩
    simp [execOp, hs.ev hx, run_range_map w t kt e g _ clk hu hb]
theorem stamp_inj : ∀ {L : TE ByteArray}, L.Pairwise (fun a b => a.2.2 ≠ b.2.2) → ∀ {a b : ByteArray × Value × Nat}, a ∈ L → b ∈ L → a.2.2 = b.2.2 → a = b
  | [], _, a, b, ha, _, _ => by cases ha
  | y :: l, hp, a, b, ha, hb, e => by
    obtain ⟨p1, p2⟩ := List.pairwise_cons.1 hp
    rcases List.mem_cons.1 ha with h1 | h1
    · rcases List.mem_cons.1 hb with h2 | h2
      · rw [h1, h2]
      · rw [h1] at e
        exact absurd e (p1 b h2)
    · rcases List.mem_cons.1 hb with h2 | h2
      · rw [h2] at e
        exact absurd e.symm (p1 a h1)
      · exact stamp_inj p2 h1 h2 e
theorem mem_ents {L : TE ByteArray} (y : MapEntry) : y ∈ (ents (tents Value.string L)).toList ↔ ∃ e ∈ L, y = ent (.string e.1, e.2) := by
  simp only [ents, tents, List.map_map, List.mem_map]
  constructor
  · rintro ⟨e, he, rfl⟩; exact ⟨e, he, rfl⟩
  · rintro ⟨e, he, rfl⟩; exact ⟨e, he, rfl⟩
theorem v_entry {dst : Option Nat} {gd : Option (Nat × Bool)} {r g clk : Nat} {L D : TE ByteArray} {e : ByteArray × Value × Nat} {R R2 : List Seg} [T : Take (itB r g clk (D ++ [e])) M R] [T2 : Take (mpB g L clk) M R2] (hok : MapOk L clk) (he : e ∈ L) (hx : ev fr x = some (.pointer (some ⟨r, 0, none⟩))) :
    Val P nt w0 X fr M ⟨dst, .entry x, ty, pos, af, gd⟩ (.tuple #[.string e.1, e.2.1]) := fun c w hs hr => by
  have hi := take_blk (T := T) hr
  have hb := take_blk (T := T2) hr
  have hi2 : w.heap[r]? = some (.mapIter (some g) clk ((D.map (·.2.2)).toArray.push (ent (.string e.1, e.2)).born) clk) := by
    rw [hi]
    simp [ent]
  have hn : ((ents (tents Value.string L)).toList.map (·.born)).Nodup := by
    have : (ents (tents Value.string L)).toList.map (·.born) = L.map (·.2.2) := by simp [ents, tents, ent]
    rw [this]
    exact List.pairwise_map.2 hok.stamps
  have hrun := run_entry_at (P := P) w r g clk (D.map (·.2.2)).toArray _ clk _ hi2 hb ((mem_ents _).2 ⟨e, he, rfl⟩) hn
  simp [execOp, hs.ev hx, hrun, ent]
theorem wl_next {d : Nat} {r g clk : Nat} {L D : TE ByteArray} {R R2 : List Seg} [T : Take (itB r g clk D) M R] [T2 : Take (mpB g L clk) M R2] (hok : MapOk L clk) (hD : ∀ e ∈ D, e ∈ L) (hx : ev fr x = some (.pointer (some ⟨r, 0, none⟩))) (hd : Nat.blt d nt.n = true)
    (h0 : (∀ e ∈ L, e ∈ D) → WX .seq P ops Q nt w0 X rest ((d, .tuple #[.bool false]) :: fr) M)
    (h1 : ∀ e ∈ L, e ∉ D → WX .seq P ops Q nt w0 X rest ((d, .tuple #[.bool true, .string e.1, e.2.1]) :: fr) (itB r g clk (D ++ [e]) :: R)) :
    WX .seq P ops Q nt w0 X (⟨some d, .next x false, ty, pos, af, none⟩ :: rest) fr M :=
  wl_step rfl hd fun c w hs hr => by
    have hi := take_blk (T := T) hr
    have hb := take_blk (T := T2) hr
    have hmem := mem_ents (L := L)
    have hinj := fun a ha b hb => stamp_inj hok.stamps (a := a) (b := b) ha hb
    rcases run_next_at (P := P) w ty r g clk clk (D.map (·.2.2)).toArray (ents (tents Value.string L)) clk hi hb (fun y hy => by
      obtain ⟨e, he, rfl⟩ := (hmem y).1 hy
      exact hok.lt e he) (Nat.le_refl _) with ⟨hz, hrun⟩ | ⟨y, hy, w1, hw1, hrun⟩
    · refine ⟨_, w, M, by simp [execOp, hs.ev hx, hrun], hr, h0 fun e he => ?_⟩
      have := all_seen _ _ hz _ ((hmem _).2 ⟨e, he, rfl⟩)
      have h2 : e.2.2 ∈ D.map (·.2.2) := by simpa [ent] using this
      obtain ⟨e', h3, h4⟩ := List.mem_map.1 h2
      rw [← hinj e' (hD e' h3) e he h4]
      exact h3
    · obtain ⟨h2, h3⟩ := mem_left hy
      obtain ⟨e, he, rfl⟩ := (hmem y).1 h2
      have hne : e ∉ D := fun hm => by
        have : e.2.2 ∈ D.map (·.2.2) := List.mem_map.2 ⟨e, hm, rfl⟩
        have h4 : ¬ e.2.2 ∈ D.map (·.2.2) := by simpa [ent] using h3
        exact h4 this
      have hr1 : Res w0 X w1 M := by
        rcases hw1 with rfl | rfl
        · exact hr
        · exact hr.drew _
      have hi1 := take_blk (T := T) hr1
      have h5 := (hr1.perm T.perm).turn (res_obj (o' := .mapIter (some g) clk ((D ++ [e]).map (·.2.2)).toArray clk) hi1)
      have h6 : Res w0 X (ChangeMaps.setBlock w1 r (.mapIter (some g) clk ((D ++ [e]).map (·.2.2)).toArray clk)) (itB r g clk (D ++ [e]) :: R) := h5
      refine ⟨_, _, _, ?_, h6, h1 e he hne⟩
      simp [execOp, hs.ev hx, hrun, ent]
end
end Go.Proofs.Ytlioccfedophhaa
/- Maps under keys of a kind (strings, ints); for k, v := range m where the loop may turn the values. -/
set_option linter.unusedVariables false
set_option linter.unusedSimpArgs false
namespace Go.Proofs.Ytlioccfedophhaa
open Go
set_option maxRecDepth 20000
abbrev kI : Int → Value := fun n => .int .i64 n
structure KeyK {α : Type} [DecidableEq α] (P : Program) (kt : TypeId) (κ : α → Value) : Prop where
  key : ∀ a b, keyEq (κ a) (κ b) = decide (a = b)
  good : ∀ a, KeyGood P kt (κ a)
  ok : ∀ a b, KeyOk P kt (κ a) (κ b)
theorem keyS {P : Program} {kt : TypeId} (h : P.underlying kt = some .string) : KeyK P kt Value.string := ⟨key_string, good_string h, ok_string h⟩
theorem check_int {P : Program} {kt : TypeId} (h : P.underlying kt = some (.int .i64)) (b : Bool) (n : Nat) (s : Int) (w : World) : (Instr.checkKey b (n + 1) kt (.int .i64 s)).run P w = .ok () w := by
  simp [Instr.checkKey, run_underlying h]
theorem keyI {P : Program} {kt : TypeId} (h : P.underlying kt = some (.int .i64)) : KeyK P kt kI :=
  ⟨fun a b => by simp [keyEq, eqV], fun a => ⟨fun b w => check_int h b 9999 a w, by simp [Instr.sameBits]⟩,
   fun a b => ⟨fun w => run_equalIn_scal 9999 h (by simp [kindV]), fun d hd => by
    rw [h] at hd; cases hd
    refine .inr ?_
    simp [Instr.sameNow, keyEq, eqV, Bool.beq_eq_decide_eq], fun e => by simpa [keyEq, eqV] using e⟩⟩
abbrev mpK {α : Type} (κ : α → Value) (g : Nat) (L : TE α) (clk : Nat) : Seg := [(g, .map (ents (tents κ L)) clk)]
abbrev itK (r g clk : Nat) (D : List Nat) : Seg := [(r, .mapIter (some g) clk D.toArray clk)]
section
variable {α : Type} {κ : α → Value} {P : Program} {ops : Array Oper} {Q : Exit → Act → World → Prop} {nt : Sh} {w0 : World} {X : List Nat} {fr : Fr} {M : List Seg} {rest : List Oper} {ty : TypeId} {pos : String} {af : Array Edge} {t : TypeId} {x y s : Operand}
theorem wl_rangeK {d : Nat} {kt e : TypeId} {g clk : Nat} {L : TE α} {R : List Seg} [T : Take (mpK κ g L clk) M R] (ht : mapT P t = some (kt, e)) (hx : ev fr x = some (.map (some g))) (hd : Nat.blt d nt.n = true)
    (h : ∀ r, WX .seq P ops Q nt w0 X rest ((d, .pointer (some ⟨r, 0, none⟩)) :: fr) (itK r g clk [] :: M)) :
    WX .seq P ops Q nt w0 X (⟨some d, .range t x, ty, pos, af, none⟩ :: rest) fr M :=
  wl_step rfl hd fun c w hs hr => by
    have hb := take_blk (T := T) hr
    have hu := (mapT_spec ht).1
    refine ⟨_, w.alloc (.mapIter (some g) clk #[] clk), _, ?_, hr.new _ rfl rfl rfl rfl, h _⟩
    simp [execOp, hs.ev hx, run_range_map w t kt e g _ clk hu hb]
theorem mem_entK {L : TE α} (y : MapEntry) : y ∈ (ents (tents κ L)).toList ↔ ∃ e ∈ L, y = ent (κ e.1, e.2) := by
  simp only [ents, tents, List.map_map, List.mem_map]
  constructor
  · rintro ⟨e, he, rfl⟩; exact ⟨e, he, rfl⟩
  · rintro ⟨e, he, rfl⟩; exact ⟨e, he, rfl⟩
theorem v_entryK {dst : Option Nat} {gd : Option (Nat × Bool)} {r g clk : Nat} {L : TE α} {D : List Nat} {e : α × Value × Nat} {R R2 : List Seg} [T : Take (itK r g clk (D ++ [e.2.2])) M R] [T2 : Take (mpK κ g L clk) M R2] (hok : MapOk L clk) (he : e ∈ L) (hx : ev fr x = some (.pointer (some ⟨r, 0, none⟩))) :
    Val P nt w0 X fr M ⟨dst, .entry x, ty, pos, af, gd⟩ (.tuple #[κ e.1, e.2.1]) := fun c w hs hr => by
  have hi := take_blk (T := T) hr
  have hb := take_blk (T := T2) hr
  have hi2 : w.heap[r]? = some (.mapIter (some g) clk (D.toArray.push (ent (κ e.1, e.2)).born) clk) := by
    rw [hi]
    simp [ent]
  have hn : ((ents (tents κ L)).toList.map (·.born)).Nodup := by
    have : (ents (tents κ L)).toList.map (·.born) = L.map (·.2.2) := by simp [ents, tents, ent]
    rw [this]
    exact List.pairwise_map.2 hok.stamps
  have hrun := run_entry_at (P := P) w r g clk D.toArray _ clk _ hi2 hb ((mem_entK _).2 ⟨e, he, rfl⟩) hn
  simp [execOp, hs.ev hx, hrun, ent]
/-- the next entry that was not yet seen, if any is left -/
theorem wl_nextK {d : Nat} {r g clk : Nat} {L : TE α} {D : List Nat} {R R2 : List Seg} [T : Take (itK r g clk D) M R] [T2 : Take (mpK κ g L clk) M R2] (hok : MapOk L clk) (hx : ev fr x = some (.pointer (some ⟨r, 0, none⟩))) (hd : Nat.blt d nt.n = true)
    (h0 : (∀ e ∈ L, e.2.2 ∈ D) → WX .seq P ops Q nt w0 X rest ((d, .tuple #[.bool false]) :: fr) M)
    (h1 : ∀ e ∈ L, e.2.2 ∉ D → WX .seq P ops Q nt w0 X rest ((d, .tuple #[.bool true, κ e.1, e.2.1]) :: fr) (itK r g clk (D ++ [e.2.2]) :: R)) :
    WX .seq P ops Q nt w0 X (⟨some d, .next x false, ty, pos, af, none⟩ :: rest) fr M :=
  wl_step rfl hd fun c w hs hr => by
    have hi := take_blk (T := T) hr
    have hb := take_blk (T := T2) hr
    have hmem := mem_entK (κ := κ) (L := L)
    rcases run_next_at (P := P) w ty r g clk clk D.toArray (ents (tents κ L)) clk hi hb (fun y hy => by
      obtain ⟨e, he, rfl⟩ := (hmem y).1 hy
      exact hok.lt e he) (Nat.le_refl _) with ⟨hz, hrun⟩ | ⟨y, hy, w1, hw1, hrun⟩
    · refine ⟨_, w, M, by simp [execOp, hs.ev hx, hrun], hr, h0 fun e he => ?_⟩
      have := all_seen _ _ hz _ ((hmem _).2 ⟨e, he, rfl⟩)
      simpa [ent] using this
    · obtain ⟨h2, h3⟩ := mem_left hy
      obtain ⟨e, he, rfl⟩ := (hmem y).1 h2
      have hne : e.2.2 ∉ D := by simpa [ent] using h3
      have hr1 : Res w0 X w1 M := by
        rcases hw1 with rfl | rfl
        · exact hr
        · exact hr.drew _
      have hi1 := take_blk (T := T) hr1
      have h5 := (hr1.perm T.perm).turn (res_obj (o' := .mapIter (some g) clk (D ++ [e.2.2]).toArray clk) hi1)
      have h6 : Res w0 X (ChangeMaps.setBlock w1 r (.mapIter (some g) clk (D ++ [e.2.2]).toArray clk)) (itK r g clk (D ++ [e.2.2]) :: R) := h5
      refine ⟨_, _, _, ?_, h6, h1 e he hne⟩
      simp [execOp, hs.ev hx, hrun, ent]
end
section
variable {α : Type} [DecidableEq α] {κ : α → Value} {P : Program} {ops : Array Oper} {Q : Exit → Act → World → Prop} {nt : Sh} {w0 : World} {X : List Nat} {fr : Fr} {M : List Seg} {rest : List Oper} {ty : TypeId} {pos : String} {af : Array Edge} {t : TypeId} {x y s : Operand}
theorem v_agetK {dst : Option Nat} {gd : Option (Nat × Bool)} {kt e : TypeId} {g clk : Nat} {L : TE α} {a : α} {z v : Value} {R : List Seg} [T : Take (mpK κ g L clk) M R] (hv : (aget a L).getD z = v) (ht : mapT P t = some (kt, e)) (hK : KeyK P kt κ) (hz : zeroV P e = some z) (hx : ev fr x = some (.map (some g))) (hy : ev fr y = some (κ a)) :
    Val P nt w0 X fr M ⟨dst, .lookup t x y false, ty, pos, af, gd⟩ v := by
  obtain ⟨i, hi⟩ := List.mem_iff_getElem?.1 (T.perm.mem_iff.2 (List.mem_cons_self ..))
  rw [← hv]
  exact v_aget i 0 ht hz hx hy hi rfl hK.key (hK.good a) (hK.ok a)
/-- v, ok := m[k] -/
theorem v_aget2K {dst : Option Nat} {gd : Option (Nat × Bool)} {kt e : TypeId} {g clk : Nat} {L : TE α} {a : α} {z v : Value} {b : Bool} {R : List Seg} [T : Take (mpK κ g L clk) M R] (hv : (aget a L).getD z = v) (hb : (aget a L).isSome = b) (ht : mapT P t = some (kt, e)) (hK : KeyK P kt κ) (hz : zeroV P e = some z) (hx : ev fr x = some (.map (some g))) (hy : ev fr y = some (κ a)) :
    Val P nt w0 X fr M ⟨dst, .lookup t x y true, ty, pos, af, gd⟩ (.tuple #[v, .bool b]) := by
  obtain ⟨i, hi⟩ := List.mem_iff_getElem?.1 (T.perm.mem_iff.2 (List.mem_cons_self ..))
  rw [← hv, ← hb, ← mget_t hK.key]
  exact v_mlook2 i 0 ht hz hx hy hi rfl (hK.good a) (fun e he => by
    obtain ⟨e', _, rfl⟩ := List.mem_map.1 he
    exact hK.ok a e'.1)
theorem wl_mputK {kt e : TypeId} {g clk : Nat} {L : TE α} {a : α} {v : Value} {R : List Seg} [T : Take (mpK κ g L clk) M R] (ht : mapT P t = some (kt, e)) (hK : KeyK P kt κ) (hok : MapOk L clk) (hx : ev fr x = some (.map (some g))) (hs : ev fr s = some (κ a)) (hy : ev fr y = some v)
    (h : WX .seq P ops Q nt w0 X rest fr (mpK κ g (aput a v L clk) (aclk a L clk) :: R)) :
    WX .seq P ops Q nt w0 X (⟨none, .mapUpdate t x s y, ty, pos, af, none⟩ :: rest) fr M :=
  wx_sub (M1 := mpK κ g L clk :: R) (L := []) (by simpa using T.perm) (wl_mput (κ := κ) 0 ht hok hx hs hy rfl hK.key (hK.good a) (hK.ok a) h)
theorem wl_mdelK {kt e t2 : TypeId} {g clk : Nat} {L : TE α} {a : α} {R : List Seg} [T : Take (mpK κ g L clk) M R] (ht : mapT P t = some (kt, e)) (hK : KeyK P kt κ) (hok : MapOk L clk) (hx : ev fr x = some (.map (some g))) (hs : ev fr s = some (κ a))
    (h : WX .seq P ops Q nt w0 X rest fr (mpK κ g (adel a L) clk :: R)) :
    WX .seq P ops Q nt w0 X (⟨none, .call ⟨.builtin .delete, #[x, s], #[t, t2]⟩, ty, pos, af, none⟩ :: rest) fr M :=
  wx_sub (M1 := mpK κ g L clk :: R) (L := []) (by simpa using T.perm) (wl_mdel (κ := κ) 0 ht hok hx hs rfl hK.key (hK.good a) (hK.ok a) h)
end
end Go.Proofs.Ytlioccfedophhaa
/- The store of versions: looking up a time. -/
set_option linter.unusedVariables false
set_option linter.unusedSimpArgs false
namespace Go.Proofs.Ytlioccfedophhaa
open Go
set_option maxRecDepth 20000
set_option maxHeartbeats 2000000
/-- a call of a function that is a value -/
theorem run_callV {P : Program} {fr : Fr} {nt : Sh} {dst : Option Nat} {ty : TypeId} {pos : String} {af : Array Edge} {gd : Option (Nat × Bool)} {f : FuncId} {x : Operand} {xs : List Operand} {tys : Array TypeId} {vs : List Value} {c : Act} {w : World} (hs : St nt c fr) (hf : okFn P f = true) (h0 : ev fr x = some (.func (.func f) #[] #[])) (hx : evs fr xs = some vs) :
    (execOp c.eval ⟨dst, .call ⟨.value x, xs.toArray, tys⟩, ty, pos, af, gd⟩).run P w = .ok (.enter f vs.toArray) w := by
  have h1 := hs.evs hx
  have h2 : Array.map c.eval xs.toArray = vs.toArray := by simp [← h1]
  simp only [execOp, resolve, h2, hs.ev h0]
  simp [Deferred.ofValue, invoke, run_callFunc hf]
theorem vc_pureV {P : Program} {fr : Fr} {nt : Sh} {w0 : World} {X : List Nat} {M : List Seg} {dst : Option Nat} {ty : TypeId} {pos : String} {af : Array Edge} {gd : Option (Nat × Bool)} {f : FuncId} {x : Operand} {xs : List Operand} {tys : Array TypeId} {vs : List Value} {v : Value} (h0 : ev fr x = some (.func (.func f) #[] #[])) (hx : evs fr xs = some vs) (hf : okFn P f = true)
    (hc : ∀ w, Res w0 X w M → Calls P f vs.toArray w (Ret (β := Unit) w (ids []) (fun _ => v) (fun _ => []) (fun _ => True))) :
    VCall P nt w0 X fr M ⟨dst, .call ⟨.value x, xs.toArray, tys⟩, ty, pos, af, gd⟩ v := fun c w hs hr =>
  ⟨f, vs.toArray, run_callV hs hf h0 hx, (hc w hr).mono fun e w' ⟨_, _, h1, h2⟩ => ⟨h1, by simpa using ((show Res w0 X w ([] ++ M) from by simpa using hr).call h2)⟩⟩
attribute [local irreducible] WX WC WQ Val VCall
theorem rSwK_0 {A B : Prop} (k : B) (h : Hold B → A := by intro k; (repeat (first | (apply wx_val; (first | exact v_move rfl | exact v_assign rfl | exact v_faddr rfl rfl | exact v_ldT rfl rfl rfl (by rfl) | exact v_extract rfl rfl | exact v_len rfl rfl | exact v_eq rfl rfl | exact v_lt rfl rfl | exact v_le rfl rfl | exact v_addi rfl rfl (by omega) | exact v_pickT rfl rfl | exact v_pickF rfl rfl | exact v_iaddrE (by assumption) rfl rfl rfl (by omega) | exact v_conv rfl rfl rfl | exact v_shr rfl rfl (by omega)); rfl) | refine wx_no rfl rfl rfl ?_ | refine wx_ungd rfl rfl ?_ | refine wc_seq ?_ | refine wc_region ?_ | refine wx_nil ?_ | refine wq_next ?_ | refine wc_block ?_ | refine wc_ret ?_ | refine wc_skip ?_ | refine wc_exit ?_ | refine wq_then_ret ?_ | refine wq_then_exit ?_ | refine wq_block ?_ | refine wq_block_exit rfl ?_ | refine wc_condT rfl ?_ | refine wc_condF rfl ?_)); exact k.out) : A := h ⟨k⟩
theorem upTo1_spec (v : VerW) (F : Int) (w : World) : Calls Try.prog 86 #[.agg v.cells.toArray, .int .i64 F] w (Ret (β := Unit) w (ids []) (fun _ => .int .i64 (if v.commit ≤ F then -1 else 1)) (fun _ => []) (fun _ => True)) := by
  refine go [.agg v.cells.toArray, .int .i64 F] [] Try.func86 Try.ntmps86 rfl rfl (own_nil w) ?_
  refine rSwK_0 ?_
  refine wl_boxA rfl rfl (fun g2 => ?_)
  refine rSwK_0 ?_
  refine wc_if rfl (fun h1 => ?_) (fun h1 => ?_)
  · rw [if_pos h1]
    refine rSwK_0 ?_
    exact wq_ret1T () rfl rfl trivial rfl
  · rw [if_neg h1]
    refine rSwK_0 ?_
    exact wq_ret1T () rfl rfl trivial rfl
theorem half {i j : Nat} (h : i + j ≤ 9223372036854775807) : IntKind.i64.wrap (shrI .u64 (IntKind.u64.wrap ((i : Int) + (j : Int))) 1) = (((i + j) / 2 : Nat) : Int) := by
  have e1 : IntKind.u64.wrap ((i : Int) + (j : Int)) = (i : Int) + (j : Int) := by
    simp only [IntKind.wrap, IntKind.signed, IntKind.bits]
    simp
    omega
  rw [e1]
  have e2 : shrI .u64 ((i : Int) + (j : Int)) 1 = (((i + j) / 2 : Nat) : Int) := by
    unfold shrI
    have : (min (1 : Int).toNat IntKind.u64.bits) = 1 := rfl
    rw [this]
    rw [Int.fdiv_eq_ediv_of_nonneg _ (by decide)]
    omega
  rw [e2]
  exact wrap_in (by omega)
theorem search_spec {A : Option Addr} {c : Nat} {C : List VerW} (F : Int) (hC : Rise C) (hl : C.length ≤ 1099511627776) (w : World) (hv : Vw [] w A (C.flatMap VerW.cells)) :
    Calls Try.prog 85 #[.slice A C.length c, .int .i64 F, .func (.func 86) #[] #[]] w (Ret (β := Unit) w (ids []) (fun _ => .tuple #[.int .i64 (upC F C : Nat), .bool false]) (fun _ => []) (fun _ => True)) := by
  refine go [.slice A C.length c, .int .i64 F, .func (.func 86) #[] #[]] [] Try.func85 Try.ntmps85 rfl rfl (own_nil w) ?_
  have hup := upC_le F C
  refine rSwK_0 ?_
  refine wc_loopK (ι := Nat × Nat) [0, 1, 2, 8] (fun q => [(9, .int .i64 (q.1 : Nat)), (10, .int .i64 (q.2 : Nat))]) (fun q => []) (fun q => (q.1 ≤ upC F C ∧ upC F C ≤ q.2 ∧ q.2 ≤ C.length)) (fun q => q.2 - q.1) ((0, C.length)) rfl ?_ (by repeat (first | exact trivial | refine ⟨rfl, ?_⟩)) ?_
  · exact ⟨Nat.zero_le _, hup, Nat.le_refl _⟩
  rintro ⟨i, j⟩ ⟨h1, h2, h3⟩
  try dsimp only
  refine wc_fcat ?_
  refine wc_cat ?_
  dsimp only at h1 h2 h3
  refine rSwK_0 ?_
  refine wc_if rfl (fun h4 => ?_) (fun h4 => ?_)
  · have e := half (i := i) (j := j) (by omega)
    obtain ⟨m, em⟩ : ∃ m, m = (i + j) / 2 := ⟨_, rfl⟩
    rw [← em] at e
    have hm : i ≤ m ∧ m < j := by omega
    obtain ⟨v, hx⟩ : ∃ v, C[m]? = some v := ⟨C[m]'(by omega), List.getElem?_eq_getElem _⟩
    obtain ⟨gA, oA, hA, hca⟩ := hv.elZ (k := 4) (by decide) (fun _ => rfl) (by omega)
    have hg := upC_get (s := F) hC hx
    refine rSwK_0 ?_
    rw [e]
    skip
    (try refine wx_ungd rfl rfl ?_)
    apply wx_val
    exact v_loadA (cs := v.cells) rfl rfl (fun w' hr u x hj => hca hx hr hj (by rw [Int.toNat_natCast]))
    rfl
    refine rSwK_0 ?_
    refine wx_vcall (vc_pureV rfl rfl rfl (fun w' hr => upTo1_spec v F w')) rfl ?_
    by_cases hc : v.commit ≤ F
    · rw [if_pos hc]
      have := hg.1 hc
      refine rSwK_0 ?_
      refine wq_roundK ((m + 1, j)) ?_ ?_ (by repeat (first | exact trivial | refine ⟨rfl, ?_⟩)) (by first | exact catEq | exact rfl)
      · dsimp only; omega
      · dsimp only; omega
    · rw [if_neg hc]
      have : ¬ m < upC F C := fun e => hc (hg.2 e)
      refine rSwK_0 ?_
      refine wq_roundK ((i, m)) ?_ ?_ (by repeat (first | exact trivial | refine ⟨rfl, ?_⟩)) (by first | exact catEq | exact rfl)
      · dsimp only; omega
      · dsimp only; omega
  · obtain rfl : i = upC F C := by omega
    refine rSwK_0 ?_
    refine wx_gif rfl rfl (fun h5 => ?_) (fun h5 => ?_)
    · obtain ⟨v, hx⟩ : ∃ v, C[upC F C]? = some v := ⟨C[upC F C]'(by omega), List.getElem?_eq_getElem _⟩
      obtain ⟨gA, oA, hA, hca⟩ := hv.elZ (k := 4) (by decide) (fun _ => rfl) (by omega)
      have hg := upC_get (s := F) hC hx
      have hc : ¬ v.commit ≤ F := fun e => by have := hg.1 e; omega
      refine rSwK_0 ?_
      (try refine wx_ungd rfl rfl ?_)
      apply wx_val
      exact v_loadA (cs := v.cells) rfl rfl (fun w' hr u x hj => hca hx hr hj (by rw [Int.toNat_natCast]))
      rfl
      refine rSwK_0 ?_
      refine wx_vcall (vc_pureV rfl rfl rfl (fun w' hr => upTo1_spec v F w')) rfl ?_
      rw [if_neg hc]
      refine rSwK_0 ?_
      exact wq_ret2T () rfl rfl rfl rfl trivial rfl
    · refine rSwK_0 ?_
      exact wq_ret2T () rfl rfl rfl rfl trivial rfl
theorem upTo_spec {A : Option Addr} {c : Nat} {C : List VerW} (F : Int) (hC : Rise C) (hl : C.length ≤ 1099511627776) (w : World) (hv : Vw [] w A (C.flatMap VerW.cells)) :
    Calls Try.prog 59 #[.slice A C.length c, .int .i64 F] w (Ret (β := Unit) w (ids []) (fun _ => .int .i64 (upC F C : Nat)) (fun _ => []) (fun _ => True)) := by
  refine go [.slice A C.length c, .int .i64 F] [] Try.func59 Try.ntmps59 rfl rfl (own_nil w) ?_
  refine rSwK_0 ?_
  (try refine wx_ungd rfl rfl ?_)
  refine wx_vcall (vc_pure' rfl rfl (fun w' hr => search_spec F hC hl w' (Vw.keep hv hr))) rfl ?_
  refine rSwK_0 ?_
  exact wq_ret1T () rfl rfl trivial rfl
end Go.Proofs.Ytlioccfedophhaa
/- The arena of a forest: nodes, and what is done to them, in plain. -/
set_option linter.unusedVariables false
set_option linter.unusedSimpArgs false
namespace Go.Proofs.Ytlioccfedophhaa
open Go
set_option maxRecDepth 20000
structure Sp where
  a : Int
  b : Int
  c : Int
deriving DecidableEq
def Sp.cells (s : Sp) : List Value := [.int .i64 s.a, .int .i64 s.b, .int .i64 s.c]
structure Nd where
  s : Sp
  l : Nat
  r : Nat
  h : Int
  f : Int
def Nd.cells (n : Nd) : List Value := [.int .i64 n.s.a, .int .i64 n.s.b, .int .i64 n.s.c, .int .i64 (n.l : Nat), .int .i64 (n.r : Nat), .int .i64 n.h, .int .i64 n.f]
def Nd.zero : Nd := ⟨⟨0, 0, 0⟩, 0, 0, 0, 0⟩
def nd (N : List Nd) (i : Nat) : Nd := N.getD i Nd.zero
def w64 (x : Int) : Int := IntKind.i64.wrap x
def maxI (a b : Int) : Int := if a < b then b else a
def cmpS (s t : Sp) : Int := if cmpI s.a t.a ≠ 0 then cmpI s.a t.a else if cmpI s.b t.b ≠ 0 then cmpI s.b t.b else cmpI s.c t.c
def rightS (s : Sp) : Bool := decide (0 ≤ s.a ∧ s.a ≤ s.b ∧ s.b ≤ 1099511627776 ∧ 0 ≤ s.c ∧ s.c < 4096)
def farA (N : List Nd) (n : Nd) : Int :=
  let f1 := if n.l ≠ 0 then maxI n.s.b (nd N n.l).f else n.s.b
  if n.r ≠ 0 then maxI f1 (nd N n.r).f else f1
def fixA (N : List Nd) (i : Nat) : List Nd := N.set i { nd N i with h := w64 (1 + maxI (nd N (nd N i).l).h (nd N (nd N i).r).h), f := farA N (nd N i) }
def turnA (N : List Nd) (i : Nat) (left : Bool) : Nat × List Nd :=
  if left then
    let k := (nd N i).l
    let N1 := N.set i { nd N i with l := (nd N k).r }
    let N2 := N1.set k { nd N1 k with r := i }
    (k, fixA (fixA N2 i) k)
  else
    let k := (nd N i).r
    let N1 := N.set i { nd N i with r := (nd N k).l }
    let N2 := N1.set k { nd N1 k with l := i }
    (k, fixA (fixA N2 i) k)
def leanA (N : List Nd) (i : Nat) : Int := w64 ((nd N (nd N i).l).h - (nd N (nd N i).r).h)
def balA (N : List Nd) (i : Nat) : Nat × List Nd :=
  let N1 := fixA N i
  if leanA N1 i = 2 then
    let l := (nd N1 i).l
    let N2 := if leanA N1 l < 0 then ((turnA N1 l false).2).set i { nd (turnA N1 l false).2 i with l := (turnA N1 l false).1 } else N1
    turnA N2 i true
  else if leanA N1 i = -2 then
    let r := (nd N1 i).r
    let N2 := if 0 < leanA N1 r then ((turnA N1 r true).2).set i { nd (turnA N1 r true).2 i with r := (turnA N1 r true).1 } else N1
    turnA N2 i false
  else (i, N1)
/-- all that nodes point to is there -/
structure Inb (N : List Nd) : Prop where
  pos : 0 < N.length
  small : N.length ≤ 4611686018427387904
  l : ∀ n ∈ N, n.l < N.length
  r : ∀ n ∈ N, n.r < N.length
theorem nd_mem {N : List Nd} {i : Nat} (h : i < N.length) : N[i]? = some (nd N i) ∧ nd N i ∈ N := by
  have e : N[i]? = some (nd N i) := by simp [nd, List.getD, List.getElem?_eq_getElem h]
  exact ⟨e, List.mem_of_getElem? e⟩
theorem Inb.set {N : List Nd} (h : Inb N) {i : Nat} {n : Nd} (h1 : n.l < N.length) (h2 : n.r < N.length) : Inb (N.set i n) := by
  refine ⟨by rw [List.length_set]; exact h.pos, by rw [List.length_set]; exact h.small, fun m hm => ?_, fun m hm => ?_⟩
  · rw [List.length_set]
    rcases List.mem_or_eq_of_mem_set hm with hm | rfl
    · exact h.l m hm
    · exact h1
  · rw [List.length_set]
    rcases List.mem_or_eq_of_mem_set hm with hm | rfl
    · exact h.r m hm
    · exact h2
theorem Inb.ndl {N : List Nd} (h : Inb N) {i : Nat} (hi : i < N.length) : (nd N i).l < N.length := h.l _ (nd_mem hi).2
theorem Inb.ndr {N : List Nd} (h : Inb N) {i : Nat} (hi : i < N.length) : (nd N i).r < N.length := h.r _ (nd_mem hi).2
theorem fixA_len (N : List Nd) (i : Nat) : (fixA N i).length = N.length := by simp [fixA]
theorem Inb.fix {N : List Nd} (h : Inb N) {i : Nat} (hi : i < N.length) : Inb (fixA N i) := h.set (h.ndl hi) (h.ndr hi)
theorem nd_set_same {N : List Nd} {i : Nat} {n : Nd} (h : i < N.length) : nd (N.set i n) i = n := by simp [nd, List.getD, h]
theorem nd_set_other {N : List Nd} {i j : Nat} {n : Nd} (h : i ≠ j) : nd (N.set i n) j = nd N j := by simp [nd, List.getD, List.getElem?_set, h]
theorem turnA_len (N : List Nd) (i : Nat) (b : Bool) : (turnA N i b).2.length = N.length := by
  unfold turnA
  split <;> simp [fixA_len]
theorem turnA_inb {N : List Nd} (h : Inb N) {i : Nat} (hi : i < N.length) (b : Bool) : Inb (turnA N i b).2 ∧ (turnA N i b).1 < N.length := by
  unfold turnA
  cases b
  · have hk := h.ndr hi
    have h1 : Inb (N.set i { nd N i with r := (nd N (nd N i).r).l }) := h.set (h.ndl hi) (h.ndl hk)
    have hl1 : (N.set i { nd N i with r := (nd N (nd N i).r).l }).length = N.length := by simp
    have h2 := h1.set (i := (nd N i).r) (n := { nd (N.set i { nd N i with r := (nd N (nd N i).r).l }) (nd N i).r with l := i }) (by rw [hl1]; exact hi) (h1.ndr (by rw [hl1]; exact hk))
    exact ⟨(h2.fix (by simp; exact hi)).fix (by rw [fixA_len]; simp; exact hk), hk⟩
  · have hk := h.ndl hi
    have h1 : Inb (N.set i { nd N i with l := (nd N (nd N i).l).r }) := h.set (h.ndr hk) (h.ndr hi)
    have hl1 : (N.set i { nd N i with l := (nd N (nd N i).l).r }).length = N.length := by simp
    have h2 := h1.set (i := (nd N i).l) (n := { nd (N.set i { nd N i with l := (nd N (nd N i).l).r }) (nd N i).l with r := i }) (h1.ndl (by rw [hl1]; exact hk)) (by rw [hl1]; exact hi)
    exact ⟨(h2.fix (by simp; exact hi)).fix (by rw [fixA_len]; simp; exact hk), hk⟩
theorem balA_inb {N : List Nd} (h : Inb N) {i : Nat} (hi : i < N.length) : Inb (balA N i).2 ∧ (balA N i).1 < N.length ∧ (balA N i).2.length = N.length := by
  have h1 := h.fix hi
  have hl1 := fixA_len N i
  unfold balA
  dsimp only
  split
  · have hk := h1.ndl (i := i) (by rw [hl1]; exact hi)
    have ht := turnA_inb h1 hk false
    have htl := turnA_len (fixA N i) (nd (fixA N i) i).l false
    split
    · have h2 := ht.1.set (i := i) (n := { nd (turnA (fixA N i) (nd (fixA N i) i).l false).2 i with l := (turnA (fixA N i) (nd (fixA N i) i).l false).1 }) (by rw [htl]; exact ht.2) (ht.1.ndr (by rw [htl, hl1]; exact hi))
      have h3 := turnA_inb h2 (i := i) (by rw [List.length_set, htl, hl1]; exact hi) true
      refine ⟨h3.1, ?_, ?_⟩
      · have := h3.2
        rwa [List.length_set, htl, hl1] at this
      · rw [turnA_len, List.length_set, htl, hl1]
    · have h3 := turnA_inb h1 (i := i) (by rw [hl1]; exact hi) true
      exact ⟨h3.1, by have := h3.2; rwa [hl1] at this, by rw [turnA_len, hl1]⟩
  · split
    · have hk := h1.ndr (i := i) (by rw [hl1]; exact hi)
      have ht := turnA_inb h1 hk true
      have htl := turnA_len (fixA N i) (nd (fixA N i) i).r true
      split
      · have h2 := ht.1.set (i := i) (n := { nd (turnA (fixA N i) (nd (fixA N i) i).r true).2 i with r := (turnA (fixA N i) (nd (fixA N i) i).r true).1 }) (ht.1.ndl (by rw [htl, hl1]; exact hi)) (by rw [htl]; exact ht.2)
        have h3 := turnA_inb h2 (i := i) (by rw [List.length_set, htl, hl1]; exact hi) false
        refine ⟨h3.1, ?_, ?_⟩
        · have := h3.2
          rwa [List.length_set, htl, hl1] at this
        · rw [turnA_len, List.length_set, htl, hl1]
      · have h3 := turnA_inb h1 (i := i) (by rw [hl1]; exact hi) false
        exact ⟨h3.1, by have := h3.2; rwa [hl1] at this, by rw [turnA_len, hl1]⟩
    · exact ⟨h1, hi, hl1⟩
end Go.Proofs.Ytlioccfedophhaa
/- Spans compared; which are right. -/
set_option linter.unusedVariables false
set_option linter.unusedSimpArgs false
namespace Go.Proofs.Ytlioccfedophhaa
open Go
set_option maxRecDepth 20000
set_option maxHeartbeats 2000000
attribute [local irreducible] WX WC WQ Val VCall
abbrev RetV (w : World) (v : Value) : Ending → World → Prop := Ret (β := Unit) w (ids []) (fun _ => v) (fun _ => []) (fun _ => True)
theorem compare_spec (s t : Sp) (w : World) : Calls Try.prog 96 #[.agg s.cells.toArray, .agg t.cells.toArray] w (RetV w (.int .i64 (cmpS s t))) := by
  refine go [.agg s.cells.toArray, .agg t.cells.toArray] [] Try.func96 Try.ntmps96 rfl rfl (own_nil w) ?_
  have e : cmpS s t = firstNZ [cmpI s.a t.a, cmpI s.b t.b, cmpI s.c t.c] := by
    simp only [firstNZ, cmpS]
    split
    · rfl
    · split
      · rfl
      · split
        · rfl
        · rename_i h; exact Decidable.not_not.1 h
  rw [e]
  repeat (first | refine wc_seq ?_ | refine wc_region ?_)
  refine wl_boxA rfl rfl (fun g2 => ?_)
  refine wl_boxA rfl rfl (fun g3 => ?_)
  repeat (first | (apply wx_val; (first | exact v_assign rfl); rfl) | refine wc_seq ?_ | refine wx_nil ?_ | refine wq_next ?_)
  refine wc_heldN [] [[(g2, .cells s.cells.toArray 110 (0, 0))], [(g3, .cells t.cells.toArray 110 (0, 0))]] (fun hQd => ?_)
  refine tkX 0 rfl (v_faddr rfl rfl) ?_
  refine tkX 1 rfl (v_ldT rfl rfl rfl (by rfl)) ?_
  refine tkX 2 rfl (v_faddr rfl rfl) ?_
  refine tkX 3 rfl (v_ldT rfl rfl rfl (by rfl)) ?_
  refine tkX 5 rfl (v_faddr rfl rfl) ?_
  refine tkX 6 rfl (v_ldT rfl rfl rfl (by rfl)) ?_
  refine tkX 7 rfl (v_faddr rfl rfl) ?_
  refine tkX 8 rfl (v_ldT rfl rfl rfl (by rfl)) ?_
  refine tkX 10 rfl (v_faddr rfl rfl) ?_
  refine tkX 11 rfl (v_ldT rfl rfl rfl (by rfl)) ?_
  refine tkX 12 rfl (v_faddr rfl rfl) ?_
  refine tkX 13 rfl (v_ldT rfl rfl rfl (by rfl)) ?_
  refine efX 4 rfl ?_
  (try refine wx_ungd rfl rfl ?_)
  refine wx_vcall (vc_pure' rfl rfl (fun w' hr => cmp_spec _ _ w')) rfl ?_
  (try refine wx_nil ?_)
  refine hdX ?_
  refine efX 9 rfl ?_
  (try refine wx_ungd rfl rfl ?_)
  refine wx_vcall (vc_pure' rfl rfl (fun w' hr => cmp_spec _ _ w')) rfl ?_
  (try refine wx_nil ?_)
  refine hdX ?_
  refine efX 14 rfl ?_
  (try refine wx_ungd rfl rfl ?_)
  refine wx_vcall (vc_pure' rfl rfl (fun w' hr => cmp_spec _ _ w')) rfl ?_
  (try refine wx_nil ?_)
  refine hdX ?_
  refine efX 15 rfl ?_
  refine wl_litB rfl rfl rfl rfl rfl (by decide) rfl (fun g15 E15 hb15 => ?_)
  (try refine wx_nil ?_)
  refine hdX ?_
  refine efX 16 rfl ?_
  (try refine wx_ungd rfl rfl ?_)
  refine wx_vcall (vc_pure' rfl rfl (fun w' hr => Or_spec (l := [cmpI s.a t.a, cmpI s.b t.b, cmpI s.c t.c]) (by simp) w' (hb15.vwT hr))) rfl ?_
  (try refine wx_nil ?_)
  refine hdX ?_
  refine tkX 17 rfl (v_assign rfl) ?_
  refine wh_done (by decide +kernel) ?_
  repeat (first | refine wq_next ?_ | refine wc_ret ?_)
  exact wq_clear (wq_ret1 () rfl rfl trivial rfl)
theorem right_spec (s : Sp) (w : World) : Calls Try.prog 82 #[.agg s.cells.toArray] w (RetV w (.bool (rightS s))) := by
  refine go [.agg s.cells.toArray] [] Try.func82 Try.ntmps82 rfl rfl (own_nil w) ?_
  unfold rightS
  repeat (first | refine wc_seq ?_ | refine wc_region ?_)
  refine wl_boxA rfl rfl (fun g2 => ?_)
  repeat' (first | (apply wx_val; (first | exact v_move rfl | exact v_assign rfl | exact v_faddr rfl rfl | exact v_ldT rfl rfl rfl (by rfl) | exact v_lt rfl rfl | exact v_le rfl rfl | exact v_ge rfl rfl | exact v_pickT rfl rfl | exact v_pickF rfl rfl); rfl) | refine wx_no rfl rfl rfl ?_ | refine wx_ungd rfl rfl ?_ | refine wc_seq ?_ | refine wc_region ?_ | refine wx_nil ?_ | refine wq_next ?_ | refine wc_ret ?_ | refine wx_gif rfl rfl (fun _ => ?_) (fun _ => ?_))
  all_goals exact wq_clear (wq_ret1 () rfl (bool_val (by rw [Bool.eq_iff_iff]; simp only [decide_eq_true_eq, Bool.false_eq_true, false_iff, true_iff]; omega)) trivial rfl)
end Go.Proofs.Ytlioccfedophhaa
/- The forest's memory; nodes reckoned anew. -/
set_option linter.unusedVariables false
set_option linter.unusedSimpArgs false
namespace Go.Proofs.Ytlioccfedophhaa
open Go
set_option maxRecDepth 20000
set_option maxHeartbeats 2000000
attribute [local irreducible] WX WC WQ Val VCall
theorem rSpC_0 {A B : Prop} (k : B) (h : Hold B → A := by intro k; (repeat (first | (apply wx_val; (first | exact v_move rfl | exact v_assign rfl | exact v_nil rfl | exact v_faddr rfl rfl | exact v_ldT rfl rfl rfl (by rfl) | exact v_ne rfl rfl | exact v_iaddrE (by assumption) rfl rfl rfl (by omega) | exact v_add rfl rfl | exact v_max rfl rfl); rfl) | refine wc_seq ?_ | refine wc_region ?_ | refine wx_nil ?_ | refine wq_next ?_ | refine wc_skip ?_ | refine wq_setn ?_ | refine wl_stAT rfl rfl (by rfl) (by rfl) (by exact .inl (Nat.le_refl _)) rfl ?_)); exact k.out) : A := h ⟨k⟩
/-- where a forest's parts lie: the arena, the spare places, the map -/
structure Fa where
  A : Option Addr
  c : Nat
  B : Option Addr
  d : Nat
  m : Nat
def fsC (y : Fa) (n k : Nat) (cnt : Int) : List Value := [.slice y.A n y.c, .slice y.B k y.d, .map (some y.m), .int .i64 cnt]
abbrev fsB (g : Nat) (y : Fa) (n k : Nat) (cnt : Int) : Seg := [(g, .cells (fsC y n k cnt).toArray 96 (0, 0))]
abbrev ArO (N : List Nd) (n : Nat) (A : Option Addr) (c : Nat) (E : Seg) : Prop := Buf 148 7 A n c (N.flatMap Nd.cells) E
abbrev ndB (g : Nat) (n : Nd) : Seg := [(g, .cells n.cells.toArray 148 (0, 0))]
section fs
variable {g n k : Nat} {y : Fa} {cnt : Int} {N : List Nd} {E : Seg}
theorem fix_spec {i : Nat} (hN : Inb N) (hn : n = N.length) (hi : i < N.length) (hb : ArO N n y.A y.c E) (w : World) (ho : Own w [fsB g y n k cnt, E]) :
    Calls Try.prog 102 #[.pointer (some ⟨g, 0, none⟩), .int .i64 (i : Nat)] w (Ret (β := Seg) w (ids [fsB g y n k cnt, E]) (fun _ => .tuple #[]) (fun E' => [fsB g y n k cnt, E']) (fun E' => ArO (fixA N i) n y.A y.c E')) := by
  refine go [.pointer (some ⟨g, 0, none⟩), .int .i64 (i : Nat)] [fsB g y n k cnt, E] Try.func102 Try.ntmps102 rfl rfl ho ?_
  have hsm := hN.small
  obtain ⟨ga, hA⟩ := hb.ptr (by omega)
  have hNi := (nd_mem hi).1
  have hl := hN.ndl hi
  have hr0 := hN.ndr hi
  have hNl := (nd_mem hl).1
  have hNr := (nd_mem hr0).1
  refine rSpC_0 ?_
  refine wc_meetK (ι := Nat × Nat) [0, 4] (fun q => [(5, .pointer (some ⟨q.1, 0, none⟩)), (6, .pointer (some ⟨q.2, 0, none⟩))]) (fun q => [ndB q.1 (nd N (nd N i).l), ndB q.2 (nd N (nd N i).r)]) (M1 := []) (fun _ => True) rfl ?_ ?_
  ·
    refine wc_cat ?_
    refine wc_heldN [] [fsB g y n k cnt, E] (fun hQd => ?_)
    refine tkX 0 rfl (v_move rfl) ?_
    refine tkX 1 rfl (v_nil rfl) ?_
    refine tkX 2 rfl (v_faddr rfl rfl) ?_
    refine tkX 3 rfl (v_ldT rfl rfl rfl (by rfl)) ?_
    refine tkX 4 rfl (v_move rfl) ?_
    refine tkX 5 rfl (v_nil rfl) ?_
    refine tkX 6 rfl (v_faddr rfl rfl) ?_
    refine tkX 7 rfl (v_load rfl rfl rfl (fun w' hr => hb.elemT (i := i) hA (by decide) (fun _ => rfl) hNi hr (j := 3) rfl (by rw [Int.toNat_natCast]))) ?_
    refine tkX 8 rfl (v_iaddrE (by assumption) rfl rfl rfl (by omega)) ?_
    refine tkX 9 rfl (v_loadA (cs := (nd N (nd N i).l).cells) rfl rfl (fun w' hr j u hj => hb.elemT (i := (nd N i).l) hA (by decide) (fun _ => rfl) hNl hr hj (by rw [Int.toNat_natCast]))) ?_
    refine tkX 10 rfl (v_move rfl) ?_
    refine tkX 11 rfl (v_nil rfl) ?_
    refine tkX 12 rfl (v_faddr rfl rfl) ?_
    refine tkX 13 rfl (v_ldT rfl rfl rfl (by rfl)) ?_
    refine tkX 14 rfl (v_move rfl) ?_
    refine tkX 15 rfl (v_nil rfl) ?_
    refine tkX 16 rfl (v_faddr rfl rfl) ?_
    refine tkX 17 rfl (v_load rfl rfl rfl (fun w' hr => hb.elemT (i := i) hA (by decide) (fun _ => rfl) hNi hr (j := 4) rfl (by rw [Int.toNat_natCast]))) ?_
    refine tkX 18 rfl (v_iaddrE (by assumption) rfl rfl rfl (by omega)) ?_
    refine tkX 19 rfl (v_loadA (cs := (nd N (nd N i).r).cells) rfl rfl (fun w' hr j u hj => hb.elemT (i := (nd N i).r) hA (by decide) (fun _ => rfl) hNr hr hj (by rw [Int.toNat_natCast]))) ?_
    refine wh_eff2 20 21 rfl rfl (by decide +kernel) ?_ ?_
    · refine wl_alloc rfl rfl (fun g5 => ?_)
      (try refine wx_nil ?_)
      refine hdX ?_
      refine efX 21 rfl ?_
      refine wl_alloc rfl rfl (fun g6 => ?_)
      (try refine wx_nil ?_)
      refine hdX ?_
      refine efX 22 rfl ?_
      refine rSpC_0 ?_
      (try refine wx_nil ?_)
      refine hdX ?_
      refine efX 23 rfl ?_
      refine rSpC_0 ?_
      (try refine wx_nil ?_)
      refine hdX ?_
      refine wh_done (by decide +kernel) ?_
      refine wq_cutK ((g5, g6)) ?_ (by repeat (first | exact trivial | refine ⟨rfl, ?_⟩)) (by first | exact catEq | exact rfl)
      trivial
    · refine wl_alloc rfl rfl (fun g6 => ?_)
      (try refine wx_nil ?_)
      refine hdX ?_
      refine efX 20 rfl ?_
      refine wl_alloc rfl rfl (fun g5 => ?_)
      (try refine wx_nil ?_)
      refine hdX ?_
      refine efX 22 rfl ?_
      refine rSpC_0 ?_
      (try refine wx_nil ?_)
      refine hdX ?_
      refine efX 23 rfl ?_
      refine rSpC_0 ?_
      (try refine wx_nil ?_)
      refine hdX ?_
      refine wh_done (by decide +kernel) ?_
      refine wq_cutK ((g5, g6)) ?_ (by repeat (first | exact trivial | refine ⟨rfl, ?_⟩)) (by first | exact catEq | exact rfl)
      trivial
  rintro ⟨g5, g6⟩ -
  try dsimp only
  refine wc_fcat ?_
  refine wc_cat ?_
  refine rSpC_0 ?_
  obtain ⟨n1, e1⟩ : ∃ n1 : Nd, n1 = { nd N i with h := w64 (1 + maxI (nd N (nd N i).l).h (nd N (nd N i).r).h) } := ⟨_, rfl⟩
  refine wl_setFT i 5 (f := Nd.cells) (k := 7) (nd N i) n1 (fun _ => rfl) (by decide) hA hb rfl rfl (by rw [Int.toNat_natCast]; omega) hNi hn rfl rfl (by rw [e1]; rfl) (fun E1 hb1 => ?_)
  have h1i : (N.set i n1)[i]? = some n1 := by simp [hi]
  refine rSpC_0 ?_
  (try refine wx_ungd rfl rfl ?_)
  apply wx_val
  exact v_load rfl rfl rfl (fun w' hr => hb1.elemT (i := i) hA (by decide) (fun _ => rfl) h1i hr (j := 1) rfl (by rw [Int.toNat_natCast]))
  rfl
  refine rSpC_0 ?_
  obtain ⟨n2, e2⟩ : ∃ n2 : Nd, n2 = { n1 with f := n1.s.b } := ⟨_, rfl⟩
  refine wl_setFT i 6 (f := Nd.cells) (k := 7) n1 n2 (fun _ => rfl) (by decide) hA hb1 rfl rfl (by rw [Int.toNat_natCast]; omega) h1i (by simp [hn]) rfl rfl (by rw [e2]; rfl) (fun E2 hb2 => ?_)
  rw [List.set_set] at hb2
  have h2i : (N.set i n2)[i]? = some n2 := by simp [hi]
  have k2l : n2.l = (nd N i).l := by rw [e2, e1]
  have k2r : n2.r = (nd N i).r := by rw [e2, e1]
  refine rSpC_0 ?_
  (try refine wx_ungd rfl rfl ?_)
  apply wx_val
  exact v_load rfl rfl rfl (fun w' hr => hb2.elemT (i := i) hA (by decide) (fun _ => rfl) h2i hr (j := 3) rfl (by rw [Int.toNat_natCast]))
  rfl
  refine rSpC_0 ?_
  have fin : ∀ z : Nd, z = { nd N i with h := w64 (1 + maxI (nd N (nd N i).l).h (nd N (nd N i).r).h), f := farA N (nd N i) } → N.set i z = fixA N i := fun z hz => by
    rw [hz]
    rfl
  refine wc_if rfl (fun hc1 => ?_) (fun hc1 => ?_)
  · have c1 : (nd N i).l ≠ 0 := by rw [← k2l]; omega
    obtain ⟨n3, e3⟩ : ∃ n3 : Nd, n3 = { n2 with f := maxI n2.f (nd N (nd N i).l).f } := ⟨_, rfl⟩
    skip
    refine wc_heldN [] [ndB g5 (nd N (nd N i).l)] (fun hQd => ?_)
    refine tkX 0 rfl (v_move rfl) ?_
    refine tkX 1 rfl (v_move rfl) ?_
    refine tkX 2 rfl (v_nil rfl) ?_
    refine tkX 3 rfl (v_faddr rfl rfl) ?_
    refine tkX 5 rfl (v_faddr rfl rfl) ?_
    refine tkX 6 rfl (v_ldT rfl rfl rfl (by rfl)) ?_
    refine efX 4 rfl ?_
    (try refine wx_ungd rfl rfl ?_)
    apply wx_val
    exact v_load rfl rfl rfl (fun w' hr => hb2.elemT (i := i) hA (by decide) (fun _ => rfl) h2i hr (j := 6) rfl (by rw [Int.toNat_natCast]))
    rfl
    (try refine wx_nil ?_)
    refine hdX ?_
    refine tkX 7 rfl (v_max rfl rfl) ?_
    refine tkX 8 rfl (v_nil rfl) ?_
    refine tkX 9 rfl (v_faddr rfl rfl) ?_
    refine efX 10 rfl ?_
    refine wl_setFT i 6 (f := Nd.cells) (k := 7) n2 n3 (fun _ => rfl) (by decide) hA hb2 rfl rfl (by rw [Int.toNat_natCast]; omega) h2i (by simp [hn]) rfl rfl (by rw [e3]; rfl) (fun E3 hb3 => ?_)
    rw [List.set_set] at hb3
    (try refine wx_nil ?_)
    refine hdX ?_
    refine wh_done (by decide +kernel) ?_
    have h3i : (N.set i n3)[i]? = some n3 := by simp [hi]
    have k3r : n3.r = (nd N i).r := by rw [e3, k2r]
    refine rSpC_0 ?_
    (try refine wx_ungd rfl rfl ?_)
    apply wx_val
    exact v_load rfl rfl rfl (fun w' hr => hb3.elemT (i := i) hA (by decide) (fun _ => rfl) h3i hr (j := 4) rfl (by rw [Int.toNat_natCast]))
    rfl
    refine rSpC_0 ?_
    refine wc_if rfl (fun hc2 => ?_) (fun hc2 => ?_)
    · have c2 : (nd N i).r ≠ 0 := by rw [← k3r]; omega
      obtain ⟨z, ez⟩ : ∃ z : Nd, z = { n3 with f := maxI n3.f (nd N (nd N i).r).f } := ⟨_, rfl⟩
      skip
      refine wc_heldN [] [ndB g6 (nd N (nd N i).r)] (fun hQd => ?_)
      refine tkX 0 rfl (v_move rfl) ?_
      refine tkX 1 rfl (v_move rfl) ?_
      refine tkX 2 rfl (v_nil rfl) ?_
      refine tkX 3 rfl (v_faddr rfl rfl) ?_
      refine tkX 5 rfl (v_faddr rfl rfl) ?_
      refine tkX 6 rfl (v_ldT rfl rfl rfl (by rfl)) ?_
      refine efX 4 rfl ?_
      (try refine wx_ungd rfl rfl ?_)
      apply wx_val
      exact v_load rfl rfl rfl (fun w' hr => hb3.elemT (i := i) hA (by decide) (fun _ => rfl) h3i hr (j := 6) rfl (by rw [Int.toNat_natCast]))
      rfl
      (try refine wx_nil ?_)
      refine hdX ?_
      refine tkX 7 rfl (v_max rfl rfl) ?_
      refine tkX 8 rfl (v_nil rfl) ?_
      refine tkX 9 rfl (v_faddr rfl rfl) ?_
      refine efX 10 rfl ?_
      refine wl_setFT i 6 (f := Nd.cells) (k := 7) n3 z (fun _ => rfl) (by decide) hA hb3 rfl rfl (by rw [Int.toNat_natCast]; omega) h3i (by simp [hn]) rfl rfl (by rw [ez]; rfl) (fun Ez hbz => ?_)
      rw [List.set_set] at hbz
      (try refine wx_nil ?_)
      refine hdX ?_
      refine wh_done (by decide +kernel) ?_
      have ef := fin z (by
        simp only [farA]
        rw [if_pos c1, if_pos c2, ez]
        (try rw [e3])
        rw [e2, e1])
      rw [ef] at hbz
      skip
      refine wq_normR ?_
      exact wq_ret0T Ez rfl rfl hbz
    · have c2 : ¬ (nd N i).r ≠ 0 := by rw [← k3r]; omega
      have ef := fin n3 (by
        simp only [farA]
        rw [if_pos c1, if_neg c2]
        (try rw [e3])
        rw [e2, e1])
      rw [ef] at hb3
      refine rSpC_0 ?_
      refine wq_normR ?_
      exact wq_ret0T _ rfl rfl hb3
  · have c1 : ¬ (nd N i).l ≠ 0 := by rw [← k2l]; omega
    have e3 : n2 = n2 := rfl
    refine rSpC_0 ?_
    (try refine wx_ungd rfl rfl ?_)
    apply wx_val
    exact v_load rfl rfl rfl (fun w' hr => hb2.elemT (i := i) hA (by decide) (fun _ => rfl) h2i hr (j := 4) rfl (by rw [Int.toNat_natCast]))
    rfl
    refine rSpC_0 ?_
    refine wc_if rfl (fun hc2 => ?_) (fun hc2 => ?_)
    · have c2 : (nd N i).r ≠ 0 := by rw [← k2r]; omega
      obtain ⟨z, ez⟩ : ∃ z : Nd, z = { n2 with f := maxI n2.f (nd N (nd N i).r).f } := ⟨_, rfl⟩
      skip
      refine wc_heldN [] [ndB g6 (nd N (nd N i).r)] (fun hQd => ?_)
      refine tkX 0 rfl (v_move rfl) ?_
      refine tkX 1 rfl (v_move rfl) ?_
      refine tkX 2 rfl (v_nil rfl) ?_
      refine tkX 3 rfl (v_faddr rfl rfl) ?_
      refine tkX 5 rfl (v_faddr rfl rfl) ?_
      refine tkX 6 rfl (v_ldT rfl rfl rfl (by rfl)) ?_
      refine efX 4 rfl ?_
      (try refine wx_ungd rfl rfl ?_)
      apply wx_val
      exact v_load rfl rfl rfl (fun w' hr => hb2.elemT (i := i) hA (by decide) (fun _ => rfl) h2i hr (j := 6) rfl (by rw [Int.toNat_natCast]))
      rfl
      (try refine wx_nil ?_)
      refine hdX ?_
      refine tkX 7 rfl (v_max rfl rfl) ?_
      refine tkX 8 rfl (v_nil rfl) ?_
      refine tkX 9 rfl (v_faddr rfl rfl) ?_
      refine efX 10 rfl ?_
      refine wl_setFT i 6 (f := Nd.cells) (k := 7) n2 z (fun _ => rfl) (by decide) hA hb2 rfl rfl (by rw [Int.toNat_natCast]; omega) h2i (by simp [hn]) rfl rfl (by rw [ez]; rfl) (fun Ez hbz => ?_)
      rw [List.set_set] at hbz
      (try refine wx_nil ?_)
      refine hdX ?_
      refine wh_done (by decide +kernel) ?_
      have ef := fin z (by
        simp only [farA]
        rw [if_neg c1, if_pos c2, ez]
        (try rw [e3])
        rw [e2, e1])
      rw [ef] at hbz
      skip
      refine wq_normR ?_
      exact wq_ret0T Ez rfl rfl hbz
    · have c2 : ¬ (nd N i).r ≠ 0 := by rw [← k2r]; omega
      have ef := fin n2 (by
        simp only [farA]
        rw [if_neg c1, if_neg c2]
        (try rw [e3])
        rw [e2, e1])
      rw [ef] at hb2
      refine rSpC_0 ?_
      refine wq_normR ?_
      exact wq_ret0T _ rfl rfl hb2
end fs
end Go.Proofs.Ytlioccfedophhaa
/- Trees turned and balanced. -/
set_option linter.unusedVariables false
set_option linter.unusedSimpArgs false
namespace Go.Proofs.Ytlioccfedophhaa
open Go
set_option maxRecDepth 20000
set_option maxHeartbeats 2000000
attribute [local irreducible] WX WC WQ Val VCall
theorem rSpD_0 {A B : Prop} (k : B) (h : Hold B → A := by intro k; (repeat (first | (apply wx_val; (first | exact v_move rfl | exact v_assign rfl | exact v_nil rfl | exact v_faddr rfl rfl | exact v_ldT rfl rfl rfl (by rfl) | exact v_iaddrE (by assumption) rfl rfl rfl (by omega) | exact v_sub rfl rfl); rfl) | refine wc_seq ?_ | refine wc_region ?_ | refine wx_nil ?_ | refine wq_next ?_ | refine wc_ret ?_ | refine wc_skip ?_ | refine wq_then_ret ?_ | refine wc_setn ?_ | refine wx_cat ?_ | refine wq_cat ?_ | refine wc_reads rfl (by decide +kernel) ?_ | refine wc_condT rfl ?_ | refine wc_condF rfl ?_ | refine wl_stAT rfl rfl (by rfl) (by rfl) (by exact .inl (Nat.le_refl _)) rfl ?_)); exact k.out) : A := h ⟨k⟩
section fs
variable {g n k : Nat} {y : Fa} {cnt : Int} {N : List Nd} {E : Seg}
theorem lean_spec {i : Nat} (hN : Inb N) (hn : n = N.length) (hi : i < N.length) (hb : ArO N n y.A y.c E) (w : World) (ho : Own w [fsB g y n k cnt, E]) :
    Calls Try.prog 103 #[.pointer (some ⟨g, 0, none⟩), .int .i64 (i : Nat)] w (Ret (β := Unit) w (ids [fsB g y n k cnt, E]) (fun _ => .int .i64 (leanA N i)) (fun _ => [fsB g y n k cnt, E]) (fun _ => True)) := by
  refine go [.pointer (some ⟨g, 0, none⟩), .int .i64 (i : Nat)] [fsB g y n k cnt, E] Try.func103 Try.ntmps103 rfl rfl ho ?_
  have hsm := hN.small
  obtain ⟨ga, hA⟩ := hb.ptr (by omega)
  have hNi := (nd_mem hi).1
  have hl := hN.ndl hi
  have hr0 := hN.ndr hi
  have hNl := (nd_mem hl).1
  have hNr := (nd_mem hr0).1
  refine rSpD_0 ?_
  (try refine wx_ungd rfl rfl ?_)
  apply wx_val
  exact v_loadA (cs := (nd N i).cells) rfl rfl (fun w' hr j u hj => hb.elemT (i := i) hA (by decide) (fun _ => rfl) hNi hr hj (by rw [Int.toNat_natCast]))
  rfl
  refine wl_alloc rfl rfl (fun g5 => ?_)
  refine rSpD_0 ?_
  (try refine wx_ungd rfl rfl ?_)
  apply wx_val
  exact v_load rfl rfl rfl (fun w' hr => hb.elemT (i := (nd N i).l) hA (by decide) (fun _ => rfl) hNl hr (j := 5) rfl (by rw [Int.toNat_natCast]))
  rfl
  refine rSpD_0 ?_
  (try refine wx_ungd rfl rfl ?_)
  apply wx_val
  exact v_load rfl rfl rfl (fun w' hr => hb.elemT (i := (nd N i).r) hA (by decide) (fun _ => rfl) hNr hr (j := 5) rfl (by rw [Int.toNat_natCast]))
  rfl
  refine rSpD_0 ?_
  exact wq_ret1T () rfl rfl trivial rfl
theorem turn_spec {i : Nat} (b : Bool) (hN : Inb N) (hn : n = N.length) (hi : i < N.length) (hb : ArO N n y.A y.c E) (w : World) (ho : Own w [fsB g y n k cnt, E]) :
    Calls Try.prog 104 #[.pointer (some ⟨g, 0, none⟩), .int .i64 (i : Nat), .bool b] w (Ret (β := Seg) w (ids [fsB g y n k cnt, E]) (fun _ => .int .i64 ((turnA N i b).1 : Nat)) (fun E' => [fsB g y n k cnt, E']) (fun E' => ArO (turnA N i b).2 n y.A y.c E')) := by
  refine go [.pointer (some ⟨g, 0, none⟩), .int .i64 (i : Nat), .bool b] [fsB g y n k cnt, E] Try.func104 Try.ntmps104 rfl rfl ho ?_
  have hsm := hN.small
  obtain ⟨ga, hA⟩ := hb.ptr (by omega)
  have hNi := (nd_mem hi).1
  cases b
  case true =>
    have hk : (nd N i).l < N.length := by first | exact hN.ndl hi | exact hN.ndr hi
    have hNk := (nd_mem hk).1
    have eT : turnA N i true = ((nd N i).l, fixA (fixA ((N.set i { nd N i with l := (nd N (nd N i).l).r }).set (nd N i).l { nd (N.set i { nd N i with l := (nd N (nd N i).l).r }) (nd N i).l with r := i }) i) (nd N i).l) := rfl
    rw [eT]
    have h1 : Inb (N.set i { nd N i with l := (nd N (nd N i).l).r }) := by
      refine hN.set ?_ ?_
      all_goals first | exact hN.ndl hi | exact hN.ndr hi | exact hN.ndl hk | exact hN.ndr hk
    obtain ⟨n1, e1⟩ : ∃ n1 : Nd, n1 = { nd N i with l := (nd N (nd N i).l).r } := ⟨_, rfl⟩
    rw [← e1] at h1 ⊢
    have hl1 : (N.set i n1).length = N.length := by simp
    have hN1k := (nd_mem (N := N.set i n1) (i := (nd N i).l) (by rw [hl1]; exact hk)).1
    obtain ⟨n2, e2⟩ : ∃ n2 : Nd, n2 = { nd (N.set i n1) (nd N i).l with r := i } := ⟨_, rfl⟩
    have h2 : Inb ((N.set i n1).set (nd N i).l n2) := by
      rw [e2]
      refine h1.set ?_ ?_
      all_goals first | (rw [hl1]; exact hi) | exact h1.ndl (by rw [hl1]; exact hk) | exact h1.ndr (by rw [hl1]; exact hk)
    rw [← e2]
    generalize hkk : (nd N i).l = kk at *
    have hl2 : ((N.set i n1).set kk n2).length = N.length := by simp
    refine rSpD_0 ?_
    (try refine wx_ungd rfl rfl ?_)
    apply wx_val
    exact v_load rfl rfl rfl (fun w' hr => hb.elemT (i := i) hA (by decide) (fun _ => rfl) hNi hr (j := 3) rfl (by rw [Int.toNat_natCast]))
    rfl
    rw [hkk]
    refine rSpD_0 ?_
    refine wc_heldN [] [fsB g y n k cnt] (fun hQd => ?_)
    refine tkX 0 rfl (v_move rfl) ?_
    refine tkX 1 rfl (v_nil rfl) ?_
    refine tkX 2 rfl (v_faddr rfl rfl) ?_
    refine tkX 3 rfl (v_ldT rfl rfl rfl (by rfl)) ?_
    refine tkX 4 rfl (v_move rfl) ?_
    refine tkX 5 rfl (v_move rfl) ?_
    refine tkX 6 rfl (v_nil rfl) ?_
    refine tkX 7 rfl (v_faddr rfl rfl) ?_
    refine tkX 8 rfl (v_ldT rfl rfl rfl (by rfl)) ?_
    refine tkX 9 rfl (v_move rfl) ?_
    refine tkX 10 rfl (v_move rfl) ?_
    refine tkX 11 rfl (v_nil rfl) ?_
    refine tkX 12 rfl (v_faddr rfl rfl) ?_
    refine tkX 13 rfl (v_ldT rfl rfl rfl (by rfl)) ?_
    refine tkX 14 rfl (v_move rfl) ?_
    refine tkX 15 rfl (v_iaddrE (by assumption) rfl rfl rfl (by omega)) ?_
    refine tkX 16 rfl (v_faddr rfl rfl) ?_
    refine tkX 18 rfl (v_move rfl) ?_
    refine efX 17 rfl ?_
    (try refine wx_ungd rfl rfl ?_)
    apply wx_val
    exact v_load rfl rfl rfl (fun w' hr => hb.elemT (i := kk) hA (by decide) (fun _ => rfl) hNk hr (j := 4) rfl (by rw [Int.toNat_natCast]))
    rfl
    (try refine wx_nil ?_)
    refine hdX ?_
    refine tkX 19 rfl (v_iaddrE (by assumption) rfl rfl rfl (by omega)) ?_
    refine tkX 20 rfl (v_faddr rfl rfl) ?_
    refine efX 21 rfl ?_
    refine wl_setFT i 3 (f := Nd.cells) (k := 7) (nd N i) n1 (fun _ => rfl) (by decide) hA hb rfl rfl (by rw [Int.toNat_natCast]; omega) hNi hn rfl rfl (by rw [e1]; rfl) (fun E1 hb1 => ?_)
    (try refine wx_nil ?_)
    refine hdX ?_
    refine tkX 22 rfl (v_iaddrE (by assumption) rfl rfl rfl (by omega)) ?_
    refine tkX 23 rfl (v_faddr rfl rfl) ?_
    refine efX 24 rfl ?_
    refine wl_setFT kk 4 (f := Nd.cells) (k := 7) (nd (N.set i n1) kk) n2 (fun _ => rfl) (by decide) hA hb1 rfl rfl (by rw [Int.toNat_natCast]; omega) hN1k (by simp [hn]) rfl rfl (by rw [e2]; rfl) (fun E2 hb2 => ?_)
    (try refine wx_nil ?_)
    refine hdX ?_
    refine wh_done (by decide +kernel) ?_
    refine rSpD_0 ?_
    refine wl_callT (fun w' hr ho => fix_spec (g := g) (y := y) (k := k) (cnt := cnt) (N := (N.set i n1).set kk n2) (E := E2) h2 (hn.trans hl2.symm) (by rw [hl2]; exact hi) hb2 w' ho) rfl rfl rfl ?_
    rintro E3 hb3
    refine rSpD_0 ?_
    refine wl_callT (fun w' hr ho => fix_spec (g := g) (y := y) (k := k) (cnt := cnt) (N := fixA ((N.set i n1).set kk n2) i) (E := E3) (h2.fix (by rw [hl2]; exact hi)) (by rw [fixA_len, hl2]; exact hn) (by rw [fixA_len, hl2]; exact hk) hb3 w' ho) rfl rfl rfl ?_
    rintro E4 hb4
    refine rSpD_0 ?_
    exact wq_ret1T E4 rfl rfl hb4 rfl
  case false =>
    have hk : (nd N i).r < N.length := by first | exact hN.ndl hi | exact hN.ndr hi
    have hNk := (nd_mem hk).1
    have eT : turnA N i false = ((nd N i).r, fixA (fixA ((N.set i { nd N i with r := (nd N (nd N i).r).l }).set (nd N i).r { nd (N.set i { nd N i with r := (nd N (nd N i).r).l }) (nd N i).r with l := i }) i) (nd N i).r) := rfl
    rw [eT]
    have h1 : Inb (N.set i { nd N i with r := (nd N (nd N i).r).l }) := by
      refine hN.set ?_ ?_
      all_goals first | exact hN.ndl hi | exact hN.ndr hi | exact hN.ndl hk | exact hN.ndr hk
    obtain ⟨n1, e1⟩ : ∃ n1 : Nd, n1 = { nd N i with r := (nd N (nd N i).r).l } := ⟨_, rfl⟩
    rw [← e1] at h1 ⊢
    have hl1 : (N.set i n1).length = N.length := by simp
    have hN1k := (nd_mem (N := N.set i n1) (i := (nd N i).r) (by rw [hl1]; exact hk)).1
    obtain ⟨n2, e2⟩ : ∃ n2 : Nd, n2 = { nd (N.set i n1) (nd N i).r with l := i } := ⟨_, rfl⟩
    have h2 : Inb ((N.set i n1).set (nd N i).r n2) := by
      rw [e2]
      refine h1.set ?_ ?_
      all_goals first | (rw [hl1]; exact hi) | exact h1.ndl (by rw [hl1]; exact hk) | exact h1.ndr (by rw [hl1]; exact hk)
    rw [← e2]
    generalize hkk : (nd N i).r = kk at *
    have hl2 : ((N.set i n1).set kk n2).length = N.length := by simp
    refine rSpD_0 ?_
    (try refine wx_ungd rfl rfl ?_)
    apply wx_val
    exact v_load rfl rfl rfl (fun w' hr => hb.elemT (i := i) hA (by decide) (fun _ => rfl) hNi hr (j := 4) rfl (by rw [Int.toNat_natCast]))
    rfl
    rw [hkk]
    refine rSpD_0 ?_
    refine wc_heldN [] [fsB g y n k cnt] (fun hQd => ?_)
    refine tkX 0 rfl (v_move rfl) ?_
    refine tkX 1 rfl (v_nil rfl) ?_
    refine tkX 2 rfl (v_faddr rfl rfl) ?_
    refine tkX 3 rfl (v_ldT rfl rfl rfl (by rfl)) ?_
    refine tkX 4 rfl (v_move rfl) ?_
    refine tkX 5 rfl (v_move rfl) ?_
    refine tkX 6 rfl (v_nil rfl) ?_
    refine tkX 7 rfl (v_faddr rfl rfl) ?_
    refine tkX 8 rfl (v_ldT rfl rfl rfl (by rfl)) ?_
    refine tkX 9 rfl (v_move rfl) ?_
    refine tkX 10 rfl (v_move rfl) ?_
    refine tkX 11 rfl (v_nil rfl) ?_
    refine tkX 12 rfl (v_faddr rfl rfl) ?_
    refine tkX 13 rfl (v_ldT rfl rfl rfl (by rfl)) ?_
    refine tkX 14 rfl (v_move rfl) ?_
    refine tkX 15 rfl (v_iaddrE (by assumption) rfl rfl rfl (by omega)) ?_
    refine tkX 16 rfl (v_faddr rfl rfl) ?_
    refine tkX 18 rfl (v_move rfl) ?_
    refine efX 17 rfl ?_
    (try refine wx_ungd rfl rfl ?_)
    apply wx_val
    exact v_load rfl rfl rfl (fun w' hr => hb.elemT (i := kk) hA (by decide) (fun _ => rfl) hNk hr (j := 3) rfl (by rw [Int.toNat_natCast]))
    rfl
    (try refine wx_nil ?_)
    refine hdX ?_
    refine tkX 19 rfl (v_iaddrE (by assumption) rfl rfl rfl (by omega)) ?_
    refine tkX 20 rfl (v_faddr rfl rfl) ?_
    refine efX 21 rfl ?_
    refine wl_setFT i 4 (f := Nd.cells) (k := 7) (nd N i) n1 (fun _ => rfl) (by decide) hA hb rfl rfl (by rw [Int.toNat_natCast]; omega) hNi hn rfl rfl (by rw [e1]; rfl) (fun E1 hb1 => ?_)
    (try refine wx_nil ?_)
    refine hdX ?_
    refine tkX 22 rfl (v_iaddrE (by assumption) rfl rfl rfl (by omega)) ?_
    refine tkX 23 rfl (v_faddr rfl rfl) ?_
    refine efX 24 rfl ?_
    refine wl_setFT kk 3 (f := Nd.cells) (k := 7) (nd (N.set i n1) kk) n2 (fun _ => rfl) (by decide) hA hb1 rfl rfl (by rw [Int.toNat_natCast]; omega) hN1k (by simp [hn]) rfl rfl (by rw [e2]; rfl) (fun E2 hb2 => ?_)
    (try refine wx_nil ?_)
    refine hdX ?_
    refine wh_done (by decide +kernel) ?_
    refine rSpD_0 ?_
    refine wl_callT (fun w' hr ho => fix_spec (g := g) (y := y) (k := k) (cnt := cnt) (N := (N.set i n1).set kk n2) (E := E2) h2 (hn.trans hl2.symm) (by rw [hl2]; exact hi) hb2 w' ho) rfl rfl rfl ?_
    rintro E3 hb3
    refine rSpD_0 ?_
    refine wl_callT (fun w' hr ho => fix_spec (g := g) (y := y) (k := k) (cnt := cnt) (N := fixA ((N.set i n1).set kk n2) i) (E := E3) (h2.fix (by rw [hl2]; exact hi)) (by rw [fixA_len, hl2]; exact hn) (by rw [fixA_len, hl2]; exact hk) hb3 w' ho) rfl rfl rfl ?_
    rintro E4 hb4
    refine rSpD_0 ?_
    exact wq_ret1T E4 rfl rfl hb4 rfl
end fs
end Go.Proofs.Ytlioccfedophhaa
/- A node mended. -/
set_option linter.unusedVariables false
set_option linter.unusedSimpArgs false
namespace Go.Proofs.Ytlioccfedophhaa
open Go
set_option maxRecDepth 20000
set_option maxHeartbeats 2000000
attribute [local irreducible] WX WC WQ Val VCall
theorem rSpE_0 {A B : Prop} (k : B) (h : Hold B → A := by intro k; (repeat (first | (apply wx_val; (first | exact v_move rfl | exact v_assign rfl | exact v_nil rfl | exact v_faddr rfl rfl | exact v_ldT rfl rfl rfl (by rfl) | exact v_eq rfl rfl | exact v_lt rfl rfl | exact v_gt rfl rfl | exact v_iaddrE (by assumption) rfl rfl rfl (by omega)); rfl) | refine wc_seq ?_ | refine wc_region ?_ | refine wx_nil ?_ | refine wq_next ?_ | refine wc_block ?_ | refine wc_ret ?_ | refine wc_skip ?_ | refine wq_then_ret ?_ | refine wq_block ?_ | refine wq_block_ret ?_ | refine wx_cat ?_ | refine wc_cat ?_ | refine wq_cat ?_)); exact k.out) : A := h ⟨k⟩
section fs
variable {g n k : Nat} {y : Fa} {cnt : Int} {N : List Nd} {E : Seg}
theorem balance_spec {i : Nat} (hN : Inb N) (hn : n = N.length) (hi : i < N.length) (hb : ArO N n y.A y.c E) (w : World) (ho : Own w [fsB g y n k cnt, E]) :
    Calls Try.prog 98 #[.pointer (some ⟨g, 0, none⟩), .int .i64 (i : Nat)] w (Ret (β := Seg) w (ids [fsB g y n k cnt, E]) (fun _ => .int .i64 ((balA N i).1 : Nat)) (fun E' => [fsB g y n k cnt, E']) (fun E' => ArO (balA N i).2 n y.A y.c E')) := by
  refine go [.pointer (some ⟨g, 0, none⟩), .int .i64 (i : Nat)] [fsB g y n k cnt, E] Try.func98 Try.ntmps98 rfl rfl ho ?_
  have hsm := hN.small
  have hN1 := hN.fix hi
  have hl1 := fixA_len N i
  have eB : balA N i = (if leanA (fixA N i) i = 2 then turnA (if leanA (fixA N i) (nd (fixA N i) i).l < 0 then ((turnA (fixA N i) (nd (fixA N i) i).l false).2).set i { nd (turnA (fixA N i) (nd (fixA N i) i).l false).2 i with l := (turnA (fixA N i) (nd (fixA N i) i).l false).1 } else fixA N i) i true
    else if leanA (fixA N i) i = -2 then turnA (if 0 < leanA (fixA N i) (nd (fixA N i) i).r then ((turnA (fixA N i) (nd (fixA N i) i).r true).2).set i { nd (turnA (fixA N i) (nd (fixA N i) i).r true).2 i with r := (turnA (fixA N i) (nd (fixA N i) i).r true).1 } else fixA N i) i false else (i, fixA N i)) := rfl
  rw [eB]
  clear eB
  refine rSpE_0 ?_
  refine wl_callT (fun w' hr ho => fix_spec (g := g) (y := y) (n := n) (k := k) (cnt := cnt) (N := N) (E := E) hN hn hi hb w' ho) rfl rfl rfl ?_
  rintro E1 hb1
  generalize fixA N i = N1 at *
  obtain ⟨ga, hA⟩ := hb1.ptr (by omega)
  have hNi := (nd_mem (N := N1) (i := i) (by omega)).1
  refine rSpE_0 ?_
  refine wl_callT (fun w' hr ho => lean_spec (g := g) (y := y) (n := n) (k := k) (cnt := cnt) (N := N1) (E := E1) hN1 (by omega) (by omega) hb1 w' ho) rfl rfl rfl ?_
  rintro - -
  refine rSpE_0 ?_
  refine wc_if rfl (fun h2 => ?_) (fun h2 => ?_)
  · rw [if_pos h2]
    have hk : (nd N1 i).l < N1.length := by first | exact hN1.ndl (by omega) | exact hN1.ndr (by omega)
    generalize hkk : (nd N1 i).l = kk at *
    have ht := turnA_inb hN1 hk false
    have htl := turnA_len N1 kk false
    refine rSpE_0 ?_
    (try refine wx_ungd rfl rfl ?_)
    apply wx_val
    exact v_load rfl rfl rfl (fun w' hr => hb1.elemT (i := i) hA (by decide) (fun _ => rfl) hNi hr (j := 3) rfl (by rw [Int.toNat_natCast]))
    rfl
    rw [hkk]
    refine rSpE_0 ?_
    refine wl_callT (fun w' hr ho => lean_spec (g := g) (y := y) (n := n) (k := k) (cnt := cnt) (N := N1) (E := E1) hN1 (by omega) hk hb1 w' ho) rfl rfl rfl ?_
    rintro - -
    refine rSpE_0 ?_
    refine wc_if rfl (fun hc => ?_) (fun hc => ?_)
    · rw [if_pos hc]
      skip
      refine wc_heldN [] [fsB g y n k cnt] (fun hQd => ?_)
      refine tkX 0 rfl (v_move rfl) ?_
      refine tkX 1 rfl (v_nil rfl) ?_
      refine tkX 2 rfl (v_faddr rfl rfl) ?_
      refine tkX 3 rfl (v_ldT rfl rfl rfl (by rfl)) ?_
      refine tkX 4 rfl (v_move rfl) ?_
      refine tkX 5 rfl (v_move rfl) ?_
      refine tkX 6 rfl (v_move rfl) ?_
      refine efX 7 rfl ?_
      refine wl_callT (fun w' hr ho => turn_spec (g := g) (y := y) (n := n) (k := k) (cnt := cnt) (N := N1) (E := E1) false hN1 (by omega) hk hb1 w' ho) rfl rfl rfl ?_
      rintro E2 hb2
      refine wx_cat ?_
      (try refine wx_nil ?_)
      refine hdX ?_
      refine tkX 8 rfl (v_iaddrE (by assumption) rfl rfl rfl (by omega)) ?_
      refine tkX 9 rfl (v_faddr rfl rfl) ?_
      refine efX 10 rfl ?_
      refine wl_setFT i 3 (f := Nd.cells) (k := 7) (nd (turnA N1 kk false).2 i) { nd (turnA N1 kk false).2 i with l := (turnA N1 kk false).1 } (fun _ => rfl) (by decide) hA hb2 rfl rfl (by rw [Int.toNat_natCast]; omega) (nd_mem (by omega)).1 (by omega) rfl rfl rfl (fun E3 hb3 => ?_)
      (try refine wx_nil ?_)
      refine hdX ?_
      refine wh_done (by decide +kernel) ?_
      have h3 : Inb ((turnA N1 kk false).2.set i { nd (turnA N1 kk false).2 i with l := (turnA N1 kk false).1 }) := by
        refine ht.1.set ?_ ?_
        all_goals first | (show (turnA N1 kk false).1 < _; have := ht.2; omega) | exact ht.1.ndl (by omega) | exact ht.1.ndr (by omega)
      have hl3 : ((turnA N1 kk false).2.set i { nd (turnA N1 kk false).2 i with l := (turnA N1 kk false).1 }).length = N1.length := by rw [List.length_set, htl]
      generalize (turnA N1 kk false).2.set i { nd (turnA N1 kk false).2 i with l := (turnA N1 kk false).1 } = N3 at *
      refine rSpE_0 ?_
      refine wl_callT (fun w' hr ho => turn_spec (g := g) (y := y) (n := n) (k := k) (cnt := cnt) (N := N3) (E := E3) true h3 (by omega) (by omega) hb3 w' ho) rfl rfl rfl ?_
      rintro E4 hb4
      refine rSpE_0 ?_
      exact wq_ret1T E4 rfl rfl hb4 rfl
    · rw [if_neg hc]
      refine rSpE_0 ?_
      refine wl_callT (fun w' hr ho => turn_spec (g := g) (y := y) (n := n) (k := k) (cnt := cnt) (N := N1) (E := E1) true hN1 (by omega) (by omega) hb1 w' ho) rfl rfl rfl ?_
      rintro E4 hb4
      refine rSpE_0 ?_
      exact wq_ret1T E4 rfl rfl hb4 rfl
  rw [if_neg h2]
  refine rSpE_0 ?_
  refine wc_if rfl (fun h3 => ?_) (fun h3 => ?_)
  · rw [if_pos h3]
    have hk : (nd N1 i).r < N1.length := by first | exact hN1.ndl (by omega) | exact hN1.ndr (by omega)
    generalize hkk : (nd N1 i).r = kk at *
    have ht := turnA_inb hN1 hk true
    have htl := turnA_len N1 kk true
    refine rSpE_0 ?_
    (try refine wx_ungd rfl rfl ?_)
    apply wx_val
    exact v_load rfl rfl rfl (fun w' hr => hb1.elemT (i := i) hA (by decide) (fun _ => rfl) hNi hr (j := 4) rfl (by rw [Int.toNat_natCast]))
    rfl
    rw [hkk]
    refine rSpE_0 ?_
    refine wl_callT (fun w' hr ho => lean_spec (g := g) (y := y) (n := n) (k := k) (cnt := cnt) (N := N1) (E := E1) hN1 (by omega) hk hb1 w' ho) rfl rfl rfl ?_
    rintro - -
    refine rSpE_0 ?_
    refine wc_if rfl (fun hc => ?_) (fun hc => ?_)
    · rw [if_pos hc]
      skip
      refine wc_heldN [] [fsB g y n k cnt] (fun hQd => ?_)
      refine tkX 0 rfl (v_move rfl) ?_
      refine tkX 1 rfl (v_nil rfl) ?_
      refine tkX 2 rfl (v_faddr rfl rfl) ?_
      refine tkX 3 rfl (v_ldT rfl rfl rfl (by rfl)) ?_
      refine tkX 4 rfl (v_move rfl) ?_
      refine tkX 5 rfl (v_move rfl) ?_
      refine tkX 6 rfl (v_move rfl) ?_
      refine efX 7 rfl ?_
      refine wl_callT (fun w' hr ho => turn_spec (g := g) (y := y) (n := n) (k := k) (cnt := cnt) (N := N1) (E := E1) true hN1 (by omega) hk hb1 w' ho) rfl rfl rfl ?_
      rintro E2 hb2
      refine wx_cat ?_
      (try refine wx_nil ?_)
      refine hdX ?_
      refine tkX 8 rfl (v_iaddrE (by assumption) rfl rfl rfl (by omega)) ?_
      refine tkX 9 rfl (v_faddr rfl rfl) ?_
      refine efX 10 rfl ?_
      refine wl_setFT i 4 (f := Nd.cells) (k := 7) (nd (turnA N1 kk true).2 i) { nd (turnA N1 kk true).2 i with r := (turnA N1 kk true).1 } (fun _ => rfl) (by decide) hA hb2 rfl rfl (by rw [Int.toNat_natCast]; omega) (nd_mem (by omega)).1 (by omega) rfl rfl rfl (fun E3 hb3 => ?_)
      (try refine wx_nil ?_)
      refine hdX ?_
      refine wh_done (by decide +kernel) ?_
      have h3 : Inb ((turnA N1 kk true).2.set i { nd (turnA N1 kk true).2 i with r := (turnA N1 kk true).1 }) := by
        refine ht.1.set ?_ ?_
        all_goals first | (show (turnA N1 kk true).1 < _; have := ht.2; omega) | exact ht.1.ndl (by omega) | exact ht.1.ndr (by omega)
      have hl3 : ((turnA N1 kk true).2.set i { nd (turnA N1 kk true).2 i with r := (turnA N1 kk true).1 }).length = N1.length := by rw [List.length_set, htl]
      generalize (turnA N1 kk true).2.set i { nd (turnA N1 kk true).2 i with r := (turnA N1 kk true).1 } = N3 at *
      refine rSpE_0 ?_
      refine wl_callT (fun w' hr ho => turn_spec (g := g) (y := y) (n := n) (k := k) (cnt := cnt) (N := N3) (E := E3) false h3 (by omega) (by omega) hb3 w' ho) rfl rfl rfl ?_
      rintro E4 hb4
      refine rSpE_0 ?_
      exact wq_ret1T E4 rfl rfl hb4 rfl
    · rw [if_neg hc]
      refine rSpE_0 ?_
      refine wl_callT (fun w' hr ho => turn_spec (g := g) (y := y) (n := n) (k := k) (cnt := cnt) (N := N1) (E := E1) false hN1 (by omega) (by omega) hb1 w' ho) rfl rfl rfl ?_
      rintro E4 hb4
      refine rSpE_0 ?_
      exact wq_ret1T E4 rfl rfl hb4 rfl
  · rw [if_neg h3]
    refine rSpE_0 ?_
    exact wq_ret1T E1 rfl rfl hb1 rfl
end fs
end Go.Proofs.Ytlioccfedophhaa
/- A leaf made; a span looked for. -/
set_option linter.unusedVariables false
set_option linter.unusedSimpArgs false
namespace Go.Proofs.Ytlioccfedophhaa
open Go
set_option maxRecDepth 20000
set_option maxHeartbeats 2000000
attribute [local irreducible] WX WC WQ Val VCall
theorem rSpF_0 {A B : Prop} (k : B) (h : Hold B → A := by intro k; (repeat (first | (apply wx_val; (first | exact v_move rfl | exact v_assign rfl | exact v_nil rfl | exact v_faddr rfl rfl | exact v_ldT rfl rfl rfl (by rfl) | exact v_ldAT rfl (by rfl) | exact v_len rfl rfl | exact v_gt rfl rfl | exact v_subi rfl rfl (by omega) | exact v_iaddrE (by assumption) rfl rfl rfl (by omega)); rfl) | refine wc_seq ?_ | refine wc_region ?_ | refine wx_nil ?_ | refine wq_next ?_ | refine wc_ret ?_ | refine wc_skip ?_ | refine wq_then_ret ?_ | refine wx_setn ?_ | refine wc_setn ?_ | refine wq_setn ?_ | refine wl_storeT rfl rfl rfl (by rfl) (by exact .inl (Nat.le_refl _)) rfl ?_ | refine wl_stAT rfl rfl (by rfl) (by rfl) (by exact .inl (Nat.le_refl _)) rfl ?_)); exact k.out) : A := h ⟨k⟩
def natC (m : Nat) : List Value := [.int .i64 (m : Nat)]
abbrev SpO (sp : List Nat) (k : Nat) (B : Option Addr) (d : Nat) (E : Seg) : Prop := Buf 3 1 B k d (sp.flatMap natC) E
def lfN (s : Sp) : Nd := ⟨s, 0, 0, 1, s.b⟩
/-- the place of a new leaf -/
def newI (N : List Nd) (sp : List Nat) : Nat := sp.getLast?.getD N.length
def leafN (N : List Nd) (sp : List Nat) (s : Sp) : List Nd := if sp = [] then N ++ [lfN s] else N.set (newI N sp) (lfN s)
/-- a forest's own memory, but for its map -/
structure FsO (N : List Nd) (sp : List Nat) (y : Fa) (E Es : Seg) : Prop where
  ar : ArO N N.length y.A y.c E
  sps : SpO sp sp.length y.B y.d Es
  inb : Inb N
  spb : ∀ i ∈ sp, i < N.length
abbrev fsM (g : Nat) (y : Fa) (N : List Nd) (sp : List Nat) (cnt : Int) (E Es : Seg) : List Seg := [fsB g y N.length sp.length cnt, E, Es]
theorem spare_last {sp : List Nat} (h : sp ≠ []) : ∃ r i, sp = r ++ [i] := ⟨sp.dropLast, sp.getLast h, (List.dropLast_concat_getLast h).symm⟩
section fs
variable {g : Nat} {y : Fa} {cnt : Int} {N : List Nd} {sp : List Nat} {E Es : Seg}
theorem leaf_spec (s : Sp) (hf : FsO N sp y E Es) (hs : N.length ≤ 1099511627776) (w : World) (ho : Own w (fsM g y N sp cnt E Es)) :
    Calls Try.prog 97 #[.pointer (some ⟨g, 0, none⟩), .agg s.cells.toArray] w (Ret (β := Fa × Seg × Seg) w (ids (fsM g y N sp cnt E Es)) (fun _ => .int .i64 (newI N sp : Nat)) (fun q => fsM g q.1 (leafN N sp s) sp.dropLast cnt q.2.1 q.2.2) (fun q => FsO (leafN N sp s) sp.dropLast q.1 q.2.1 q.2.2 ∧ q.1.m = y.m)) := by
  refine go [.pointer (some ⟨g, 0, none⟩), .agg s.cells.toArray] (fsM g y N sp cnt E Es) Try.func97 Try.ntmps97 rfl rfl ho ?_
  obtain ⟨h1, h2, h3, h4⟩ := hf
  have hp := h3.pos
  obtain ⟨ga, hA⟩ := h1.ptr hp
  refine rSpF_0 ?_
  refine wl_boxA rfl rfl (fun g3 => ?_)
  refine rSpF_0 ?_
  (try refine wx_ungd rfl rfl ?_)
  apply wx_val
  exact v_build (cs := ((Nd.cells (lfN s))).toArray) rfl (by kernel_rfl)
  rfl
  refine wl_alloc rfl rfl (fun g5 => ?_)
  refine rSpF_0 ?_
  refine wc_if rfl (fun hc => ?_) (fun hc => ?_)
  · obtain ⟨r, i, rfl⟩ := spare_last (sp := sp) (by intro e; subst e; simp at hc)
    have hib := h4 i (by simp)
    obtain ⟨gb, hB⟩ := h2.ptr (by simp)
    have hii : (r ++ [i])[r.length]? = some i := by simp
    have hle := h2.le
    have hlr : (r ++ [i]).length = r.length + 1 := by simp
    have hnew : newI N (r ++ [i]) = i := by simp [newI]
    have hlf : leafN N (r ++ [i]) s = N.set i (lfN s) := by
      unfold leafN
      rw [if_neg (by simp), hnew]
    rw [hnew, hlf, show (r ++ [i]).dropLast = r by simp]
    rw [hlr] at h2 hle ⊢
    simp only [maxLen] at hle
    have hcut : cutA y.B 0 r.length y.d 1 = y.B := by
      unfold cutA
      rw [hB]
      split <;> rfl
    have h2' := h2.cutN (m := r.length) (by omega)
    rw [show ((r ++ [i]).flatMap natC).take (r.length * 1) = r.flatMap natC by
      rw [List.flatMap_append, Nat.mul_one]
      exact List.take_left' (by rw [flat_len' (k := 1) (fun _ => rfl), Nat.mul_one])] at h2'
    refine rSpF_0 ?_
    (try refine wx_ungd rfl rfl ?_)
    apply wx_val
    exact v_load rfl rfl rfl (fun w' hr => h2.elemT (i := r.length) (f := natC) (k := 1) hB (by decide) (fun _ => rfl) hii hr (j := 0) rfl (by omega))
    rfl
    refine rSpF_0 ?_
    (try refine wx_ungd rfl rfl ?_)
    apply wx_val
    exact v_sliceN (l := 0) (h := r.length) (m := r.length) rfl rfl rfl (congrArg some (by omega)) (by omega) (by omega) (by omega)
    rfl
    rw [hcut, Nat.sub_zero]
    refine rSpF_0 ?_
    refine wc_blk g (fsC y N.length r.length cnt) (by rfl) ?_
    refine wc_setn ?_
    refine wc_heldN [] [fsB g y N.length r.length cnt, ndB g5 (lfN s)] (fun hQd => ?_)
    refine tkX 0 rfl (v_move rfl) ?_
    refine tkX 1 rfl (v_nil rfl) ?_
    refine tkX 2 rfl (v_faddr rfl rfl) ?_
    refine tkX 3 rfl (v_ldT rfl rfl rfl (by rfl)) ?_
    refine tkX 4 rfl (v_move rfl) ?_
    refine tkX 5 rfl (v_ldAT rfl (by rfl)) ?_
    refine tkX 6 rfl (v_iaddrE (by assumption) rfl rfl rfl (by omega)) ?_
    refine efX 7 rfl ?_
    refine wl_setAT i (f := Nd.cells) (k := 7) (lfN s) (fun _ => rfl) hA h1 rfl rfl (by rw [Int.toNat_natCast]; exact Nat.zero_add _) rfl rfl hib rfl (fun E' hb' => ?_)
    (try refine wx_nil ?_)
    refine hdX ?_
    refine wh_done (by decide +kernel) ?_
    refine rSpF_0 ?_
    refine wq_only [fsB g y N.length r.length cnt, E', Es] ?_
    exact wq_ret1T (y, E', Es) rfl rfl ⟨⟨by rw [List.length_set]; exact hb', h2', h3.set hp hp, fun j hj => by rw [List.length_set]; exact h4 j (by simp [hj])⟩, rfl⟩ (show _ = [fsB g y N.length r.length cnt, E', Es] by
      dsimp only [fsM]
      rw [List.length_set])
  · obtain rfl : sp = [] := List.eq_nil_of_length_eq_zero (by omega)
    have hnew : newI N [] = N.length := rfl
    have hlf : leafN N [] s = N ++ [lfN s] := if_pos rfl
    have hnl : (N ++ [lfN s]).length = N.length + 1 := by simp
    have hsm := h3.small
    rw [hnew, hlf]
    refine rSpF_0 ?_
    refine wc_heldN [] [ndB g5 (lfN s)] (fun hQd => ?_)
    refine tkX 0 rfl (v_move rfl) ?_
    refine tkX 1 rfl (v_move rfl) ?_
    refine tkX 2 rfl (v_nil rfl) ?_
    refine tkX 3 rfl (v_faddr rfl rfl) ?_
    refine tkX 5 rfl (v_ldAT rfl (by rfl)) ?_
    refine wh_eff2 4 6 rfl rfl (by decide +kernel) ?_ ?_
    · refine rSpF_0 ?_
      (try refine wx_nil ?_)
      refine hdX ?_
      refine efX 6 rfl ?_
      refine wl_lit rfl rfl rfl rfl rfl (by decide) rfl (fun g51 => ?_)
      (try refine wx_nil ?_)
      refine hdX ?_
      refine efX 7 rfl ?_
      refine wl_app1T (news := (lfN s).cells) rfl h1 rfl rfl rfl rfl (by omega) rfl (fun A2 c2 E2 hb2 => ?_)
      (try refine wx_nil ?_)
      refine hdX ?_
      refine tkX 8 rfl (v_nil rfl) ?_
      refine tkX 9 rfl (v_faddr rfl rfl) ?_
      refine efX 10 rfl ?_
      refine rSpF_0 ?_
      (try refine wx_nil ?_)
      refine hdX ?_
      refine wh_done (by decide +kernel) ?_
      have hb2' : ArO (N ++ [lfN s]) (N ++ [lfN s]).length A2 c2 E2 := by
        rw [hnl]
        show Buf _ _ _ _ _ _ _
        rw [List.flatMap_append]
        simpa using hb2
      refine rSpF_0 ?_
      refine wq_blk g (fsC { y with A := A2, c := c2 } (N.length + 1) 0 cnt) (by rfl) ?_
      refine wq_setn ?_
      exact wq_ret1T ({ y with A := A2, c := c2 }, E2, Es) rfl (by rw [show (4 : Nat) = 4 from rfl]; exact congrArg some (by congr 1; omega)) ⟨⟨hb2', h2, ⟨by omega, by omega, fun m hm => by rw [hnl]; rcases List.mem_append.1 hm with hm | hm; have := h3.l m hm; omega; rw [List.mem_singleton.1 hm]; exact Nat.succ_pos _, fun m hm => by rw [hnl]; rcases List.mem_append.1 hm with hm | hm; have := h3.r m hm; omega; rw [List.mem_singleton.1 hm]; exact Nat.succ_pos _⟩, fun j hj => by simp at hj⟩, rfl⟩ (show _ = [fsB g { y with A := A2, c := c2 } (N.length + 1) 0 cnt, E2, Es] by
        dsimp only [fsM]
        rw [hnl]
        rfl)
    · refine wl_lit rfl rfl rfl rfl rfl (by decide) rfl (fun g51 => ?_)
      (try refine wx_nil ?_)
      refine hdX ?_
      refine efX 4 rfl ?_
      refine rSpF_0 ?_
      (try refine wx_nil ?_)
      refine hdX ?_
      refine efX 7 rfl ?_
      refine wl_app1T (news := (lfN s).cells) rfl h1 rfl rfl rfl rfl (by omega) rfl (fun A2 c2 E2 hb2 => ?_)
      (try refine wx_nil ?_)
      refine hdX ?_
      refine tkX 8 rfl (v_nil rfl) ?_
      refine tkX 9 rfl (v_faddr rfl rfl) ?_
      refine efX 10 rfl ?_
      refine rSpF_0 ?_
      (try refine wx_nil ?_)
      refine hdX ?_
      refine wh_done (by decide +kernel) ?_
      have hb2' : ArO (N ++ [lfN s]) (N ++ [lfN s]).length A2 c2 E2 := by
        rw [hnl]
        show Buf _ _ _ _ _ _ _
        rw [List.flatMap_append]
        simpa using hb2
      refine rSpF_0 ?_
      refine wq_blk g (fsC { y with A := A2, c := c2 } (N.length + 1) 0 cnt) (by rfl) ?_
      refine wq_setn ?_
      exact wq_ret1T ({ y with A := A2, c := c2 }, E2, Es) rfl (by rw [show (4 : Nat) = 4 from rfl]; exact congrArg some (by congr 1; omega)) ⟨⟨hb2', h2, ⟨by omega, by omega, fun m hm => by rw [hnl]; rcases List.mem_append.1 hm with hm | hm; have := h3.l m hm; omega; rw [List.mem_singleton.1 hm]; exact Nat.succ_pos _, fun m hm => by rw [hnl]; rcases List.mem_append.1 hm with hm | hm; have := h3.r m hm; omega; rw [List.mem_singleton.1 hm]; exact Nat.succ_pos _⟩, fun j hj => by simp at hj⟩, rfl⟩ (show _ = [fsB g { y with A := A2, c := c2 } (N.length + 1) 0 cnt, E2, Es] by
        dsimp only [fsM]
        rw [hnl]
        rfl)
end fs
end Go.Proofs.Ytlioccfedophhaa
/- Trees in the arena; a span put in. -/
set_option linter.unusedVariables false
set_option linter.unusedSimpArgs false
namespace Go.Proofs.Ytlioccfedophhaa
open Go
set_option maxRecDepth 20000
set_option maxHeartbeats 2000000
attribute [local irreducible] WX WC WQ Val VCall
theorem rSpG_0 {A B : Prop} (k : B) (h : Hold B → A := by intro k; (repeat (first | (apply wx_val; (first | exact v_move rfl | exact v_assign rfl | exact v_nil rfl | exact v_faddr rfl rfl | exact v_ldT rfl rfl rfl (by rfl) | exact v_ldAT rfl (by rfl) | exact v_eq rfl rfl | exact v_iaddrE (by assumption) rfl rfl rfl (by omega)); rfl) | refine wc_seq ?_ | refine wc_region ?_ | refine wx_nil ?_ | refine wq_next ?_ | refine wc_ret ?_ | refine wc_skip ?_ | refine wq_then_ret ?_ | refine wq_cat ?_ | refine wc_condT rfl ?_)); exact k.out) : A := h ⟨k⟩
inductive Tr where
  | nil
  | node (i : Nat) (l : Tr) (s : Sp) (r : Tr) (h f : Int)
def Tr.ix : Tr → Nat
  | .nil => 0
  | .node i _ _ _ _ _ => i
def Tr.size : Tr → Nat
  | .nil => 0
  | .node _ l _ r _ _ => l.size + r.size + 1
/-- the tree lies in the arena -/
def At (N : List Nd) : Tr → Prop
  | .nil => True
  | .node i l s r h f => 0 < i ∧ i < N.length ∧ nd N i = ⟨s, l.ix, r.ix, h, f⟩ ∧ At N l ∧ At N r
def hasT : Tr → Sp → Bool
  | .nil, _ => false
  | .node _ l s0 r _ _, s => if cmpS s s0 = 0 then true else if cmpS s s0 < 0 then hasT l s else hasT r s
/-- what insert does to the arena: the new root, the nodes, the spare places -/
def insA : Tr → List Nd → List Nat → Sp → Nat × List Nd × List Nat
  | .nil, N, sp, s => (newI N sp, leafN N sp s, sp.dropLast)
  | .node i l s0 r _ _, N, sp, s =>
    if cmpS s s0 < 0 then
      let q := insA l N sp s
      let b := balA (q.2.1.set i { nd q.2.1 i with l := q.1 }) i
      (b.1, b.2, q.2.2)
    else
      let q := insA r N sp s
      let b := balA (q.2.1.set i { nd q.2.1 i with r := q.1 }) i
      (b.1, b.2, q.2.2)
theorem At.ix_lt {N : List Nd} {t : Tr} (h : At N t) (hN : 0 < N.length) : t.ix < N.length := by
  cases t with
  | nil => exact hN
  | node i l s r hh f => exact h.2.1
theorem leafN_len (N : List Nd) (sp : List Nat) (s : Sp) : N.length ≤ (leafN N sp s).length ∧ (leafN N sp s).length ≤ N.length + 1 := by
  unfold leafN
  split <;> simp
theorem sp_cell {s : Sp} {l r : Nat} {h f : Int} {j : Nat} {u : Value} (hj : s.cells[j]? = some u) : (Nd.cells ⟨s, l, r, h, f⟩)[j]? = some u := by
  have h3 : j < 3 := (List.getElem?_eq_some_iff.1 hj).1
  obtain rfl | rfl | rfl : j = 0 ∨ j = 1 ∨ j = 2 := by omega
  all_goals exact hj
section fs
variable {g : Nat} {y : Fa} {cnt : Int} {N : List Nd} {sp : List Nat} {E Es : Seg}
abbrev InsO (N N' : List Nd) (sp' : List Nat) (i' : Nat) (y : Fa) (q : Fa × Seg × Seg) : Prop := FsO N' sp' q.1 q.2.1 q.2.2 ∧ q.1.m = y.m ∧ i' < N'.length ∧ N.length ≤ N'.length
theorem insert_spec (s : Sp) (t : Tr) : ∀ {y : Fa} {N : List Nd} {sp : List Nat} {E Es : Seg}, FsO N sp y E Es → At N t → N.length ≤ 1099511627776 → ∀ (w : World), Own w (fsM g y N sp cnt E Es) →
    Calls Try.prog 84 #[.pointer (some ⟨g, 0, none⟩), .int .i64 (t.ix : Nat), .agg s.cells.toArray] w (Ret (β := Fa × Seg × Seg) w (ids (fsM g y N sp cnt E Es)) (fun _ => .int .i64 ((insA t N sp s).1 : Nat)) (fun q => fsM g q.1 (insA t N sp s).2.1 (insA t N sp s).2.2 cnt q.2.1 q.2.2) (InsO N (insA t N sp s).2.1 (insA t N sp s).2.2 (insA t N sp s).1 y)) := by
  induction t with
  | nil =>
    intro y N sp E Es hf ht hs w ho
    refine go [.pointer (some ⟨g, 0, none⟩), .int .i64 0, .agg s.cells.toArray] (fsM g y N sp cnt E Es) Try.func84 Try.ntmps84 rfl rfl ho ?_
    have eN : insA .nil N sp s = (newI N sp, leafN N sp s, sp.dropLast) := rfl
    rw [eN]
    dsimp only
    have hll := leafN_len N sp s
    have hpos := hf.inb.pos
    have hni : newI N sp < (leafN N sp s).length := by
      by_cases hsp : sp = []
      · subst hsp
        simp [newI, leafN]
      · obtain ⟨r, i, rfl⟩ := spare_last hsp
        have := hf.spb i (by simp)
        simp only [newI, leafN]
        rw [if_neg (by simp)]
        simpa using this
    refine rSpG_0 ?_
    refine wl_boxA rfl rfl (fun g5 => ?_)
    refine rSpG_0 ?_
    refine wl_callT (fun w' hr ho => leaf_spec (cnt := cnt) s hf hs w' ho) rfl rfl rfl ?_
    rintro ⟨y2, E2, Es2⟩ ⟨hf2, hm2⟩
    refine rSpG_0 ?_
    exact wq_ret1T (y2, E2, Es2) rfl rfl ⟨hf2, hm2, hni, hll.1⟩ rfl
  | node i l s0 r hh ff ihl ihr =>
    intro y N sp E Es hf ht hs w ho
    refine go [.pointer (some ⟨g, 0, none⟩), .int .i64 (i : Nat), .agg s.cells.toArray] (fsM g y N sp cnt E Es) Try.func84 Try.ntmps84 rfl rfl ho ?_
    obtain ⟨t1, t2, hnd, hlr1, hlr2⟩ := ht
    obtain ⟨h1, h2, h3, h4⟩ := hf
    have hp := h3.pos
    obtain ⟨ga, hA⟩ := h1.ptr hp
    have hNi := (nd_mem t2).1
    refine rSpG_0 ?_
    refine wl_boxA rfl rfl (fun g5 => ?_)
    refine rSpG_0 ?_
    refine wc_not rfl (decide_eq_false (by omega)) ?_
    refine rSpG_0 ?_
    refine wc_heldN [] [fsB g y N.length sp.length cnt, E, [(g5, .cells s.cells.toArray 110 (0, 0))]] (fun hQd => ?_)
    refine tkX 0 rfl (v_ldAT rfl (by rfl)) ?_
    refine tkX 1 rfl (v_move rfl) ?_
    refine tkX 2 rfl (v_nil rfl) ?_
    refine tkX 3 rfl (v_faddr rfl rfl) ?_
    refine tkX 4 rfl (v_ldT rfl rfl rfl (by rfl)) ?_
    refine tkX 5 rfl (v_move rfl) ?_
    refine tkX 6 rfl (v_iaddrE (by assumption) rfl rfl rfl (by omega)) ?_
    refine tkX 7 rfl (v_faddr rfl rfl) ?_
    refine tkX 8 rfl (by exact v_loadA (cs := s0.cells) rfl rfl (fun w' hr j u hj => h1.elemT (i := i) hA (by decide) (fun _ => rfl) hNi hr (j := j) (v := u) (by rw [hnd]; exact sp_cell hj) (by rw [Int.toNat_natCast, Nat.add_zero]))) ?_
    refine efX 9 rfl ?_
    (try refine wx_ungd rfl rfl ?_)
    refine wx_vcall (vc_pure' rfl rfl (fun w' hr => compare_spec s s0 w')) rfl ?_
    (try refine wx_nil ?_)
    refine hdX ?_
    refine tkX 10 rfl (v_lt rfl rfl) ?_
    refine wh_done (by decide +kernel) ?_
    refine rSpG_0 ?_
    refine wc_if rfl (fun hc => ?_) (fun hc => ?_)
    · skip
      have eI : insA (.node i l s0 r hh ff) N sp s = ((balA ((insA l N sp s).2.1.set i { nd (insA l N sp s).2.1 i with l := (insA l N sp s).1 }) i).1, (balA ((insA l N sp s).2.1.set i { nd (insA l N sp s).2.1 i with l := (insA l N sp s).1 }) i).2, (insA l N sp s).2.2) := if_pos hc
      rw [eI]
      dsimp only
      have ih := ihl ⟨h1, h2, h3, h4⟩ hlr1 hs
      generalize insA l N sp s = q at *
      obtain ⟨k', N', sp'⟩ := q
      dsimp only at ih ⊢
      refine rSpG_0 ?_
      refine wc_heldN [] [[(g5, .cells s.cells.toArray 110 (0, 0))]] (fun hQd => ?_)
      refine tkX 0 rfl (v_move rfl) ?_
      refine tkX 1 rfl (v_move rfl) ?_
      refine tkX 2 rfl (v_nil rfl) ?_
      refine tkX 3 rfl (v_faddr rfl rfl) ?_
      refine tkX 5 rfl (v_move rfl) ?_
      refine tkX 9 rfl (v_ldAT rfl (by rfl)) ?_
      refine efX 4 rfl ?_
      refine rSpG_0 ?_
      (try refine wx_nil ?_)
      refine hdX ?_
      refine tkX 6 rfl (v_iaddrE (by assumption) rfl rfl rfl (by omega)) ?_
      refine tkX 7 rfl (v_faddr rfl rfl) ?_
      refine efX 8 rfl ?_
      (try refine wx_ungd rfl rfl ?_)
      apply wx_val
      exact v_load rfl rfl rfl (fun w' hr => h1.elemT (i := i) hA (by decide) (fun _ => rfl) hNi hr (j := 3) rfl (by rw [Int.toNat_natCast]))
      rfl
      (try refine wx_nil ?_)
      refine hdX ?_
      refine efX 10 rfl ?_
      rw [hnd]
      refine wl_callT (fun w' hr ho => ih w' ho) rfl rfl rfl ?_
      rintro ⟨y2, E2, Es2⟩ ⟨⟨u1, u2, u3, u4⟩, hm2, hi2, hn2⟩
      dsimp only at u1 u2 hm2 ⊢
      refine wx_cat ?_
      (try refine wx_nil ?_)
      refine hdX ?_
      refine tkX 11 rfl (v_assign rfl) ?_
      refine wh_done (by decide +kernel) ?_
      obtain ⟨gb, hB⟩ := u1.ptr u3.pos
      have hsm2 := u3.small
      have hN4 := u3.set (i := i) (n := { nd N' i with l := k' }) (by first | exact hi2 | exact u3.ndl (by omega)) (by first | exact hi2 | exact u3.ndr (by omega))
      have hl4 : (N'.set i { nd N' i with l := k' }).length = N'.length := by simp
      have hbb := balA_inb hN4 (i := i) (by omega)
      refine rSpG_0 ?_
      refine wl_setFT i 3 (f := Nd.cells) (k := 7) (nd N' i) { nd N' i with l := k' } (fun _ => rfl) (by decide) hB u1 rfl rfl (by rw [Int.toNat_natCast]; omega) (nd_mem (by omega)).1 rfl rfl rfl rfl (fun E3 hb3 => ?_)
      refine rSpG_0 ?_
      refine wl_callT (fun w' hr ho => balance_spec (g := g) (y := y2) (n := N'.length) (k := sp'.length) (cnt := cnt) (N := N'.set i { nd N' i with l := k' }) (E := E3) hN4 hl4.symm (by omega) hb3 w' ho) rfl rfl rfl ?_
      rintro E4 hb4
      rw [hl4] at hbb
      generalize balA (N'.set i { nd N' i with l := k' }) i = b at *
      obtain ⟨b1, N5⟩ := b
      dsimp only at hb4 hbb ⊢
      refine rSpG_0 ?_
      exact wq_ret1T (y2, E4, Es2) rfl rfl ⟨⟨by rw [hbb.2.2]; exact hb4, u2, hbb.1, fun j hj => by rw [hbb.2.2]; exact u4 j hj⟩, hm2, by rw [hbb.2.2]; exact hbb.2.1, by rw [hbb.2.2]; exact hn2⟩ (show _ = [fsB g y2 N'.length sp'.length cnt, E4, Es2] by
        dsimp only [fsM]
        rw [hbb.2.2])
    · skip
      have eI : insA (.node i l s0 r hh ff) N sp s = ((balA ((insA r N sp s).2.1.set i { nd (insA r N sp s).2.1 i with r := (insA r N sp s).1 }) i).1, (balA ((insA r N sp s).2.1.set i { nd (insA r N sp s).2.1 i with r := (insA r N sp s).1 }) i).2, (insA r N sp s).2.2) := if_neg hc
      rw [eI]
      dsimp only
      have ih := ihr ⟨h1, h2, h3, h4⟩ hlr2 hs
      generalize insA r N sp s = q at *
      obtain ⟨k', N', sp'⟩ := q
      dsimp only at ih ⊢
      refine rSpG_0 ?_
      refine wc_heldN [] [[(g5, .cells s.cells.toArray 110 (0, 0))]] (fun hQd => ?_)
      refine tkX 0 rfl (v_move rfl) ?_
      refine tkX 1 rfl (v_move rfl) ?_
      refine tkX 2 rfl (v_nil rfl) ?_
      refine tkX 3 rfl (v_faddr rfl rfl) ?_
      refine tkX 5 rfl (v_move rfl) ?_
      refine tkX 9 rfl (v_ldAT rfl (by rfl)) ?_
      refine efX 4 rfl ?_
      refine rSpG_0 ?_
      (try refine wx_nil ?_)
      refine hdX ?_
      refine tkX 6 rfl (v_iaddrE (by assumption) rfl rfl rfl (by omega)) ?_
      refine tkX 7 rfl (v_faddr rfl rfl) ?_
      refine efX 8 rfl ?_
      (try refine wx_ungd rfl rfl ?_)
      apply wx_val
      exact v_load rfl rfl rfl (fun w' hr => h1.elemT (i := i) hA (by decide) (fun _ => rfl) hNi hr (j := 4) rfl (by rw [Int.toNat_natCast]))
      rfl
      (try refine wx_nil ?_)
      refine hdX ?_
      refine efX 10 rfl ?_
      rw [hnd]
      refine wl_callT (fun w' hr ho => ih w' ho) rfl rfl rfl ?_
      rintro ⟨y2, E2, Es2⟩ ⟨⟨u1, u2, u3, u4⟩, hm2, hi2, hn2⟩
      dsimp only at u1 u2 hm2 ⊢
      refine wx_cat ?_
      (try refine wx_nil ?_)
      refine hdX ?_
      refine tkX 11 rfl (v_assign rfl) ?_
      refine wh_done (by decide +kernel) ?_
      obtain ⟨gb, hB⟩ := u1.ptr u3.pos
      have hsm2 := u3.small
      have hN4 := u3.set (i := i) (n := { nd N' i with r := k' }) (by first | exact hi2 | exact u3.ndl (by omega)) (by first | exact hi2 | exact u3.ndr (by omega))
      have hl4 : (N'.set i { nd N' i with r := k' }).length = N'.length := by simp
      have hbb := balA_inb hN4 (i := i) (by omega)
      refine rSpG_0 ?_
      refine wl_setFT i 4 (f := Nd.cells) (k := 7) (nd N' i) { nd N' i with r := k' } (fun _ => rfl) (by decide) hB u1 rfl rfl (by rw [Int.toNat_natCast]; omega) (nd_mem (by omega)).1 rfl rfl rfl rfl (fun E3 hb3 => ?_)
      refine rSpG_0 ?_
      refine wl_callT (fun w' hr ho => balance_spec (g := g) (y := y2) (n := N'.length) (k := sp'.length) (cnt := cnt) (N := N'.set i { nd N' i with r := k' }) (E := E3) hN4 hl4.symm (by omega) hb3 w' ho) rfl rfl rfl ?_
      rintro E4 hb4
      rw [hl4] at hbb
      generalize balA (N'.set i { nd N' i with r := k' }) i = b at *
      obtain ⟨b1, N5⟩ := b
      dsimp only at hb4 hbb ⊢
      refine rSpG_0 ?_
      exact wq_ret1T (y2, E4, Es2) rfl rfl ⟨⟨by rw [hbb.2.2]; exact hb4, u2, hbb.1, fun j hj => by rw [hbb.2.2]; exact u4 j hj⟩, hm2, by rw [hbb.2.2]; exact hbb.2.1, by rw [hbb.2.2]; exact hn2⟩ (show _ = [fsB g y2 N'.length sp'.length cnt, E4, Es2] by
        dsimp only [fsM]
        rw [hbb.2.2])
end fs
end Go.Proofs.Ytlioccfedophhaa
