/- The seat's own small logic: frames as logs of slots, memory as lists of segments of blocks; rules for code and for lists of operations. -/
import Derived.WalkKit
import Derived.OwnWalk
import Derived.KernelRfl
set_option linter.unusedVariables false
set_option linter.unusedSimpArgs false
namespace Go.Proofs.Ytknnkgoehkohaaa
open Go

/-! ### 1. frames -/
abbrev Fr := List (Nat × Value)

def look : Fr → Nat → Option Value
  | [], _ => none
  | (k, v) :: r, n => bif Nat.beq k n then some v else look r n

theorem beq_no {a b : Nat} (h : ¬ a = b) : Nat.beq a b = false := by
  cases e : Nat.beq a b with
  | false => rfl
  | true => exact absurd (Nat.eq_of_beq_eq_true e) h

/-- a frame's form: how many slots, and the calls that it has put off -/
structure Sh where
  n : Nat
  ds : List Deferred
class Calm (nt : Sh) : Prop where
  eq : nt.ds = []
instance {n : Nat} : Calm ⟨n, []⟩ := ⟨rfl⟩
structure St (nt : Sh) (a : Act) (fr : Fr) : Prop where
  size : a.tmps.size = nt.n
  has : ∀ k v, look fr k = some v → a.tmps[k]? = some v
  calm : a.defers = nt.ds

def ev (fr : Fr) : Operand → Option Value
  | .tmp t => look fr t
  | .const v => some v
  | .global g => some (.pointer (some ⟨g, 0, none⟩))
  | .func f => some (.func (.func f) #[] #[])

def evs (fr : Fr) : List Operand → Option (List Value)
  | [] => some []
  | x :: r => match ev fr x, evs fr r with
    | some v, some vs => some (v :: vs)
    | _, _ => none

theorem St.get {nt : Sh} {a : Act} {fr : Fr} (h : St nt a fr) {t : Nat} {v : Value} (e : look fr t = some v) : a.tmps.getD t undef = v := by
  have := h.has t v e
  simp [Array.getD_eq_getD_getElem?, this]

theorem St.ev {nt : Sh} {a : Act} {fr : Fr} (h : St nt a fr) {x : Operand} {v : Value} (e : ev fr x = some v) : a.eval x = v := by
  cases x with
  | tmp t => exact h.get e
  | const u => simpa [Ytknnkgoehkohaaa.ev, Act.eval] using e
  | global g => simpa [Ytknnkgoehkohaaa.ev, Act.eval] using e
  | func f => simpa [Ytknnkgoehkohaaa.ev, Act.eval] using e

theorem St.evs {nt : Sh} {a : Act} {fr : Fr} (h : St nt a fr) : ∀ {xs : List Operand} {vs : List Value}, evs fr xs = some vs → xs.map a.eval = vs
  | [], vs, e => by simp [Ytknnkgoehkohaaa.evs] at e; simp [e]
  | x :: r, vs, e => by
    simp only [Ytknnkgoehkohaaa.evs] at e
    split at e
    · rename_i v us hv hus
      have := h.evs hus
      simp at e
      subst e
      simp [h.ev hv, this]
    · exact absurd e (by simp)

theorem St.put {nt : Sh} {a : Act} {fr : Fr} (h : St nt a fr) {d : Nat} (v : Value) (hd : d < nt.n) : St nt (a.put (some d) v) ((d, v) :: fr) := by
  refine ⟨by simp [Act.put, h.size], fun k u e => ?_, h.calm⟩
  simp only [Act.put]
  simp only [look] at e
  by_cases hk : d = k
  · subst hk
    simp at e
    subst e
    simp [Array.getElem?_setIfInBounds, h.size, hd]
  · have hb : Nat.beq d k = false := beq_no hk
    rw [hb] at e
    simp only [cond_false] at e
    rw [Array.getElem?_setIfInBounds_ne hk]
    exact h.has k u e

theorem St.putNone {nt : Sh} {a : Act} {fr : Fr} (h : St nt a fr) (v : Value) : St nt (a.put none v) fr := h

theorem St.weak {nt : Sh} {a : Act} {fr fr' : Fr} (h : St nt a fr) (hs : ∀ k v, look fr' k = some v → look fr k = some v) : St nt a fr' :=
  ⟨h.size, fun k v e => h.has k v (hs k v e), h.calm⟩

/-- every binding of the first is one of the second -/
def Sub : Fr → Fr → Prop
  | [], _ => True
  | (k, v) :: r, fr => look fr k = some v ∧ Sub r fr

theorem Sub.spec : ∀ {f1 f2 : Fr}, Sub f1 f2 → ∀ k v, look f1 k = some v → look f2 k = some v
  | [], _, _, k, v, e => by simp [look] at e
  | (i, u) :: r, f2, h, k, v, e => by
    simp only [look] at e
    by_cases hk : i = k
    · subst hk
      simp at e
      rw [← e]; exact h.1
    · have hb : Nat.beq i k = false := beq_no hk
      rw [hb] at e
      exact Sub.spec h.2 k v e

/-! ### 2. memory -/
abbrev Blk := Nat × Obj
abbrev Seg := List Blk

def ids (M : List Seg) : List Nat := M.flatten.map (·.1)

structure Own (w : World) (M : List Seg) : Prop where
  nd : (ids M).Nodup
  at_ : ∀ p, p ∈ M.flatten → w.heap[p.1]? = some p.2

structure Res (w0 : World) (X : List Nat) (w : World) (M : List Seg) : Prop where
  own : Own w M
  sub : ∀ i, i ∈ ids M → i ∈ X ∨ w0.heap.size ≤ i
  keep : ∀ i, i < w0.heap.size → i ∉ X → w.heap[i]? = w0.heap[i]?
  size : w0.heap.size ≤ w.heap.size
  os : w.os = w0.os
  tape : w.tape = w0.tape
  output : w.output = w0.output

theorem Own.lt {w : World} {M : List Seg} (h : Own w M) {i : Nat} (hi : i ∈ ids M) : i < w.heap.size := by
  obtain ⟨p, hp, rfl⟩ := List.mem_map.1 hi
  exact (Array.getElem?_eq_some_iff.1 (h.at_ p hp)).1

theorem Res.refl {w : World} {M : List Seg} (h : Own w M) : Res w (ids M) w M :=
  ⟨h, fun i hi => .inl hi, fun _ _ _ => rfl, Nat.le_refl _, rfl, rfl, rfl⟩

theorem ids_perm {M N : List Seg} (h : M.Perm N) : (ids M).Perm (ids N) := (List.Perm.flatten h).map _

theorem Own.perm {w : World} {M N : List Seg} (h : Own w M) (hp : M.Perm N) : Own w N :=
  ⟨(ids_perm hp).nodup_iff.1 h.nd, fun p hm => h.at_ p ((List.Perm.flatten hp).mem_iff.2 hm)⟩

theorem Res.perm {w0 w : World} {X : List Nat} {M N : List Seg} (h : Res w0 X w M) (hp : M.Perm N) : Res w0 X w N :=
  ⟨h.own.perm hp, fun i hi => h.sub i ((ids_perm hp).mem_iff.2 hi), h.keep, h.size, h.os, h.tape, h.output⟩

theorem ids_append (M N : List Seg) : ids (M ++ N) = ids M ++ ids N := by simp [ids]
theorem ids_cons (E : Seg) (M : List Seg) : ids (E :: M) = E.map (·.1) ++ ids M := by simp [ids]
theorem mem_ids_of {p : Blk} {M : List Seg} (h : p ∈ M.flatten) : p.1 ∈ ids M := List.mem_map_of_mem h

theorem Own.left {w : World} {M N : List Seg} (h : Own w (M ++ N)) : Own w M :=
  ⟨by have := h.nd; rw [ids_append] at this; exact (List.nodup_append.1 this).1, fun p hp => h.at_ p (by simp; exact .inl (by simpa using hp))⟩
theorem Own.right {w : World} {M N : List Seg} (h : Own w (M ++ N)) : Own w N :=
  ⟨by have := h.nd; rw [ids_append] at this; exact (List.nodup_append.1 this).2.1, fun p hp => h.at_ p (by simp; exact .inr (by simpa using hp))⟩
theorem Own.apart {w : World} {M N : List Seg} (h : Own w (M ++ N)) {i : Nat} (hi : i ∈ ids M) (hj : i ∈ ids N) : False := by
  have := h.nd
  rw [ids_append] at this
  exact (List.nodup_append.1 this).2.2 i hi i hj rfl

/-- what is left out lives on over a call -/
theorem Res.call {w0 w w' : World} {X : List Nat} {M L M' : List Seg} (h : Res w0 X w (M ++ L)) (k : Res w (ids M) w' M') : Res w0 X w' (M' ++ L) := by
  have hlt : ∀ i, i ∈ ids L → i < w.heap.size ∧ i ∉ ids M := fun i hi => ⟨h.own.right.lt hi, fun hm => h.own.apart hm hi⟩
  refine ⟨⟨?_, fun p hp => ?_⟩, fun i hi => ?_, fun i hi hx => ?_, Nat.le_trans h.size k.size, k.os.trans h.os, k.tape.trans h.tape, k.output.trans h.output⟩
  · rw [ids_append]
    refine List.nodup_append.2 ⟨k.own.nd, h.own.right.nd, fun i hi j hj e => ?_⟩
    subst e
    have ⟨h1, h2⟩ := hlt i hj
    rcases k.sub i hi with h3 | h3
    · exact h2 h3
    · omega
  · rcases List.mem_append.1 (by simpa using hp : p ∈ M'.flatten ++ L.flatten) with hp | hp
    · exact k.own.at_ p hp
    · have ⟨h1, h2⟩ := hlt p.1 (mem_ids_of hp)
      rw [k.keep p.1 h1 h2]
      exact h.own.right.at_ p hp
  · rw [ids_append] at hi
    rcases List.mem_append.1 hi with hi | hi
    · rcases k.sub i hi with h3 | h3
      · exact h.sub i (by rw [ids_append]; exact List.mem_append.2 (.inl h3))
      · exact .inr (Nat.le_trans h.size h3)
    · exact h.sub i (by rw [ids_append]; exact List.mem_append.2 (.inr hi))
  · have hw : i < w.heap.size := Nat.lt_of_lt_of_le hi h.size
    have hm : i ∉ ids M := fun hm => by
      rcases h.sub i (by rw [ids_append]; exact List.mem_append.2 (.inl hm)) with h1 | h1
      · exact hx h1
      · omega
    rw [k.keep i hw hm]
    exact h.keep i hi hx

/-- segments taken to the front, by their places -/
def pick (M : List Seg) : List Nat → List Seg
  | [] => []
  | i :: r => (M[i]?.getD []) :: pick M r

theorem Res.drop {w0 w : World} {X : List Nat} {M L : List Seg} (h : Res w0 X w (M ++ L)) : Res w0 X w M :=
  ⟨h.own.left, fun i hi => h.sub i (by rw [ids_append]; exact List.mem_append.2 (.inl hi)), h.keep, h.size, h.os, h.tape, h.output⟩

theorem perm_front {α : Type} : ∀ (M : List α) (i : Nat) (x : α), M[i]? = some x → M.Perm (x :: M.eraseIdx i)
  | [], i, x, h => by simp at h
  | y :: M, 0, x, h => by simp at h; subst h; simp
  | y :: M, i + 1, x, h => by
    simp only [List.getElem?_cons_succ] at h
    simp only [List.eraseIdx_cons_succ]
    exact (List.Perm.cons y (perm_front M i x h)).trans (List.Perm.swap x y _)

/-- one block's cells -/
theorem Res.blk {w0 w : World} {X : List Nat} {M : List Seg} (h : Res w0 X w M) {i : Nat} {E : Seg} (hi : M[i]? = some E) {j : Nat} {p : Blk} (hj : E[j]? = some p) : w.heap[p.1]? = some p.2 :=
  h.own.at_ p (List.mem_flatten.2 ⟨E, List.mem_of_getElem? hi, List.mem_of_getElem? hj⟩)

theorem Res.cell {w0 w : World} {X : List Nat} {M : List Seg} (h : Res w0 X w M) {i j : Nat} {E : Seg} {b : Nat} {cs : Array Value} {t : TypeId} {fz : Nat × Nat} {o : Nat} {v : Value}
    (hi : M[i]? = some E) (hj : E[j]? = some (b, .cells cs t fz)) (hc : cs[o]? = some v) : w.cell? ⟨b, o, none⟩ = some v := by
  have := h.blk hi hj
  simp [World.cell?, this, hc]

/-- a new block -/
theorem Res.new {w0 w w' : World} {X : List Nat} {M : List Seg} (h : Res w0 X w M) (o : Obj) (hh : w'.heap = w.heap.push o) (hos : w'.os = w.os) (ht : w'.tape = w.tape) (ho : w'.output = w.output) :
    Res w0 X w' ([(w.heap.size, o)] :: M) := by
  have hl : ∀ i, i < w.heap.size → w'.heap[i]? = w.heap[i]? := fun i hi => by rw [hh, Array.getElem?_push, if_neg (by omega)]
  refine ⟨⟨?_, fun p hp => ?_⟩, fun i hi => ?_, fun i hi hx => ?_, ?_, hos.trans h.os, ht.trans h.tape, ho.trans h.output⟩
  · rw [ids_cons]
    simp only [List.map_cons, List.map_nil, List.cons_append, List.nil_append, List.nodup_cons]
    exact ⟨fun hm => by have := h.own.lt hm; omega, h.own.nd⟩
  · rcases List.mem_append.1 (by simpa using hp : p ∈ [(w.heap.size, o)] ++ M.flatten) with hp | hp
    · have : p = (w.heap.size, o) := by simpa using hp
      subst this
      simp [hh]
    · rw [hl p.1 (h.own.lt (mem_ids_of hp))]
      exact h.own.at_ p hp
  · rw [ids_cons] at hi
    simp only [List.map_cons, List.map_nil, List.cons_append, List.nil_append, List.mem_cons] at hi
    rcases hi with hi | hi
    · subst hi; exact .inr h.size
    · exact h.sub i hi
  · rw [hl i (Nat.lt_of_lt_of_le hi h.size)]; exact h.keep i hi hx
  · have := h.size
    rw [hh]; simp; omega

/-- a segment's blocks written, and new ones beside -/
theorem Res.turn {w0 w w' : World} {X : List Nat} {E E' : Seg} {M : List Seg} (h : Res w0 X w (E :: M)) (k : Res w (E.map (·.1)) w' [E']) : Res w0 X w' (E' :: M) := by
  have h' : Res w0 X w ([E] ++ M) := h
  have k' : Res w (ids [E]) w' [E'] := by simpa [ids] using k
  exact h'.call k'

theorem mem_ids_set {M : List Seg} {i : Nat} {E E' : Seg} (hi : M[i]? = some E) {n : Nat} (hn : n ∈ ids (M.set i E')) : n ∈ E'.map (·.1) ∨ n ∈ ids (M.eraseIdx i) := by
  have hl : i < M.length := (List.getElem?_eq_some_iff.1 hi).1
  have hp := perm_front (M.set i E') i E' (by simp [hl])
  have := (ids_perm hp).mem_iff.1 hn
  rw [ids_cons] at this
  rw [List.eraseIdx_set_eq] at this
  exact List.mem_append.1 this

theorem perm_set {M : List Seg} {i : Nat} {E : Seg} (hi : M[i]? = some E) (E' : Seg) : (M.set i E').Perm (E' :: M.eraseIdx i) := by
  have hl : i < M.length := (List.getElem?_eq_some_iff.1 hi).1
  have hp := perm_front (M.set i E') i E' (by simp [hl])
  rwa [List.eraseIdx_set_eq] at hp

/-- the segment at place i written -/
theorem Res.turnAt {w0 w w' : World} {X : List Nat} {M : List Seg} {i : Nat} {E E' : Seg} (h : Res w0 X w M) (hi : M[i]? = some E) (k : Res w (E.map (·.1)) w' [E']) : Res w0 X w' (M.set i E') :=
  ((h.perm (perm_front M i E hi)).turn k).perm (perm_set hi E').symm

/-- one cell of a block stored into -/
theorem res_store {w : World} {b : Nat} {o o' : Obj} (hb : w.heap[b]? = some o) {w' : World} (hh : ∀ i, i ≠ b → w'.heap[i]? = w.heap[i]?) (hb' : w'.heap[b]? = some o') (hs : w'.heap.size = w.heap.size)
    (hos : w'.os = w.os) (ht : w'.tape = w.tape) (ho : w'.output = w.output) : Res w [b] w' [[(b, o')]] := by
  refine ⟨⟨by simp [ids], fun p hp => ?_⟩, fun i hi => ?_, fun i hi hx => hh i (by simpa using hx), by omega, hos, ht, ho⟩
  · have : p = (b, o') := by simpa using hp
    subst this; exact hb'
  · simp [ids] at hi; exact .inl (by simp [hi])

end Go.Proofs.Ytknnkgoehkohaaa
