/- The seat's own logic: maps of one's own. -/
import Derived.Test.YtknnkgoehkohaaaKitO
set_option linter.unusedVariables false
set_option linter.unusedSimpArgs false
namespace Go.Proofs.Ytknnkgoehkohaaa
open Go
/-- an entry: key, value, stamp -/
abbrev Ent := Value × Value × Nat
def ent (e : Ent) : MapEntry := ⟨e.1, e.2.1, e.2.2⟩
def ents (l : List Ent) : Array MapEntry := (l.map ent).toArray
def keyEq : Value → Value → Bool
  | .agg xs, .agg ys => eqL xs.toList ys.toList
  | x, y => eqV x y
/-- two keys of the type, compared -/
structure KeyOk (P : Program) (kt : TypeId) (k k' : Value) : Prop where
  eq : ∀ w, (Op.equal kt k k').run P w = .ok (keyEq k k') w
  now : ∀ d, P.underlying kt = some d → Instr.sameNow d k k' = none ∨ Instr.sameNow d k k' = some (keyEq k k')
  same : keyEq k k' = true → k = k'
/-- a key that may be asked for -/
structure KeyGood (P : Program) (kt : TypeId) (k : Value) : Prop where
  check : ∀ b w, (Instr.checkKey b 10000 kt k).run P w = .ok () w
  self : Instr.sameBits 10000 k k = true
def mlook (k : Value) : List Ent → Nat → Option (Nat × Value)
  | [], _ => none
  | (k', v, _) :: r, i => if keyEq k k' then some (i, v) else mlook k r (i + 1)
def mget (k : Value) (l : List Ent) : Option Value := (mlook k l 0).map (·.2)
section
variable {P : Program}
theorem run_findAsking {kt : TypeId} {k : Value} : ∀ (l : List Ent) (i : Nat), (∀ e ∈ l, KeyOk P kt k e.1) → ∀ w, (Instr.findAsking kt k (l.map ent) i).run P w = .ok (mlook k l i) w
  | [], i, _, w => by simp [Instr.findAsking, mlook]
  | (k', v, b) :: r, i, h, w => by
    have h1 := (h (k', v, b) (by simp)).eq w
    have ih := run_findAsking r (i + 1) (fun e he => h e (by simp [he])) w
    simp only [List.map_cons, Instr.findAsking, ent, mlook]
    simp only [Sem.run_bind, h1, Result.andThen_ok]
    cases keyEq k k'
    · simpa using ih
    · simp
theorem findNow_or {kt : TypeId} {d : TypeDesc} (hd : P.underlying kt = some d) {k : Value} : ∀ (l : List Ent) (i : Nat), (∀ e ∈ l, KeyOk P kt k e.1) → Instr.findNow d k (l.map ent) i = none ∨ Instr.findNow d k (l.map ent) i = some (mlook k l i)
  | [], i, _ => by simp [Instr.findNow, mlook]
  | (k', v, b) :: r, i, h => by
    have h1 := (h (k', v, b) (by simp)).now d hd
    have ih := findNow_or hd r (i + 1) (fun e he => h e (by simp [he]))
    simp only [List.map_cons, Instr.findNow, ent, mlook]
    rcases h1 with h1 | h1
    · rw [h1]; exact .inl rfl
    · rw [h1]
      cases keyEq k k'
      · simpa using ih
      · simp
theorem run_findKey {kt : TypeId} {d : TypeDesc} (hd : P.underlying kt = some d) {k : Value} {l : List Ent} (h : ∀ e ∈ l, KeyOk P kt k e.1) (w : World) : (Instr.findKey kt k (l.map ent)).run P w = .ok (mlook k l 0) w := by
  unfold Instr.findKey
  simp only [Sem.run_bind, run_underlying hd, Result.andThen_ok]
  rcases findNow_or hd l 0 h with h1 | h1
  · rw [h1]; exact run_findAsking l 0 h w
  · rw [h1]; simp
/-- of a map's type: the key's type, its form and the element's type -/
def mapT (P : Program) (t : TypeId) : Option (TypeId × TypeId) := match P.underlying t with
  | some (.map k e) => if (P.underlying k).isSome then some (k, e) else none
  | _ => none
theorem mapT_spec {t k e : TypeId} (h : mapT P t = some (k, e)) : P.underlying t = some (.map k e) ∧ ∃ d, P.underlying k = some d := by
  unfold mapT at h
  split at h
  · rename_i k' e' hu
    split at h
    · rename_i hs
      simp only [Option.some.injEq, Prod.mk.injEq] at h
      obtain ⟨rfl, rfl⟩ := h
      exact ⟨hu, Option.isSome_iff_exists.1 hs⟩
    · cases h
  · cases h
theorem run_getObj_map {w : World} {g clk : Nat} {es : Array MapEntry} (h : w.heap[g]? = some (.map es clk)) : (getObj g).run P w = .ok (.map es clk) w := by
  simp [getObj, Sem.run, h]
theorem run_setObj_map {w : World} {g clk clk' : Nat} {es es' : Array MapEntry} (h : w.heap[g]? = some (.map es clk)) : (setObj g (.map es' clk')).run P w = .ok () { w with heap := w.heap.setIfInBounds g (.map es' clk') } := by
  simp [setObj, Sem.run, h]
variable {ops : Array Oper} {Q : Exit → Act → World → Prop} {nt : Sh} {w0 : World} {X : List Nat} {fr : Fr} {M : List Seg} {rest : List Oper}
variable {dst : Option Nat} {t ty : TypeId} {pos : String} {af : Array Edge} {gd : Option (Nat × Bool)} {x y : Operand}
theorem v_mlook (i j : Nat) {kt e : TypeId} {g clk : Nat} {E : Seg} {l : List Ent} {k z : Value} (ht : mapT P t = some (kt, e)) (hz : zeroV P e = some z) (hx : ev fr x = some (.map (some g))) (hy : ev fr y = some k) (hi : M[i]? = some E) (hj : E[j]? = some (g, .map (ents l) clk)) (hg : KeyGood P kt k) (hk : ∀ e ∈ l, KeyOk P kt k e.1) :
    Val P nt w0 X fr M ⟨dst, .lookup t x y false, ty, pos, af, gd⟩ ((mget k l).getD z) := fun c w hs hr => by
  obtain ⟨hu, d, hd⟩ := mapT_spec ht
  have hb := hr.blk hi hj
  have hf := run_findKey hd hk w
  have hzz := run_zeroV hz w
  simp only [execOp, hs.ev hx, hs.ev hy, Instr.lookup]
  have hgo : (getObj g).run P w = .ok (.map (ents l) clk) w := run_getObj_map hb
  simp [run_underlying hu, hgo, hg.check, ents, hf, mget]
  cases mlook k l 0 <;> simp [hzz]
theorem v_mlook2 (i j : Nat) {kt e : TypeId} {g clk : Nat} {E : Seg} {l : List Ent} {k z : Value} (ht : mapT P t = some (kt, e)) (hz : zeroV P e = some z) (hx : ev fr x = some (.map (some g))) (hy : ev fr y = some k) (hi : M[i]? = some E) (hj : E[j]? = some (g, .map (ents l) clk)) (hg : KeyGood P kt k) (hk : ∀ e ∈ l, KeyOk P kt k e.1) :
    Val P nt w0 X fr M ⟨dst, .lookup t x y true, ty, pos, af, gd⟩ (.tuple #[(mget k l).getD z, .bool (mget k l).isSome]) := fun c w hs hr => by
  obtain ⟨hu, d, hd⟩ := mapT_spec ht
  have hb := hr.blk hi hj
  have hf := run_findKey hd hk w
  have hzz := run_zeroV hz w
  simp only [execOp, hs.ev hx, hs.ev hy, Instr.lookup]
  have hgo : (getObj g).run P w = .ok (.map (ents l) clk) w := run_getObj_map hb
  simp [run_underlying hu, hgo, hg.check, ents, hf, mget]
  cases mlook k l 0 <;> simp [hzz]
theorem wl_makeMap {d : Nat} (hd : Nat.blt d nt.n = true) (h : ∀ g, WX .seq P ops Q nt w0 X rest ((d, .map (some g)) :: fr) ([(g, .map (ents []) 0)] :: M)) :
    WX .seq P ops Q nt w0 X (⟨some d, .makeMap t none, ty, pos, af, none⟩ :: rest) fr M :=
  wl_step rfl hd fun c w hs hr => ⟨.map (some w.heap.size), { w with heap := w.heap.push (.map #[] 0) }, _, by simp [execOp, Instr.makeMap], hr.new (.map #[] 0) rfl rfl rfl rfl, h w.heap.size⟩
end
/-! ### lists of entries with keys of one type -/
section
variable {α : Type}
abbrev TE (α : Type) := List (α × Value × Nat)
def tents (κ : α → Value) (L : TE α) : List Ent := L.map (fun e => (κ e.1, e.2))
structure MapOk (L : TE α) (clk : Nat) : Prop where
  keys : L.Pairwise (fun a b => a.1 ≠ b.1)
  stamps : L.Pairwise (fun a b => a.2.2 ≠ b.2.2)
  lt : ∀ e ∈ L, e.2.2 < clk
def aget [DecidableEq α] (a : α) (L : TE α) : Option Value := (L.find? (fun e => decide (a = e.1))).map (·.2.1)
def astamp [DecidableEq α] (a : α) (L : TE α) (clk : Nat) : Nat := ((L.find? (fun e => decide (a = e.1))).map (·.2.2)).getD clk
def aput [DecidableEq α] (a : α) (v : Value) (L : TE α) (clk : Nat) : TE α := if (aget a L).isSome then L.map (fun e => if a = e.1 then (a, v, e.2.2) else e) else L ++ [(a, v, clk)]
def aclk [DecidableEq α] (a : α) (L : TE α) (clk : Nat) : Nat := if (aget a L).isSome then clk else clk + 1
theorem MapOk.nil (clk : Nat) : MapOk ([] : TE α) clk := ⟨.nil, .nil, by simp⟩
theorem aget_nil [DecidableEq α] (a : α) : aget a [] = none := rfl
theorem find_map [DecidableEq α] {a b : α} {v : Value} : ∀ (L : TE α), (L.map (fun e => if a = e.1 then (a, v, e.2.2) else e)).find? (fun e => decide (b = e.1)) = (L.find? (fun e => decide (b = e.1))).map (fun e => if a = e.1 then (a, v, e.2.2) else e)
  | [] => rfl
  | e :: r => by
    have h : (if a = e.1 then (a, v, e.2.2) else e).1 = e.1 := by split <;> simp_all
    rw [List.map_cons, List.find?_cons, List.find?_cons, h]
    cases decide (b = e.1)
    · exact find_map r
    · rfl
theorem find_key [DecidableEq α] {a : α} {L : TE α} {e : α × Value × Nat} (h : L.find? (fun e => decide (a = e.1)) = some e) : a = e.1 := by
  simpa using List.find?_some h
theorem aget_put [DecidableEq α] {a b : α} {v : Value} {L : TE α} {clk : Nat} : aget b (aput a v L clk) = if b = a then some v else aget b L := by
  unfold aput
  split
  · rename_i h
    obtain ⟨u, hu⟩ := Option.isSome_iff_exists.1 h
    obtain ⟨e, he, rfl⟩ := Option.map_eq_some_iff.1 hu
    unfold aget
    rw [find_map]
    split
    · rename_i hb
      subst hb
      rw [he]
      simp [find_key he]
    · rename_i hb
      cases hf : L.find? (fun e => decide (b = e.1)) with
      | none => rfl
      | some e' =>
        have := find_key hf
        have h2 : ¬ a = e'.1 := fun h => hb (by rw [this, h])
        simp [h2]
  · rename_i h
    have hn : L.find? (fun e => decide (a = e.1)) = none := by
      unfold aget at h
      exact Option.map_eq_none_iff.1 (Option.not_isSome_iff_eq_none.1 h)
    unfold aget
    rw [List.find?_append]
    split
    · rename_i hb
      subst hb
      rw [hn]
      simp
    · rename_i hb
      cases hf : L.find? (fun e => decide (b = e.1)) <;> simp [hb]
theorem MapOk.put [DecidableEq α] {L : TE α} {clk : Nat} (h : MapOk L clk) (a : α) (v : Value) : MapOk (aput a v L clk) (aclk a L clk) := by
  unfold aput aclk
  split
  · rename_i hs
    refine ⟨?_, ?_, ?_⟩
    · refine List.Pairwise.map _ (fun x y hxy => ?_) h.keys
      have e1 : ∀ x : α × Value × Nat, (if a = x.1 then (a, v, x.2.2) else x).1 = x.1 := fun x => by split <;> simp_all
      rw [e1, e1]; exact hxy
    · refine List.Pairwise.map _ (fun x y hxy => ?_) h.stamps
      have e1 : ∀ x : α × Value × Nat, (if a = x.1 then (a, v, x.2.2) else x).2.2 = x.2.2 := fun x => by split <;> simp_all
      rw [e1, e1]; exact hxy
    · intro e he
      obtain ⟨x, hx, rfl⟩ := List.mem_map.1 he
      have := h.lt x hx
      split <;> exact this
  · rename_i hs
    have hn : L.find? (fun e => decide (a = e.1)) = none := by
      unfold aget at hs
      exact Option.map_eq_none_iff.1 (Option.not_isSome_iff_eq_none.1 hs)
    refine ⟨?_, ?_, ?_⟩
    · refine List.pairwise_append.2 ⟨h.keys, by simp, fun x hx y hy => ?_⟩
      have hx' := List.find?_eq_none.1 hn x hx
      simp at hy; subst hy
      simp at hx'
      exact fun e => hx' e.symm
    · refine List.pairwise_append.2 ⟨h.stamps, by simp, fun x hx y hy => ?_⟩
      have := h.lt x hx
      simp at hy; subst hy
      simp only []; omega
    · intro e he
      rcases List.mem_append.1 he with he | he
      · have := h.lt e he; omega
      · simp at he; subst he; simp only []; omega
/-- where a key lies -/
theorem pair_inj {β γ : Type} {f : β → γ} : ∀ {L : List β}, L.Pairwise (fun a b => f a ≠ f b) → ∀ {i j : Nat} {x y : β}, L[i]? = some x → L[j]? = some y → f x = f y → i = j
  | [], _, i, j, x, y, hx, _, _ => by simp at hx
  | z :: r, h, 0, 0, x, y, _, _, _ => rfl
  | z :: r, h, 0, j + 1, x, y, hx, hy, e => by
    simp at hx hy; subst hx
    exact absurd e ((List.pairwise_cons.1 h).1 y (List.mem_of_getElem? hy))
  | z :: r, h, i + 1, 0, x, y, hx, hy, e => by
    simp at hx hy; subst hy
    exact absurd e.symm ((List.pairwise_cons.1 h).1 x (List.mem_of_getElem? hx))
  | z :: r, h, i + 1, j + 1, x, y, hx, hy, e => by
    simp at hx hy
    rw [pair_inj (List.pairwise_cons.1 h).2 hx hy e]
variable {κ : α → Value}
theorem mlook_t [DecidableEq α] (hκ : ∀ a b, keyEq (κ a) (κ b) = decide (a = b)) (a : α) : ∀ (L : TE α) (i : Nat), (mlook (κ a) (tents κ L) i = none ∧ L.find? (fun e => decide (a = e.1)) = none) ∨
    ∃ n v b, mlook (κ a) (tents κ L) i = some (n + i, v) ∧ L[n]? = some (a, v, b) ∧ L.find? (fun e => decide (a = e.1)) = some (a, v, b)
  | [], i => .inl ⟨rfl, rfl⟩
  | (k', v, b) :: r, i => by
    have ih := mlook_t hκ a r (i + 1)
    simp only [tents, List.map_cons, mlook, hκ, List.find?_cons] at ih ⊢
    by_cases h : a = k'
    · subst h
      refine .inr ⟨0, v, b, ?_, ?_, ?_⟩ <;> simp
    · simp only [h, decide_false, Bool.false_eq_true, if_false]
      rcases ih with ⟨h1, h2⟩ | ⟨n, v2, b2, h1, h2, h3⟩
      · exact .inl ⟨h1, h2⟩
      · exact .inr ⟨n + 1, v2, b2, by rw [h1]; congr 2; omega, by simpa using h2, h3⟩
theorem mget_t [DecidableEq α] (hκ : ∀ a b, keyEq (κ a) (κ b) = decide (a = b)) (a : α) (L : TE α) : mget (κ a) (tents κ L) = aget a L := by
  unfold mget aget
  rcases mlook_t hκ a L 0 with ⟨h1, h2⟩ | ⟨n, v, b, h1, h2, h3⟩
  · rw [h1, h2]; rfl
  · rw [h1, h3]; rfl
theorem ents_modify [DecidableEq α] (hκ : ∀ a b, keyEq (κ a) (κ b) = decide (a = b)) {a : α} {L : TE α} (hk : L.Pairwise (fun a b => a.1 ≠ b.1)) {n : Nat} {u v : Value} {b : Nat} (hn : L[n]? = some (a, u, b)) {f : MapEntry → MapEntry} (hf : f ⟨κ a, u, b⟩ = ⟨κ a, v, b⟩) :
    (ents (tents κ L)).modify n f = ents (tents κ (L.map (fun e => if a = e.1 then (a, v, e.2.2) else e))) := by
  apply Array.toList_inj.1
  rw [Array.toList_modify]
  unfold ents tents
  simp only [List.map_map]
  apply List.ext_getElem?
  intro j
  rw [List.getElem?_modify, List.getElem?_map, List.getElem?_map]
  cases hj : L[j]? with
  | none => rfl
  | some e =>
    simp only [Option.map_some, Function.comp_apply]
    by_cases h : n = j
    · subst h
      rw [hn] at hj
      simp only [Option.some.injEq] at hj
      subst hj
      simp [ent, hf]
    · have h2 : ¬ a = e.1 := fun he => h (pair_inj (f := fun (x : α × Value × Nat) => x.1) hk hn hj he)
      simp [h, h2]
theorem ents_push {L : TE α} {a : α} {v : Value} {b : Nat} : (ents (tents κ L)).push ⟨κ a, v, b⟩ = ents (tents κ (L ++ [(a, v, b)])) := by
  simp [ents, tents, ent]
theorem findIdx_stamp {L : TE α} (hs : L.Pairwise (fun a b => a.2.2 ≠ b.2.2)) {n : Nat} {a : α} {v : Value} {b : Nat} (hn : L[n]? = some (a, v, b)) : (ents (tents κ L)).findIdx? (fun e => (e.born : Int) == (b : Int)) = some n := by
  unfold ents tents
  rw [List.findIdx?_toArray, List.findIdx?_eq_some_iff_getElem]
  obtain ⟨hl, he⟩ := List.getElem?_eq_some_iff.1 hn
  refine ⟨by simpa using hl, ?_, fun j hj => ?_⟩
  · simp [he, ent]
  · have hj' : j < L.length := by omega
    simp only [List.getElem_map, ent]
    simp only [Bool.not_eq_true, beq_eq_false_iff_ne]
    intro e
    have := pair_inj (f := fun (x : α × Value × Nat) => x.2.2) hs (List.getElem?_eq_getElem hj') hn (by have := Int.ofNat.inj e; simpa using this)
    omega
def aentry [DecidableEq α] (a : α) (z : Value) (L : TE α) (clk : Nat) : TE α := if (aget a L).isSome then L else L ++ [(a, z, clk)]
theorem ents_same {L : TE α} {n : Nat} {a : α} {u : Value} {b : Nat} (hn : L[n]? = some (a, u, b)) {f : MapEntry → MapEntry} (hf : f ⟨κ a, u, b⟩ = ⟨κ a, u, b⟩) : (ents (tents κ L)).modify n f = ents (tents κ L) := by
  apply Array.toList_inj.1
  rw [Array.toList_modify]
  unfold ents tents
  simp only [List.map_map]
  apply List.ext_getElem?
  intro j
  rw [List.getElem?_modify, List.getElem?_map]
  cases hj : L[j]? with
  | none => rfl
  | some e =>
    simp only [Option.map_some, Function.comp_apply]
    by_cases h : n = j
    · subst h
      rw [hn] at hj
      simp only [Option.some.injEq] at hj
      subst hj
      simp [ent, hf]
    · simp [h]
theorem entry_spec [DecidableEq α] {L : TE α} {clk : Nat} (h : MapOk L clk) (a : α) (z v : Value) : ∃ (n : Nat) (u : Value), (aentry a z L clk)[n]? = some (a, u, astamp a L clk) ∧ (aentry a z L clk).Pairwise (fun a b => a.1 ≠ b.1) ∧ (aentry a z L clk).Pairwise (fun a b => a.2.2 ≠ b.2.2) ∧
    (aentry a z L clk).map (fun e => if a = e.1 then (a, v, e.2.2) else e) = aput a v L clk := by
  unfold aentry aput astamp
  cases hf : L.find? (fun e => decide (a = e.1)) with
  | some e =>
    have hs : (aget a L).isSome = true := by unfold aget; rw [hf]; rfl
    obtain ⟨n, hn⟩ := List.mem_iff_getElem?.1 (List.mem_of_find?_eq_some hf)
    rw [if_pos hs, if_pos hs]
    have := find_key hf
    exact ⟨n, e.2.1, by rw [hn]; simp [this], h.keys, h.stamps, rfl⟩
  | none =>
    have hs : ¬ (aget a L).isSome = true := by unfold aget; rw [hf]; simp
    rw [if_neg hs, if_neg hs]
    have hnk : ∀ e ∈ L, ¬ a = e.1 := fun e he => by simpa using List.find?_eq_none.1 hf e he
    refine ⟨L.length, z, by simp, ?_, ?_, ?_⟩
    · exact List.pairwise_append.2 ⟨h.keys, by simp, fun x hx y hy => by simp at hy; subst hy; exact fun e => hnk x hx e.symm⟩
    · exact List.pairwise_append.2 ⟨h.stamps, by simp, fun x hx y hy => by simp at hy; subst hy; have := h.lt x hx; simp only []; omega⟩
    · rw [List.map_append]
      congr 1
      · conv => rhs; rw [← List.map_id L]
        exact List.map_congr_left (fun e he => if_neg (hnk e he))
      · simp
end
section
variable {α : Type} {κ : α → Value} {P : Program} {ops : Array Oper} {Q : Exit → Act → World → Prop} {nt : Sh} {w0 : World} {X : List Nat} {fr : Fr} {M : List Seg} {rest : List Oper}
variable {dst : Option Nat} {t ty : TypeId} {pos : String} {af : Array Edge} {gd : Option (Nat × Bool)} {x y s : Operand}
theorem run_keyStays {k : Value} {kt : TypeId} (h : KeyGood P kt k) (w : World) : (Instr.keyThatStays k k).run P w = .ok k w := by
  simp [Instr.keyThatStays, h.self]
theorem res_obj {w : World} {g : Nat} {o o' : Obj} (hb : w.heap[g]? = some o) : Res w [g] { w with heap := w.heap.setIfInBounds g o' } [[(g, o')]] := by
  obtain ⟨hl, _⟩ := Array.getElem?_eq_some_iff.1 hb
  exact res_store hb (fun i hi => by simp [Array.getElem?_setIfInBounds, Ne.symm hi]) (by simp [Array.getElem?_setIfInBounds, hl]) (by simp) rfl rfl rfl
/-- m[k]: its entry, there from now on -/
theorem wl_mentry [DecidableEq α] (i : Nat) {d : Nat} {kt e : TypeId} {g clk : Nat} {L : TE α} {a : α} {z : Value} (ht : mapT P t = some (kt, e)) (hz : zeroV P e = some z) (hx : ev fr x = some (.map (some g))) (hy : ev fr y = some (κ a)) (hi : M[i]? = some [(g, .map (ents (tents κ L)) clk)])
    (hκ : ∀ a b, keyEq (κ a) (κ b) = decide (a = b)) (hg : KeyGood P kt (κ a)) (hk : ∀ b, KeyOk P kt (κ a) (κ b)) (hd : Nat.blt d nt.n = true)
    (h : WX .seq P ops Q nt w0 X rest ((d, .tuple #[(aget a L).getD z, .int .i64 (astamp a L clk : Nat)]) :: fr) (M.set i [(g, .map (ents (tents κ (aentry a z L clk))) (aclk a L clk))])) :
    WX .seq P ops Q nt w0 X (⟨some d, .mapEntry t x y, ty, pos, af, none⟩ :: rest) fr M :=
  wl_step rfl hd fun c w hs hr => by
    obtain ⟨hu, dk, hdk⟩ := mapT_spec ht
    have hb := hr.blk hi (j := 0) rfl
    have hf := run_findKey hdk (l := tents κ L) (k := κ a) (fun e he => by
      obtain ⟨e', _, rfl⟩ := List.mem_map.1 he
      exact hk e'.1) w
    have hzz := run_zeroV hz w
    have hgo : (getObj g).run P w = .ok (.map (ents (tents κ L)) clk) w := run_getObj_map hb
    refine ⟨_, { w with heap := w.heap.setIfInBounds g (.map (ents (tents κ (aentry a z L clk))) (aclk a L clk)) }, _, ?_, hr.turnAt hi (res_obj hb), h⟩
    have hto : (ents (tents κ L)).toList = (tents κ L).map ent := by simp [ents]
    simp only [execOp, hs.ev hx, hs.ev hy, Instr.mapEntry]
    rcases mlook_t hκ a L 0 with ⟨h1, h2⟩ | ⟨n, v, b, h1, h2, h3⟩
    · have hn : aget a L = none := by unfold aget; rw [h2]; rfl
      have e1 : aentry a z L clk = L ++ [(a, z, clk)] := by unfold aentry; rw [hn]; rfl
      have e2 : aclk a L clk = clk + 1 := by unfold aclk; rw [hn]; rfl
      have e3 : astamp a L clk = clk := by unfold astamp; rw [h2]; rfl
      have hso := run_setObj_map (P := P) (es' := (ents (tents κ L)).push ⟨κ a, z, clk⟩) (clk' := clk + 1) hb
      rw [e1, e2, e3, ← ents_push, hn]
      simp [run_underlying hu, hgo, hg.check, hto, hf, h1, hzz, hso, goInt]
    · have hn : aget a L = some v := by unfold aget; rw [h3]; rfl
      have e1 : aentry a z L clk = L := by unfold aentry; rw [hn]; rfl
      have e2 : aclk a L clk = clk := by unfold aclk; rw [hn]; rfl
      have e3 : astamp a L clk = b := by unfold astamp; rw [h3]; rfl
      have hat : (ents (tents κ L))[n]? = some ⟨κ a, v, b⟩ := by simp [ents, tents, h2, ent]
      have hm := ents_same (κ := κ) h2 (f := fun e => { e with key := κ a }) rfl
      have hso := run_setObj_map (P := P) (es' := ents (tents κ L)) (clk' := clk) hb
      rw [e1, e2, e3, hn]
      simp [run_underlying hu, hgo, hg.check, hto, hf, h1, hzz, hat, run_keyStays hg, hm, hso, goInt]
/-- .. and its value written -/
theorem wl_mstore [DecidableEq α] (i : Nat) {g clk : Nat} {L : TE α} {a : α} {z v : Value} (hok : MapOk L clk) (hx : ev fr x = some (.map (some g))) (hs : ev fr s = some (.int .i64 (astamp a L clk : Nat))) (hy : ev fr y = some v) (hi : M[i]? = some [(g, .map (ents (tents κ (aentry a z L clk))) (aclk a L clk))])
    (hκ : ∀ a b, keyEq (κ a) (κ b) = decide (a = b)) (h : WX .seq P ops Q nt w0 X rest fr (M.set i [(g, .map (ents (tents κ (aput a v L clk))) (aclk a L clk))])) :
    WX .seq P ops Q nt w0 X (⟨none, .entryStore t x s y, ty, pos, af, none⟩ :: rest) fr M :=
  wl_step_skip rfl rfl fun c w hst hr => by
    have hb := hr.blk hi (j := 0) rfl
    have hgo := run_getObj_map (P := P) hb
    obtain ⟨n, u, h1, h2, h3, h4⟩ := entry_spec hok a z v
    have hix := findIdx_stamp (κ := κ) h3 h1
    have hm := ents_modify (κ := κ) hκ h2 h1 (v := v) (f := fun e => { e with val := v }) rfl
    rw [h4] at hm
    have hso := run_setObj_map (P := P) (es' := ents (tents κ (aput a v L clk))) (clk' := aclk a L clk) hb
    refine ⟨{ w with heap := w.heap.setIfInBounds g (.map (ents (tents κ (aput a v L clk))) (aclk a L clk)) }, _, ?_, hr.turnAt hi (res_obj hb), h⟩
    simp [execOp, hst.ev hx, hst.ev hs, hst.ev hy, Instr.entryStore, hgo, asInt, asIntOf, hix, hm, hso]
/-- m[k] = v -/
theorem wl_mput [DecidableEq α] (i : Nat) {kt e : TypeId} {g clk : Nat} {L : TE α} {a : α} {v : Value} (ht : mapT P t = some (kt, e)) (hok : MapOk L clk) (hx : ev fr x = some (.map (some g))) (hs : ev fr s = some (κ a)) (hy : ev fr y = some v) (hi : M[i]? = some [(g, .map (ents (tents κ L)) clk)])
    (hκ : ∀ a b, keyEq (κ a) (κ b) = decide (a = b)) (hg : KeyGood P kt (κ a)) (hk : ∀ b, KeyOk P kt (κ a) (κ b)) (h : WX .seq P ops Q nt w0 X rest fr (M.set i [(g, .map (ents (tents κ (aput a v L clk))) (aclk a L clk))])) :
    WX .seq P ops Q nt w0 X (⟨none, .mapUpdate t x s y, ty, pos, af, none⟩ :: rest) fr M :=
  wl_step_skip rfl rfl fun c w hst hr => by
    obtain ⟨hu, dk, hdk⟩ := mapT_spec ht
    have hb := hr.blk hi (j := 0) rfl
    have hf := run_findKey hdk (l := tents κ L) (k := κ a) (fun e he => by
      obtain ⟨e', _, rfl⟩ := List.mem_map.1 he
      exact hk e'.1) w
    have hgo : (getObj g).run P w = .ok (.map (ents (tents κ L)) clk) w := run_getObj_map hb
    refine ⟨{ w with heap := w.heap.setIfInBounds g (.map (ents (tents κ (aput a v L clk))) (aclk a L clk)) }, _, ?_, hr.turnAt hi (res_obj hb), h⟩
    have hto : (ents (tents κ L)).toList = (tents κ L).map ent := by simp [ents]
    simp only [execOp, hst.ev hx, hst.ev hs, hst.ev hy, Instr.mapUpdate]
    rcases mlook_t hκ a L 0 with ⟨h1, h2⟩ | ⟨n, u, b, h1, h2, h3⟩
    · have hn : aget a L = none := by unfold aget; rw [h2]; rfl
      have e1 : aput a v L clk = L ++ [(a, v, clk)] := by unfold aput; rw [hn]; rfl
      have e2 : aclk a L clk = clk + 1 := by unfold aclk; rw [hn]; rfl
      have hso := run_setObj_map (P := P) (es' := (ents (tents κ L)).push ⟨κ a, v, clk⟩) (clk' := clk + 1) hb
      rw [e1, e2, ← ents_push]
      simp [run_underlying hu, hgo, hg.check, hto, hf, h1, hso]
    · have hn : aget a L = some u := by unfold aget; rw [h3]; rfl
      have e1 : aput a v L clk = L.map (fun e => if a = e.1 then (a, v, e.2.2) else e) := by unfold aput; rw [hn]; rfl
      have e2 : aclk a L clk = clk := by unfold aclk; rw [hn]; rfl
      have hat : (ents (tents κ L))[n]? = some ⟨κ a, u, b⟩ := by simp [ents, tents, h2, ent]
      have hm := ents_modify (κ := κ) hκ hok.keys h2 (v := v) (f := fun e => { e with key := κ a, val := v }) rfl
      have hso := run_setObj_map (P := P) (es' := ents (tents κ (aput a v L clk))) (clk' := clk) hb
      rw [e1] at hso
      rw [e1, e2]
      simp [run_underlying hu, hgo, hg.check, hto, hf, h1, hat, run_keyStays hg, hm, hso]
theorem v_aget [DecidableEq α] (i j : Nat) {kt e : TypeId} {g clk : Nat} {E : Seg} {L : TE α} {a : α} {z : Value} (ht : mapT P t = some (kt, e)) (hz : zeroV P e = some z) (hx : ev fr x = some (.map (some g))) (hy : ev fr y = some (κ a)) (hi : M[i]? = some E) (hj : E[j]? = some (g, .map (ents (tents κ L)) clk)) (hκ : ∀ a b, keyEq (κ a) (κ b) = decide (a = b)) (hg : KeyGood P kt (κ a)) (hk : ∀ b, KeyOk P kt (κ a) (κ b)) :
    Val P nt w0 X fr M ⟨dst, .lookup t x y false, ty, pos, af, gd⟩ ((aget a L).getD z) := by
  rw [← mget_t hκ]
  exact v_mlook i j ht hz hx hy hi hj hg (fun e he => by
    obtain ⟨e', _, rfl⟩ := List.mem_map.1 he
    exact hk e'.1)
end
/-! ### keys: strings, and structs of scalars -/
section
variable {P : Program}
theorem beq_bytes (s r : ByteArray) : (s == r) = decide (s = r) := by rw [beq_toListBytes, toList_beq]
theorem check_string {kt : TypeId} (h : P.underlying kt = some .string) (b : Bool) (n : Nat) (s : ByteArray) (w : World) : (Instr.checkKey b (n + 1) kt (.string s)).run P w = .ok () w := by
  simp [Instr.checkKey, run_underlying h]
theorem good_string {kt : TypeId} (h : P.underlying kt = some .string) (s : ByteArray) : KeyGood P kt (.string s) :=
  ⟨fun b w => check_string h b 9999 s w, by simp [Instr.sameBits, beq_bytes]⟩
theorem ok_string {kt : TypeId} (h : P.underlying kt = some .string) (s r : ByteArray) : KeyOk P kt (.string s) (.string r) :=
  ⟨fun w => run_equalIn_scal 9999 h (by simp [kindV]), fun d hd => by
    rw [h] at hd; cases hd
    refine .inr ?_
    simp only [Instr.sameNow, keyEq, eqV, beq_bytes], fun e => by simpa [keyEq, eqV] using e⟩
theorem key_string (a b : ByteArray) : keyEq (.string a) (.string b) = decide (a = b) := by simp [keyEq, eqV]
/-- two ints -/
def pairKey (p : Int × Int) : Value := .agg [.int .i64 p.1, .int .i64 p.2].toArray
theorem key_pair (a b : Int × Int) : keyEq (pairKey a) (pairKey b) = decide (a = b) := by
  simp [keyEq, pairKey, eqL, eqV, Prod.ext_iff]
theorem ok_pair {kt : TypeId} {fs : Array Field} (h : P.underlying kt = some (.struct fs)) (hs : ∀ a b : Int × Int, scalS P kt [.int .i64 a.1, .int .i64 a.2] [.int .i64 b.1, .int .i64 b.2] = true) (a b : Int × Int) : KeyOk P kt (pairKey a) (pairKey b) :=
  ⟨fun w => by
    have := (run_equal_scalS (P := P) (w := w) (hs a b)).1
    exact this, fun d hd => by
    rw [h] at hd; cases hd
    exact .inl rfl, fun e => by rw [key_pair] at e; rw [of_decide_eq_true e]⟩
theorem good_pair {kt : TypeId} {f1 f2 : Field} (h : P.underlying kt = some (.struct #[f1, f2])) (h1 : P.underlying f1.type = some (.int .i64)) (h2 : P.underlying f2.type = some (.int .i64)) (o1 : f1.offset = 0) (o2 : f2.offset = 1) (p : Int × Int) : KeyGood P kt (pairKey p) := by
  refine ⟨fun b w => ?_, by simp [Instr.sameBits, pairKey]⟩
  have g : ∀ (n : Nat) (t : TypeId) (v : Value), P.underlying t = some (.int .i64) → (Instr.checkKey b (n + 1) t v).run P w = .ok () w := fun n t v ht => by
    simp [Instr.checkKey, run_underlying ht]
  have key : ∀ n, (Instr.checkKey b (n + 2) kt (pairKey p)).run P w = .ok () w := fun n => by
    rw [Instr.checkKey]
    have p1 := run_part_scalar (P := P) (w := w) (o := f1.offset) (v := .int .i64 p.1) h1 (show plainT (.int .i64) = true from rfl) (cs := [.int .i64 p.1, .int .i64 p.2]) (by rw [o1]; rfl)
    have p2 := run_part_scalar (P := P) (w := w) (o := f2.offset) (v := .int .i64 p.2) h2 (show plainT (.int .i64) = true from rfl) (cs := [.int .i64 p.1, .int .i64 p.2]) (by rw [o2]; rfl)
    have c1 := g n f1.type (.int .i64 p.1) h1
    have c2 := g n f2.type (.int .i64 p.2) h2
    simp only [pairKey]
    by_cases n1 : f1.name = "_" <;> by_cases n2 : f2.name = "_" <;> simp [run_underlying h, p1, p2, c1, c2, n1, n2]
  exact key 9998
end
end Go.Proofs.Ytknnkgoehkohaaa
