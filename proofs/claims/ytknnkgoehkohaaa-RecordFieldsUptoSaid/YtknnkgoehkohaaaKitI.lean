/- The seat's own logic: whole structs and arrays loaded and stored. -/
import Derived.Test.YtknnkgoehkohaaaKitH
import Derived.Laws.Cells
set_option linter.unusedVariables false
set_option linter.unusedSimpArgs false
namespace Go.Proofs.Ytknnkgoehkohaaa
open Go
section
variable {P : Program} {ops : Array Oper} {Q : Exit → Act → World → Prop} {nt : Sh} {w0 : World} {X : List Nat} {fr : Fr} {M : List Seg} {rest : List Oper}
variable {dst : Option Nat} {t ty : TypeId} {pos : String} {af : Array Edge} {gd : Option (Nat × Bool)} {x y : Operand}
/-- a type whose values are rows of cells, and how many -/
def aggN (P : Program) (t : TypeId) : Option Nat := match P.underlying t, P.info? t with
  | some (.struct _), some ti => some ti.size
  | some (.array _ _), some ti => some ti.size
  | _, _ => none
theorem aggN_spec {n : Nat} (h : aggN P t = some n) : (∀ w, (isAgg t).run P w = .ok true w) ∧ (∀ w, (sizeOf t).run P w = .ok n w) := by
  unfold aggN at h
  split at h
  · rename_i du ti hu hi
    have e : ti.size = n := Option.some.inj h
    subst e
    exact ⟨fun w => by simp [isAgg, run_underlying hu], fun w => by simp [sizeOf, typeInfo, hi]⟩
  · rename_i du ti hu hi
    have e : ti.size = n := Option.some.inj h
    subst e
    exact ⟨fun w => by simp [isAgg, run_underlying hu], fun w => by simp [sizeOf, typeInfo, hi]⟩
  · cases h
theorem v_loadA {bk off : Nat} {cs : List Value} (hn : aggN P t = some cs.length) (hx : ev fr x = some (.pointer (some ⟨bk, off, none⟩))) (hc : ∀ w, Res w0 X w M → ∀ j v, cs[j]? = some v → w.cell? ⟨bk, off + j, none⟩ = some v) :
    Val P nt w0 X fr M ⟨dst, .load t x, ty, pos, af, gd⟩ (.agg cs.toArray) := fun c w hs hr => by
  obtain ⟨h1, h2⟩ := aggN_spec hn
  have h3 := run_loadCells_list (P := P) w ⟨bk, off, none⟩ cs (fun j v hj => by rw [add_plain]; exact hc w hr j v hj)
  simp [execOp, hs.ev hx, Instr.loadAt, Instr.sureAddr, loadVar, h1, h2, h3]
theorem wl_storeA (i : Nat) {g off : Nat} {cs : List Value} {et : TypeId} {fz : Nat × Nat} {vs : List Value} (hn : aggN P t = some vs.length) (hx : ev fr x = some (.pointer (some ⟨g, off, none⟩))) (hy : ev fr y = some (.agg vs.toArray)) (hi : M[i]? = some [(g, .cells cs.toArray et fz)])
    (hl : off + vs.length ≤ cs.length) (hz : okF fz cs.length) (h1 : ∀ v, v ∈ vs → v.oneCell' = true) (h : WX .seq P ops Q nt w0 X rest fr (M.set i [(g, .cells (spliced cs off vs).toArray et fz)])) :
    WX .seq P ops Q nt w0 X (⟨none, .store t x y, ty, pos, af, none⟩ :: rest) fr M :=
  wl_step_skip rfl rfl fun c w hs hr => by
    obtain ⟨h2, h3⟩ := aggN_spec hn
    have hb := hr.blk hi (j := 0) rfl
    have hst := run_storeCells_cells (P := P) g off vs 0 w (fun j hj => by
        simp only [World.cell?, hb]
        have : off + j < cs.length := by omega
        simp [this]) (fun j hj => by
        have : off + j < cs.length := by omega
        exact okF.frozen (by simpa using hz) hb (by simpa using this)) h1
    refine ⟨w.setCells g off vs, _, ?_, hr.turnAt hi (res_setCells hb (vs := vs) (o := off) (by simpa using hl)), h⟩
    simp [execOp, hs.ev hx, hs.ev hy, Instr.storeAt, Instr.sureAddr, storeVar, h3, Value.cells, hst]
end
theorem flat_get {α : Type} (f : α → List Value) {k : Nat} (hk : 0 < k) (hf : ∀ a, (f a).length = k) : ∀ (xs : List α) (j : Nat), (xs.flatMap f)[j]? = (xs[j / k]?).bind fun a => (f a)[j % k]?
  | [], j => by simp
  | x :: r, j => by
    rw [List.flatMap_cons, List.getElem?_append, hf]
    by_cases h : j < k
    · rw [if_pos h, Nat.div_eq_of_lt h, Nat.mod_eq_of_lt h]; simp
    · rw [if_neg h, flat_get f hk hf r (j - k)]
      have h1 : j / k = (j - k) / k + 1 := by rw [Nat.div_eq j k, if_pos ⟨hk, by omega⟩]
      have h2 : j % k = (j - k) % k := by rw [Nat.mod_eq j k, if_pos ⟨hk, by omega⟩]
      rw [h1, h2]; simp
/-- the cells of one value of a list that lies in the caller's memory -/
theorem cells_at {α : Type} {f : α → List Value} {k : Nat} (hk : 0 < k) (hf : ∀ a, (f a).length = k) {w : World} {A : Option Addr} {xs : List α} (h : Vw [] w A (xs.flatMap f)) {i : Nat} {a : α} (hi : xs[i]? = some a) :
    ∃ g o, A = some ⟨g, o, none⟩ ∧ ∀ (i : Nat) (a : α), xs[i]? = some a → ∀ {w' : World} {M : List Seg}, Res w [] w' M → ∀ j v, (f a)[j]? = some v → w'.cell? ⟨g, o + i * k + j, none⟩ = some v := by
  have key : ∀ (i : Nat) (a : α), xs[i]? = some a → ∀ j v, (f a)[j]? = some v → (xs.flatMap f)[i * k + j]? = some v := fun i a hi j v hj => by
    have hjk : j < k := by
      have := (List.getElem?_eq_some_iff.1 hj).1
      rw [hf] at this; exact this
    rw [flat_get f hk hf, Nat.mul_comm, Nat.mul_add_div hk, Nat.div_eq_of_lt hjk, Nat.add_zero, hi, Nat.mul_add_mod, Nat.mod_eq_of_lt hjk]
    exact hj
  have hne : xs.flatMap f ≠ [] := by
    intro e
    obtain ⟨v, hv⟩ : ∃ v, (f a)[0]? = some v := ⟨(f a)[0]'(by rw [hf]; exact hk), List.getElem?_eq_getElem _⟩
    have := key i a hi 0 v hv
    rw [e] at this; simp at this
  obtain ⟨g, o, rfl, hg, hc⟩ := h hne
  refine ⟨g, o, rfl, fun i a hi w' M hr j v hj => ?_⟩
  rw [Nat.add_assoc]
  exact cell_keep hr hg (hc _ _ (key i a hi j v hj))
end Go.Proofs.Ytknnkgoehkohaaa
