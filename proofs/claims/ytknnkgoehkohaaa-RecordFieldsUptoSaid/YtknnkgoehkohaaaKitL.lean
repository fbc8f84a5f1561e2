/- From what the form hands over to what the walks ask, and back. -/
import Derived.Test.YtknnkgoehkohaaaKitG
import Derived.Carry
import Derived.ProofKit
import Derived.SizedLaws
import Derived.OpenShut
import Derived.ShutString
import Derived.WalkKit
import Derived.ChangeOld
import Derived.Below
set_option linter.unusedVariables false
set_option linter.unusedSimpArgs false
namespace Go.Proofs.Ytknnkgoehkohaaa
open Go Go.ChangeShapes Go.WideShapes Go.ChangeAt Go.RowKit
open Go.ChangeMaps (open_string shut_string)

theorem below_of_res {w w' : World} {M : List Seg} (h : Res w [] w' M) : Below w.heap.size w w' := ⟨h.os, h.tape, h.output, h.size, fun i hi => h.keep i hi (by simp)⟩
abbrev HoldsB (w : World) : Ending → World → Prop := Ret (β := Unit) w (ids []) (fun _ => .bool true) (fun _ => []) (fun _ => True)
theorem holds_end {w w' : World} {e : Ending} (h : HoldsB w e w') : e = .returned (.bool true) ∧ Below w.heap.size w w' := by
  obtain ⟨_, _, he, hr⟩ := h
  exact ⟨he, below_of_res hr⟩

variable {H : Type} {enc : TypeId × Value → H} {P : Program} {W : World} {base : Nat} {spare : Nat → Bool} {held : Bool}
theorem read_bytes {t e : TypeId} (ht : P.underlying t = some (.slice e)) (he : P.underlying e = some (.int .u8)) (hc : P.cellsOf e = 1) {A : Option Addr} {n c : Nat} {d : DataW H} {p : List MemPlace} (h : DataW.Trod enc P W base spare held t (.slice A n c) d p) :
    ∃ l : List UInt8, l.length = n ∧ n ≤ c ∧ c ≤ maxLen ∧ Vw [] W A (bys l) ∧ ((d = .nil ∧ n = 0) ∨ ∃ elems sp, d = .slice elems sp ∧ elems.length = n) := by
  obtain ⟨fuel, hf⟩ := h
  rcases open_ints ht he hc hf with ⟨hcs, hx⟩ | ⟨x, len, cap, zs, hcs, _, hl, hm, hz, hx, hcell, hwz⟩
  · simp [Value.cells] at hcs
    obtain ⟨rfl, rfl, rfl⟩ := hcs
    simp only [Prod.mk.injEq] at hx
    exact ⟨[], rfl, Nat.le_refl _, by simp [maxLen], Vw.nil, .inl ⟨hx.1, rfl⟩⟩
  · simp [Value.cells] at hcs
    obtain ⟨rfl, rfl, rfl⟩ := hcs
    simp only [Prod.mk.injEq] at hx
    have hzl : n ≤ zs.length := by rw [hz]; split <;> omega
    have hb : ∀ i, i < zs.length → 0 ≤ zs.getD i 0 ∧ zs.getD i 0 ≤ 255 := fun i hi => by
      have h1 := hwz (zs.getD i 0) (by rw [List.getD_eq_getElem?_getD, List.getElem?_eq_getElem hi]; exact List.getElem_mem hi)
      exact bounds_u8 h1
    refine ⟨(zs.take n).map fun z => UInt8.ofNat z.toNat, by simp; omega, hl, hm, fun hne => ?_, .inr ⟨_, _, hx.1, by simp [lits]; omega⟩⟩
    have hn : 0 < n := by
      rcases Nat.eq_zero_or_pos n with h0 | h0
      · subst h0; simp at hne
      · exact h0
    obtain ⟨g, o, sp⟩ := x
    have hsp : sp = none := by simpa [Addr.add] using World.cell?_spot (hcell 0 (by omega))
    subst hsp
    refine ⟨g, o, rfl, by simp, fun j u hj => ?_⟩
    have hjn : j < n := by
      have := (List.getElem?_eq_some_iff.1 hj).1
      simp at this; omega
    have h1 := hcell j (by omega)
    rw [add_plain] at h1
    rw [h1]
    have h2 := hb j (by omega)
    simp only [bys, List.map_map, List.getElem?_map, List.getElem?_take_of_lt hjn, Function.comp_def] at hj
    rw [List.getElem?_eq_getElem (show j < zs.length by omega)] at hj
    simp only [Option.map_some, Option.some.injEq] at hj
    rw [← hj]
    rw [List.getD_eq_getElem?_getD, List.getElem?_eq_getElem (show j < zs.length by omega)] at h2 ⊢
    simp only [Option.getD_some] at h2 ⊢
    have h3 : (UInt8.ofNat (zs[j].toNat)).toNat = zs[j].toNat := by simp; omega
    rw [h3, Int.toNat_of_nonneg h2.1]
theorem reach_slice {ts : List TypeId} {ds : List (DataW H)} (hsz : (DataW.weightsEach P ts ds).all (· ≤ reachBytes) = true) {j t e n bt : Nat} {d : DataW H} (ht : ts[j]? = some t) (hd : ds[j]? = some d) (hu : P.underlying t = some (.slice e)) (hb : P.bytesOf e = bt)
    (h : (d = .nil ∧ n = 0) ∨ ∃ elems sp, d = .slice elems sp ∧ elems.length = n) : n * bt ≤ 140737488351232 := by
  rcases h with ⟨_, rfl⟩ | ⟨elems, sp, rfl, rfl⟩
  · omega
  · have := sized_slice hsz ht hd hu
    rw [hb] at this
    have h1 : elems.length * bt ≤ (elems.length + sp.length) * bt := Nat.mul_le_mul_right _ (by omega)
    simp only [reachBytes] at this
    omega
theorem reach_string {ts : List TypeId} {ds : List (DataW H)} (hsz : (DataW.weightsEach P ts ds).all (· ≤ reachBytes) = true) {j t : Nat} {s : ByteArray} (ht : ts[j]? = some t) (hd : ds[j]? = some (.lit (.string s.data.toList))) : s.size ≤ 140737488351232 := by
  have := sized_string hsz ht hd
  simpa [reachBytes] using this
end Go.Proofs.Ytknnkgoehkohaaa
