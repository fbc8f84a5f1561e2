/- A made slice beside a call's own memory; sums of fields. -/
import Derived.Test.YtknnkgoehkohaaaKitR
set_option linter.unusedVariables false
set_option linter.unusedSimpArgs false
namespace Go.Proofs.Ytknnkgoehkohaaa
open Go
/-- a made slice that is not handed on, while the segments before it are -/
theorem Buf.vwR {e sz n c : Nat} {A : Option Addr} {xs : List Value} {E : Seg} (h : Buf e sz A n c xs E) {w0 w : World} {X : List Nat} {M L : List Seg} (hr : Res w0 X w (M ++ L)) {i : Nat} (hi : L[i]? = some E) : Vw (ids M) w A xs := fun hx => by
  have hE : E ∈ M ++ L := List.mem_append.2 (.inr (List.mem_of_getElem? hi))
  obtain ⟨g, rfl, hg, hc⟩ := h.cells (fun p hp => hr.own.at_ p (List.mem_flatten.2 ⟨E, hE, hp⟩)) hx
  refine ⟨g, 0, rfl, fun hm => ?_, fun j u hj => by rw [Nat.zero_add]; exact hc j u hj⟩
  have hn := hr.own.nd
  rw [ids_append, List.nodup_append] at hn
  have hgL : g ∈ ids L := by
    obtain ⟨p, hp, rfl⟩ := List.mem_map.1 hg
    exact List.mem_map.2 ⟨p, List.mem_flatten.2 ⟨E, List.mem_of_getElem? hi, hp⟩, rfl⟩
  exact hn.2.2 g hm g hgL rfl
theorem Buf.byteAt {e g n c : Nat} {l : List UInt8} {E : Seg} (h : Buf e 1 (some ⟨g, 0, none⟩) n c (bys l) E) {w0 w : World} {X : List Nat} {M : List Seg} {k j : Nat} (hr : Res w0 X w M) (hk : M[k]? = some E) (hj : j < l.length) : w.cell? ⟨g, j, none⟩ = some (.int .u8 (l.getD j 0).toNat) :=
  h.cellAt hr hk (by simp [bys, List.getD_eq_getElem?_getD, hj])
end Go.Proofs.Ytknnkgoehkohaaa
