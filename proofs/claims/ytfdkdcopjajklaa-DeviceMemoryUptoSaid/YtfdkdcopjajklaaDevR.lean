/- What a device law may read of its setup and script. -/
import Derived.Test.YtfdkdcopjajklaaDevT
set_option linter.unusedVariables false
set_option linter.unusedSimpArgs false
namespace Go.Proofs.Ytfdkdcopjajklaa
open Go
abbrev setB (g : Nat) (s : SetW) : Seg := [(g, .cells s.cells.toArray 41 (0, 0))]
structure SetW.Rd (w : World) (s : SetW) : Prop where
  inp : Vw [] w s.inp.A (bys s.inp.xs)
  img : Vw [] w s.img.A (bys s.img.xs)
  fl : Vw [] w s.fl.A (s.fl.xs.flatMap FaultW.cells)
  li : s.inp.xs.length ≤ 1048576
  lm : s.img.xs.length ≤ 1048576
  lf : s.fl.xs.length ≤ 1048576
  ci : s.inp.xs.length ≤ s.inp.c
  cm : s.img.xs.length ≤ s.img.c
  cf : s.fl.xs.length ≤ s.fl.c
structure StpW.Rd (w : World) (o : StpW) : Prop where
  data : Vw [] w o.data.A (bys o.data.xs)
  len : o.data.xs.length ≤ 1048576
  cap : o.data.xs.length ≤ o.data.c
theorem mem_size {α : Type} (sz : α → Nat) : ∀ {l : List α} {x : α}, x ∈ l → sz x ≤ (l.map sz).sum
  | y :: r, x, h => by
    simp only [List.map_cons, List.sum_cons]
    rcases List.mem_cons.1 h with rfl | h
    · omega
    · have := mem_size sz h; omega
theorem SetW.Ok.rd {W : World} {s : SetW} (h : s.Ok W) (hs : s.sz ≤ 1048576) : s.Rd W := by
  obtain ⟨⟨c1, _, v1, _⟩, ⟨c2, _, v2, _⟩, ⟨c3, _, v3, _⟩⟩ := h
  unfold SetW.sz at hs
  exact ⟨bys_flat _ ▸ v1, bys_flat _ ▸ v2, v3, by omega, by omega, by omega, c1, c2, c3⟩
theorem stps_rd {W : World} {l : LstV StpW} (h : ∀ o ∈ l.xs, StpW.Ok W o) (hs : LstV.size StpW.sz l ≤ 1048576) : ∀ o ∈ l.xs, o.Rd W := fun o ho => by
  obtain ⟨c1, _, v1, _⟩ := h o ho
  have := mem_size StpW.sz ho
  simp only [LstV.size] at hs
  have h2 : o.data.xs.length + 3 ≤ 1048576 := Nat.le_trans this (by omega)
  exact ⟨bys_flat _ ▸ v1, by omega, c1⟩
end Go.Proofs.Ytfdkdcopjajklaa
