/- for k, v := range m over a map of one's own that the loop does not turn. -/
import Derived.Test.YtjeghbachokljaaSpM
import Derived.Maps.RangeRun
set_option linter.unusedVariables false
set_option linter.unusedSimpArgs false
namespace Go.Proofs.Ytjeghbachokljaa
open Go
set_option maxRecDepth 20000
abbrev itB (r g clk : Nat) (D : TE ByteArray) : Seg := [(r, .mapIter (some g) clk (D.map (·.2.2)).toArray clk)]
section
variable {P : Program} {ops : Array Oper} {Q : Exit → Act → World → Prop} {nt : Sh} {w0 : World} {X : List Nat} {fr : Fr} {M : List Seg} {rest : List Oper} {ty : TypeId} {pos : String} {af : Array Edge} {t : TypeId} {x : Operand}
theorem take_blk {w : World} {g : Nat} {o : Obj} {R : List Seg} [T : Take [(g, o)] M R] (hr : Res w0 X w M) : w.heap[g]? = some o := by
  obtain ⟨i, hi⟩ := List.mem_iff_getElem?.1 (T.perm.mem_iff.2 (List.mem_cons_self ..))
  exact hr.blk hi (j := 0) rfl
theorem wl_range {d : Nat} {kt e : TypeId} {g clk : Nat} {L : TE ByteArray} {R : List Seg} [T : Take (mpB g L clk) M R] (ht : mapT P t = some (kt, e)) (hx : ev fr x = some (.map (some g))) (hd : Nat.blt d nt.n = true)
    (h : ∀ r, WX .seq P ops Q nt w0 X rest ((d, .pointer (some ⟨r, 0, none⟩)) :: fr) (itB r g clk [] :: M)) :
    WX .seq P ops Q nt w0 X (⟨some d, .range t x, ty, pos, af, none⟩ :: rest) fr M :=
  wl_step rfl hd fun c w hs hr => by
    have hb := take_blk (T := T) hr
    have hu := (mapT_spec ht).1
    refine ⟨_, w.alloc (.mapIter (some g) clk #[] clk), _, ?_, hr.new _ rfl rfl rfl rfl, h _⟩
    simp [execOp, hs.ev hx, run_range_map w t kt e g _ clk hu hb]
theorem stamp_inj : ∀ {L : TE ByteArray}, L.Pairwise (fun a b => a.2.2 ≠ b.2.2) → ∀ {a b : ByteArray × Value × Nat}, a ∈ L → b ∈ L → a.2.2 = b.2.2 → a = b
  | [], _, a, b, ha, _, _ => by cases ha
  | y :: l, hp, a, b, ha, hb, e => by
    obtain ⟨p1, p2⟩ := List.pairwise_cons.1 hp
    rcases List.mem_cons.1 ha with h1 | h1
    · rcases List.mem_cons.1 hb with h2 | h2
      · rw [h1, h2]
      · rw [h1] at e
        exact absurd e (p1 b h2)
    · rcases List.mem_cons.1 hb with h2 | h2
      · rw [h2] at e
        exact absurd e.symm (p1 a h1)
      · exact stamp_inj p2 h1 h2 e
theorem mem_ents {L : TE ByteArray} (y : MapEntry) : y ∈ (ents (tents Value.string L)).toList ↔ ∃ e ∈ L, y = ent (.string e.1, e.2) := by
  simp only [ents, tents, List.map_map, List.mem_map]
  constructor
  · rintro ⟨e, he, rfl⟩; exact ⟨e, he, rfl⟩
  · rintro ⟨e, he, rfl⟩; exact ⟨e, he, rfl⟩
theorem v_entry {dst : Option Nat} {gd : Option (Nat × Bool)} {r g clk : Nat} {L D : TE ByteArray} {e : ByteArray × Value × Nat} {R R2 : List Seg} [T : Take (itB r g clk (D ++ [e])) M R] [T2 : Take (mpB g L clk) M R2] (hok : MapOk L clk) (he : e ∈ L) (hx : ev fr x = some (.pointer (some ⟨r, 0, none⟩))) :
    Val P nt w0 X fr M ⟨dst, .entry x, ty, pos, af, gd⟩ (.tuple #[.string e.1, e.2.1]) := fun c w hs hr => by
  have hi := take_blk (T := T) hr
  have hb := take_blk (T := T2) hr
  have hi2 : w.heap[r]? = some (.mapIter (some g) clk ((D.map (·.2.2)).toArray.push (ent (.string e.1, e.2)).born) clk) := by
    rw [hi]
    simp [ent]
  have hn : ((ents (tents Value.string L)).toList.map (·.born)).Nodup := by
    have : (ents (tents Value.string L)).toList.map (·.born) = L.map (·.2.2) := by simp [ents, tents, ent]
    rw [this]
    exact List.pairwise_map.2 hok.stamps
  have hrun := run_entry_at (P := P) w r g clk (D.map (·.2.2)).toArray _ clk _ hi2 hb ((mem_ents _).2 ⟨e, he, rfl⟩) hn
  simp [execOp, hs.ev hx, hrun, ent]
theorem wl_next {d : Nat} {r g clk : Nat} {L D : TE ByteArray} {R R2 : List Seg} [T : Take (itB r g clk D) M R] [T2 : Take (mpB g L clk) M R2] (hok : MapOk L clk) (hD : ∀ e ∈ D, e ∈ L) (hx : ev fr x = some (.pointer (some ⟨r, 0, none⟩))) (hd : Nat.blt d nt.n = true)
    (h0 : (∀ e ∈ L, e ∈ D) → WX .seq P ops Q nt w0 X rest ((d, .tuple #[.bool false]) :: fr) M)
    (h1 : ∀ e ∈ L, e ∉ D → WX .seq P ops Q nt w0 X rest ((d, .tuple #[.bool true, .string e.1, e.2.1]) :: fr) (itB r g clk (D ++ [e]) :: R)) :
    WX .seq P ops Q nt w0 X (⟨some d, .next x false, ty, pos, af, none⟩ :: rest) fr M :=
  wl_step rfl hd fun c w hs hr => by
    have hi := take_blk (T := T) hr
    have hb := take_blk (T := T2) hr
    have hmem := mem_ents (L := L)
    have hinj := fun a ha b hb => stamp_inj hok.stamps (a := a) (b := b) ha hb
    rcases run_next_at (P := P) w ty r g clk clk (D.map (·.2.2)).toArray (ents (tents Value.string L)) clk hi hb (fun y hy => by
      obtain ⟨e, he, rfl⟩ := (hmem y).1 hy
      exact hok.lt e he) (Nat.le_refl _) with ⟨hz, hrun⟩ | ⟨y, hy, w1, hw1, hrun⟩
    · refine ⟨_, w, M, by simp [execOp, hs.ev hx, hrun], hr, h0 fun e he => ?_⟩
      have := all_seen _ _ hz _ ((hmem _).2 ⟨e, he, rfl⟩)
      have h2 : e.2.2 ∈ D.map (·.2.2) := by simpa [ent] using this
      obtain ⟨e', h3, h4⟩ := List.mem_map.1 h2
      rw [← hinj e' (hD e' h3) e he h4]
      exact h3
    · obtain ⟨h2, h3⟩ := mem_left hy
      obtain ⟨e, he, rfl⟩ := (hmem y).1 h2
      have hne : e ∉ D := fun hm => by
        have : e.2.2 ∈ D.map (·.2.2) := List.mem_map.2 ⟨e, hm, rfl⟩
        have h4 : ¬ e.2.2 ∈ D.map (·.2.2) := by simpa [ent] using h3
        exact h4 this
      have hr1 : Res w0 X w1 M := by
        rcases hw1 with rfl | rfl
        · exact hr
        · exact hr.drew _
      have hi1 := take_blk (T := T) hr1
      have h5 := (hr1.perm T.perm).turn (res_obj (o' := .mapIter (some g) clk ((D ++ [e]).map (·.2.2)).toArray clk) hi1)
      have h6 : Res w0 X (ChangeMaps.setBlock w1 r (.mapIter (some g) clk ((D ++ [e]).map (·.2.2)).toArray clk)) (itB r g clk (D ++ [e]) :: R) := h5
      refine ⟨_, _, _, ?_, h6, h1 e he hne⟩
      simp [execOp, hs.ev hx, hrun, ent]
end
end Go.Proofs.Ytjeghbachokljaa
