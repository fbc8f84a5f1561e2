/- A fault of a read strikes just the one read of the one block that it names. -/
import Derived.Test.YtfdkdcopjajklaaDev6
set_option linter.unusedVariables false
set_option linter.unusedSimpArgs false
namespace Go.Proofs.Ytfdkdcopjajklaa
open Go
set_option maxRecDepth 20000
set_option maxHeartbeats 2000000
attribute [local irreducible] WX WC WQ Val VCall
def nthF (a nth : Int) : List FaultW := [⟨1, a, nth, 0⟩, ⟨2, a, nth, 0⟩]
theorem hit_nth (a nth r b k : Int) (hr : r = 1 ∨ r = 2) : (hitL (nthF a nth) r b k).isSome = decide (b = a ∧ k = nth) := by
  rw [Bool.eq_iff_iff]
  simp only [hitL, nthF, List.isSome_find?, List.any_cons, List.any_nil, Bool.or_false, Bool.or_eq_true, decide_eq_true_eq]
  simp only [FaultW.Hits]
  rcases hr with rfl | rfl
  · constructor
    · rintro (⟨_, h1, h2⟩ | ⟨h1, _⟩)
      · omega
      · omega
    · rintro ⟨h1, h2⟩
      exact .inl ⟨rfl, h2.symm, .inr h1.symm⟩
  · constructor
    · rintro (⟨h1, _⟩ | ⟨_, h1, h2⟩)
      · omega
      · omega
    · rintro ⟨h1, h2⟩
      exact .inr ⟨rfl, h2.symm, .inr h1.symm⟩
structure NInv (a nth : Int) (n1 n2 : Nat) (S : DevS) : Prop where
  fl : S.fl = nthF a nth
  blk : S.blk = 16
  sc : S.sc = 4
  inp : S.inp = List.replicate 64 0
  scr : S.scr = List.replicate 64 0
  down : S.down = false
  c1 : seenN S.seen (1, a) = n1
  c2 : seenN S.seen (2, a) = n2
  ns : S.ns = (if nth ≤ n1 then 1 else 0) + (if nth ≤ n2 then 1 else 0)
theorem NInv.nb {a nth : Int} {n1 n2 : Nat} {S : DevS} (h : NInv a nth n1 n2 S) : S.nb = 4 := by
  unfold DevS.nb
  rw [h.inp, h.blk]
  rfl
theorem readI_other {a nth : Int} {n1 n2 : Nat} {S : DevS} (h : NInv a nth n1 n2 S) {o : Int} (ho : o ≠ a) :
    ((0 ≤ o ∧ o < 4) → (S.readI o).2.1 = 0) ∧ NInv a nth n1 n2 (S.readI o).2.2 ∧ (S.readI o).2.2.ops ≤ S.ops + 1 := by
  unfold DevS.readI
  rw [if_neg (by simp [h.down])]
  split
  · rename_i hb
    exact ⟨fun hh => by rw [h.nb] at hb; omega, h, Nat.le_succ _⟩
  · dsimp only
    have hh : ({ S with ni := S.ni + 1, ops := S.ops + 1 } : DevS).rdHit 1 o = none := by
      have := hit_nth a nth 1 o ((seenN S.seen (1, o) + 1 : Nat) : Int) (.inl rfl)
      rw [decide_eq_false (by simp [ho])] at this
      unfold DevS.rdHit
      rw [show ({ S with ni := S.ni + 1, ops := S.ops + 1 } : DevS).fl = nthF a nth from h.fl]
      exact Option.not_isSome_iff_eq_none.1 (by simpa using this)
    rw [hh, if_neg (by simp)]
    refine ⟨fun _ => rfl, ?_, Nat.le_refl _⟩
    obtain ⟨b1, b2, b3, b4, b5, b6, b7, b8, b9⟩ := h
    refine ⟨b1, b2, b3, b4, b5, b6, ?_, ?_, ?_⟩
    · show seenN (S.seen ++ [(1, o)]) (1, a) = n1
      rw [seenN_snoc, if_neg (by simp; exact fun e => ho e.symm), b7, Nat.add_zero]
    · show seenN (S.seen ++ [(1, o)]) (2, a) = n2
      rw [seenN_snoc, if_neg (by simp), b8, Nat.add_zero]
    · show S.ns + _ = _
      rw [hh, b9]; rfl
theorem readSc_other {a nth : Int} {n1 n2 : Nat} {S : DevS} (h : NInv a nth n1 n2 S) {o : Int} (ho : o ≠ a) :
    ((0 ≤ o ∧ o < 4) → (S.readSc o).2.1 = 0) ∧ NInv a nth n1 n2 (S.readSc o).2.2 ∧ (S.readSc o).2.2.ops ≤ S.ops + 1 := by
  unfold DevS.readSc
  rw [if_neg (by simp [h.down])]
  split
  · rename_i hb
    exact ⟨fun hh => by rw [h.sc] at hb; omega, h, Nat.le_succ _⟩
  · dsimp only
    have hh : ({ S with nr := S.nr + 1, ops := S.ops + 1 } : DevS).rdHit 2 o = none := by
      have := hit_nth a nth 2 o ((seenN S.seen (2, o) + 1 : Nat) : Int) (.inr rfl)
      rw [decide_eq_false (by simp [ho])] at this
      unfold DevS.rdHit
      rw [show ({ S with nr := S.nr + 1, ops := S.ops + 1 } : DevS).fl = nthF a nth from h.fl]
      exact Option.not_isSome_iff_eq_none.1 (by simpa using this)
    rw [hh, if_neg (by simp)]
    refine ⟨fun _ => rfl, ?_, Nat.le_refl _⟩
    obtain ⟨b1, b2, b3, b4, b5, b6, b7, b8, b9⟩ := h
    refine ⟨b1, b2, b3, b4, b5, b6, ?_, ?_, ?_⟩
    · show seenN (S.seen ++ [(2, o)]) (1, a) = n1
      rw [seenN_snoc, if_neg (by simp), b7, Nat.add_zero]
    · show seenN (S.seen ++ [(2, o)]) (2, a) = n2
      rw [seenN_snoc, if_neg (by simp; exact fun e => ho e.symm), b8, Nat.add_zero]
    · show S.ns + _ = _
      rw [hh, b9]; rfl
theorem readI_at {a nth : Int} {n1 n2 : Nat} {S : DevS} (h : NInv a nth n1 n2 S) (ha : 0 ≤ a ∧ a ≤ 3) :
    (S.readI a).1.length = (if (n1 + 1 : Nat) = nth then 0 else 16) ∧ (S.readI a).2.1 = (if (n1 + 1 : Nat) = nth then 37 else 0) ∧ NInv a nth (n1 + 1) n2 (S.readI a).2.2 ∧ (S.readI a).2.2.ops ≤ S.ops + 1 := by
  unfold DevS.readI
  rw [if_neg (by simp [h.down]), if_neg (by rw [h.nb]; omega)]
  dsimp only
  have hh := hit_nth a nth 1 a ((n1 + 1 : Nat) : Int) (.inl rfl)
  have hr : ({ S with ni := S.ni + 1, ops := S.ops + 1 } : DevS).rdHit 1 a = hitL (nthF a nth) 1 a ((n1 + 1 : Nat) : Int) := by
    unfold DevS.rdHit
    rw [show ({ S with ni := S.ni + 1, ops := S.ops + 1 } : DevS).fl = nthF a nth from h.fl, show seenN ({ S with ni := S.ni + 1, ops := S.ops + 1 } : DevS).seen (1, a) = n1 from h.c1]
  have hlen : ((S.inp.drop (a.toNat * S.blk)).take S.blk).length = 16 := by
    rw [h.inp, h.blk]; simp; omega
  obtain ⟨b1, b2, b3, b4, b5, b6, b7, b8, b9⟩ := h
  have hinv : NInv a nth (n1 + 1) n2 (({ S with ni := S.ni + 1, ops := S.ops + 1 } : DevS).rd 1 a) := by
    refine ⟨b1, b2, b3, b4, b5, b6, ?_, ?_, ?_⟩
    · show seenN (S.seen ++ [(1, a)]) (1, a) = n1 + 1
      rw [seenN_snoc, if_pos rfl, b7]
    · show seenN (S.seen ++ [(1, a)]) (2, a) = n2
      rw [seenN_snoc, if_neg (by simp), b8, Nat.add_zero]
    · show S.ns + (if (({ S with ni := S.ni + 1, ops := S.ops + 1 } : DevS).rdHit 1 a).isSome then 1 else 0) = _
      rw [hr, hh, b9]
      simp only [true_and, decide_eq_true_eq]
      repeat' split
      all_goals omega
  rw [hr, hh]
  by_cases e : ((n1 + 1 : Nat) : Int) = nth
  · rw [if_pos (by simp [e]), if_pos e, if_pos e]
    exact ⟨rfl, rfl, hinv, Nat.le_refl _⟩
  · rw [if_neg (by simp; omega), if_neg e, if_neg e]
    exact ⟨hlen, rfl, hinv, Nat.le_refl _⟩
theorem readSc_at {a nth : Int} {n1 n2 : Nat} {S : DevS} (h : NInv a nth n1 n2 S) (ha : 0 ≤ a ∧ a ≤ 3) :
    (S.readSc a).1.length = (if (n2 + 1 : Nat) = nth then 0 else 16) ∧ (S.readSc a).2.1 = (if (n2 + 1 : Nat) = nth then 37 else 0) ∧ NInv a nth n1 (n2 + 1) (S.readSc a).2.2 ∧ (S.readSc a).2.2.ops ≤ S.ops + 1 := by
  unfold DevS.readSc
  rw [if_neg (by simp [h.down]), if_neg (by rw [h.sc]; omega)]
  dsimp only
  have hh := hit_nth a nth 2 a ((n2 + 1 : Nat) : Int) (.inr rfl)
  have hr : ({ S with nr := S.nr + 1, ops := S.ops + 1 } : DevS).rdHit 2 a = hitL (nthF a nth) 2 a ((n2 + 1 : Nat) : Int) := by
    unfold DevS.rdHit
    rw [show ({ S with nr := S.nr + 1, ops := S.ops + 1 } : DevS).fl = nthF a nth from h.fl, show seenN ({ S with nr := S.nr + 1, ops := S.ops + 1 } : DevS).seen (2, a) = n2 from h.c2]
  have hlen : ((S.scr.drop (a.toNat * S.blk)).take S.blk).length = 16 := by
    rw [h.scr, h.blk]; simp; omega
  obtain ⟨b1, b2, b3, b4, b5, b6, b7, b8, b9⟩ := h
  have hinv : NInv a nth n1 (n2 + 1) (({ S with nr := S.nr + 1, ops := S.ops + 1 } : DevS).rd 2 a) := by
    refine ⟨b1, b2, b3, b4, b5, b6, ?_, ?_, ?_⟩
    · show seenN (S.seen ++ [(2, a)]) (1, a) = n1
      rw [seenN_snoc, if_neg (by simp), b7, Nat.add_zero]
    · show seenN (S.seen ++ [(2, a)]) (2, a) = n2 + 1
      rw [seenN_snoc, if_pos rfl, b8]
    · show S.ns + (if (({ S with nr := S.nr + 1, ops := S.ops + 1 } : DevS).rdHit 2 a).isSome then 1 else 0) = _
      rw [hr, hh, b9]
      simp only [true_and, decide_eq_true_eq]
      repeat' split
      all_goals omega
  rw [hr, hh]
  by_cases e : ((n2 + 1 : Nat) : Int) = nth
  · rw [if_pos (by simp [e]), if_pos e, if_pos e]
    exact ⟨rfl, rfl, hinv, Nat.le_refl _⟩
  · rw [if_neg (by simp; omega), if_neg e, if_neg e]
    exact ⟨hlen, rfl, hinv, Nat.le_refl _⟩
end Go.Proofs.Ytfdkdcopjajklaa
