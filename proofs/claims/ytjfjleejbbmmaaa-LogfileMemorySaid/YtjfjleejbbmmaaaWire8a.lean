/- The reference's cursor: what its calls answer. -/
import Derived.Test.YtjfjleejbbmmaaaWire7
set_option linter.unusedVariables false
set_option linter.unusedSimpArgs false
set_option maxRecDepth 20000
namespace Go.Proofs.Ytjfjleejbbmmaaa
open Go
attribute [local irreducible] WX WC WQ Val VCall
/-- the reference's cursor, as it lies in memory -/
abbrev refB (g : Nat) (A : Option Addr) (n c : Nat) (p f : Int) : Seg := [(g, .cells [.slice A n c, .int .i64 p, .int .i64 f].toArray 114 (0, 0))]
/-- one reading call: the number, the bytes, the error; then the place and the fault -/
def rStep (d : List UInt8) (p : Nat) (f k a b : Int) : Int × List UInt8 × Int × Nat × Int :=
  if k = 1 then ((cByte d p f).1, [], (cByte d p f).2.1, (cByte d p f).2.2.1.toNat, (cByte d p f).2.2.2)
  else if k = 2 then ((cNumber d p f b).1, [], (cNumber d p f b).2.1, (cNumber d p f b).2.2.1, (cNumber d p f b).2.2.2)
  else if k = 3 then (0, (cText d p f a b).1, (cText d p f a b).2.1, (cText d p f a b).2.2.1, (cText d p f a b).2.2.2)
  else (0, (cTake d p f a).1, (cTake d p f a).2.1, (cTake d p f a).2.2.1, (cTake d p f a).2.2.2)
/-- the bytes that a slice of a held buffer shows -/
abbrev ShowsE (E : Seg) (l : List UInt8) (r : Option Addr × Nat) : Prop := ∀ {w0 w : World} {X : List Nat} {M : List Seg} {i : Nat}, Res w0 X w M → M[i]? = some E → Rd w r.1 (bys l)
theorem scanL_err : ∀ (l : List UInt8) (i acc : Nat), (scanL i acc l).2.2 ≠ 0 → (scanL i acc l).1 = 0 ∧ (scanL i acc l).2.1 = 0
  | [], i, acc => by simp only [scanL]; split <;> simp
  | b :: r, i, acc => by
    simp only [scanL]
    split
    · simp
    · split
      · split
        · simp
        · simp
      · exact scanL_err r _ _
end Go.Proofs.Ytjfjleejbbmmaaa
