/- Rules of the seat's own logic: integers, memory, slices, calls. -/
import Derived.Test.YtknnkgoehkohaaaKitB
import Derived.Maps.AppendAt
import Derived.Lib.AppendStr
import Derived.Laws.IdiomCopy
import Derived.Deep.OwnRows
import Derived.Laws.MakeOwn
set_option linter.unusedVariables false
set_option linter.unusedSimpArgs false
namespace Go.Proofs.Ytknnkgoehkohaaa
open Go

theorem wrap_in {n : Int} (h : -9223372036854775808 ≤ n ∧ n ≤ 9223372036854775807) : IntKind.i64.wrap n = n := by
  have e1 : (2 : Int) ^ 64 = 18446744073709551616 := rfl
  have e2 : (2 : Int) ^ (64 - 1) = 9223372036854775808 := rfl
  simp only [IntKind.wrap, IntKind.bits, IntKind.signed, e1, e2, Bool.true_and, decide_eq_true_eq]
  split <;> omega
theorem wrap8_in {n : Int} (h : 0 ≤ n ∧ n ≤ 255) : IntKind.u8.wrap n = n := by
  simp only [IntKind.wrap, IntKind.bits, IntKind.signed]
  simp
  omega

def shrI (k : IntKind) (a n : Int) : Int := a.fdiv (2 ^ (min n.toNat k.bits))
def shlI (k : IntKind) (a n : Int) : Int := k.wrap (a * 2 ^ (min n.toNat k.bits))
def andI (k : IntKind) (a b : Int) : Int := k.wrap ((BitVec.ofInt k.bits a &&& BitVec.ofInt k.bits b).toNat)
def orI (k : IntKind) (a b : Int) : Int := k.wrap ((BitVec.ofInt k.bits a ||| BitVec.ofInt k.bits b).toNat)
def xorI (k : IntKind) (a b : Int) : Int := k.wrap ((BitVec.ofInt k.bits a ^^^ BitVec.ofInt k.bits b).toNat)

section vals
variable {P : Program} {nt : Sh} {w0 : World} {X : List Nat} {fr : Fr} {M : List Seg}
variable {dst : Option Nat} {ty : TypeId} {pos : String} {af : Array Edge} {gd : Option (Nat × Bool)}
variable {t u : TypeId} {x y : Operand} {k : IntKind} {a b : Int}

theorem v_addi (hx : ev fr x = some (.int .i64 a)) (hy : ev fr y = some (.int .i64 b)) (h : -9223372036854775808 ≤ a + b ∧ a + b ≤ 9223372036854775807) : Val P nt w0 X fr M ⟨dst, .binOp .add t x y u, ty, pos, af, gd⟩ (.int .i64 (a + b)) := by
  have := v_add (P := P) (nt := nt) (w0 := w0) (X := X) (M := M) (dst := dst) (ty := ty) (pos := pos) (af := af) (gd := gd) (t := t) (u := u) hx hy
  rwa [wrap_in h] at this
theorem v_subi (hx : ev fr x = some (.int .i64 a)) (hy : ev fr y = some (.int .i64 b)) (h : -9223372036854775808 ≤ a - b ∧ a - b ≤ 9223372036854775807) : Val P nt w0 X fr M ⟨dst, .binOp .sub t x y u, ty, pos, af, gd⟩ (.int .i64 (a - b)) := by
  have := v_sub (P := P) (nt := nt) (w0 := w0) (X := X) (M := M) (dst := dst) (ty := ty) (pos := pos) (af := af) (gd := gd) (t := t) (u := u) hx hy
  rwa [wrap_in h] at this
theorem v_muli (hx : ev fr x = some (.int .i64 a)) (hy : ev fr y = some (.int .i64 b)) (h : -9223372036854775808 ≤ a * b ∧ a * b ≤ 9223372036854775807) : Val P nt w0 X fr M ⟨dst, .binOp .mul t x y u, ty, pos, af, gd⟩ (.int .i64 (a * b)) := by
  have := v_mul (P := P) (nt := nt) (w0 := w0) (X := X) (M := M) (dst := dst) (ty := ty) (pos := pos) (af := af) (gd := gd) (t := t) (u := u) hx hy
  rwa [wrap_in h] at this
theorem v_quoi (hx : ev fr x = some (.int .i64 a)) (hy : ev fr y = some (.int .i64 b)) (h : 0 ≤ a ∧ a ≤ 9223372036854775807 ∧ 0 < b) : Val P nt w0 X fr M ⟨dst, .binOp .quo t x y u, ty, pos, af, gd⟩ (.int .i64 (a / b)) := by
  refine v_bin hx hy fun w => ?_
  have hb : b ≠ 0 := by omega
  have h1 : a.tdiv b = a / b := Int.tdiv_eq_ediv_of_nonneg h.1
  have h2 : 0 ≤ a / b := Int.ediv_nonneg h.1 (by omega)
  have h3 : a / b ≤ a := Int.ediv_le_self b h.1
  simp [binOp, Op.intDiv, hb, h1, wrap_in (n := a / b) (by omega)]
theorem v_remi (hx : ev fr x = some (.int .i64 a)) (hy : ev fr y = some (.int .i64 b)) (h : 0 ≤ a ∧ 0 < b) : Val P nt w0 X fr M ⟨dst, .binOp .rem t x y u, ty, pos, af, gd⟩ (.int .i64 (a % b)) := by
  refine v_bin hx hy fun w => ?_
  have hb : b ≠ 0 := by omega
  simp [binOp, Op.intDiv, hb, Int.tmod_eq_emod_of_nonneg h.1]
theorem v_and (hx : ev fr x = some (.int k a)) (hy : ev fr y = some (.int k b)) : Val P nt w0 X fr M ⟨dst, .binOp .and t x y u, ty, pos, af, gd⟩ (.int k (andI k a b)) := v_bin hx hy fun w => by simp [binOp, Op.intBits, andI]
theorem v_or (hx : ev fr x = some (.int k a)) (hy : ev fr y = some (.int k b)) : Val P nt w0 X fr M ⟨dst, .binOp .or t x y u, ty, pos, af, gd⟩ (.int k (orI k a b)) := v_bin hx hy fun w => by simp [binOp, Op.intBits, orI]
theorem v_xor (hx : ev fr x = some (.int k a)) (hy : ev fr y = some (.int k b)) : Val P nt w0 X fr M ⟨dst, .binOp .xor t x y u, ty, pos, af, gd⟩ (.int k (xorI k a b)) := v_bin hx hy fun w => by simp [binOp, Op.intBits, xorI]
theorem v_shift {op : BinOp} {yk : IntKind} {v : Value} (hop : op = .shl ∨ op = .shr) (hx : ev fr x = some (.int k a)) (hy : ev fr y = some (.int yk b)) (hv : ∀ w, (Op.shift op k a yk b).run P w = .ok v w) :
    Val P nt w0 X fr M ⟨dst, .binOp op t x y u, ty, pos, af, gd⟩ v := fun c w hs hr => by
  simp only [execOp, hs.ev hx, hs.ev hy]
  have e : (eqGuard op t x y (.int k a) (.int yk b)).run P w = .ok () w := by
    unfold eqGuard
    rcases hop with rfl | rfl <;> simp
  rcases hop with rfl | rfl <;> simp [e, binOp, hv w]
theorem v_shr {yk : IntKind} (hx : ev fr x = some (.int k a)) (hy : ev fr y = some (.int yk b)) (h : 0 ≤ b) : Val P nt w0 X fr M ⟨dst, .binOp .shr t x y u, ty, pos, af, gd⟩ (.int k (shrI k a b)) :=
  v_shift (.inr rfl) hx hy fun w => by simp [Op.shift, Int.not_lt.2 h, shrI]
theorem v_shl {yk : IntKind} (hx : ev fr x = some (.int k a)) (hy : ev fr y = some (.int yk b)) (h : 0 ≤ b) : Val P nt w0 X fr M ⟨dst, .binOp .shl t x y u, ty, pos, af, gd⟩ (.int k (shlI k a b)) :=
  v_shift (.inl rfl) hx hy fun w => by simp [Op.shift, Int.not_lt.2 h, shlI]
theorem v_not {p : Bool} (hx : ev fr x = some (.bool p)) : Val P nt w0 X fr M ⟨dst, .unOp .not t x, ty, pos, af, gd⟩ (.bool (!p)) := fun c w hs hr => by simp [execOp, hs.ev hx, Op.unary]
theorem v_conv {du : TypeDesc} {k' : IntKind} (hs1 : P.underlying t = some du) (hd1 : P.underlying u = some (.int k')) (hx : ev fr x = some (.int k a)) : Val P nt w0 X fr M ⟨dst, .convert t u x, ty, pos, af, gd⟩ (.int k' (k'.wrap a)) := fun c w hs hr => by
  simp [execOp, hs.ev hx, convert, run_underlying hs1, run_underlying hd1, Conv.intToInt]
theorem v_convi {du : TypeDesc} (hs1 : P.underlying t = some du) (hd1 : P.underlying u = some (.int .i64)) (hx : ev fr x = some (.int k a)) (h : -9223372036854775808 ≤ a ∧ a ≤ 9223372036854775807) : Val P nt w0 X fr M ⟨dst, .convert t u x, ty, pos, af, gd⟩ (.int .i64 a) := by
  have := v_conv (nt := nt) (w0 := w0) (X := X) (M := M) (dst := dst) (ty := ty) (pos := pos) (af := af) (gd := gd) hs1 hd1 hx
  rwa [wrap_in h] at this
theorem v_conv8 {du : TypeDesc} (hs1 : P.underlying t = some du) (hd1 : P.underlying u = some (.int .u8)) (hx : ev fr x = some (.int k a)) (h : 0 ≤ a ∧ a ≤ 255) : Val P nt w0 X fr M ⟨dst, .convert t u x, ty, pos, af, gd⟩ (.int .u8 a) := by
  have := v_conv (nt := nt) (w0 := w0) (X := X) (M := M) (dst := dst) (ty := ty) (pos := pos) (af := af) (gd := gd) hs1 hd1 hx
  rwa [wrap8_in h] at this
theorem v_extract {vs : List Value} {i : Nat} {v : Value} (hx : ev fr x = some (.tuple vs.toArray)) (hi : vs[i]? = some v) : Val P nt w0 X fr M ⟨dst, .extract x i, ty, pos, af, gd⟩ v := fun c w hs hr => by
  simp [execOp, hs.ev hx, Instr.extract, hi]

/-! memory that is read -/
def plainT : TypeDesc → Bool
  | .struct _ | .array _ _ => false
  | _ => true
theorem run_loadVar_plain {du : TypeDesc} {w : World} {p : Addr} {v : Value} (hu : P.underlying t = some du) (hp : plainT du = true) (hc : w.cell? p = some v) : (loadVar t p).run P w = .ok v w := by
  cases du <;> simp [plainT] at hp <;> simp [loadVar, isAgg, run_underlying hu, load, Sem.run, hc]
/-- a load: where the cell is known in every such world -/
theorem v_load {du : TypeDesc} {p : Addr} {v : Value} (hu : P.underlying t = some du) (hp : plainT du = true) (hx : ev fr x = some (.pointer (some p))) (hc : ∀ w, Res w0 X w M → w.cell? p = some v) :
    Val P nt w0 X fr M ⟨dst, .load t x, ty, pos, af, gd⟩ v := fun c w hs hr => by
  simp [execOp, hs.ev hx, Instr.loadAt, Instr.sureAddr, run_loadVar_plain hu hp (hc w hr)]
theorem v_ld (i j : Nat) {du : TypeDesc} {bk off : Nat} {v : Value} {E : Seg} {cs : List Value} {et : TypeId} {fz : Nat × Nat} (hu : P.underlying t = some du) (hp : plainT du = true) (hx : ev fr x = some (.pointer (some ⟨bk, off, none⟩)))
    (hi : M[i]? = some E) (hj : E[j]? = some (bk, .cells cs.toArray et fz)) (hc : cs[off]? = some v) : Val P nt w0 X fr M ⟨dst, .load t x, ty, pos, af, gd⟩ v :=
  v_load hu hp hx fun w hr => hr.cell hi hj (by simpa using hc)

theorem v_ldx {du : TypeDesc} {bk off off' : Nat} {v : Value} (hu : P.underlying t = some du) (hp : plainT du = true) (hx : ev fr x = some (.pointer (some ⟨bk, off, none⟩))) (hc : ∀ w, Res w0 X w M → w.cell? ⟨bk, off', none⟩ = some v) (ho : off = off') :
    Val P nt w0 X fr M ⟨dst, .load t x, ty, pos, af, gd⟩ v := by
  subst ho
  exact v_load hu hp hx hc
theorem ld (i j : Nat) {bk off : Nat} {v : Value} {E : Seg} {cs : List Value} {et : TypeId} {fz : Nat × Nat} (hi : M[i]? = some E) (hj : E[j]? = some (bk, .cells cs.toArray et fz)) (hc : cs[off]? = some v) : ∀ w, Res w0 X w M → w.cell? ⟨bk, off, none⟩ = some v :=
  fun w hr => hr.cell hi hj (by simpa using hc)

theorem run_fieldPlace {w : World} {b o : Nat} {f : Field} {ti : TypeInfo} (hi : P.info? f.type = some ti) (hz : ti.size ≠ 0) : (fieldPlace ⟨b, o, none⟩ f).run P w = .ok ⟨b, o + f.offset, none⟩ w := by
  have hadd : (⟨b, o, none⟩ : Addr).add f.offset = ⟨b, o + f.offset, none⟩ := by unfold Addr.add; split <;> simp_all
  simp [fieldPlace, sizeOf, typeInfo, hi, hz, hadd]
/-- a field's offset, and that it has a size -/
def fOff (P : Program) (s : TypeId) (i : Nat) : Option Nat :=
  match P.underlying s with
  | some (.struct fs) => match fs[i]? with
    | some ⟨_, ft, o, _, _, _, _⟩ => match P.info? ft with
      | some ⟨_, _, sz, _, _, _, _, _, _, _⟩ => bif Nat.beq sz 0 then none else some o
      | none => none
    | none => none
  | _ => none
theorem fOff_spec {s : TypeId} {i o : Nat} (h : fOff P s i = some o) : ∃ fs f ti, P.underlying s = some (.struct fs) ∧ fs[i]? = some f ∧ P.info? f.type = some ti ∧ ti.size ≠ 0 ∧ f.offset = o := by
  unfold fOff at h
  split at h
  · rename_i fs hu
    split at h
    · rename_i nm ft o' em tg pk bo hf
      split at h
      · rename_i d1 d2 sz d4 d5 d6 d7 d8 d9 d10 hi
        cases hz : Nat.beq sz 0
        · rw [hz] at h
          simp at h
          exact ⟨fs, _, _, hu, hf, hi, Nat.ne_of_beq_eq_false hz, h⟩
        · rw [hz] at h; simp at h
      · simp at h
    · simp at h
  · simp at h
theorem v_faddr {s : TypeId} {i bk off o : Nat} (hf : fOff P s i = some o) (hx : ev fr x = some (.pointer (some ⟨bk, off, none⟩))) : Val P nt w0 X fr M ⟨dst, .fieldAddr s x i, ty, pos, af, gd⟩ (.pointer (some ⟨bk, off + o, none⟩)) := fun c w hs hr => by
  obtain ⟨fs, f, ti, hu, hf1, hi, hz, rfl⟩ := fOff_spec hf
  simp [execOp, hs.ev hx, Instr.fieldAt, Instr.sureAddr, run_underlying hu, hf1, run_fieldPlace hi hz]

/-- an element type's number, and how many cells it has -/
def elemT (P : Program) (t : TypeId) : Option (TypeId × Nat) :=
  match P.underlying t with
  | some (.slice e) => match P.info? e with
    | some ⟨_, _, sz, _, _, _, _, _, _, _⟩ => some (e, sz)
    | none => none
  | _ => none
theorem elemT_spec {e sz : Nat} (h : elemT P t = some (e, sz)) : P.underlying t = some (.slice e) ∧ ∃ ti, P.info? e = some ti ∧ ti.size = sz := by
  unfold elemT at h
  split at h
  · rename_i e' hu
    split at h
    · rename_i d1 d2 sz' d4 d5 d6 d7 d8 d9 d10 hi
      simp at h
      obtain ⟨rfl, rfl⟩ := h
      exact ⟨hu, _, hi, rfl⟩
    · simp at h
  · simp at h
theorem add_plain (g o j : Nat) : (⟨g, o, none⟩ : Addr).add j = ⟨g, o + j, none⟩ := by unfold Addr.add; split <;> simp_all
theorem v_iaddr {e sz bk off n c : Nat} (he : elemT P t = some (e, sz)) (hx : ev fr x = some (.slice (some ⟨bk, off, none⟩) n c)) (hy : ev fr y = some (.int k a)) (h : 0 ≤ a ∧ a < n) :
    Val P nt w0 X fr M ⟨dst, .indexAddr t x y, ty, pos, af, gd⟩ (.pointer (some ⟨bk, off + a.toNat * sz, none⟩)) := fun c w hs hr => by
  obtain ⟨hu, ti, hi, rfl⟩ := elemT_spec he
  simp [execOp, hs.ev hx, hs.ev hy, Instr.indexAt, asIntOf, run_underlying hu, h, sizeOf, typeInfo, hi, add_plain]
theorem v_len {e : TypeId} {A : Option Addr} {n c : Nat} (hu : P.underlying t = some (.slice e)) (hx : ev fr x = some (.slice A n c)) : Val P nt w0 X fr M ⟨dst, .call ⟨.builtin .len, #[x], #[t]⟩, ty, pos, af, gd⟩ (.int .i64 n) := fun c w hs hr => by
  simp [execOp, resolve, hs.ev hx, invoke, builtin, Builtin.len_, run_underlying hu, goInt]
theorem v_slen {s : ByteArray} (hu : P.underlying t = some .string) (hx : ev fr x = some (.string s)) : Val P nt w0 X fr M ⟨dst, .call ⟨.builtin .len, #[x], #[t]⟩, ty, pos, af, gd⟩ (.int .i64 s.size) := fun c w hs hr => by
  simp [execOp, resolve, hs.ev hx, invoke, builtin, Builtin.len_, run_underlying hu, goInt]
end vals
end Go.Proofs.Ytknnkgoehkohaaa
