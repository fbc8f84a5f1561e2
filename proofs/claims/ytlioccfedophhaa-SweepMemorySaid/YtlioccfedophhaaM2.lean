/- Parts of the proof: Kit3, Cmp, SwV, Rec1, Rec2, Wire1, Wire5a, Rec3, Wire2, Wire3, Wire4. -/
import Derived.Test.YtlioccfedophhaaM1
import Derived.Carry
import Derived.ProofKit
import Derived.SizedLaws
import Derived.OpenShut
import Derived.ShutString
import Derived.WalkKit
import Derived.ChangeOld
import Derived.Below
import Derived.Test.YtlioccfedophhaaRows
import Derived.JoinedCond
import Derived.Deep.Slices
import Derived.Deep.Strs
import Derived.Test.YtlioccfedophhaaProg
/- The seat's own logic, the parts L U V of it. -/
/- From what the form hands over to what the walks ask, and back. -/
set_option linter.unusedVariables false
set_option linter.unusedSimpArgs false
namespace Go.Proofs.Ytlioccfedophhaa
open Go Go.ChangeShapes Go.WideShapes Go.ChangeAt Go.RowKit
open Go.ChangeMaps (open_string shut_string)
theorem below_of_res {w w' : World} {M : List Seg} (h : Res w [] w' M) : Below w.heap.size w w' := ⟨h.os, h.tape, h.output, h.size, fun i hi => h.keep i hi (by simp)⟩
abbrev HoldsB (w : World) : Ending → World → Prop := Ret (β := Unit) w (ids []) (fun _ => .bool true) (fun _ => []) (fun _ => True)
theorem holds_end {w w' : World} {e : Ending} (h : HoldsB w e w') : e = .returned (.bool true) ∧ Below w.heap.size w w' := by
  obtain ⟨_, _, he, hr⟩ := h
  exact ⟨he, below_of_res hr⟩
variable {H : Type} {enc : TypeId × Value → H} {P : Program} {W : World} {base : Nat} {spare : Nat → Bool} {held : Bool}
theorem read_bytes {t e : TypeId} (ht : P.underlying t = some (.slice e)) (he : P.underlying e = some (.int .u8)) (hc : P.cellsOf e = 1) {A : Option Addr} {n c : Nat} {d : DataW H} {p : List MemPlace} (h : DataW.Trod enc P W base spare held t (.slice A n c) d p) :
    ∃ l : List UInt8, l.length = n ∧ n ≤ c ∧ c ≤ maxLen ∧ Vw [] W A (bys l) ∧ ((d = .nil ∧ n = 0) ∨ ∃ elems sp, d = .slice elems sp ∧ elems.length = n) := by
  obtain ⟨fuel, hf⟩ := h
  rcases open_ints ht he hc hf with ⟨hcs, hx⟩ | ⟨x, len, cap, zs, hcs, _, hl, hm, hz, hx, hcell, hwz⟩
  · simp [Value.cells] at hcs
    obtain ⟨rfl, rfl, rfl⟩ := hcs
    simp only [Prod.mk.injEq] at hx
    exact ⟨[], rfl, Nat.le_refl _, by simp [maxLen], Vw.nil, .inl ⟨hx.1, rfl⟩⟩
  · simp [Value.cells] at hcs
    obtain ⟨rfl, rfl, rfl⟩ := hcs
    simp only [Prod.mk.injEq] at hx
    have hzl : n ≤ zs.length := by rw [hz]; split <;> omega
    have hb : ∀ i, i < zs.length → 0 ≤ zs.getD i 0 ∧ zs.getD i 0 ≤ 255 := fun i hi => by
      have h1 := hwz (zs.getD i 0) (by rw [List.getD_eq_getElem?_getD, List.getElem?_eq_getElem hi]; exact List.getElem_mem hi)
      exact bounds_u8 h1
    refine ⟨(zs.take n).map fun z => UInt8.ofNat z.toNat, by simp; omega, hl, hm, fun hne => ?_, .inr ⟨_, _, hx.1, by simp [lits]; omega⟩⟩
    have hn : 0 < n := by
      rcases Nat.eq_zero_or_pos n with h0 | h0
      · subst h0; simp at hne
      · exact h0
    obtain ⟨g, o, sp⟩ := x
    have hsp : sp = none := by simpa [Addr.add] using World.cell?_spot (hcell 0 (by omega))
    subst hsp
    refine ⟨g, o, rfl, by simp, fun j u hj => ?_⟩
    have hjn : j < n := by
      have := (List.getElem?_eq_some_iff.1 hj).1
      simp at this; omega
    have h1 := hcell j (by omega)
    rw [add_plain] at h1
    rw [h1]
    have h2 := hb j (by omega)
    simp only [bys, List.map_map, List.getElem?_map, List.getElem?_take_of_lt hjn, Function.comp_def] at hj
    rw [List.getElem?_eq_getElem (show j < zs.length by omega)] at hj
    simp only [Option.map_some, Option.some.injEq] at hj
    rw [← hj]
    rw [List.getD_eq_getElem?_getD, List.getElem?_eq_getElem (show j < zs.length by omega)] at h2 ⊢
    simp only [Option.getD_some] at h2 ⊢
    have h3 : (UInt8.ofNat (zs[j].toNat)).toNat = zs[j].toNat := by simp; omega
    rw [h3, Int.toNat_of_nonneg h2.1]
theorem reach_slice {ts : List TypeId} {ds : List (DataW H)} (hsz : (DataW.weightsEach P ts ds).all (· ≤ reachBytes) = true) {j t e n bt : Nat} {d : DataW H} (ht : ts[j]? = some t) (hd : ds[j]? = some d) (hu : P.underlying t = some (.slice e)) (hb : P.bytesOf e = bt)
    (h : (d = .nil ∧ n = 0) ∨ ∃ elems sp, d = .slice elems sp ∧ elems.length = n) : n * bt ≤ 140737488351232 := by
  rcases h with ⟨_, rfl⟩ | ⟨elems, sp, rfl, rfl⟩
  · omega
  · have := sized_slice hsz ht hd hu
    rw [hb] at this
    have h1 : elems.length * bt ≤ (elems.length + sp.length) * bt := Nat.mul_le_mul_right _ (by omega)
    simp only [reachBytes] at this
    omega
theorem reach_string {ts : List TypeId} {ds : List (DataW H)} (hsz : (DataW.weightsEach P ts ds).all (· ≤ reachBytes) = true) {j t : Nat} {s : ByteArray} (ht : ts[j]? = some t) (hd : ds[j]? = some (.lit (.string s.data.toList))) : s.size ≤ 140737488351232 := by
  have := sized_string hsz ht hd
  simpa [reachBytes] using this
end Go.Proofs.Ytlioccfedophhaa
/- What the bound of the second form gives: lengths of slices and strings. -/
set_option linter.unusedVariables false
set_option linter.unusedSimpArgs false
namespace Go.Proofs.Ytlioccfedophhaa
open Go
theorem bulk_pos {H : Type} (d : DataW H) : 1 ≤ Rows.uptoBulk d := by
  cases d with
  | lit l => cases l <;> simp [Rows.uptoBulk]
  | _ => simp [Rows.uptoBulk]
theorem bulk_len {H : Type} : ∀ l : List (DataW H), l.length ≤ Rows.uptoBulkAll l
  | [] => by simp [Rows.uptoBulkAll]
  | x :: r => by
    have h1 := bulk_pos x
    have h2 := bulk_len r
    simp only [Rows.uptoBulkAll, List.length_cons]; omega
theorem bulk_at {H : Type} : ∀ {l : List (DataW H)} {j : Nat} {d : DataW H}, l[j]? = some d → Rows.uptoBulk d ≤ Rows.uptoBulkAll l
  | [], j, d, h => by simp at h
  | x :: r, 0, d, h => by
    simp only [List.getElem?_cons_zero, Option.some.injEq] at h
    subst h
    simp only [Rows.uptoBulkAll]; omega
  | x :: r, j + 1, d, h => by
    have := bulk_at (l := r) (by simpa using h)
    simp only [Rows.uptoBulkAll]; omega
theorem small_bound {H : Type} {l : List (DataW H)} (hk : Rows.uptoSmall H l = true) : Rows.uptoBulkAll l ≤ 1048576 := of_decide_eq_true hk
theorem small_slice {H : Type} {l : List (DataW H)} (hk : Rows.uptoSmall H l = true) {j n : Nat} {d : DataW H} (hj : l[j]? = some d) (h : (d = .nil ∧ n = 0) ∨ ∃ elems sp, d = .slice elems sp ∧ elems.length = n) : n ≤ 1048576 := by
  have h1 := small_bound hk
  have h2 := bulk_at hj
  rcases h with ⟨_, rfl⟩ | ⟨elems, sp, rfl, rfl⟩
  · omega
  · have h3 := bulk_len elems
    simp only [Rows.uptoBulk] at h2
    omega
theorem small_string {H : Type} {l : List (DataW H)} (hk : Rows.uptoSmall H l = true) {j : Nat} {s : ByteArray} (hj : l[j]? = some (.lit (.string s.data.toList))) : s.size ≤ 1048576 := by
  have h1 := small_bound hk
  have h2 := bulk_at hj
  simp only [Rows.uptoBulk] at h2
  have e : s.data.toList.length = s.size := by rw [Array.length_toList]; rfl
  omega
end Go.Proofs.Ytlioccfedophhaa
/- How lists that are handed over are read: each value lies in cells of its own, and may lead on. -/
set_option linter.unusedVariables false
set_option linter.unusedSimpArgs false
namespace Go.Proofs.Ytlioccfedophhaa
open Go Go.ChangeShapes Go.WideShapes Go.ChangeAt Go.RowKit
variable {H : Type} {enc : TypeId × Value → H} {P : Program} {W : World} {base : Nat} {spare : Nat → Bool} {held : Bool}
/-- what a reading tells of a value of the type 't': it lies in the cells 'f a', and 'ok' holds of it -/
def Tells (H : Type) (enc : TypeId × Value → H) (P : Program) (W : World) (base : Nat) (spare : Nat → Bool) (held : Bool) {α : Type} (t : TypeId) (f : α → List Value) (ok : α → Prop) (sz : α → Nat) : Prop :=
  ∀ n cs x, DataW.trod enc P W base spare held n t cs = some x → ∃ a, cs = f a ∧ ok a ∧ sz a ≤ Rows.uptoBulk x.1
structure LstV (α : Type) where
  A : Option Addr
  c : Nat
  xs : List α
def LstV.cells {α : Type} (l : LstV α) : List Value := [.slice l.A l.xs.length l.c]
def LstV.ok {α : Type} (W : World) (f : α → List Value) (ok : α → Prop) (l : LstV α) : Prop := l.xs.length ≤ l.c ∧ l.c ≤ maxLen ∧ Vw [] W l.A (l.xs.flatMap f) ∧ ∀ a ∈ l.xs, ok a
def LstV.size {α : Type} (sz : α → Nat) (l : LstV α) : Nat := (l.xs.map sz).sum + 1
theorem tells_list {α : Type} {t e : TypeId} {f : α → List Value} {ok : α → Prop} {sz : α → Nat} {k : Nat} (ht : P.underlying t = some (.slice e)) (hc : P.cellsOf e = k) (hk : 0 < k) (hf : ∀ a, (f a).length = k) (h : Tells H enc P W base spare held e f ok sz) :
    Tells H enc P W base spare held t (LstV.cells (α := α)) (LstV.ok W f ok) (LstV.size sz) := by
  intro n cs x hx
  rcases Go.Deep.open_slice ht hx with ⟨rfl, rfl⟩ | ⟨a, len, cap, m, n', D, Pl, rfl, _, hl, hm, hmm, rfl, hcell⟩
  · exact ⟨⟨none, 0, []⟩, rfl, ⟨Nat.le_refl _, by simp [maxLen], Vw.nil, by simp⟩, by simp [LstV.size, Rows.uptoBulk]⟩
  · have hlm : len ≤ m := by rw [hmm]; split <;> omega
    rw [hc] at hcell
    have hch : ∀ i, i < len → ∃ y : α, W.cells? base (a.add (i * k)) k = some (f y) ∧ ok y ∧ sz y ≤ Rows.uptoBulk (D i) := fun i hi => by
      obtain ⟨cs', h1, h2⟩ := hcell i (by omega)
      obtain ⟨y, rfl, h3, h4⟩ := h _ _ _ h2
      exact ⟨y, h1, h3, h4⟩
    obtain ⟨xs, hxl, hxs⟩ : ∃ xs : List α, xs.length = len ∧ ∀ i y, xs[i]? = some y → W.cells? base (a.add (i * k)) k = some (f y) ∧ ok y ∧ sz y ≤ Rows.uptoBulk (D i) := by
      clear hcell hx hlm hl hmm
      induction len with
      | zero => exact ⟨[], rfl, by simp⟩
      | succ len ih =>
        obtain ⟨xs, h1, h2⟩ := ih (fun i hi => hch i (by omega))
        obtain ⟨y, h3⟩ := hch len (by omega)
        refine ⟨xs ++ [y], by simp [h1], fun i z hz => ?_⟩
        by_cases hi : i < xs.length
        · rw [List.getElem?_append_left hi] at hz; exact h2 i z hz
        · rw [List.getElem?_append_right (by omega)] at hz
          have : i - xs.length = 0 := by
            rcases Nat.eq_zero_or_pos (i - xs.length) with h0 | h0
            · exact h0
            · rw [List.getElem?_eq_none (by simp; omega)] at hz; cases hz
          rw [this] at hz
          simp at hz
          subst hz
          have e : i = len := by omega
          subst e; exact h3
    subst hxl
    refine ⟨⟨some a, cap, xs⟩, rfl, ⟨hl, hm, fun hne => ?_, fun y hy => ?_⟩, ?_⟩
    · have hn : 0 < xs.length := by
        rcases Nat.eq_zero_or_pos xs.length with h0 | h0
        · rw [List.length_eq_zero_iff.1 h0] at hne; simp at hne
        · exact h0
      obtain ⟨g, o, sp⟩ := a
      have hcells : ∀ i y, xs[i]? = some y → ∀ r, r < k → W.cell? (((⟨g, o, sp⟩ : Addr).add (i * k)).add r) = (f y)[r]? := fun i y hy r hr => (World.cells?_some (hxs i y hy).1).2.2 r hr
      have hsp : sp = none := by
        have h1 := hcells 0 xs[0] (List.getElem?_eq_getElem hn) 0 hk
        rw [List.getElem?_eq_getElem (by rw [hf]; exact hk)] at h1
        simpa [Addr.add] using World.cell?_spot h1
      subst hsp
      refine ⟨g, o, rfl, by simp, fun j u hj => ?_⟩
      rw [flat_get f hk hf] at hj
      obtain ⟨y, hy, hu⟩ := Option.bind_eq_some_iff.1 hj
      have h1 := hcells _ y hy (j % k) (Nat.mod_lt _ hk)
      rw [add_plain, add_plain, hu] at h1
      rw [← h1]
      congr 2
      have := Nat.div_add_mod j k
      rw [Nat.mul_comm] at this
      omega
    · obtain ⟨i, hi, rfl⟩ := List.getElem_of_mem hy
      exact (hxs i _ (List.getElem?_eq_getElem hi)).2.1
    · show (xs.map sz).sum + 1 ≤ Rows.uptoBulk (DataW.slice _ _)
      have key : ∀ (xs : List α) (D : Nat → DataW H), (∀ i y, xs[i]? = some y → sz y ≤ Rows.uptoBulk (D i)) → (xs.map sz).sum ≤ Rows.uptoBulkAll ((List.range xs.length).map D) := by
        intro xs
        induction xs with
        | nil => intro D _; simp [Rows.uptoBulkAll]
        | cons x r ih =>
          intro D hD
          rw [List.length_cons, List.range_succ_eq_map, List.map_cons, List.map_cons, List.map_map, List.sum_cons]
          simp only [Rows.uptoBulkAll]
          have h0 := hD 0 x rfl
          have h1 := ih (fun i => D (i + 1)) (fun i y hy => hD (i + 1) y (by simpa using hy))
          exact Nat.add_le_add h0 h1
      have := key xs D (fun i y hy => (hxs i y hy).2.2)
      simp only [Rows.uptoBulk]
      omega
theorem tells_int {t : TypeId} {k : IntKind} (ht : P.underlying t = some (.int k)) : Tells H enc P W base spare held t (fun n : Int => [.int k n]) (fun n => (Lit.int k n).wf = true) (fun _ => 1) := fun n cs x hx => by
  obtain ⟨v, rfl, rfl, hw⟩ := DataW.trod_int ht hx
  exact ⟨v, rfl, hw, by simp [Rows.uptoBulk]⟩
theorem tells_bool {t : TypeId} (ht : P.underlying t = some .bool) : Tells H enc P W base spare held t (fun b : Bool => [.bool b]) (fun _ => True) (fun _ => 1) := fun n cs x hx => by
  obtain ⟨v, rfl, rfl⟩ := DataW.trod_bool ht hx
  exact ⟨v, rfl, trivial, by simp [Rows.uptoBulk]⟩
theorem tells_string {t : TypeId} (ht : P.underlying t = some .string) : Tells H enc P W base spare held t (fun s : ByteArray => [.string s]) (fun s => s.size ≤ maxLen) (fun s => s.size + 1) := fun n cs x hx => by
  obtain ⟨v, rfl, rfl, hw⟩ := DataW.trod_string ht hx
  refine ⟨v, rfl, hw, ?_⟩
  have e : v.data.toList.length = v.size := by rw [Array.length_toList]; rfl
  simp only [Rows.uptoBulk]; omega
theorem tells_byte {t : TypeId} (ht : P.underlying t = some (.int .u8)) : Tells H enc P W base spare held t (fun b : UInt8 => [.int .u8 b.toNat]) (fun _ => True) (fun _ => 1) := fun n cs x hx => by
  obtain ⟨v, rfl, rfl, hw⟩ := DataW.trod_int ht hx
  have hb := bounds_u8 hw
  refine ⟨UInt8.ofNat v.toNat, ?_, trivial, by simp [Rows.uptoBulk]⟩
  have h3 : (UInt8.ofNat v.toNat).toNat = v.toNat := by simp; omega
  show _ = [Value.int .u8 ((UInt8.ofNat v.toNat).toNat : Int)]
  rw [h3, Int.toNat_of_nonneg hb.1]
/-- .. of a struct's fields from the offset 'off' on -/
def TellsFs (H : Type) (enc : TypeId × Value → H) (P : Program) (W : World) (base : Nat) (spare : Nat → Bool) (held : Bool) {α : Type} (fs : List Field) (off tot : Nat) (f : α → List Value) (ok : α → Prop) (sz : α → Nat) : Prop :=
  ∀ (n : Nat) (cs : List Value) (xs : List (DataW H × List MemPlace)), cs.length = tot → xs.length = fs.length → (∀ (i : Nat) (fd : Field), fs[i]? = some fd → DataW.trod enc P W base spare held n fd.type ((cs.drop fd.offset).take (P.cellsOf fd.type)) = xs[i]?) → ∃ a, cs.drop off = f a ∧ ok a ∧ sz a ≤ Rows.uptoBulkAll (xs.map (·.1))
theorem tells_none {tot : Nat} : TellsFs H enc P W base spare held [] tot tot (fun _ : Unit => []) (fun _ => True) (fun _ => 0) := fun n cs xs h1 h2 h3 => ⟨(), by rw [List.drop_of_length_le (by omega)], trivial, Nat.zero_le _⟩
theorem tells_field {α β : Type} {fd : Field} {fs : List Field} {off tot k : Nat} {f : α → List Value} {ok : α → Prop} {sz : α → Nat} {g : β → List Value} {ok2 : β → Prop} {sz2 : β → Nat} (ho : fd.offset = off) (hk : P.cellsOf fd.type = k)
    (h1 : Tells H enc P W base spare held fd.type f ok sz) (h2 : TellsFs H enc P W base spare held fs (off + k) tot g ok2 sz2) :
    TellsFs H enc P W base spare held (fd :: fs) off tot (fun x : α × β => f x.1 ++ g x.2) (fun x => ok x.1 ∧ ok2 x.2) (fun x => sz x.1 + sz2 x.2) := fun n cs xs hl hx h => by
  match xs, hx with
  | x0 :: xr, hx =>
    have e0 := h 0 fd rfl
    simp only [List.getElem?_cons_zero] at e0
    rw [ho, hk] at e0
    obtain ⟨a, ha, hok, hsz⟩ := h1 _ _ _ e0
    obtain ⟨b, hb, hok2, hsz2⟩ := h2 n cs xr hl (by simpa using hx) (fun i fd2 hi => by simpa using h (i + 1) fd2 (by simpa using hi))
    refine ⟨(a, b), ?_, ⟨hok, hok2⟩, ?_⟩
    · show _ = f a ++ g b
      rw [← ha, ← hb, ← List.drop_drop, List.take_append_drop]
    · simp only [List.map_cons, Rows.uptoBulkAll]
      omega
theorem tells_struct {α : Type} {t : TypeId} {fs : Array Field} {tot : Nat} {f : α → List Value} {ok : α → Prop} {sz : α → Nat} (ht : P.underlying t = some (.struct fs)) (hc : P.cellsOf t = tot) (h : TellsFs H enc P W base spare held fs.toList 0 tot f ok sz) :
    Tells H enc P W base spare held t f ok (fun a => sz a + 1) := fun n cs x hx => by
  obtain ⟨xs, n', _, rfl, hl, hxl, hi⟩ := DataW.trod_struct ht hx
  obtain ⟨a, ha, hok, hsz⟩ := h n' cs xs (by rw [hl, hc]) (by simpa using hxl) (fun i fd h => hi i fd (by simpa using h))
  exact ⟨a, by simpa using ha, hok, by simp only [Rows.uptoBulk]; omega⟩
/-- a change of names: another type of values that lies in the same cells -/
theorem Tells.map {α β : Type} {t : TypeId} {f : α → List Value} {ok : α → Prop} {sz : α → Nat} {g : β → List Value} {ok2 : β → Prop} {sz2 : β → Nat} (h : Tells H enc P W base spare held t f ok sz) (m : α → β) (h1 : ∀ a, g (m a) = f a) (h2 : ∀ a, ok a → ok2 (m a)) (h3 : ∀ a, sz2 (m a) ≤ sz a) :
    Tells H enc P W base spare held t g ok2 sz2 := fun n cs x hx => by
  obtain ⟨a, rfl, hok, hsz⟩ := h n cs x hx
  exact ⟨m a, (h1 a).symm, h2 a hok, Nat.le_trans (h3 a) hsz⟩
theorem Tells.trod {α : Type} {t : TypeId} {f : α → List Value} {ok : α → Prop} {sz : α → Nat} (h : Tells H enc P W base spare held t f ok sz) {v : Value} {d : DataW H} {p : List MemPlace} (hd : DataW.Trod enc P W base spare held t v d p) : ∃ a, v.cells.toList = f a ∧ ok a ∧ sz a ≤ Rows.uptoBulk d := by
  obtain ⟨n, hn⟩ := hd
  exact h n _ _ hn
theorem read_len {t e : TypeId} (ht : P.underlying t = some (.slice e)) {A : Option Addr} {n c : Nat} {d : DataW H} {p : List MemPlace} (h : DataW.Trod enc P W base spare held t (.slice A n c) d p) : (d = .nil ∧ n = 0) ∨ ∃ elems sp, d = .slice elems sp ∧ elems.length = n := by
  obtain ⟨fuel, hf⟩ := h
  rcases Go.Deep.open_slice ht hf with ⟨h1, h2⟩ | ⟨a, len, cap, m, n', D, Pl, h1, _, _, _, _, h2, _⟩
  · simp [Value.cells] at h1
    simp only [Prod.mk.injEq] at h2
    exact .inl ⟨h2.1, h1.2.1⟩
  · simp [Value.cells] at h1
    simp only [Prod.mk.injEq] at h2
    exact .inr ⟨_, _, h2.1, by simp [h1.2.1]⟩
theorem struct_parts {cs : Array Value} {l : List Value} (h : (Value.agg cs).cells.toList = l) : cs = l.toArray := by
  subst h; simp [Value.cells]
theorem list_parts {α : Type} {A : Option Addr} {n c : Nat} {l : LstV α} (h : (Value.slice A n c).cells.toList = LstV.cells l) : A = l.A ∧ n = l.xs.length ∧ c = l.c := by
  simpa [Value.cells, LstV.cells] using h
end Go.Proofs.Ytlioccfedophhaa
/- Numbers compared; the first that isn't zero. -/
set_option linter.unusedVariables false
set_option linter.unusedSimpArgs false
namespace Go.Proofs.Ytlioccfedophhaa
open Go
set_option maxRecDepth 20000
set_option maxHeartbeats 2000000
attribute [local irreducible] WX WC WQ Val VCall
theorem rCmp_0 {A B : Prop} (k : B) (h : Hold B → A := by intro k; (repeat (first | (apply wx_val; (first | exact v_move rfl | exact v_assign rfl | exact v_len rfl rfl | exact v_ne rfl rfl | exact v_lt rfl rfl | exact v_addi rfl rfl (by omega) | exact v_iaddr rfl rfl rfl (by omega)); rfl) | refine wc_seq ?_ | refine wc_region ?_ | refine wx_nil ?_ | refine wq_next ?_ | refine wc_block ?_ | refine wc_ret ?_ | refine wc_skip ?_ | refine wc_exit ?_ | refine wq_then_ret ?_ | refine wq_then_exit ?_ | refine wq_block ?_ | refine wq_block_ret ?_ | refine wq_block_exit rfl ?_)); exact k.out) : A := h ⟨k⟩
def cmpI (a b : Int) : Int := if a < b then -1 else if b < a then 1 else 0
theorem isNaN_spec (a : Int) (w : World) : Calls Try.prog 89 #[.int .i64 a] w (Ret (β := Unit) w (ids []) (fun _ => .bool false) (fun _ => []) (fun _ => True)) := by
  refine go [.int .i64 a] [] Try.func89 Try.ntmps89 rfl rfl (own_nil w) ?_
  refine rCmp_0 ?_
  exact wq_ret1 () rfl (bool_val (by simp)) trivial rfl
theorem cmp_spec (a b : Int) (w : World) : Calls Try.prog 73 #[.int .i64 a, .int .i64 b] w (Ret (β := Unit) w (ids []) (fun _ => .int .i64 (cmpI a b)) (fun _ => []) (fun _ => True)) := by
  refine go [.int .i64 a, .int .i64 b] [] Try.func73 Try.ntmps73 rfl rfl (own_nil w) ?_
  repeat' (first | (apply wx_val; (first | exact v_move rfl | exact v_assign rfl | exact v_lt rfl rfl | exact v_gt rfl rfl); rfl) | refine wc_seq ?_ | refine wc_region ?_ | refine wx_nil ?_ | refine wq_next ?_ | refine wc_ret ?_ | refine wc_skip ?_ | refine wq_then_ret ?_ | refine wc_condF rfl ?_ | (apply wx_vcall; exact vc_pure rfl rfl (fun w' => isNaN_spec _ w'); rfl) | refine wc_if rfl (fun _ => ?_) (fun _ => ?_))
  all_goals exact wq_ret1 () rfl (by unfold cmpI; (repeat' split); all_goals (first | rfl | (exfalso; omega))) trivial rfl
def firstNZ : List Int → Int
  | [] => 0
  | x :: r => if x ≠ 0 then x else firstNZ r
theorem Or_spec {A : Option Addr} {c : Nat} {l : List Int} (hl : l.length ≤ 1048576) (w : World) (hv : Vw [] w A (nts l)) : Calls Try.prog 72 #[.slice A l.length c] w (Ret (β := Unit) w (ids []) (fun _ => .int .i64 (firstNZ l)) (fun _ => []) (fun _ => True)) := by
  refine go [.slice A l.length c] [] Try.func72 Try.ntmps72 rfl rfl (own_nil w) ?_
  refine rCmp_0 ?_
  refine wc_loop (ι := Nat) (fun i => [(3, .int .i64 0), (6, .slice A l.length c), (7, .int .i64 (l.length : Nat)), (8, .int .i64 (i : Nat))]) (fun _ => []) (fun i => i ≤ l.length ∧ firstNZ l = firstNZ (l.drop i)) (fun i => l.length - i) 0 ⟨Nat.zero_le _, rfl⟩ ⟨rfl, rfl, rfl, rfl, trivial⟩ rfl ?_
  rintro i ⟨hi, he⟩
  refine rCmp_0 ?_
  refine wc_if rfl (fun h1 => ?_) (fun h1 => ?_)
  · obtain ⟨a, ha⟩ : ∃ a, l[i]? = some a := ⟨l[i]'(by omega), List.getElem?_eq_getElem _⟩
    have hd : l.drop i = a :: l.drop (i + 1) := by
      obtain ⟨h5, rfl⟩ := List.getElem?_eq_some_iff.1 ha
      exact List.drop_eq_getElem_cons h5
    obtain ⟨g, o, rfl, hc⟩ := hv.at (i := i) (by simp [nts]; omega)
    refine rCmp_0 ?_
    apply wx_val
    exact v_ldx (v := .int .i64 a) rfl rfl rfl (fun w' hr => (hc i w' _ (by simp [nts]; omega) hr).trans (by simp [nts, (List.getElem?_eq_some_iff.1 ha).2])) (by omega)
    rfl
    rw [hd, firstNZ] at he
    refine rCmp_0 ?_
    refine wc_if rfl (fun h2 => ?_) (fun h2 => ?_)
    · rw [if_pos h2] at he
      rw [he]
      refine rCmp_0 ?_
      exact wq_ret1 () rfl rfl trivial rfl
    · rw [if_neg h2] at he
      refine rCmp_0 ?_
      exact wq_round (i + 1) ⟨by (try dsimp only); omega, he⟩ (by (try dsimp only); omega) ⟨rfl, rfl, rfl, rfl, trivial⟩ rfl
  · have hi' : i = l.length := by omega
    subst hi'
    rw [List.drop_length] at he
    rw [he]
    refine rCmp_0 ?_
    exact wq_ret1 () rfl rfl trivial rfl
theorem flat_snoc {α : Type} (f : α → List Value) (l : List α) (a : α) : l.flatMap f ++ f a = (l ++ [a]).flatMap f := by simp
theorem wl_appendS {P : Program} {ops : Array Oper} {Q : Exit → Act → World → Prop} {nt : Sh} {w0 : World} {X : List Nat} {fr : Fr} {M : List Seg} {rest : List Oper} {ty : TypeId} {pos : String} {af : Array Edge} {t : TypeId} {x y : Operand}
    (i : Nat) {α : Type} {f : α → List Value} (v : α) {l : List α} {d : Nat} {e sz bytes c g et : Nat} {fz : Nat × Nat} {A : Option Addr} {E : Seg} {cs : List Value} (hT : appT P t = some (e, sz, bytes)) (h0 : M[0]? = some [(g, .cells cs.toArray et fz)]) (hi : (M.drop 1)[i]? = some E) (hb : Buf e sz A l.length c (l.flatMap f) E)
    (hx : ev fr x = some (.slice A l.length c)) (hy : ev fr y = some (.slice (some ⟨g, 0, none⟩) 1 1)) (hcs : cs = f v) (hl : Nat.beq (f v).length sz = true) (h1 : (f v).all Value.oneCell' = true) (hbytes : (l.length + 1) * bytes ≤ 140737488355328) (hd : Nat.blt d nt.n = true)
    (h : ∀ A' c' E', Buf e sz A' (l ++ [v]).length c' ((l ++ [v]).flatMap f) E' → WX .seq P ops Q nt w0 X rest ((d, .slice A' (l ++ [v]).length c') :: fr) ((M.drop 1).set i E')) :
    WX .seq P ops Q nt w0 X (⟨some d, .call ⟨.builtin .append, #[x, y], #[t, t]⟩, ty, pos, af, none⟩ :: rest) fr M := by
  subst hcs
  have hM : M = [(g, .cells (f v).toArray et fz)] :: M.drop 1 := by
    cases M with
    | nil => simp at h0
    | cons a r => simp at h0; subst h0; rfl
  refine wl_append1 i hM hT hi hb hx hy (Nat.eq_of_beq_eq_true hl) (fun u hu => List.all_eq_true.1 h1 u hu) hbytes hd fun A' c' E' hb' => ?_
  have := h A' c' E' (by rw [List.length_append, ← flat_snoc]; exact hb')
  rw [List.length_append] at this
  exact this
theorem flat_len {α : Type} {f : α → List Value} {k : Nat} (hf : ∀ a, (f a).length = k) : ∀ l : List α, (l.flatMap f).length = l.length * k
  | [] => by simp
  | x :: r => by rw [List.flatMap_cons, List.length_append, hf, flat_len hf r, List.length_cons, Nat.add_mul, Nat.one_mul, Nat.add_comm]
theorem one_flat {α : Type} {f : α → List Value} (hf : ∀ a, (f a).all Value.oneCell' = true) (l : List α) : ∀ u, u ∈ l.flatMap f → u.oneCell' = true := fun u hu => by
  obtain ⟨a, _, h⟩ := List.mem_flatMap.1 hu
  exact List.all_eq_true.1 (hf a) u h
theorem flat_dt {α : Type} {f : α → List Value} {k : Nat} (hf : ∀ a, (f a).length = k) (l : List α) (a b : Nat) : ((l.flatMap f).drop (a * k)).take (b * k) = ((l.drop a).take b).flatMap f := by
  have h1 : ∀ (l : List α) (a : Nat), (l.flatMap f).drop (a * k) = (l.drop a).flatMap f := by
    intro l
    induction l with
    | nil => intro a; simp
    | cons x r ih =>
      intro a
      cases a with
      | zero => simp
      | succ a =>
        rw [List.flatMap_cons, Nat.add_mul, Nat.one_mul, Nat.add_comm, ← hf x, List.drop_length_add_append, hf x, ih]; rfl
  have h2 : ∀ (l : List α) (b : Nat), (l.flatMap f).take (b * k) = (l.take b).flatMap f := by
    intro l
    induction l with
    | nil => intro a; simp
    | cons x r ih =>
      intro b
      cases b with
      | zero => simp
      | succ b =>
        rw [List.flatMap_cons, Nat.add_mul, Nat.one_mul, Nat.add_comm, ← hf x, List.take_length_add_append, hf x, ih]; rfl
  rw [h1, h2]
end Go.Proofs.Ytlioccfedophhaa
/- Violations as values; two lists of them compared (in a law that has same). -/
set_option linter.unusedVariables false
set_option linter.unusedSimpArgs false
namespace Go.Proofs.Ytlioccfedophhaa
open Go
set_option maxRecDepth 20000
set_option maxHeartbeats 2000000
attribute [local irreducible] WX WC WQ Val VCall
theorem rSwV_0 {A B : Prop} (k : B) (h : Hold B → A := by intro k; (repeat (first | (apply wx_val; (first | exact v_move rfl | exact v_assign rfl | exact v_len rfl rfl | exact v_ne rfl rfl | exact v_lt rfl rfl | exact v_addi rfl rfl (by omega) | exact v_iaddr rfl rfl rfl (by omega) | (first | exact v_ldA 0 0 rfl rfl rfl rfl)); rfl) | refine wc_seq ?_ | refine wc_region ?_ | refine wx_nil ?_ | refine wq_next ?_ | refine wc_block ?_ | refine wc_ret ?_ | refine wc_skip ?_ | refine wc_exit ?_ | refine wq_then_ret ?_ | refine wq_then_exit ?_ | refine wq_block ?_ | refine wq_block_ret ?_ | refine wq_block_exit rfl ?_ | refine wc_reads rfl (by decide +kernel) ?_ | refine wl_stA 0 rfl rfl rfl rfl rfl (.inl (Nat.le_refl _)) rfl ?_)); exact k.out) : A := h ⟨k⟩
structure ViolW where
  kind : Int
  time : Int
  txn : Int
  op : Int
  witness : Int
  key : ByteArray
  want : Bool
  expected : ByteArray
  got : Bool
  observed : ByteArray
  fro : Int
  to : Int
def ViolW.cells (v : ViolW) : List Value := [.int .i64 v.kind, .int .i64 v.time, .int .i64 v.txn, .int .i64 v.op, .int .i64 v.witness, .string v.key, .bool v.want, .string v.expected, .bool v.got, .string v.observed, .int .i64 v.fro, .int .i64 v.to]
theorem ViolW.eq_iff (a b : ViolW) : eqL a.cells b.cells = true ↔ a = b := by
  cases a; cases b
  simp [ViolW.cells, eqL, eqV]
instance : DecidableEq ViolW := fun a b => decidable_of_iff _ (ViolW.eq_iff a b)
theorem ViolW.eqL (a b : ViolW) : eqL a.cells b.cells = decide (a = b) := by
  rw [Bool.eq_iff_iff, decide_eq_true_eq]; exact ViolW.eq_iff a b
theorem take_eq_step {α : Type} {a b : List α} {i : Nat} {x y : α} (ht : a.take i = b.take i) (hx : a[i]? = some x) (hy : b[i]? = some y) (h : x = y) : a.take (i + 1) = b.take (i + 1) := by
  rw [List.take_add_one, List.take_add_one, hx, hy, ht, h]
theorem violSame_spec {A B : Option Addr} {ca cb : Nat} {a b : List ViolW} (ha : a.length ≤ 9223372036854775806) (w : World) (hva : Vw [] w A (a.flatMap ViolW.cells)) (hvb : Vw [] w B (b.flatMap ViolW.cells)) :
    Calls Try.prog 17 #[.slice A a.length ca, .slice B b.length cb] w (Ret (β := Unit) w (ids []) (fun _ => .bool (decide (a = b))) (fun _ => []) (fun _ => True)) := by
  refine go [.slice A a.length ca, .slice B b.length cb] [] Try.func17 Try.ntmps17 rfl rfl (own_nil w) ?_
  refine rSwV_0 ?_
  refine wc_if rfl (fun h1 => ?_) (fun h1 => ?_)
  · rw [decide_eq_false (by rintro rfl; exact h1 rfl)]
    refine rSwV_0 ?_
    exact wq_ret1 () rfl rfl trivial rfl
  · have hl : a.length = b.length := by omega
    refine rSwV_0 ?_
    refine wc_loop (ι := Nat) (fun i => [(12, .slice A a.length ca), (13, .int .i64 (a.length : Int)), (14, .int .i64 (i : Int)), (1, .slice B b.length cb)]) (fun _ => []) (fun i => i ≤ a.length ∧ a.take i = b.take i) (fun i => a.length - i) 0 ⟨by omega, by simp⟩ ⟨rfl, rfl, rfl, rfl, trivial⟩ rfl ?_
    rintro i ⟨hi, ht⟩
    refine rSwV_0 ?_
    refine wc_if rfl (fun h2 => ?_) (fun h2 => ?_)
    · obtain ⟨x, hx⟩ : ∃ x, a[i]? = some x := ⟨a[i]'(by omega), List.getElem?_eq_getElem _⟩
      obtain ⟨y, hy⟩ : ∃ y, b[i]? = some y := ⟨b[i]'(by omega), List.getElem?_eq_getElem _⟩
      obtain ⟨g1, o1, rfl, hc1⟩ := cells_at (k := 12) (by decide) (fun _ => rfl) hva hx
      obtain ⟨g2, o2, rfl, hc2⟩ := cells_at (k := 12) (by decide) (fun _ => rfl) hvb hy
      refine rSwV_0 ?_
      apply wx_val
      exact v_loadA (cs := x.cells) rfl rfl (fun w' hr j v hj => hc1 i x hx hr j v hj)
      rfl
      refine wl_alloc rfl rfl (fun g => ?_)
      refine rSwV_0 ?_
      apply wx_val
      exact v_loadA (cs := y.cells) rfl rfl (fun w' hr j v hj => hc2 i y hy hr j v hj)
      rfl
      apply wx_val
      exact v_neA (xs := x.cells) (ys := y.cells) rfl rfl (by kernel_rfl)
      rfl
      refine rSwV_0 ?_
      refine wc_bool rfl (fun h3 => ?_) (fun h3 => ?_)
      · have h3' : eqL x.cells y.cells = false := by simpa using h3
        rw [decide_eq_false (by
          rintro rfl
          rw [hx] at hy; cases hy
          rw [(ViolW.eq_iff x x).2 rfl] at h3'; cases h3')]
        refine rSwV_0 ?_
        exact wq_clear (wq_ret1 () rfl rfl trivial rfl)
      · have h3' : eqL x.cells y.cells = true := by simpa using h3
        refine rSwV_0 ?_
        refine wq_clear ?_
        exact wq_round (i + 1) ⟨by (try dsimp only); omega, take_eq_step ht hx hy ((ViolW.eq_iff _ _).1 h3')⟩ (by (try dsimp only); omega) ⟨rfl, rfl, rfl, rfl, trivial⟩ rfl
    · rw [decide_eq_true (by rw [List.take_of_length_le (by omega), List.take_of_length_le (by omega)] at ht; exact ht)]
      refine rSwV_0 ?_
      exact wq_ret1 () rfl rfl trivial rfl
end Go.Proofs.Ytlioccfedophhaa
/- Transactions as values; the two tests of an operation. -/
set_option linter.unusedVariables false
set_option linter.unusedSimpArgs false
namespace Go.Proofs.Ytlioccfedophhaa
open Go
set_option maxRecDepth 20000
set_option maxHeartbeats 2000000
attribute [local irreducible] WX WC WQ Val VCall
structure OpW where
  kind : Int
  key : ByteArray
  found : Bool
  value : ByteArray
def OpW.cells (o : OpW) : List Value := [.int .i64 o.kind, .string o.key, .bool o.found, .string o.value]
def OpW.Right (o : OpW) : Prop := 1 ≤ o.key.size ∧ o.key.size ≤ 8 ∧ o.value.size ≤ 16 ∧
  ((o.kind = 1 ∧ (o.found = true ∨ o.value.size = 0)) ∨ (o.kind = 2 ∧ o.found = true) ∨ (o.kind = 3 ∧ o.found = false ∧ o.value.size = 0))
instance (o : OpW) : Decidable o.Right := inferInstanceAs (Decidable (_ ∧ _))
theorem empty_iff (v : ByteArray) : v = ByteArray.mk #[] ↔ v.size = 0 := by
  constructor
  · rintro rfl; rfl
  · intro h
    have : v.data = #[] := Array.eq_empty_of_size_eq_zero h
    cases v; simp at this; rw [this]
theorem bad_spec (n m : Int) (w : World) :
    Calls Try.prog 44 #[.int .i64 n, .int .i64 m] w (Ret (β := Unit) w (ids []) (fun _ => .bool (!decide (0 ≤ n ∧ n ≤ m))) (fun _ => []) (fun _ => True)) := by
  refine go [.int .i64 n, .int .i64 m] [] Try.func44 Try.ntmps44 rfl rfl (own_nil w) ?_
  repeat' (first | (apply wx_val; (first | exact v_move rfl | exact v_assign rfl | exact v_lt rfl rfl | exact v_gt rfl rfl | exact v_pickT rfl rfl | exact v_pickF rfl rfl); rfl) | refine wx_no rfl rfl rfl ?_ | refine wx_ungd rfl rfl ?_ | refine wc_seq ?_ | refine wc_region ?_ | refine wx_nil ?_ | refine wq_next ?_ | refine wc_ret ?_ | refine wx_gif rfl rfl (fun _ => ?_) (fun _ => ?_))
  all_goals exact wq_ret1 () rfl (bool_val (by rw [Bool.eq_iff_iff]; simp only [Bool.not_eq_true', decide_eq_true_eq, decide_eq_false_iff_not, Bool.false_eq_true, true_iff, false_iff]; omega)) trivial rfl
theorem within_spec (n m : Int) (w : World) :
    Calls Try.prog 63 #[.int .i64 n, .int .i64 m] w (Ret (β := Unit) w (ids []) (fun _ => .bool (decide (0 ≤ n ∧ n ≤ m))) (fun _ => []) (fun _ => True)) := by
  refine go [.int .i64 n, .int .i64 m] [] Try.func63 Try.ntmps63 rfl rfl (own_nil w) ?_
  repeat' (first | (apply wx_val; (first | exact v_move rfl | exact v_assign rfl | exact v_le rfl rfl | exact v_ge rfl rfl | exact v_pickT rfl rfl | exact v_pickF rfl rfl); rfl) | refine wx_no rfl rfl rfl ?_ | refine wx_ungd rfl rfl ?_ | refine wc_seq ?_ | refine wc_region ?_ | refine wx_nil ?_ | refine wq_next ?_ | refine wc_ret ?_ | refine wx_gif rfl rfl (fun _ => ?_) (fun _ => ?_))
  all_goals exact wq_ret1 () rfl (bool_val (by rw [Bool.eq_iff_iff]; simp only [Bool.not_eq_true', decide_eq_true_eq, decide_eq_false_iff_not, Bool.false_eq_true, true_iff, false_iff]; omega)) trivial rfl
theorem RightOp_spec (o : OpW) (w : World) :
    Calls Try.prog 45 #[.agg o.cells.toArray] w (Ret (β := Unit) w (ids []) (fun _ => .bool (decide o.Right)) (fun _ => []) (fun _ => True)) := by
  obtain ⟨k, key, found, value⟩ := o
  refine go [.agg (OpW.cells ⟨k, key, found, value⟩).toArray] [] Try.func45 Try.ntmps45 rfl rfl (own_nil w) ?_
  repeat (first | refine wc_seq ?_ | refine wc_region ?_)
  cases found
  case false =>
    refine wl_box rfl rfl (fun g => ?_)
    repeat' (first | (apply wx_val; (first | exact v_move rfl | exact v_assign rfl | exact v_faddr rfl rfl | (apply v_load rfl rfl rfl; first | exact ld 0 0 rfl rfl rfl | exact ld 1 0 rfl rfl rfl | exact ld 2 0 rfl rfl rfl | exact ld 3 0 rfl rfl rfl | exact ld 4 0 rfl rfl rfl | exact ld 5 0 rfl rfl rfl) | exact v_slen rfl rfl | exact v_eq rfl rfl | exact v_gt rfl rfl | exact v_not rfl | exact v_pickT rfl rfl | exact v_pickF rfl rfl); rfl) | refine wx_no rfl rfl rfl ?_ | refine wx_ungd rfl rfl ?_ | refine wc_seq ?_ | refine wc_region ?_ | refine wx_nil ?_ | refine wq_next ?_ | refine wc_ret ?_ | refine wc_skip ?_ | refine wq_then_ret ?_ | refine wc_condT rfl ?_ | refine wc_if rfl (fun _ => ?_) (fun _ => ?_) | refine wx_gif rfl rfl (fun _ => ?_) (fun _ => ?_))
    all_goals (try simp only [empty_iff] at *)
    all_goals exact wq_clear (wq_ret1 () rfl (bool_val (by rw [Bool.eq_iff_iff]; simp only [OpW.Right, decide_eq_true_eq, true_or, or_true, and_true, and_false, false_or, or_false, reduceCtorEq, Bool.false_eq_true, false_iff, true_iff, empty_iff, true_and, false_and]; omega)) trivial rfl)
  case true =>
    refine wl_box rfl rfl (fun g => ?_)
    repeat' (first | (apply wx_val; (first | exact v_move rfl | exact v_assign rfl | exact v_faddr rfl rfl | (apply v_load rfl rfl rfl; first | exact ld 0 0 rfl rfl rfl | exact ld 1 0 rfl rfl rfl | exact ld 2 0 rfl rfl rfl | exact ld 3 0 rfl rfl rfl | exact ld 4 0 rfl rfl rfl | exact ld 5 0 rfl rfl rfl) | exact v_slen rfl rfl | exact v_eq rfl rfl | exact v_gt rfl rfl | exact v_not rfl | exact v_pickT rfl rfl | exact v_pickF rfl rfl); rfl) | refine wx_no rfl rfl rfl ?_ | refine wx_ungd rfl rfl ?_ | refine wc_seq ?_ | refine wc_region ?_ | refine wx_nil ?_ | refine wq_next ?_ | refine wc_ret ?_ | refine wc_skip ?_ | refine wq_then_ret ?_ | refine wc_condT rfl ?_ | refine wc_if rfl (fun _ => ?_) (fun _ => ?_) | refine wx_gif rfl rfl (fun _ => ?_) (fun _ => ?_))
    all_goals (try simp only [empty_iff] at *)
    all_goals exact wq_clear (wq_ret1 () rfl (bool_val (by rw [Bool.eq_iff_iff]; simp only [OpW.Right, decide_eq_true_eq, true_or, or_true, and_true, and_false, false_or, or_false, reduceCtorEq, Bool.false_eq_true, false_iff, true_iff, empty_iff, true_and, false_and]; omega)) trivial rfl)
theorem rightOp_spec (o : OpW) (w : World) :
    Calls Try.prog 64 #[.agg o.cells.toArray] w (Ret (β := Unit) w (ids []) (fun _ => .bool (decide o.Right)) (fun _ => []) (fun _ => True)) := by
  obtain ⟨k, key, found, value⟩ := o
  refine go [.agg (OpW.cells ⟨k, key, found, value⟩).toArray] [] Try.func64 Try.ntmps64 rfl rfl (own_nil w) ?_
  repeat (first | refine wc_seq ?_ | refine wc_region ?_)
  cases found
  case false =>
    refine wl_box rfl rfl (fun g => ?_)
    repeat' (first | (apply wx_val; (first | exact v_move rfl | exact v_assign rfl | exact v_faddr rfl rfl | (apply v_load rfl rfl rfl; first | exact ld 0 0 rfl rfl rfl | exact ld 1 0 rfl rfl rfl | exact ld 2 0 rfl rfl rfl | exact ld 3 0 rfl rfl rfl | exact ld 4 0 rfl rfl rfl | exact ld 5 0 rfl rfl rfl) | exact v_slen rfl rfl | exact v_eq rfl rfl | exact v_lt rfl rfl | exact v_gt rfl rfl | exact v_streq rfl rfl | exact v_pickT rfl rfl | exact v_pickF rfl rfl); rfl) | refine wx_no rfl rfl rfl ?_ | refine wx_ungd rfl rfl ?_ | refine wc_seq ?_ | refine wc_region ?_ | refine wx_nil ?_ | refine wq_next ?_ | refine wc_block ?_ | refine wc_ret ?_ | refine wc_skip ?_ | refine wc_exit ?_ | refine wq_then_ret ?_ | refine wq_then_exit ?_ | refine wq_block ?_ | refine wq_block_ret ?_ | refine wq_block_exit rfl ?_ | refine wq_block_pass rfl ?_ | refine wc_condT rfl ?_ | refine wc_condF rfl ?_ | refine wc_if rfl (fun _ => ?_) (fun _ => ?_) | refine wx_gif rfl rfl (fun _ => ?_) (fun _ => ?_))
    all_goals (try simp only [empty_iff] at *)
    all_goals exact wq_clear (wq_ret1 () rfl (bool_val (by rw [Bool.eq_iff_iff]; simp only [OpW.Right, decide_eq_true_eq, true_or, or_true, and_true, and_false, false_or, or_false, reduceCtorEq, Bool.false_eq_true, false_iff, true_iff, empty_iff, true_and, false_and]; omega)) trivial rfl)
  case true =>
    refine wl_box rfl rfl (fun g => ?_)
    repeat' (first | (apply wx_val; (first | exact v_move rfl | exact v_assign rfl | exact v_faddr rfl rfl | (apply v_load rfl rfl rfl; first | exact ld 0 0 rfl rfl rfl | exact ld 1 0 rfl rfl rfl | exact ld 2 0 rfl rfl rfl | exact ld 3 0 rfl rfl rfl | exact ld 4 0 rfl rfl rfl | exact ld 5 0 rfl rfl rfl) | exact v_slen rfl rfl | exact v_eq rfl rfl | exact v_lt rfl rfl | exact v_gt rfl rfl | exact v_pickT rfl rfl | exact v_pickF rfl rfl); rfl) | refine wx_no rfl rfl rfl ?_ | refine wx_ungd rfl rfl ?_ | refine wc_seq ?_ | refine wc_region ?_ | refine wx_nil ?_ | refine wq_next ?_ | refine wc_block ?_ | refine wc_ret ?_ | refine wc_skip ?_ | refine wc_exit ?_ | refine wq_then_ret ?_ | refine wq_then_exit ?_ | refine wq_block_ret ?_ | refine wq_block_exit rfl ?_ | refine wq_block_pass rfl ?_ | refine wc_condT rfl ?_ | refine wc_if rfl (fun _ => ?_) (fun _ => ?_) | refine wx_gif rfl rfl (fun _ => ?_) (fun _ => ?_))
    all_goals (try simp only [empty_iff] at *)
    all_goals exact wq_clear (wq_ret1 () rfl (bool_val (by rw [Bool.eq_iff_iff]; simp only [OpW.Right, decide_eq_true_eq, true_or, or_true, and_true, and_false, false_or, or_false, reduceCtorEq, Bool.false_eq_true, false_iff, true_iff, empty_iff, true_and, false_and]; omega)) trivial rfl)
end Go.Proofs.Ytlioccfedophhaa
/- The test of a transaction. -/
set_option linter.unusedVariables false
set_option linter.unusedSimpArgs false
namespace Go.Proofs.Ytlioccfedophhaa
open Go
set_option maxRecDepth 20000
set_option maxHeartbeats 2000000
attribute [local irreducible] WX WC WQ Val VCall
theorem rRec2_0 {A B : Prop} (k : B) (h : Hold B → A := by intro k; (repeat (first | (apply wx_val; (first | exact v_move rfl | exact v_assign rfl | exact v_faddr rfl rfl | (apply v_load rfl rfl rfl; first | exact ld 0 0 rfl rfl rfl | exact ld 1 0 rfl rfl rfl | exact ld 2 0 rfl rfl rfl | exact ld 3 0 rfl rfl rfl | exact ld 4 0 rfl rfl rfl | exact ld 5 0 rfl rfl rfl) | exact v_len rfl rfl | exact v_lt rfl rfl | exact v_addi rfl rfl (by omega) | exact v_not rfl | (first | exact v_ldA 0 0 rfl rfl rfl rfl)); rfl) | refine wc_seq ?_ | refine wc_region ?_ | refine wx_nil ?_ | refine wq_next ?_ | refine wc_block ?_ | refine wc_ret ?_ | refine wc_skip ?_ | refine wc_exit ?_ | refine wq_then_ret ?_ | refine wq_then_exit ?_ | refine wq_block ?_ | refine wq_block_ret ?_ | refine wq_block_exit rfl ?_)); exact k.out) : A := h ⟨k⟩
structure TxnW where
  session : Int
  seq : Int
  start : Int
  fin : Int
  invoke : Int
  ret : Int
  status : Int
  ops : LstV OpW
def TxnW.cells (t : TxnW) : List Value := [.int .i64 t.session, .int .i64 t.seq, .int .i64 t.start, .int .i64 t.fin, .int .i64 t.invoke, .int .i64 t.ret, .int .i64 t.status, .slice t.ops.A t.ops.xs.length t.ops.c]
def TxnW.FieldsOk (t : TxnW) : Prop := (0 ≤ t.session ∧ t.session ≤ 1048575) ∧ (0 ≤ t.seq ∧ t.seq ≤ 1048575) ∧ (0 ≤ t.start ∧ t.start ≤ 1099511627776) ∧ (0 ≤ t.fin ∧ t.fin ≤ 1099511627776) ∧ (0 ≤ t.invoke ∧ t.invoke ≤ 1099511627776) ∧ (0 ≤ t.ret ∧ t.ret ≤ 1099511627776) ∧ (0 ≤ t.status ∧ t.status ≤ 1)
instance (t : TxnW) : Decidable t.FieldsOk := inferInstanceAs (Decidable (_ ∧ _))
def TxnW.err (t : TxnW) : Int := if ¬ t.FieldsOk then 62 else if 16 < t.ops.xs.length then 63 else if ∀ o ∈ t.ops.xs, o.Right then 0 else 64
/-- the operations can be read -/
def TxnW.Reads (w : World) (t : TxnW) : Prop := Vw [] w t.ops.A (t.ops.xs.flatMap OpW.cells)
theorem err62 {t : TxnW} (h : ¬ t.FieldsOk) : t.err = 62 := if_pos h
theorem err63 {t : TxnW} (h : t.FieldsOk) (h2 : 16 < t.ops.xs.length) : t.err = 63 := by rw [TxnW.err, if_neg (by simpa using h), if_pos h2]
theorem err64 {t : TxnW} (h : t.FieldsOk) (h2 : t.ops.xs.length ≤ 16) {o : OpW} (ho : o ∈ t.ops.xs) (hr : ¬ o.Right) : t.err = 64 := by
  rw [TxnW.err, if_neg (by simpa using h), if_neg (by omega), if_neg (fun h => hr (h o ho))]
theorem err0 {t : TxnW} (h : t.FieldsOk) (h2 : t.ops.xs.length ≤ 16) (hr : ∀ o ∈ t.ops.xs, o.Right) : t.err = 0 := by
  rw [TxnW.err, if_neg (by simpa using h), if_neg (by omega), if_pos hr]
theorem refValid_spec (t : TxnW) (w : World) (hv : t.Reads w) :
    Calls Try.prog 26 #[.agg t.cells.toArray] w (Ret (β := Unit) w (ids []) (fun _ => .int .i64 t.err) (fun _ => []) (fun _ => True)) := by
  refine go [.agg t.cells.toArray] [] Try.func26 Try.ntmps26 rfl rfl (own_nil w) ?_
  refine rRec2_0 ?_
  refine wl_box rfl rfl (fun g => ?_)
  repeat' (first | (apply wx_val; (first | exact v_move rfl | exact v_assign rfl | exact v_faddr rfl rfl | (apply v_load rfl rfl rfl; first | exact ld 0 0 rfl rfl rfl | exact ld 1 0 rfl rfl rfl | exact ld 2 0 rfl rfl rfl | exact ld 3 0 rfl rfl rfl | exact ld 4 0 rfl rfl rfl | exact ld 5 0 rfl rfl rfl) | exact v_len rfl rfl | exact v_gt rfl rfl | exact v_pickT rfl rfl | exact v_pickF rfl rfl); rfl) | refine wx_no rfl rfl rfl ?_ | refine wx_ungd rfl rfl ?_ | refine wc_seq ?_ | refine wc_region ?_ | refine wx_nil ?_ | refine wq_next ?_ | refine wc_block ?_ | refine wc_ret ?_ | refine wc_skip ?_ | refine wq_then_ret ?_ | refine wc_condT rfl ?_ | (apply wx_vcall; exact vc_pure rfl rfl (fun w' => bad_spec _ _ w'); rfl) | refine wc_if rfl (fun _ => ?_) (fun _ => ?_) | refine wc_nif rfl (fun _ => ?_) (fun _ => ?_) | refine wx_gnif rfl rfl (fun _ => ?_) (fun _ => ?_))
  all_goals (try exact wq_clear (wq_ret1 () rfl (by rw [err62 (by unfold TxnW.FieldsOk; omega)]; rfl) trivial rfl))
  · rw [err63 (by unfold TxnW.FieldsOk; omega) (by omega)]
    exact wq_clear (wq_ret1 () rfl rfl trivial rfl)
  have hf : t.FieldsOk := by unfold TxnW.FieldsOk; omega
  have hl : t.ops.xs.length ≤ 16 := by omega
  refine wc_loop (ι := Nat) (fun i => [(1, .pointer (some ⟨g, 0, none⟩)), (3, .int .i64 (i : Nat))]) (fun _ => [[(g, .cells t.cells.toArray 47 (0, 0))]]) (fun i => i ≤ t.ops.xs.length ∧ ∀ o ∈ t.ops.xs.take i, o.Right) (fun i => t.ops.xs.length - i) 0 ⟨Nat.zero_le _, by simp⟩ ⟨rfl, rfl, trivial⟩ rfl ?_
  rintro i ⟨hi, hr⟩
  refine rRec2_0 ?_
  refine wc_if rfl (fun h1 => ?_) (fun h1 => ?_)
  · obtain ⟨a, ha⟩ : ∃ a, t.ops.xs[i]? = some a := ⟨t.ops.xs[i]'(by omega), List.getElem?_eq_getElem _⟩
    obtain ⟨gB, oB, hA, hcell⟩ := cells_at (k := 4) (by decide) (fun _ => rfl) hv ha
    refine rRec2_0 ?_
    apply wx_val
    exact v_iaddr rfl (by rw [← hA]; rfl) rfl (by omega)
    rfl
    apply wx_val
    exact v_loadA (cs := OpW.cells a) rfl rfl (fun w' hr j v hj => by
      have := hcell i a ha hr j v hj
      rw [show (i : Int).toNat = i by omega]
      exact this)
    rfl
    refine wx_vcall (vc_pure rfl rfl (fun w' => RightOp_spec a w')) rfl ?_
    refine rRec2_0 ?_
    refine wc_nif rfl (fun h2 => ?_) (fun h2 => ?_)
    · refine rRec2_0 ?_
      refine wq_round (i + 1) ⟨by (try dsimp only); omega, fun o ho => ?_⟩ (by (try dsimp only); omega) ⟨rfl, rfl, trivial⟩ rfl
      rw [List.take_add_one, ha] at ho
      rcases List.mem_append.1 ho with ho | ho
      · exact hr o ho
      · obtain rfl : o = a := by simpa using ho
        exact h2
    · rw [err64 hf hl (List.mem_of_getElem? ha) h2]
      refine rRec2_0 ?_
      exact wq_clear (wq_ret1 () rfl rfl trivial rfl)
  · rw [err0 hf hl (by rw [List.take_of_length_le (by omega)] at hr; exact hr)]
    refine rRec2_0 ?_
    exact wq_clear (wq_ret1 () rfl rfl trivial rfl)
theorem recValid_spec (t : TxnW) (w : World) (hv : t.Reads w) :
    Calls Try.prog 40 #[.agg t.cells.toArray] w (Ret (β := Unit) w (ids []) (fun _ => .int .i64 t.err) (fun _ => []) (fun _ => True)) := by
  refine go [.agg t.cells.toArray] [] Try.func40 Try.ntmps40 rfl rfl (own_nil w) ?_
  refine rRec2_0 ?_
  refine wl_box rfl rfl (fun g => ?_)
  repeat' (first | (apply wx_val; (first | exact v_move rfl | exact v_assign rfl | exact v_faddr rfl rfl | (apply v_load rfl rfl rfl; first | exact ld 0 0 rfl rfl rfl | exact ld 1 0 rfl rfl rfl | exact ld 2 0 rfl rfl rfl | exact ld 3 0 rfl rfl rfl | exact ld 4 0 rfl rfl rfl | exact ld 5 0 rfl rfl rfl) | exact v_not rfl | exact v_pickT rfl rfl | exact v_pickF rfl rfl); rfl) | refine wx_no rfl rfl rfl ?_ | refine wx_ungd rfl rfl ?_ | refine wc_seq ?_ | refine wc_region ?_ | refine wx_nil ?_ | refine wq_next ?_ | refine wc_ret ?_ | refine wc_skip ?_ | refine wq_then_ret ?_ | refine wc_condT rfl ?_ | (apply wx_vcall; exact vc_pure rfl rfl (fun w' => within_spec _ _ w'); rfl) | refine wc_nif rfl (fun _ => ?_) (fun _ => ?_) | refine wx_gnif rfl rfl (fun _ => ?_) (fun _ => ?_))
  all_goals (try exact wq_clear (wq_ret1 () rfl (by rw [err62 (by unfold TxnW.FieldsOk; omega)]; rfl) trivial rfl))
  (try refine wx_ungd rfl rfl ?_)
  apply wx_val
  exact v_build (cs := ([.int .i64 t.start, .int .i64 t.fin, .int .i64 t.invoke, .int .i64 t.ret]).toArray) rfl (by kernel_rfl)
  rfl
  repeat (first | (apply wx_val; (first | exact v_move rfl); rfl) | refine wx_nil ?_ | refine wq_next ?_ | refine wc_block ?_)
  refine wc_loop (ι := Nat) (fun i => [(1, .pointer (some ⟨g, 0, none⟩)), (31, .agg [.int .i64 t.start, .int .i64 t.fin, .int .i64 t.invoke, .int .i64 t.ret].toArray), (32, .int .i64 (i : Nat))]) (fun _ => [[(g, .cells t.cells.toArray 47 (0, 0))]]) (fun i => i ≤ 4 ∧ (0 < i → 0 ≤ t.start ∧ t.start ≤ 1099511627776) ∧ (1 < i → 0 ≤ t.fin ∧ t.fin ≤ 1099511627776) ∧ (2 < i → 0 ≤ t.invoke ∧ t.invoke ≤ 1099511627776) ∧ (3 < i → 0 ≤ t.ret ∧ t.ret ≤ 1099511627776)) (fun i => 4 - i) 0 (by simp) ⟨rfl, rfl, rfl, trivial⟩ rfl ?_
  rintro i ⟨hi, hs1, hs2, hs3, hs4⟩
  obtain rfl | rfl | rfl | rfl | rfl : i = 0 ∨ i = 1 ∨ i = 2 ∨ i = 3 ∨ i = 4 := by omega
  · repeat' (first | (apply wx_val; (first | exact v_move rfl | exact v_assign rfl | exact v_lt rfl rfl | exact v_addi rfl rfl (by omega) | exact v_not rfl | exact v_idxP rfl rfl rfl (by omega) rfl); rfl) | refine wc_seq ?_ | refine wc_region ?_ | refine wx_nil ?_ | refine wq_next ?_ | refine wc_block ?_ | refine wc_ret ?_ | refine wc_skip ?_ | refine wq_then_ret ?_ | refine wq_block ?_ | refine wq_block_ret ?_ | refine wc_condT rfl ?_ | (apply wx_vcall; exact vc_pure rfl rfl (fun w' => within_spec _ _ w'); rfl) | refine wc_nif rfl (fun _ => ?_) (fun _ => ?_))
    · refine wq_round 1 (by omega) (by (try dsimp only); omega) ⟨rfl, rfl, rfl, trivial⟩ rfl
    · exact wq_clear (wq_ret1 () rfl (by rw [err62 (by unfold TxnW.FieldsOk; omega)]; rfl) trivial rfl)
  · repeat' (first | (apply wx_val; (first | exact v_move rfl | exact v_assign rfl | exact v_lt rfl rfl | exact v_addi rfl rfl (by omega) | exact v_not rfl | exact v_idxP rfl rfl rfl (by omega) rfl); rfl) | refine wc_seq ?_ | refine wc_region ?_ | refine wx_nil ?_ | refine wq_next ?_ | refine wc_block ?_ | refine wc_ret ?_ | refine wc_skip ?_ | refine wq_then_ret ?_ | refine wq_block ?_ | refine wq_block_ret ?_ | refine wc_condT rfl ?_ | (apply wx_vcall; exact vc_pure rfl rfl (fun w' => within_spec _ _ w'); rfl) | refine wc_nif rfl (fun _ => ?_) (fun _ => ?_))
    · refine wq_round 2 (by omega) (by (try dsimp only); omega) ⟨rfl, rfl, rfl, trivial⟩ rfl
    · exact wq_clear (wq_ret1 () rfl (by rw [err62 (by unfold TxnW.FieldsOk; omega)]; rfl) trivial rfl)
  · repeat' (first | (apply wx_val; (first | exact v_move rfl | exact v_assign rfl | exact v_lt rfl rfl | exact v_addi rfl rfl (by omega) | exact v_not rfl | exact v_idxP rfl rfl rfl (by omega) rfl); rfl) | refine wc_seq ?_ | refine wc_region ?_ | refine wx_nil ?_ | refine wq_next ?_ | refine wc_block ?_ | refine wc_ret ?_ | refine wc_skip ?_ | refine wq_then_ret ?_ | refine wq_block ?_ | refine wq_block_ret ?_ | refine wc_condT rfl ?_ | (apply wx_vcall; exact vc_pure rfl rfl (fun w' => within_spec _ _ w'); rfl) | refine wc_nif rfl (fun _ => ?_) (fun _ => ?_))
    · refine wq_round 3 (by omega) (by (try dsimp only); omega) ⟨rfl, rfl, rfl, trivial⟩ rfl
    · exact wq_clear (wq_ret1 () rfl (by rw [err62 (by unfold TxnW.FieldsOk; omega)]; rfl) trivial rfl)
  · repeat' (first | (apply wx_val; (first | exact v_move rfl | exact v_assign rfl | exact v_lt rfl rfl | exact v_addi rfl rfl (by omega) | exact v_not rfl | exact v_idxP rfl rfl rfl (by omega) rfl); rfl) | refine wc_seq ?_ | refine wc_region ?_ | refine wx_nil ?_ | refine wq_next ?_ | refine wc_block ?_ | refine wc_ret ?_ | refine wc_skip ?_ | refine wq_then_ret ?_ | refine wq_block ?_ | refine wq_block_ret ?_ | refine wc_condT rfl ?_ | (apply wx_vcall; exact vc_pure rfl rfl (fun w' => within_spec _ _ w'); rfl) | refine wc_nif rfl (fun _ => ?_) (fun _ => ?_))
    · refine wq_round 4 (by omega) (by (try dsimp only); omega) ⟨rfl, rfl, rfl, trivial⟩ rfl
    · exact wq_clear (wq_ret1 () rfl (by rw [err62 (by unfold TxnW.FieldsOk; omega)]; rfl) trivial rfl)
  repeat' (first | (apply wx_val; (first | exact v_move rfl | exact v_assign rfl | exact v_faddr rfl rfl | (apply v_load rfl rfl rfl; first | exact ld 0 0 rfl rfl rfl | exact ld 1 0 rfl rfl rfl | exact ld 2 0 rfl rfl rfl | exact ld 3 0 rfl rfl rfl | exact ld 4 0 rfl rfl rfl | exact ld 5 0 rfl rfl rfl) | exact v_len rfl rfl | exact v_lt rfl rfl | exact v_gt rfl rfl); rfl) | refine wc_seq ?_ | refine wc_region ?_ | refine wx_nil ?_ | refine wq_next ?_ | refine wc_block ?_ | refine wc_ret ?_ | refine wc_skip ?_ | refine wc_exit ?_ | refine wq_then_ret ?_ | refine wq_then_exit ?_ | refine wq_block_exit rfl ?_ | refine wc_condF rfl ?_ | refine wc_if rfl (fun _ => ?_) (fun _ => ?_))
  · rw [err63 (by unfold TxnW.FieldsOk; omega) (by omega)]
    exact wq_clear (wq_ret1 () rfl rfl trivial rfl)
  have hf : t.FieldsOk := by unfold TxnW.FieldsOk; omega
  have hl : t.ops.xs.length ≤ 16 := by omega
  refine wc_clear ?_
  refine wc_loop (ι := Nat) (fun i => [(44, .slice t.ops.A t.ops.xs.length t.ops.c), (45, .int .i64 (t.ops.xs.length : Nat)), (46, .int .i64 (i : Nat))]) (fun _ => []) (fun i => i ≤ t.ops.xs.length ∧ ∀ o ∈ t.ops.xs.take i, o.Right) (fun i => t.ops.xs.length - i) 0 ⟨Nat.zero_le _, by simp⟩ ⟨rfl, rfl, rfl, trivial⟩ rfl ?_
  rintro i ⟨hi, hr⟩
  refine rRec2_0 ?_
  refine wc_if rfl (fun h1 => ?_) (fun h1 => ?_)
  · obtain ⟨a, ha⟩ : ∃ a, t.ops.xs[i]? = some a := ⟨t.ops.xs[i]'(by omega), List.getElem?_eq_getElem _⟩
    obtain ⟨gB, oB, hA, hcell⟩ := cells_at (k := 4) (by decide) (fun _ => rfl) hv ha
    refine rRec2_0 ?_
    apply wx_val
    exact v_iaddr rfl (by rw [← hA]; rfl) rfl (by omega)
    rfl
    apply wx_val
    exact v_loadA (cs := OpW.cells a) rfl rfl (fun w' hr j v hj => by
      have := hcell i a ha hr j v hj
      rw [show (i : Int).toNat = i by omega]
      exact this)
    rfl
    refine wl_alloc rfl rfl (fun g => ?_)
    refine wl_stA 0 (vs := OpW.cells a) rfl rfl rfl rfl rfl (.inl (Nat.le_refl _)) rfl ?_
    refine rRec2_0 ?_
    refine wx_vcall (vc_pure rfl rfl (fun w' => rightOp_spec a w')) rfl ?_
    refine rRec2_0 ?_
    refine wc_nif rfl (fun h2 => ?_) (fun h2 => ?_)
    · refine rRec2_0 ?_
      refine wq_clear ?_
      refine wq_round (i + 1) ⟨by (try dsimp only); omega, fun o ho => ?_⟩ (by (try dsimp only); omega) ⟨rfl, rfl, rfl, trivial⟩ rfl
      rw [List.take_add_one, ha] at ho
      rcases List.mem_append.1 ho with ho | ho
      · exact hr o ho
      · obtain rfl : o = a := by simpa using ho
        exact h2
    · rw [err64 hf hl (List.mem_of_getElem? ha) h2]
      refine rRec2_0 ?_
      exact wq_clear (wq_ret1 () rfl rfl trivial rfl)
  · rw [err0 hf hl (by rw [List.take_of_length_le (by omega)] at hr; exact hr)]
    refine rRec2_0 ?_
    exact wq_clear (wq_ret1 () rfl rfl trivial rfl)
end Go.Proofs.Ytlioccfedophhaa
/- Contracts of wire's functions. -/
set_option linter.unusedVariables false
set_option linter.unusedSimpArgs false
namespace Go.Proofs.Ytlioccfedophhaa
open Go
set_option maxRecDepth 20000
attribute [local irreducible] WX WC WQ Val VCall
theorem rWire1_0 {A B : Prop} (k : B) (h : Hold B → A := by intro k; (repeat (first | (apply wx_val; (first | exact v_move rfl | exact v_assign rfl | exact v_len rfl rfl | exact v_slen rfl rfl | exact v_eq rfl rfl | exact v_lt rfl rfl | exact v_gt rfl rfl | exact v_ge rfl rfl | exact v_addi rfl rfl (by omega) | exact v_pickT rfl rfl | exact v_pickF rfl rfl | exact v_conv8 rfl rfl rfl (by omega) | exact v_conv rfl rfl rfl | exact v_or rfl rfl | exact v_shr rfl rfl (by omega)); rfl) | refine wx_no rfl rfl rfl ?_ | refine wx_ungd rfl rfl ?_ | refine wc_seq ?_ | refine wc_region ?_ | refine wx_nil ?_ | refine wq_next ?_ | refine wc_block ?_ | refine wc_ret ?_ | refine wc_skip ?_ | refine wc_exit ?_ | refine wq_then_ret ?_ | refine wq_then_exit ?_ | refine wq_block ?_ | refine wq_block_exit rfl ?_ | refine wc_condT rfl ?_)); exact k.out) : A := h ⟨k⟩
/-- how many bytes a number's form has -/
def formN (n : Nat) : List UInt8 := if h : n < 128 then [UInt8.ofNat n] else UInt8.ofNat (n % 128 + 128) :: formN (n / 128)
termination_by n
decreasing_by omega
theorem formN_lt {n : Nat} (h : n < 128) : formN n = [UInt8.ofNat n] := by rw [formN]; simp [h]
theorem formN_ge {n : Nat} (h : 128 ≤ n) : formN n = UInt8.ofNat (n % 128 + 128) :: formN (n / 128) := by rw [formN]; rw [dif_neg (by omega)]
theorem shr7 {a : Int} (h : 0 ≤ a) : shrI .i64 a 7 = a / 128 := by
  unfold shrI
  rw [Int.fdiv_eq_ediv_of_nonneg _ (by decide)]
  rfl
def sizeI (n : Int) : Int := if n < 0 ∨ 72057594037927935 < n then 0 else (formN n.toNat).length
theorem formN_pos (n : Nat) : 0 < (formN n).length := by
  by_cases h : n < 128
  · rw [formN_lt h]; simp
  · rw [formN_ge (by omega)]; simp
theorem formN_len (k : Nat) : ∀ n, n < 128 ^ (k + 1) → (formN n).length ≤ k + 1 := by
  induction k with
  | zero => intro n h; rw [formN_lt (by simpa using h)]; simp
  | succ k ih =>
    intro n h
    by_cases h1 : n < 128
    · rw [formN_lt h1]; simp
    · rw [formN_ge (by omega)]
      have := ih (n / 128) (by rw [Nat.div_lt_iff_lt_mul (by omega)]; rw [Nat.pow_succ] at h; exact h)
      simp only [List.length_cons]; omega
theorem formN_len8 {n : Nat} (h : n ≤ 72057594037927935) : (formN n).length ≤ 8 := formN_len 7 n (by omega)
theorem Size_spec (n : Int) (w : World) : Calls Try.prog 65 #[.int .i64 n] w (Ret (β := Unit) w (ids []) (fun _ => .int .i64 (sizeI n)) (fun _ => []) (fun _ => True)) := by
  refine go [.int .i64 n] [] Try.func65 Try.ntmps65 rfl rfl ⟨by simp [ids], by simp⟩ ?_
  refine rWire1_0 ?_
  refine wx_if 6 rfl (fun h1 => ?_) (fun h1 => ?_)
  · refine rWire1_0 ?_
    refine wq_ret1 () rfl ?_ trivial rfl
    rw [sizeI, if_pos (.inl h1)]; rfl
  · refine rWire1_0 ?_
    refine wc_if rfl (fun h2 => ?_) (fun h2 => ?_)
    · refine rWire1_0 ?_
      refine wq_ret1 () rfl ?_ trivial rfl
      rw [sizeI, if_pos (.inr h2)]; rfl
    · refine rWire1_0 ?_
      obtain ⟨N, rfl⟩ : ∃ N : Nat, n = N := ⟨n.toNat, by omega⟩
      have hl := formN_len8 (n := N) (by omega)
      refine wc_loop (ι := Nat × Nat) (fun i => [(0, .int .i64 (i.1 : Int)), (3, .int .i64 (i.2 : Int))]) (fun _ => []) (fun i => i.1 ≤ 72057594037927935 ∧ i.2 + (formN i.1).length = (formN N).length + 1) (fun i => i.1) (N, 1) ⟨by (try dsimp only); omega, by (try dsimp only); omega⟩ ⟨rfl, rfl, trivial⟩ rfl ?_
      rintro ⟨m, c⟩ ⟨hm, hc⟩
      have hp := formN_pos m
      dsimp only at hm hc hp
      refine rWire1_0 ?_
      refine wc_if rfl (fun h3 => ?_) (fun h3 => ?_)
      · refine rWire1_0 ?_
        have hge := congrArg List.length (formN_ge (n := m) (by omega))
        simp only [List.length_cons] at hge
        refine wq_round (m / 128, c + 1) ⟨by (try dsimp only); omega, by (try dsimp only); omega⟩ (by (try dsimp only); omega) ⟨?_, ?_, trivial⟩ rfl
        · show some (Value.int .i64 (shrI .i64 (m : Int) 7)) = _
          rw [shr7 (by omega)]; rfl
        · show some (Value.int .i64 ((c : Int) + 1)) = _
          rfl
      · refine rWire1_0 ?_
        refine wq_ret1 () rfl ?_ trivial rfl
        have hlt := congrArg List.length (formN_lt (n := m) (by omega))
        simp only [List.length_cons, List.length_nil] at hlt
        rw [sizeI, if_neg (by omega)]
        show some (Value.int .i64 (c : Int)) = _
        congr 2
        simp only [Int.toNat_natCast]
        omega
set_option maxRecDepth 100000 in
theorem or128 (x : Int) : orI .u8 x 128 = x % 128 + 128 := by
  have h1 : ∀ v : Fin 256, ((BitVec.ofNat 8 v.val ||| BitVec.ofInt 8 128).toNat : Int) = (v.val : Int) % 128 + 128 := by decide
  have h2 := h1 ⟨(x % 256).toNat, by omega⟩
  have h3 : BitVec.ofInt 8 x = BitVec.ofNat 8 (x % 256).toNat := by
    apply BitVec.eq_of_toNat_eq
    simp [BitVec.toNat_ofInt]
    omega
  unfold orI
  show IntKind.u8.wrap ((BitVec.ofInt 8 x ||| BitVec.ofInt 8 128).toNat : Int) = _
  rw [h3, h2, wrap8_in (by (try dsimp only); omega)]
  dsimp only
  omega
theorem lit_bys {x : Int} (h : 0 ≤ x ∧ x ≤ 255) : catL [.int .u8 x] = bys [UInt8.ofNat x.toNat] := by
  have h1 : (UInt8.ofNat x.toNat).toNat = x.toNat := by simp; omega
  simp only [catL, cellsL, bys, List.map_cons, List.map_nil, h1, List.append_nil]
  rw [Int.toNat_of_nonneg h.1]
theorem wrap8 (x : Int) : IntKind.u8.wrap x = x % 256 := by
  simp [IntKind.wrap, IntKind.bits, IntKind.signed]
/-- a slice of bytes of one's own comes back -/
abbrev BufB (l : List UInt8) : Option Addr × Nat × Seg → Prop := fun (A, c, E) => Buf 5 1 A l.length c (bys l) E
abbrev RetB (w : World) (X : List Nat) (l : List UInt8) : Ending → World → Prop :=
  Ret w X (fun r : Option Addr × Nat × Seg => .slice r.1 l.length r.2.1) (fun r => [r.2.2]) (BufB l)
theorem number_spec {A : Option Addr} {c : Nat} {l : List UInt8} {E : Seg} (hb : Buf 5 1 A l.length c (bys l) E) (N : Nat) (hN : N ≤ 72057594037927935) (hl : l.length ≤ 140737488355300) (w : World) (ho : Own w [E]) :
    Calls Try.prog 66 #[.slice A l.length c, .int .i64 N] w (RetB w (ids [E]) (l ++ formN N)) := by
  have hl8 := formN_len8 hN
  refine go [.slice A l.length c, .int .i64 N] [E] Try.func66 Try.ntmps66 rfl rfl ho ?_
  refine rWire1_0 ?_
  refine wc_loop (ι := Nat × Option Addr × Nat × List UInt8 × Seg) (fun (m, A, c, l, E) => [(0, .slice A l.length c), (1, .int .i64 (m : Int))]) (fun (_, _, _, _, E) => [E])
    (fun (m, A, c, l', E) => m ≤ N ∧ l' ++ formN m = l ++ formN N ∧ Buf 5 1 A l'.length c (bys l') E) (fun (m, _) => m) (N, A, c, l, E) ⟨Nat.le_refl _, rfl, hb⟩ ⟨rfl, rfl, trivial⟩ rfl ?_
  clear hb ho
  rintro ⟨m, A, c, l', E⟩ ⟨hm, hc, hb⟩
  have hlen := congrArg List.length hc
  simp only [List.length_append] at hlen
  have hpos := formN_pos m
  refine rWire1_0 ?_
  refine wc_if rfl (fun h3 => ?_) (fun h3 => ?_)
  · refine rWire1_0 ?_
    refine wl_lit rfl rfl rfl rfl rfl (by decide) rfl (fun g => ?_)
    refine wl_append1 0 rfl rfl rfl hb rfl rfl rfl (by intro u hu; simp [catL, cellsL] at hu; subst hu; rfl) (by omega) rfl (fun A2 c2 E2 hb2 => ?_)
    rw [or128, wrap8, lit_bys (by omega), ← bys_append] at hb2
    refine rWire1_0 ?_
    refine wq_round (m / 128, A2, c2, l' ++ [UInt8.ofNat (m % 128 + 128)], E2) ⟨by (try dsimp only); omega, ?_, ?_⟩ (by (try dsimp only); omega) ⟨?_, ?_, trivial⟩ rfl
    · rw [← hc, formN_ge (n := m) (by omega)]; simp
    · have e : ((m : Int) % 256 % 128 + 128).toNat = m % 128 + 128 := by omega
      rw [e] at hb2
      simpa using hb2
    · simp; rfl
    · show some (Value.int .i64 (shrI .i64 (m : Int) 7)) = _
      rw [shr7 (by omega)]; rfl
  · refine rWire1_0 ?_
    refine wl_lit rfl rfl rfl rfl rfl (by decide) rfl (fun g => ?_)
    refine wl_append1 0 rfl rfl rfl hb rfl rfl rfl (by intro u hu; simp [catL, cellsL] at hu; subst hu; rfl) (by omega) rfl (fun A2 c2 E2 hb2 => ?_)
    rw [lit_bys (by omega), ← bys_append] at hb2
    refine rWire1_0 ?_
    have e : l' ++ [UInt8.ofNat (m : Int).toNat] = l ++ formN N := by rw [← hc, formN_lt (n := m) (by omega)]; simp
    rw [e] at hb2
    have e2 := congrArg List.length e
    simp only [List.length_append, List.length_cons, List.length_nil] at e2
    refine wq_ret1 (A2, c2, E2) rfl ?_ ?_ rfl
    · show some (Value.slice A2 (l'.length + 1) c2) = _
      rw [show l'.length + 1 = (l ++ formN N).length by simp; omega]
    · show Buf _ _ _ _ _ _ _
      rw [show l'.length + 1 = (l ++ formN N).length by simp; omega] at hb2
      exact hb2
theorem fresh_spec {A : Option Addr} {c : Nat} {l : List UInt8} {R : Int} (h0 : 0 ≤ R) (hl : (l.length : Int) + R ≤ 281474976710656) (w : World) (hv : Vw [] w A (bys l)) :
    Calls Try.prog 67 #[.slice A l.length c, .int .i64 R] w (RetB w (ids []) l) := by
  refine go [.slice A l.length c, .int .i64 R] [] Try.func67 Try.ntmps67 rfl rfl (own_nil w) ?_
  refine rWire1_0 ?_
  refine wl_make rfl rfl rfl rfl ?_ ?_ ?_ (by rfl) (fun g => ?_)
  · omega
  · omega
  · omega
  rw [madeCells_one rfl]
  refine rWire1_0 ?_
  refine wl_copy 0 rfl rfl rfl rfl (.inl (Nat.le_refl _)) (fun w' hr => (hv.keep hr).rd) (bys_length l) ?_ (one_bys l) rfl ?_
  · simp; omega
  refine rWire1_0 ?_
  refine wq_ret1 (some ⟨g, 0, none⟩, ((l.length : Int) + R).toNat, _) rfl rfl ?_ rfl
  refine ⟨by simp, .inr ⟨g, _, _, rfl, rfl, by omega, by simp only [maxLen]; omega, ?_, ?_, .inl (Nat.le_refl _)⟩⟩
  · simp [spliced]; omega
  · simp [spliced]
    rw [List.take_of_length_le (by simp)]
theorem Append_no {A : Option Addr} {c n : Nat} {N : Int} (h : N < 0 ∨ 72057594037927935 < N) (w : World) :
    Calls Try.prog 41 #[.slice A n c, .int .i64 N] w (Ret (β := Unit) w (ids []) (fun _ => .tuple #[.slice none 0 0, .int .i64 50]) (fun _ => []) (fun _ => True)) := by
  refine go [.slice A n c, .int .i64 N] [] Try.func41 Try.ntmps41 rfl rfl (own_nil w) ?_
  refine rWire1_0 ?_
  refine wl_call (fun w' hr => Size_spec N w') rfl rfl (List.Perm.refl _) rfl (fun _ _ => ?_)
  rw [show sizeI N = 0 from if_pos h]
  refine rWire1_0 ?_
  exact wq_ret2 () rfl rfl rfl rfl trivial rfl
abbrev RetB2 (w : World) (X : List Nat) (l : List UInt8) : Ending → World → Prop :=
  Ret w X (fun r : Option Addr × Nat × Seg => .tuple #[.slice r.1 l.length r.2.1, .int .i64 0]) (fun r => [r.2.2]) (BufB l)
theorem Append_spec {A : Option Addr} {c : Nat} {l : List UInt8} {N : Nat} (hN : N ≤ 72057594037927935) (hl : l.length ≤ 140737488355300) (w : World) (hv : Vw [] w A (bys l)) :
    Calls Try.prog 41 #[.slice A l.length c, .int .i64 N] w (RetB2 w (ids []) (l ++ formN N)) := by
  refine go [.slice A l.length c, .int .i64 N] [] Try.func41 Try.ntmps41 rfl rfl (own_nil w) ?_
  refine rWire1_0 ?_
  refine wl_call (fun w' hr => Size_spec N w') rfl rfl (List.Perm.refl _) rfl (fun _ _ => ?_)
  have hs : sizeI N ≠ 0 := by
    have := formN_pos N
    rw [sizeI, if_neg (by omega)]
    simp only [Int.toNat_natCast]
    omega
  refine rWire1_0 ?_
  refine wc_if rfl (fun h3 => absurd h3 hs) (fun h3 => ?_)
  refine rWire1_0 ?_
  refine wl_call (fun w' hr => fresh_spec (R := 8) (by omega) (by omega) w' (hv.keep hr)) rfl rfl (List.Perm.refl _) rfl ?_
  rintro ⟨A1, c1, E1⟩ hb1
  refine rWire1_0 ?_
  refine wl_call (fun w' hr => number_spec hb1 N hN hl w' hr.own.left) rfl rfl (List.Perm.refl _) rfl ?_
  rintro ⟨A2, c2, E2⟩ hb2
  refine rWire1_0 ?_
  exact wq_ret2 (A2, c2, E2) rfl rfl rfl rfl hb2 rfl
/-- a text's form -/
def textB (s : ByteArray) : List UInt8 := formN s.size ++ s.data.toList
theorem AppendText_spec {A : Option Addr} {c : Nat} {l : List UInt8} {s : ByteArray} (hl : l.length + s.size ≤ 140737488355300) (w : World) (hv : Vw [] w A (bys l)) :
    Calls Try.prog 43 #[.slice A l.length c, .string s] w (RetB2 w (ids []) (l ++ textB s)) := by
  refine go [.slice A l.length c, .string s] [] Try.func43 Try.ntmps43 rfl rfl (own_nil w) ?_
  refine rWire1_0 ?_
  refine wl_call (fun w' hr => fresh_spec (R := 8 + (s.size : Int)) (by omega) (by omega) w' (hv.keep hr)) rfl rfl (List.Perm.refl _) rfl ?_
  rintro ⟨A1, c1, E1⟩ hb1
  refine rWire1_0 ?_
  refine wl_call (fun w' hr => number_spec hb1 s.size (by omega) (by omega) w' hr.own.left) rfl rfl (List.Perm.refl _) rfl ?_
  rintro ⟨A2, c2, E2⟩ hb2
  refine rWire1_0 ?_
  have h8 := formN_len8 (n := s.size) (by omega)
  refine wl_append 0 rfl rfl hb2 rfl rfl (fun w' hr => src_str rfl s) (by simp only [List.length_append]; omega) rfl (fun A3 c3 E3 hb3 => ?_)
  refine rWire1_0 ?_
  have e : (l ++ formN s.size).length + s.size = (l ++ textB s).length := by simp [textB, Nat.add_assoc]
  rw [e, ← bys_append, List.append_assoc] at hb3
  refine wq_ret2 (A3, c3, E3) rfl rfl rfl ?_ hb3 rfl
  rw [← e]
end Go.Proofs.Ytlioccfedophhaa
/- Contracts of the reference's writing functions. -/
set_option linter.unusedVariables false
set_option linter.unusedSimpArgs false
namespace Go.Proofs.Ytlioccfedophhaa
open Go
set_option maxRecDepth 20000
attribute [local irreducible] WX WC WQ Val VCall
theorem rWire5a_0 {A B : Prop} (k : B) (h : Hold B → A := by intro k; (repeat (first | (apply wx_val; (first | exact v_move rfl | exact v_assign rfl | exact v_len rfl rfl | exact v_slen rfl rfl | exact v_lt rfl rfl | exact v_gt rfl rfl | exact v_addi rfl rfl (by omega) | exact v_subi rfl rfl (by omega) | exact v_pickT rfl rfl | exact v_pickF rfl rfl | exact v_iaddr rfl rfl rfl (by omega) | exact v_conv8 rfl rfl rfl (by omega) | exact v_quoi rfl rfl (by omega) | exact v_remi rfl rfl (by omega) | exact v_add rfl rfl); rfl) | refine wx_no rfl rfl rfl ?_ | refine wx_ungd rfl rfl ?_ | refine wc_seq ?_ | refine wc_region ?_ | refine wx_nil ?_ | refine wq_next ?_ | refine wc_block ?_ | refine wc_ret ?_ | refine wc_skip ?_ | refine wc_exit ?_ | refine wq_then_ret ?_ | refine wq_then_exit ?_ | refine wq_block ?_ | refine wq_block_exit rfl ?_ | refine wc_condT rfl ?_)); exact k.out) : A := h ⟨k⟩
theorem sget {s : ByteArray} {i : Nat} (h : i < s.size) : s[i] = s.data.toList.getD i 0 := by
  have h' : i < s.data.toList.length := by simpa using h
  rw [List.getD_eq_getElem?_getD, List.getElem?_eq_getElem h']
  rfl
def formI (n : Int) : List UInt8 := if n < 0 ∨ 72057594037927935 < n then [] else formN n.toNat
theorem Form_spec (n : Int) (w : World) : Calls Try.prog 70 #[.int .i64 n] w (RetB w (ids []) (formI n)) := by
  refine go [.int .i64 n] [] Try.func70 Try.ntmps70 rfl rfl (own_nil w) ?_
  refine rWire5a_0 ?_
  refine wx_if 6 rfl (fun h1 => ?_) (fun h1 => ?_)
  · have e : formI n = [] := if_pos (.inl h1)
    refine rWire5a_0 ?_
    rw [e]
    exact wq_seg (wq_ret1 (none, 0, []) rfl rfl (Buf.nil _ _) rfl)
  · refine rWire5a_0 ?_
    refine wc_if rfl (fun h2 => ?_) (fun h2 => ?_)
    · have e : formI n = [] := if_pos (.inr h2)
      refine rWire5a_0 ?_
      rw [e]
      exact wq_seg (wq_ret1 (none, 0, []) rfl rfl (Buf.nil _ _) rfl)
    · obtain ⟨N, rfl⟩ : ∃ N : Nat, n = N := ⟨n.toNat, by omega⟩
      have e : formI N = formN N := by rw [formI, if_neg (by omega)]; rfl
      have hl := formN_len8 (n := N) (by omega)
      refine rWire5a_0 ?_
      refine wl_lit rfl rfl rfl rfl rfl (by decide) rfl (fun g => ?_)
      rw [lit_bys (by omega)]
      refine rWire5a_0 ?_
      refine wc_loop (ι := List UInt8 × Nat × Nat × Option Addr × Nat × Seg) (fun (pre, x, m, A, c, E) => [(0, .int .i64 (m : Int)), (3, .slice A (pre.length + 1) c)]) (fun (_, _, _, _, _, E) => [E])
        (fun (pre, x, m, A, c, E) => x < 128 ∧ m ≤ 72057594037927935 ∧ pre ++ formN (m * 128 + x) = formN N ∧ Buf 5 1 A (pre.length + 1) c (bys (pre ++ [UInt8.ofNat x])) E) (fun (_, _, m, _) => m)
        ([], N % 128, N / 128, some ⟨g, 0, none⟩, 1, _) ⟨by (try dsimp only); omega, by (try dsimp only); omega, ?_, Buf.full (n := 1) _ rfl (by decide)⟩ ⟨?_, rfl, trivial⟩ ?_ ?_
      · simp only [List.nil_append]; congr 1; omega
      · rfl
      · have : ((N : Int) % 128).toNat = N % 128 := by omega
        rw [this]; rfl
      rintro ⟨pre, x, m, A, c, E⟩ ⟨hx, hm, hf, hb⟩
      refine rWire5a_0 ?_
      refine wc_if rfl (fun h3 => ?_) (fun h3 => ?_)
      · have hge := formN_ge (n := m * 128 + x) (by omega)
        rw [show (m * 128 + x) / 128 = m by omega, show (m * 128 + x) % 128 = x by omega] at hge
        rw [hge] at hf
        have hlen := congrArg List.length hf
        simp only [List.length_append, List.length_cons] at hlen
        have hpos := formN_pos m
        obtain ⟨ga, rfl⟩ := hb.ptr (by omega)
        refine rWire5a_0 ?_
        apply wx_val
        exact v_ldx (off' := pre.length) (v := .int .u8 ((UInt8.ofNat x).toNat : Int)) rfl rfl rfl (fun w' hr => hb.cellAt (k := 0) hr rfl (by simp [bys])) (by omega)
        rfl
        refine rWire5a_0 ?_
        refine wl_bset 0 pre.length rfl rfl hb rfl rfl (by omega) (by omega) rfl rfl (fun E2 hb2 => ?_)
        have e1 : (bys (pre ++ [UInt8.ofNat x])).set pre.length (Value.int IntKind.u8 (IntKind.u8.wrap (((UInt8.ofNat x).toNat : Int) + 128))) = bys (pre ++ [UInt8.ofNat (x + 128)]) := by
          have h5 : (UInt8.ofNat x).toNat = x := by simp; omega
          have h6 : (UInt8.ofNat (x + 128)).toNat = x + 128 := by simp; omega
          rw [h5, wrap8_in (by omega)]
          simp [bys]
          omega
        rw [e1] at hb2
        refine rWire5a_0 ?_
        refine wl_lit rfl rfl rfl rfl rfl (by decide) rfl (fun g4 => ?_)
        refine wl_append1 0 rfl rfl rfl hb2 rfl rfl rfl (by intro u hu; simp [catL, cellsL] at hu; subst hu; rfl) (by omega) rfl (fun A3 c3 E3 hb3 => ?_)
        rw [lit_bys (by omega), ← bys_append] at hb3
        refine rWire5a_0 ?_
        refine wq_round (pre ++ [UInt8.ofNat (x + 128)], m % 128, m / 128, A3, c3, E3) ⟨by (try dsimp only); omega, by (try dsimp only); omega, ?_, ?_⟩ (by (try dsimp only); omega) ⟨rfl, ?_, trivial⟩ rfl
        · rw [show m / 128 * 128 + m % 128 = m by omega, ← hf]; simp
        · have : ((m : Int) % 128).toNat = m % 128 := by omega
          rw [this] at hb3
          simpa using hb3
        · simp; rfl
      · have hm0 : m = 0 := by omega
        subst hm0
        rw [formN_lt (n := 0 * 128 + x) (by omega)] at hf
        simp only [Nat.zero_mul, Nat.zero_add] at hf
        refine rWire5a_0 ?_
        rw [e, ← hf]
        refine wq_ret1 (A, c, E) rfl ?_ ?_ rfl
        · simp; rfl
        · simpa [BufB] using hb
theorem refText_spec {s : ByteArray} (hs : s.size ≤ 140737488355300) (w : World) : Calls Try.prog 48 #[.string s] w (RetB w (ids []) (textB s)) := by
  refine go [.string s] [] Try.func48 Try.ntmps48 rfl rfl (own_nil w) ?_
  refine rWire5a_0 ?_
  refine wl_call (fun w' hr => Form_spec _ w') rfl rfl (List.Perm.refl _) rfl ?_
  rintro ⟨A1, c1, E1⟩ hb1
  have e0 : formI s.size = formN s.size := by rw [formI, if_neg (by omega)]; rfl
  rw [e0] at hb1
  rw [e0]
  have h8 := formN_len8 (n := s.size) (by omega)
  refine rWire5a_0 ?_
  have hsz : s.data.toList.length = s.size := by simp
  refine wc_loop (ι := Nat × Option Addr × Nat × Seg) (fun (i, A, c, E) => [(0, .string s), (3, .slice A ((formN s.size).length + i) c), (4, .int .i64 (i : Int))]) (fun (_, _, _, E) => [E])
    (fun (i, A, c, E) => i ≤ s.size ∧ Buf 5 1 A ((formN s.size).length + i) c (bys (formN s.size ++ s.data.toList.take i)) E) (fun (i, _) => s.size - i) (0, A1, c1, E1) ⟨by (try dsimp only); omega, by simpa using hb1⟩ ⟨rfl, rfl, rfl, trivial⟩ rfl ?_
  rintro ⟨i, A, c, E⟩ ⟨hi, hb⟩
  refine rWire5a_0 ?_
  refine wc_if rfl (fun h1 => ?_) (fun h1 => ?_)
  · refine rWire5a_0 ?_
    apply wx_val
    exact v_sidx rfl rfl rfl (by omega) (by omega)
    rfl
    refine wl_lit rfl rfl rfl rfl rfl (by decide) rfl (fun g4 => ?_)
    refine wl_append1 0 rfl rfl rfl hb rfl rfl rfl (by intro u hu; simp [catL, cellsL] at hu; subst hu; rfl) (by omega) rfl (fun A3 c3 E3 hb3 => ?_)
    refine rWire5a_0 ?_
    refine wq_round (i + 1, A3, c3, E3) ⟨by (try dsimp only); omega, ?_⟩ (by (try dsimp only); omega) ⟨rfl, rfl, rfl, trivial⟩ rfl
    rw [take_snocD (by omega), ← List.append_assoc, bys_append]
    have : catL [Value.int IntKind.u8 ((s[(i : Int).toNat]'(by omega)).toNat : Int)] = bys [s.data.toList.getD i 0] := by
      rw [← sget (s := s) (i := i) (by omega)]
      simp [catL, cellsL, bys]
    rw [this] at hb3
    exact hb3
  · have hi' : i = s.size := by omega
    subst hi'
    rw [List.take_of_length_le (by omega)] at hb
    refine rWire5a_0 ?_
    refine wq_ret1 (A, c, E) rfl ?_ ?_ rfl
    · simp only [textB, List.length_append, hsz]; rfl
    · simp only [BufB, textB, List.length_append, hsz]; exact hb
end Go.Proofs.Ytlioccfedophhaa
/- The bytes of a transaction: the program's and the document's. -/
set_option linter.unusedVariables false
set_option linter.unusedSimpArgs false
namespace Go.Proofs.Ytlioccfedophhaa
open Go
set_option maxRecDepth 20000
set_option maxHeartbeats 4000000
attribute [local irreducible] WX WC WQ Val VCall
theorem rRec3_0 {A B : Prop} (k : B) (h : Hold B → A := by intro k; (repeat (first | (apply wx_val; (first | exact v_move rfl | exact v_assign rfl | exact v_faddr rfl rfl | (apply v_load rfl rfl rfl; first | exact ld 0 0 rfl rfl rfl | exact ld 1 0 rfl rfl rfl | exact ld 2 0 rfl rfl rfl | exact ld 3 0 rfl rfl rfl | exact ld 4 0 rfl rfl rfl | exact ld 5 0 rfl rfl rfl) | exact v_extract rfl rfl | exact v_len rfl rfl | exact v_eq rfl rfl | exact v_ne rfl rfl | exact v_lt rfl rfl | exact v_addi rfl rfl (by omega) | (first | exact v_ldA 0 0 rfl rfl rfl rfl)); rfl) | refine wc_seq ?_ | refine wc_region ?_ | refine wx_nil ?_ | refine wq_next ?_ | refine wc_block ?_ | refine wc_ret ?_ | refine wc_skip ?_ | refine wc_exit ?_ | refine wq_then_ret ?_ | refine wq_then_exit ?_ | refine wq_block ?_ | refine wq_block_exit rfl ?_ | refine wc_condF rfl ?_ | refine wl_stA 0 rfl rfl rfl rfl rfl (.inl (Nat.le_refl _)) rfl ?_)); exact k.out) : A := h ⟨k⟩
def OpW.tag (o : OpW) : Nat := if o.kind = 2 then 3 else if o.kind = 3 then 4 else if o.found then 1 else 2
def OpW.bytes (o : OpW) : List UInt8 := [UInt8.ofNat o.tag] ++ textB o.key ++ (if o.tag = 1 ∨ o.tag = 3 then textB o.value else [])
def TxnW.ints (t : TxnW) : List Int := [t.session, t.seq, t.start, t.fin, t.invoke, t.ret, t.status, (t.ops.xs.length : Nat)]
def intsB (l : List Int) : List UInt8 := l.flatMap formI
def opsB (l : List OpW) : List UInt8 := l.flatMap OpW.bytes
def TxnW.body (t : TxnW) : List UInt8 := intsB t.ints ++ opsB t.ops.xs
theorem formI_len8 (n : Int) : (formI n).length ≤ 8 := by
  unfold formI
  split
  · simp
  · exact formN_len8 (by omega)
theorem intsB_len : ∀ l : List Int, (intsB l).length ≤ 8 * l.length
  | [] => by simp [intsB]
  | x :: r => by
    have h1 := intsB_len r
    have h2 := formI_len8 x
    simp only [intsB, List.flatMap_cons, List.length_append, List.length_cons] at h1 ⊢
    omega
theorem textB_le {s : ByteArray} {n : Nat} (hn : n ≤ 1048576) (h : s.size ≤ n) : (textB s).length ≤ n + 8 := by
  have := formN_len8 (n := s.size) (by omega)
  have e : s.data.size = s.size := rfl
  simp only [textB, List.length_append, Array.length_toList]
  omega
theorem textB_short {s : ByteArray} (h : s.size ≤ 127) : (textB s).length = s.size + 1 := by
  have e : s.data.size = s.size := rfl
  simp only [textB, formN_lt (show s.size < 128 by omega), List.length_append, Array.length_toList, List.length_cons, List.length_nil]
  omega
theorem OpW.bytes_len {o : OpW} (h : o.Right) : o.bytes.length ≤ 27 := by
  obtain ⟨_, h1, h2, _⟩ := h
  have h3 := textB_short (s := o.key) (by omega)
  have h4 := textB_short (s := o.value) (by omega)
  unfold OpW.bytes
  split <;> simp only [List.length_append, List.length_cons, List.length_nil] <;> omega
theorem opsB_len : ∀ {l : List OpW}, (∀ o ∈ l, o.Right) → (opsB l).length ≤ 27 * l.length
  | [], _ => by simp [opsB]
  | x :: r, h => by
    have h1 := opsB_len (l := r) (fun o ho => h o (by simp [ho]))
    have h2 := OpW.bytes_len (h x (by simp))
    simp only [opsB, List.flatMap_cons, List.length_append, List.length_cons] at h1 ⊢
    omega
theorem formI_le {n : Int} (k : Nat) (h : n < 128 ^ (k + 1)) : (formI n).length ≤ k + 1 := by
  unfold formI
  split
  · simp
  · refine formN_len k _ ?_
    have : ((n.toNat : Nat) : Int) < ((128 ^ (k + 1) : Nat) : Int) := by
      rw [Int.toNat_of_nonneg (by omega)]; push_cast; exact h
    exact Int.ofNat_lt.1 this
theorem body_len {t : TxnW} (h : t.FieldsOk) (h2 : t.ops.xs.length ≤ 16) (h3 : ∀ o ∈ t.ops.xs, o.Right) : t.body.length ≤ 464 := by
  have h4 := opsB_len h3
  simp only [TxnW.FieldsOk] at h
  have a1 := formI_le (n := t.session) 2 (by omega)
  have a2 := formI_le (n := t.seq) 2 (by omega)
  have a3 := formI_le (n := t.start) 5 (by omega)
  have a4 := formI_le (n := t.fin) 5 (by omega)
  have a5 := formI_le (n := t.invoke) 5 (by omega)
  have a6 := formI_le (n := t.ret) 5 (by omega)
  have a7 := formI_le (n := t.status) 0 (by omega)
  have a8 := formI_le (n := ((t.ops.xs.length : Nat) : Int)) 0 (by omega)
  simp only [TxnW.body, intsB, TxnW.ints, List.flatMap_cons, List.flatMap_nil, List.length_append, List.length_nil]
  omega
theorem flat_take {α : Type} {f : α → List UInt8} {l : List α} {i : Nat} {a : α} (h : l[i]? = some a) : (l.take (i + 1)).flatMap f = (l.take i).flatMap f ++ f a := by
  rw [List.take_add_one, h]; simp
theorem tag_spec (o : OpW) (w : World) : Calls Try.prog 42 #[.agg o.cells.toArray] w (Ret (β := Unit) w (ids []) (fun _ => .int .u8 (o.tag : Nat)) (fun _ => []) (fun _ => True)) := by
  obtain ⟨k, key, found, value⟩ := o
  refine go [.agg (OpW.cells ⟨k, key, found, value⟩).toArray] [] Try.func42 Try.ntmps42 rfl rfl (own_nil w) ?_
  refine rRec3_0 ?_
  cases found
  case false =>
    refine wl_box rfl rfl (fun g => ?_)
    repeat' (first | (apply wx_val; (first | exact v_assign rfl | exact v_faddr rfl rfl | (apply v_load rfl rfl rfl; first | exact ld 0 0 rfl rfl rfl | exact ld 1 0 rfl rfl rfl | exact ld 2 0 rfl rfl rfl | exact ld 3 0 rfl rfl rfl | exact ld 4 0 rfl rfl rfl | exact ld 5 0 rfl rfl rfl) | exact v_eq rfl rfl); rfl) | refine wc_seq ?_ | refine wc_region ?_ | refine wx_nil ?_ | refine wq_next ?_ | refine wc_block ?_ | refine wc_ret ?_ | refine wc_skip ?_ | refine wq_then_ret ?_ | refine wq_block ?_ | refine wq_block_ret ?_ | refine wc_condF rfl ?_ | refine wc_if rfl (fun _ => ?_) (fun _ => ?_))
    all_goals exact wq_clear (wq_ret1 () rfl (by unfold OpW.tag; (repeat' split); all_goals (first | rfl | (exfalso; simp_all; done))) trivial rfl)
  case true =>
    refine wl_box rfl rfl (fun g => ?_)
    repeat' (first | (apply wx_val; (first | exact v_assign rfl | exact v_faddr rfl rfl | (apply v_load rfl rfl rfl; first | exact ld 0 0 rfl rfl rfl | exact ld 1 0 rfl rfl rfl | exact ld 2 0 rfl rfl rfl | exact ld 3 0 rfl rfl rfl | exact ld 4 0 rfl rfl rfl | exact ld 5 0 rfl rfl rfl) | exact v_eq rfl rfl); rfl) | refine wc_seq ?_ | refine wc_region ?_ | refine wx_nil ?_ | refine wq_next ?_ | refine wc_block ?_ | refine wc_ret ?_ | refine wq_then_ret ?_ | refine wq_block_ret ?_ | refine wc_condT rfl ?_ | refine wc_if rfl (fun _ => ?_) (fun _ => ?_))
    all_goals exact wq_clear (wq_ret1 () rfl (by unfold OpW.tag; (repeat' split); all_goals (first | rfl | (exfalso; simp_all; done))) trivial rfl)
def TxnW.encB (t : TxnW) : List UInt8 := if t.err = 0 then t.body else []
theorem okInts {t : TxnW} (h : t.FieldsOk) (h2 : t.ops.xs.length ≤ 16) : ∀ n ∈ t.ints, 0 ≤ n ∧ n ≤ 72057594037927935 := by
  simp only [TxnW.FieldsOk] at h
  intro n hn
  simp only [TxnW.ints, List.mem_cons, List.not_mem_nil, or_false] at hn
  omega
theorem Encode_spec {t : TxnW} (w : World) (hv : t.Reads w) : Calls Try.prog 25 #[.agg t.cells.toArray] w (Ret w (ids []) (fun r : Option Addr × Nat × Seg => .tuple #[.slice r.1 t.encB.length r.2.1, .int .i64 t.err]) (fun r => [r.2.2]) (BufB t.encB)) := by
  refine go [.agg t.cells.toArray] [] Try.func25 Try.ntmps25 rfl rfl (own_nil w) ?_
  refine rRec3_0 ?_
  refine wl_box rfl rfl (fun g => ?_)
  refine rRec3_0 ?_
  refine wx_vcall (vc_pure' rfl rfl (fun w' hr => recValid_spec t w' (hv.keep hr))) rfl ?_
  by_cases he : t.err = 0
  case neg =>
    have eb : t.encB = [] := if_neg he
    rw [eb]
    refine rRec3_0 ?_
    refine wc_yes rfl (decide_eq_true he) ?_
    refine rRec3_0 ?_
    exact wq_clear (wq_seg (wq_ret2 (none, 0, []) rfl rfl rfl rfl (Buf.nil _ _) rfl))
  have eb : t.encB = t.body := if_pos he
  obtain ⟨hf, hn, hr⟩ : t.FieldsOk ∧ t.ops.xs.length ≤ 16 ∧ ∀ o ∈ t.ops.xs, o.Right := by
    unfold TxnW.err at he
    split at he
    · cases he
    · split at he
      · cases he
      · split at he
        · rename_i h1 h2 h3; exact ⟨by simpa using h1, by omega, h3⟩
        · cases he
  have hok := okInts hf hn
  rw [eb, he]
  refine rRec3_0 ?_
  (try refine wx_ungd rfl rfl ?_)
  apply wx_val
  exact v_build (cs := ((nts t.ints)).toArray) rfl (by kernel_rfl)
  rfl
  refine rRec3_0 ?_
  refine wc_seg ?_
  have hil : t.ints.length = 8 := rfl
  refine wc_loop (ι := Nat × Option Addr × Nat × Seg) (fun i => [(1, .pointer (some ⟨g, 0, none⟩)), (5, .slice i.2.1 (intsB (t.ints.take i.1)).length i.2.2.1), (33, .agg (nts t.ints).toArray), (34, .int .i64 (i.1 : Nat))]) (fun i => [i.2.2.2, [(g, .cells t.cells.toArray 47 (0, 0))]])
    (fun i => i.1 ≤ 8 ∧ BufB (intsB (t.ints.take i.1)) i.2) (fun i => 8 - i.1) (0, none, 0, []) ⟨by simp, Buf.nil _ _⟩ ⟨rfl, rfl, rfl, rfl, trivial⟩ rfl ?_
  rintro ⟨i, A, c, E⟩ ⟨hi, hb⟩
  dsimp only at hi hb ⊢
  have hl1 := intsB_len (t.ints.take i)
  have hl2 : (t.ints.take i).length ≤ 8 := by simp; omega
  refine rRec3_0 ?_
  refine wc_if rfl (fun h1 => ?_) (fun h1 => ?_)
  · obtain ⟨a, ha⟩ : ∃ a, t.ints[i]? = some a := ⟨t.ints[i]'(by omega), List.getElem?_eq_getElem _⟩
    obtain ⟨hp, hm⟩ := hok a (List.mem_of_getElem? ha)
    obtain ⟨N, rfl⟩ : ∃ N : Nat, a = N := ⟨a.toNat, by omega⟩
    have ef : formI N = formN N := by rw [formI, if_neg (by omega)]; rfl
    have en : intsB (t.ints.take (i + 1)) = intsB (t.ints.take i) ++ formN N := by rw [← ef]; exact flat_take ha
    refine rRec3_0 ?_
    apply wx_val
    exact v_idxP (v := .int .i64 N) (sz := 1) rfl rfl rfl (by omega) (by rw [show (i : Int).toNat * 1 = i by omega, nts, List.getElem?_map, ha]; rfl)
    rfl
    refine rRec3_0 ?_
    refine wl_callP [] [0, 1] rfl rfl (fun w' hr ho => Append_spec (N := N) (by omega) (by omega) w' (hb.vw hr (i := 0) rfl)) rfl rfl rfl rfl ?_
    rintro ⟨A5, c5, E5⟩ hb5
    dsimp only at hb5 ⊢
    rw [← en] at hb5 ⊢
    (first | refine wx_mem (by simp only [pick, List.getElem?_cons_succ, List.getElem?_cons_zero, Option.getD_some, List.cons_append, List.nil_append, List.set_cons_zero, List.set_cons_succ] <;> rfl) ?_)
    refine rRec3_0 ?_
    refine wq_pickP [0, 2] [1] rfl rfl ?_
    exact wq_round (i + 1, A5, c5, E5) ⟨by (try dsimp only); omega, hb5⟩ (by (try dsimp only); omega) ⟨rfl, rfl, rfl, rfl, trivial⟩ rfl
  · have hi' : i = 8 := by omega
    subst hi'
    have e0 : intsB (t.ints.take 8) = intsB t.ints ++ opsB (t.ops.xs.take 0) := by simp [opsB, TxnW.ints]
    rw [e0] at hb ⊢
    refine rRec3_0 ?_
    refine wc_pickP [0] [1] rfl rfl ?_
    refine wc_loop (ι := Nat × Option Addr × Nat × Seg) (fun i => [(5, .slice i.2.1 (intsB t.ints ++ opsB (t.ops.xs.take i.1)).length i.2.2.1), (45, .slice t.ops.A t.ops.xs.length t.ops.c), (46, .int .i64 (t.ops.xs.length : Nat)), (47, .int .i64 (i.1 : Nat))]) (fun i => [i.2.2.2])
      (fun i => i.1 ≤ t.ops.xs.length ∧ BufB (intsB t.ints ++ opsB (t.ops.xs.take i.1)) i.2) (fun i => t.ops.xs.length - i.1) (0, A, c, E) ⟨by simp, hb⟩ ⟨rfl, rfl, rfl, rfl, trivial⟩ rfl ?_
    clear hb hl1 hl2 e0 hi h1
    rintro ⟨i, A, c, E⟩ ⟨hi, hb⟩
    dsimp only at hi hb ⊢
    have hl1 := intsB_len t.ints
    have hl2 := opsB_len (l := t.ops.xs.take i) (fun o ho => hr o (List.mem_of_mem_take ho))
    have hl3 : (t.ops.xs.take i).length ≤ 16 := by simp; omega
    have hl4 : (intsB t.ints ++ opsB (t.ops.xs.take i)).length ≤ 496 := by rw [List.length_append]; omega
    refine rRec3_0 ?_
    refine wc_if rfl (fun h1 => ?_) (fun h1 => ?_)
    case refine_2 =>
      have hi' : i = t.ops.xs.length := by omega
      subst hi'
      have e0 : intsB t.ints ++ opsB (t.ops.xs.take t.ops.xs.length) = t.body := by rw [List.take_length]; rfl
      rw [e0] at hb ⊢
      refine rRec3_0 ?_
      exact wq_ret2 (A, c, E) rfl rfl rfl rfl hb rfl
    obtain ⟨a, ha⟩ : ∃ a, t.ops.xs[i]? = some a := ⟨t.ops.xs[i]'(by omega), List.getElem?_eq_getElem _⟩
    have har := hr a (List.mem_of_getElem? ha)
    obtain ⟨gB, oB, hA, hcell⟩ := cells_at (k := 4) (by decide) (fun _ => rfl) hv ha
    have en : intsB t.ints ++ opsB (t.ops.xs.take (i + 1)) = intsB t.ints ++ opsB (t.ops.xs.take i) ++ a.bytes := by rw [List.append_assoc]; congr 1; exact flat_take ha
    have htg : a.tag ≤ 255 := by unfold OpW.tag; (repeat' split) <;> omega
    have hks : a.key.size ≤ 8 := har.2.1
    have hvs : a.value.size ≤ 16 := har.2.2.1
    refine rRec3_0 ?_
    apply wx_val
    exact v_iaddr rfl (by rw [← hA]; rfl) rfl (by omega)
    rfl
    apply wx_val
    exact v_loadA (cs := OpW.cells a) rfl rfl (fun w' hr j v hj => by
      have := hcell i a ha hr j v hj
      rw [show (i : Int).toNat = i by omega]
      exact this)
    rfl
    refine wl_alloc rfl rfl (fun g2 => ?_)
    refine rRec3_0 ?_
    refine wx_vcall (vc_pure rfl rfl (fun w' => tag_spec a w')) rfl ?_
    refine rRec3_0 ?_
    refine wl_lit rfl rfl rfl rfl rfl (by decide) rfl (fun g3 => ?_)
    refine wl_append1 1 rfl rfl rfl hb rfl rfl rfl (by intro u hu; simp [catL, cellsL] at hu; subst hu; rfl) (by omega) rfl (fun A3 c3 E3 hb3 => ?_)
    rw [lit_bys (by omega), ← bys_append] at hb3
    have ek : (intsB t.ints ++ opsB (t.ops.xs.take i)).length + 1 = (intsB t.ints ++ opsB (t.ops.xs.take i) ++ [UInt8.ofNat ((a.tag : Nat) : Int).toNat]).length := by simp only [List.length_append, List.length_cons, List.length_nil]
    rw [ek] at hb3 ⊢
    rw [Int.toNat_natCast] at hb3 ⊢
    (first | refine wx_mem (by simp only [pick, List.getElem?_cons_succ, List.getElem?_cons_zero, Option.getD_some, List.cons_append, List.nil_append, List.set_cons_zero, List.set_cons_succ] <;> rfl) ?_)
    refine rRec3_0 ?_
    refine wl_callP [] [0, 1] rfl rfl (fun w' hr ho => AppendText_spec (l := intsB t.ints ++ opsB (t.ops.xs.take i) ++ [UInt8.ofNat a.tag]) (s := a.key) (by rw [List.length_append]; simp only [List.length_cons, List.length_nil]; omega) w' (hb3.vw hr (i := 1) rfl)) rfl rfl rfl rfl ?_
    rintro ⟨A5, c5, E5⟩ hb5
    dsimp only at hb5 ⊢
    (first | refine wx_mem (by simp only [pick, List.getElem?_cons_succ, List.getElem?_cons_zero, Option.getD_some, List.cons_append, List.nil_append, List.set_cons_zero, List.set_cons_succ] <;> rfl) ?_)
    refine wx_pickP [0, 1] [2] rfl rfl ?_
    (first | refine wx_mem (by simp only [pick, List.getElem?_cons_succ, List.getElem?_cons_zero, Option.getD_some, List.cons_append, List.nil_append, List.set_cons_zero, List.set_cons_succ] <;> rfl) ?_)
    refine rRec3_0 ?_
    repeat' (first | (apply wx_val; (first | exact v_move rfl | exact v_faddr rfl rfl | (apply v_load rfl rfl rfl; first | exact ld 0 0 rfl rfl rfl | exact ld 1 0 rfl rfl rfl | exact ld 2 0 rfl rfl rfl | exact ld 3 0 rfl rfl rfl | exact ld 4 0 rfl rfl rfl | exact ld 5 0 rfl rfl rfl) | exact v_eq rfl rfl | exact v_addi rfl rfl (by omega) | exact v_pickT rfl rfl | exact v_pickF rfl rfl); rfl) | refine wx_no rfl rfl rfl ?_ | refine wx_ungd rfl rfl ?_ | refine wc_region ?_ | refine wx_nil ?_ | refine wq_next ?_ | refine wc_skip ?_ | refine wq_block ?_ | refine wc_condT rfl ?_ | refine wc_if rfl (fun _ => ?_) (fun _ => ?_) | refine wx_gif rfl rfl (fun _ => ?_) (fun _ => ?_))
    all_goals first
      | (have eb : a.bytes = [UInt8.ofNat a.tag] ++ textB a.key := by unfold OpW.bytes; rw [if_neg (by omega), List.append_nil]
         have en2 : intsB t.ints ++ opsB (t.ops.xs.take i) ++ [UInt8.ofNat a.tag] ++ textB a.key = intsB t.ints ++ opsB (t.ops.xs.take (i + 1)) := by rw [en, eb]; simp only [List.append_assoc]
         rw [en2] at hb5 ⊢
         refine wq_pickP [0] [1] rfl rfl ?_
         exact wq_round (i + 1, A5, c5, E5) ⟨by (try dsimp only); omega, hb5⟩ (by (try dsimp only); omega) ⟨rfl, rfl, rfl, rfl, trivial⟩ rfl)
      | skip
        (have eb : a.bytes = [UInt8.ofNat a.tag] ++ textB a.key ++ textB a.value := by unfold OpW.bytes; rw [if_pos (by omega)]
         have hl5 := textB_short (s := a.key) (by omega)
         refine wl_callP [] [0, 1] rfl rfl (fun w' hr ho => AppendText_spec (l := intsB t.ints ++ opsB (t.ops.xs.take i) ++ [UInt8.ofNat a.tag] ++ textB a.key) (s := a.value) (by simp only [List.length_append, List.length_cons, List.length_nil] at hl4 ⊢; omega) w' (hb5.vw hr (i := 0) rfl)) rfl rfl rfl rfl ?_
         rintro ⟨A6, c6, E6⟩ hb6
         dsimp only at hb6 ⊢
         have en2 : intsB t.ints ++ opsB (t.ops.xs.take i) ++ [UInt8.ofNat a.tag] ++ textB a.key ++ textB a.value = intsB t.ints ++ opsB (t.ops.xs.take (i + 1)) := by rw [en, eb]; simp only [List.append_assoc]
         rw [en2] at hb6 ⊢
         (first | refine wx_mem (by simp only [pick, List.getElem?_cons_succ, List.getElem?_cons_zero, Option.getD_some, List.cons_append, List.nil_append, List.set_cons_zero, List.set_cons_succ] <;> rfl) ?_)
         refine rRec3_0 ?_
         refine wq_pickP [0] [1, 2] rfl rfl ?_
         exact wq_round (i + 1, A6, c6, E6) ⟨by (try dsimp only); omega, hb6⟩ (by (try dsimp only); omega) ⟨rfl, rfl, rfl, rfl, trivial⟩ rfl)
end Go.Proofs.Ytlioccfedophhaa
/- Contracts of wire's cursor. -/
set_option linter.unusedVariables false
set_option linter.unusedSimpArgs false
namespace Go.Proofs.Ytlioccfedophhaa
open Go
set_option maxRecDepth 20000
attribute [local irreducible] WX WC WQ Val VCall
theorem rWire2_0 {A B : Prop} (k : B) (h : Hold B → A := by intro k; (repeat (first | (apply wx_val; (first | exact v_move rfl | exact v_assign rfl | exact v_nil rfl | exact v_faddr rfl rfl | (apply v_load rfl rfl rfl; first | exact ld 0 0 rfl rfl rfl | exact ld 1 0 rfl rfl rfl | exact ld 2 0 rfl rfl rfl | exact ld 3 0 rfl rfl rfl | exact ld 4 0 rfl rfl rfl | exact ld 5 0 rfl rfl rfl) | exact v_extract rfl rfl | exact v_len rfl rfl | exact v_eq rfl rfl | exact v_ne rfl rfl | exact v_lt rfl rfl | exact v_gt rfl rfl | exact v_ge rfl rfl | exact v_addi rfl rfl (by omega) | exact v_subi rfl rfl (by omega) | exact v_pickT rfl rfl | exact v_pickF rfl rfl | exact v_iaddr rfl rfl rfl (by omega) | exact v_conv rfl rfl rfl | exact v_muli rfl rfl (by omega) | exact v_and rfl rfl | exact v_or rfl rfl | exact v_shl rfl rfl (by omega)); rfl) | refine wx_no rfl rfl rfl ?_ | refine wx_ungd rfl rfl ?_ | refine wc_seq ?_ | refine wc_region ?_ | refine wx_nil ?_ | refine wq_next ?_ | refine wc_block ?_ | refine wc_ret ?_ | refine wc_skip ?_ | refine wc_exit ?_ | refine wq_then_ret ?_ | refine wq_then_exit ?_ | refine wq_block ?_ | refine wq_block_ret ?_ | refine wq_block_exit rfl ?_ | refine wc_reads rfl (by decide +kernel) ?_ | refine wc_condF rfl ?_ | refine wl_store 0 rfl rfl rfl rfl (Nat.le_of_ble_eq_true rfl) (.inl (Nat.le_refl _)) rfl ?_)); exact k.out) : A := h ⟨k⟩
/-! ### the cursor -/
abbrev curB (g : Nat) (A : Option Addr) (n c : Nat) (p f : Int) : Seg := [(g, .cells [.slice A n c, .int .i64 p, .int .i64 f].toArray 153 (0, 0))]
theorem Buf.at {e n c : Nat} {A : Option Addr} {d : List UInt8} {E : Seg} (h : Buf e 1 A n c (bys d) E) {i : Nat} (hi : i < d.length) :
    ∃ gd, A = some ⟨gd, 0, none⟩ ∧ ∀ (j : Nat) (w0 w : World) (X : List Nat) (M : List Seg) (k : Nat), j < d.length → Res w0 X w M → M[k]? = some E → w.cell? ⟨gd, j, none⟩ = some (.int .u8 (d.getD j 0).toNat) := by
  rcases h.2 with ⟨_, rfl, _, _⟩ | ⟨g, cur, fz, rfl, rfl, _, _, hs, ht, hf⟩
  · have := h.1
    simp at this
    subst this
    simp at hi
  · refine ⟨g, rfl, fun j w0 w X M k hj hr hk => ?_⟩
    obtain ⟨g', hg, _, hc⟩ := h.cells (fun p hp => hr.own.at_ p (List.mem_flatten.2 ⟨_, List.mem_of_getElem? hk, hp⟩)) (by intro e; have := congrArg List.length e; simp at this; subst this; simp at hj)
    cases hg
    have := hc j _ (bys_get hj)
    rw [this]
    simp [List.getD_eq_getElem?_getD, hj]
def cByte (d : List UInt8) (p : Nat) (f : Int) : Int × Int × Int × Int :=
  if f ≠ 0 then (0, f, p, f) else if d.length ≤ p then (0, 51, p, 51) else ((d.getD p 0).toNat, 0, p + 1, 0)
theorem fail_spec {g : Nat} {A : Option Addr} {n c : Nat} {p f e : Int} (w : World) (ho : Own w [curB g A n c p f]) :
    Calls Try.prog 100 #[.pointer (some ⟨g, 0, none⟩), .int .i64 e] w (Ret (β := Unit) w (ids [curB g A n c p f]) (fun _ => .int .i64 e) (fun _ => [curB g A n c p e]) (fun _ => True)) := by
  refine go [.pointer (some ⟨g, 0, none⟩), .int .i64 e] [curB g A n c p f] Try.func100 Try.ntmps100 rfl rfl ho ?_
  refine rWire2_0 ?_
  exact wq_ret1 () rfl rfl trivial rfl
section cur
variable {g c : Nat} {A : Option Addr} {d : List UInt8} {E : Seg} {p : Nat} {f : Int}
theorem Byte_spec (hd : d.length ≤ 281474976710656) (hb : Buf 5 1 A d.length c (bys d) E) (hp : p ≤ d.length) (w : World) (ho : Own w [curB g A d.length c p f, E]) :
    Calls Try.prog 92 #[.pointer (some ⟨g, 0, none⟩)] w (Ret (β := Unit) w (ids [curB g A d.length c p f, E]) (fun _ => .tuple #[.int .u8 (cByte d p f).1, .int .i64 (cByte d p f).2.1]) (fun _ => [curB g A d.length c (cByte d p f).2.2.1 (cByte d p f).2.2.2, E]) (fun _ => True)) := by
  have hmx := hb.le
  simp only [maxLen] at hmx
  refine go [.pointer (some ⟨g, 0, none⟩)] [curB g A d.length c p f, E] Try.func92 Try.ntmps92 rfl rfl ho ?_
  refine rWire2_0 ?_
  refine wc_if rfl (fun h1 => ?_) (fun h1 => ?_)
  · have e : cByte d p f = (0, f, (p : Int), f) := by simp [cByte, h1]
    refine rWire2_0 ?_
    refine wq_ret2 () rfl rfl rfl ?_ trivial ?_ <;> rw [e]
  · have h1' : f = 0 := by omega
    subst h1'
    refine rWire2_0 ?_
    refine wc_if rfl (fun h2 => ?_) (fun h2 => ?_)
    · have e : cByte d p 0 = (0, 51, (p : Int), 51) := by simp [cByte]; omega
      refine rWire2_0 ?_
      refine wl_call (L := [E]) (fun w' hr => fail_spec w' hr.own.left) rfl rfl (List.Perm.refl _) rfl (fun _ _ => ?_)
      refine rWire2_0 ?_
      refine wq_ret2 () rfl rfl rfl ?_ trivial ?_ <;> rw [e]; rfl
    · have e : cByte d p 0 = (((d.getD p 0).toNat : Int), 0, (p : Int) + 1, 0) := by simp [cByte]; omega
      obtain ⟨gd, rfl, hc⟩ := hb.at (i := p) (by omega)
      refine rWire2_0 ?_
      apply wx_val
      exact v_ldx rfl rfl rfl (fun w' hr => hc p _ _ _ _ 1 (by omega) hr rfl) (by omega)
      rfl
      refine rWire2_0 ?_
      refine wq_ret2 () rfl rfl rfl ?_ trivial ?_ <;> rw [e]; rfl
def scanL : Nat → Nat → List UInt8 → Nat × Nat × Int
  | i, _, [] => if 8 ≤ i then (0, 0, 52) else (0, 0, 51)
  | i, acc, b :: r => if 8 ≤ i then (0, 0, 52) else if b.toNat < 128 then (if b.toNat = 0 ∧ 0 < i then (0, 0, 52) else (acc + b.toNat * 128 ^ i, i + 1, 0)) else scanL (i + 1) (acc + (b.toNat % 128) * 128 ^ i) r
theorem or64 {a b : Nat} (ha : a < 2 ^ 56) (hb : b < 2 ^ 56) : orI .i64 a b = ((a ||| b : Nat) : Int) := by
  have h1 : a ||| b < 2 ^ 56 := Nat.or_lt_two_pow ha hb
  unfold orI
  show IntKind.i64.wrap ((BitVec.ofInt 64 a ||| BitVec.ofInt 64 b).toNat : Int) = _
  have h2 : (BitVec.ofInt 64 (a : Int) ||| BitVec.ofInt 64 (b : Int)).toNat = a ||| b := by
    rw [BitVec.toNat_or]
    congr 1 <;> simp <;> omega
  rw [h2, wrap_in (by omega)]
theorem pow128 (i : Nat) : 128 ^ i = 2 ^ (7 * i) := by rw [Nat.pow_mul]
theorem pow_le7 {i : Nat} (hi : i ≤ 7) : 2 ^ (7 * i) ≤ 562949953421312 := by
  show 2 ^ (7 * i) ≤ 2 ^ 49
  exact Nat.pow_le_pow_right (by omega) (by omega)
theorem or_shift {acc x i : Nat} (hi : i ≤ 7) (ha : acc < 128 ^ i) (hx : x < 128) : orI .i64 (acc : Int) (shlI .i64 (x : Int) (7 * (i : Int))) = ((acc + x * 128 ^ i : Nat) : Int) := by
  have h0 := pow_le7 hi
  rw [pow128] at ha ⊢
  have h1 : x * 2 ^ (7 * i) ≤ 127 * 562949953421312 := Nat.mul_le_mul (by omega) h0
  have h2 : shlI .i64 (x : Int) (7 * (i : Int)) = ((x * 2 ^ (7 * i) : Nat) : Int) := by
    unfold shlI
    have e : min (7 * (i : Int)).toNat IntKind.i64.bits = 7 * i := by
      show min (7 * (i : Int)).toNat 64 = 7 * i
      omega
    rw [e, wrap_in]
    · simp
    · have : (x : Int) * 2 ^ (7 * i) = ((x * 2 ^ (7 * i) : Nat) : Int) := by simp
      rw [this]; omega
  rw [h2, or64 (by omega) (by omega)]
  congr 1
  rw [Nat.or_comm, ← Nat.shiftLeft_eq, ← Nat.shiftLeft_add_eq_or_of_lt ha, Nat.add_comm]
set_option maxRecDepth 100000 in
theorem and127 {x : Nat} (h : x < 256) : andI .u8 x 127 = ((x % 128 : Nat) : Int) := by
  have h1 : ∀ v : Fin 256, andI .u8 (v.val : Int) 127 = ((v.val % 128 : Nat) : Int) := by decide
  exact h1 ⟨x, h⟩
theorem drop_cons {d : List UInt8} {i : Nat} (h : i < d.length) : d.drop i = d.getD i 0 :: d.drop (i + 1) := by
  rw [List.drop_eq_getElem_cons h, List.getD_eq_getElem?_getD, List.getElem?_eq_getElem h]; rfl
set_option maxRecDepth 20000 in
theorem scan_spec (hd : d.length ≤ 281474976710656) (hb : Buf 5 1 A d.length c (bys d) E) (hp : p ≤ d.length) (w : World) (ho : Own w [curB g A d.length c p f, E]) :
    Calls Try.prog 99 #[.pointer (some ⟨g, 0, none⟩)] w (Ret (β := Unit) w (ids [curB g A d.length c p f, E]) (fun _ => .tuple #[.int .i64 (scanL 0 0 (d.drop p)).1, .int .i64 (scanL 0 0 (d.drop p)).2.1, .int .i64 (scanL 0 0 (d.drop p)).2.2]) (fun _ => [curB g A d.length c p f, E]) (fun _ => True)) := by
  have hmx := hb.le
  simp only [maxLen] at hmx
  refine go [.pointer (some ⟨g, 0, none⟩)] [curB g A d.length c p f, E] Try.func99 Try.ntmps99 rfl rfl ho ?_
  refine rWire2_0 ?_
  refine wc_loop (ι := Nat × Nat) (fun (i, acc) => [(0, .pointer (some ⟨g, 0, none⟩)), (5, .int .i64 (acc : Int)), (8, .int .i64 (i : Int))]) (fun _ => [curB g A d.length c p f, E])
    (fun (i, acc) => i ≤ 8 ∧ acc < 128 ^ i ∧ scanL i acc (d.drop (p + i)) = scanL 0 0 (d.drop p)) (fun (i, _) => 8 - i) (0, 0) ⟨by (try dsimp only); omega, by simp, by simp⟩ ⟨rfl, rfl, rfl, trivial⟩ rfl ?_
  rintro ⟨i, acc⟩ ⟨hi, ha, hs⟩
  refine rWire2_0 ?_
  refine wc_if rfl (fun h1 => ?_) (fun h1 => ?_)
  · refine rWire2_0 ?_
    refine wc_if rfl (fun h2 => ?_) (fun h2 => ?_)
    · refine rWire2_0 ?_
      have e : scanL 0 0 (d.drop p) = (0, 0, 51) := by
        rw [← hs, List.drop_of_length_le (by omega)]
        simp [scanL]; omega
      refine wq_ret3 () rfl rfl rfl rfl ?_ trivial rfl
      rw [e]; rfl
    · obtain ⟨gd, rfl, hc⟩ := hb.at (i := p + i) (by omega)
      have hbt : (d.getD (p + i) 0).toNat < 256 := (d.getD (p + i) 0).toNat_lt
      rw [drop_cons (by omega)] at hs
      simp only [scanL] at hs
      rw [if_neg (by omega)] at hs
      generalize hx : (d.getD (p + i) 0).toNat = x at hbt hs
      refine rWire2_0 ?_
      apply wx_val
      exact v_ldx rfl rfl rfl (fun w' hr => hc (p + i) _ _ _ _ 1 (by omega) hr rfl) (by omega)
      rfl
      rw [hx]
      refine rWire2_0 ?_
      rw [and127 hbt, wrap_in (n := ((x % 128 : Nat) : Int)) (by omega), or_shift (by omega) ha (by omega)]
      refine wc_if rfl (fun h3 => ?_) (fun h3 => ?_)
      · rw [if_pos (by omega)] at hs
        have hm : x % 128 = x := Nat.mod_eq_of_lt (by omega)
        rw [hm]
        refine rWire2_0 ?_
        refine wx_if 47 rfl (fun h4 => ?_) (fun h4 => ?_)
        · refine rWire2_0 ?_
          refine wc_if rfl (fun h5 => ?_) (fun h5 => ?_)
          · rw [if_pos (by omega)] at hs
            refine rWire2_0 ?_
            refine wq_ret3 () rfl rfl rfl rfl ?_ trivial rfl
            rw [← hs]; rfl
          · rw [if_neg (by omega)] at hs
            refine rWire2_0 ?_
            refine wq_ret3 () rfl rfl rfl rfl ?_ trivial rfl
            rw [← hs]; rfl
        · rw [if_neg (by omega)] at hs
          refine rWire2_0 ?_
          refine wq_ret3 () rfl rfl rfl rfl ?_ trivial rfl
          rw [← hs]; rfl
      · rw [if_neg (by omega)] at hs
        refine rWire2_0 ?_
        refine wq_round (i + 1, acc + (x % 128) * 128 ^ i) ⟨by (try dsimp only); omega, ?_, ?_⟩ (by (try dsimp only); omega) ⟨rfl, rfl, rfl, trivial⟩ rfl
        · show acc + (x % 128) * 128 ^ i < 128 ^ (i + 1)
          rw [Nat.pow_succ, Nat.mul_comm _ 128]
          have := Nat.mul_le_mul_right (128 ^ i) (show x % 128 ≤ 127 by omega)
          omega
        · exact hs
  · refine rWire2_0 ?_
    have hi8 : i = 8 := by omega
    subst hi8
    have e : scanL 0 0 (d.drop p) = (0, 0, 52) := by
      rw [← hs]
      cases d.drop (p + 8) <;> simp [scanL]
    refine wq_ret3 () rfl rfl rfl rfl ?_ trivial rfl
    rw [e]; rfl
/-- what the reading calls do: the value or the text, the error, the place and the fault behind it -/
def cNumber (d : List UInt8) (p : Nat) (f most : Int) : Int × Int × Nat × Int :=
  if f ≠ 0 then (0, f, p, f) else
  if (scanL 0 0 (d.drop p)).2.2 ≠ 0 then (0, (scanL 0 0 (d.drop p)).2.2, p, (scanL 0 0 (d.drop p)).2.2) else
  if most < (scanL 0 0 (d.drop p)).1 then (0, 53, p, 53) else ((scanL 0 0 (d.drop p)).1, 0, p + (scanL 0 0 (d.drop p)).2.1, 0)
theorem scanL_size : ∀ (l : List UInt8) (i acc : Nat), (scanL i acc l).2.2 = 0 → (scanL i acc l).2.1 ≤ i + l.length ∧ i < (scanL i acc l).2.1
  | [], i, acc => by simp only [scanL]; split <;> simp
  | b :: r, i, acc => by
    simp only [scanL]
    split
    · simp
    · split
      · split
        · simp
        · simp
      · intro h
        have := scanL_size r _ _ h
        simp only [List.length_cons]
        omega
theorem Number_spec (hd : d.length ≤ 281474976710656) (hb : Buf 5 1 A d.length c (bys d) E) (hp : p ≤ d.length) (most : Int) (w : World) (ho : Own w [curB g A d.length c p f, E]) :
    Calls Try.prog 90 #[.pointer (some ⟨g, 0, none⟩), .int .i64 most] w (Ret (β := Unit) w (ids [curB g A d.length c p f, E]) (fun _ => .tuple #[.int .i64 (cNumber d p f most).1, .int .i64 (cNumber d p f most).2.1]) (fun _ => [curB g A d.length c (cNumber d p f most).2.2.1 (cNumber d p f most).2.2.2, E]) (fun _ => True)) := by
  have hmx := hb.le
  simp only [maxLen] at hmx
  refine go [.pointer (some ⟨g, 0, none⟩), .int .i64 most] [curB g A d.length c p f, E] Try.func90 Try.ntmps90 rfl rfl ho ?_
  refine rWire2_0 ?_
  refine wc_if rfl (fun h1 => ?_) (fun h1 => ?_)
  · have e : cNumber d p f most = (0, f, p, f) := by simp [cNumber, h1]
    refine rWire2_0 ?_
    refine wq_ret2 () rfl rfl rfl ?_ trivial ?_ <;> rw [e]
  · have h1' : f = 0 := by omega
    subst h1'
    have hsz := scanL_size (d.drop p) 0 0
    generalize hsc : scanL 0 0 (d.drop p) = sc at hsz
    obtain ⟨n, size, e0⟩ := sc
    simp only [List.length_drop] at hsz
    refine rWire2_0 ?_
    refine wl_call (L := []) (fun w' hr => scan_spec (f := 0) hd hb hp w' (by simpa using hr.own)) rfl rfl (by rw [List.append_nil]) rfl (fun _ _ => ?_)
    rw [hsc]
    dsimp only
    refine rWire2_0 ?_
    refine wc_if rfl (fun h2 => ?_) (fun h2 => ?_)
    · have e : cNumber d p 0 most = (0, e0, p, e0) := by simp [cNumber, hsc]; intro h; exact absurd h h2
      refine rWire2_0 ?_
      refine wl_call (L := [E]) (fun w' hr => fail_spec w' hr.own.left) rfl rfl (List.Perm.refl _) rfl (fun _ _ => ?_)
      refine rWire2_0 ?_
      refine wq_ret2 () rfl rfl rfl ?_ trivial ?_ <;> rw [e]
      rfl
    · have h2' : e0 = 0 := by
        have : ¬ e0 ≠ 0 := h2
        omega
      subst h2'
      refine rWire2_0 ?_
      refine wc_if rfl (fun h3 => ?_) (fun h3 => ?_)
      · have e : cNumber d p 0 most = (0, 53, p, 53) := by simp [cNumber, hsc, h3]
        refine rWire2_0 ?_
        refine wl_call (L := [E]) (fun w' hr => fail_spec w' hr.own.left) rfl rfl (List.Perm.refl _) rfl (fun _ _ => ?_)
        refine rWire2_0 ?_
        refine wq_ret2 () rfl rfl rfl ?_ trivial ?_ <;> rw [e]
        rfl
      · have e : cNumber d p 0 most = ((n : Int), 0, p + size, 0) := by simp [cNumber, hsc, h3]
        have hsz' := hsz rfl
        refine rWire2_0 ?_
        refine wq_ret2 () rfl rfl rfl ?_ trivial ?_ <;> rw [e]
        rfl
end cur
end Go.Proofs.Ytlioccfedophhaa
/- Contracts of wire's cursor. -/
set_option linter.unusedVariables false
set_option linter.unusedSimpArgs false
namespace Go.Proofs.Ytlioccfedophhaa
open Go
set_option maxRecDepth 20000
attribute [local irreducible] WX WC WQ Val VCall
theorem rWire3_0 {A B : Prop} (k : B) (h : Hold B → A := by intro k; (repeat (first | (apply wx_val; (first | exact v_move rfl | exact v_assign rfl | exact v_nil rfl | exact v_faddr rfl rfl | (apply v_load rfl rfl rfl; first | exact ld 0 0 rfl rfl rfl | exact ld 1 0 rfl rfl rfl | exact ld 2 0 rfl rfl rfl | exact ld 3 0 rfl rfl rfl | exact ld 4 0 rfl rfl rfl | exact ld 5 0 rfl rfl rfl) | exact v_extract rfl rfl | exact v_len rfl rfl | exact v_ne rfl rfl | exact v_lt rfl rfl | exact v_gt rfl rfl | exact v_addi rfl rfl (by omega) | exact v_subi rfl rfl (by omega) | exact v_pickT rfl rfl | exact v_pickF rfl rfl | exact v_slice rfl rfl rfl rfl (by omega) (by omega)); rfl) | refine wx_no rfl rfl rfl ?_ | refine wx_ungd rfl rfl ?_ | refine wc_seq ?_ | refine wc_region ?_ | refine wx_nil ?_ | refine wq_next ?_ | refine wc_ret ?_ | refine wc_skip ?_ | refine wq_then_ret ?_ | refine wc_reads rfl (by decide +kernel) ?_ | refine wc_condT rfl ?_ | refine wl_store 0 rfl rfl rfl rfl (Nat.le_of_ble_eq_true rfl) (.inl (Nat.le_refl _)) rfl ?_)); exact k.out) : A := h ⟨k⟩
section cur
variable {g c : Nat} {A : Option Addr} {d : List UInt8} {E : Seg} {p : Nat} {f : Int}
theorem Buf.rdB {e n : Nat} {d : List UInt8} (h : Buf e 1 A n c (bys d) E) {l k : Nat} (hl : l ≤ k) (hk : k ≤ n) {w0 w : World} {X : List Nat} {M : List Seg} (hr : Res w0 X w M) {i : Nat} (hi : M[i]? = some E) :
    Rd w (cutA A l k c 1) (bys ((d.drop l).take (k - l))) := by
  have h1 := h.1
  have h2 := h.le
  simp only [bys_length, Nat.mul_one] at h1
  have := rd_cut (l := l) (h := k) (c := c) (sz := 1) (h.rd hr hi) hl (by simp; omega) (by omega)
  simpa [bys, List.map_drop, List.map_take] using this
def cText (d : List UInt8) (p : Nat) (f least most : Int) : List UInt8 × Int × Nat × Int :=
  if f ≠ 0 then ([], f, p, f) else
  if (scanL 0 0 (d.drop p)).2.2 ≠ 0 then ([], (scanL 0 0 (d.drop p)).2.2, p, (scanL 0 0 (d.drop p)).2.2) else
  if ((scanL 0 0 (d.drop p)).1 : Int) < least ∨ most < (scanL 0 0 (d.drop p)).1 then ([], 53, p, 53) else
  if d.length < p + (scanL 0 0 (d.drop p)).2.1 + (scanL 0 0 (d.drop p)).1 then ([], 51, p, 51) else
  ((d.drop (p + (scanL 0 0 (d.drop p)).2.1)).take (scanL 0 0 (d.drop p)).1, 0, p + (scanL 0 0 (d.drop p)).2.1 + (scanL 0 0 (d.drop p)).1, 0)
theorem scanL_val : ∀ (l : List UInt8) (i acc : Nat), acc < 128 ^ i → i ≤ 8 → (scanL i acc l).1 < 128 ^ 8
  | [], i, acc, h, hi => by simp only [scanL]; split <;> simp
  | b :: r, i, acc, h, hi => by
    simp only [scanL]
    split
    · simp
    · rename_i h8
      have hb : ∀ x, x < 128 → acc + x * 128 ^ i < 128 ^ (i + 1) := fun x hx => by
        rw [Nat.pow_succ, Nat.mul_comm _ 128]
        have := Nat.mul_le_mul_right (128 ^ i) (show x ≤ 127 by omega)
        omega
      split
      · split
        · simp
        · rename_i h1 _
          exact Nat.lt_of_lt_of_le (hb _ h1) (Nat.pow_le_pow_right (by omega) (by omega))
      · exact scanL_val r _ _ (hb _ (by omega)) (by omega)
theorem Text_spec (hd : d.length ≤ 281474976710656) (hb : Buf 5 1 A d.length c (bys d) E) (hp : p ≤ d.length) (least most : Int) (w : World) (ho : Own w [curB g A d.length c p f, E]) :
    Calls Try.prog 101 #[.pointer (some ⟨g, 0, none⟩), .int .i64 least, .int .i64 most] w (Ret (β := Unit) w (ids [curB g A d.length c p f, E]) (fun _ => .tuple #[.string ⟨(cText d p f least most).1.toArray⟩, .int .i64 (cText d p f least most).2.1]) (fun _ => [curB g A d.length c (cText d p f least most).2.2.1 (cText d p f least most).2.2.2, E]) (fun _ => True)) := by
  have hmx := hb.le
  simp only [maxLen] at hmx
  refine go [.pointer (some ⟨g, 0, none⟩), .int .i64 least, .int .i64 most] [curB g A d.length c p f, E] Try.func101 Try.ntmps101 rfl rfl ho ?_
  refine rWire3_0 ?_
  refine wc_if rfl (fun h1 => ?_) (fun h1 => ?_)
  · have e : cText d p f least most = ([], f, p, f) := by simp [cText, h1]
    refine rWire3_0 ?_
    refine wq_ret2 () rfl rfl rfl ?_ trivial ?_ <;> rw [e]
  · have h1' : f = 0 := by omega
    subst h1'
    have hsz := scanL_size (d.drop p) 0 0
    have hvl := scanL_val (d.drop p) 0 0 (by omega) (by omega)
    generalize hsc : scanL 0 0 (d.drop p) = sc at hsz hvl
    obtain ⟨n, size, e0⟩ := sc
    simp only [List.length_drop] at hsz hvl
    refine rWire3_0 ?_
    refine wl_call (L := []) (fun w' hr => scan_spec (f := 0) hd hb hp w' (by simpa using hr.own)) rfl rfl (by rw [List.append_nil]) rfl (fun _ _ => ?_)
    rw [hsc]
    dsimp only
    refine rWire3_0 ?_
    refine wc_if rfl (fun h2 => ?_) (fun h2 => ?_)
    · have e : cText d p 0 least most = ([], e0, p, e0) := by simp [cText, hsc]; intro h; exact absurd h h2
      refine rWire3_0 ?_
      refine wl_call (L := [E]) (fun w' hr => fail_spec w' hr.own.left) rfl rfl (List.Perm.refl _) rfl (fun _ _ => ?_)
      refine rWire3_0 ?_
      refine wq_ret2 () rfl rfl rfl ?_ trivial ?_ <;> rw [e]
      rfl
    · have h2' : e0 = 0 := by
        have : ¬ e0 ≠ 0 := h2
        omega
      subst h2'
      have hsz' := hsz rfl
      refine rWire3_0 ?_
      refine wx_if 35 rfl (fun h3 => ?_) (fun h3 => ?_)
      · have e : cText d p 0 least most = ([], 53, p, 53) := by simp [cText, hsc, h3]
        refine rWire3_0 ?_
        refine wl_call (L := [E]) (fun w' hr => fail_spec w' hr.own.left) rfl rfl (List.Perm.refl _) rfl (fun _ _ => ?_)
        refine rWire3_0 ?_
        refine wq_ret2 () rfl rfl rfl ?_ trivial ?_ <;> rw [e]
        rfl
      · refine rWire3_0 ?_
        refine wc_if rfl (fun h4 => ?_) (fun h4 => ?_)
        · have e : cText d p 0 least most = ([], 53, p, 53) := by simp [cText, hsc, h4]
          refine rWire3_0 ?_
          refine wl_call (L := [E]) (fun w' hr => fail_spec w' hr.own.left) rfl rfl (List.Perm.refl _) rfl (fun _ _ => ?_)
          refine rWire3_0 ?_
          refine wq_ret2 () rfl rfl rfl ?_ trivial ?_ <;> rw [e]
          rfl
        · refine rWire3_0 ?_
          refine wc_if rfl (fun h5 => ?_) (fun h5 => ?_)
          · have e : cText d p 0 least most = ([], 51, p, 51) := by
              simp only [cText, hsc]
              rw [if_neg (by omega), if_neg (by omega), if_neg (by omega), if_pos (by omega)]
            refine rWire3_0 ?_
            refine wl_call (L := [E]) (fun w' hr => fail_spec w' hr.own.left) rfl rfl (List.Perm.refl _) rfl (fun _ _ => ?_)
            refine rWire3_0 ?_
            refine wq_ret2 () rfl rfl rfl ?_ trivial ?_ <;> rw [e]
            rfl
          · have e : cText d p 0 least most = ((d.drop (p + size)).take n, 0, p + size + n, 0) := by
              simp only [cText, hsc]
              rw [if_neg (by omega), if_neg (by omega), if_neg (by omega), if_neg (by omega)]
            refine rWire3_0 ?_
            apply wx_val
            refine v_str (l := (d.drop (p + size)).take n) rfl rfl rfl rfl (fun w' hr => ?_) ?_
            · have := hb.rdB (l := p + size) (k := p + size + n) (by omega) (by omega) hr (i := 1) rfl
              rw [show p + size + n - (p + size) = n by omega] at this
              exact this
            · simp; omega
            rfl
            refine rWire3_0 ?_
            refine wq_ret2 () rfl rfl rfl ?_ trivial ?_ <;> rw [e]
            rfl
end cur
end Go.Proofs.Ytlioccfedophhaa
/- Contracts of wire's cursor: making it, its place. -/
set_option linter.unusedVariables false
set_option linter.unusedSimpArgs false
namespace Go.Proofs.Ytlioccfedophhaa
open Go
set_option maxRecDepth 20000
attribute [local irreducible] WX WC WQ Val VCall
theorem rWire4_0 {A B : Prop} (k : B) (h : Hold B → A := by intro k; (repeat (first | (apply wx_val; (first | exact v_move rfl | exact v_assign rfl | exact v_nil rfl | exact v_faddr rfl rfl | (apply v_load rfl rfl rfl; first | exact ld 0 0 rfl rfl rfl | exact ld 1 0 rfl rfl rfl | exact ld 2 0 rfl rfl rfl | exact ld 3 0 rfl rfl rfl | exact ld 4 0 rfl rfl rfl | exact ld 5 0 rfl rfl rfl) | exact v_build rfl rfl); rfl) | refine wc_seq ?_ | refine wc_region ?_ | refine wx_nil ?_ | refine wq_next ?_ | refine wc_ret ?_)); exact k.out) : A := h ⟨k⟩
theorem Open_spec {A : Option Addr} {c : Nat} {d : List UInt8} (hd : d.length ≤ 140737488355328) (w : World) (hv : Vw [] w A (bys d)) :
    Calls Try.prog 75 #[.slice A d.length c] w (Ret (β := Nat × Option Addr × Nat × Seg) w (ids []) (fun r => .pointer (some ⟨r.1, 0, none⟩)) (fun r => [curB r.1 r.2.1 d.length r.2.2.1 0 0, r.2.2.2]) (fun r => Buf 5 1 r.2.1 d.length r.2.2.1 (bys d) r.2.2.2)) := by
  refine go [.slice A d.length c] [] Try.func75 Try.ntmps75 rfl rfl (own_nil w) ?_
  refine rWire4_0 ?_
  refine wl_lit rfl rfl rfl rfl rfl (by decide) rfl (fun g2 => ?_)
  refine rWire4_0 ?_
  refine wl_append 0 rfl rfl (Buf.full [] rfl (by decide)) rfl rfl (fun w' hr => src_slice rfl (hv.keep hr).rd (by simp) (by decide) (one_bys _)) (by omega) rfl (fun A2 c2 E2 hb2 => ?_)
  refine rWire4_0 ?_
  refine wl_box rfl rfl (fun g => ?_)
  refine rWire4_0 ?_
  simp only [Nat.zero_add, List.nil_append] at hb2
  refine wq_ret1 (g, A2, c2, E2) rfl ?_ hb2 ?_
  · rfl
  · simp only [Nat.zero_add]
    rfl
section cur
variable {g c : Nat} {A : Option Addr} {d : List UInt8} {E : Seg} {p : Nat} {f : Int}
theorem Offset_spec {n : Nat} (w : World) (ho : Own w [curB g A n c p f]) :
    Calls Try.prog 79 #[.pointer (some ⟨g, 0, none⟩)] w (Ret (β := Unit) w (ids [curB g A n c p f]) (fun _ => .int .i64 p) (fun _ => [curB g A n c p f]) (fun _ => True)) := by
  refine go [.pointer (some ⟨g, 0, none⟩)] [curB g A n c p f] Try.func79 Try.ntmps79 rfl rfl ho ?_
  refine rWire4_0 ?_
  exact wq_ret1 () rfl rfl trivial rfl
def cTake (d : List UInt8) (p : Nat) (f n : Int) : List UInt8 × Int × Nat × Int :=
  if f ≠ 0 then ([], f, p, f) else if n < 0 then ([], 53, p, 53) else if (d.length : Int) - p < n then ([], 51, p, 51) else ((d.drop p).take n.toNat, 0, p + n.toNat, 0)
end cur
end Go.Proofs.Ytlioccfedophhaa
