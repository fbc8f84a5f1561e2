/- The seat's own logic, the parts L U V of it. -/
import Derived.Test.YtgidabcmbngcbaaKit1
import Derived.Carry
import Derived.ProofKit
import Derived.SizedLaws
import Derived.OpenShut
import Derived.ShutString
import Derived.WalkKit
import Derived.ChangeOld
import Derived.Below
import Derived.Test.YtgidabcmbngcbaaRows
import Derived.JoinedCond
import Derived.Deep.Slices
import Derived.Deep.Strs
/- From what the form hands over to what the walks ask, and back. -/
set_option linter.unusedVariables false
set_option linter.unusedSimpArgs false
namespace Go.Proofs.Ytgidabcmbngcbaa
open Go Go.ChangeShapes Go.WideShapes Go.ChangeAt Go.RowKit
open Go.ChangeMaps (open_string shut_string)

theorem below_of_res {w w' : World} {M : List Seg} (h : Res w [] w' M) : Below w.heap.size w w' := ⟨h.os, h.tape, h.output, h.size, fun i hi => h.keep i hi (by simp)⟩
abbrev HoldsB (w : World) : Ending → World → Prop := Ret (β := Unit) w (ids []) (fun _ => .bool true) (fun _ => []) (fun _ => True)
theorem holds_end {w w' : World} {e : Ending} (h : HoldsB w e w') : e = .returned (.bool true) ∧ Below w.heap.size w w' := by
  obtain ⟨_, _, he, hr⟩ := h
  exact ⟨he, below_of_res hr⟩

variable {H : Type} {enc : TypeId × Value → H} {P : Program} {W : World} {base : Nat} {spare : Nat → Bool} {held : Bool}
theorem read_bytes {t e : TypeId} (ht : P.underlying t = some (.slice e)) (he : P.underlying e = some (.int .u8)) (hc : P.cellsOf e = 1) {A : Option Addr} {n c : Nat} {d : DataW H} {p : List MemPlace} (h : DataW.Trod enc P W base spare held t (.slice A n c) d p) :
    ∃ l : List UInt8, l.length = n ∧ n ≤ c ∧ c ≤ maxLen ∧ Vw [] W A (bys l) ∧ ((d = .nil ∧ n = 0) ∨ ∃ elems sp, d = .slice elems sp ∧ elems.length = n) := by
  obtain ⟨fuel, hf⟩ := h
  rcases open_ints ht he hc hf with ⟨hcs, hx⟩ | ⟨x, len, cap, zs, hcs, _, hl, hm, hz, hx, hcell, hwz⟩
  · simp [Value.cells] at hcs
    obtain ⟨rfl, rfl, rfl⟩ := hcs
    simp only [Prod.mk.injEq] at hx
    exact ⟨[], rfl, Nat.le_refl _, by simp [maxLen], Vw.nil, .inl ⟨hx.1, rfl⟩⟩
  · simp [Value.cells] at hcs
    obtain ⟨rfl, rfl, rfl⟩ := hcs
    simp only [Prod.mk.injEq] at hx
    have hzl : n ≤ zs.length := by rw [hz]; split <;> omega
    have hb : ∀ i, i < zs.length → 0 ≤ zs.getD i 0 ∧ zs.getD i 0 ≤ 255 := fun i hi => by
      have h1 := hwz (zs.getD i 0) (by rw [List.getD_eq_getElem?_getD, List.getElem?_eq_getElem hi]; exact List.getElem_mem hi)
      exact bounds_u8 h1
    refine ⟨(zs.take n).map fun z => UInt8.ofNat z.toNat, by simp; omega, hl, hm, fun hne => ?_, .inr ⟨_, _, hx.1, by simp [lits]; omega⟩⟩
    have hn : 0 < n := by
      rcases Nat.eq_zero_or_pos n with h0 | h0
      · subst h0; simp at hne
      · exact h0
    obtain ⟨g, o, sp⟩ := x
    have hsp : sp = none := by simpa [Addr.add] using World.cell?_spot (hcell 0 (by omega))
    subst hsp
    refine ⟨g, o, rfl, by simp, fun j u hj => ?_⟩
    have hjn : j < n := by
      have := (List.getElem?_eq_some_iff.1 hj).1
      simp at this; omega
    have h1 := hcell j (by omega)
    rw [add_plain] at h1
    rw [h1]
    have h2 := hb j (by omega)
    simp only [bys, List.map_map, List.getElem?_map, List.getElem?_take_of_lt hjn, Function.comp_def] at hj
    rw [List.getElem?_eq_getElem (show j < zs.length by omega)] at hj
    simp only [Option.map_some, Option.some.injEq] at hj
    rw [← hj]
    rw [List.getD_eq_getElem?_getD, List.getElem?_eq_getElem (show j < zs.length by omega)] at h2 ⊢
    simp only [Option.getD_some] at h2 ⊢
    have h3 : (UInt8.ofNat (zs[j].toNat)).toNat = zs[j].toNat := by simp; omega
    rw [h3, Int.toNat_of_nonneg h2.1]
theorem reach_slice {ts : List TypeId} {ds : List (DataW H)} (hsz : (DataW.weightsEach P ts ds).all (· ≤ reachBytes) = true) {j t e n bt : Nat} {d : DataW H} (ht : ts[j]? = some t) (hd : ds[j]? = some d) (hu : P.underlying t = some (.slice e)) (hb : P.bytesOf e = bt)
    (h : (d = .nil ∧ n = 0) ∨ ∃ elems sp, d = .slice elems sp ∧ elems.length = n) : n * bt ≤ 140737488351232 := by
  rcases h with ⟨_, rfl⟩ | ⟨elems, sp, rfl, rfl⟩
  · omega
  · have := sized_slice hsz ht hd hu
    rw [hb] at this
    have h1 : elems.length * bt ≤ (elems.length + sp.length) * bt := Nat.mul_le_mul_right _ (by omega)
    simp only [reachBytes] at this
    omega
theorem reach_string {ts : List TypeId} {ds : List (DataW H)} (hsz : (DataW.weightsEach P ts ds).all (· ≤ reachBytes) = true) {j t : Nat} {s : ByteArray} (ht : ts[j]? = some t) (hd : ds[j]? = some (.lit (.string s.data.toList))) : s.size ≤ 140737488351232 := by
  have := sized_string hsz ht hd
  simpa [reachBytes] using this
end Go.Proofs.Ytgidabcmbngcbaa

/- What the bound of the second form gives: lengths of slices and strings. -/
set_option linter.unusedVariables false
set_option linter.unusedSimpArgs false
namespace Go.Proofs.Ytgidabcmbngcbaa
open Go
theorem bulk_pos {H : Type} (d : DataW H) : 1 ≤ Rows.uptoBulk d := by
  cases d with
  | lit l => cases l <;> simp [Rows.uptoBulk]
  | _ => simp [Rows.uptoBulk]
theorem bulk_len {H : Type} : ∀ l : List (DataW H), l.length ≤ Rows.uptoBulkAll l
  | [] => by simp [Rows.uptoBulkAll]
  | x :: r => by
    have h1 := bulk_pos x
    have h2 := bulk_len r
    simp only [Rows.uptoBulkAll, List.length_cons]; omega
theorem bulk_at {H : Type} : ∀ {l : List (DataW H)} {j : Nat} {d : DataW H}, l[j]? = some d → Rows.uptoBulk d ≤ Rows.uptoBulkAll l
  | [], j, d, h => by simp at h
  | x :: r, 0, d, h => by
    simp only [List.getElem?_cons_zero, Option.some.injEq] at h
    subst h
    simp only [Rows.uptoBulkAll]; omega
  | x :: r, j + 1, d, h => by
    have := bulk_at (l := r) (by simpa using h)
    simp only [Rows.uptoBulkAll]; omega
theorem small_bound {H : Type} {l : List (DataW H)} (hk : Rows.uptoSmall H l = true) : Rows.uptoBulkAll l ≤ 1048576 := of_decide_eq_true hk
theorem small_slice {H : Type} {l : List (DataW H)} (hk : Rows.uptoSmall H l = true) {j n : Nat} {d : DataW H} (hj : l[j]? = some d) (h : (d = .nil ∧ n = 0) ∨ ∃ elems sp, d = .slice elems sp ∧ elems.length = n) : n ≤ 1048576 := by
  have h1 := small_bound hk
  have h2 := bulk_at hj
  rcases h with ⟨_, rfl⟩ | ⟨elems, sp, rfl, rfl⟩
  · omega
  · have h3 := bulk_len elems
    simp only [Rows.uptoBulk] at h2
    omega
theorem small_string {H : Type} {l : List (DataW H)} (hk : Rows.uptoSmall H l = true) {j : Nat} {s : ByteArray} (hj : l[j]? = some (.lit (.string s.data.toList))) : s.size ≤ 1048576 := by
  have h1 := small_bound hk
  have h2 := bulk_at hj
  simp only [Rows.uptoBulk] at h2
  have e : s.data.toList.length = s.size := by rw [Array.length_toList]; rfl
  omega
end Go.Proofs.Ytgidabcmbngcbaa

/- How lists that are handed over are read: each value lies in cells of its own, and may lead on. -/
set_option linter.unusedVariables false
set_option linter.unusedSimpArgs false
namespace Go.Proofs.Ytgidabcmbngcbaa
open Go Go.ChangeShapes Go.WideShapes Go.ChangeAt Go.RowKit
variable {H : Type} {enc : TypeId × Value → H} {P : Program} {W : World} {base : Nat} {spare : Nat → Bool} {held : Bool}

/-- what a reading tells of a value of the type 't': it lies in the cells 'f a', and 'ok' holds of it -/
def Tells (H : Type) (enc : TypeId × Value → H) (P : Program) (W : World) (base : Nat) (spare : Nat → Bool) (held : Bool) {α : Type} (t : TypeId) (f : α → List Value) (ok : α → Prop) (sz : α → Nat) : Prop :=
  ∀ n cs x, DataW.trod enc P W base spare held n t cs = some x → ∃ a, cs = f a ∧ ok a ∧ sz a ≤ Rows.uptoBulk x.1

structure LstV (α : Type) where
  A : Option Addr
  c : Nat
  xs : List α
def LstV.cells {α : Type} (l : LstV α) : List Value := [.slice l.A l.xs.length l.c]
def LstV.ok {α : Type} (W : World) (f : α → List Value) (ok : α → Prop) (l : LstV α) : Prop := l.xs.length ≤ l.c ∧ l.c ≤ maxLen ∧ Vw [] W l.A (l.xs.flatMap f) ∧ ∀ a ∈ l.xs, ok a
def LstV.size {α : Type} (sz : α → Nat) (l : LstV α) : Nat := (l.xs.map sz).sum + 1

theorem tells_list {α : Type} {t e : TypeId} {f : α → List Value} {ok : α → Prop} {sz : α → Nat} {k : Nat} (ht : P.underlying t = some (.slice e)) (hc : P.cellsOf e = k) (hk : 0 < k) (hf : ∀ a, (f a).length = k) (h : Tells H enc P W base spare held e f ok sz) :
    Tells H enc P W base spare held t (LstV.cells (α := α)) (LstV.ok W f ok) (LstV.size sz) := by
  intro n cs x hx
  rcases Go.Deep.open_slice ht hx with ⟨rfl, rfl⟩ | ⟨a, len, cap, m, n', D, Pl, rfl, _, hl, hm, hmm, rfl, hcell⟩
  · exact ⟨⟨none, 0, []⟩, rfl, ⟨Nat.le_refl _, by simp [maxLen], Vw.nil, by simp⟩, by simp [LstV.size, Rows.uptoBulk]⟩
  · have hlm : len ≤ m := by rw [hmm]; split <;> omega
    rw [hc] at hcell
    have hch : ∀ i, i < len → ∃ y : α, W.cells? base (a.add (i * k)) k = some (f y) ∧ ok y ∧ sz y ≤ Rows.uptoBulk (D i) := fun i hi => by
      obtain ⟨cs', h1, h2⟩ := hcell i (by omega)
      obtain ⟨y, rfl, h3, h4⟩ := h _ _ _ h2
      exact ⟨y, h1, h3, h4⟩
    obtain ⟨xs, hxl, hxs⟩ : ∃ xs : List α, xs.length = len ∧ ∀ i y, xs[i]? = some y → W.cells? base (a.add (i * k)) k = some (f y) ∧ ok y ∧ sz y ≤ Rows.uptoBulk (D i) := by
      clear hcell hx hlm hl hmm
      induction len with
      | zero => exact ⟨[], rfl, by simp⟩
      | succ len ih =>
        obtain ⟨xs, h1, h2⟩ := ih (fun i hi => hch i (by omega))
        obtain ⟨y, h3⟩ := hch len (by omega)
        refine ⟨xs ++ [y], by simp [h1], fun i z hz => ?_⟩
        by_cases hi : i < xs.length
        · rw [List.getElem?_append_left hi] at hz; exact h2 i z hz
        · rw [List.getElem?_append_right (by omega)] at hz
          have : i - xs.length = 0 := by
            rcases Nat.eq_zero_or_pos (i - xs.length) with h0 | h0
            · exact h0
            · rw [List.getElem?_eq_none (by simp; omega)] at hz; cases hz
          rw [this] at hz
          simp at hz
          subst hz
          have e : i = len := by omega
          subst e; exact h3
    subst hxl
    refine ⟨⟨some a, cap, xs⟩, rfl, ⟨hl, hm, fun hne => ?_, fun y hy => ?_⟩, ?_⟩
    · have hn : 0 < xs.length := by
        rcases Nat.eq_zero_or_pos xs.length with h0 | h0
        · rw [List.length_eq_zero_iff.1 h0] at hne; simp at hne
        · exact h0
      obtain ⟨g, o, sp⟩ := a
      have hcells : ∀ i y, xs[i]? = some y → ∀ r, r < k → W.cell? (((⟨g, o, sp⟩ : Addr).add (i * k)).add r) = (f y)[r]? := fun i y hy r hr => (World.cells?_some (hxs i y hy).1).2.2 r hr
      have hsp : sp = none := by
        have h1 := hcells 0 xs[0] (List.getElem?_eq_getElem hn) 0 hk
        rw [List.getElem?_eq_getElem (by rw [hf]; exact hk)] at h1
        simpa [Addr.add] using World.cell?_spot h1
      subst hsp
      refine ⟨g, o, rfl, by simp, fun j u hj => ?_⟩
      rw [flat_get f hk hf] at hj
      obtain ⟨y, hy, hu⟩ := Option.bind_eq_some_iff.1 hj
      have h1 := hcells _ y hy (j % k) (Nat.mod_lt _ hk)
      rw [add_plain, add_plain, hu] at h1
      rw [← h1]
      congr 2
      have := Nat.div_add_mod j k
      rw [Nat.mul_comm] at this
      omega
    · obtain ⟨i, hi, rfl⟩ := List.getElem_of_mem hy
      exact (hxs i _ (List.getElem?_eq_getElem hi)).2.1
    · show (xs.map sz).sum + 1 ≤ Rows.uptoBulk (DataW.slice _ _)
      have key : ∀ (xs : List α) (D : Nat → DataW H), (∀ i y, xs[i]? = some y → sz y ≤ Rows.uptoBulk (D i)) → (xs.map sz).sum ≤ Rows.uptoBulkAll ((List.range xs.length).map D) := by
        intro xs
        induction xs with
        | nil => intro D _; simp [Rows.uptoBulkAll]
        | cons x r ih =>
          intro D hD
          rw [List.length_cons, List.range_succ_eq_map, List.map_cons, List.map_cons, List.map_map, List.sum_cons]
          simp only [Rows.uptoBulkAll]
          have h0 := hD 0 x rfl
          have h1 := ih (fun i => D (i + 1)) (fun i y hy => hD (i + 1) y (by simpa using hy))
          exact Nat.add_le_add h0 h1
      have := key xs D (fun i y hy => (hxs i y hy).2.2)
      simp only [Rows.uptoBulk]
      omega
theorem tells_int {t : TypeId} {k : IntKind} (ht : P.underlying t = some (.int k)) : Tells H enc P W base spare held t (fun n : Int => [.int k n]) (fun n => (Lit.int k n).wf = true) (fun _ => 1) := fun n cs x hx => by
  obtain ⟨v, rfl, rfl, hw⟩ := DataW.trod_int ht hx
  exact ⟨v, rfl, hw, by simp [Rows.uptoBulk]⟩
theorem tells_bool {t : TypeId} (ht : P.underlying t = some .bool) : Tells H enc P W base spare held t (fun b : Bool => [.bool b]) (fun _ => True) (fun _ => 1) := fun n cs x hx => by
  obtain ⟨v, rfl, rfl⟩ := DataW.trod_bool ht hx
  exact ⟨v, rfl, trivial, by simp [Rows.uptoBulk]⟩
theorem tells_string {t : TypeId} (ht : P.underlying t = some .string) : Tells H enc P W base spare held t (fun s : ByteArray => [.string s]) (fun s => s.size ≤ maxLen) (fun s => s.size + 1) := fun n cs x hx => by
  obtain ⟨v, rfl, rfl, hw⟩ := DataW.trod_string ht hx
  refine ⟨v, rfl, hw, ?_⟩
  have e : v.data.toList.length = v.size := by rw [Array.length_toList]; rfl
  simp only [Rows.uptoBulk]; omega
theorem tells_byte {t : TypeId} (ht : P.underlying t = some (.int .u8)) : Tells H enc P W base spare held t (fun b : UInt8 => [.int .u8 b.toNat]) (fun _ => True) (fun _ => 1) := fun n cs x hx => by
  obtain ⟨v, rfl, rfl, hw⟩ := DataW.trod_int ht hx
  have hb := bounds_u8 hw
  refine ⟨UInt8.ofNat v.toNat, ?_, trivial, by simp [Rows.uptoBulk]⟩
  have h3 : (UInt8.ofNat v.toNat).toNat = v.toNat := by simp; omega
  show _ = [Value.int .u8 ((UInt8.ofNat v.toNat).toNat : Int)]
  rw [h3, Int.toNat_of_nonneg hb.1]
/-- .. of a struct's fields from the offset 'off' on -/
def TellsFs (H : Type) (enc : TypeId × Value → H) (P : Program) (W : World) (base : Nat) (spare : Nat → Bool) (held : Bool) {α : Type} (fs : List Field) (off tot : Nat) (f : α → List Value) (ok : α → Prop) (sz : α → Nat) : Prop :=
  ∀ (n : Nat) (cs : List Value) (xs : List (DataW H × List MemPlace)), cs.length = tot → xs.length = fs.length → (∀ (i : Nat) (fd : Field), fs[i]? = some fd → DataW.trod enc P W base spare held n fd.type ((cs.drop fd.offset).take (P.cellsOf fd.type)) = xs[i]?) → ∃ a, cs.drop off = f a ∧ ok a ∧ sz a ≤ Rows.uptoBulkAll (xs.map (·.1))
theorem tells_none {tot : Nat} : TellsFs H enc P W base spare held [] tot tot (fun _ : Unit => []) (fun _ => True) (fun _ => 0) := fun n cs xs h1 h2 h3 => ⟨(), by rw [List.drop_of_length_le (by omega)], trivial, Nat.zero_le _⟩
theorem tells_field {α β : Type} {fd : Field} {fs : List Field} {off tot k : Nat} {f : α → List Value} {ok : α → Prop} {sz : α → Nat} {g : β → List Value} {ok2 : β → Prop} {sz2 : β → Nat} (ho : fd.offset = off) (hk : P.cellsOf fd.type = k)
    (h1 : Tells H enc P W base spare held fd.type f ok sz) (h2 : TellsFs H enc P W base spare held fs (off + k) tot g ok2 sz2) :
    TellsFs H enc P W base spare held (fd :: fs) off tot (fun x : α × β => f x.1 ++ g x.2) (fun x => ok x.1 ∧ ok2 x.2) (fun x => sz x.1 + sz2 x.2) := fun n cs xs hl hx h => by
  match xs, hx with
  | x0 :: xr, hx =>
    have e0 := h 0 fd rfl
    simp only [List.getElem?_cons_zero] at e0
    rw [ho, hk] at e0
    obtain ⟨a, ha, hok, hsz⟩ := h1 _ _ _ e0
    obtain ⟨b, hb, hok2, hsz2⟩ := h2 n cs xr hl (by simpa using hx) (fun i fd2 hi => by simpa using h (i + 1) fd2 (by simpa using hi))
    refine ⟨(a, b), ?_, ⟨hok, hok2⟩, ?_⟩
    · show _ = f a ++ g b
      rw [← ha, ← hb, ← List.drop_drop, List.take_append_drop]
    · simp only [List.map_cons, Rows.uptoBulkAll]
      omega
theorem tells_struct {α : Type} {t : TypeId} {fs : Array Field} {tot : Nat} {f : α → List Value} {ok : α → Prop} {sz : α → Nat} (ht : P.underlying t = some (.struct fs)) (hc : P.cellsOf t = tot) (h : TellsFs H enc P W base spare held fs.toList 0 tot f ok sz) :
    Tells H enc P W base spare held t f ok (fun a => sz a + 1) := fun n cs x hx => by
  obtain ⟨xs, n', _, rfl, hl, hxl, hi⟩ := DataW.trod_struct ht hx
  obtain ⟨a, ha, hok, hsz⟩ := h n' cs xs (by rw [hl, hc]) (by simpa using hxl) (fun i fd h => hi i fd (by simpa using h))
  exact ⟨a, by simpa using ha, hok, by simp only [Rows.uptoBulk]; omega⟩
/-- a change of names: another type of values that lies in the same cells -/
theorem Tells.map {α β : Type} {t : TypeId} {f : α → List Value} {ok : α → Prop} {sz : α → Nat} {g : β → List Value} {ok2 : β → Prop} {sz2 : β → Nat} (h : Tells H enc P W base spare held t f ok sz) (m : α → β) (h1 : ∀ a, g (m a) = f a) (h2 : ∀ a, ok a → ok2 (m a)) (h3 : ∀ a, sz2 (m a) ≤ sz a) :
    Tells H enc P W base spare held t g ok2 sz2 := fun n cs x hx => by
  obtain ⟨a, rfl, hok, hsz⟩ := h n cs x hx
  exact ⟨m a, (h1 a).symm, h2 a hok, Nat.le_trans (h3 a) hsz⟩
theorem Tells.trod {α : Type} {t : TypeId} {f : α → List Value} {ok : α → Prop} {sz : α → Nat} (h : Tells H enc P W base spare held t f ok sz) {v : Value} {d : DataW H} {p : List MemPlace} (hd : DataW.Trod enc P W base spare held t v d p) : ∃ a, v.cells.toList = f a ∧ ok a ∧ sz a ≤ Rows.uptoBulk d := by
  obtain ⟨n, hn⟩ := hd
  exact h n _ _ hn
theorem read_len {t e : TypeId} (ht : P.underlying t = some (.slice e)) {A : Option Addr} {n c : Nat} {d : DataW H} {p : List MemPlace} (h : DataW.Trod enc P W base spare held t (.slice A n c) d p) : (d = .nil ∧ n = 0) ∨ ∃ elems sp, d = .slice elems sp ∧ elems.length = n := by
  obtain ⟨fuel, hf⟩ := h
  rcases Go.Deep.open_slice ht hf with ⟨h1, h2⟩ | ⟨a, len, cap, m, n', D, Pl, h1, _, _, _, _, h2, _⟩
  · simp [Value.cells] at h1
    simp only [Prod.mk.injEq] at h2
    exact .inl ⟨h2.1, h1.2.1⟩
  · simp [Value.cells] at h1
    simp only [Prod.mk.injEq] at h2
    exact .inr ⟨_, _, h2.1, by simp [h1.2.1]⟩
theorem struct_parts {cs : Array Value} {l : List Value} (h : (Value.agg cs).cells.toList = l) : cs = l.toArray := by
  subst h; simp [Value.cells]
theorem list_parts {α : Type} {A : Option Addr} {n c : Nat} {l : LstV α} (h : (Value.slice A n c).cells.toList = LstV.cells l) : A = l.A ∧ n = l.xs.length ∧ c = l.c := by
  simpa [Value.cells, LstV.cells] using h
end Go.Proofs.Ytgidabcmbngcbaa
