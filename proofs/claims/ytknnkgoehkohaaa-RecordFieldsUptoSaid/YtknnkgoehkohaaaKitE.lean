/- Rules of the seat's own logic: reads of slices, append, make, copy, cuts, stores; calls. -/
import Derived.Test.YtknnkgoehkohaaaKitD
set_option linter.unusedVariables false
set_option linter.unusedSimpArgs false
namespace Go.Proofs.Ytknnkgoehkohaaa
open Go

/-! ### what a slice reads as -/
def Rd (w : World) (A : Option Addr) (xs : List Value) : Prop :=
  xs ≠ [] → ∃ g o, A = some ⟨g, o, none⟩ ∧ ∀ j u, xs[j]? = some u → w.cell? ⟨g, o + j, none⟩ = some u
/-- .. in blocks that are none of X -/
def Vw (X : List Nat) (w : World) (A : Option Addr) (xs : List Value) : Prop :=
  xs ≠ [] → ∃ g o, A = some ⟨g, o, none⟩ ∧ g ∉ X ∧ ∀ j u, xs[j]? = some u → w.cell? ⟨g, o + j, none⟩ = some u
theorem Vw.rd {X : List Nat} {w : World} {A : Option Addr} {xs : List Value} (h : Vw X w A xs) : Rd w A xs := fun hx => by
  obtain ⟨g, o, h1, _, h2⟩ := h hx
  exact ⟨g, o, h1, h2⟩
theorem Vw.nil {X : List Nat} {w : World} {A : Option Addr} : Vw X w A [] := fun h => absurd rfl h
theorem Rd.vw {w : World} {A : Option Addr} {xs : List Value} (h : Rd w A xs) : Vw [] w A xs := fun hx => by
  obtain ⟨g, o, h1, h2⟩ := h hx
  exact ⟨g, o, h1, by simp, h2⟩
theorem cell_keep {w0 w : World} {X : List Nat} {M : List Seg} (h : Res w0 X w M) {a : Addr} {v : Value} (hx : a.block ∉ X) (hc : w0.cell? a = some v) : w.cell? a = some v := by
  rw [← hc]
  exact World.cell?_of_block (h.keep a.block (World.block_lt_of_cell? w0 a hc) hx)
theorem Vw.keep {w0 w : World} {X : List Nat} {M : List Seg} {A : Option Addr} {xs : List Value} (h : Vw X w0 A xs) (hr : Res w0 X w M) : Vw X w A xs := fun hx => by
  obtain ⟨g, o, h1, h2, h3⟩ := h hx
  exact ⟨g, o, h1, h2, fun j u hj => cell_keep hr h2 (h3 j u hj)⟩
/-- blocks of segments that are not handed on -/
theorem Vw.sub {X Y : List Nat} {w : World} {A : Option Addr} {xs : List Value} (h : Vw X w A xs) (hs : ∀ i, i ∈ Y → i ∈ X) : Vw Y w A xs := fun hx => by
  obtain ⟨g, o, h1, h2, h3⟩ := h hx
  exact ⟨g, o, h1, fun hm => h2 (hs g hm), h3⟩
/-- a view of old memory is none of what is held -/
theorem Vw.held {w0 w : World} {X : List Nat} {M N : List Seg} {A : Option Addr} {xs : List Value} (h : Vw X w0 A xs) (hr : Res w0 X w M) (hs : ∀ i, i ∈ ids N → i ∈ ids M) : Vw (ids N) w A xs := fun hx => by
  obtain ⟨g, o, h1, h2, h3⟩ := h hx
  refine ⟨g, o, h1, fun hm => ?_, fun j u hj => cell_keep hr h2 (h3 j u hj)⟩
  have hl : xs[0]? = some (xs[0]'(List.length_pos_iff.2 hx)) := List.getElem?_eq_getElem _
  have hlt : g < w0.heap.size := World.block_lt_of_cell? w0 _ (h3 0 _ hl)
  rcases hr.sub g (hs g hm) with h4 | h4
  · exact h2 h4
  · omega
theorem Buf.rd {e sz n c : Nat} {A : Option Addr} {xs : List Value} {E : Seg} (h : Buf e sz A n c xs E) {w0 w : World} {X : List Nat} {M : List Seg} (hr : Res w0 X w M) {i : Nat} (hi : M[i]? = some E) : Rd w A xs := fun hx => by
  obtain ⟨g, rfl, _, hc⟩ := h.cells (fun p hp => hr.own.at_ p (List.mem_flatten.2 ⟨E, List.mem_of_getElem? hi, hp⟩)) hx
  exact ⟨g, 0, rfl, fun j u hj => by rw [Nat.zero_add]; exact hc j u hj⟩
/-- a block of the call's own, from an offset on -/
theorem rd_blk {w0 w : World} {X : List Nat} {M : List Seg} (hr : Res w0 X w M) {i j : Nat} {E : Seg} {g o : Nat} {cs xs : List Value} {t : TypeId} {fz : Nat × Nat} (hi : M[i]? = some E) (hj : E[j]? = some (g, .cells cs.toArray t fz)) (hx : ∃ ys zs, cs = ys ++ xs ++ zs ∧ ys.length = o) : Rd w (some ⟨g, o, none⟩) xs := fun _ => by
  obtain ⟨ys, zs, rfl, rfl⟩ := hx
  refine ⟨g, _, rfl, fun k u hk => hr.cell hi hj ?_⟩
  have hl := (List.getElem?_eq_some_iff.1 hk).1
  simp only [List.getElem?_toArray]
  rw [List.append_assoc, List.getElem?_append_right (by omega), List.getElem?_append_left (by omega)]
  simpa using hk

def bys (l : List UInt8) : List Value := l.map fun b => .int .u8 b.toNat
def nts (l : List Int) : List Value := l.map fun b => .int .i64 b
@[simp] theorem bys_length (l : List UInt8) : (bys l).length = l.length := by simp [bys]
@[simp] theorem bys_append (l m : List UInt8) : bys (l ++ m) = bys l ++ bys m := by simp [bys]
@[simp] theorem bys_nil : bys [] = [] := rfl
@[simp] theorem bys_cons (b : UInt8) (l : List UInt8) : bys (b :: l) = .int .u8 b.toNat :: bys l := rfl
theorem one_bys (l : List UInt8) : ∀ u, u ∈ bys l → u.oneCell' = true := fun u hu => by
  obtain ⟨_, _, rfl⟩ := List.mem_map.1 hu
  rfl
theorem bys_get {l : List UInt8} {i : Nat} (h : i < l.length) : (bys l)[i]? = some (.int .u8 (l[i]).toNat) := by simp [bys, h]
theorem bys_inj {l m : List UInt8} (h : bys l = bys m) : l = m := by
  unfold bys at h
  refine List.map_inj_right (fun a b hab => ?_) |>.1 h
  injection hab with _ h1
  exact UInt8.toNat_inj.1 (by omega)
theorem byteCells_eq (s : ByteArray) : byteCells s = bys s.data.toList := rfl

theorem src_slice {P : Program} {w : World} {sz tx e' m c : Nat} {A : Option Addr} {xs : List Value} (hk : P.underlying tx = some (.slice e')) (h : Rd w A xs) (hl : xs.length = m * sz) (hs : 0 < sz) (h1 : ∀ u, u ∈ xs → u.oneCell' = true) : Src P sz tx (.slice A m c) m xs w := by
  cases A with
  | some a =>
    refine Src.ofSlice w hk a m c xs hl (fun j u hj => ?_) h1
    obtain ⟨g, o, ha, hc⟩ := h (by intro e; simp [e] at hj)
    cases ha
    rw [add_plain]
    exact hc j u hj
  | none =>
    have hx : xs = [] := by
      rcases List.eq_nil_or_concat xs with h0 | h0
      · exact h0
      · obtain ⟨_, _, ha, _⟩ := h (by obtain ⟨l, b, rfl⟩ := h0; simp)
        cases ha
    subst hx
    have hm : m = 0 := by
      have h0 : m * sz = 0 := by simpa using hl.symm
      rcases Nat.mul_eq_zero.1 h0 with h0 | h0
      · exact h0
      · omega
    subst hm
    exact Src.ofNil w hk c
theorem src_str {P : Program} {w : World} {tx : Nat} (hk : P.underlying tx = some .string) (s : ByteArray) : Src P 1 tx (.string s) s.size (bys s.data.toList) w := Src.ofString w hk s

/-! literals: parts in a row -/
def inRow : Nat → List (Nat × Value) → Option (List Value)
  | _, [] => some []
  | k, p :: r => bif Nat.beq p.1 k then (match inRow (k + 1) r with
    | some vs => some (p.2 :: vs)
    | none => none) else none
def catL : List Value → List Value
  | [] => []
  | v :: r => cellsL v ++ catL r
theorem foldl_put (off : Nat) : ∀ (vs : List Value) (k : Nat) (cs : Array Value), off + k + vs.length ≤ cs.size →
    ((vs.zipIdx k).foldl (fun cs p => cs.setIfInBounds (off + p.2) p.1) cs).toList = spliced cs.toList (off + k) vs
  | [], k, cs, h => by simp [spliced]
  | v :: r, k, cs, h => by
    have h' : off + k + (r.length + 1) ≤ cs.size := by simpa using h
    simp only [List.zipIdx_cons, List.foldl_cons]
    rw [foldl_put off r (k + 1) _ (by simp; omega)]
    simp only [spliced, Array.toList_setIfInBounds, List.length_cons]
    rw [← Nat.add_assoc, List.take_set, List.drop_set_of_lt (by omega)]
    have : (cs.toList.take (off + k + 1)).set (off + k) v = cs.toList.take (off + k) ++ [v] := by
      rw [List.take_succ_eq_append_getElem (by simp; omega)]
      rw [List.set_append_right _ _ (by simp; omega)]
      simp [Nat.min_eq_left (show off + k ≤ cs.size by omega)]
    rw [this]
    simp [Nat.add_assoc, Nat.add_comm 1]
theorem fill_full (sz : Nat) : ∀ (vs : List Value) (i : Nat) (pv : List (Nat × Value)) (cs : Array Value), inRow i pv = some vs → (∀ v, v ∈ vs → (cellsL v).length = sz) → cs.size = (i + vs.length) * sz →
    Instr.fill (fun i => some (i * sz, sz)) cs pv = some (cs.toList.take (i * sz) ++ catL vs).toArray
  | vs, i, [], cs, hv, hall, hs => by
    simp [inRow] at hv
    subst hv
    simp only [Instr.fill, catL, List.append_nil]
    rw [List.take_of_length_le (by simp at hs ⊢; omega)]
  | vs, i, p :: r, cs, hv, hall, hs => by
    simp only [inRow] at hv
    cases hb : Nat.beq p.1 i
    · rw [hb] at hv; simp at hv
    · rw [hb] at hv
      simp only [cond_true] at hv
      split at hv
      · rename_i us hus
        simp at hv
        subst hv
        have hpi : p.1 = i := Nat.eq_of_beq_eq_true hb
        obtain ⟨pi, v⟩ := p
        simp only at hpi
        subst hpi
        have hc : (cellsL v).length = sz := hall v (by simp)
        have hvs : v.cells.size = sz := by rw [cellsL_eq]; simpa using hc
        have hfit : ¬ (pi * sz + v.cells.size > cs.size) := by
          rw [hvs, hs]
          have : pi * sz + sz = (pi + 1) * sz := by rw [Nat.add_mul, Nat.one_mul]
          rw [this]
          have := Nat.mul_le_mul_right sz (show pi + 1 ≤ pi + (us.length + 1) by omega)
          simp only [List.length_cons]
          omega
        simp only [Instr.fill, hvs, ne_eq, not_true_eq_false, decide_false, Bool.false_or]
        rw [if_neg (by simpa [hvs] using hfit)]
        have hput : (v.cells.zipIdx.foldl (fun cs p => cs.setIfInBounds (pi * sz + p.2) p.1) cs).toList = spliced cs.toList (pi * sz) (cellsL v) := by
          have := foldl_put (pi * sz) (cellsL v) 0 cs (by have := hfit; rw [hvs] at this; rw [hc]; omega)
          rw [← Array.foldl_toList, Array.toList_zipIdx, cellsL_eq]
          simpa using this
        have hsz : (v.cells.zipIdx.foldl (fun cs p => cs.setIfInBounds (pi * sz + p.2) p.1) cs).size = cs.size := by
          rw [← Array.length_toList, hput, spliced_length _ _ _ (by have := hfit; rw [hvs] at this; rw [hc]; simp; omega)]
          simp
        rw [fill_full sz us (pi + 1) r _ hus (fun u hu => hall u (by simp [hu])) (by rw [hsz, hs]; simp [Nat.add_assoc, Nat.add_comm 1])]
        rw [hput]
        congr 2
        simp only [spliced, catL]
        have h1 : (pi + 1) * sz = pi * sz + (cellsL v).length := by rw [hc, Nat.add_mul, Nat.one_mul]
        have hle : pi * sz ≤ cs.toList.length := by have := hfit; simp; omega
        rw [h1, List.append_assoc, List.take_append, List.length_take, Nat.min_eq_left hle, Nat.add_sub_cancel_left, List.take_take, Nat.min_eq_right (by omega)]
        simp [List.append_assoc]
      · simp at hv
/-- of a slice type: its element's type, cells and bytes -/
def appT (P : Program) (t : TypeId) : Option (TypeId × Nat × Nat) :=
  match P.underlying t with
  | some (.slice e) => match P.info? e with
    | some ⟨_, _, sz, bt, _, _, _, some z, _, _⟩ => bif Nat.beq z.cells.size sz && Nat.ble 1 sz && Nat.ble 1 bt then some (e, sz, bt) else none
    | _ => none
  | _ => none
theorem appT_spec {P : Program} {t e sz bytes : Nat} (h : appT P t = some (e, sz, bytes)) :
    P.underlying t = some (.slice e) ∧ ∃ ti z, P.info? e = some ti ∧ ti.zero = some z ∧ ti.size = sz ∧ ti.bytes = bytes ∧ z.cells.size = sz ∧ 0 < sz ∧ 0 < bytes := by
  unfold appT at h
  split at h
  · rename_i e' hu
    split at h
    · rename_i d1 d2 sz' bt d5 d6 d7 z d9 d10 hi
      cases hc : Nat.beq z.cells.size sz' && Nat.ble 1 sz' && Nat.ble 1 bt
      · rw [hc] at h; simp at h
      · rw [hc] at h
        simp at h
        obtain ⟨rfl, rfl, rfl⟩ := h
        simp only [Bool.and_eq_true, Nat.ble_eq] at hc
        exact ⟨hu, _, z, hi, rfl, rfl, rfl, Nat.eq_of_beq_eq_true hc.1.1, hc.1.2, hc.2⟩
    · simp at h
  · simp at h

section rules
variable {P : Program} {ops : Array Oper} {Q : Exit → Act → World → Prop} {nt : Sh} {w0 : World} {X : List Nat} {fr : Fr} {M : List Seg} {rest : List Oper}
variable {dst : Option Nat} {ty : TypeId} {pos : String} {af : Array Edge}
variable {t u : TypeId} {x y : Operand} {k : IntKind} {a b : Int}

theorem own_seg {w : World} {i : Nat} {E : Seg} (hr : Res w0 X w M) (hi : M[i]? = some E) : ∀ p, p ∈ E → w.heap[p.1]? = some p.2 :=
  fun p hp => hr.own.at_ p (List.mem_flatten.2 ⟨E, List.mem_of_getElem? hi, hp⟩)

theorem wl_append (i : Nat) {d : Nat} {tx e sz bytes n c m : Nat} {A : Option Addr} {xs news : List Value} {E : Seg} {src : Value} (hT : appT P t = some (e, sz, bytes)) (hi : M[i]? = some E) (hb : Buf e sz A n c xs E)
    (hx : ev fr x = some (.slice A n c)) (hy : ev fr y = some src) (hs : ∀ w, Res w0 X w M → Src P sz tx src m news w) (hbytes : (n + m) * bytes ≤ 140737488355328) (hd : Nat.blt d nt.n = true)
    (h : ∀ A' c' E', Buf e sz A' (n + m) c' (xs ++ news) E' → WX .seq P ops Q nt w0 X rest ((d, .slice A' (n + m) c') :: fr) (M.set i E')) :
    WX .seq P ops Q nt w0 X (⟨some d, .call ⟨.builtin .append, #[x, y], #[t, tx]⟩, ty, pos, af, none⟩ :: rest) fr M :=
  wl_step rfl hd fun ac w hs1 hr => by
    obtain ⟨hu, ti, z, h1, h2, h3, h4, h5, h6, h7⟩ := appT_spec hT
    have h63 : n + m ≤ maxLen := by
      have : n + m ≤ (n + m) * bytes := Nat.le_mul_of_pos_right _ h7
      simp only [maxLen]; omega
    obtain ⟨A', c', E', w', hrun, hb', hres⟩ := run_append_buf (P := P) (w := w) (ty := ty) hu h1 h2 h3 h4 h5 h6 hb (own_seg hr hi) (hs w hr) h63 hbytes
    refine ⟨.slice A' (n + m) c', w', M.set i E', ?_, hr.turnAt hi hres, h A' c' E' hb'⟩
    simp [execOp, resolve, hs1.ev hx, hs1.ev hy, invoke, builtin, hrun]
/-- append of a literal of one element: its block is the one in front -/
theorem wl_append1 (i : Nat) {d : Nat} {e sz bytes n c g et : Nat} {fz : Nat × Nat} {A : Option Addr} {xs news : List Value} {E : Seg} {M1 : List Seg} (hM : M = [(g, .cells news.toArray et fz)] :: M1) (hT : appT P t = some (e, sz, bytes)) (hi : M1[i]? = some E) (hb : Buf e sz A n c xs E)
    (hx : ev fr x = some (.slice A n c)) (hy : ev fr y = some (.slice (some ⟨g, 0, none⟩) 1 1)) (hl : news.length = sz) (h1 : ∀ u, u ∈ news → u.oneCell' = true) (hbytes : (n + 1) * bytes ≤ 140737488355328) (hd : Nat.blt d nt.n = true)
    (h : ∀ A' c' E', Buf e sz A' (n + 1) c' (xs ++ news) E' → WX .seq P ops Q nt w0 X rest ((d, .slice A' (n + 1) c') :: fr) (M1.set i E')) :
    WX .seq P ops Q nt w0 X (⟨some d, .call ⟨.builtin .append, #[x, y], #[t, t]⟩, ty, pos, af, none⟩ :: rest) fr M := by
  subst hM
  obtain ⟨hu, ti, z, _, _, _, _, _, h6, _⟩ := appT_spec hT
  exact wl_append (i + 1) hT (by simpa using hi) hb hx hy (fun w hr => src_slice hu (rd_blk hr (i := 0) (j := 0) rfl rfl ⟨[], [], by simp, rfl⟩) (by simpa using hl) h6 h1) hbytes hd fun A' c' E' hb' => wx_drop (md := .seq) (h A' c' E' hb')

/-- a literal of a slice -/
theorem wl_lit {d : Nat} {len : Nat} {e sz bytes : Nat} {ps : List (Nat × Operand)} {pv : List (Nat × Value)} {vs : List Value} (hT : appT P t = some (e, sz, bytes)) (hp : parts fr ps = some pv) (hv : inRow 0 pv = some vs) (hlen : vs.length = len) (hz : vs.all (fun v => Nat.beq (cellsL v).length sz) = true) (h24 : len * sz ≤ 16777216) (hd : Nat.blt d nt.n = true)
    (h : ∀ g, WX .seq P ops Q nt w0 X rest ((d, .slice (some ⟨g, 0, none⟩) len len) :: fr) ([(g, .cells (catL vs).toArray e (0, 0))] :: M)) :
    WX .seq P ops Q nt w0 X (⟨some d, .buildSlice t len ps.toArray, ty, pos, af, none⟩ :: rest) fr M :=
  wl_step rfl hd fun ac w hs hr => by
    obtain ⟨hu, ti, z, h1, h2, h3, h4, h5, h6, h7⟩ := appT_spec hT
    subst h3
    have hall : ∀ v, v ∈ vs → (cellsL v).length = ti.size := fun v hm => Nat.eq_of_beq_eq_true (List.all_eq_true.1 hz v hm)
    refine ⟨.slice (some ⟨w.heap.size, 0, none⟩) len len, w.alloc (.cells (catL vs).toArray e), _, ?_, hr.new _ rfl rfl rfl rfl, h _⟩
    have e1 := parts_spec hs hp
    have e2 : (Array.map (fun p : Nat × Operand => (p.1, ac.eval p.2)) ps.toArray) = pv.toArray := by simp [← e1]
    have e3 : (Instr.buildSlice t len pv.toArray).run P w = .ok (.slice (some ⟨w.heap.size, 0, none⟩) len len) (w.alloc (.cells (catL vs).toArray e)) := by
      by_cases h0 : len = 0
      · subst h0
        have hvs : vs = [] := List.eq_nil_of_length_eq_zero hlen
        subst hvs
        have hpv : pv = [] := by
          cases pv with
          | nil => rfl
          | cons p r => simp only [inRow] at hv; cases hb : Nat.beq p.1 0 <;> rw [hb] at hv <;> simp at hv; split at hv <;> simp at hv
        subst hpv
        simp [Instr.buildSlice, run_underlying hu, sizeOf, typeInfo, h1, Instr.fill, newRow, newObj, Sem.run, catL]
        rw [show (Array.range 0 : Array Nat) = #[] from by apply Array.ext'; simp]
        simp
      · have hne : ¬ len * ti.size = 0 := by
          intro h0'
          rcases Nat.mul_eq_zero.1 h0' with h | h <;> omega
        have hfill := fill_full ti.size vs 0 pv ((Array.range (len * ti.size)).map (z.cells[· % z.cells.size]!)) hv hall (by simp [hlen])
        simp only [Nat.zero_mul, List.take_zero, List.nil_append] at hfill
        have hsum : ¬ (16777216 < len * ti.size) := by omega
        simp [Instr.buildSlice, run_underlying hu, sizeOf, typeInfo, h1, zeroValue, h2, hne, hsum]
        simp only [hfill]
        simp [newRow, newObj, Sem.run]
    simp only [execOp]
    show (Instr.buildSlice t len (Array.map (fun p : Nat × Operand => (p.1, ac.eval p.2)) ps.toArray) >>= fun a => pure (Next.value a)).run P w = _
    rw [e2]
    simp [e3]
end rules
end Go.Proofs.Ytknnkgoehkohaaa
