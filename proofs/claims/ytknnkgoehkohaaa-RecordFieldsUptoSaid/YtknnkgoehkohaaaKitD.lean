/- Rules of the seat's own logic: what turns memory: new blocks, stores, slices of the call's own, append, make, copy; calls. -/
import Derived.Test.YtknnkgoehkohaaaKitC
import Derived.Deep.AppendSrc
import Derived.Laws.Tables
import Derived.Laws.CopyRow
import Derived.Deep.Upon
set_option linter.unusedVariables false
set_option linter.unusedSimpArgs false
namespace Go.Proofs.Ytknnkgoehkohaaa
open Go

def cellsL : Value → List Value
  | .agg cs => cs.toList
  | v => [v]
theorem cellsL_eq (v : Value) : v.cells = (cellsL v).toArray := by cases v <;> simp [Value.cells, cellsL]
def zeroV (P : Program) (t : TypeId) : Option Value := match P.info? t with
  | some i => i.zero
  | none => none
theorem run_zeroV {P : Program} {t : TypeId} {z : Value} (h : zeroV P t = some z) (w : World) : (zeroValue t).run P w = .ok z w := by
  unfold zeroV at h
  split at h
  · rename_i i hi
    simp [zeroValue, typeInfo, hi, h]
  · simp at h

/-! ### one block written -/
theorem res_row {w : World} {b : Nat} {cs cs' : Array Value} {t : TypeId} (hb : w.heap[b]? = some (.cells cs t (0, 0))) : Res w [b] (w.setRow b cs') [[(b, .cells cs' t (0, 0))]] :=
  res_store hb (fun i hi => by simp only [World.setRow, Array.getElem?_modify]; rw [if_neg (Ne.symm hi)]) (by simp [World.setRow, Array.getElem?_modify, hb]) (by simp [World.setRow]) rfl rfl rfl
theorem res_cell {w : World} {b o : Nat} {cs : List Value} {t : TypeId} {v : Value} {fz : Nat × Nat} (hb : w.heap[b]? = some (.cells cs.toArray t fz)) : Res w [b] (w.setCell ⟨b, o, none⟩ v) [[(b, .cells (cs.set o v).toArray t fz)]] :=
  res_store hb (fun i hi => by simp only [World.setCell, Array.getElem?_modify]; rw [if_neg (Ne.symm hi)]) (by simp [World.setCell, Array.getElem?_modify, hb]) (by simp [World.setCell]) rfl rfl rfl

/-- no cell of the block's n bears a mark -/
def okF (fz : Nat × Nat) (n : Nat) : Prop := fz.2 ≤ fz.1 ∨ n ≤ fz.1
theorem okF.frozen {w : World} {g o : Nat} {cur : Array Value} {e : TypeId} {fz : Nat × Nat} (h : okF fz cur.size) (hg : w.heap[g]? = some (.cells cur e fz)) (ho : o < cur.size) : w.frozen? ⟨g, o, none⟩ = false := by
  obtain ⟨lo, hi⟩ := fz
  simp only [World.frozen?, hg]
  rcases h with h | h <;> simp at h ⊢ <;> omega
/-- cells written one behind the other -/
def spliced (cs : List Value) (o : Nat) (vs : List Value) : List Value := cs.take o ++ vs ++ cs.drop (o + vs.length)
theorem heap_setCells {g : Nat} {e : TypeId} {fz : Nat × Nat} : ∀ (vs : List Value) (o : Nat) (cur : Array Value) (w : World), w.heap[g]? = some (.cells cur e fz) → o + vs.length ≤ cur.size →
    (w.setCells g o vs).heap[g]? = some (.cells (spliced cur.toList o vs).toArray e fz) ∧ (∀ i, i ≠ g → (w.setCells g o vs).heap[i]? = w.heap[i]?) ∧ (w.setCells g o vs).heap.size = w.heap.size ∧
    (w.setCells g o vs).os = w.os ∧ (w.setCells g o vs).tape = w.tape ∧ (w.setCells g o vs).output = w.output
  | [], o, cur, w, hg, hl => by
    refine ⟨?_, fun _ _ => rfl, rfl, rfl, rfl, rfl⟩
    simp only [World.setCells, hg, spliced, List.append_nil, List.length_nil, Nat.add_zero, List.take_append_drop, Array.toArray_toList]
  | v :: r, o, cur, w, hg, hl => by
    have hl' : o + (r.length + 1) ≤ cur.size := by simpa using hl
    have h1 : (w.setCell ⟨g, o, none⟩ v).heap[g]? = some (.cells (cur.setIfInBounds o v) e fz) := by simp [World.setCell, Array.getElem?_modify, hg]
    obtain ⟨a1, a2, a3, a4, a5, a6⟩ := heap_setCells r (o + 1) (cur.setIfInBounds o v) (w.setCell ⟨g, o, none⟩ v) h1 (by simp; omega)
    refine ⟨?_, fun i hi => ?_, ?_, a4, a5, a6⟩
    · simp only [World.setCells, a1]
      congr 3
      simp only [spliced, Array.toList_setIfInBounds, List.length_cons]
      rw [List.take_set, List.drop_set_of_lt (by omega)]
      have : (cur.toList.take (o + 1)).set o v = cur.toList.take o ++ [v] := by
        rw [List.take_succ_eq_append_getElem (by simp; omega)]
        rw [List.set_append_right _ _ (by simp; omega)]
        simp [Nat.min_eq_left (show o ≤ cur.size by omega)]
      rw [this]
      simp [Nat.add_assoc, Nat.add_comm 1]
    · simp only [World.setCells, a2 i hi]
      simp only [World.setCell, Array.getElem?_modify]
      rw [if_neg (Ne.symm hi)]
    · simp only [World.setCells, a3]
      simp [World.setCell]
theorem res_setCells {w : World} {g o : Nat} {e : TypeId} {fz : Nat × Nat} {cur : Array Value} {vs : List Value} (hg : w.heap[g]? = some (.cells cur e fz)) (hl : o + vs.length ≤ cur.size) :
    Res w [g] (w.setCells g o vs) [[(g, .cells (spliced cur.toList o vs).toArray e fz)]] := by
  obtain ⟨a1, a2, a3, a4, a5, a6⟩ := heap_setCells vs o cur w hg hl
  exact res_store hg a2 a1 a3 a4 a5 a6
theorem spliced_length (cs : List Value) (o : Nat) (vs : List Value) (h : o + vs.length ≤ cs.length) : (spliced cs o vs).length = cs.length := by
  simp [spliced]; omega

/-! ### a slice of one's own -/
def Buf (e sz : Nat) (A : Option Addr) (n c : Nat) (xs : List Value) (E : Seg) : Prop :=
  xs.length = n * sz ∧ ((A = none ∧ n = 0 ∧ c = 0 ∧ E = []) ∨
    ∃ g cur fz, A = some ⟨g, 0, none⟩ ∧ E = [(g, .cells cur e fz)] ∧ n ≤ c ∧ c ≤ maxLen ∧ cur.size = c * sz ∧ cur.toList.take (n * sz) = xs ∧ okF fz cur.size)
theorem Buf.nil (e sz : Nat) : Buf e sz none 0 0 [] [] := ⟨by simp, .inl ⟨rfl, rfl, rfl, rfl⟩⟩
theorem Buf.len {e sz n c : Nat} {A : Option Addr} {xs : List Value} {E : Seg} (h : Buf e sz A n c xs E) : xs.length = n * sz := h.1
theorem Buf.le {e sz n c : Nat} {A : Option Addr} {xs : List Value} {E : Seg} (h : Buf e sz A n c xs E) : n ≤ c ∧ c ≤ maxLen := by
  rcases h.2 with ⟨_, rfl, rfl, _⟩ | ⟨g, cur, fz, _, _, h1, h2, _⟩
  · exact ⟨Nat.le_refl _, Nat.zero_le _⟩
  · exact ⟨h1, h2⟩
/-- a block just made, full -/
theorem Buf.full {e sz n g : Nat} (xs : List Value) (hl : xs.length = n * sz) (hm : n ≤ maxLen) : Buf e sz (some ⟨g, 0, none⟩) n n xs [(g, .cells xs.toArray e (0, 0))] :=
  ⟨hl, .inr ⟨g, _, _, rfl, rfl, Nat.le_refl _, hm, by simpa using hl, by simp [← hl], .inl (Nat.le_refl _)⟩⟩
theorem Buf.cells {e sz n c : Nat} {A : Option Addr} {xs : List Value} {E : Seg} (h : Buf e sz A n c xs E) {w : World} (hw : ∀ p, p ∈ E → w.heap[p.1]? = some p.2) :
    xs ≠ [] → ∃ g, A = some ⟨g, 0, none⟩ ∧ g ∈ E.map (·.1) ∧ ∀ j u, xs[j]? = some u → w.cell? ⟨g, j, none⟩ = some u := by
  intro hx
  rcases h.2 with ⟨_, rfl, _, _⟩ | ⟨g, cur, fz, rfl, rfl, _, _, hs, ht, hf⟩
  · exact absurd (List.eq_nil_of_length_eq_zero (by simpa using h.1)) hx
  · refine ⟨g, rfl, by simp, fun j u hj => ?_⟩
    have hb := hw (g, .cells cur e fz) (by simp)
    have hjl : j < n * sz := by rw [← h.1]; exact (List.getElem?_eq_some_iff.1 hj).1
    rw [← ht, List.getElem?_take_of_lt hjl] at hj
    simp only [World.cell?, hb]
    simpa using hj

theorem res_same {w : World} {E : Seg} (hn : (E.map (·.1)).Nodup) (hE : ∀ p, p ∈ E → w.heap[p.1]? = some p.2) : Res w (E.map (·.1)) w [E] :=
  ⟨⟨by simpa [ids] using hn, fun p hp => hE p (by simpa using hp)⟩, fun i hi => .inl (by simpa [ids] using hi), fun _ _ _ => rfl, Nat.le_refl _, rfl, rfl, rfl⟩

/-- append: what it comes to -/
theorem run_append_buf {P : Program} {w : World} {t tx ty e sz bytes : Nat} {i : TypeInfo} {z : Value} (ht : P.underlying t = some (.slice e)) (hi : P.info? e = some i) (hz : i.zero = some z) (hsize : i.size = sz) (hby : i.bytes = bytes)
    (hzs : z.cells.size = sz) (hsz : 0 < sz) {A : Option Addr} {n c m : Nat} {xs news : List Value} {E : Seg} (hb : Buf e sz A n c xs E) (hE : ∀ p, p ∈ E → w.heap[p.1]? = some p.2) {x : Value} (hs : Src P sz tx x m news w)
    (h63 : n + m ≤ maxLen) (hbytes : (n + m) * bytes ≤ 140737488355328) :
    ∃ A' c' E' w', (Builtin.append_ #[t, tx] ty #[.slice A n c, x]).run P w = .ok (.slice A' (n + m) c') w' ∧ Buf e sz A' (n + m) c' (xs ++ news) E' ∧ Res w (E.map (·.1)) w' [E'] := by
  subst hsize
  subst hby
  have hlen : (xs ++ news).length = (n + m) * i.size := by rw [List.length_append, hb.1, hs.newsLen, Nat.add_mul]
  have hnd : (E.map (·.1)).Nodup := by
    rcases hb.2 with ⟨_, _, _, rfl⟩ | ⟨g, cur, fz, _, rfl, _⟩ <;> simp
  have hsmall : ((n + m : Nat) : Int) ≤ 9223372036854775807 := by simp only [maxLen] at h63; omega
  by_cases hroom : n + m ≤ c
  · rcases hb.2 with ⟨rfl, rfl, rfl, rfl⟩ | ⟨g, cur, fz, rfl, rfl, hnc, hcm, hcs, htake, hof⟩
    · have hm : m = 0 := by omega
      subst hm
      have hx : xs = [] := List.eq_nil_of_length_eq_zero (by simpa using hb.1)
      have hn : news = [] := List.eq_nil_of_length_eq_zero (by simpa using hs.newsLen)
      subst hx; subst hn
      refine ⟨none, 0, [], w, ?_, Buf.nil _ _, res_same hnd hE⟩
      exact run_append_nothing w t tx ty e i ht hi none 0 0 (Nat.le_refl _) x hs
    · have hg : w.heap[g]? = some (.cells cur e fz) := hE (g, .cells cur e fz) (by simp)
      have hfit : n * i.size + news.length ≤ cur.size := by rw [hs.newsLen, hcs, ← Nat.add_mul]; exact Nat.mul_le_mul_right _ hroom
      have hcell : ∀ j, j < news.length → (w.cell? ⟨g, 0 + n * i.size + j, none⟩).isSome = true := fun j hj => by
        simp only [World.cell?, hg]
        simp; omega
      have hfz : ∀ j, j < news.length → w.frozen? ⟨g, 0 + n * i.size + j, none⟩ = false := fun j hj => hof.frozen hg (by omega)
      have hr := run_append_room_src w t tx ty e i ht hi g 0 n c x m news hs hroom hcell hfz
      simp only [Nat.zero_add] at hr
      refine ⟨_, c, _, _, hr, ⟨hlen, .inr ⟨g, _, fz, rfl, rfl, hroom, hcm, ?_, ?_, ?_⟩⟩, res_setCells hg hfit⟩
      · simp only [List.size_toArray, spliced_length _ _ _ (show n * i.size + news.length ≤ cur.toList.length by simpa using hfit), Array.length_toList, hcs]
      · simp only [spliced]
        rw [htake, ← hlen]
        exact List.take_left
      · simp only [List.size_toArray, spliced_length _ _ _ (show n * i.size + news.length ≤ cur.toList.length by simpa using hfit), Array.length_toList]
        exact hof
  · have hold : (Builtin.firstCells i.size n (.slice A n c)).run P w.drew = .ok xs.toArray w.drew := by
      rcases hb.2 with ⟨rfl, rfl, rfl, rfl⟩ | ⟨g, cur, fz, rfl, rfl, hnc, hcm, hcs, htake, hof⟩
      · have hx : xs = [] := List.eq_nil_of_length_eq_zero (by simpa using hb.1)
        subst hx
        exact run_firstCells_none _ _ _ _ _
      · refine run_firstCells_some w.drew _ _ _ _ _ xs hb.1 fun j u hj => ?_
        obtain ⟨g', hg', _, hc⟩ := hb.cells hE (by intro h; simp [h] at hj)
        cases hg'
        rw [add_plain, Nat.zero_add]
        show w.cell? _ = some u
        exact hc j u hj
    have hr := run_append_grow_src w t tx ty e i z ht hi hz A n c xs hold x m news hs (by omega) hsmall (growslice_fits (by omega) hbytes)
    have hge := grownCap_ge w (n + m) c e
    have hcm : grownCap w (n + m) c e ≤ maxLen := grownCap_le_maxLen w (n + m) c e h63
    generalize hcs : (xs ++ news).toArray ++ Builtin.zeroCells z.cells (grownCap w (n + m) c e - (n + m)) = cs at hr
    refine ⟨_, _, [(w.heap.size, .cells cs e (0, 0))], _, hr, ⟨hlen, .inr ⟨w.heap.size, cs, (0, 0), rfl, rfl, hge, hcm, ?_, ?_, .inl (Nat.le_refl _)⟩⟩, ?_⟩
    · rw [← hcs]
      simp only [Array.size_append, List.size_toArray, size_zeroCells, hzs, hlen, ← Nat.add_mul]
      congr 1
      omega
    · rw [← hcs]
      simp only [Array.toList_append]
      rw [← hlen]
      exact List.take_left
    · refine ⟨⟨by simp [ids], fun p hp => ?_⟩, fun j hj => ?_, fun j hj _ => ?_, ?_, rfl, rfl, rfl⟩
      · have : p = (w.heap.size, .cells cs e (0, 0)) := by simpa using hp
        subst this
        exact heap_alloc_new w.drew _
      · simp [ids] at hj; exact .inr (by omega)
      · show (w.heap.push _)[j]? = _
        rw [Array.getElem?_push, if_neg (by omega)]
      · simp

section rules
variable {P : Program} {ops : Array Oper} {Q : Exit → Act → World → Prop} {nt : Sh} {w0 : World} {X : List Nat} {fr : Fr} {M : List Seg} {rest : List Oper}
variable {dst : Option Nat} {ty : TypeId} {pos : String} {af : Array Edge}
variable {t u : TypeId} {x y : Operand} {k : IntKind} {a b : Int}

/-- a new block with a pointer to it -/
theorem wl_box {d : Nat} {e : TypeId} {v : Value} (hx : ev fr x = some v) (hd : Nat.blt d nt.n = true) (h : ∀ g, WX .seq P ops Q nt w0 X rest ((d, .pointer (some ⟨g, 0, none⟩)) :: fr) ([(g, .cells (cellsL v).toArray e (0, 0))] :: M)) :
    WX .seq P ops Q nt w0 X (⟨some d, .box e x, ty, pos, af, none⟩ :: rest) fr M :=
  wl_step rfl hd fun c w hs hr => ⟨_, w.alloc (.cells (cellsL v).toArray e), _, by simp [execOp, hs.ev hx, Instr.box, newVar, newRow, newObj, Sem.run, cellsL_eq], hr.new _ rfl rfl rfl rfl, h _⟩
theorem wl_alloc {d : Nat} {e : TypeId} {z : Value} (hz : zeroV P e = some z) (hd : Nat.blt d nt.n = true) (h : ∀ g, WX .seq P ops Q nt w0 X rest ((d, .pointer (some ⟨g, 0, none⟩)) :: fr) ([(g, .cells (cellsL z).toArray e (0, 0))] :: M)) :
    WX .seq P ops Q nt w0 X (⟨some d, .alloc e, ty, pos, af, none⟩ :: rest) fr M :=
  wl_step rfl hd fun c w hs hr => ⟨_, w.alloc (.cells (cellsL z).toArray e), _, by simp [execOp, Instr.alloc, run_zeroV hz, newVar, newRow, newObj, Sem.run, cellsL_eq], hr.new _ rfl rfl rfl rfl, h _⟩

def parts (fr : Fr) : List (Nat × Operand) → Option (List (Nat × Value))
  | [] => some []
  | (i, x) :: r => match ev fr x, parts fr r with
    | some v, some vs => some ((i, v) :: vs)
    | _, _ => none
theorem parts_spec {c : Act} (hs : St nt c fr) : ∀ {ps : List (Nat × Operand)} {vs : List (Nat × Value)}, parts fr ps = some vs → ps.map (fun p => (p.1, c.eval p.2)) = vs
  | [], vs, h => by simp [parts] at h; simp [h]
  | (i, x) :: r, vs, h => by
    simp only [parts] at h
    split at h
    · rename_i v us hv hus
      have := parts_spec hs hus
      simp at h
      subst h
      simp [hs.ev hv, this]
    · simp at h
theorem v_build {gd : Option (Nat × Bool)} {ps : List (Nat × Operand)} {vs : List (Nat × Value)} {cs : Array Value} (hp : parts fr ps = some vs) (hb : P.built t vs = some cs) : Val P nt w0 X fr M ⟨dst, .build t ps.toArray, ty, pos, af, gd⟩ (.agg cs) := fun c w hs hr => by
  have h1 := parts_spec hs hp
  have h2 : (Array.map (fun p : Nat × Operand => (p.1, c.eval p.2)) ps.toArray) = vs.toArray := by simp [← h1]
  have h3 := run_build (P := P) w t vs.toArray cs (by simpa using hb)
  simp only [execOp]
  show (Instr.build t (Array.map (fun p : Nat × Operand => (p.1, c.eval p.2)) ps.toArray) >>= fun a => pure (Next.value a)).run P w = _
  rw [h2]
  simp [h3]
end rules
end Go.Proofs.Ytknnkgoehkohaaa
