/- The seat's own logic: elements of one's own lists overwritten, whole structs. -/
import Derived.Test.YtknnkgoehkohaaaKitK
set_option linter.unusedVariables false
set_option linter.unusedSimpArgs false
namespace Go.Proofs.Ytknnkgoehkohaaa
open Go
theorem flat_len' {α : Type} {f : α → List Value} {k : Nat} (hf : ∀ a, (f a).length = k) : ∀ l : List α, (l.flatMap f).length = l.length * k
  | [] => by simp
  | x :: r => by rw [List.flatMap_cons, List.length_append, hf, flat_len' hf r, List.length_cons, Nat.add_mul, Nat.one_mul, Nat.add_comm]
theorem flat_set {α : Type} {f : α → List Value} {k : Nat} (hf : ∀ a, (f a).length = k) (v : α) : ∀ (l : List α) (i : Nat), i < l.length → (l.set i v).flatMap f = spliced (l.flatMap f) (i * k) (f v)
  | [], i, h => by simp at h
  | x :: r, 0, h => by
    simp only [List.set_cons_zero, List.flatMap_cons, Nat.zero_mul, spliced, List.take_zero, List.nil_append, Nat.zero_add]
    rw [hf v, ← hf x, List.drop_left]
  | x :: r, i + 1, h => by
    have ih := flat_set hf v r i (by simpa using h)
    simp only [List.set_cons_succ, List.flatMap_cons, ih, spliced]
    have e1 : (i + 1) * k = (f x).length + i * k := by rw [hf, Nat.add_mul, Nat.one_mul, Nat.add_comm]
    rw [e1, List.take_length_add_append, Nat.add_assoc, List.drop_length_add_append]
    simp [List.append_assoc]
theorem take_spliced {cs vs : List Value} {o m : Nat} (h : o + vs.length ≤ m) (h2 : m ≤ cs.length) : (spliced cs o vs).take m = spliced (cs.take m) o vs := by
  apply List.ext_getElem?
  intro j
  have hl : (cs.take o ++ vs).length = o + vs.length := by simp; omega
  by_cases hj : j < m
  · rw [List.getElem?_take_of_lt hj]
    have e1 : (cs.take m).take o = cs.take o := by rw [List.take_take, Nat.min_eq_left (by omega)]
    simp only [spliced, e1]
    by_cases h3 : j < o + vs.length
    · exact (List.getElem?_append_left (by omega)).trans (List.getElem?_append_left (by omega)).symm
    · refine (List.getElem?_append_right (by omega)).trans (Eq.trans ?_ (List.getElem?_append_right (by omega)).symm)
      rw [hl, List.getElem?_drop, List.getElem?_drop, List.getElem?_take_of_lt (by omega)]
  · rw [List.getElem?_eq_none (by simp; omega), List.getElem?_eq_none]
    rw [spliced_length _ _ _ (by simp; omega)]
    simp; omega
/-- an element of a list of one's own overwritten -/
theorem Buf.setA {α : Type} {f : α → List Value} {k : Nat} (hf : ∀ a, (f a).length = k) (v : α) {e n c g : Nat} {xs : List α} {E : Seg} (hb : Buf e k (some ⟨g, 0, none⟩) n c (xs.flatMap f) E) (hn : n = xs.length) {i : Nat} (hi : i < xs.length) :
    ∃ cur fz, E = [(g, .cells (cur : List Value).toArray e fz)] ∧ okF fz cur.length ∧ i * k + k ≤ cur.length ∧ Buf e k (some ⟨g, 0, none⟩) n c ((xs.set i v).flatMap f) [(g, .cells (spliced cur (i * k) (f v)).toArray e fz)] := by
  subst hn
  rcases hb.2 with ⟨h, _⟩ | ⟨g', cur, fz, h1, rfl, h2, h3, h4, h5, h6⟩
  · cases h
  · cases h1
    have hik : i * k + k ≤ xs.length * k := by
      have := Nat.mul_le_mul_right k (show i + 1 ≤ xs.length by omega)
      rw [Nat.add_mul, Nat.one_mul] at this; exact this
    have hcl : xs.length * k ≤ cur.toList.length := by
      rw [Array.length_toList (xs := cur), h4]; exact Nat.mul_le_mul_right _ h2
    have hsl : (spliced cur.toList (i * k) (f v)).length = cur.toList.length := spliced_length _ _ _ (by rw [hf]; omega)
    refine ⟨cur.toList, fz, by simp, by simpa using h6, by omega, by rw [flat_len' hf]; simp, .inr ⟨g, _, fz, rfl, rfl, h2, h3, ?_, ?_, ?_⟩⟩
    · simpa [hsl] using h4
    · rw [flat_set hf v xs i hi, ← h5, ← take_spliced (by rw [hf]; omega) hcl]
    · simpa [hsl] using h6
section
variable {P : Program} {ops : Array Oper} {Q : Exit → Act → World → Prop} {nt : Sh} {w0 : World} {X : List Nat} {fr : Fr} {M : List Seg} {rest : List Oper}
variable {t ty : TypeId} {pos : String} {af : Array Edge} {x y : Operand}
/-- a struct stored into an element of a list of one's own -/
theorem wl_setA (m i : Nat) {α : Type} {f : α → List Value} {k : Nat} (v : α) (hf : ∀ a, (f a).length = k) {e n c g off : Nat} {xs : List α} {E : Seg} (hn : aggN P t = some (f v).length) (hx : ev fr x = some (.pointer (some ⟨g, off, none⟩))) (ho : off = i * k) (hy : ev fr y = some (.agg (f v).toArray)) (hm : M[m]? = some E)
    (hb : Buf e k (some ⟨g, 0, none⟩) n c (xs.flatMap f) E) (hl : n = xs.length) (hi : i < xs.length) (h1 : (f v).all Value.oneCell' = true)
    (h : ∀ E', Buf e k (some ⟨g, 0, none⟩) n c ((xs.set i v).flatMap f) E' → WX .seq P ops Q nt w0 X rest fr (M.set m E')) :
    WX .seq P ops Q nt w0 X (⟨none, .store t x y, ty, pos, af, none⟩ :: rest) fr M := by
  subst ho
  obtain ⟨cur, fz, rfl, hz, hle, hb'⟩ := hb.setA hf v hl hi
  exact wl_storeA m hn hx hy hm (by rw [hf]; exact hle) hz (fun u hu => List.all_eq_true.1 h1 u hu) (h _ hb')
end
/-- append, told apart: in its own room, or into a block of its own -/
theorem run_append_two {P : Program} {w : World} {t tx ty e sz bytes : Nat} {i : TypeInfo} {z : Value} (ht : P.underlying t = some (.slice e)) (hi : P.info? e = some i) (hz : i.zero = some z) (hsize : i.size = sz) (hby : i.bytes = bytes)
    (hzs : z.cells.size = sz) (hsz : 0 < sz) {A : Option Addr} {n c m : Nat} {xs news : List Value} {E : Seg} (hb : Buf e sz A n c xs E) (hE : ∀ p, p ∈ E → w.heap[p.1]? = some p.2) {x : Value} (hs : Src P sz tx x m news w)
    (h63 : n + m ≤ maxLen) (hbytes : (n + m) * bytes ≤ 140737488355328) :
    (n + m ≤ c ∧ ∃ E' w', (Builtin.append_ #[t, tx] ty #[.slice A n c, x]).run P w = .ok (.slice A (n + m) c) w' ∧ Buf e sz A (n + m) c (xs ++ news) E' ∧ Res w (E.map (·.1)) w' [E']) ∨
    (∃ A' c' E' w', (Builtin.append_ #[t, tx] ty #[.slice A n c, x]).run P w = .ok (.slice A' (n + m) c') w' ∧ Buf e sz A' (n + m) c' (xs ++ news) E' ∧ Res w [] w' [E']) := by
  subst hsize
  subst hby
  have hlen : (xs ++ news).length = (n + m) * i.size := by rw [List.length_append, hb.1, hs.newsLen, Nat.add_mul]
  have hnd : (E.map (·.1)).Nodup := by
    rcases hb.2 with ⟨_, _, _, rfl⟩ | ⟨g, cur, fz, _, rfl, _⟩ <;> simp
  have hsmall : ((n + m : Nat) : Int) ≤ 9223372036854775807 := by simp only [maxLen] at h63; omega
  by_cases hroom : n + m ≤ c
  · refine .inl ⟨hroom, ?_⟩
    rcases hb.2 with ⟨rfl, rfl, rfl, rfl⟩ | ⟨g, cur, fz, rfl, rfl, hnc, hcm, hcs, htake, hof⟩
    · have hm : m = 0 := by omega
      subst hm
      have hx : xs = [] := List.eq_nil_of_length_eq_zero (by simpa using hb.1)
      have hn : news = [] := List.eq_nil_of_length_eq_zero (by simpa using hs.newsLen)
      subst hx; subst hn
      refine ⟨[], w, ?_, Buf.nil _ _, res_same hnd hE⟩
      exact run_append_nothing w t tx ty e i ht hi none 0 0 (Nat.le_refl _) x hs
    · have hg : w.heap[g]? = some (.cells cur e fz) := hE (g, .cells cur e fz) (by simp)
      have hfit : n * i.size + news.length ≤ cur.size := by rw [hs.newsLen, hcs, ← Nat.add_mul]; exact Nat.mul_le_mul_right _ hroom
      have hcell : ∀ j, j < news.length → (w.cell? ⟨g, 0 + n * i.size + j, none⟩).isSome = true := fun j hj => by
        simp only [World.cell?, hg]
        simp; omega
      have hfz : ∀ j, j < news.length → w.frozen? ⟨g, 0 + n * i.size + j, none⟩ = false := fun j hj => hof.frozen hg (by omega)
      have hr := run_append_room_src w t tx ty e i ht hi g 0 n c x m news hs hroom hcell hfz
      simp only [Nat.zero_add] at hr
      refine ⟨_, _, hr, ⟨hlen, .inr ⟨g, _, fz, rfl, rfl, hroom, hcm, ?_, ?_, ?_⟩⟩, res_setCells hg hfit⟩
      · simp only [List.size_toArray, spliced_length _ _ _ (show n * i.size + news.length ≤ cur.toList.length by simpa using hfit), Array.length_toList, hcs]
      · simp only [spliced]
        rw [htake, ← hlen]
        exact List.take_left
      · simp only [List.size_toArray, spliced_length _ _ _ (show n * i.size + news.length ≤ cur.toList.length by simpa using hfit), Array.length_toList]
        exact hof
  · right
    have hold : (Builtin.firstCells i.size n (.slice A n c)).run P w.drew = .ok xs.toArray w.drew := by
      rcases hb.2 with ⟨rfl, rfl, rfl, rfl⟩ | ⟨g, cur, fz, rfl, rfl, hnc, hcm, hcs, htake, hof⟩
      · have hx : xs = [] := List.eq_nil_of_length_eq_zero (by simpa using hb.1)
        subst hx
        exact run_firstCells_none _ _ _ _ _
      · refine run_firstCells_some w.drew _ _ _ _ _ xs hb.1 fun j u hj => ?_
        obtain ⟨g', hg', _, hc⟩ := hb.cells hE (by intro h; simp [h] at hj)
        cases hg'
        rw [add_plain, Nat.zero_add]
        show w.cell? _ = some u
        exact hc j u hj
    have hr := run_append_grow_src w t tx ty e i z ht hi hz A n c xs hold x m news hs (by omega) hsmall (growslice_fits (by omega) hbytes)
    have hge := grownCap_ge w (n + m) c e
    have hcm : grownCap w (n + m) c e ≤ maxLen := grownCap_le_maxLen w (n + m) c e h63
    generalize hcs : (xs ++ news).toArray ++ Builtin.zeroCells z.cells (grownCap w (n + m) c e - (n + m)) = cs at hr
    refine ⟨_, _, [(w.heap.size, .cells cs e (0, 0))], _, hr, ⟨hlen, .inr ⟨w.heap.size, cs, (0, 0), rfl, rfl, hge, hcm, ?_, ?_, .inl (Nat.le_refl _)⟩⟩, ?_⟩
    · rw [← hcs]
      simp only [Array.size_append, List.size_toArray, size_zeroCells, hzs, hlen, ← Nat.add_mul]
      congr 1
      omega
    · rw [← hcs]
      simp only [Array.toList_append]
      rw [← hlen]
      exact List.take_left
    · refine ⟨⟨by simp [ids], fun p hp => ?_⟩, fun j hj => ?_, fun j hj _ => ?_, ?_, rfl, rfl, rfl⟩
      · have : p = (w.heap.size, .cells cs e (0, 0)) := by simpa using hp
        subst this
        exact heap_alloc_new w.drew _
      · simp [ids] at hj; exact .inr (by omega)
      · show (w.heap.push _)[j]? = _
        rw [Array.getElem?_push, if_neg (by omega)]
      · simp
section
variable {P : Program} {ops : Array Oper} {Q : Exit → Act → World → Prop} {nt : Sh} {w0 : World} {X : List Nat} {fr : Fr} {M : List Seg} {rest : List Oper}
variable {t ty : TypeId} {pos : String} {af : Array Edge} {x y : Operand}
/-- append, told apart: what lay there stays as it was, or is written behind its length alone -/
theorem wl_append2 (i : Nat) {d : Nat} {tx e sz bytes n c m : Nat} {A : Option Addr} {xs news : List Value} {E : Seg} {src : Value} (hT : appT P t = some (e, sz, bytes)) (hi : M[i]? = some E) (hb : Buf e sz A n c xs E)
    (hx : ev fr x = some (.slice A n c)) (hy : ev fr y = some src) (hs : ∀ w, Res w0 X w M → Src P sz tx src m news w) (hbytes : (n + m) * bytes ≤ 140737488355328) (hd : Nat.blt d nt.n = true)
    (h1 : ∀ E', Buf e sz A (n + m) c (xs ++ news) E' → WX .seq P ops Q nt w0 X rest ((d, .slice A (n + m) c) :: fr) (M.set i E'))
    (h2 : ∀ A' c' E', Buf e sz A' (n + m) c' (xs ++ news) E' → WX .seq P ops Q nt w0 X rest ((d, .slice A' (n + m) c') :: fr) (E' :: M)) :
    WX .seq P ops Q nt w0 X (⟨some d, .call ⟨.builtin .append, #[x, y], #[t, tx]⟩, ty, pos, af, none⟩ :: rest) fr M :=
  wl_step rfl hd fun ac w hs1 hr => by
    obtain ⟨hu, ti, z, g1, g2, g3, g4, g5, g6, g7⟩ := appT_spec hT
    have h63 : n + m ≤ maxLen := by
      have : n + m ≤ (n + m) * bytes := Nat.le_mul_of_pos_right _ g7
      simp only [maxLen]; omega
    rcases run_append_two (P := P) (w := w) (ty := ty) hu g1 g2 g3 g4 g5 g6 hb (own_seg hr hi) (hs w hr) h63 hbytes with ⟨_, E', w', hrun, hb', hres⟩ | ⟨A', c', E', w', hrun, hb', hres⟩
    · refine ⟨.slice A (n + m) c, w', M.set i E', ?_, hr.turnAt hi hres, h1 E' hb'⟩
      simp [execOp, resolve, hs1.ev hx, hs1.ev hy, invoke, builtin, hrun]
    · refine ⟨.slice A' (n + m) c', w', E' :: M, ?_, Res.call (M := []) (L := M) (by simpa using hr) hres, h2 A' c' E' hb'⟩
      simp [execOp, resolve, hs1.ev hx, hs1.ev hy, invoke, builtin, hrun]
end
/-- of a slice of one's own the first ones alone -/
theorem Buf.cutN {e sz n c : Nat} {A : Option Addr} {xs : List Value} {E : Seg} (h : Buf e sz A n c xs E) {m : Nat} (hm : m ≤ n) : Buf e sz A m c (xs.take (m * sz)) E := by
  have hml : m * sz ≤ n * sz := Nat.mul_le_mul_right _ hm
  refine ⟨by rw [List.length_take, h.1, Nat.min_eq_left hml], ?_⟩
  rcases h.2 with ⟨rfl, rfl, rfl, rfl⟩ | ⟨g, cur, fz, h1, h2, h3, h4, h5, h6, h7⟩
  · exact .inl ⟨rfl, by omega, rfl, rfl⟩
  · exact .inr ⟨g, cur, fz, h1, h2, by omega, h4, h5, by rw [← h6, List.take_take, Nat.min_eq_left hml], h7⟩
/-- results: a struct that lies in a variable, and two values -/
theorem wq_retA3 {β : Type} {P : Program} {fn : Func} {nt : Sh} [Z : Calm nt] {w0 : World} {X : List Nat} {fr : Fr} {M : List Seg} {val : β → Value} {MM : β → List Seg} {φ : β → Prop} (x : β)
    {a t g b d : Nat} {i j : Nat} {E : Seg} {cs : List Value} {et : TypeId} {fz : Nat × Nat} {v2 v3 : Value} (hr : fn.results = #[.cell a t, .tmp b, .tmp d]) (hn : aggN P t = some cs.length) (h1 : look fr a = some (.pointer (some ⟨g, 0, none⟩))) (hi : M[i]? = some E) (hj : E[j]? = some (g, .cells cs.toArray et fz)) (h2 : look fr b = some v2) (h3 : look fr d = some v3)
    (hv : val x = .tuple #[.agg cs.toArray, v2, v3]) (hφ : φ x) {I J : List Nat} (hM : okIJ M.length (I ++ J) = true) (hP : pick M I = MM x) : WQ (bodyPost P fn (Ret w0 X val MM φ)) nt w0 X .ret fr M := by
  intro ac w hs hres
  refine bodyPost_ret (v := .tuple #[.agg cs.toArray, v2, v3]) ?_ (hs.calm.trans Z.eq) ⟨x, hφ, by rw [hv], ?_⟩
  · obtain ⟨g2, g3⟩ := aggN_spec hn
    have g4 := run_loadCells_list (P := P) w ⟨g, 0, none⟩ cs (fun k v hk => by rw [add_plain, Nat.zero_add]; exact hres.cell hi hj (by simpa using hk))
    simp only [Go.results, hr]
    simp [hs.has _ _ h1, hs.has _ _ h2, hs.has _ _ h3, asAddr, loadVar, g2, g3, g4]
  · exact hP ▸ (hres.perm (permP I J hM)).drop
theorem mark_step {α : Type} (l : List α) (v : α) {i : Nat} (h : i < l.length) : (List.replicate i v ++ l.drop i).set i v = List.replicate (i + 1) v ++ l.drop (i + 1) := by
  rw [List.set_append_right _ _ (by simp), List.length_replicate, Nat.sub_self, List.drop_eq_getElem_cons h, List.set_cons_zero, List.replicate_succ']
  simp
end Go.Proofs.Ytknnkgoehkohaaa
