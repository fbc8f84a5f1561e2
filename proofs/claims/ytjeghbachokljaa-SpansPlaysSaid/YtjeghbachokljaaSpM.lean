/- Maps under string keys. -/
import Derived.Test.YtjeghbachokljaaProg
import Derived.Test.YtjeghbachokljaaKit2
set_option linter.unusedVariables false
set_option linter.unusedSimpArgs false
namespace Go.Proofs.Ytjeghbachokljaa
open Go
set_option maxRecDepth 20000
section
variable {α : Type}
def adel [DecidableEq α] (a : α) (L : TE α) : TE α := L.filter (fun e => decide (a ≠ e.1))
theorem aget_del [DecidableEq α] {a b : α} : ∀ {L : TE α}, aget b (adel a L) = if b = a then none else aget b L
  | [] => by simp [adel, aget]
  | e :: r => by
    have ih := aget_del (a := a) (b := b) (L := r)
    unfold adel aget at *
    by_cases h : a = e.1
    · rw [List.filter_cons_of_neg (by simp [h]), ih, List.find?_cons]
      by_cases hb : b = a
      · rw [if_pos hb, if_pos hb]
      · rw [if_neg hb, if_neg hb, show decide (b = e.1) = false by rw [← h]; simp [hb]]
    · rw [List.filter_cons_of_pos (by simp [h]), List.find?_cons, List.find?_cons]
      by_cases hb : b = e.1
      · have hba : ¬ b = a := fun e2 => h (by rw [← e2, hb])
        rw [if_neg hba]
        simp [hb]
      · simp only [decide_eq_true_eq, hb, decide_false]
        exact ih
theorem MapOk.del [DecidableEq α] {L : TE α} {clk : Nat} (h : MapOk L clk) (a : α) : MapOk (adel a L) clk :=
  ⟨h.keys.filter _, h.stamps.filter _, fun e he => h.lt e (List.mem_filter.1 he).1⟩
theorem adel_erase [DecidableEq α] {a : α} {u : Value} {b : Nat} : ∀ {L : TE α} {n : Nat}, L.Pairwise (fun a b => a.1 ≠ b.1) → L[n]? = some (a, u, b) → L.eraseIdx n = adel a L
  | [], n, _, h => by simp at h
  | e :: r, 0, hp, h => by
    obtain rfl : e = (a, u, b) := by simpa using h
    unfold adel
    rw [List.filter_cons_of_neg (by simp), List.eraseIdx_cons_zero]
    exact (List.filter_eq_self.2 fun x hx => by simpa using (List.pairwise_cons.1 hp).1 x hx).symm
  | e :: r, n + 1, hp, h => by
    have h' : r[n]? = some (a, u, b) := by simpa using h
    have hne : e.1 ≠ a := (List.pairwise_cons.1 hp).1 _ (List.mem_of_getElem? h')
    unfold adel
    rw [List.filter_cons_of_pos (by simpa using fun e2 => hne e2.symm), List.eraseIdx_cons_succ, adel_erase (List.pairwise_cons.1 hp).2 h']
    rfl
theorem adel_none [DecidableEq α] {a : α} {L : TE α} (h : L.find? (fun e => decide (a = e.1)) = none) : adel a L = L :=
  List.filter_eq_self.2 fun x hx => by simpa using List.find?_eq_none.1 h x hx
theorem erase_map {β γ : Type} (f : β → γ) : ∀ (l : List β) (n : Nat), (l.map f).eraseIdx n = (l.eraseIdx n).map f
  | [], n => by simp
  | e :: r, 0 => by simp
  | e :: r, n + 1 => by simp [erase_map f r n]
theorem ents_erase {κ : α → Value} {L : TE α} {n : Nat} (h : n < L.length) : (ents (tents κ L)).eraseIdxIfInBounds n = ents (tents κ (L.eraseIdx n)) := by
  apply Array.ext'
  unfold Array.eraseIdxIfInBounds
  rw [dif_pos (by simpa [ents, tents] using h)]
  simp [ents, tents, erase_map]
end
section
variable {α : Type} {κ : α → Value} {P : Program} {ops : Array Oper} {Q : Exit → Act → World → Prop} {nt : Sh} {w0 : World} {X : List Nat} {fr : Fr} {M : List Seg} {rest : List Oper} {ty : TypeId} {pos : String} {af : Array Edge} {t : TypeId} {x y s : Operand}
/-- delete(m, k) -/
theorem wl_mdel [DecidableEq α] (i : Nat) {kt e t2 : TypeId} {g clk : Nat} {L : TE α} {a : α} (ht : mapT P t = some (kt, e)) (hok : MapOk L clk) (hx : ev fr x = some (.map (some g))) (hs : ev fr s = some (κ a)) (hi : M[i]? = some [(g, .map (ents (tents κ L)) clk)])
    (hκ : ∀ a b, keyEq (κ a) (κ b) = decide (a = b)) (hg : KeyGood P kt (κ a)) (hk : ∀ b, KeyOk P kt (κ a) (κ b)) (h : WX .seq P ops Q nt w0 X rest fr (M.set i [(g, .map (ents (tents κ (adel a L))) clk)])) :
    WX .seq P ops Q nt w0 X (⟨none, .call ⟨.builtin .delete, #[x, s], #[t, t2]⟩, ty, pos, af, none⟩ :: rest) fr M :=
  wl_step rfl rfl fun c w hst hr => by
    obtain ⟨hu, dk, hdk⟩ := mapT_spec ht
    have hb := hr.blk hi (j := 0) rfl
    have hf := run_findKey hdk (l := tents κ L) (k := κ a) (fun e he => by
      obtain ⟨e', _, rfl⟩ := List.mem_map.1 he
      exact hk e'.1) w
    have hgo : (getObj g).run P w = .ok (.map (ents (tents κ L)) clk) w := run_getObj_map hb
    have hso := run_setObj_map (P := P) (es' := ents (tents κ (adel a L))) (clk' := clk) hb
    refine ⟨.tuple #[], { w with heap := w.heap.setIfInBounds g (.map (ents (tents κ (adel a L))) clk) }, _, ?_, hr.turnAt hi (res_obj hb), h⟩
    have hto : (ents (tents κ L)).toList = (tents κ L).map ent := by simp [ents]
    rcases mlook_t hκ a L 0 with ⟨h1, h2⟩ | ⟨n, u, b, h1, h2, h3⟩
    · rw [adel_none h2] at hso ⊢
      simp [execOp, resolve, invoke, builtin, Builtin.delete_, hst.ev hx, hst.ev hs, run_underlying hu, hgo, hg.check, hto, hf, h1, hso]
    · have hlt := (List.getElem?_eq_some_iff.1 h2).1
      have hee := ents_erase (κ := κ) hlt
      rw [adel_erase hok.keys h2] at hee
      simp [execOp, resolve, invoke, builtin, Builtin.delete_, hst.ev hx, hst.ev hs, run_underlying hu, hgo, hg.check, hto, hf, h1, hee, hso]
end
abbrev mpB (g : Nat) (L : TE ByteArray) (clk : Nat) : Seg := [(g, .map (ents (tents Value.string L)) clk)]
section
variable {P : Program} {ops : Array Oper} {Q : Exit → Act → World → Prop} {nt : Sh} {w0 : World} {X : List Nat} {fr : Fr} {M : List Seg} {rest : List Oper} {ty : TypeId} {pos : String} {af : Array Edge} {t : TypeId} {x y s : Operand}
theorem v_agetT {dst : Option Nat} {gd : Option (Nat × Bool)} {kt e : TypeId} {g clk : Nat} {L : TE ByteArray} {a : ByteArray} {z v : Value} {R : List Seg} [T : Take (mpB g L clk) M R] (hv : (aget a L).getD z = v) (ht : mapT P t = some (kt, e)) (hz : zeroV P e = some z) (hx : ev fr x = some (.map (some g))) (hy : ev fr y = some (.string a)) (hks : P.underlying kt = some .string) :
    Val P nt w0 X fr M ⟨dst, .lookup t x y false, ty, pos, af, gd⟩ v := by
  obtain ⟨i, hi⟩ := List.mem_iff_getElem?.1 (T.perm.mem_iff.2 (List.mem_cons_self ..))
  exact v_agetV (κ := Value.string) i 0 hv ht hz hx hy hi rfl key_string (good_string hks a) (ok_string hks a)
theorem wl_mputT {kt e : TypeId} {g clk : Nat} {L : TE ByteArray} {a : ByteArray} {v : Value} {R : List Seg} [T : Take (mpB g L clk) M R] (ht : mapT P t = some (kt, e)) (hok : MapOk L clk) (hx : ev fr x = some (.map (some g))) (hs : ev fr s = some (.string a)) (hy : ev fr y = some v) (hks : P.underlying kt = some .string)
    (h : WX .seq P ops Q nt w0 X rest fr (mpB g (aput a v L clk) (aclk a L clk) :: R)) :
    WX .seq P ops Q nt w0 X (⟨none, .mapUpdate t x s y, ty, pos, af, none⟩ :: rest) fr M :=
  wx_sub (M1 := mpB g L clk :: R) (L := []) (by simpa using T.perm) (wl_mput (κ := Value.string) 0 ht hok hx hs hy rfl key_string (good_string hks a) (ok_string hks a) h)
theorem wl_mdelT {kt e t2 : TypeId} {g clk : Nat} {L : TE ByteArray} {a : ByteArray} {R : List Seg} [T : Take (mpB g L clk) M R] (ht : mapT P t = some (kt, e)) (hok : MapOk L clk) (hx : ev fr x = some (.map (some g))) (hs : ev fr s = some (.string a)) (hks : P.underlying kt = some .string)
    (h : WX .seq P ops Q nt w0 X rest fr (mpB g (adel a L) clk :: R)) :
    WX .seq P ops Q nt w0 X (⟨none, .call ⟨.builtin .delete, #[x, s], #[t, t2]⟩, ty, pos, af, none⟩ :: rest) fr M :=
  wx_sub (M1 := mpB g L clk :: R) (L := []) (by simpa using T.perm) (wl_mdel (κ := Value.string) 0 ht hok hx hs rfl key_string (good_string hks a) (ok_string hks a) h)
end
end Go.Proofs.Ytjeghbachokljaa
