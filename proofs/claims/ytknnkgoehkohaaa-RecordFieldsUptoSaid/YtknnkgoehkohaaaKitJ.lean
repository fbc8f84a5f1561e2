/- Regions that draw their order and turn memory: operations with a guard. -/
import Derived.Test.YtknnkgoehkohaaaKitH
import Derived.Lib.ConvBytes
set_option linter.unusedVariables false
set_option linter.unusedSimpArgs false
namespace Go.Proofs.Ytknnkgoehkohaaa
open Go
theorem own_nil (w : World) : Own w [] := ⟨by simp [ids], by simp⟩
abbrev Holds (w : World) : Ending → World → Prop := Ret (β := Unit) w (ids []) (fun _ => .bool true) (fun _ => []) (fun _ => True)
theorem Buf.vw {e sz n c : Nat} {A : Option Addr} {xs : List Value} {E : Seg} (h : Buf e sz A n c xs E) {w0 w : World} {X : List Nat} {M : List Seg} (hr : Res w0 X w M) {i : Nat} (hi : M[i]? = some E) : Vw [] w A xs := (h.rd hr hi).vw
section held
variable {P : Program} {ops : Array Oper} {Q : Exit → Act → World → Prop} {nt : Sh} {w0 : World} {X : List Nat} {fr : Fr} {M Ms : List Seg}
theorem wh_takeg (i : Nat) {d j s : Nat} {b : Bool} {op : Op} {ty : TypeId} {pos : String} {af : Array Edge} {v : Value} {fuel : Nat} {listed : Array Bool} (hS : ∀ w, Res w0 X w M → Res w0 X w Ms) (hQ : PanicOk Q) (hi : ops[i]? = some ⟨some d, op, ty, pos, af, some (j, b)⟩)
    (hj : gslot ops j = some s) (hb : look fr s = some (.bool b))
    (hv : Val P nt w0 X fr Ms ⟨some d, op, ty, pos, af, some (j, b)⟩ v) (hs : Region.noSelect ops = true) (hf : Region.free .any ops listed i = true) (hr : (Region.ready .any ops listed).contains i = true) (hd : Nat.blt d nt.n = true)
    (h : WH P ops Q nt w0 X Ms fuel (listed.setIfInBounds i true) ((d, v) :: fr) M) : WH P ops Q nt w0 X Ms (fuel + 1) listed fr M := fun a w h1 h2 =>
  wpAnyH_take hi hs hf hr (fun c a w hq => hQ c _ _ a w hq) (.inl ⟨wanted_yes h1 rfl hj hb, fun w' hw' => hv a w' h1 hw'⟩) (hS w h2) (h _ w (h1.put v (by simpa using hd)) h2)
theorem wh_taken (i : Nat) {d j s : Nat} {b : Bool} {op : Op} {ty : TypeId} {pos : String} {af : Array Edge} {fuel : Nat} {listed : Array Bool} (hS : ∀ w, Res w0 X w M → Res w0 X w Ms) (hQ : PanicOk Q) (hi : ops[i]? = some ⟨some d, op, ty, pos, af, some (j, b)⟩)
    (hj : gslot ops j = some s) (hb : look fr s = some (.bool (!b)) ∨ look fr s = some undef) (hs : Region.noSelect ops = true) (hf : Region.free .any ops listed i = true) (hr : (Region.ready .any ops listed).contains i = true) (hd : Nat.blt d nt.n = true)
    (h : WH P ops Q nt w0 X Ms fuel (listed.setIfInBounds i true) ((d, undef) :: fr) M) : WH P ops Q nt w0 X Ms (fuel + 1) listed fr M := fun a w h1 h2 =>
  wpAnyH_take hi hs hf hr (fun c a w hq => hQ c _ _ a w hq) (.inr ⟨hb.elim (fun hb => wanted_no h1 rfl hj hb) (fun hb => wanted_undef h1 rfl hj hb), rfl⟩) (hS w h2) (h _ w (h1.put undef (by simpa using hd)) h2)
theorem wh_if (s : Nat) {b : Bool} {p : Prop} [Decidable p] {fuel : Nat} {listed : Array Bool} (hs : look fr s = some (.bool (decide p)))
    (ht : p → WH P ops Q nt w0 X Ms fuel listed ((s, .bool true) :: fr) M) (hf : ¬ p → WH P ops Q nt w0 X Ms fuel listed ((s, .bool false) :: fr) M) : WH P ops Q nt w0 X Ms fuel listed fr M := fun a w h1 h2 => by
  by_cases hp : p
  · exact ht hp a w ⟨h1.size, fun k v e => h1.has k v (look_put (by rw [hs, decide_eq_true hp]) k v e), h1.calm⟩ h2
  · exact hf hp a w ⟨h1.size, fun k v e => h1.has k v (look_put (by rw [hs, decide_eq_false hp]) k v e), h1.calm⟩ h2
theorem wh_yes (s : Nat) {b : Bool} {fuel : Nat} {listed : Array Bool} (hs : look fr s = some (.bool b)) (hb : b = true) (h : WH P ops Q nt w0 X Ms fuel listed ((s, .bool true) :: fr) M) : WH P ops Q nt w0 X Ms fuel listed fr M := fun a w h1 h2 =>
  h a w ⟨h1.size, fun k v e => h1.has k v (look_put (by rw [hs, hb]) k v e), h1.calm⟩ h2
theorem wh_not (s : Nat) {b : Bool} {fuel : Nat} {listed : Array Bool} (hs : look fr s = some (.bool b)) (hb : b = false) (h : WH P ops Q nt w0 X Ms fuel listed ((s, .bool false) :: fr) M) : WH P ops Q nt w0 X Ms fuel listed fr M := fun a w h1 h2 =>
  h a w ⟨h1.size, fun k v e => h1.has k v (look_put (by rw [hs, hb]) k v e), h1.calm⟩ h2
end held
section gif
variable {P : Program} {ops : Array Oper} {Q : Exit → Act → World → Prop} {nt : Sh} {w0 : World} {X : List Nat} {fr : Fr} {M : List Seg} {rest : List Oper}
/-- a guard's test that isn't known: both ways -/
theorem wx_gif {md : Way} {dst : Option Nat} {op : Op} {ty : TypeId} {pos : String} {af : Array Edge} {j s : Nat} {b : Bool} {p : Prop} [Decidable p] (hj : gslot ops j = some s) (hs : look fr s = some (.bool (decide p)))
    (h1 : p → WX md P ops Q nt w0 X (⟨dst, op, ty, pos, af, some (j, b)⟩ :: rest) ((s, .bool true) :: fr) M) (h2 : ¬ p → WX md P ops Q nt w0 X (⟨dst, op, ty, pos, af, some (j, b)⟩ :: rest) ((s, .bool false) :: fr) M) : WX md P ops Q nt w0 X (⟨dst, op, ty, pos, af, some (j, b)⟩ :: rest) fr M := wx_if s hs h1 h2
theorem wx_gnif {md : Way} {dst : Option Nat} {op : Op} {ty : TypeId} {pos : String} {af : Array Edge} {j s : Nat} {b : Bool} {p : Prop} [Decidable p] (hj : gslot ops j = some s) (hs : look fr s = some (.bool (!decide p)))
    (h1 : p → WX md P ops Q nt w0 X (⟨dst, op, ty, pos, af, some (j, b)⟩ :: rest) ((s, .bool false) :: fr) M) (h2 : ¬ p → WX md P ops Q nt w0 X (⟨dst, op, ty, pos, af, some (j, b)⟩ :: rest) ((s, .bool true) :: fr) M) : WX md P ops Q nt w0 X (⟨dst, op, ty, pos, af, some (j, b)⟩ :: rest) fr M :=
  wx_bool s hs (fun e => h2 (by simpa using e)) (fun e => h1 (by simpa using e))
theorem wx_gbool {md : Way} {dst : Option Nat} {op : Op} {ty : TypeId} {pos : String} {af : Array Edge} {j s : Nat} {b c : Bool} (hj : gslot ops j = some s) (hs : look fr s = some (.bool c))
    (h1 : c = true → WX md P ops Q nt w0 X (⟨dst, op, ty, pos, af, some (j, b)⟩ :: rest) ((s, .bool true) :: fr) M) (h2 : c = false → WX md P ops Q nt w0 X (⟨dst, op, ty, pos, af, some (j, b)⟩ :: rest) ((s, .bool false) :: fr) M) : WX md P ops Q nt w0 X (⟨dst, op, ty, pos, af, some (j, b)⟩ :: rest) fr M :=
  wx_bool s hs h1 h2
/-- a test of a bool -/
theorem wc_bool {c : Operand} {x y : Code} {b : Bool} (hc : ev fr c = some (.bool b)) (h1 : b = true → WC P Q nt w0 X x fr M) (h2 : b = false → WC P Q nt w0 X y fr M) : WC P Q nt w0 X (.cond c x y) fr M := wc_cond hc h1 h2
theorem wc_nif {c : Operand} {x y : Code} {p : Prop} [Decidable p] (hc : ev fr c = some (.bool (!decide p))) (ht : p → WC P Q nt w0 X y fr M) (hf : ¬ p → WC P Q nt w0 X x fr M) : WC P Q nt w0 X (.cond c x y) fr M :=
  wc_cond hc (fun e => hf (by simpa using e)) (fun e => ht (by simpa using e))
/-- a call that hands back one known value and touches nothing -/
theorem vc_pure {dst : Option Nat} {ty : TypeId} {pos : String} {af : Array Edge} {gd : Option (Nat × Bool)} {f : FuncId} {xs : List Operand} {tys : Array TypeId} {vs : List Value} {v : Value} (hx : evs fr xs = some vs) (hf : okFn P f = true)
    (hc : ∀ w, Calls P f vs.toArray w (Ret (β := Unit) w (ids []) (fun _ => v) (fun _ => []) (fun _ => True))) :
    VCall P nt w0 X fr M ⟨dst, .call ⟨.value (.func f), xs.toArray, tys⟩, ty, pos, af, gd⟩ v :=
  vc_call (fun w hr => (hc w).mono fun e w' ⟨_, _, h1, h2⟩ => ⟨h1, [], M, by simp, h2⟩) hf hx
theorem vc_pure' {dst : Option Nat} {ty : TypeId} {pos : String} {af : Array Edge} {gd : Option (Nat × Bool)} {f : FuncId} {xs : List Operand} {tys : Array TypeId} {vs : List Value} {v : Value} (hx : evs fr xs = some vs) (hf : okFn P f = true)
    (hc : ∀ w, Res w0 X w M → Calls P f vs.toArray w (Ret (β := Unit) w (ids []) (fun _ => v) (fun _ => []) (fun _ => True))) :
    VCall P nt w0 X fr M ⟨dst, .call ⟨.value (.func f), xs.toArray, tys⟩, ty, pos, af, gd⟩ v :=
  vc_call (fun w hr => (hc w hr).mono fun e w' ⟨_, _, h1, h2⟩ => ⟨h1, [], M, by simp, h2⟩) hf hx
theorem bool_val {a b : Bool} (h : a = b) : some (Value.bool a) = some (Value.bool b) := by rw [h]
end gif
section conv
variable {P : Program} {ops : Array Oper} {Q : Exit → Act → World → Prop} {nt : Sh} {w0 : World} {X : List Nat} {fr : Fr} {M : List Seg} {rest : List Oper}
variable {ty : TypeId} {pos : String} {af : Array Edge} {t u : TypeId} {x : Operand}
theorem freeze_push (h : Array Obj) (cs : Array Value) (e : TypeId) (f : Obj → Obj) : (h.push (.cells cs e)).modify h.size f = h.push (f (.cells cs e)) := by
  apply Array.ext
  · simp
  · intro i h1 h2
    simp only [Array.getElem_modify, Array.getElem_push]
    by_cases hi : h.size = i
    · subst hi; simp
    · have : i < h.size := by simp at h1; omega
      simp [hi, this]
/-- []byte(s) -/
theorem wl_bytes {d : Nat} {e : TypeId} {du : TypeDesc} {s : ByteArray} (hs1 : P.underlying t = some du) (hu : P.underlying u = some (.slice e)) (he : P.underlying e = some (.int .u8)) (hx : ev fr x = some (.string s)) (hm : s.size ≤ maxLen) (hd : Nat.blt d nt.n = true)
    (h : ∀ A c E, Buf e 1 A s.size c (bys s.data.toList) E → WX .seq P ops Q nt w0 X rest ((d, .slice A s.size c) :: fr) (E :: M)) :
    WX .seq P ops Q nt w0 X (⟨some d, .convert t u x, ty, pos, af, none⟩ :: rest) fr M :=
  wl_step rfl hd fun ac w hs hr => by
    have hge := grownCap_ge w s.size 0 e
    have hcm : grownCap w s.size 0 e ≤ maxLen := grownCap_le_maxLen w s.size 0 e hm
    have hsz : (Lib.bytesCells w e s).size = grownCap w s.size 0 e := by
      simp only [Lib.bytesCells, Array.size_append, Array.size_map, Array.size_replicate]
      show s.size + _ = _
      omega
    have hh : (Lib.bytesWorld w e s).heap = w.heap.push (.cells (Lib.bytesCells w e s) e ((Lib.bytesCells w e s).size, (Lib.bytesCells w e s).size + 1)) := by
      simp only [Lib.bytesWorld, World.freeze, World.alloc, World.drew]
      rw [freeze_push]
      simp
    refine ⟨.slice (some ⟨w.heap.size, 0, none⟩) s.size (grownCap w s.size 0 e), Lib.bytesWorld w e s, _, ?_, (hr.drew w.drew.drawn).new (.cells (Lib.bytesCells w e s) e ((Lib.bytesCells w e s).size, (Lib.bytesCells w e s).size + 1)) hh rfl rfl rfl, h _ _ _ ?_⟩
    · simp [execOp, hs.ev hx, Lib.run_convert_string_bytes w t u e s hs1 hu he]
    · refine ⟨by simp, .inr ⟨_, _, _, rfl, rfl, hge, hcm, by simpa using hsz, ?_, .inr (Nat.le_refl _)⟩⟩
      simp only [Lib.bytesCells, Array.toList_append, Array.toList_map, bys]
      rw [List.take_append_of_le_length (by simp), List.take_of_length_le (by simp)]
end conv
theorem wc_seg {P : Program} {Q : Exit → Act → World → Prop} {nt : Sh} {w0 : World} {X : List Nat} {c : Code} {fr : Fr} {M : List Seg} (h : WC P Q nt w0 X c fr ([] :: M)) : WC P Q nt w0 X c fr M := fun a w hs hr => h a w hs hr.addNil
/-! ### segments by their places -/
theorem pick_map (M : List Seg) : ∀ I, pick M I = I.map (fun i => M[i]?.getD [])
  | [] => rfl
  | i :: r => by simp [pick, pick_map M r]
theorem pick_all (M : List Seg) : pick M (List.range M.length) = M := by
  rw [pick_map]
  apply List.ext_getElem
  · simp
  · intro i h1 h2
    simp [h2]
def okIJ (n : Nat) (IJ : List Nat) : Bool := (List.range n).isPerm IJ
theorem okIJ_spec {n : Nat} {IJ : List Nat} (h : okIJ n IJ = true) : (List.range n).Perm IJ := List.isPerm_iff.1 h
theorem permP {M : List Seg} (I J : List Nat) (h : okIJ M.length (I ++ J) = true) : M.Perm (pick M I ++ pick M J) := by
  have h1 := (okIJ_spec h).map (fun i => M[i]?.getD [])
  rw [← pick_map, pick_all, List.map_append, ← pick_map, ← pick_map] at h1
  exact h1
section byPlace
variable {P : Program} {ops : Array Oper} {Q : Exit → Act → World → Prop} {nt : Sh} {w0 : World} {X : List Nat} {fr : Fr} {M : List Seg} {rest : List Oper}
variable {ty : TypeId} {pos : String} {af : Array Edge} {t u : TypeId} {x : Operand}
/-- a call by its contract: I the places of the segments that it is told of, J the others -/
theorem wl_callP (I J : List Nat) {d : Nat} {β : Type} {f : FuncId} {xs : List Operand} {tys : Array TypeId} {vs : List Value} {val : β → Value} {MM : β → List Seg} {φ : β → Prop} {M1 L : List Seg}
    (h1 : pick M I = M1) (h2 : pick M J = L) (hc : ∀ w, Res w0 X w (M1 ++ L) → Own w M1 → Calls P f vs.toArray w (Ret w (ids M1) val MM φ)) (hf : okFn P f = true) (hx : evs fr xs = some vs) (hM : okIJ M.length (I ++ J) = true) (hd : Nat.blt d nt.n = true)
    (h : ∀ x, φ x → WX .seq P ops Q nt w0 X rest ((d, val x) :: fr) (MM x ++ L)) :
    WX .seq P ops Q nt w0 X (⟨some d, .call ⟨.value (.func f), xs.toArray, tys⟩, ty, pos, af, none⟩ :: rest) fr M :=
  wl_call (fun w hr => hc w hr hr.own.left) hf hx (h1 ▸ h2 ▸ permP I J hM) hd h
theorem wx_pickP (I J : List Nat) (hM : okIJ M.length (I ++ J) = true) {M1 : List Seg} (h1 : pick M I = M1) (h : WX .seq P ops Q nt w0 X rest fr M1) : WX .seq P ops Q nt w0 X rest fr M := wx_sub (permP I J hM) (h1 ▸ h)
theorem wc_pickP (I J : List Nat) {c : Code} (hM : okIJ M.length (I ++ J) = true) {M1 : List Seg} (h1 : pick M I = M1) (h : WC P Q nt w0 X c fr M1) : WC P Q nt w0 X c fr M := wc_sub (permP I J hM) (h1 ▸ h)
theorem wq_pickP (I J : List Nat) {e : Exit} (hM : okIJ M.length (I ++ J) = true) {M1 : List Seg} (h1 : pick M I = M1) (h : WQ Q nt w0 X e fr M1) : WQ Q nt w0 X e fr M := wq_sub (permP I J hM) (h1 ▸ h)
theorem wx_mem {M' : List Seg} (e : M = M') (h : WX .seq P ops Q nt w0 X rest fr M') : WX .seq P ops Q nt w0 X rest fr M := e ▸ h
theorem wc_mem {c : Code} {M' : List Seg} (e : M = M') (h : WC P Q nt w0 X c fr M') : WC P Q nt w0 X c fr M := e ▸ h
end byPlace
theorem take_snocD {l : List UInt8} {i : Nat} (h : i < l.length) : l.take (i + 1) = l.take i ++ [l.getD i 0] := by
  rw [List.take_succ_eq_append_getElem h, List.getD_eq_getElem?_getD, List.getElem?_eq_getElem h]; rfl
end Go.Proofs.Ytknnkgoehkohaaa
