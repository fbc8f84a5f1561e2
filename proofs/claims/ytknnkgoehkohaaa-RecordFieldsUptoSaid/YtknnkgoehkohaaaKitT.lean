/- The seat's own logic: segments found by their form (type classes), frames and memory kept over loops and cuts. -/
import Derived.Test.YtknnkgoehkohaaaKitS
set_option linter.unusedVariables false
set_option linter.unusedSimpArgs false
namespace Go.Proofs.Ytknnkgoehkohaaa
open Go
/-! ### segments found -/
class Take (E : Seg) (M : List Seg) (R : outParam (List Seg)) : Prop where
  perm : M.Perm (E :: R)
instance (priority := 1100) takeHead {E : Seg} {M : List Seg} : Take E (E :: M) M := ⟨List.Perm.refl _⟩
instance takeTail {E F : Seg} {M R : List Seg} [h : Take E M R] : Take E (F :: M) (F :: R) := ⟨(h.perm.cons F).trans (List.Perm.swap E F R)⟩
class Takes (M1 M : List Seg) (L : outParam (List Seg)) : Prop where
  perm : M.Perm (M1 ++ L)
instance takesNil {M : List Seg} : Takes [] M M := ⟨by simp⟩
instance takesCons {E : Seg} {M1 M R L : List Seg} [h1 : Take E M R] [h2 : Takes M1 R L] : Takes (E :: M1) M L := ⟨h1.perm.trans (h2.perm.cons E)⟩
instance takesApp {A B M R L : List Seg} [h1 : Takes A M R] [h2 : Takes B R L] : Takes (A ++ B) M L := ⟨by
  rw [List.append_assoc]; exact h1.perm.trans (h2.perm.append_left A)⟩
class Cat {α : Type} (A B : List α) (C : outParam (List α)) : Prop where
  eq : A ++ B = C
instance catNil {α : Type} {B : List α} : Cat [] B B := ⟨rfl⟩
instance catCons {α : Type} {E : α} {A B C : List α} [h : Cat A B C] : Cat (E :: A) B (E :: C) := ⟨by rw [List.cons_append, h.eq]⟩
instance catApp {α : Type} {A B C D F : List α} [h1 : Cat A B F] [h2 : Cat F D C] : Cat (A ++ B) D C := ⟨by rw [h1.eq, h2.eq]⟩
theorem catEq {α : Type} {A B C : List α} [k : Cat A B C] : A ++ B = C := k.eq
class SetN {α : Type} (M : List α) (i : Nat) (E : α) (C : outParam (List α)) : Prop where
  eq : M.set i E = C
instance setZ {α : Type} {F E : α} {M : List α} : SetN (F :: M) 0 E (E :: M) := ⟨rfl⟩
instance setS {α : Type} {F E : α} {M C : List α} {i : Nat} [h : SetN M i E C] : SetN (F :: M) (i + 1) E (F :: C) := ⟨by rw [List.set_cons_succ, h.eq]⟩
class Has (E : Seg) (M : List Seg) : Prop where
  mem : E ∈ M
instance (priority := 1100) hasHead {E : Seg} {M : List Seg} : Has E (E :: M) := ⟨List.mem_cons_self⟩
instance hasTail {E F : Seg} {M : List Seg} [h : Has E M] : Has E (F :: M) := ⟨List.mem_cons_of_mem _ h.mem⟩
instance (priority := 900) hasApp {E : Seg} {M N : List Seg} [h : Has E M] : Has E (M ++ N) := ⟨List.mem_append.2 (.inl h.mem)⟩
instance (priority := 800) hasApp2 {E : Seg} {M N : List Seg} [h : Has E N] : Has E (M ++ N) := ⟨List.mem_append.2 (.inr h.mem)⟩
/-- the block of a number -/
class BlkIn (g : Nat) (M : List Seg) (o : outParam Obj) : Prop where
  mem : (g, o) ∈ M.flatten
instance (priority := 1100) blkHead {g : Nat} {o : Obj} {M : List Seg} : BlkIn g ([(g, o)] :: M) o := ⟨by simp⟩
instance blkTail {g : Nat} {F : Seg} {o : Obj} {M : List Seg} [h : BlkIn g M o] : BlkIn g (F :: M) o := ⟨by
  rw [List.flatten_cons]; exact List.mem_append.2 (.inr h.mem)⟩
theorem Has.idx {E : Seg} {M : List Seg} (h : Has E M) : ∃ i : Nat, M[i]? = some E := List.mem_iff_getElem?.1 h.mem
section reads
variable {w0 w : World} {X : List Nat} {M : List Seg}
theorem Buf.rdT {e sz n c : Nat} {A : Option Addr} {xs : List Value} {E : Seg} (h : Buf e sz A n c xs E) (hr : Res w0 X w M) [k : Has E M] : Rd w A xs := by
  obtain ⟨i, hi⟩ := k.idx
  exact h.rd hr hi
theorem Buf.vwT {e sz n c : Nat} {A : Option Addr} {xs : List Value} {E : Seg} (h : Buf e sz A n c xs E) (hr : Res w0 X w M) [k : Has E M] : Vw [] w A xs := (h.rdT hr).vw
/-- a slice of one's own that is not handed on, while the segments before it are -/
theorem Buf.vwO {e sz n c : Nat} {A : Option Addr} {xs : List Value} {E : Seg} (h : Buf e sz A n c xs E) {L : List Seg} (hr : Res w0 X w (M ++ L)) [k : Has E L] : Vw (ids M) w A xs := by
  obtain ⟨i, hi⟩ := k.idx
  exact h.vwR hr hi
theorem Buf.cellT {e sz n c g : Nat} {xs : List Value} {E : Seg} (h : Buf e sz (some ⟨g, 0, none⟩) n c xs E) {j : Nat} {v : Value} (hr : Res w0 X w M) [k : Has E M] (hj : xs[j]? = some v) : w.cell? ⟨g, j, none⟩ = some v := by
  obtain ⟨i, hi⟩ := k.idx
  exact h.cellAt hr hi hj
theorem Buf.byteT {e g n c : Nat} {l : List UInt8} {E : Seg} (h : Buf e 1 (some ⟨g, 0, none⟩) n c (bys l) E) {j : Nat} (hr : Res w0 X w M) [k : Has E M] (hj : j < l.length) : w.cell? ⟨g, j, none⟩ = some (.int .u8 (l.getD j 0).toNat) := by
  obtain ⟨i, hi⟩ := k.idx
  exact h.byteAt hr hi hj
theorem rdT {g o : Nat} {cs xs : List Value} {t : TypeId} {fz : Nat × Nat} (hr : Res w0 X w M) [k : BlkIn g M (.cells cs.toArray t fz)] (hx : ∃ ys zs, cs = ys ++ xs ++ zs ∧ ys.length = o) : Rd w (some ⟨g, o, none⟩) xs := by
  obtain ⟨E, hE, hp⟩ := List.mem_flatten.1 k.mem
  obtain ⟨i, hi⟩ := List.mem_iff_getElem?.1 hE
  obtain ⟨j, hj⟩ := List.mem_iff_getElem?.1 hp
  exact rd_blk hr hi hj hx
theorem BlkIn.cell {bk off : Nat} {v : Value} {cs : List Value} {et : TypeId} {fz : Nat × Nat} (k : BlkIn bk M (.cells cs.toArray et fz)) (hr : Res w0 X w M) (hc : cs[off]? = some v) : w.cell? ⟨bk, off, none⟩ = some v := by
  obtain ⟨E, hE, hp⟩ := List.mem_flatten.1 k.mem
  obtain ⟨i, hi⟩ := List.mem_iff_getElem?.1 hE
  obtain ⟨j, hj⟩ := List.mem_iff_getElem?.1 hp
  exact hr.cell hi hj (by simpa using hc)
end reads
section rules
variable {P : Program} {ops : Array Oper} {Q : Exit → Act → World → Prop} {nt : Sh} {w0 : World} {X : List Nat} {fr : Fr} {M : List Seg} {rest : List Oper}
variable {ty : TypeId} {pos : String} {af : Array Edge} {t u : TypeId} {x y : Operand}
/-- a call by its contract: the segments that it is told of are found -/
theorem wl_callT {d : Nat} {β : Type} {f : FuncId} {xs : List Operand} {tys : Array TypeId} {vs : List Value} {val : β → Value} {MM : β → List Seg} {φ : β → Prop} {M1 L : List Seg}
    (hc : ∀ w, Res w0 X w (M1 ++ L) → Own w M1 → Calls P f vs.toArray w (Ret w (ids M1) val MM φ)) [T : Takes M1 M L] (hf : okFn P f = true) (hx : evs fr xs = some vs) (hd : Nat.blt d nt.n = true)
    (h : ∀ x, φ x → WX .seq P ops Q nt w0 X rest ((d, val x) :: fr) (MM x ++ L)) :
    WX .seq P ops Q nt w0 X (⟨some d, .call ⟨.value (.func f), xs.toArray, tys⟩, ty, pos, af, none⟩ :: rest) fr M :=
  wl_call (fun w hr => hc w hr hr.own.left) hf hx T.perm hd h
/-- a call that hands back one known value and leaves the segments that it is told of -/
theorem vc_callT {dst : Option Nat} {gd : Option (Nat × Bool)} {f : FuncId} {xs : List Operand} {tys : Array TypeId} {vs : List Value} {v : Value} {M1 L : List Seg}
    (hc : ∀ w, Res w0 X w (M1 ++ L) → Own w M1 → Calls P f vs.toArray w (Ret (β := Unit) w (ids M1) (fun _ => v) (fun _ => M1) (fun _ => True))) [T : Takes M1 M L] (hf : okFn P f = true) (hx : evs fr xs = some vs) :
    VCall P nt w0 X fr M ⟨dst, .call ⟨.value (.func f), xs.toArray, tys⟩, ty, pos, af, gd⟩ v :=
  vc_call (fun w hr => (hc w (hr.perm T.perm) (hr.perm T.perm).own.left).mono fun e w' ⟨_, _, h1, h2⟩ => ⟨h1, M1, L, T.perm, h2⟩) hf hx
theorem wx_cat {A B C : List Seg} [k : Cat A B C] (h : WX .seq P ops Q nt w0 X rest fr C) : WX .seq P ops Q nt w0 X rest fr (A ++ B) := k.eq ▸ h
/-- just these segments are kept, in this order -/
theorem wx_only (M1 : List Seg) {L : List Seg} [T : Takes M1 M L] (h : WX .seq P ops Q nt w0 X rest fr M1) : WX .seq P ops Q nt w0 X rest fr M := wx_sub T.perm h
theorem wc_only (M1 : List Seg) {L : List Seg} {c : Code} [T : Takes M1 M L] (h : WC P Q nt w0 X c fr M1) : WC P Q nt w0 X c fr M := wc_sub T.perm h
theorem wq_only (M1 : List Seg) {L : List Seg} {e : Exit} [T : Takes M1 M L] (h : WQ Q nt w0 X e fr M1) : WQ Q nt w0 X e fr M := wq_sub T.perm h
/-- a segment told in another way -/
theorem wx_as (i : Nat) (E : Seg) (hi : M[i]? = some E) (h : WX .seq P ops Q nt w0 X rest fr (M.set i E)) : WX .seq P ops Q nt w0 X rest fr M := by
  have e : M.set i E = M := by
    obtain ⟨h1, rfl⟩ := List.getElem?_eq_some_iff.1 hi
    simp
  rwa [e] at h
theorem wc_as (i : Nat) (E : Seg) {c : Code} (hi : M[i]? = some E) (h : WC P Q nt w0 X c fr (M.set i E)) : WC P Q nt w0 X c fr M := by
  have e : M.set i E = M := by
    obtain ⟨h1, rfl⟩ := List.getElem?_eq_some_iff.1 hi
    simp
  rwa [e] at h
/-! ### slots kept -/
def sel (fr : Fr) : List Nat → Option Fr
  | [] => some []
  | k :: r => match look fr k, sel fr r with
    | some v, some l => some ((k, v) :: l)
    | _, _ => none
theorem sel_sub : ∀ {fr K : Fr} {ks : List Nat}, sel fr ks = some K → Sub K fr
  | fr, K, [], h => by simp [sel] at h; subst h; trivial
  | fr, K, k :: r, h => by
    simp only [sel] at h
    split at h
    · rename_i v l hv hl
      simp at h
      subst h
      exact ⟨hv, sel_sub hl⟩
    · simp at h
theorem sub_app : ∀ {A B fr : Fr}, Sub A fr → Sub B fr → Sub (A ++ B) fr
  | [], B, fr, h1, h2 => h2
  | (k, v) :: A, B, fr, h1, h2 => ⟨h1.1, sub_app h1.2 h2⟩
theorem wc_keep (ks : List Nat) {K : Fr} {c : Code} (hk : sel fr ks = some K) (h : WC P Q nt w0 X c K M) : WC P Q nt w0 X c fr M := wc_cast (sel_sub hk) rfl h
/-- A loop: the slots ks and the segments that it doesn't turn stay; F, MM tell of the others. -/
theorem wc_loopK {ι : Type} (ks : List Nat) {K : Fr} (F : ι → Fr) (MM : ι → List Seg) {L : List Seg} (ok : ι → Prop) (μ : ι → Nat) {c : Code} (i0 : ι) (hk : sel fr ks = some K) [T : Takes (MM i0) M L] (h0 : ok i0) (hF : Sub (F i0) fr)
    (round : ∀ i, ok i → WC P (Exit.then (LoopI nt w0 X (fun i => F i ++ K) (fun i => MM i ++ L) ok μ i) Q) nt w0 X c (F i ++ K) (MM i ++ L)) : WC P Q nt w0 X (.loop c) fr M :=
  wc_sub (L := []) (by simpa using T.perm) (wc_loop (fun i => F i ++ K) (fun i => MM i ++ L) ok μ i0 h0 (sub_app hF (sel_sub hk)) rfl round)
theorem wc_loopM {ι : Type} (M1 : List Seg) (ks : List Nat) {K : Fr} (F : ι → Fr) (MM : ι → List Seg) {L : List Seg} (ok : ι → Prop) (μ : ι → Nat) {c : Code} (i0 : ι) (hM : MM i0 = M1) (hk : sel fr ks = some K) [T : Takes M1 M L] (h0 : ok i0) (hF : Sub (F i0) fr)
    (round : ∀ i, ok i → WC P (Exit.then (LoopI nt w0 X (fun i => F i ++ K) (fun i => MM i ++ L) ok μ i) Q) nt w0 X c (F i ++ K) (MM i ++ L)) : WC P Q nt w0 X (.loop c) fr M := by
  subst hM
  exact wc_loopK ks F MM ok μ i0 hk h0 hF round
theorem wq_roundK {ι : Type} {F : ι → Fr} {MM : ι → List Seg} {ok : ι → Prop} {μ : ι → Nat} {i : ι} (j : ι) {M1 L' : List Seg} (h : ok j) (hμ : μ j < μ i) (hF : Sub (F j) fr) (hM : MM j = M1) [T : Takes M1 M L'] :
    WQ (Exit.then (LoopI nt w0 X F MM ok μ i) Q) nt w0 X .normal fr M := wq_sub T.perm (wq_round j h hμ hF hM.symm)
theorem res_takes {w : World} {Ms L : List Seg} [T : Takes Ms M L] (h : Res w0 X w M) : Res w0 X w Ms := (h.perm T.perm).drop
/-- what is behind a piece of code: the slots ks and the segments that it doesn't turn stay -/
theorem wc_meetK {ι : Type} (ks : List Nat) {K : Fr} (F : ι → Fr) (MM : ι → List Seg) {L : List Seg} (ok : ι → Prop) {M1 : List Seg} {p q : Code} (hk : sel fr ks = some K) [T : Takes M1 M L]
    (hx : WC P (Exit.then (CutI nt w0 X (fun i => F i ++ K) (fun i => MM i ++ L) ok) Q) nt w0 X p fr (M1 ++ L)) (hy : ∀ j, ok j → WC P Q nt w0 X q (F j ++ K) (MM j ++ L)) : WC P (Exit.then (q.wp P Q) Q) nt w0 X p fr M :=
  wc_sub (L := []) (by simpa using T.perm) (wc_meet (fun i => F i ++ K) (fun i => MM i ++ L) ok hx hy)
theorem wq_cutK {ι : Type} {F : ι → Fr} {MM : ι → List Seg} {ok : ι → Prop} (j : ι) {M1 L' : List Seg} (h : ok j) (hF : Sub (F j) fr) (hM : MM j = M1) [T : Takes M1 M L'] :
    WQ (Exit.then (CutI nt w0 X F MM ok) Q) nt w0 X .normal fr M := wq_sub T.perm (wq_cut j h hF hM.symm)
theorem wx_setn {N C : List Seg} {i : Nat} {E : Seg} [k : SetN N i E C] (h : WX .seq P ops Q nt w0 X rest fr C) : WX .seq P ops Q nt w0 X rest fr (N.set i E) := k.eq ▸ h
theorem wc_setn {N C : List Seg} {i : Nat} {E : Seg} {c : Code} [k : SetN N i E C] (h : WC P Q nt w0 X c fr C) : WC P Q nt w0 X c fr (N.set i E) := k.eq ▸ h
theorem wq_setn {N C : List Seg} {i : Nat} {E : Seg} {e : Exit} [k : SetN N i E C] (h : WQ Q nt w0 X e fr C) : WQ Q nt w0 X e fr (N.set i E) := k.eq ▸ h
theorem wq_cat {A B C : List Seg} {e : Exit} [k : Cat A B C] (h : WQ Q nt w0 X e fr C) : WQ Q nt w0 X e fr (A ++ B) := k.eq ▸ h
theorem wc_fcat {A B C : Fr} {c : Code} [k : Cat A B C] (h : WC P Q nt w0 X c C M) : WC P Q nt w0 X c (A ++ B) M := k.eq ▸ h
theorem wc_cat {A B C : List Seg} {c : Code} [k : Cat A B C] (h : WC P Q nt w0 X c fr C) : WC P Q nt w0 X c fr (A ++ B) := k.eq ▸ h
section rets
variable {β : Type} {fn : Func} {val : β → Value} {MM : β → List Seg} {φ : β → Prop}
theorem wq_ret0T [Z : Calm nt] (x : β) {L : List Seg} (hr : fn.results = #[]) (hv : Value.tuple #[] = val x) (hφ : φ x) [T : Takes (MM x) M L] : WQ (bodyPost P fn (Ret w0 X val MM φ)) nt w0 X .ret fr M := by
  refine wq_sub T.perm fun a w hs hres => ?_
  refine bodyPost_ret (v := .tuple #[]) ?_ (hs.calm.trans Z.eq) ⟨x, hφ, by rw [hv], hres⟩
  simp [Go.results, hr]
theorem wq_ret1T [Z : Calm nt] (x : β) {L : List Seg} {t : Nat} (hr : fn.results = #[.tmp t]) (hv : look fr t = some (val x)) (hφ : φ x) {M1 : List Seg} (hM : MM x = M1) [T : Takes M1 M L] : WQ (bodyPost P fn (Ret w0 X val MM φ)) nt w0 X .ret fr M :=
  wq_sub T.perm (wq_ret1 x hr hv hφ hM.symm)
theorem wq_ret2T [Z : Calm nt] (x : β) {L : List Seg} {t1 t2 : Nat} {v1 v2 : Value} (hr : fn.results = #[.tmp t1, .tmp t2]) (h1 : look fr t1 = some v1) (h2 : look fr t2 = some v2) (hv : val x = .tuple #[v1, v2]) (hφ : φ x) {M1 : List Seg} (hM : MM x = M1) [T : Takes M1 M L] : WQ (bodyPost P fn (Ret w0 X val MM φ)) nt w0 X .ret fr M :=
  wq_sub T.perm (wq_ret2 x hr h1 h2 hv hφ hM.symm)
theorem wq_ret3T [Z : Calm nt] (x : β) {L : List Seg} {t1 t2 t3 : Nat} {v1 v2 v3 : Value} (hr : fn.results = #[.tmp t1, .tmp t2, .tmp t3]) (h1 : look fr t1 = some v1) (h2 : look fr t2 = some v2) (h3 : look fr t3 = some v3) (hv : val x = .tuple #[v1, v2, v3]) (hφ : φ x) {M1 : List Seg} (hM : MM x = M1) [T : Takes M1 M L] : WQ (bodyPost P fn (Ret w0 X val MM φ)) nt w0 X .ret fr M :=
  wq_sub T.perm (wq_ret3 x hr h1 h2 h3 hv hφ hM.symm)
end rets
end rules
/-! ### loads -/
section loads
variable {P : Program} {nt : Sh} {w0 : World} {X : List Nat} {fr : Fr} {M : List Seg}
variable {dst : Option Nat} {ty : TypeId} {pos : String} {af : Array Edge} {gd : Option (Nat × Bool)} {t : TypeId} {x : Operand}
theorem v_ldT {du : TypeDesc} {bk off : Nat} {v : Value} {cs : List Value} {et : TypeId} {fz : Nat × Nat} (hu : P.underlying t = some du) (hp : plainT du = true) (hx : ev fr x = some (.pointer (some ⟨bk, off, none⟩)))
    [k : BlkIn bk M (.cells cs.toArray et fz)] (hc : cs[off]? = some v) : Val P nt w0 X fr M ⟨dst, .load t x, ty, pos, af, gd⟩ v :=
  v_load hu hp hx fun w hr => k.cell hr hc
theorem v_ldAT {bk : Nat} {cs : List Value} {et : TypeId} {fz : Nat × Nat} (hx : ev fr x = some (.pointer (some ⟨bk, 0, none⟩))) [k : BlkIn bk M (.cells cs.toArray et fz)] (hn : aggN P t = some cs.length) :
    Val P nt w0 X fr M ⟨dst, .load t x, ty, pos, af, gd⟩ (.agg cs.toArray) :=
  v_loadA hn hx fun w hr j v hj => by rw [Nat.zero_add]; exact k.cell hr hj
theorem v_iaddrE {e sz bk off n c : Nat} {A : Option Addr} {y : Operand} {k : IntKind} {a : Int} (hA : A = some ⟨bk, off, none⟩) (he : elemT P t = some (e, sz)) (hx : ev fr x = some (.slice A n c)) (hy : ev fr y = some (.int k a)) (h : 0 ≤ a ∧ a < n) :
    Val P nt w0 X fr M ⟨dst, .indexAddr t x y, ty, pos, af, gd⟩ (.pointer (some ⟨bk, off + a.toNat * sz, none⟩)) := by
  subst hA
  exact v_iaddr he hx hy h
end loads
/-! ### what turns one's own memory -/
class BlkAt (g : Nat) (M : List Seg) (o : outParam Obj) (i : outParam Nat) : Prop where
  at_ : M[i]? = some [(g, o)]
instance (priority := 1100) atHead {g : Nat} {o : Obj} {M : List Seg} : BlkAt g ([(g, o)] :: M) o 0 := ⟨rfl⟩
instance atTail {g : Nat} {F : Seg} {o : Obj} {M : List Seg} {i : Nat} [h : BlkAt g M o i] : BlkAt g (F :: M) o (i + 1) := ⟨by simpa using h.at_⟩
section turns
variable {P : Program} {ops : Array Oper} {Q : Exit → Act → World → Prop} {nt : Sh} {w0 : World} {X : List Nat} {fr : Fr} {M : List Seg} {rest : List Oper}
variable {ty : TypeId} {pos : String} {af : Array Edge} {t u : TypeId} {x y : Operand}
theorem wl_storeT {g off i : Nat} {cs : List Value} {et : TypeId} {fz : Nat × Nat} {v : Value} (ht : oneT P t = true) (hx : ev fr x = some (.pointer (some ⟨g, off, none⟩))) (hy : ev fr y = some v) [k : BlkAt g M (.cells cs.toArray et fz) i]
    (hl : Nat.blt off cs.length = true) (hz : okF fz cs.length) (h1 : v.oneCell' = true) (h : WX .seq P ops Q nt w0 X rest fr (M.set i [(g, .cells (cs.set off v).toArray et fz)])) :
    WX .seq P ops Q nt w0 X (⟨none, .store t x y, ty, pos, af, none⟩ :: rest) fr M := wl_store i ht hx hy k.at_ (by simpa using hl) hz h1 h
theorem wl_stAT {g i : Nat} {cs : List Value} {et : TypeId} {fz : Nat × Nat} {vs : List Value} (hx : ev fr x = some (.pointer (some ⟨g, 0, none⟩))) (hy : ev fr y = some (.agg vs.toArray)) [k : BlkAt g M (.cells cs.toArray et fz) i] (hn : aggN P t = some vs.length)
    (hl : Nat.beq vs.length cs.length = true) (hz : okF fz cs.length) (h1 : vs.all Value.oneCell' = true) (h : WX .seq P ops Q nt w0 X rest fr (M.set i [(g, .cells vs.toArray et fz)])) :
    WX .seq P ops Q nt w0 X (⟨none, .store t x y, ty, pos, af, none⟩ :: rest) fr M := wl_stA i hn hx hy k.at_ hl hz h1 h
theorem wl_appT {d : Nat} {tx e sz bytes n c m : Nat} {A : Option Addr} {xs news : List Value} {E : Seg} {R : List Seg} {src : Value} (hT : appT P t = some (e, sz, bytes)) (hb : Buf e sz A n c xs E) [T : Take E M R]
    (hx : ev fr x = some (.slice A n c)) (hy : ev fr y = some src) (hs : ∀ w, Res w0 X w M → Src P sz tx src m news w) (hbytes : (n + m) * bytes ≤ 140737488355328) (hd : Nat.blt d nt.n = true)
    (h : ∀ A' c' E', Buf e sz A' (n + m) c' (xs ++ news) E' → WX .seq P ops Q nt w0 X rest ((d, .slice A' (n + m) c') :: fr) (E' :: R)) :
    WX .seq P ops Q nt w0 X (⟨some d, .call ⟨.builtin .append, #[x, y], #[t, tx]⟩, ty, pos, af, none⟩ :: rest) fr M :=
  wx_sub (M1 := E :: R) (L := []) (by simpa using T.perm) (wl_append 0 hT rfl hb hx hy (fun w hr => hs w (hr.perm T.perm.symm)) hbytes hd h)
/-- append of a literal of one element, whose block lies in front -/
theorem wl_app1T {d : Nat} {e sz bytes n c g et : Nat} {fz : Nat × Nat} {A : Option Addr} {xs news : List Value} {E : Seg} {M1 R : List Seg} (hT : appT P t = some (e, sz, bytes)) (hb : Buf e sz A n c xs E) [T : Take E M1 R]
    (hx : ev fr x = some (.slice A n c)) (hy : ev fr y = some (.slice (some ⟨g, 0, none⟩) 1 1)) (hl : news.length = sz) (h1 : news.all Value.oneCell' = true) (hbytes : (n + 1) * bytes ≤ 140737488355328) (hd : Nat.blt d nt.n = true)
    (h : ∀ A' c' E', Buf e sz A' (n + 1) c' (xs ++ news) E' → WX .seq P ops Q nt w0 X rest ((d, .slice A' (n + 1) c') :: fr) (E' :: R)) :
    WX .seq P ops Q nt w0 X (⟨some d, .call ⟨.builtin .append, #[x, y], #[t, t]⟩, ty, pos, af, none⟩ :: rest) fr ([(g, .cells news.toArray et fz)] :: M1) :=
  wx_sub (M1 := [(g, .cells news.toArray et fz)] :: E :: R) (L := []) (by simpa using T.perm) (wl_append1 0 rfl hT rfl hb hx hy hl (fun v hv => List.all_eq_true.1 h1 v hv) hbytes hd h)
/-- a store into a cell of a slice of one's own -/
theorem wl_bsetT (j : Nat) {e sz n c g off : Nat} {A : Option Addr} {xs : List Value} {E : Seg} {R : List Seg} {v : Value} (hA : A = some ⟨g, 0, none⟩) (hb : Buf e sz A n c xs E) [T : Take E M R] (ht : oneT P t = true) (hx : ev fr x = some (.pointer (some ⟨g, off, none⟩))) (hoff : off = j) (hj : j < n * sz)
    (hy : ev fr y = some v) (h1 : v.oneCell' = true) (h : ∀ E', Buf e sz A n c (xs.set j v) E' → WX .seq P ops Q nt w0 X rest fr (E' :: R)) :
    WX .seq P ops Q nt w0 X (⟨none, .store t x y, ty, pos, af, none⟩ :: rest) fr M :=
  wx_sub (M1 := E :: R) (L := []) (by simpa using T.perm) (wl_bset 0 j ht rfl hb hx hA hoff hj hy h1 h)
/-- a struct stored into an element of a list of one's own -/
theorem wl_setAT (i : Nat) {α : Type} {f : α → List Value} {k : Nat} (v : α) (hf : ∀ a, (f a).length = k) {e n c g off : Nat} {A : Option Addr} {xs : List α} {E : Seg} {R : List Seg} (hA : A = some ⟨g, 0, none⟩) (hb : Buf e k A n c (xs.flatMap f) E) [T : Take E M R] (hn : aggN P t = some (f v).length) (hx : ev fr x = some (.pointer (some ⟨g, off, none⟩))) (ho : off = i * k) (hy : ev fr y = some (.agg (f v).toArray))
    (hl : n = xs.length) (hi : i < xs.length) (h1 : (f v).all Value.oneCell' = true)
    (h : ∀ E', Buf e k A n c ((xs.set i v).flatMap f) E' → WX .seq P ops Q nt w0 X rest fr (E' :: R)) :
    WX .seq P ops Q nt w0 X (⟨none, .store t x y, ty, pos, af, none⟩ :: rest) fr M := by
  subst hA
  exact wx_sub (M1 := E :: R) (L := []) (by simpa using T.perm) (wl_setA 0 i v hf hn hx ho hy rfl hb hl hi h1 h)
theorem wl_boxA {d : Nat} {e : TypeId} {l : List Value} (hx : ev fr x = some (.agg l.toArray)) (hd : Nat.blt d nt.n = true) (h : ∀ g, WX .seq P ops Q nt w0 X rest ((d, .pointer (some ⟨g, 0, none⟩)) :: fr) ([(g, .cells l.toArray e (0, 0))] :: M)) :
    WX .seq P ops Q nt w0 X (⟨some d, .box e x, ty, pos, af, none⟩ :: rest) fr M := wl_box hx hd h
theorem _root_.Go.Proofs.Ytknnkgoehkohaaa.Buf.none0 {e sz n c : Nat} {A : Option Addr} {xs : List Value} {E : Seg} (h : Buf e sz A n c xs E) (hA : A = none) : n = 0 := by
  subst hA
  rcases h.2 with ⟨_, h1, _, _⟩ | ⟨g, cur, fz, h1, _⟩
  · simp_all
  · cases h1
/-- a literal, its block told as a list of one's own -/
theorem wl_litB {d : Nat} {len : Nat} {e sz bytes : Nat} {ps : List (Nat × Operand)} {pv : List (Nat × Value)} {vs : List Value} (hT : appT P t = some (e, sz, bytes)) (hp : parts fr ps = some pv) (hv : inRow 0 pv = some vs) (hlen : vs.length = len) (hz : vs.all (fun v => Nat.beq (cellsL v).length sz) = true) (h24 : len * sz ≤ 16777216) (hd : Nat.blt d nt.n = true)
    (h : ∀ g E, Buf e sz (some ⟨g, 0, none⟩) len len (catL vs) E → WX .seq P ops Q nt w0 X rest ((d, .slice (some ⟨g, 0, none⟩) len len) :: fr) (E :: M)) :
    WX .seq P ops Q nt w0 X (⟨some d, .buildSlice t len ps.toArray, ty, pos, af, none⟩ :: rest) fr M := by
  refine wl_lit hT hp hv hlen hz h24 hd fun g => h g _ (Buf.full _ ?_ ?_)
  · subst hlen
    have : ∀ l : List Value, l.all (fun v => Nat.beq (cellsL v).length sz) = true → (catL l).length = l.length * sz := fun l => by
      induction l with
      | nil => intro _; simp [catL]
      | cons x r ih =>
        intro h
        simp only [List.all_cons, Bool.and_eq_true] at h
        simp only [catL, List.length_append, List.length_cons, ih h.2, Nat.eq_of_beq_eq_true h.1, Nat.add_mul, Nat.one_mul]
        omega
    exact this _ hz
  · obtain ⟨_, _, _, _, _, _, _, _, h6, _⟩ := appT_spec hT
    have : len ≤ len * sz := Nat.le_mul_of_pos_right _ h6
    simp only [maxLen]; omega
theorem wl_lit0 {d : Nat} {e sz bytes : Nat} (hT : appT P t = some (e, sz, bytes)) (hd : Nat.blt d nt.n = true)
    (h : ∀ g E, Buf e sz (some ⟨g, 0, none⟩) 0 0 [] E → WX .seq P ops Q nt w0 X rest ((d, .slice (some ⟨g, 0, none⟩) 0 0) :: fr) (E :: M)) :
    WX .seq P ops Q nt w0 X (⟨some d, .buildSlice t 0 #[], ty, pos, af, none⟩ :: rest) fr M :=
  wl_litB (ps := []) (pv := []) (vs := []) hT rfl rfl rfl rfl (by simp) hd h
/-- bytes made -/
theorem wl_makeBys {d : Nat} {kl kc : IntKind} {e bytes : Nat} {L C : Int} (n : Nat) (hT : appT P t = some (e, 1, bytes)) (hz : zeroV P e = some (.int .u8 0)) (hx : ev fr x = some (.int kl L)) (hy : ev fr y = some (.int kc C)) (hL : L = n) (hC : C = n) (hb : bytes * n ≤ 281474976710656) (hd : Nat.blt d nt.n = true)
    (h : ∀ g E, Buf e 1 (some ⟨g, 0, none⟩) n n (bys (List.replicate n 0)) E → WX .seq P ops Q nt w0 X rest ((d, .slice (some ⟨g, 0, none⟩) n n) :: fr) (E :: M)) :
    WX .seq P ops Q nt w0 X (⟨some d, .makeSlice t x y, ty, pos, af, none⟩ :: rest) fr M := by
  subst hL; subst hC
  obtain ⟨_, _, _, _, _, _, _, _, _, h7⟩ := appT_spec hT
  have hn : n ≤ bytes * n := Nat.le_mul_of_pos_left _ h7
  refine wl_make hT hz hx hy (by omega) (by omega) (by rw [← Int.natCast_mul]; omega) hd fun g => ?_
  rw [madeCells_one rfl]
  simp only [Int.toNat_natCast, Nat.mul_one]
  refine h g _ ?_
  have e0 : List.replicate n (Value.int .u8 0) = bys (List.replicate n 0) := by simp [bys]
  rw [e0]
  exact Buf.full _ (by simp) (by simp only [maxLen]; omega)
end turns
/-- a cell of an element of a list of one's own, where the place is told apart -/
theorem Buf.elemT {α : Type} {f : α → List Value} {k : Nat} {A : Option Addr} {e n c g : Nat} {xs : List α} {E : Seg} (hb : Buf e k A n c (xs.flatMap f) E) (hA : A = some ⟨g, 0, none⟩) (hk : 0 < k) (hf : ∀ a, (f a).length = k) {i : Nat} {a : α} (hi : xs[i]? = some a)
    {w0 w : World} {X : List Nat} {M : List Seg} (hr : Res w0 X w M) [h : Has E M] {j : Nat} {v : Value} (hj : (f a)[j]? = some v) {o : Nat} (ho : o = 0 + i * k + j) : w.cell? ⟨g, o, none⟩ = some v := by
  subst hA
  subst ho
  obtain ⟨m, hm⟩ := h.idx
  exact hb.elem hk hf hi hr hm hj
theorem v_elemT {P : Program} {nt : Sh} {fr : Fr} {dst : Option Nat} {t ty : TypeId} {pos : String} {af : Array Edge} {gd : Option (Nat × Bool)} {x : Operand} {α : Type} {f : α → List Value} {k : Nat} {A : Option Addr} {e n c g off : Nat} {xs : List α} {E : Seg} {w0 : World} {X : List Nat} {M : List Seg} (hA : A = some ⟨g, 0, none⟩) (hb : Buf e k A n c (xs.flatMap f) E) [h : Has E M] (hk : 0 < k) (hf : ∀ a, (f a).length = k) {i : Nat} {a : α} (hi : xs[i]? = some a)
    (hx : ev fr x = some (.pointer (some ⟨g, off, none⟩))) (ho : off = 0 + i * k) (hn : aggN P t = some (f a).length) : Val P nt w0 X fr M ⟨dst, .load t x, ty, pos, af, gd⟩ (.agg (f a).toArray) :=
  v_loadA hn hx fun w hr j v hj => hb.elemT hA hk hf hi hr hj (by rw [ho])
theorem Buf.byteE {e g n c : Nat} {A : Option Addr} {l : List UInt8} {E : Seg} (h : Buf e 1 A n c (bys l) E) (hA : A = some ⟨g, 0, none⟩) {j : Nat} {w0 w : World} {X : List Nat} {M : List Seg} (hr : Res w0 X w M) [k : Has E M] (hj : j < l.length) {o : Nat} (ho : o = j) : w.cell? ⟨g, o, none⟩ = some (.int .u8 (l.getD j 0).toNat) := by
  subst hA
  subst ho
  exact h.byteT hr hj
theorem Vw.at2 {X : List Nat} {w0 : World} {A : Option Addr} {l : List UInt8} (h : Vw X w0 A (bys l)) (hl : 0 < l.length) :
    ∃ g o, A = some ⟨g, o, none⟩ ∧ ∀ (j : Nat) (w : World) (M : List Seg), Res w0 X w M → j < l.length → w.cell? ⟨g, o + j, none⟩ = some (.int .u8 (l.getD j 0).toNat) := by
  obtain ⟨g, o, e, hc⟩ := h.atB hl
  exact ⟨g, o, e, fun j w M hr hj => hc j w M hj hr⟩
theorem Vw.at3 {X : List Nat} {w0 : World} {A : Option Addr} {l : List UInt8} (h : Vw X w0 A (bys l)) (hl : 0 < l.length) :
    ∃ g o, A = some ⟨g, o, none⟩ ∧ ∀ (j : Nat) {w : World} {M : List Seg}, Res w0 X w M → j < l.length → ∀ {off : Nat}, off = o + j → w.cell? ⟨g, off, none⟩ = some (.int .u8 (l.getD j 0).toNat) := by
  obtain ⟨g, o, e, hc⟩ := h.atB hl
  exact ⟨g, o, e, fun j w M hr hj off ho => ho ▸ hc j w M hj hr⟩
end Go.Proofs.Ytknnkgoehkohaaa
