/- The spans law's anchor; what a tree's height may be. -/
import Derived.Test.YtjeghbachokljaaSpQ
set_option linter.unusedVariables false
set_option linter.unusedSimpArgs false
namespace Go.Proofs.Ytjeghbachokljaa
open Go
set_option maxRecDepth 20000
set_option maxHeartbeats 2000000
attribute [local irreducible] WX WC WQ Val VCall WY WR
theorem Vw.atF {α : Type} {f : α → List Value} {k : Nat} (hf : ∀ a, (f a).length = k) (hk : 0 < k) {X : List Nat} {w0 : World} {A : Option Addr} {l : List α} (h : Vw X w0 A (l.flatMap f)) (hl : 0 < l.length) :
    ∃ g o, A = some ⟨g, o, none⟩ ∧ ∀ (i : Nat) (a : α) (p : Nat) (v : Value), l[i]? = some a → (f a)[p]? = some v → ∀ {w : World} {M : List Seg}, Res w0 X w M → ∀ {off : Nat}, off = o + i * k + p → w.cell? ⟨g, off, none⟩ = some v := by
  have hlen : (l.flatMap f).length = l.length * k := by
    clear h hl
    induction l with
    | nil => simp
    | cons a r ih => rw [List.flatMap_cons, List.length_append, hf, ih, List.length_cons, Nat.succ_mul, Nat.add_comm]
  have h0 : 0 < (l.flatMap f).length := by rw [hlen]; exact Nat.mul_pos hl hk
  obtain ⟨g, o, e, hc⟩ := h.at h0
  refine ⟨g, o, e, fun i a p v hi hp w M hr off ho => ?_⟩
  have hpk : p < k := by
    have := (List.getElem?_eq_some_iff.1 hp).1
    rwa [hf] at this
  have hg : (l.flatMap f)[i * k + p]? = some v := by
    rw [flat_get f hk hf, Nat.mul_comm, Nat.mul_add_div hk, Nat.div_eq_of_lt hpk, Nat.add_zero, hi, Nat.mul_add_mod, Nat.mod_eq_of_lt hpk]
    exact hp
  obtain ⟨hj, he⟩ := List.getElem?_eq_some_iff.1 hg
  rw [ho, Nat.add_assoc, hc _ w M hj hr, he]
theorem hh_zero {t : Tr} (h : Avl t) (hs : t.size = 0) : t.hh = 0 := by
  have := h.pos
  omega
theorem hh_one {t : Tr} (h : Avl t) (hs : t.size = 1) : t.hh = 1 := by
  cases t with
  | nil => exact absurd hs (by decide)
  | node i l s r hh f =>
    obtain ⟨h1, h2, h3, h4, h5⟩ := h
    have e : l.size + r.size + 1 = 1 := hs
    rw [hh_node, h3, hh_zero h1 (by omega), hh_zero h2 (by omega)]
    rfl
theorem insN_one {k : ByteArray} {s : Sp} (h : insCode k s false = 0) : insN k s [] = [(k, s)] := by
  unfold insN
  rw [if_pos (show insCode k s (hasA (k, s) []) = 0 from h)]
  rfl
theorem ofK_one (k : ByteArray) (s : Sp) : ofK k [(k, s)] = [s] := by
  rw [ofK_cons, if_pos rfl]
  rfl
section
variable {m : Nat} {A : Ks} {q : Fo} {g : Nat}
theorem FoOk.h1 (h : FoOk m A q) (k : ByteArray) (h1 : (ofK k A).length = 1) : (q.T k).hh = 1 := hh_one (h.avl k) (by rw [h.size]; exact h1)
theorem FoOk.h0 (h : FoOk m A q) (k : ByteArray) (h1 : (ofK k A).length = 0) : (q.T k).hh = 0 := hh_zero (h.avl k) (by rw [h.size]; exact h1)
end
def kA : ByteArray := ByteArray.mk #[97]
def s25 : Sp := ⟨2, 5, 0⟩
theorem anchor_spec (w : World) : Calls Try.prog 10 #[] w (Ret (β := Unit) w (ids []) (fun _ => .bool true) (fun _ => []) (fun _ => True)) := by
  refine go [] [] Try.func10 Try.ntmps10 rfl rfl (own_nil w) ?_
  repeat (first | (apply wx_val; (first | exact v_assign rfl); rfl) | refine wc_seq ?_ | refine wc_region ?_ | refine wx_nil ?_ | refine wq_next ?_)
  refine wl_callT (M1 := []) (fun w' hr ho => New_law w') rfl rfl rfl ?_
  rintro ⟨g, q⟩ hq
  dsimp only at hq ⊢
  repeat (first | (apply wx_val; (first | exact v_move rfl | exact v_assign rfl | exact v_eqnil rfl rfl rfl); rfl) | refine wc_seq ?_ | refine wc_region ?_ | refine wx_nil ?_ | refine wq_next ?_ | refine wc_skip ?_ | refine wc_cat ?_ | refine wc_condF rfl ?_)
  (try refine wx_ungd rfl rfl ?_)
  apply wx_val
  exact v_build (cs := ((Sp.cells s25)).toArray) rfl (by kernel_rfl)
  rfl
  skip
  refine wl_callT (fun w' hr ho => Insert_law (g := g) kA s25 hq (by decide) w' ho) rfl rfl rfl ?_
  intro q1 h1
  have e1 : insCode kA s25 (hasA (kA, s25) []) = 0 := by decide
  rw [insN_one e1] at *
  rw [e1]
  repeat (first | (apply wx_val; (first | exact v_move rfl | exact v_ne rfl rfl); rfl) | refine wc_seq ?_ | refine wc_region ?_ | refine wx_nil ?_ | refine wq_next ?_ | refine wc_skip ?_ | refine wc_cat ?_ | refine wc_condF rfl ?_)
  refine wl_callT (fun w' hr ho => First_law (g := g) kA 4 9 h1 (by decide) w' ho) rfl rfl rfl ?_
  rintro - -
  have e2 : firstS (ovK kA 4 9 [(kA, s25)]) = some s25 := by
    unfold ovK
    rw [ofK_one]
    decide
  rw [e2]
  dsimp only [Option.getD_some, Option.isSome_some]
  have hc := fun w' ho => Count_law (g := g) h1 w' ho
  have hh := fun w' ho => Height_law (g := g) kA h1 w' ho
  rw [h1.h1 kA (by rw [ofK_one]; rfl)] at hh
  repeat (first | (apply wx_val; (first | exact v_move rfl | exact v_extract rfl rfl); rfl) | refine wx_cat ?_)
  refine wl_alloc rfl rfl (fun g2 => ?_)
  repeat (first | (apply wx_val; (first | exact v_move rfl | exact v_assign rfl | exact v_faddr rfl rfl | exact v_ldT rfl rfl rfl (by rfl) | exact v_eq rfl rfl | exact v_pickT rfl rfl); rfl) | refine wx_ungd rfl rfl ?_ | refine wc_seq ?_ | refine wc_region ?_ | refine wx_nil ?_ | refine wq_next ?_ | refine wx_setn ?_ | refine wl_stAT rfl rfl (by rfl) (by rfl) (by exact .inl (Nat.le_refl _)) rfl ?_)
  (try refine wx_ungd rfl rfl ?_)
  refine wx_vcall (vc_callT (fun w' hr ho => hc w' ho) rfl rfl) rfl ?_
  repeat (first | (apply wx_val; (first | exact v_move rfl | exact v_eq rfl rfl | exact v_pickT rfl rfl); rfl) | refine wx_ungd rfl rfl ?_)
  (try refine wx_ungd rfl rfl ?_)
  refine wx_vcall (vc_callT (fun w' hr ho => hh w' ho) rfl rfl) rfl ?_
  repeat (first | (apply wx_val; (first | exact v_assign rfl | exact v_eq rfl rfl | exact v_pickT rfl rfl); rfl) | refine wx_ungd rfl rfl ?_ | refine wx_nil ?_ | refine wq_next ?_ | refine wc_ret ?_)
  exact wq_ret1T () rfl rfl trivial rfl
theorem fibA_le {a b : Nat} (h : a ≤ b) : fibA a ≤ fibA b := by
  induction b with
  | zero => rw [show a = 0 by omega]; exact Nat.le_refl _
  | succ b ih =>
    by_cases e : a = b + 1
    · rw [e]; exact Nat.le_refl _
    · exact Nat.le_trans (ih (by omega)) (fibA_mono b)
def fibP : Nat → Nat × Nat
  | 0 => (0, 1)
  | n + 1 => ((fibP n).2, (fibP n).1 + (fibP n).2 + 1)
theorem fibP_eq : ∀ n, fibP n = (fibA n, fibA (n + 1))
  | 0 => rfl
  | n + 1 => by rw [fibP, fibP_eq n]; rfl
theorem fibA_61 : 1099511627776 < fibA 61 := by
  have : fibA 61 = (fibP 61).1 := by rw [fibP_eq]
  rw [this]
  decide +kernel
theorem shl1 {h : Nat} (hh : h ≤ 60) : shlI .i64 1 (h : Nat) = ((2 ^ h : Nat) : Int) := by
  have h1 : 2 ^ h ≤ 2 ^ 60 := Nat.pow_le_pow_right (by decide) hh
  have e : min ((h : Nat) : Int).toNat IntKind.i64.bits = h := by
    have : IntKind.i64.bits = 64 := rfl
    omega
  unfold shlI
  have e2 : ((2 : Int) ^ h) = ((2 ^ h : Nat) : Int) := by simp
  rw [e, Int.one_mul, e2]
  generalize 2 ^ h = x at *
  rw [wrap_in (by omega)]
theorem High_spec (n h : Nat) (hn : n ≤ 1099511627776) (h1 : fibA h ≤ n) (h2 : n < 2 ^ h) (w : World) : Calls Try.prog 15 #[.int .i64 (n : Nat), .int .i64 (h : Nat)] w (Ret (β := Unit) w (ids []) (fun _ => .bool true) (fun _ => []) (fun _ => True)) := by
  refine go [.int .i64 (n : Nat), .int .i64 (h : Nat)] [] Try.func15 Try.ntmps15 rfl rfl (own_nil w) ?_
  have hh : h ≤ 60 := by
    refine Decidable.byContradiction fun hc => ?_
    have e1 := fibA_le (show 61 ≤ h by omega)
    have e2 := fibA_61
    omega
  by_cases h0 : n = 0
  · have hz : h = 0 := by
      cases h with
      | zero => rfl
      | succ x =>
        have := fibA_le (show 1 ≤ x + 1 by omega)
        have e : fibA 1 = 1 := rfl
        omega
    subst h0 hz
    repeat (first | (apply wx_val; (first | exact v_move rfl | exact v_assign rfl | exact v_eq rfl rfl | exact v_pickT rfl rfl); rfl) | refine wx_no rfl rfl rfl ?_ | refine wx_ungd rfl rfl ?_ | refine wc_seq ?_ | refine wc_region ?_ | refine wx_nil ?_ | refine wq_next ?_ | refine wc_ret ?_ | refine wq_then_ret ?_ | refine wc_condT rfl ?_)
    exact wq_ret1T () rfl rfl trivial rfl
  have hp : 1 ≤ h := by
    cases h with
    | zero => omega
    | succ x => omega
  repeat (first | (apply wx_val; (first | exact v_move rfl | exact v_assign rfl | exact v_eq rfl rfl); rfl) | refine wc_seq ?_ | refine wc_region ?_ | refine wx_nil ?_ | refine wq_next ?_)
  refine wx_gset false rfl rfl (decide_eq_false (by omega)) ?_
  repeat (first | (apply wx_val; (first | exact v_move rfl | exact v_lt rfl rfl | exact v_pickF rfl rfl); rfl) | refine wx_ungd rfl rfl ?_)
  refine wx_gset false rfl rfl (decide_eq_false (by omega)) ?_
  repeat (first | (apply wx_val; (first | exact v_move rfl | exact v_gt rfl rfl | exact v_pickF rfl rfl); rfl) | refine wx_ungd rfl rfl ?_ | refine wx_nil ?_ | refine wq_next ?_)
  refine wc_not rfl (decide_eq_false (by omega)) ?_
  repeat (first | (apply wx_val; (first | exact v_move rfl | exact v_ge rfl rfl | exact v_shl rfl rfl (by omega)); rfl) | refine wc_seq ?_ | refine wc_region ?_ | refine wx_nil ?_ | refine wq_next ?_ | refine wc_skip ?_)
  refine wc_not rfl (decide_eq_false (by rw [shl1 hh]; omega)) ?_
  repeat (first | (apply wx_val; (first | exact v_assign rfl); rfl) | refine wc_seq ?_ | refine wc_region ?_ | refine wx_nil ?_ | refine wq_next ?_ | refine wc_block ?_ | refine wc_skip ?_)
  refine wc_loopK (ι := Nat) [0, 1] (fun i => [(7, .int .i64 (i + 1 : Nat)), (5, .int .i64 (fibA i : Nat)), (6, .int .i64 (fibA (i + 1) : Nat))]) (fun i => []) (fun i => i + 1 ≤ h) (fun i => h - i) (0) rfl ?_ (by repeat (first | exact trivial | refine ⟨rfl, ?_⟩)) ?_
  · omega
  rintro i hi
  try dsimp only
  refine wc_fcat ?_
  refine wc_cat ?_
  have f1 := fibA_le hi
  have f2 := fibA_mono i
  repeat (first | (apply wx_val; (first | exact v_move rfl | exact v_lt rfl rfl); rfl) | refine wc_seq ?_ | refine wc_region ?_ | refine wx_nil ?_ | refine wq_next ?_)
  refine wc_if rfl (fun hd => ?_) (fun hd => ?_)
  · have f3 := fibA_le (show i + 2 ≤ h by omega)
    have f4 : fibA (i + 2) = fibA i + fibA (i + 1) + 1 := rfl
    repeat (first | (apply wx_val; (first | exact v_move rfl | exact v_assign rfl | exact v_addi rfl rfl (by omega)); rfl) | refine wc_seq ?_ | refine wc_region ?_ | refine wx_nil ?_ | refine wq_next ?_ | refine wc_block ?_ | refine wc_skip ?_ | refine wq_block ?_)
    refine wq_roundK (i + 1) ?_ ?_ (by repeat (first | exact trivial | refine ⟨rfl, ?_⟩)) (by first | exact catEq | exact rfl)
    · omega
    · omega
  · skip
    repeat (first | (apply wx_val; (first | exact v_move rfl | exact v_assign rfl | exact v_ge rfl rfl); rfl) | refine wc_seq ?_ | refine wc_region ?_ | refine wx_nil ?_ | refine wq_next ?_ | refine wc_ret ?_ | refine wc_exit ?_ | refine wq_then_exit ?_ | refine wq_block_exit rfl ?_)
    exact wq_ret1T () rfl (bool_val (decide_eq_true (by omega))) trivial rfl
section
variable {m : Nat} {A : Ks} {q : Fo} {g : Nat}
theorem FoOk.hn (h : FoOk m A q) (k : ByteArray) : ∃ n : Nat, (q.T k).hh = (n : Nat) ∧ fibA n ≤ (ofK k A).length ∧ (ofK k A).length < 2 ^ n := by
  obtain ⟨n, hn⟩ := Int.eq_ofNat_of_zero_le (h.avl k).pos.1
  have := Avl.count n (h.avl k) hn
  rw [h.size] at this
  exact ⟨n, hn, this⟩
theorem High_law (h : FoOk m A q) (k : ByteArray) (hm : m ≤ 900000000000) {n : Nat} (hn : n = (ofK k A).length) (w : World) : Calls Try.prog 15 #[.int .i64 (n : Nat), .int .i64 (q.T k).hh] w (Ret (β := Unit) w (ids []) (fun _ => .bool true) (fun _ => []) (fun _ => True)) := by
  obtain ⟨x, hx, h1, h2⟩ := h.hn k
  have := h.lens.1
  have := ofK_len k A
  rw [hx, hn]
  exact High_spec _ _ (by omega) h1 h2 w
end
end Go.Proofs.Ytjeghbachokljaa
