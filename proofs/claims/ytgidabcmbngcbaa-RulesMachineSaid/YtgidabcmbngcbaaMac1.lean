/- The document's machine: what it lies in; Left, New, Active. -/
import Derived.Test.YtgidabcmbngcbaaRec2
import Derived.Test.YtgidabcmbngcbaaKit2
set_option linter.unusedVariables false
set_option linter.unusedSimpArgs false
namespace Go.Proofs.Ytgidabcmbngcbaa
open Go
set_option maxRecDepth 20000
set_option maxHeartbeats 2000000
attribute [local irreducible] WX WC WQ Val VCall
theorem Vw.atM {α : Type} {f : α → List Value} {k : Nat} (hf : ∀ a, (f a).length = k) (hk : 0 < k) {X : List Nat} {w0 : World} {A : Option Addr} {l : List α} (h : Vw X w0 A (l.flatMap f)) (hl : 0 < l.length) :
    ∃ g o, A = some ⟨g, o, none⟩ ∧ ∀ (i : Nat) (a : α) (p : Nat) (v : Value), l[i]? = some a → (f a)[p]? = some v → ∀ {w : World} {M : List Seg}, Res w0 X w M → ∀ {off : Nat}, off = o + i * k + p → w.cell? ⟨g, off, none⟩ = some v := by
  have hlen : (l.flatMap f).length = l.length * k := by
    clear h hl
    induction l with
    | nil => simp
    | cons a r ih => rw [List.flatMap_cons, List.length_append, hf, ih, List.length_cons, Nat.succ_mul, Nat.add_comm]
  have h0 : 0 < (l.flatMap f).length := by rw [hlen]; exact Nat.mul_pos hl hk
  obtain ⟨g, o, e, hc⟩ := h.at h0
  refine ⟨g, o, e, fun i a p v hi hp w M hr off ho => ?_⟩
  have hpk : p < k := by
    have := (List.getElem?_eq_some_iff.1 hp).1
    rwa [hf] at this
  have hg : (l.flatMap f)[i * k + p]? = some v := by
    rw [flat_get f hk hf, Nat.mul_comm, Nat.mul_add_div hk, Nat.div_eq_of_lt hpk, Nat.add_zero, hi, Nat.mul_add_mod, Nat.mod_eq_of_lt hpk]
    exact hp
  obtain ⟨hj, he⟩ := List.getElem?_eq_some_iff.1 hg
  rw [ho, Nat.add_assoc, hc _ w M hj hr, he]
def leftN (k : ByteArray) (l : List OpW) : Nat → Int
  | 0 => -1
  | n + 1 => match l[n]? with
    | some o => if o.kind ≠ 1 ∧ o.key = k then (n : Nat) else leftN k l n
    | none => leftN k l n
def leftP (k : ByteArray) (l : List OpW) : Int := leftN k l l.length
theorem leftN_range (k : ByteArray) (l : List OpW) : ∀ n, -1 ≤ leftN k l n ∧ leftN k l n < (n : Nat)
  | 0 => by unfold leftN; omega
  | n + 1 => by
    have ih := leftN_range k l n
    unfold leftN
    split
    · split
      · omega
      · omega
    · omega
theorem Left_spec (t : TxnW) (k : ByteArray) (hl : t.ops.xs.length ≤ 1048576) (w : World) (hv : t.Reads w) :
    Calls Try.prog 62 #[.agg t.cells.toArray, .string k] w (Ret (β := Unit) w (ids []) (fun _ => .int .i64 (leftP k t.ops.xs)) (fun _ => []) (fun _ => True)) := by
  refine go [.agg t.cells.toArray, .string k] [] Try.func62 Try.ntmps62 rfl rfl (own_nil w) ?_
  unfold leftP
  repeat (first | refine wc_seq ?_ | refine wc_region ?_)
  refine wl_boxA rfl rfl (fun g2 => ?_)
  repeat (first | (apply wx_val; (first | exact v_assign rfl | exact v_faddr rfl rfl | exact v_ldT rfl rfl rfl (by rfl) | exact v_len rfl rfl | exact v_subi rfl rfl (by omega)); rfl) | refine wc_seq ?_ | refine wc_region ?_ | refine wx_nil ?_ | refine wq_next ?_ | refine wc_block ?_)
  refine wc_loopK (ι := Nat) [1, 2] (fun n => [(5, .int .i64 ((n : Int) - 1))]) (fun n => []) (fun n => n ≤ t.ops.xs.length ∧ leftN k t.ops.xs t.ops.xs.length = leftN k t.ops.xs n) (fun n => n) (t.ops.xs.length) rfl ?_ (by repeat (first | exact trivial | refine ⟨rfl, ?_⟩)) ?_
  · exact ⟨Nat.le_refl _, rfl⟩
  rintro n ⟨h1, h2⟩
  try dsimp only
  refine wc_fcat ?_
  refine wc_cat ?_
  rw [h2]
  repeat (first | (apply wx_val; (first | exact v_move rfl | exact v_ge rfl rfl); rfl) | refine wc_seq ?_ | refine wc_region ?_ | refine wx_nil ?_ | refine wq_next ?_)
  refine wc_if rfl (fun hd => ?_) (fun hd => ?_)
  · cases n with
    | zero => exact absurd hd (by omega)
    | succ n =>
      obtain ⟨o, hs⟩ : ∃ s, t.ops.xs[n]? = some s := ⟨t.ops.xs[n], List.getElem?_eq_getElem (by omega)⟩
      obtain ⟨ga, oa, hA, hcell⟩ := hv.atM (f := OpW.cells) (k := 4) (fun _ => rfl) (by decide) (show 0 < t.ops.xs.length by omega)
      have e1 : leftN k t.ops.xs (n + 1) = if o.kind ≠ 1 ∧ o.key = k then ((n : Nat) : Int) else leftN k t.ops.xs n := by
        rw [leftN, hs]
      rw [e1] at h2 ⊢
      have hn1 : ((n + 1 : Nat) : Int) - 1 = ((n : Nat) : Int) := by omega
      rw [hn1]
      by_cases q1 : o.kind = 1
      · rw [if_neg (fun h => h.1 q1)] at h2 ⊢
        repeat (first | (apply wx_val; (first | exact v_move rfl | exact v_faddr rfl rfl | exact v_ldT rfl rfl rfl (by rfl) | exact v_iaddrE (by assumption) rfl rfl rfl (by omega)); rfl) | refine wc_seq ?_ | refine wc_region ?_ | refine wq_next ?_ | refine wc_block ?_ | refine wc_skip ?_)
        (try refine wx_ungd rfl rfl ?_)
        apply wx_val
        exact v_load rfl rfl rfl (fun w' hr => hcell n o 0 _ hs rfl hr (by omega))
        rfl
        repeat (first | (apply wx_val; (first | exact v_move rfl | exact v_ne rfl rfl); rfl))
        refine wx_gset false rfl rfl (decide_eq_false (fun h => h q1)) ?_
        repeat (first | (apply wx_val; (first | exact v_move rfl | exact v_assign rfl | exact v_subi rfl rfl (by omega) | exact v_pickF rfl rfl); rfl) | refine wx_no rfl rfl rfl ?_ | refine wc_region ?_ | refine wx_nil ?_ | refine wq_next ?_ | refine wc_skip ?_ | refine wq_block ?_ | refine wc_condF rfl ?_)
        refine wq_roundK (n) ?_ ?_ (by repeat (first | exact trivial | refine ⟨rfl, ?_⟩)) (by first | exact catEq | exact rfl)
        · first | exact ⟨by omega, rfl⟩ | exact ⟨by omega, h2⟩
        · omega
      · by_cases q2 : o.key = k
        · rw [if_pos ⟨q1, q2⟩] at h2 ⊢
          repeat (first | (apply wx_val; (first | exact v_move rfl | exact v_faddr rfl rfl | exact v_ldT rfl rfl rfl (by rfl) | exact v_iaddrE (by assumption) rfl rfl rfl (by omega)); rfl) | refine wc_seq ?_ | refine wc_region ?_ | refine wq_next ?_ | refine wc_block ?_ | refine wc_skip ?_)
          (try refine wx_ungd rfl rfl ?_)
          apply wx_val
          exact v_load rfl rfl rfl (fun w' hr => hcell n o 0 _ hs rfl hr (by omega))
          rfl
          repeat (first | (apply wx_val; (first | exact v_move rfl | exact v_ne rfl rfl); rfl))
          refine wx_gset true rfl rfl (decide_eq_true q1) ?_
          repeat (first | (apply wx_val; (first | exact v_move rfl | exact v_faddr rfl rfl | exact v_ldT rfl rfl rfl (by rfl) | exact v_iaddrE (by assumption) rfl rfl rfl (by omega)); rfl) | refine wx_ungd rfl rfl ?_)
          (try refine wx_ungd rfl rfl ?_)
          apply wx_val
          exact v_load rfl rfl rfl (fun w' hr => hcell n o 1 _ hs rfl hr (by omega))
          rfl
          repeat (first | (apply wx_val; (first | exact v_move rfl | exact v_streq rfl rfl | exact v_pickT rfl rfl); rfl) | refine wx_ungd rfl rfl ?_ | refine wx_nil ?_ | refine wq_next ?_)
          refine wc_yes rfl (decide_eq_true q2) ?_
          repeat (first | (apply wx_val; (first | exact v_move rfl | exact v_assign rfl); rfl) | refine wc_seq ?_ | refine wc_region ?_ | refine wx_nil ?_ | refine wq_next ?_ | refine wc_ret ?_ | refine wq_then_ret ?_ | refine wq_block_ret ?_)
          exact wq_ret1T () rfl rfl trivial rfl
        · rw [if_neg (fun h => q2 h.2)] at h2 ⊢
          repeat (first | (apply wx_val; (first | exact v_move rfl | exact v_faddr rfl rfl | exact v_ldT rfl rfl rfl (by rfl) | exact v_iaddrE (by assumption) rfl rfl rfl (by omega)); rfl) | refine wc_seq ?_ | refine wc_region ?_ | refine wq_next ?_ | refine wc_block ?_ | refine wc_skip ?_)
          (try refine wx_ungd rfl rfl ?_)
          apply wx_val
          exact v_load rfl rfl rfl (fun w' hr => hcell n o 0 _ hs rfl hr (by omega))
          rfl
          repeat (first | (apply wx_val; (first | exact v_move rfl | exact v_ne rfl rfl); rfl))
          refine wx_gset true rfl rfl (decide_eq_true q1) ?_
          repeat (first | (apply wx_val; (first | exact v_move rfl | exact v_faddr rfl rfl | exact v_ldT rfl rfl rfl (by rfl) | exact v_iaddrE (by assumption) rfl rfl rfl (by omega)); rfl) | refine wx_ungd rfl rfl ?_)
          (try refine wx_ungd rfl rfl ?_)
          apply wx_val
          exact v_load rfl rfl rfl (fun w' hr => hcell n o 1 _ hs rfl hr (by omega))
          rfl
          repeat (first | (apply wx_val; (first | exact v_move rfl | exact v_streq rfl rfl | exact v_pickT rfl rfl); rfl) | refine wx_ungd rfl rfl ?_ | refine wx_nil ?_ | refine wq_next ?_)
          refine wc_not rfl (decide_eq_false q2) ?_
          repeat (first | (apply wx_val; (first | exact v_move rfl | exact v_assign rfl | exact v_subi rfl rfl (by omega)); rfl) | refine wc_region ?_ | refine wx_nil ?_ | refine wq_next ?_ | refine wc_skip ?_ | refine wq_block ?_)
          refine wq_roundK (n) ?_ ?_ (by repeat (first | exact trivial | refine ⟨rfl, ?_⟩)) (by first | exact catEq | exact rfl)
          · first | exact ⟨by omega, rfl⟩ | exact ⟨by omega, h2⟩
          · omega
  · have : n = 0 := by omega
    subst this
    repeat (first | (apply wx_val; (first | exact v_assign rfl); rfl) | refine wc_seq ?_ | refine wc_region ?_ | refine wx_nil ?_ | refine wq_next ?_ | refine wc_ret ?_ | refine wc_exit ?_ | refine wq_then_exit ?_ | refine wq_block_exit rfl ?_)
    exact wq_ret1T () rfl rfl trivial rfl
/-- a transaction of the machine's, with its state and the times of its operations -/
structure RunW where
  t : TxnW
  state : Int
  at_ : LstV Int
def RunW.cells (r : RunW) : List Value := [.int .i64 r.t.session, .int .i64 r.t.seq, .int .i64 r.t.start, .int .i64 r.t.fin, .int .i64 r.t.invoke, .int .i64 r.t.ret, .int .i64 r.t.status, .slice r.t.ops.A r.t.ops.xs.length r.t.ops.c, .int .i64 r.state, .slice r.at_.A r.at_.xs.length r.at_.c]
def intC (n : Int) : List Value := [.int .i64 n]
abbrev BufP (l : LstV OpW) (E : Seg) : Prop := Buf 77 4 l.A l.xs.length l.c (l.xs.flatMap OpW.cells) E
abbrev BufN (l : LstV Int) (E : Seg) : Prop := Buf 3 1 l.A l.xs.length l.c (l.xs.flatMap intC) E
/-- what hangs on a list of them, in one segment -/
def HangR : List RunW → Seg → Prop
  | [], S => S = []
  | r :: L, S => ∃ E1 E2 S', S = E1 ++ E2 ++ S' ∧ BufP r.t.ops E1 ∧ BufN r.at_ E2 ∧ HangR L S'
theorem HangR.app : ∀ {L1 L2 : List RunW} {S1 S2 : Seg}, HangR L1 S1 → HangR L2 S2 → HangR (L1 ++ L2) (S1 ++ S2)
  | [], L2, S1, S2, h1, h2 => by
    have : S1 = [] := h1
    subst this
    exact h2
  | r :: L1, L2, S1, S2, ⟨E1, E2, S', e, hb, hc, h⟩, h2 => ⟨E1, E2, S' ++ S2, by rw [e]; simp, hb, hc, h.app h2⟩
theorem HangR.find : ∀ {L : List RunW} {S : Seg}, HangR L S → ∀ {i : Nat} {r : RunW}, L[i]? = some r → ∃ S1 E1 E2 S2, S = S1 ++ (E1 ++ E2) ++ S2 ∧ BufP r.t.ops E1 ∧ BufN r.at_ E2 ∧ HangR (L.take i) S1 ∧ HangR (L.drop (i + 1)) S2
  | [], S, h, i, t, hi => by simp at hi
  | t :: L, S, ⟨E1, E2, S', e, hb, hc, h⟩, 0, u, hi => by
    simp at hi
    subst hi
    exact ⟨[], E1, E2, S', by simpa using e, hb, hc, rfl, by simpa using h⟩
  | t :: L, S, ⟨E1, E2, S', e, hb, hc, h⟩, i + 1, u, hi => by
    obtain ⟨S1, F1, F2, S2, e1, h1, h2, h3, h4⟩ := h.find (i := i) (by simpa using hi)
    exact ⟨E1 ++ E2 ++ S1, F1, F2, S2, by rw [e, e1]; simp, h1, h2, ⟨E1, E2, S1, rfl, hb, hc, by simpa using h3⟩, by simpa using h4⟩
theorem HangR.reads {L : List RunW} {S : Seg} (h : HangR L S) {w0 w : World} {X : List Nat} {M : List Seg} (hr : Res w0 X w M) [k : Has S M] {i : Nat} {r : RunW} (hi : L[i]? = some r) : r.t.Reads w ∧ Vw [] w r.at_.A (r.at_.xs.flatMap intC) := by
  obtain ⟨S1, E1, E2, S2, e, hb, hc, _, _⟩ := h.find hi
  exact ⟨hb.vwS (S := S) (fun p hp => by rw [e]; simp [hp]) hr, hc.vwS (S := S) (fun p hp => by rw [e]; simp [hp]) hr⟩
theorem cellM {α : Type} {f : α → List Value} {k : Nat} (hf : ∀ a, (f a).length = k) (hk : 0 < k) {e : TypeId} {A : Option Addr} {n c gA i j off : Nat} {l : List α} {E S : Seg} {s : α} {u : Value} {w0 w : World} {X : List Nat} {M : List Seg} (h : Buf e k A n c (l.flatMap f) E) (hE : ∀ p ∈ E, p ∈ S) (hA : A = some ⟨gA, 0, none⟩) (hr : Res w0 X w M) [K : Has S M] (hi : l[i]? = some s) (hj : (f s)[j]? = some u) (ho : off = 0 + i * k + j) : w.cell? ⟨gA, off, none⟩ = some u := by
  have hv := Buf.vwS h hE hr
  have hl : 0 < l.length := by have := (List.getElem?_eq_some_iff.1 hi).1; omega
  obtain ⟨g, o, e, hc⟩ := hv.atM hf hk hl
  rw [hA] at e
  injection e with e
  injection e with e1 e2 e3
  subst e1 e2
  exact hc i s j u hi hj (M := []) (Res.refl (own_nil w)) (by omega)
/-- the machine's own block: sessions, flaw, clock, the runs, the ends -/
structure Mc where
  ses : Int
  flaw : Int
  clock : Int
  A : Option Addr
  c : Nat
  Ae : Option Addr
  ne : Nat
  ce : Nat
def Mc.cells (y : Mc) (n : Nat) : List Value := [.int .i64 y.ses, .int .i64 y.flaw, .int .i64 y.clock, .slice y.A n y.c, .slice y.Ae y.ne y.ce]
abbrev mcB (g : Nat) (y : Mc) (n : Nat) : Seg := [(g, .cells (y.cells n).toArray 104 (0, 0))]
/-- the runs -/
structure RunsO (L : List RunW) (y : Mc) (E S : Seg) : Prop where
  sp : Buf 108 10 y.A L.length y.c (L.flatMap RunW.cells) E
  hang : HangR L S
  small : ∀ r ∈ L, r.t.ops.xs.length ≤ 16 ∧ r.at_.xs.length = r.t.ops.xs.length ∧ (∀ o ∈ r.t.ops.xs, o.Right)
section mc
variable {g : Nat} {y : Mc} {L : List RunW} {E S : Seg}
/-- the place of a session's active transaction from place i on, or -1 -/
def actN (s : Int) (L : List RunW) (i : Nat) : Prop := ∀ r ∈ L.take i, ¬ (r.state = 0 ∧ r.t.session = s)
theorem Active_spec (s : Int) (hn : L.length ≤ 4096) (h : RunsO L y E S) (w : World) (ho : Own w [mcB g y L.length, E]) :
    Calls Try.prog 50 #[.pointer (some ⟨g, 0, none⟩), .int .i64 s] w (Ret (β := Int) w (ids [mcB g y L.length, E]) (fun x => .int .i64 x) (fun _ => [mcB g y L.length, E]) (fun x => (x = -1 ∧ actN s L L.length) ∨ (∃ i : Nat, ∃ r, x = (i : Nat) ∧ L[i]? = some r ∧ r.state = 0 ∧ r.t.session = s ∧ actN s L i))) := by
  refine go [.pointer (some ⟨g, 0, none⟩), .int .i64 s] [mcB g y L.length, E] Try.func50 Try.ntmps50 rfl rfl ho ?_
  repeat (first | (apply wx_val; (first | exact v_assign rfl); rfl) | refine wc_seq ?_ | refine wc_region ?_ | refine wx_nil ?_ | refine wq_next ?_ | refine wc_block ?_)
  refine wc_loopK (ι := Nat) [0, 1] (fun i => [(5, .int .i64 (i : Nat))]) (fun i => []) (fun i => i ≤ L.length ∧ actN s L i) (fun i => L.length - i) (0) rfl ?_ (by repeat (first | exact trivial | refine ⟨rfl, ?_⟩)) ?_
  · exact ⟨Nat.zero_le _, fun r hr => by cases hr⟩
  rintro i ⟨h1, h2⟩
  try dsimp only
  refine wc_fcat ?_
  refine wc_cat ?_
  repeat (first | (apply wx_val; (first | exact v_move rfl | exact v_nil rfl | exact v_faddr rfl rfl | exact v_ldT rfl rfl rfl (by rfl) | exact v_len rfl rfl | exact v_lt rfl rfl); rfl) | refine wc_seq ?_ | refine wc_region ?_ | refine wx_nil ?_ | refine wq_next ?_)
  refine wc_if rfl (fun hd => ?_) (fun hd => ?_)
  · obtain ⟨r, hs⟩ : ∃ s, L[i]? = some s := ⟨L[i], List.getElem?_eq_getElem (by omega)⟩
    obtain ⟨ga, hA⟩ := h.sp.ptr (by omega)
    have hon : ¬ (r.state = 0 ∧ r.t.session = s) → actN s L (i + 1) := fun hn r' hr' => by
      rw [List.take_add_one, hs] at hr'
      rcases List.mem_append.1 hr' with hr' | hr'
      · exact h2 r' hr'
      · rw [show r' = r by simpa using hr']; exact hn
    repeat (first | (apply wx_val; (first | exact v_move rfl | exact v_nil rfl | exact v_faddr rfl rfl | exact v_ldT rfl rfl rfl (by rfl) | exact v_iaddrE (by assumption) rfl rfl rfl (by omega)); rfl) | refine wc_seq ?_ | refine wc_region ?_ | refine wq_next ?_ | refine wc_block ?_ | refine wc_skip ?_)
    (try refine wx_ungd rfl rfl ?_)
    apply wx_val
    exact v_load rfl rfl rfl (fun w' hr => h.sp.elemT (i := i) hA (by decide) (fun _ => rfl) hs hr (j := 8) rfl (by omega))
    rfl
    repeat (first | (apply wx_val; (first | exact v_move rfl | exact v_eq rfl rfl); rfl))
    by_cases q1 : r.state = 0
    · refine wx_gset true rfl rfl (decide_eq_true q1) ?_
      repeat (first | (apply wx_val; (first | exact v_move rfl | exact v_nil rfl | exact v_faddr rfl rfl | exact v_ldT rfl rfl rfl (by rfl) | exact v_iaddrE (by assumption) rfl rfl rfl (by omega)); rfl) | refine wx_ungd rfl rfl ?_)
      (try refine wx_ungd rfl rfl ?_)
      apply wx_val
      exact v_load rfl rfl rfl (fun w' hr => h.sp.elemT (i := i) hA (by decide) (fun _ => rfl) hs hr (j := 0) rfl (by omega))
      rfl
      repeat (first | (apply wx_val; (first | exact v_move rfl | exact v_eq rfl rfl | exact v_pickT rfl rfl); rfl) | refine wx_ungd rfl rfl ?_ | refine wx_nil ?_ | refine wq_next ?_)
      refine wc_if rfl (fun q2 => ?_) (fun q2 => ?_)
      · skip
        repeat (first | (apply wx_val; (first | exact v_move rfl | exact v_assign rfl); rfl) | refine wc_seq ?_ | refine wc_region ?_ | refine wx_nil ?_ | refine wq_next ?_ | refine wc_ret ?_ | refine wq_then_ret ?_ | refine wq_block_ret ?_)
        exact wq_ret1T ((i : Nat) : Int) rfl rfl (.inr ⟨i, r, rfl, hs, q1, q2, h2⟩) rfl
      · skip
        repeat (first | (apply wx_val; (first | exact v_move rfl | exact v_assign rfl | exact v_addi rfl rfl (by omega)); rfl) | refine wc_region ?_ | refine wx_nil ?_ | refine wq_next ?_ | refine wc_skip ?_ | refine wq_block ?_)
        refine wq_roundK (i + 1) ?_ ?_ (by repeat (first | exact trivial | refine ⟨rfl, ?_⟩)) (by first | exact catEq | exact rfl)
        · exact ⟨by omega, hon fun h => q2 h.2⟩
        · omega
    · refine wx_gset false rfl rfl (decide_eq_false q1) ?_
      repeat (first | (apply wx_val; (first | exact v_move rfl | exact v_assign rfl | exact v_addi rfl rfl (by omega) | exact v_pickF rfl rfl); rfl) | refine wx_no rfl rfl rfl ?_ | refine wc_region ?_ | refine wx_nil ?_ | refine wq_next ?_ | refine wc_skip ?_ | refine wq_block ?_ | refine wc_condF rfl ?_)
      refine wq_roundK (i + 1) ?_ ?_ (by repeat (first | exact trivial | refine ⟨rfl, ?_⟩)) (by first | exact catEq | exact rfl)
      · exact ⟨by omega, hon fun h => q1 h.1⟩
      · omega
  · have : i = L.length := by omega
    subst this
    repeat (first | (apply wx_val; (first | exact v_assign rfl); rfl) | refine wc_seq ?_ | refine wc_region ?_ | refine wx_nil ?_ | refine wq_next ?_ | refine wc_ret ?_ | refine wc_exit ?_ | refine wq_then_exit ?_ | refine wq_block_exit rfl ?_)
    exact wq_ret1T (-1 : Int) rfl rfl (.inl ⟨rfl, h2⟩) rfl
end mc
end Go.Proofs.Ytgidabcmbngcbaa
