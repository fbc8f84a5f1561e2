/- Parts of the proof: SwRa, SwG, SwH, SwHb, SwHc, SwLa, SwRb, SwRc, SwRd, SwRe, SwTa, SwMa. -/
import Derived.Test.YtlioccfedophhaaM6
import Derived.Test.YtlioccfedophhaaM4
import Derived.Test.YtlioccfedophhaaM3
import Derived.Test.YtlioccfedophhaaM7
import Derived.Test.YtlioccfedophhaaM8
/- The document's sweep: Left, wrote, first, Seen. -/
set_option linter.unusedVariables false
set_option linter.unusedSimpArgs false
namespace Go.Proofs.Ytlioccfedophhaa
open Go
set_option maxRecDepth 20000
set_option maxHeartbeats 2000000
attribute [local irreducible] WX WC WQ Val VCall
theorem rSwRa_0 {A B : Prop} (k : B) (h : Hold B → A := by intro k; (repeat (first | (apply wx_val; (first | exact v_move rfl | exact v_assign rfl | exact v_faddr rfl rfl | exact v_ldT rfl rfl rfl (by rfl) | exact v_len rfl rfl | exact v_eq rfl rfl | exact v_ne rfl rfl | exact v_lt rfl rfl | exact v_le rfl rfl | exact v_gt rfl rfl | exact v_ge rfl rfl | exact v_streq rfl rfl | exact v_addi rfl rfl (by omega) | exact v_subi rfl rfl (by omega) | exact v_not rfl | exact v_pickT rfl rfl | exact v_pickF rfl rfl | exact v_iaddrE (by assumption) rfl rfl rfl (by omega) | (first | exact v_ldQ 0 0 rfl rfl rfl rfl rfl)); rfl) | refine wx_no rfl rfl rfl ?_ | refine wx_undef rfl rfl rfl ?_ | refine wx_ungd rfl rfl ?_ | refine wc_seq ?_ | refine wc_region ?_ | refine wx_nil ?_ | refine wq_next ?_ | refine wc_block ?_ | refine wc_ret ?_ | refine wc_skip ?_ | refine wc_exit ?_ | refine wq_then_ret ?_ | refine wq_then_exit ?_ | refine wq_block ?_ | refine wq_block_ret ?_ | refine wq_block_exit rfl ?_ | refine wx_setn ?_ | refine wc_reads rfl (by decide +kernel) ?_ | refine wc_condT rfl ?_ | refine wc_condF rfl ?_ | refine wl_stAT rfl rfl (by rfl) (by rfl) (by exact .inl (Nat.le_refl _)) rfl ?_)); exact k.out) : A := h ⟨k⟩
structure DoneW where
  place : Int
  t : TxnW
def DoneW.cells (d : DoneW) : List Value := [.int .i64 d.place, .int .i64 d.t.session, .int .i64 d.t.seq, .int .i64 d.t.start, .int .i64 d.t.fin, .int .i64 d.t.invoke, .int .i64 d.t.ret, .int .i64 d.t.status, .slice d.t.ops.A d.t.ops.xs.length d.t.ops.c]
def DoneW.p (d : DoneW) : DoneT := ⟨d.place, d.t.p⟩
theorem doneW_get {d : DoneW} {u : Nat} {x : Value} (h : d.t.cells[u]? = some x) : d.cells[u + 1]? = some x := h
theorem LeftR_spec {A : Option Addr} {c : Nat} {l : List OpW} (n : Nat) (k : ByteArray) (hn : n ≤ l.length) (hl : l.length ≤ 1048576) (w : World) (hv : Vw [] w A (l.flatMap OpW.cells)) :
    Calls Try.prog 19 #[.slice A l.length c, .int .i64 (n : Nat), .string k] w (Ret (β := Unit) w (ids []) (fun _ => .int .i64 (leftN k l n)) (fun _ => []) (fun _ => True)) := by
  refine go [.slice A l.length c, .int .i64 (n : Nat), .string k] [] Try.func19 Try.ntmps19 rfl rfl (own_nil w) ?_
  refine rSwRa_0 ?_
  refine wc_loopK (ι := Nat) [0, 2] (fun q => [(7, .int .i64 ((q : Nat) - 1))]) (fun q => []) (fun q => q ≤ l.length ∧ leftN k l n = leftN k l q) (fun q => q) (n) rfl ?_ (by repeat (first | exact trivial | refine ⟨rfl, ?_⟩)) ?_
  · exact ⟨hn, rfl⟩
  rintro q ⟨h1, h2⟩
  try dsimp only
  refine wc_fcat ?_
  refine wc_cat ?_
  rw [h2]
  refine rSwRa_0 ?_
  refine wc_if rfl (fun h3 => ?_) (fun h3 => ?_)
  · obtain ⟨m, rfl⟩ : ∃ m, q = m + 1 := ⟨q - 1, by omega⟩
    obtain ⟨o, ho⟩ : ∃ o, l[m]? = some o := ⟨l[m]'(by omega), List.getElem?_eq_getElem _⟩
    obtain ⟨gA, oA, hA, hca⟩ := hv.elZ (k := 4) (by decide) (fun _ => rfl) (by omega)
    have hst : leftN k l (m + 1) = if o.kind ≠ 1 ∧ o.key = k then ((m : Nat) : Int) else leftN k l m := by
      conv => lhs; unfold leftN
      rw [ho]
    rw [hst] at h2 ⊢
    have ei : (((m + 1 : Nat) : Int) - 1) = (m : Nat) := by omega
    simp only [ei]
    refine rSwRa_0 ?_
    (try refine wx_ungd rfl rfl ?_)
    apply wx_val
    exact v_load rfl rfl rfl (fun w' hr => hca ho hr (j := 0) rfl (by rw [Int.toNat_natCast]))
    rfl
    refine rSwRa_0 ?_
    refine wx_gif rfl rfl (fun hk => ?_) (fun hk => ?_)
    · refine rSwRa_0 ?_
      (try refine wx_ungd rfl rfl ?_)
      apply wx_val
      exact v_load rfl rfl rfl (fun w' hr => hca ho hr (j := 1) rfl (by rw [Int.toNat_natCast]))
      rfl
      refine rSwRa_0 ?_
      refine wc_if rfl (fun hk2 => ?_) (fun hk2 => ?_)
      · rw [if_pos ⟨hk, hk2⟩]
        refine rSwRa_0 ?_
        exact wq_ret1T () rfl rfl trivial rfl
      · rw [if_neg (fun e => hk2 e.2)] at h2 ⊢
        rw [← h2]
        refine rSwRa_0 ?_
        refine wq_roundK (m) ?_ ?_ (by repeat (first | exact trivial | refine ⟨rfl, ?_⟩)) (by first | exact catEq | exact rfl)
        · exact ⟨by omega, h2⟩
        · omega
    · rw [if_neg (fun e => hk e.1)] at h2 ⊢
      rw [← h2]
      refine rSwRa_0 ?_
      refine wq_roundK (m) ?_ ?_ (by repeat (first | exact trivial | refine ⟨rfl, ?_⟩)) (by first | exact catEq | exact rfl)
      · exact ⟨by omega, h2⟩
      · omega
  · obtain rfl : q = 0 := by omega
    refine rSwRa_0 ?_
    exact wq_ret1T () rfl rfl trivial rfl
theorem wrote_spec (p : Int) (t : TxnW) (k : ByteArray) (hl : t.ops.xs.length ≤ 1048576) (w : World) (hv : t.Reads w) :
    Calls Try.prog 88 #[.agg t.cells.toArray, .string k] w (Ret (β := Unit) w (ids []) (fun _ => .bool (wroteD k ⟨p, t.p⟩)) (fun _ => []) (fun _ => True)) := by
  refine go [.agg t.cells.toArray, .string k] [] Try.func88 Try.ntmps88 rfl rfl (own_nil w) ?_
  have c1 := fun w' hv' => LeftR_spec (A := t.ops.A) (c := t.ops.c) (l := t.ops.xs) t.ops.xs.length k (Nat.le_refl _) hl w' hv'
  refine rSwRa_0 ?_
  refine wl_boxA rfl rfl (fun g2 => ?_)
  refine rSwRa_0 ?_
  refine wx_gif rfl rfl (fun h1 => ?_) (fun h1 => ?_)
  · have e : wroteD k ⟨p, t.p⟩ = decide (0 ≤ leftN k t.ops.xs t.ops.xs.length) := by
      unfold wroteD
      show (decide (t.status = 1) && _) = _
      rw [decide_eq_true h1, Bool.true_and, Bool.eq_iff_iff, lastN_iff, decide_eq_true_iff]
      rfl
    rw [e]
    refine rSwRa_0 ?_
    (try refine wx_ungd rfl rfl ?_)
    refine wx_vcall (vc_pure' rfl rfl (fun w' hr => c1 w' (hv.keep hr).rd.vw)) rfl ?_
    refine rSwRa_0 ?_
    exact wq_ret1T () rfl rfl trivial rfl
  · have e : wroteD k ⟨p, t.p⟩ = false := by
      unfold wroteD
      show (decide (t.status = 1) && _) = _
      rw [decide_eq_false h1, Bool.false_and]
    rw [e]
    refine rSwRa_0 ?_
    exact wq_ret1T () rfl rfl trivial rfl
def ixO : Option Nat → Int
  | none => -1
  | some n => (n : Nat)
theorem best_step {E : List DoneT} {p : DoneT → Bool} {lt : DoneT → DoneT → Bool} {n : Nat} {d : DoneT} (h : E[n]? = some d) : bestN E p lt (n + 1) = if p d then (match bestN E p lt n with
      | none => some n
      | some b => match E[b]? with
        | some u => if lt d u then some n else some b
        | none => some b) else bestN E p lt n := by
  conv => lhs; unfold bestN
  rw [h]
  rfl
theorem firstR_spec {A : Option Addr} {c : Nat} {E : List DoneW} (k : ByteArray) (s : Int) (hE : E.length ≤ 1048576) (hl : ∀ d ∈ E, d.t.ops.xs.length ≤ 1048576) (w : World) (hv : Vw [] w A (E.flatMap DoneW.cells)) (ht : ∀ d ∈ E, d.t.Reads w) :
    Calls Try.prog 68 #[.slice A E.length c, .string k, .int .i64 s] w (Ret (β := Unit) w (ids []) (fun _ => .int .i64 (ixO (bestN (E.map DoneW.p) (fun d => wroteD k d && decide (s < d.t.fin)) (fun d u => lexD d u) E.length))) (fun _ => []) (fun _ => True)) := by
  refine go [.slice A E.length c, .string k, .int .i64 s] [] Try.func68 Try.ntmps68 rfl rfl (own_nil w) ?_
  obtain ⟨f, hf⟩ : ∃ f, f = bestN (E.map DoneW.p) (fun d => wroteD k d && decide (s < d.t.fin)) (fun d u => lexD d u) := ⟨_, rfl⟩
  rw [← hf]
  refine rSwRa_0 ?_
  refine wc_loopK (ι := Nat × Int) [0, 1, 2] (fun x => [(7, .int .i64 x.2), (8, .int .i64 (x.1 : Nat))]) (fun x => []) (fun x => (x.1 ≤ E.length ∧ x.2 = ixO (f x.1))) (fun x => E.length - x.1) ((0, -1)) rfl ?_ (by repeat (first | exact trivial | refine ⟨rfl, ?_⟩)) ?_
  · exact ⟨Nat.zero_le _, by rw [hf]; rfl⟩
  rintro ⟨i, y⟩ ⟨hi, hy⟩
  try dsimp only
  refine wc_fcat ?_
  refine wc_cat ?_
  dsimp only at hi hy ⊢
  refine rSwRa_0 ?_
  refine wc_if rfl (fun h2 => ?_) (fun h2 => ?_)
  · obtain ⟨d, hd⟩ : ∃ d, E[i]? = some d := ⟨E[i]'(by omega), List.getElem?_eq_getElem _⟩
    obtain ⟨gA, oA, hA, hca⟩ := hv.elZ (k := 9) (by decide) (fun _ => rfl) (by omega)
    have hm := List.mem_of_getElem? hd
    have hdp : (E.map DoneW.p)[i]? = some d.p := by rw [List.getElem?_map, hd]; rfl
    have hst : f (i + 1) = if (wroteD k d.p && decide (s < d.t.fin)) = true then (match f i with
        | none => some i
        | some b => match (E.map DoneW.p)[b]? with
          | some u => if (fun d u : DoneT => lexD d u) d.p u = true then some i else some b
          | none => some b) else f i := by
      rw [hf]
      exact best_step hdp
    refine rSwRa_0 ?_
    (try refine wx_ungd rfl rfl ?_)
    apply wx_val
    exact v_loadA (cs := d.t.cells) rfl rfl (fun w' hr u x hj => hca hd hr (doneW_get hj) (by rw [Int.toNat_natCast]; omega))
    rfl
    skip
    refine wl_alloc rfl rfl (fun g9 => ?_)
    refine rSwRa_0 ?_
    (try refine wx_ungd rfl rfl ?_)
    refine wx_vcall (vc_pure' rfl rfl (fun w' hr => wrote_spec d.place d.t k (hl d hm) w' (Vw.keep (ht d hm) hr))) rfl ?_
    rw [show (⟨d.place, d.t.p⟩ : DoneT) = d.p from rfl]
    cases hw : wroteD k d.p with
    | false =>
      have e : f (i + 1) = f i := by rw [hst, hw]; rfl
      refine rSwRa_0 ?_
      refine wq_roundK ((i + 1, y)) ?_ ?_ (by repeat (first | exact trivial | refine ⟨rfl, ?_⟩)) (by first | exact catEq | exact rfl)
      · exact ⟨by dsimp only; omega, by rw [e]; exact hy⟩
      · dsimp only; omega
    | true =>
      rw [hw] at hst
      refine rSwRa_0 ?_
      refine wc_if rfl (fun h3 => ?_) (fun h3 => ?_)
      · have e : f (i + 1) = f i := by rw [hst, Bool.true_and, decide_eq_false (show ¬ (s < d.t.fin) by omega), if_neg (by decide)]
        refine rSwRa_0 ?_
        refine wq_roundK ((i + 1, y)) ?_ ?_ (by repeat (first | exact trivial | refine ⟨rfl, ?_⟩)) (by first | exact catEq | exact rfl)
        · exact ⟨by dsimp only; omega, by rw [e]; exact hy⟩
        · dsimp only; omega
      · rw [Bool.true_and, decide_eq_true (show (s < d.t.fin) by omega), if_pos rfl] at hst
        cases hb : f i with
        | none =>
          rw [hb] at hy hst
          have hy' : y = -1 := hy
          refine rSwRa_0 ?_
          refine wx_gset true rfl rfl (decide_eq_true (by omega)) ?_
          refine rSwRa_0 ?_
          refine wq_roundK ((i + 1, (i : Nat))) ?_ ?_ (by repeat (first | exact trivial | refine ⟨rfl, ?_⟩)) (by first | exact catEq | exact rfl)
          · exact ⟨by dsimp only; omega, by rw [hst]; rfl⟩
          · dsimp only; omega
        | some b =>
          have hbl := bestN_lt (E := E.map DoneW.p) (p := fun d => wroteD k d && decide (s < d.t.fin)) (lt := fun d u => lexD d u) (n := i) (b := b) (by rw [← hf]; exact hb)
          obtain ⟨u, hu⟩ : ∃ u, E[b]? = some u := ⟨E[b]'(by omega), List.getElem?_eq_getElem _⟩
          have hup : (E.map DoneW.p)[b]? = some u.p := by rw [List.getElem?_map, hu]; rfl
          rw [hb] at hy hst
          obtain rfl : y = (b : Nat) := hy
          dsimp only at hst
          rw [hup] at hst
          dsimp only at hst
          have hlx := lexD_iff d.p u.p
          have hdf : d.p.t.fin = d.t.fin ∧ d.p.place = d.place := ⟨rfl, rfl⟩
          have huf : u.p.t.fin = u.t.fin ∧ u.p.place = u.place := ⟨rfl, rfl⟩
          rw [hdf.1, hdf.2, huf.1, huf.2] at hlx
          refine rSwRa_0 ?_
          (try refine wx_ungd rfl rfl ?_)
          apply wx_val
          exact v_load rfl rfl rfl (fun w' hr => hca hu hr (j := 4) rfl (by rw [Int.toNat_natCast]))
          rfl
          refine rSwRa_0 ?_
          refine wx_gif rfl rfl (fun h5 => ?_) (fun h5 => ?_)
          · rw [if_pos (hlx.2 (by omega))] at hst
            refine rSwRa_0 ?_
            refine wq_roundK ((i + 1, (i : Nat))) ?_ ?_ (by repeat (first | exact trivial | refine ⟨rfl, ?_⟩)) (by first | exact catEq | exact rfl)
            · exact ⟨by dsimp only; omega, by rw [hst]; rfl⟩
            · dsimp only; omega
          refine rSwRa_0 ?_
          (try refine wx_ungd rfl rfl ?_)
          apply wx_val
          exact v_load rfl rfl rfl (fun w' hr => hca hu hr (j := 4) rfl (by rw [Int.toNat_natCast]))
          rfl
          refine rSwRa_0 ?_
          refine wx_gif rfl rfl (fun h6 => ?_) (fun h6 => ?_)
          · refine rSwRa_0 ?_
            (try refine wx_ungd rfl rfl ?_)
            apply wx_val
            exact v_load rfl rfl rfl (fun w' hr => hca hd hr (j := 0) rfl (by rw [Int.toNat_natCast]))
            rfl
            refine rSwRa_0 ?_
            (try refine wx_ungd rfl rfl ?_)
            apply wx_val
            exact v_load rfl rfl rfl (fun w' hr => hca hu hr (j := 0) rfl (by rw [Int.toNat_natCast]))
            rfl
            refine rSwRa_0 ?_
            refine wc_if rfl (fun h7 => ?_) (fun h7 => ?_)
            · rw [if_pos (hlx.2 (by omega))] at hst
              refine rSwRa_0 ?_
              refine wq_roundK ((i + 1, (i : Nat))) ?_ ?_ (by repeat (first | exact trivial | refine ⟨rfl, ?_⟩)) (by first | exact catEq | exact rfl)
              · exact ⟨by dsimp only; omega, by rw [hst]; rfl⟩
              · dsimp only; omega
            · rw [if_neg (fun e => by have := hlx.1 e; omega)] at hst
              refine rSwRa_0 ?_
              refine wq_roundK ((i + 1, (b : Nat))) ?_ ?_ (by repeat (first | exact trivial | refine ⟨rfl, ?_⟩)) (by first | exact catEq | exact rfl)
              · exact ⟨by dsimp only; omega, by rw [hst]; rfl⟩
              · dsimp only; omega
          · rw [if_neg (fun e => by have := hlx.1 e; omega)] at hst
            refine rSwRa_0 ?_
            refine wq_roundK ((i + 1, (b : Nat))) ?_ ?_ (by repeat (first | exact trivial | refine ⟨rfl, ?_⟩)) (by first | exact catEq | exact rfl)
            · exact ⟨by dsimp only; omega, by rw [hst]; rfl⟩
            · dsimp only; omega
  · obtain rfl : i = E.length := by omega
    rw [hy]
    refine rSwRa_0 ?_
    exact wq_ret1T () rfl rfl trivial rfl
theorem SeenR_spec {A : Option Addr} {c : Nat} {E : List DoneW} (k : ByteArray) (s : Int) (hE : E.length ≤ 1048576) (hl : ∀ d ∈ E, d.t.ops.xs.length ≤ 1048576) (w : World) (hv : Vw [] w A (E.flatMap DoneW.cells)) (ht : ∀ d ∈ E, d.t.Reads w) :
    Calls Try.prog 69 #[.slice A E.length c, .string k, .int .i64 s] w (Ret (β := Unit) w (ids []) (fun _ => .int .i64 (ixO (bestN (E.map DoneW.p) (fun d => wroteD k d && decide (d.t.fin ≤ s)) (fun d u => lexD u d) E.length))) (fun _ => []) (fun _ => True)) := by
  refine go [.slice A E.length c, .string k, .int .i64 s] [] Try.func69 Try.ntmps69 rfl rfl (own_nil w) ?_
  obtain ⟨f, hf⟩ : ∃ f, f = bestN (E.map DoneW.p) (fun d => wroteD k d && decide (d.t.fin ≤ s)) (fun d u => lexD u d) := ⟨_, rfl⟩
  rw [← hf]
  refine rSwRa_0 ?_
  refine wc_loopK (ι := Nat × Int) [0, 1, 2] (fun x => [(7, .int .i64 x.2), (8, .int .i64 (x.1 : Nat))]) (fun x => []) (fun x => (x.1 ≤ E.length ∧ x.2 = ixO (f x.1))) (fun x => E.length - x.1) ((0, -1)) rfl ?_ (by repeat (first | exact trivial | refine ⟨rfl, ?_⟩)) ?_
  · exact ⟨Nat.zero_le _, by rw [hf]; rfl⟩
  rintro ⟨i, y⟩ ⟨hi, hy⟩
  try dsimp only
  refine wc_fcat ?_
  refine wc_cat ?_
  dsimp only at hi hy ⊢
  refine rSwRa_0 ?_
  refine wc_if rfl (fun h2 => ?_) (fun h2 => ?_)
  · obtain ⟨d, hd⟩ : ∃ d, E[i]? = some d := ⟨E[i]'(by omega), List.getElem?_eq_getElem _⟩
    obtain ⟨gA, oA, hA, hca⟩ := hv.elZ (k := 9) (by decide) (fun _ => rfl) (by omega)
    have hm := List.mem_of_getElem? hd
    have hdp : (E.map DoneW.p)[i]? = some d.p := by rw [List.getElem?_map, hd]; rfl
    have hst : f (i + 1) = if (wroteD k d.p && decide (d.t.fin ≤ s)) = true then (match f i with
        | none => some i
        | some b => match (E.map DoneW.p)[b]? with
          | some u => if (fun d u : DoneT => lexD u d) d.p u = true then some i else some b
          | none => some b) else f i := by
      rw [hf]
      exact best_step hdp
    refine rSwRa_0 ?_
    (try refine wx_ungd rfl rfl ?_)
    apply wx_val
    exact v_loadA (cs := d.t.cells) rfl rfl (fun w' hr u x hj => hca hd hr (doneW_get hj) (by rw [Int.toNat_natCast]; omega))
    rfl
    skip
    refine wl_alloc rfl rfl (fun g9 => ?_)
    refine rSwRa_0 ?_
    (try refine wx_ungd rfl rfl ?_)
    refine wx_vcall (vc_pure' rfl rfl (fun w' hr => wrote_spec d.place d.t k (hl d hm) w' (Vw.keep (ht d hm) hr))) rfl ?_
    rw [show (⟨d.place, d.t.p⟩ : DoneT) = d.p from rfl]
    cases hw : wroteD k d.p with
    | false =>
      have e : f (i + 1) = f i := by rw [hst, hw]; rfl
      refine rSwRa_0 ?_
      refine wq_roundK ((i + 1, y)) ?_ ?_ (by repeat (first | exact trivial | refine ⟨rfl, ?_⟩)) (by first | exact catEq | exact rfl)
      · exact ⟨by dsimp only; omega, by rw [e]; exact hy⟩
      · dsimp only; omega
    | true =>
      rw [hw] at hst
      refine rSwRa_0 ?_
      refine wc_if rfl (fun h3 => ?_) (fun h3 => ?_)
      · have e : f (i + 1) = f i := by rw [hst, Bool.true_and, decide_eq_false (show ¬ (d.t.fin ≤ s) by omega), if_neg (by decide)]
        refine rSwRa_0 ?_
        refine wq_roundK ((i + 1, y)) ?_ ?_ (by repeat (first | exact trivial | refine ⟨rfl, ?_⟩)) (by first | exact catEq | exact rfl)
        · exact ⟨by dsimp only; omega, by rw [e]; exact hy⟩
        · dsimp only; omega
      · rw [Bool.true_and, decide_eq_true (show (d.t.fin ≤ s) by omega), if_pos rfl] at hst
        cases hb : f i with
        | none =>
          rw [hb] at hy hst
          have hy' : y = -1 := hy
          refine rSwRa_0 ?_
          refine wx_gset true rfl rfl (decide_eq_true (by omega)) ?_
          refine rSwRa_0 ?_
          refine wq_roundK ((i + 1, (i : Nat))) ?_ ?_ (by repeat (first | exact trivial | refine ⟨rfl, ?_⟩)) (by first | exact catEq | exact rfl)
          · exact ⟨by dsimp only; omega, by rw [hst]; rfl⟩
          · dsimp only; omega
        | some b =>
          have hbl := bestN_lt (E := E.map DoneW.p) (p := fun d => wroteD k d && decide (d.t.fin ≤ s)) (lt := fun d u => lexD u d) (n := i) (b := b) (by rw [← hf]; exact hb)
          obtain ⟨u, hu⟩ : ∃ u, E[b]? = some u := ⟨E[b]'(by omega), List.getElem?_eq_getElem _⟩
          have hup : (E.map DoneW.p)[b]? = some u.p := by rw [List.getElem?_map, hu]; rfl
          rw [hb] at hy hst
          obtain rfl : y = (b : Nat) := hy
          dsimp only at hst
          rw [hup] at hst
          dsimp only at hst
          have hlx := lexD_iff u.p d.p
          have hdf : d.p.t.fin = d.t.fin ∧ d.p.place = d.place := ⟨rfl, rfl⟩
          have huf : u.p.t.fin = u.t.fin ∧ u.p.place = u.place := ⟨rfl, rfl⟩
          rw [hdf.1, hdf.2, huf.1, huf.2] at hlx
          refine rSwRa_0 ?_
          (try refine wx_ungd rfl rfl ?_)
          apply wx_val
          exact v_load rfl rfl rfl (fun w' hr => hca hu hr (j := 4) rfl (by rw [Int.toNat_natCast]))
          rfl
          refine rSwRa_0 ?_
          refine wx_gif rfl rfl (fun h5 => ?_) (fun h5 => ?_)
          · rw [if_pos (hlx.2 (by omega))] at hst
            refine rSwRa_0 ?_
            refine wq_roundK ((i + 1, (i : Nat))) ?_ ?_ (by repeat (first | exact trivial | refine ⟨rfl, ?_⟩)) (by first | exact catEq | exact rfl)
            · exact ⟨by dsimp only; omega, by rw [hst]; rfl⟩
            · dsimp only; omega
          refine rSwRa_0 ?_
          (try refine wx_ungd rfl rfl ?_)
          apply wx_val
          exact v_load rfl rfl rfl (fun w' hr => hca hu hr (j := 4) rfl (by rw [Int.toNat_natCast]))
          rfl
          refine rSwRa_0 ?_
          refine wx_gif rfl rfl (fun h6 => ?_) (fun h6 => ?_)
          · refine rSwRa_0 ?_
            (try refine wx_ungd rfl rfl ?_)
            apply wx_val
            exact v_load rfl rfl rfl (fun w' hr => hca hd hr (j := 0) rfl (by rw [Int.toNat_natCast]))
            rfl
            refine rSwRa_0 ?_
            (try refine wx_ungd rfl rfl ?_)
            apply wx_val
            exact v_load rfl rfl rfl (fun w' hr => hca hu hr (j := 0) rfl (by rw [Int.toNat_natCast]))
            rfl
            refine rSwRa_0 ?_
            refine wc_if rfl (fun h7 => ?_) (fun h7 => ?_)
            · rw [if_pos (hlx.2 (by omega))] at hst
              refine rSwRa_0 ?_
              refine wq_roundK ((i + 1, (i : Nat))) ?_ ?_ (by repeat (first | exact trivial | refine ⟨rfl, ?_⟩)) (by first | exact catEq | exact rfl)
              · exact ⟨by dsimp only; omega, by rw [hst]; rfl⟩
              · dsimp only; omega
            · rw [if_neg (fun e => by have := hlx.1 e; omega)] at hst
              refine rSwRa_0 ?_
              refine wq_roundK ((i + 1, (b : Nat))) ?_ ?_ (by repeat (first | exact trivial | refine ⟨rfl, ?_⟩)) (by first | exact catEq | exact rfl)
              · exact ⟨by dsimp only; omega, by rw [hst]; rfl⟩
              · dsimp only; omega
          · rw [if_neg (fun e => by have := hlx.1 e; omega)] at hst
            refine rSwRa_0 ?_
            refine wq_roundK ((i + 1, (b : Nat))) ?_ ?_ (by repeat (first | exact trivial | refine ⟨rfl, ?_⟩)) (by first | exact catEq | exact rfl)
            · exact ⟨by dsimp only; omega, by rw [hst]; rfl⟩
            · dsimp only; omega
  · obtain rfl : i = E.length := by omega
    rw [hy]
    refine rSwRa_0 ?_
    exact wq_ret1T () rfl rfl trivial rfl
end Go.Proofs.Ytlioccfedophhaa
/- The rows of a log's sound transactions, sorted: in plain. -/
set_option linter.unusedVariables false
set_option linter.unusedSimpArgs false
namespace Go.Proofs.Ytlioccfedophhaa
open Go
set_option maxRecDepth 20000
set_option maxHeartbeats 1000000
def rS (p : Int) (t : TxnW) : RowW := ⟨2, t.start, 0, p, 0, 0, ⟨#[]⟩⟩
def rE (p : Int) (t : TxnW) : RowW := ⟨1, t.fin, 0, p, 0, 0, ⟨t.body.toArray⟩⟩
def evU (l : List TxnW) : Nat → List RowW
  | 0 => []
  | n + 1 => evU l n ++ (match l[n]? with
    | some t => if t.start < t.fin then [rS (n : Nat) t, rE (n : Nat) t] else []
    | none => [])
def evS (l : List TxnW) : List RowW := sortR 1 (evU l l.length)
theorem evU_step {l : List TxnW} {n : Nat} {t : TxnW} (h : l[n]? = some t) : evU l (n + 1) = evU l n ++ (if t.start < t.fin then [rS (n : Nat) t, rE (n : Nat) t] else []) := by
  conv => lhs; unfold evU
  rw [h]
theorem evU_len {l : List TxnW} : ∀ n, (evU l n).length ≤ 2 * n
  | 0 => Nat.le_refl _
  | n + 1 => by
    have := evU_len (l := l) n
    unfold evU
    rw [List.length_append]
    split
    · split <;> simp <;> omega
    · simp; omega
theorem evS_len (l : List TxnW) : (evS l).length ≤ 2 * l.length := by
  unfold evS
  rw [sortR_len 1 _ _ rfl]
  exact evU_len _
theorem evU_mem {l : List TxnW} {r : RowW} : ∀ {n : Nat}, r ∈ evU l n ↔ ∃ (i : Nat) (t : TxnW), i < n ∧ l[i]? = some t ∧ t.start < t.fin ∧ (r = rS (i : Nat) t ∨ r = rE (i : Nat) t)
  | 0 => ⟨fun h => (by cases h), fun ⟨i, t, h, _⟩ => (by omega)⟩
  | n + 1 => by
    have ih := evU_mem (l := l) (r := r) (n := n)
    unfold evU
    rw [List.mem_append, ih]
    constructor
    · rintro (⟨i, t, h1, h2⟩ | h)
      · exact ⟨i, t, by omega, h2⟩
      · split at h
        · rename_i t ht
          split at h
          · rename_i hc
            exact ⟨n, t, by omega, ht, hc, by simpa using h⟩
          · cases h
        · cases h
    · rintro ⟨i, t, h1, h2, h3, h4⟩
      by_cases hi : i = n
      · subst hi
        rw [h2]
        dsimp only
        rw [if_pos h3]
        exact .inr (by simpa using h4)
      · exact .inl ⟨i, t, by omega, h2, h3, h4⟩
theorem evS_mem {l : List TxnW} {r : RowW} : r ∈ evS l ↔ ∃ (i : Nat) (t : TxnW), l[i]? = some t ∧ t.start < t.fin ∧ (r = rS (i : Nat) t ∨ r = rE (i : Nat) t) := by
  unfold evS
  rw [(sortR_perm 1 _ _ rfl).mem_iff, evU_mem]
  constructor
  · rintro ⟨i, t, _, h⟩; exact ⟨i, t, h⟩
  · rintro ⟨i, t, h1, h2⟩; exact ⟨i, t, (List.getElem?_eq_some_iff.1 h1).1, h1, h2⟩
/-- no two rows have one place and one kind -/
theorem evU_apart {l : List TxnW} : ∀ n, (evU l n).Pairwise (fun x y => ¬ (x.index = y.index ∧ x.kind = y.kind))
  | 0 => .nil
  | n + 1 => by
    have ih := evU_apart (l := l) n
    unfold evU
    refine List.pairwise_append.2 ⟨ih, ?_, fun x hx y hy => ?_⟩
    · split
      · split
        · rename_i t _ _
          refine List.pairwise_cons.2 ⟨fun y hy => ?_, List.pairwise_singleton ..⟩
          rw [List.mem_singleton.1 hy]
          intro h
          have : (2 : Int) = 1 := h.2
          omega
        · exact .nil
      · exact .nil
    · obtain ⟨i, t, h1, _, _, h2⟩ := evU_mem.1 hx
      have hi : x.index = (i : Nat) := by rcases h2 with rfl | rfl <;> rfl
      have hy' : y.index = (n : Nat) := by
        split at hy
        · split at hy
          · rcases List.mem_cons.1 hy with rfl | hy
            · rfl
            · rw [List.mem_singleton.1 hy]; rfl
          · cases hy
        · cases hy
      intro h
      omega
def rowLe1 (x y : RowW) : Prop := ¬ rowBefore 1 y x
theorem rowLe1_trans {x y z : RowW} (h1 : rowLe1 x y) (h2 : rowLe1 y z) : rowLe1 x z := by
  unfold rowLe1 rowBefore at *; omega
theorem rowLe1_of {x y : RowW} (h : rowBefore 1 x y) : rowLe1 x y := by
  unfold rowLe1 rowBefore at *; omega
theorem mergeR_sorted1 : ∀ a b : List RowW, a.Pairwise rowLe1 → b.Pairwise rowLe1 → (mergeR 1 a b).Pairwise rowLe1 := by
  intro a b
  induction a, b using mergeR.induct (k := 1) with
  | case1 b => intro _ h; rw [mergeR]; exact h
  | case2 x a => intro h _; rw [mergeR]; exact h
  | case3 x a y b h ih =>
    intro ha hb
    rw [mergeR, if_pos h]
    obtain ⟨hb1, hb2⟩ := List.pairwise_cons.1 hb
    refine List.pairwise_cons.2 ⟨fun z hz => ?_, ih ha hb2⟩
    rcases List.mem_append.1 ((mergeR_perm 1 _ _).mem_iff.1 hz) with hz | hz
    · rcases List.mem_cons.1 hz with rfl | hz
      · exact rowLe1_of h
      · exact rowLe1_trans (rowLe1_of h) ((List.pairwise_cons.1 ha).1 z hz)
    · exact hb1 z hz
  | case4 x a y b h ih =>
    intro ha hb
    rw [mergeR, if_neg h]
    obtain ⟨ha1, ha2⟩ := List.pairwise_cons.1 ha
    refine List.pairwise_cons.2 ⟨fun z hz => ?_, ih ha2 hb⟩
    rcases List.mem_append.1 ((mergeR_perm 1 _ _).mem_iff.1 hz) with hz | hz
    · exact ha1 z hz
    · rcases List.mem_cons.1 hz with rfl | hz
      · exact h
      · exact rowLe1_trans h ((List.pairwise_cons.1 hb).1 z hz)
theorem sortR_sorted1 : ∀ n (l : List RowW), l.length = n → (sortR 1 l).Pairwise rowLe1 := by
  intro n
  induction n using Nat.strongRecOn with
  | _ n ih =>
    intro l hl
    rw [sortR]
    split
    · rename_i h
      match l, h with
      | [], _ => exact .nil
      | [x], _ => exact List.pairwise_singleton ..
    · exact mergeR_sorted1 _ _ (ih _ (by simp; omega) _ rfl) (ih _ (by simp; omega) _ rfl)
theorem evS_sorted (l : List TxnW) : (evS l).Pairwise (rowBefore 1) := by
  have h1 := sortR_sorted1 _ (evU l l.length) rfl
  have h2 : (evS l).Pairwise (fun x y => ¬ (x.index = y.index ∧ x.kind = y.kind)) :=
    (evU_apart l.length).perm (sortR_perm 1 _ _ rfl).symm fun {x y} h e => h ⟨e.1.symm, e.2.symm⟩
  refine (h1.and h2).imp fun {x y} h => ?_
  obtain ⟨h3, h4⟩ := h
  unfold rowLe1 rowBefore at *
  omega
/-- a row of the sorted rows that comes ahead of another stands ahead of it -/
theorem ev_take {l : List TxnW} {n : Nat} {r x : RowW} (hn : (evS l)[n]? = some r) (hx : x ∈ evS l) (hb : rowBefore 1 x r) : x ∈ (evS l).take n := by
  obtain ⟨m, hm⟩ := List.mem_iff_getElem?.1 hx
  obtain ⟨hm1, rfl⟩ := List.getElem?_eq_some_iff.1 hm
  obtain ⟨hn1, rfl⟩ := List.getElem?_eq_some_iff.1 hn
  have hlt : m < n := by
    rcases Nat.lt_trichotomy m n with h | h | h
    · exact h
    · subst h
      unfold rowBefore at hb
      omega
    · have := List.pairwise_iff_getElem.1 (evS_sorted l) n m hn1 hm1 h
      unfold rowBefore at hb this
      omega
  exact List.mem_iff_getElem?.2 ⟨m, by rw [List.getElem?_take_of_lt hlt]; exact List.getElem?_eq_getElem hm1⟩
/-- a row that stands ahead comes ahead -/
theorem ev_ahead {l : List TxnW} {n : Nat} {r x : RowW} (hn : (evS l)[n]? = some r) (hx : x ∈ (evS l).take n) : rowBefore 1 x r := by
  obtain ⟨m, hm⟩ := List.mem_iff_getElem?.1 hx
  obtain ⟨hn1, rfl⟩ := List.getElem?_eq_some_iff.1 hn
  have hml : m < n := by
    have := (List.getElem?_eq_some_iff.1 hm).1
    rw [List.length_take] at this
    omega
  rw [List.getElem?_take_of_lt hml] at hm
  obtain ⟨hm1, rfl⟩ := List.getElem?_eq_some_iff.1 hm
  exact List.pairwise_iff_getElem.1 (evS_sorted l) m n hm1 hn1 hml
theorem before_irrefl (r : RowW) : ¬ rowBefore 1 r r := by unfold rowBefore; omega
/-- the places begun among the first n rows -/
def bgN (R : List RowW) : Nat → List (Int × Int)
  | 0 => []
  | n + 1 => bgN R n ++ (match R[n]? with
    | some r => if r.kind = 2 then [(r.index, r.time)] else []
    | none => [])
/-- the transactions ended among the first n rows -/
def endN (R : List RowW) (l : List TxnW) : Nat → List DoneW
  | 0 => []
  | n + 1 => endN R l n ++ (match R[n]? with
    | some r => if r.kind = 1 then (match l[r.index.toNat]? with
      | some t => [⟨r.index, t⟩]
      | none => []) else []
    | none => [])
theorem bgN_mem {R : List RowW} {e : Int × Int} : ∀ {n : Nat}, e ∈ bgN R n ↔ ∃ r ∈ R.take n, r.kind = 2 ∧ e = (r.index, r.time)
  | 0 => ⟨fun h => (by cases h), fun ⟨r, h, _⟩ => (by simp at h)⟩
  | n + 1 => by
    have ih := bgN_mem (R := R) (e := e) (n := n)
    unfold bgN
    rw [List.mem_append, ih, List.take_add_one]
    constructor
    · rintro (⟨r, h1, h2⟩ | h)
      · exact ⟨r, List.mem_append.2 (.inl h1), h2⟩
      · split at h
        · rename_i r hr
          split at h
          · rename_i hk
            exact ⟨r, List.mem_append.2 (.inr (by rw [hr]; simp)), hk, List.mem_singleton.1 h⟩
          · cases h
        · cases h
    · rintro ⟨r, h1, h2, h3⟩
      rcases List.mem_append.1 h1 with h1 | h1
      · exact .inl ⟨r, h1, h2, h3⟩
      · cases hr : R[n]? with
        | none => rw [hr] at h1; cases h1
        | some x =>
          rw [hr] at h1
          have hx : r = x := by simpa using h1
          subst hx
          dsimp only
          rw [if_pos h2]
          exact .inr (List.mem_singleton.2 h3)
theorem endN_mem {R : List RowW} {l : List TxnW} {d : DoneW} : ∀ {n : Nat}, d ∈ endN R l n ↔ ∃ r ∈ R.take n, r.kind = 1 ∧ d.place = r.index ∧ l[r.index.toNat]? = some d.t
  | 0 => ⟨fun h => (by cases h), fun ⟨r, h, _⟩ => (by simp at h)⟩
  | n + 1 => by
    have ih := endN_mem (R := R) (l := l) (d := d) (n := n)
    unfold endN
    rw [List.mem_append, ih, List.take_add_one]
    constructor
    · rintro (⟨r, h1, h2⟩ | h)
      · exact ⟨r, List.mem_append.2 (.inl h1), h2⟩
      · split at h
        · rename_i r hr
          split at h
          · rename_i hk
            split at h
            · rename_i t ht
              have := List.mem_singleton.1 h
              subst this
              exact ⟨r, List.mem_append.2 (.inr (by rw [hr]; simp)), hk, rfl, ht⟩
            · cases h
          · cases h
        · cases h
    · rintro ⟨r, h1, h2, h3, h4⟩
      rcases List.mem_append.1 h1 with h1 | h1
      · exact .inl ⟨r, h1, h2, h3, h4⟩
      · cases hr : R[n]? with
        | none => rw [hr] at h1; cases h1
        | some x =>
          rw [hr] at h1
          have hx : r = x := by simpa using h1
          subst hx
          dsimp only
          rw [if_pos h2, h4]
          refine .inr (List.mem_singleton.2 ?_)
          cases d
          dsimp only at h3 ⊢
          rw [h3]
end Go.Proofs.Ytlioccfedophhaa
/- The sweep over a log's rows: each row is taken, and what is told is what the document declares. -/
set_option linter.unusedVariables false
set_option linter.unusedSimpArgs false
namespace Go.Proofs.Ytlioccfedophhaa
open Go
set_option maxRecDepth 20000
set_option maxHeartbeats 1000000
/-- what is told over the first n rows -/
def outL (R : List RowW) (l : List TxnW) : Nat → List ViolW
  | 0 => []
  | n + 1 => outL R l n ++ (match R[n]? with
    | some r => if r.kind = 1 then (match l[r.index.toNat]? with
      | some t => judgeD ((endN R l n).map DoneW.p) ⟨r.index, t.p⟩
      | none => []) else []
    | none => [])
def goneN (R : List RowW) (l : List TxnW) (n : Nat) (e : Int × Int) : Bool := !(endN R l n).any (fun d => decide (d.place = e.1))
structure SimI (R : List RowW) (l : List TxnW) (n : Nat) (st : StD) : Prop where
  inv : ∃ F, InvD st F
  br : st.broken = false
  begun : st.begun = (bgN R n).map Prod.fst
  opn : st.opn = (bgN R n).filter (goneN R l n)
  ended : st.ended = (endN R l n).map DoneW.p
  tk : st.taken = true → ∃ m, n = m + 1 ∧ R[m]? = some st.last
theorem SimI.zero (R : List RowW) (l : List TxnW) {limit : Int} (h : 0 ≤ limit ∧ limit ≤ 1048576) : SimI R l 0 (newS limit) :=
  ⟨⟨0, InvD.new h⟩, rfl, rfl, rfl, rfl, fun e => (by cases e)⟩
theorem toNatI (i : Nat) : ((i : Nat) : Int).toNat = i := rfl
/-- a right log -/
structure Fit (l : List TxnW) : Prop where
  len : l.length ≤ 4096
  ok : ∀ t ∈ l, t.err = 0
theorem Fit.fields {l : List TxnW} (h : Fit l) {t : TxnW} (ht : t ∈ l) : (0 ≤ t.start ∧ t.start ≤ 1099511627776) ∧ (0 ≤ t.fin ∧ t.fin ≤ 1099511627776) ∧ t.body.length ≤ 464 ∧ t.ops.xs.length ≤ 16 := by
  obtain ⟨h1, h2, h3⟩ := TxnW.ok_of (h.ok t ht)
  exact ⟨h1.2.2.1, h1.2.2.2.1, body_len h1 h2 h3, h2⟩
theorem ev_row {l : List TxnW} (h : Fit l) {r : RowW} (hr : r ∈ evS l) : r.Right ∧ r.kind ≠ 3 := by
  obtain ⟨i, t, h1, h2, h3⟩ := evS_mem.1 hr
  have hi := (List.getElem?_eq_some_iff.1 h1).1
  have hl := h.len
  obtain ⟨f1, f2, f3, _⟩ := h.fields (List.mem_of_getElem? h1)
  rcases h3 with rfl | rfl
  · refine ⟨⟨⟨by show (1 : Int) ≤ 2; omega, by show (2 : Int) ≤ 3; omega⟩, f1, ⟨by show (0 : Int) ≤ 0; omega, by show (0 : Int) ≤ 1048575; omega⟩, ⟨by show (0 : Int) ≤ (i : Nat); omega, by show ((i : Nat) : Int) ≤ 4095; omega⟩, ⟨by show (0 : Int) ≤ 0; omega, by show (0 : Int) ≤ 1099511627776; omega⟩, ⟨by show (0 : Int) ≤ 0; omega, by show (0 : Int) ≤ 1099511627776; omega⟩, Nat.zero_le _⟩, by show (2 : Int) ≠ 3; omega⟩
  · refine ⟨⟨⟨by show (1 : Int) ≤ 1; omega, by show (1 : Int) ≤ 3; omega⟩, f2, ⟨by show (0 : Int) ≤ 0; omega, by show (0 : Int) ≤ 1048575; omega⟩, ⟨by show (0 : Int) ≤ (i : Nat); omega, by show ((i : Nat) : Int) ≤ 4095; omega⟩, ⟨by show (0 : Int) ≤ 0; omega, by show (0 : Int) ≤ 1099511627776; omega⟩, ⟨by show (0 : Int) ≤ 0; omega, by show (0 : Int) ≤ 1099511627776; omega⟩, ?_⟩, by show (1 : Int) ≠ 3; omega⟩
    show t.body.toArray.size ≤ 512
    rw [List.size_toArray]
    omega
theorem ev_dec {l : List TxnW} (h : Fit l) {i : Nat} {t : TxnW} (ht : l[i]? = some t) : decR (bodyD (rE (i : Nat) t)) = (t.p, 0, 0) := dec_body (h.ok t (List.mem_of_getElem? ht))
theorem find_at {o : List (Int × Int)} {p s : Int} (hm : (p, s) ∈ o) (hu : ∀ e ∈ o, e.1 = p → e.2 = s) : startD o p = some s := by
  unfold startD
  cases hf : o.find? (fun e => decide (p = e.1)) with
  | none =>
    have := List.find?_eq_none.1 hf _ hm
    simp at this
  | some e =>
    have he := List.mem_of_find?_eq_some hf
    have hp : p = e.1 := by simpa using List.find?_some hf
    rw [Option.map_some, hu e he hp.symm]
theorem bg_two {l : List TxnW} {n : Nat} {i : Nat} {t : TxnW} (ht : l[i]? = some t) {e : Int × Int} (he : e ∈ bgN (evS l) n) (hp : e.1 = (i : Nat)) : rS (i : Nat) t ∈ (evS l).take n ∧ e.2 = t.start := by
  obtain ⟨x, hx, hk, rfl⟩ := bgN_mem.1 he
  obtain ⟨i', t', h1, _, h3⟩ := evS_mem.1 (List.mem_of_mem_take hx)
  rcases h3 with rfl | rfl
  · have : i' = i := by
      have : ((i' : Nat) : Int) = (i : Nat) := hp
      omega
    subst this
    rw [ht] at h1
    cases h1
    exact ⟨hx, rfl⟩
  · have : (1 : Int) = 2 := hk
    omega
theorem end_two {l : List TxnW} {n : Nat} {i : Nat} {t : TxnW} (ht : l[i]? = some t) {d : DoneW} (hd : d ∈ endN (evS l) l n) (hp : d.place = (i : Nat)) : rE (i : Nat) t ∈ (evS l).take n ∧ d.t = t := by
  obtain ⟨x, hx, hk, h4, h5⟩ := endN_mem.1 hd
  obtain ⟨i', t', h1, _, h3⟩ := evS_mem.1 (List.mem_of_mem_take hx)
  rcases h3 with rfl | rfl
  · have : (2 : Int) = 1 := hk
    omega
  · have : i' = i := by
      have : ((i' : Nat) : Int) = (i : Nat) := h4.symm.trans hp
      omega
    subst this
    rw [ht] at h1
    cases h1
    have h5' : l[i']? = some d.t := h5
    rw [ht] at h5'
    cases h5'
    exact ⟨hx, rfl⟩
/-- a row of the log is accepted -/
theorem sim_ok {l : List TxnW} (h : Fit l) {n : Nat} {st : StD} (hs : SimI (evS l) l n st) {r : RowW} (hr : (evS l)[n]? = some r) :
    (∃ (i : Nat) (t : TxnW), l[i]? = some t ∧ t.start < t.fin ∧ ((r = rS (i : Nat) t ∧ refuseD st r = (.zero, 0)) ∨ (r = rE (i : Nat) t ∧ refuseD st r = (t.p, 0)))) := by
  have hm := List.mem_of_getElem? hr
  obtain ⟨q1, q2⟩ := ev_row h hm
  obtain ⟨i, t, h1, h2, h3⟩ := evS_mem.1 hm
  refine ⟨i, t, h1, h2, ?_⟩
  have hb : ¬ st.broken = true := by rw [hs.br]; decide
  have h12 : ¬ (¬ r.Right ∨ r.kind = 3) := fun e => e.elim (fun e => e q1) q2
  have h13 : ¬ (st.taken = true ∧ ¬ rowBefore 1 st.last r) := by
    rintro ⟨e1, e2⟩
    obtain ⟨m, rfl, hm⟩ := hs.tk e1
    refine e2 (ev_ahead hr ?_)
    exact List.mem_iff_getElem?.2 ⟨m, by rw [List.getElem?_take_of_lt (by omega)]; exact hm⟩
  rcases h3 with rfl | rfl
  · refine .inl ⟨rfl, ?_⟩
    unfold refuseD
    rw [if_neg hb, if_neg h12, if_neg h13, if_pos (show (rS (i : Nat) t).kind = 2 from rfl), if_neg]
    rw [hs.begun]
    intro hc
    obtain ⟨e, he, hq⟩ := List.mem_map.1 hc
    exact before_irrefl _ (ev_ahead hr (bg_two h1 he hq).1)
  · refine .inr ⟨rfl, ?_⟩
    have hS : rS (i : Nat) t ∈ (evS l).take n := ev_take hr (evS_mem.2 ⟨i, t, h1, h2, .inl rfl⟩) (.inl ⟨rfl, .inl h2⟩)
    have hst : startD st.opn (i : Nat) = some t.start := by
      rw [hs.opn]
      refine find_at (List.mem_filter.2 ⟨bgN_mem.2 ⟨_, hS, rfl, rfl⟩, ?_⟩) fun e he hp => (bg_two h1 (List.mem_filter.1 he).1 hp).2
      unfold goneN
      rw [Bool.not_eq_true', List.any_eq_false]
      intro d hd hp
      exact before_irrefl _ (ev_ahead hr (end_two h1 hd (of_decide_eq_true hp)).1)
    have hd := ev_dec h h1
    unfold refuseD
    rw [if_neg hb, if_neg h12, if_neg h13, if_neg (show ¬ (rE (i : Nat) t).kind = 2 by show ¬ (1 : Int) = 2; omega)]
    rw [show startD st.opn (rE (i : Nat) t).index = some t.start from hst]
    dsimp only
    rw [hd, if_neg]
    rintro (e | e | e)
    · exact e rfl
    · exact e rfl
    · exact e rfl
theorem bg_step {R : List RowW} {n : Nat} {r : RowW} (h : R[n]? = some r) : bgN R (n + 1) = bgN R n ++ (if r.kind = 2 then [(r.index, r.time)] else []) := by
  conv => lhs; unfold bgN
  rw [h]
theorem end_step {R : List RowW} {l : List TxnW} {n : Nat} {r : RowW} (h : R[n]? = some r) : endN R l (n + 1) = endN R l n ++ (if r.kind = 1 then (match l[r.index.toNat]? with
      | some t => [⟨r.index, t⟩]
      | none => []) else []) := by
  conv => lhs; unfold endN
  rw [h]
  try rfl
theorem outL_step {R : List RowW} {l : List TxnW} {n : Nat} {r : RowW} (h : R[n]? = some r) : outL R l (n + 1) = outL R l n ++ (if r.kind = 1 then (match l[r.index.toNat]? with
      | some t => judgeD ((endN R l n).map DoneW.p) ⟨r.index, t.p⟩
      | none => []) else []) := by
  conv => lhs; unfold outL
  rw [h]
/-- what is told of one row -/
def tellN (R : List RowW) (l : List TxnW) (n : Nat) : List ViolW := match R[n]? with
  | some r => if r.kind = 1 then (match l[r.index.toNat]? with
    | some t => judgeD ((endN R l n).map DoneW.p) ⟨r.index, t.p⟩
    | none => []) else []
  | none => []
theorem outL_tell (R : List RowW) (l : List TxnW) (n : Nat) : outL R l (n + 1) = outL R l n ++ tellN R l n := rfl
/-- one row taken: the state, apart from the limit -/
theorem sim_step {l : List TxnW} (h : Fit l) {n : Nat} {st : StD} (hs : SimI (evS l) l n st) {r : RowW} (hr : (evS l)[n]? = some r) (hc : (takeD st r).1.2 = 0) : (takeD st r).1.1 = tellN (evS l) l n ∧ SimI (evS l) l (n + 1) (takeD st r).2 := by
  obtain ⟨i, t, h1, h2, h3⟩ := sim_ok h hs hr
  obtain ⟨F, hF⟩ := hs.inv
  obtain ⟨F', _, hF'⟩ := hF.take r
  rcases h3 with ⟨rfl, h3⟩ | ⟨rfl, h3⟩
  · have et : tellN (evS l) l n = [] := by unfold tellN; rw [hr]; exact if_neg (show ¬ (2 : Int) = 1 by omega)
    have e : takeD st (rS (i : Nat) t) = (([], (holdD (beginD st (rS (i : Nat) t))).1), (holdD (beginD st (rS (i : Nat) t))).2) := by
      unfold takeD
      rw [h3, if_neg (by decide), if_pos (show (rS (i : Nat) t).kind = 2 from rfl)]
    rw [e] at hc hF' ⊢
    obtain ⟨e2, _⟩ : (holdD (beginD st (rS (i : Nat) t))).2 = { beginD st (rS (i : Nat) t) with most := max (beginD st (rS (i : Nat) t)).most ((beginD st (rS (i : Nat) t)).n : Int) } ∧ True := by
      refine ⟨?_, trivial⟩
      unfold holdD at hc ⊢
      split
      · rename_i h5
        rw [if_pos h5] at hc
        have : (164 : Int) = 0 := hc
        omega
      · rfl
    have hbg := bg_step hr
    have hen := end_step (l := l) hr
    rw [if_pos (show (rS (i : Nat) t).kind = 2 from rfl)] at hbg
    rw [if_neg (show ¬ (rS (i : Nat) t).kind = 1 by show ¬ (2 : Int) = 1; omega), List.append_nil] at hen
    refine ⟨by rw [et], ⟨F', hF'⟩, ?_, ?_, ?_, ?_, ?_⟩
    · dsimp only
      rw [e2]
      exact hs.br
    · dsimp only
      rw [e2, hbg, List.map_append, ← hs.begun]
      rfl
    · dsimp only
      rw [e2, hbg, List.filter_append]
      show st.opn ++ [(((i : Nat) : Int), t.start)] = _
      have eg : goneN (evS l) l (n + 1) = goneN (evS l) l n := by funext e; unfold goneN; rw [hen]
      rw [eg, hs.opn]
      congr 1
      have : goneN (evS l) l n (((i : Nat) : Int), t.start) = true := by
        unfold goneN
        rw [Bool.not_eq_true', List.any_eq_false]
        intro d hd hp
        have hx := ev_ahead hr (end_two h1 hd (of_decide_eq_true hp)).1
        unfold rowBefore at hx
        have e1 : (rE (i : Nat) t).time = t.fin := rfl
        have e2 : (rS (i : Nat) t).time = t.start := rfl
        rw [e1, e2] at hx
        omega
      show _ = [(((i : Nat) : Int), t.start)].filter _
      rw [List.filter_cons_of_pos this]
      rfl
    · dsimp only
      rw [e2, hen, ← hs.ended]
      rfl
    · dsimp only
      rw [e2]
      exact fun _ => ⟨n, rfl, hr⟩
  · have hk1 : (rE (i : Nat) t).kind = 1 := rfl
    have hk2 : ¬ (rE (i : Nat) t).kind = 2 := by show ¬ (1 : Int) = 2; omega
    have hli : l[(rE (i : Nat) t).index.toNat]? = some t := h1
    have et : tellN (evS l) l n = judgeD ((endN (evS l) l n).map DoneW.p) ⟨(i : Nat), t.p⟩ := by
      unfold tellN
      rw [hr]
      dsimp only
      rw [if_pos hk1, hli]
      rfl
    by_cases hh : (holdD (endD st (rE (i : Nat) t) t.p)).1 = 0
    · have e : takeD st (rE (i : Nat) t) = ((judgeD st.ended ⟨(i : Nat), t.p⟩, 0), { (holdD (endD st (rE (i : Nat) t) t.p)).2 with held := pruneD (floorD (rE (i : Nat) t).time (endD st (rE (i : Nat) t) t.p).opn) (endD st (rE (i : Nat) t) t.p).held }) := by
        unfold takeD
        rw [h3]
        dsimp only
        rw [if_neg (by decide), if_neg hk2, if_neg (by rw [hh]; decide)]
        rfl
      rw [e] at hc hF' ⊢
      obtain ⟨e2, _⟩ : (holdD (endD st (rE (i : Nat) t) t.p)).2 = { endD st (rE (i : Nat) t) t.p with most := max (endD st (rE (i : Nat) t) t.p).most ((endD st (rE (i : Nat) t) t.p).n : Int) } ∧ True := by
        refine ⟨?_, trivial⟩
        unfold holdD at hh ⊢
        split
        · rename_i h5
          rw [if_pos h5] at hh
          have : (164 : Int) = 0 := hh
          omega
        · rfl
      have hbg := bg_step hr
      have hen := end_step (l := l) hr
      rw [if_neg hk2, List.append_nil] at hbg
      rw [if_pos hk1, hli] at hen
      dsimp only at hen
      refine ⟨by rw [et, ← hs.ended], ⟨F', hF'⟩, ?_, ?_, ?_, ?_, ?_⟩
      · dsimp only
        rw [e2]
        exact hs.br
      · dsimp only
        rw [e2, hbg, ← hs.begun]
        rfl
      · dsimp only
        rw [e2, hbg]
        show st.opn.filter (fun e => decide (((i : Nat) : Int) ≠ e.1)) = _
        rw [hs.opn, List.filter_filter]
        refine List.filter_congr fun e _ => ?_
        unfold goneN
        rw [hen, List.any_append, Bool.not_or, Bool.and_comm]
        congr 1
        simp [rE]
      · dsimp only
        rw [e2, hen, List.map_append, ← hs.ended]
        rfl
      · dsimp only
        rw [e2]
        exact fun _ => ⟨n, rfl, hr⟩
    · exfalso
      have : (takeD st (rE (i : Nat) t)).1.2 = (holdD (endD st (rE (i : Nat) t) t.p)).1 := by
        unfold takeD
        rw [h3]
        dsimp only
        rw [if_neg (by decide), if_neg hk2, if_pos hh]
      rw [this] at hc
      exact hh hc
end Go.Proofs.Ytlioccfedophhaa
/- The sweep over a log's rows, with limit enough. -/
set_option linter.unusedVariables false
set_option linter.unusedSimpArgs false
namespace Go.Proofs.Ytlioccfedophhaa
open Go
set_option maxRecDepth 20000
set_option maxHeartbeats 1000000
theorem hold_limit (st : StD) : (holdD st).2.limit = st.limit := by unfold holdD; split <;> rfl
theorem take_limit (st : StD) (r : RowW) : (takeD st r).2.limit = st.limit := by
  unfold takeD
  split
  · rfl
  · split
    · exact hold_limit _
    · split
      · exact hold_limit _
      · exact hold_limit _
/-- the state that is held against the limit when a row is taken -/
def midD (st : StD) (r : RowW) : Nat := if r.kind = 2 then (beginD st r).n else (endD st r (refuseD st r).1).n
theorem hold_code (st : StD) : (holdD st).1 = if st.limit < (st.n : Int) then 164 else 0 := by unfold holdD; split <;> rfl
theorem take_code {st : StD} {r : RowW} (h : (refuseD st r).2 = 0) : (takeD st r).1.2 = if st.limit < (midD st r : Int) then 164 else 0 := by
  unfold takeD midD
  rw [if_neg (by rw [h]; decide)]
  by_cases hk : r.kind = 2
  · rw [if_pos hk, if_pos hk]
    exact hold_code _
  · rw [if_neg hk, if_neg hk]
    have hc := hold_code (endD st r (refuseD st r).1)
    by_cases h0 : (holdD (endD st r (refuseD st r).1)).1 ≠ 0
    · rw [if_pos h0]
      exact hc
    · rw [if_neg h0]
      have h1 : (holdD (endD st r (refuseD st r).1)).1 = 0 := Decidable.not_not.1 h0
      rw [h1] at hc
      exact hc
theorem mid_le {st : StD} {F : Int} (h : InvD st F) {r : RowW} (hr : (refuseD st r).2 = 0) : midD st r ≤ 69632 := by
  unfold midD
  by_cases hk : r.kind = 2
  · rw [if_pos hk]
    exact (h.begin hr hk).n_le
  · rw [if_neg hk]
    exact (h.finish hr hk (h.ended hr hk)).n_le
theorem sim_refuse {l : List TxnW} (h : Fit l) {n : Nat} {st : StD} (hs : SimI (evS l) l n st) {r : RowW} (hr : (evS l)[n]? = some r) : (refuseD st r).2 = 0 := by
  obtain ⟨i, t, _, _, h3⟩ := sim_ok h hs hr
  rcases h3 with ⟨_, h3⟩ | ⟨_, h3⟩ <;> rw [h3]
/-- the states over a log's rows -/
def stL (limit : Int) (R : List RowW) : Nat → StD
  | 0 => newS limit
  | n + 1 => match R[n]? with
    | some r => (takeD (stL limit R n) r).2
    | none => stL limit R n
theorem stL_step {limit : Int} {R : List RowW} {n : Nat} {r : RowW} (h : R[n]? = some r) : stL limit R (n + 1) = (takeD (stL limit R n) r).2 := by
  conv => lhs; unfold stL
  rw [h]
theorem stL_limit (limit : Int) (R : List RowW) : ∀ n, (stL limit R n).limit = limit
  | 0 => rfl
  | n + 1 => by
    have ih := stL_limit limit R n
    unfold stL
    split
    · rw [take_limit, ih]
    · exact ih
theorem sim_all {l : List TxnW} (h : Fit l) : ∀ n, n ≤ (evS l).length → SimI (evS l) l n (stL 1048576 (evS l) n)
  | 0, _ => SimI.zero _ _ ⟨by decide, by decide⟩
  | n + 1, hn => by
    have ih := sim_all h n (by omega)
    obtain ⟨r, hr⟩ : ∃ r, (evS l)[n]? = some r := ⟨(evS l)[n]'(by omega), List.getElem?_eq_getElem _⟩
    rw [stL_step hr]
    refine (sim_step h ih hr ?_).2
    have h0 := sim_refuse h ih hr
    obtain ⟨F, hF⟩ := ih.inv
    have hm := mid_le hF h0
    rw [take_code h0, stL_limit, if_neg (by omega)]
theorem end_srt {l : List TxnW} (h : Fit l) {n : Nat} (hn : n ≤ (evS l).length) : SrtD ((endN (evS l) l n).map DoneW.p) := by
  have hs := sim_all h n hn
  obtain ⟨F, hF⟩ := hs.inv
  have := hF.srt
  rw [hs.ended] at this
  exact this
theorem sim_tell {l : List TxnW} (h : Fit l) {n : Nat} {r : RowW} (hr : (evS l)[n]? = some r) : (takeD (stL 1048576 (evS l) n) r).1 = (tellN (evS l) l n, 0) := by
  have hn := (List.getElem?_eq_some_iff.1 hr).1
  have hs := sim_all h n (by omega)
  have h0 := sim_refuse h hs hr
  obtain ⟨F, hF⟩ := hs.inv
  have hm := mid_le hF h0
  have hc : (takeD (stL 1048576 (evS l) n) r).1.2 = 0 := by rw [take_code h0, stL_limit, if_neg (by omega)]
  exact Prod.ext (sim_step h hs hr hc).1 hc
theorem end_len {l : List TxnW} (h : Fit l) {n : Nat} (hn : n ≤ (evS l).length) : (endN (evS l) l n).length ≤ 4096 := by
  have hs := sim_all h n hn
  obtain ⟨F, hF⟩ := hs.inv
  have := hF.len
  rw [hs.ended, List.length_map] at this
  omega
theorem end_in {l : List TxnW} {n : Nat} {d : DoneW} (h : d ∈ endN (evS l) l n) : d.t ∈ l := by
  obtain ⟨r, _, _, _, h4⟩ := endN_mem.1 h
  exact List.mem_of_getElem? h4
theorem tell_len {l : List TxnW} (h : Fit l) (n : Nat) : (tellN (evS l) l n).length ≤ 49 := by
  unfold tellN
  split
  · split
    · split
      · rename_i t ht
        have := (h.fields (List.mem_of_getElem? ht)).2.2.2
        refine Nat.le_trans (judgeQ_len _ _ _ _ _) ?_
        show 3 * t.ops.xs.length + 1 ≤ 49
        omega
      · exact Nat.zero_le _
    · exact Nat.zero_le _
  · exact Nat.zero_le _
theorem outL_len {l : List TxnW} (h : Fit l) : ∀ n, (outL (evS l) l n).length ≤ 49 * n
  | 0 => Nat.zero_le _
  | n + 1 => by
    have ih := outL_len h n
    have := tell_len h n
    rw [outL_tell, List.length_append]
    omega
end Go.Proofs.Ytlioccfedophhaa
/- The sweep over a log's rows, under any limit. -/
set_option linter.unusedVariables false
set_option linter.unusedSimpArgs false
namespace Go.Proofs.Ytlioccfedophhaa
open Go
set_option maxRecDepth 20000
set_option maxHeartbeats 1000000
/-- the limit isn't passed over the first n rows -/
def okB (limit : Int) (R : List RowW) : Nat → Bool
  | 0 => true
  | n + 1 => okB limit R n && (match R[n]? with
    | some r => decide ((midD (stL limit R n) r : Int) ≤ limit)
    | none => true)
theorem okB_step {limit : Int} {R : List RowW} {n : Nat} {r : RowW} (h : R[n]? = some r) : okB limit R (n + 1) = (okB limit R n && decide ((midD (stL limit R n) r : Int) ≤ limit)) := by
  conv => lhs; unfold okB
  rw [h]
theorem okB_le {limit : Int} {R : List RowW} : ∀ {n m : Nat}, m ≤ n → okB limit R n = true → okB limit R m = true
  | 0, m, hm, h => by rw [show m = 0 by omega]; exact h
  | n + 1, m, hm, h => by
    by_cases e : m = n + 1
    · rw [e]; exact h
    · refine okB_le (n := n) (by omega) ?_
      unfold okB at h
      rw [Bool.and_eq_true] at h
      exact h.1
theorem sim_any {l : List TxnW} (h : Fit l) {limit : Int} (hl : 0 ≤ limit ∧ limit ≤ 1048576) : ∀ n, n ≤ (evS l).length → okB limit (evS l) n = true → SimI (evS l) l n (stL limit (evS l) n)
  | 0, _, _ => SimI.zero _ _ hl
  | n + 1, hn, ho => by
    have ih := sim_any h hl n (by omega) (okB_le (by omega) ho)
    obtain ⟨r, hr⟩ : ∃ r, (evS l)[n]? = some r := ⟨(evS l)[n]'(by omega), List.getElem?_eq_getElem _⟩
    rw [stL_step hr]
    rw [okB_step hr, Bool.and_eq_true, decide_eq_true_iff] at ho
    refine (sim_step h ih hr ?_).2
    rw [take_code (sim_refuse h ih hr), stL_limit, if_neg (by omega)]
/-- what a row of the log answers under a limit -/
theorem any_tell {l : List TxnW} (h : Fit l) {limit : Int} (hl : 0 ≤ limit ∧ limit ≤ 1048576) {n : Nat} {r : RowW} (hr : (evS l)[n]? = some r) (ho : okB limit (evS l) n = true) :
    (okB limit (evS l) (n + 1) = true ∧ (takeD (stL limit (evS l) n) r).1 = (tellN (evS l) l n, 0)) ∨ (okB limit (evS l) (n + 1) = false ∧ (takeD (stL limit (evS l) n) r).1 = ([], 164) ∧ (takeD (stL limit (evS l) n) r).2.broken = true) := by
  have hn := (List.getElem?_eq_some_iff.1 hr).1
  have hs := sim_any h hl n (by omega) ho
  have h0 := sim_refuse h hs hr
  have hc := take_code h0
  rw [stL_limit] at hc
  rw [okB_step hr, ho, Bool.true_and]
  by_cases hm : (midD (stL limit (evS l) n) r : Int) ≤ limit
  · rw [if_neg (by omega)] at hc
    exact .inl ⟨decide_eq_true hm, Prod.ext (sim_step h hs hr hc).1 hc⟩
  · rw [if_pos (by omega)] at hc
    refine .inr ⟨decide_eq_false hm, ?_⟩
    unfold takeD at hc ⊢
    rw [if_neg (by rw [h0]; decide)] at hc ⊢
    have hb : ∀ st' : StD, (holdD st').1 = 164 → (holdD st').2.broken = true := fun st' e => by
      unfold holdD at e ⊢
      split
      · rfl
      · rename_i h5
        rw [if_neg h5] at e
        have : (0 : Int) = 164 := e
        omega
    by_cases hk : r.kind = 2
    · rw [if_pos hk] at hc ⊢
      have hc' : (holdD (beginD (stL limit (evS l) n) r)).1 = 164 := hc
      exact ⟨by rw [hc'], hb _ hc'⟩
    · rw [if_neg hk] at hc ⊢
      by_cases h5 : (holdD (endD (stL limit (evS l) n) r (refuseD (stL limit (evS l) n) r).1)).1 ≠ 0
      · rw [if_pos h5] at hc ⊢
        have hc' : (holdD (endD (stL limit (evS l) n) r (refuseD (stL limit (evS l) n) r).1)).1 = 164 := hc
        exact ⟨by rw [hc'], hb _ hc'⟩
      · rw [if_neg h5] at hc
        have : (0 : Int) = 164 := hc
        omega
theorem ok_big {l : List TxnW} (h : Fit l) : ∀ n, n ≤ (evS l).length → okB 1048576 (evS l) n = true
  | 0, _ => rfl
  | n + 1, hn => by
    have ih := ok_big h n (by omega)
    obtain ⟨r, hr⟩ : ∃ r, (evS l)[n]? = some r := ⟨(evS l)[n]'(by omega), List.getElem?_eq_getElem _⟩
    have hs := sim_any h ⟨by decide, by decide⟩ n (by omega) ih
    obtain ⟨F, hF⟩ := hs.inv
    have := mid_le hF (sim_refuse h hs hr)
    rw [okB_step hr, ih, Bool.true_and, decide_eq_true_iff]
    omega
/-- at the end no transaction is open -/
theorem end_open {l : List TxnW} {st : StD} (hs : SimI (evS l) l (evS l).length st) : st.opn = [] := by
  rw [hs.opn, List.filter_eq_nil_iff]
  intro e he
  obtain ⟨x, hx, hk, rfl⟩ := bgN_mem.1 he
  rw [List.take_length] at hx
  obtain ⟨i, t, h1, h2, h3⟩ := evS_mem.1 hx
  rcases h3 with rfl | rfl
  · unfold goneN
    rw [Bool.not_eq_true, Bool.not_eq_false', List.any_eq_true]
    refine ⟨⟨(i : Nat), t⟩, endN_mem.2 ⟨rE (i : Nat) t, ?_, rfl, rfl, h1⟩, decide_eq_true rfl⟩
    rw [List.take_length]
    exact evS_mem.2 ⟨i, t, h1, h2, .inr rfl⟩
  · have : (1 : Int) = 2 := hk
    omega
end Go.Proofs.Ytlioccfedophhaa
/- The sweep laws' own functions: back, fit, anchor. -/
set_option linter.unusedVariables false
set_option linter.unusedSimpArgs false
namespace Go.Proofs.Ytlioccfedophhaa
open Go
set_option maxRecDepth 20000
set_option maxHeartbeats 2000000
attribute [local irreducible] WX WC WQ Val VCall WY WR
theorem rSwLa_0 {A B : Prop} (k : B) (h : Hold B → A := by intro k; (repeat (first | (apply wx_val; (first | exact v_move rfl | exact v_assign rfl | exact v_faddr rfl rfl | exact v_ldT rfl rfl rfl (by rfl) | exact v_extract rfl rfl | exact v_len rfl rfl | exact v_eq rfl rfl | exact v_ne rfl rfl | exact v_lt rfl rfl | exact v_gt rfl rfl | exact v_eqnil rfl rfl rfl | exact v_streq rfl rfl | exact v_addi rfl rfl (by omega) | exact v_pickT rfl rfl | exact v_pickF rfl rfl | exact v_iaddrE (by assumption) rfl rfl rfl (by omega) | (first | exact v_ldQ 0 0 rfl rfl rfl rfl rfl)); rfl) | refine wx_ungd rfl rfl ?_ | refine wc_seq ?_ | refine wc_region ?_ | refine wx_nil ?_ | refine wq_next ?_ | refine wc_block ?_ | refine wc_ret ?_ | refine wc_skip ?_ | refine wc_exit ?_ | refine wq_then_ret ?_ | refine wq_then_exit ?_ | refine wq_block ?_ | refine wq_block_ret ?_ | refine wq_block_exit rfl ?_ | refine wx_setn ?_ | refine wq_setn ?_ | refine wc_condF rfl ?_ | refine wl_stAT rfl rfl (by rfl) (by rfl) (by exact .inl (Nat.le_refl _)) rfl ?_)); exact k.out) : A := h ⟨k⟩
theorem back_spec (r : RowW) (w : World) : Calls Try.prog 16 #[.agg r.cells.toArray] w (Ret (β := Unit) w (ids []) (fun _ => .agg r.cells.toArray) (fun _ => []) (fun _ => True)) := by
  refine go [.agg r.cells.toArray] [] Try.func16 Try.ntmps16 rfl rfl (own_nil w) ?_
  refine rSwLa_0 ?_
  refine wl_boxA rfl rfl (fun g1 => ?_)
  refine wl_alloc rfl rfl (fun g2 => ?_)
  refine rSwLa_0 ?_
  (try refine wx_ungd rfl rfl ?_)
  apply wx_val
  exact v_build (cs := (r.cells).toArray) rfl (by kernel_rfl)
  rfl
  refine rSwLa_0 ?_
  exact wq_retAT (cs := r.cells) () rfl rfl rfl rfl trivial rfl
theorem fit_spec {A : Option Addr} {c : Nat} {l : List TxnW} (w : World) (hv : Vw [] w A (l.flatMap TxnW.cells)) (ht : ∀ t ∈ l, t.Reads w) :
    Calls Try.prog 11 #[.slice A l.length c] w (Ret (β := Unit) w (ids []) (fun _ => .bool (decide (l.length ≤ 4096 ∧ ∀ t ∈ l, t.err = 0))) (fun _ => []) (fun _ => True)) := by
  refine go [.slice A l.length c] [] Try.func11 Try.ntmps11 rfl rfl (own_nil w) ?_
  refine rSwLa_0 ?_
  refine wc_if rfl (fun h1 => ?_) (fun h1 => ?_)
  · rw [decide_eq_false (fun e => by have := e.1; omega)]
    refine rSwLa_0 ?_
    exact wq_ret1T () rfl rfl trivial rfl
  refine rSwLa_0 ?_
  refine wc_loopK (ι := Nat) [8, 9] (fun i => [(10, .int .i64 (i : Nat))]) (fun i => []) (fun i => i ≤ l.length ∧ ∀ (j : Nat) (t : TxnW), j < i → l[j]? = some t → t.err = 0) (fun i => l.length - i) (0) rfl ?_ (by repeat (first | exact trivial | refine ⟨rfl, ?_⟩)) ?_
  · exact ⟨Nat.zero_le _, fun j t hj => by omega⟩
  rintro i ⟨hi, h2⟩
  try dsimp only
  refine wc_fcat ?_
  refine wc_cat ?_
  refine rSwLa_0 ?_
  refine wc_if rfl (fun h3 => ?_) (fun h3 => ?_)
  · obtain ⟨t, hti⟩ : ∃ t, l[i]? = some t := ⟨l[i]'(by omega), List.getElem?_eq_getElem _⟩
    obtain ⟨gA, oA, hA, hca⟩ := hv.elZ (k := 8) (by decide) (fun _ => rfl) (by omega)
    have hm := List.mem_of_getElem? hti
    refine rSwLa_0 ?_
    (try refine wx_ungd rfl rfl ?_)
    apply wx_val
    exact v_loadA (cs := t.cells) rfl rfl (fun w' hr u x hj => hca hti hr hj (by rw [Int.toNat_natCast]))
    rfl
    skip
    refine wl_alloc rfl rfl (fun g4 => ?_)
    refine rSwLa_0 ?_
    (try refine wx_ungd rfl rfl ?_)
    refine wx_vcall (vc_pure' rfl rfl (fun w' hr => refValid_spec t w' (Vw.keep (ht t hm) hr))) rfl ?_
    refine rSwLa_0 ?_
    refine wc_if rfl (fun h4 => ?_) (fun h4 => ?_)
    · rw [decide_eq_false (fun e => h4 (e.2 t hm))]
      refine rSwLa_0 ?_
      exact wq_ret1T () rfl rfl trivial rfl
    · refine rSwLa_0 ?_
      refine wq_roundK (i + 1) ?_ ?_ (by repeat (first | exact trivial | refine ⟨rfl, ?_⟩)) (by first | exact catEq | exact rfl)
      · refine ⟨by omega, fun j x hj hx => ?_⟩
        by_cases e : j = i
        · subst e
          rw [hti] at hx
          cases hx
          exact Decidable.not_not.1 h4
        · exact h2 j x (by omega) hx
      · omega
  · rw [decide_eq_true ⟨by omega, fun t hm => by
      obtain ⟨j, hj⟩ := List.mem_iff_getElem?.1 hm
      exact h2 j t (by have := (List.getElem?_eq_some_iff.1 hj).1; omega) hj⟩]
    refine rSwLa_0 ?_
    exact wq_ret1T () rfl rfl trivial rfl
def ancT : TxnP := ⟨0, 0, 1, 2, 1, 2, 1, [⟨1, ⟨#[97]⟩, true, ⟨#[120]⟩⟩]⟩
def ancB : List UInt8 := [0, 0, 1, 2, 1, 2, 1, 1, 1, 1, 97, 1, 120]
def ancR1 : RowW := ⟨2, 1, 0, 0, 0, 0, ⟨#[]⟩⟩
def ancR2 : RowW := ⟨1, 2, 0, 0, 0, 0, ⟨ancB.toArray⟩⟩
def ancV : ViolW := ⟨7, 2, 0, 0, -1, ⟨#[97]⟩, false, ⟨#[]⟩, true, ⟨#[120]⟩, 0, 1⟩
theorem anc_err (A : Option Addr) (c : Nat) : (ancT.w A c).err = 0 := by
  refine err0 ?_ ?_ ?_
  · unfold TxnW.FieldsOk
    dsimp only [ancT, TxnP.w]
    decide
  · dsimp only [ancT, TxnP.w]
    decide
  · intro o ho
    have : o = ⟨1, ⟨#[97]⟩, true, ⟨#[120]⟩⟩ := by simpa [ancT, TxnP.w] using ho
    subst this
    unfold OpW.Right
    decide
theorem anc_body (A : Option Addr) (c : Nat) : (ancT.w A c).encB = ancB := by
  rw [TxnW.encB, if_pos (anc_err A c)]
  have h : ∀ n : Nat, n < 128 → formI n = [UInt8.ofNat n] := fun n hn => by
    unfold formI
    rw [if_neg (by omega)]
    exact formN_lt (by simpa using hn)
  have e1 : (ancT.w A c).ints = [((0 : Nat) : Int), ((0 : Nat) : Int), ((1 : Nat) : Int), ((2 : Nat) : Int), ((1 : Nat) : Int), ((2 : Nat) : Int), ((1 : Nat) : Int), ((1 : Nat) : Int)] := rfl
  have t1 : textB ⟨#[97]⟩ = [1, 97] := by
    unfold textB
    rw [formN_lt (by decide)]; rfl
  have t2 : textB ⟨#[120]⟩ = [1, 120] := by
    unfold textB
    rw [formN_lt (by decide)]; rfl
  have e2 : opsB (ancT.w A c).ops.xs = [1, 1, 97, 1, 120] := by
    show OpW.bytes ⟨1, ⟨#[97]⟩, true, ⟨#[120]⟩⟩ ++ [] = _
    unfold OpW.bytes
    dsimp only
    rw [t1, t2]; rfl
  unfold TxnW.body
  rw [e1, e2]
  simp only [intsB, List.flatMap_cons, List.flatMap_nil]
  rw [h 1 (by decide), h 0 (by decide), h 2 (by decide)]
  rfl
theorem anc_t1 : (takeD (newS 5) ancR1).1 = ([], 0) := by rfl
theorem anc_t2 : (takeD (takeD (newS 5) ancR1).2 ancR2).1 = ([ancV], 0) := by rfl
theorem newW_ok {limit : Int} {s : SwW} (h : ∃ m1 m2 gs gf, s = newW limit m1 m2 gs gf) {mc : Nat} {q : Fo} (hq : FoOk 0 [] q) (hl : 0 ≤ limit ∧ limit ≤ 1048576) : SwI (newS limit) 0 ⟨s, [], 0, [], 0, mc, 0, [], 0, q, []⟩ := by
  obtain ⟨m1, m2, gs, gf, rfl⟩ := h
  exact ⟨rfl, rfl, fun _ => ⟨InvD.new hl, rfl, rfl, rfl, rfl, .nil 0, rfl, .nil 0, .nil, rfl, hq, fun k s => ⟨fun h => (by cases h), fun ⟨d, h, _⟩ => (by cases h)⟩, TwI.nil _ _⟩⟩
theorem anchor_spec (w : World) : Calls Try.prog 10 #[] w (Ret (β := Unit) w (ids []) (fun _ => .bool true) (fun _ => []) (fun _ => True)) := by
  refine go [] [] Try.func10 Try.ntmps10 rfl rfl (own_nil w) ?_
  refine rSwLa_0 ?_
  refine wl_callT (fun w' hr ho => swNew_yes 5 ⟨by decide, by decide⟩ w') rfl rfl rfl ?_
  rintro ⟨g, s, mc, q⟩ ⟨hs, hq⟩
  dsimp only at hs hq ⊢
  refine wx_cat ?_
  have h0 := newW_ok (mc := mc) hs hq ⟨by decide, by decide⟩
  refine rSwLa_0 ?_
  (try refine wx_ungd rfl rfl ?_)
  apply wx_val
  exact v_build (cs := ((OpW.cells ⟨1, ⟨#[97]⟩, true, ⟨#[120]⟩⟩)).toArray) rfl (by kernel_rfl)
  rfl
  refine wl_litB rfl rfl rfl rfl rfl (by decide) rfl (fun g9 E9 hb9 => ?_)
  have hbo : BufO ancT.ops (some ⟨g9, 0, none⟩, 1, E9) := hb9
  (try refine wx_ungd rfl rfl ?_)
  apply wx_val
  exact v_build (cs := ((ancT.cells (some ⟨g9, 0, none⟩) 1)).toArray) rfl (by kernel_rfl)
  rfl
  refine wl_alloc rfl rfl (fun g3 => ?_)
  refine rSwLa_0 ?_
  have ce := fun w' hv' => Encode_spec (t := ancT.w (some ⟨g9, 0, none⟩) 1) w' hv'
  rw [anc_err, anc_body] at ce
  refine wl_callT (fun w' hr ho => ce w' (hbo.vwT hr)) rfl rfl rfl ?_
  rintro ⟨A4, c4, E4⟩ hb4
  dsimp only at hb4 ⊢
  refine wx_cat ?_
  refine rSwLa_0 ?_
  (try refine wx_ungd rfl rfl ?_)
  apply wx_val
  exact v_build (cs := (ancR1.cells).toArray) rfl (by kernel_rfl)
  rfl
  refine wl_callT (M1 := [swB g s, stB s.gs mc 0, mpK Value.string mc (chL []) 0, chSg [], q.seg s.gf 0, mpK kI s.m1 [] 0, mpK kI s.m2 [] 0]) (fun w' hr ho => Take_spec (g := g) h0 ancR1 w' ho) rfl rfl rfl ?_
  rintro ⟨⟨A6, c6, E6⟩, z1⟩ ⟨hb6, F1, h1⟩
  rw [anc_t1] at hb6 ⊢
  dsimp only at hb6 h1 ⊢
  refine wx_cat ?_
  refine rSwLa_0 ?_
  (try refine wx_ungd rfl rfl ?_)
  apply wx_val
  exact v_str (l := ancB) rfl rfl rfl rfl (fun w' hr => hb4.rdT hr) rfl
  rfl
  (try refine wx_ungd rfl rfl ?_)
  apply wx_val
  exact v_build (cs := (ancR2.cells).toArray) rfl (by kernel_rfl)
  rfl
  refine wl_callT (fun w' hr ho => Take_spec (g := g) h1 ancR2 w' ho) rfl rfl rfl ?_
  rintro ⟨⟨A8, c8, E8⟩, z2⟩ ⟨hb8, F2, h2⟩
  rw [anc_t2] at hb8 ⊢
  dsimp only at hb8 h2 ⊢
  refine wx_cat ?_
  obtain ⟨g8, hA8⟩ := hb8.ptr (by decide)
  refine rSwLa_0 ?_
  (try refine wx_ungd rfl rfl ?_)
  apply wx_val
  exact v_iaddrE hA8 rfl rfl rfl (by decide)
  rfl
  refine rSwLa_0 ?_
  (try refine wx_ungd rfl rfl ?_)
  apply wx_val
  exact v_load rfl rfl rfl (fun w' hr => hb8.elemT (i := 0) (a := ancV) hA8 (by decide) (fun _ => rfl) rfl hr (j := 0) rfl (by decide))
  rfl
  refine rSwLa_0 ?_
  (try refine wx_ungd rfl rfl ?_)
  apply wx_val
  exact v_iaddrE hA8 rfl rfl rfl (by decide)
  rfl
  refine rSwLa_0 ?_
  (try refine wx_ungd rfl rfl ?_)
  apply wx_val
  exact v_load rfl rfl rfl (fun w' hr => hb8.elemT (i := 0) (a := ancV) hA8 (by decide) (fun _ => rfl) rfl hr (j := 9) rfl (by decide))
  rfl
  refine rSwLa_0 ?_
  refine wq_ret1T () rfl (bool_val (by decide)) trivial rfl
end Go.Proofs.Ytlioccfedophhaa
/- The document's sweep: one. -/
set_option linter.unusedVariables false
set_option linter.unusedSimpArgs false
namespace Go.Proofs.Ytlioccfedophhaa
open Go
set_option maxRecDepth 20000
set_option maxHeartbeats 2000000
attribute [local irreducible] WX WC WQ Val VCall
theorem rSwRb_0 {A B : Prop} (k : B) (h : Hold B → A := by intro k; (repeat (first | (apply wx_val; (first | exact v_move rfl | exact v_assign rfl | exact v_faddr rfl rfl | exact v_ldT rfl rfl rfl (by rfl) | exact v_ldAT rfl (by rfl) | exact v_len rfl rfl | exact v_ne rfl rfl | exact v_lt rfl rfl | exact v_ge rfl rfl | exact v_pickT rfl rfl | exact v_pickF rfl rfl | exact v_iaddrE (by assumption) rfl rfl rfl (by omega) | (first | exact v_ldQ 0 0 rfl rfl rfl rfl rfl | exact v_ldQ 1 0 rfl rfl rfl rfl rfl)); rfl) | refine wx_no rfl rfl rfl ?_ | refine wx_ungd rfl rfl ?_ | refine wc_seq ?_ | refine wc_region ?_ | refine wx_nil ?_ | refine wq_next ?_ | refine wc_ret ?_ | refine wc_skip ?_ | refine wq_then_ret ?_ | refine wx_setn ?_ | refine wc_setn ?_ | refine wq_setn ?_ | refine wc_condT rfl ?_ | refine wc_condF rfl ?_ | refine wl_storeT rfl rfl rfl (by rfl) (by exact .inl (Nat.le_refl _)) rfl ?_ | refine wl_stAT rfl rfl (by rfl) (by rfl) (by exact .inl (Nat.le_refl _)) rfl ?_)); exact k.out) : A := h ⟨k⟩
theorem fst_best {E : List DoneT} (hs : SrtD E) (s : Int) (k : ByteArray) : fstD E s k = ((bestN E (fun d => wroteD k d && decide (s < d.t.fin)) (fun d u => lexD d u) E.length).bind (fun b => E[b]?)).map (fun d => (d.place, d.t.fin)) := by
  rw [best_first (hs.imp fun h => lexD_asymm h) E.length (Nat.le_refl _), List.take_length]
  rfl
theorem see_best {E : List DoneT} (hs : SrtD E) (s : Int) (k : ByteArray) : seeD E s k = ((bestN E (fun d => wroteD k d && decide (d.t.fin ≤ s)) (fun d u => lexD u d) E.length).bind (fun b => E[b]?)).map (verD k) := by
  rw [best_last hs E.length (Nat.le_refl _), List.take_length]
  rfl
def oneφ (r : Option ViolW) (x : ViolW × Bool) : Prop := (∃ v, r = some v ∧ x = (v, true)) ∨ (r = none ∧ x.2 = false)
theorem one_spec {A : Option Addr} {c : Nat} {E : List DoneW} {d : DoneW} {j : Nat} {o : OpW} (hE : E.length ≤ 1048576) (hl : ∀ x ∈ E, x.t.ops.xs.length ≤ 1048576) (hs : SrtD (E.map DoneW.p)) (hld : d.t.ops.xs.length ≤ 1048576) (ho : d.t.ops.xs[j]? = some o) (w : World) (hv : Vw [] w A (E.flatMap DoneW.cells)) (ht : ∀ x ∈ E, x.t.Reads w) (htd : d.t.Reads w) :
    Calls Try.prog 46 #[.slice A E.length c, .agg d.cells.toArray, .int .i64 (j : Nat)] w (Ret (β := ViolW × Bool) w (ids []) (fun x => .tuple #[.agg x.1.cells.toArray, .bool x.2]) (fun _ => []) (fun x => oneφ (oneQ (fstD (E.map DoneW.p) d.t.start) (seeD (E.map DoneW.p) d.t.start) d.place d.t.p j o) x)) := by
  refine go [.slice A E.length c, .agg d.cells.toArray, .int .i64 (j : Nat)] [] Try.func46 Try.ntmps46 rfl rfl (own_nil w) ?_
  have hj : j < d.t.ops.xs.length := (List.getElem?_eq_some_iff.1 ho).1
  obtain ⟨gA, oA, hA, hca⟩ := Vw.elZ htd (k := 4) (by decide) (fun _ => rfl) (by omega)
  have cL := fun w' hv' => LeftR_spec (A := d.t.ops.A) (c := d.t.ops.c) (l := d.t.ops.xs) j o.key (by omega) hld w' hv'
  have cF := fun w' hv' ht' => firstR_spec (A := A) (c := c) (E := E) o.key d.t.start hE hl w' hv' ht'
  have cS := fun w' hv' ht' => SeenR_spec (A := A) (c := c) (E := E) o.key d.t.start hE hl w' hv' ht'
  have hF := fst_best hs d.t.start o.key
  have hS := see_best hs d.t.start o.key
  rw [List.length_map] at hF hS
  obtain ⟨bf, hbf⟩ : ∃ b, b = bestN (E.map DoneW.p) (fun x => wroteD o.key x && decide (d.t.start < x.t.fin)) (fun x u => lexD x u) E.length := ⟨_, rfl⟩
  obtain ⟨bs, hbs⟩ : ∃ b, b = bestN (E.map DoneW.p) (fun x => wroteD o.key x && decide (x.t.fin ≤ d.t.start)) (fun x u => lexD u x) E.length := ⟨_, rfl⟩
  rw [← hbf] at cF hF
  rw [← hbs] at cS hS
  have hLo := left_last o.key d.t.ops.xs j
  refine rSwRb_0 ?_
  refine wl_boxA rfl rfl (fun g4 => ?_)
  refine wl_alloc rfl rfl (fun g6 => ?_)
  refine rSwRb_0 ?_
  refine wl_alloc rfl rfl (fun g8 => ?_)
  refine rSwRb_0 ?_
  (try refine wx_ungd rfl rfl ?_)
  apply wx_val
  exact v_loadA (cs := o.cells) rfl rfl (fun w' hr u x hj => hca ho hr hj (by rw [Int.toNat_natCast]))
  rfl
  skip
  refine wl_alloc rfl rfl (fun g9 => ?_)
  refine rSwRb_0 ?_
  (try refine wx_ungd rfl rfl ?_)
  refine wx_vcall (vc_pure' rfl rfl (fun w' hr => cL w' (Vw.keep htd hr))) rfl ?_
  refine rSwRb_0 ?_
  (try refine wx_ungd rfl rfl ?_)
  apply wx_val
  exact v_build (cs := ((ViolW.cells ⟨0, d.t.fin, d.place, (j : Nat), -1, o.key, false, ⟨#[]⟩, false, ⟨#[]⟩, d.t.start, d.t.fin⟩)).toArray) rfl (by kernel_rfl)
  rfl
  refine wl_alloc rfl rfl (fun g11 => ?_)
  refine rSwRb_0 ?_
  refine wc_if rfl (fun hk => ?_) (fun hk => ?_)
  · refine rSwRb_0 ?_
    (try refine wx_ungd rfl rfl ?_)
    refine wx_vcall (vc_pure' rfl rfl (fun w' hr => cF w' (hv.keep hr) (fun x hx => Vw.keep (ht x hx) hr))) rfl ?_
    refine rSwRb_0 ?_
    cases bf with
    | none =>
      have e1 : oneQ (fstD (E.map DoneW.p) d.t.start) (seeD (E.map DoneW.p) d.t.start) d.place d.t.p j o = none := by
        unfold oneQ
        rw [if_pos hk, hF]
        rfl
      rw [show ixO none = -1 from rfl]
      refine rSwRb_0 ?_
      exact wq_retA2T (cs := ViolW.cells ⟨0, d.t.fin, d.place, (j : Nat), -1, o.key, false, ⟨#[]⟩, false, ⟨#[]⟩, d.t.start, d.t.fin⟩) (⟨0, d.t.fin, d.place, (j : Nat), -1, o.key, false, ⟨#[]⟩, false, ⟨#[]⟩, d.t.start, d.t.fin⟩, false) rfl rfl rfl rfl rfl (.inr ⟨e1, rfl⟩) rfl
    | some b =>
      have hbl := bestN_lt (E := E.map DoneW.p) (p := fun x => wroteD o.key x && decide (d.t.start < x.t.fin)) (lt := fun x u => lexD x u) (n := E.length) (b := b) hbf.symm
      obtain ⟨u, hu⟩ : ∃ u, E[b]? = some u := ⟨E[b]'(by omega), List.getElem?_eq_getElem _⟩
      obtain ⟨gE, oE, hAE, hce⟩ := hv.elZ (k := 9) (by decide) (fun _ => rfl) (by omega)
      have hF' : fstD (E.map DoneW.p) d.t.start o.key = some (u.place, u.t.fin) := by
        rw [hF]
        show (((E.map DoneW.p)[b]?).map _ : Option (Int × Int)) = _
        rw [List.getElem?_map, hu]
        rfl
      rw [show ixO (some b) = (b : Nat) from rfl]
      refine rSwRb_0 ?_
      rcases hLo with ⟨hl1, hl2⟩ | ⟨i, o2, _, hl1, hl3, hl2, _, _⟩
      · rw [hl1]
        refine rSwRb_0 ?_
        refine wc_if rfl (fun hs => ?_) (fun hs => ?_)
        · have e1 : oneQ (fstD (E.map DoneW.p) d.t.start) (seeD (E.map DoneW.p) d.t.start) d.place d.t.p j o = none := by
            unfold oneQ
            rw [if_pos hk, hF']
            exact if_neg fun e => hs e.2
          refine rSwRb_0 ?_
          exact wq_retA2T (cs := ViolW.cells ⟨0, d.t.fin, d.place, (j : Nat), -1, o.key, false, ⟨#[]⟩, false, ⟨#[]⟩, d.t.start, d.t.fin⟩) (⟨0, d.t.fin, d.place, (j : Nat), -1, o.key, false, ⟨#[]⟩, false, ⟨#[]⟩, d.t.start, d.t.fin⟩, false) rfl rfl rfl rfl rfl (.inr ⟨e1, rfl⟩) rfl
        · have hs' : d.t.status = 1 := Decidable.not_not.1 hs
          have e1 : oneQ (fstD (E.map DoneW.p) d.t.start) (seeD (E.map DoneW.p) d.t.start) d.place d.t.p j o = some ⟨8, d.t.fin, d.place, (j : Nat), u.place, o.key, false, ⟨#[]⟩, false, ⟨#[]⟩, d.t.start, u.t.fin⟩ := by
            unfold oneQ
            rw [if_pos hk, hF']
            exact if_pos ⟨by rw [show lastN o.key d.t.p.ops j = none from hl2]; rfl, hs'⟩
          refine rSwRb_0 ?_
          (try refine wx_ungd rfl rfl ?_)
          apply wx_val
          exact v_load rfl rfl rfl (fun w' hr => hce hu hr (j := 0) rfl (by rw [Int.toNat_natCast]))
          rfl
          refine rSwRb_0 ?_
          (try refine wx_ungd rfl rfl ?_)
          apply wx_val
          exact v_load rfl rfl rfl (fun w' hr => hce hu hr (j := 4) rfl (by rw [Int.toNat_natCast]))
          rfl
          refine rSwRb_0 ?_
          exact wq_retA2T (cs := ViolW.cells ⟨8, d.t.fin, d.place, (j : Nat), u.place, o.key, false, ⟨#[]⟩, false, ⟨#[]⟩, d.t.start, u.t.fin⟩) (⟨8, d.t.fin, d.place, (j : Nat), u.place, o.key, false, ⟨#[]⟩, false, ⟨#[]⟩, d.t.start, u.t.fin⟩, true) rfl rfl rfl rfl rfl (.inl ⟨_, e1, rfl⟩) rfl
      · have e1 : oneQ (fstD (E.map DoneW.p) d.t.start) (seeD (E.map DoneW.p) d.t.start) d.place d.t.p j o = none := by
          unfold oneQ
          rw [if_pos hk, hF']
          exact if_neg fun e => by have := e.1; rw [show lastN o.key d.t.p.ops j = some o2 from hl2] at this; cases this
        rw [hl1]
        refine rSwRb_0 ?_
        exact wq_retA2T (cs := ViolW.cells ⟨0, d.t.fin, d.place, (j : Nat), -1, o.key, false, ⟨#[]⟩, false, ⟨#[]⟩, d.t.start, d.t.fin⟩) (⟨0, d.t.fin, d.place, (j : Nat), -1, o.key, false, ⟨#[]⟩, false, ⟨#[]⟩, d.t.start, d.t.fin⟩, false) rfl rfl rfl rfl rfl (.inr ⟨e1, rfl⟩) rfl
  · refine rSwRb_0 ?_
    rcases hLo with ⟨hl1, hl2⟩ | ⟨i, o2, _, hl1, hl3, hl2, _, _⟩
    rotate_left
    · have e1 : oneQ (fstD (E.map DoneW.p) d.t.start) (seeD (E.map DoneW.p) d.t.start) d.place d.t.p j o = if o2.found ≠ o.found ∨ o2.value ≠ o.value then some ⟨6, d.t.fin, d.place, (j : Nat), -1, o.key, o2.found, o2.value, o.found, o.value, d.t.start, d.t.fin⟩ else none := by
        unfold oneQ
        rw [if_neg hk, show lastN o.key d.t.p.ops j = some o2 from hl2]
        rfl
      rw [hl1]
      refine rSwRb_0 ?_
      (try refine wx_ungd rfl rfl ?_)
      apply wx_val
      exact v_load rfl rfl rfl (fun w' hr => hca hl3 hr (j := 2) rfl (by rw [Int.toNat_natCast]))
      rfl
      refine rSwRb_0 ?_
      (try refine wx_ungd rfl rfl ?_)
      apply wx_val
      exact v_load rfl rfl rfl (fun w' hr => hca hl3 hr (j := 3) rfl (by rw [Int.toNat_natCast]))
      rfl
      refine rSwRb_0 ?_
      refine wc_blk g11 (ViolW.cells ⟨6, d.t.fin, d.place, (j : Nat), -1, o.key, o2.found, o2.value, o.found, o.value, d.t.start, d.t.fin⟩) rfl ?_
      refine wc_setn ?_
      by_cases hx : o2.found = o.found
      · skip
        refine wc_heldN [] [[(g11, .cells (ViolW.cells ⟨6, d.t.fin, d.place, (j : Nat), -1, o.key, o2.found, o2.value, o.found, o.value, d.t.start, d.t.fin⟩).toArray 42 (0, 0))]] (fun hQd => ?_)
        refine tkX 0 rfl (v_ldAT rfl (by rfl)) ?_
        refine tkX 1 rfl (v_faddr rfl rfl) ?_
        refine tkX 2 rfl (v_ldT rfl rfl rfl (by rfl)) ?_
        refine tkX 3 rfl (v_faddr rfl rfl) ?_
        refine tkX 4 rfl (v_ldT rfl rfl rfl (by rfl)) ?_
        refine tkX 5 rfl (v_bne rfl rfl rfl) ?_
        refine tkX 6 rfl (v_move rfl) ?_
        refine wh_not 106 rfl (by simp [hx]) ?_
        refine tkgX 7 rfl (v_faddr rfl rfl) ?_
        refine tkgX 8 rfl (v_ldT rfl rfl rfl (by rfl)) ?_
        refine tkgX 9 rfl (v_faddr rfl rfl) ?_
        refine tkgX 10 rfl (v_ldT rfl rfl rfl (by rfl)) ?_
        refine tkgX 11 rfl (v_strne rfl rfl) ?_
        refine tkX 12 rfl (by first | exact v_pickT rfl rfl | exact v_pickF rfl rfl | exact v_pick rfl rfl rfl) ?_
        refine efX 13 rfl ?_
        refine rSwRb_0 ?_
        (try refine wx_nil ?_)
        refine hdX ?_
        refine tkX 14 rfl (v_assign rfl) ?_
        refine wh_done (by decide +kernel) ?_
        refine rSwRb_0 ?_
        refine wq_retA2T (cs := ViolW.cells ⟨6, d.t.fin, d.place, (j : Nat), -1, o.key, o2.found, o2.value, o.found, o.value, d.t.start, d.t.fin⟩) (⟨6, d.t.fin, d.place, (j : Nat), -1, o.key, o2.found, o2.value, o.found, o.value, d.t.start, d.t.fin⟩, decide (o2.value ≠ o.value)) rfl rfl rfl rfl rfl ?_ rfl
        by_cases hy : o2.value ≠ o.value
        · exact .inl ⟨_, by rw [e1, if_pos (.inr hy)], by rw [decide_eq_true hy]⟩
        · exact .inr ⟨by rw [e1, if_neg (fun e => e.elim (fun e => e hx) hy)], decide_eq_false hy⟩
      · skip
        refine wc_heldN [] [[(g11, .cells (ViolW.cells ⟨6, d.t.fin, d.place, (j : Nat), -1, o.key, o2.found, o2.value, o.found, o.value, d.t.start, d.t.fin⟩).toArray 42 (0, 0))]] (fun hQd => ?_)
        refine tkX 0 rfl (v_ldAT rfl (by rfl)) ?_
        refine tkX 1 rfl (v_faddr rfl rfl) ?_
        refine tkX 2 rfl (v_ldT rfl rfl rfl (by rfl)) ?_
        refine tkX 3 rfl (v_faddr rfl rfl) ?_
        refine tkX 4 rfl (v_ldT rfl rfl rfl (by rfl)) ?_
        refine tkX 5 rfl (v_bne rfl rfl rfl) ?_
        refine tkX 6 rfl (v_move rfl) ?_
        refine wh_yes 106 rfl (by simpa using hx) ?_
        first | refine tkgX 7 rfl (v_faddr rfl rfl) ?_ | refine tknX 7 rfl ?_
        refine tknX 8 rfl ?_
        first | refine tkgX 9 rfl (v_faddr rfl rfl) ?_ | refine tknX 9 rfl ?_
        refine tknX 10 rfl ?_
        refine tknX 11 rfl ?_
        refine tkX 12 rfl (by first | exact v_pickT rfl rfl | exact v_pickF rfl rfl | exact v_pick rfl rfl rfl) ?_
        refine efX 13 rfl ?_
        refine rSwRb_0 ?_
        (try refine wx_nil ?_)
        refine hdX ?_
        refine tkX 14 rfl (v_assign rfl) ?_
        refine wh_done (by decide +kernel) ?_
        refine rSwRb_0 ?_
        exact wq_retA2T (cs := ViolW.cells ⟨6, d.t.fin, d.place, (j : Nat), -1, o.key, o2.found, o2.value, o.found, o.value, d.t.start, d.t.fin⟩) (⟨6, d.t.fin, d.place, (j : Nat), -1, o.key, o2.found, o2.value, o.found, o.value, d.t.start, d.t.fin⟩, true) rfl rfl rfl rfl rfl (.inl ⟨_, by rw [e1, if_pos (.inl hx)], rfl⟩) rfl
    rw [hl1]
    refine rSwRb_0 ?_
    (try refine wx_ungd rfl rfl ?_)
    refine wx_vcall (vc_pure' rfl rfl (fun w' hr => cS w' (hv.keep hr) (fun x hx => Vw.keep (ht x hx) hr))) rfl ?_
    refine rSwRb_0 ?_
    cases bs with
    | none =>
      have e1 : oneQ (fstD (E.map DoneW.p) d.t.start) (seeD (E.map DoneW.p) d.t.start) d.place d.t.p j o = if false ≠ o.found ∨ (⟨#[]⟩ : ByteArray) ≠ o.value then some ⟨7, d.t.fin, d.place, (j : Nat), -1, o.key, false, ⟨#[]⟩, o.found, o.value, 0, d.t.start⟩ else none := by
        unfold oneQ
        rw [if_neg hk, show lastN o.key d.t.p.ops j = none from hl2, hS]
        rfl
      rw [show ixO none = -1 from rfl]
      refine rSwRb_0 ?_
      refine wc_blk g11 (ViolW.cells ⟨7, d.t.fin, d.place, (j : Nat), -1, o.key, false, ⟨#[]⟩, o.found, o.value, 0, d.t.start⟩) rfl ?_
      refine wc_setn ?_
      by_cases hx : false = o.found
      · skip
        refine wc_heldN [] [[(g11, .cells (ViolW.cells ⟨7, d.t.fin, d.place, (j : Nat), -1, o.key, false, ⟨#[]⟩, o.found, o.value, 0, d.t.start⟩).toArray 42 (0, 0))]] (fun hQd => ?_)
        refine tkX 0 rfl (v_ldAT rfl (by rfl)) ?_
        refine tkX 1 rfl (v_faddr rfl rfl) ?_
        refine tkX 2 rfl (v_ldT rfl rfl rfl (by rfl)) ?_
        refine tkX 3 rfl (v_faddr rfl rfl) ?_
        refine tkX 4 rfl (v_ldT rfl rfl rfl (by rfl)) ?_
        refine tkX 5 rfl (v_bne rfl rfl rfl) ?_
        refine tkX 6 rfl (v_move rfl) ?_
        refine wh_not 168 rfl (by simp [hx]) ?_
        refine tkgX 7 rfl (v_faddr rfl rfl) ?_
        refine tkgX 8 rfl (v_ldT rfl rfl rfl (by rfl)) ?_
        refine tkgX 9 rfl (v_faddr rfl rfl) ?_
        refine tkgX 10 rfl (v_ldT rfl rfl rfl (by rfl)) ?_
        refine tkgX 11 rfl (v_strne rfl rfl) ?_
        refine tkX 12 rfl (by first | exact v_pickT rfl rfl | exact v_pickF rfl rfl | exact v_pick rfl rfl rfl) ?_
        refine efX 13 rfl ?_
        refine rSwRb_0 ?_
        (try refine wx_nil ?_)
        refine hdX ?_
        refine tkX 14 rfl (v_assign rfl) ?_
        refine wh_done (by decide +kernel) ?_
        refine rSwRb_0 ?_
        refine wq_retA2T (cs := ViolW.cells ⟨7, d.t.fin, d.place, (j : Nat), -1, o.key, false, ⟨#[]⟩, o.found, o.value, 0, d.t.start⟩) (⟨7, d.t.fin, d.place, (j : Nat), -1, o.key, false, ⟨#[]⟩, o.found, o.value, 0, d.t.start⟩, decide ((⟨#[]⟩ : ByteArray) ≠ o.value)) rfl rfl rfl rfl rfl ?_ rfl
        by_cases hy : (⟨#[]⟩ : ByteArray) ≠ o.value
        · exact .inl ⟨_, by rw [e1, if_pos (.inr hy)], by rw [decide_eq_true hy]⟩
        · exact .inr ⟨by rw [e1, if_neg (fun e => e.elim (fun e => e hx) hy)], decide_eq_false hy⟩
      · skip
        refine wc_heldN [] [[(g11, .cells (ViolW.cells ⟨7, d.t.fin, d.place, (j : Nat), -1, o.key, false, ⟨#[]⟩, o.found, o.value, 0, d.t.start⟩).toArray 42 (0, 0))]] (fun hQd => ?_)
        refine tkX 0 rfl (v_ldAT rfl (by rfl)) ?_
        refine tkX 1 rfl (v_faddr rfl rfl) ?_
        refine tkX 2 rfl (v_ldT rfl rfl rfl (by rfl)) ?_
        refine tkX 3 rfl (v_faddr rfl rfl) ?_
        refine tkX 4 rfl (v_ldT rfl rfl rfl (by rfl)) ?_
        refine tkX 5 rfl (v_bne rfl rfl rfl) ?_
        refine tkX 6 rfl (v_move rfl) ?_
        refine wh_yes 168 rfl (by simpa using hx) ?_
        first | refine tkgX 7 rfl (v_faddr rfl rfl) ?_ | refine tknX 7 rfl ?_
        refine tknX 8 rfl ?_
        first | refine tkgX 9 rfl (v_faddr rfl rfl) ?_ | refine tknX 9 rfl ?_
        refine tknX 10 rfl ?_
        refine tknX 11 rfl ?_
        refine tkX 12 rfl (by first | exact v_pickT rfl rfl | exact v_pickF rfl rfl | exact v_pick rfl rfl rfl) ?_
        refine efX 13 rfl ?_
        refine rSwRb_0 ?_
        (try refine wx_nil ?_)
        refine hdX ?_
        refine tkX 14 rfl (v_assign rfl) ?_
        refine wh_done (by decide +kernel) ?_
        refine rSwRb_0 ?_
        exact wq_retA2T (cs := ViolW.cells ⟨7, d.t.fin, d.place, (j : Nat), -1, o.key, false, ⟨#[]⟩, o.found, o.value, 0, d.t.start⟩) (⟨7, d.t.fin, d.place, (j : Nat), -1, o.key, false, ⟨#[]⟩, o.found, o.value, 0, d.t.start⟩, true) rfl rfl rfl rfl rfl (.inl ⟨_, by rw [e1, if_pos (.inl hx)], rfl⟩) rfl
    | some b =>
      have hbl := bestN_lt (E := E.map DoneW.p) (p := fun x => wroteD o.key x && decide (x.t.fin ≤ d.t.start)) (lt := fun x u => lexD u x) (n := E.length) (b := b) hbs.symm
      obtain ⟨u, hu⟩ : ∃ u, E[b]? = some u := ⟨E[b]'(by omega), List.getElem?_eq_getElem _⟩
      have hum := List.mem_of_getElem? hu
      obtain ⟨gE, oE, hAE, hce⟩ := hv.elZ (k := 9) (by decide) (fun _ => rfl) (by omega)
      have hwu : wroteD o.key u.p = true := by
        obtain ⟨_, x, hx1, hx2⟩ := hbl
        rw [List.getElem?_map, hu] at hx1
        cases hx1
        rw [Bool.and_eq_true] at hx2
        exact hx2.1
      have hwl : (lastN o.key u.t.ops.xs u.t.ops.xs.length).isSome = true := by
        unfold wroteD at hwu
        rw [Bool.and_eq_true] at hwu
        exact hwu.2
      rcases left_last o.key u.t.ops.xs u.t.ops.xs.length with ⟨_, hz⟩ | ⟨i, wo, hi, hi1, hi2, hi3, _, _⟩
      · rw [hz] at hwl; cases hwl
      obtain ⟨gU, oU, hAU, hcu⟩ := Vw.elZ (ht u hum) (k := 4) (by decide) (fun _ => rfl) (by omega)
      have hv' : verD o.key u.p = ⟨u.t.fin, u.place, wo.found, wo.value⟩ := by
        unfold verD
        rw [show lastN o.key u.p.t.ops u.p.t.ops.length = some wo from hi3]
        rfl
      have hS' : seeD (E.map DoneW.p) d.t.start o.key = some ⟨u.t.fin, u.place, wo.found, wo.value⟩ := by
        rw [hS]
        show (((E.map DoneW.p)[b]?).map _ : Option VerW) = _
        rw [List.getElem?_map, hu, ← hv']
        rfl
      have e1 : oneQ (fstD (E.map DoneW.p) d.t.start) (seeD (E.map DoneW.p) d.t.start) d.place d.t.p j o = if wo.found ≠ o.found ∨ wo.value ≠ o.value then some ⟨7, d.t.fin, d.place, (j : Nat), u.place, o.key, wo.found, wo.value, o.found, o.value, u.t.fin, d.t.start⟩ else none := by
        unfold oneQ
        rw [if_neg hk, show lastN o.key d.t.p.ops j = none from hl2, hS']
        rfl
      have cU := fun w' hv' => LeftR_spec (A := u.t.ops.A) (c := u.t.ops.c) (l := u.t.ops.xs) u.t.ops.xs.length o.key (Nat.le_refl _) (hl u hum) w' hv'
      rw [show ixO (some b) = (b : Nat) from rfl]
      rw [hi1] at cU
      refine rSwRb_0 ?_
      (try refine wx_ungd rfl rfl ?_)
      apply wx_val
      exact v_loadA (cs := u.t.cells) rfl rfl (fun w' hr u x hj => hce hu hr (doneW_get hj) (by rw [Int.toNat_natCast]; omega))
      rfl
      skip
      refine wl_alloc rfl rfl (fun g14 => ?_)
      refine rSwRb_0 ?_
      (try refine wx_ungd rfl rfl ?_)
      refine wx_vcall (vc_pure' rfl rfl (fun w' hr => cU w' (Vw.keep (ht u hum) hr))) rfl ?_
      refine rSwRb_0 ?_
      (try refine wx_ungd rfl rfl ?_)
      apply wx_val
      exact v_load rfl rfl rfl (fun w' hr => hce hu hr (j := 0) rfl (by rw [Int.toNat_natCast]))
      rfl
      refine rSwRb_0 ?_
      (try refine wx_ungd rfl rfl ?_)
      apply wx_val
      exact v_load rfl rfl rfl (fun w' hr => hcu hi2 hr (j := 2) rfl (by rw [Int.toNat_natCast]))
      rfl
      refine rSwRb_0 ?_
      (try refine wx_ungd rfl rfl ?_)
      apply wx_val
      exact v_load rfl rfl rfl (fun w' hr => hcu hi2 hr (j := 3) rfl (by rw [Int.toNat_natCast]))
      rfl
      refine rSwRb_0 ?_
      refine wc_blk g11 (ViolW.cells ⟨7, d.t.fin, d.place, (j : Nat), u.place, o.key, wo.found, wo.value, o.found, o.value, u.t.fin, d.t.start⟩) rfl ?_
      refine wc_setn ?_
      by_cases hx : wo.found = o.found
      · skip
        refine wc_heldN [] [[(g11, .cells (ViolW.cells ⟨7, d.t.fin, d.place, (j : Nat), u.place, o.key, wo.found, wo.value, o.found, o.value, u.t.fin, d.t.start⟩).toArray 42 (0, 0))]] (fun hQd => ?_)
        refine tkX 0 rfl (v_ldAT rfl (by rfl)) ?_
        refine tkX 1 rfl (v_faddr rfl rfl) ?_
        refine tkX 2 rfl (v_ldT rfl rfl rfl (by rfl)) ?_
        refine tkX 3 rfl (v_faddr rfl rfl) ?_
        refine tkX 4 rfl (v_ldT rfl rfl rfl (by rfl)) ?_
        refine tkX 5 rfl (v_bne rfl rfl rfl) ?_
        refine tkX 6 rfl (v_move rfl) ?_
        refine wh_not 168 rfl (by simp [hx]) ?_
        refine tkgX 7 rfl (v_faddr rfl rfl) ?_
        refine tkgX 8 rfl (v_ldT rfl rfl rfl (by rfl)) ?_
        refine tkgX 9 rfl (v_faddr rfl rfl) ?_
        refine tkgX 10 rfl (v_ldT rfl rfl rfl (by rfl)) ?_
        refine tkgX 11 rfl (v_strne rfl rfl) ?_
        refine tkX 12 rfl (by first | exact v_pickT rfl rfl | exact v_pickF rfl rfl | exact v_pick rfl rfl rfl) ?_
        refine efX 13 rfl ?_
        refine rSwRb_0 ?_
        (try refine wx_nil ?_)
        refine hdX ?_
        refine tkX 14 rfl (v_assign rfl) ?_
        refine wh_done (by decide +kernel) ?_
        refine rSwRb_0 ?_
        refine wq_retA2T (cs := ViolW.cells ⟨7, d.t.fin, d.place, (j : Nat), u.place, o.key, wo.found, wo.value, o.found, o.value, u.t.fin, d.t.start⟩) (⟨7, d.t.fin, d.place, (j : Nat), u.place, o.key, wo.found, wo.value, o.found, o.value, u.t.fin, d.t.start⟩, decide (wo.value ≠ o.value)) rfl rfl rfl rfl rfl ?_ rfl
        by_cases hy : wo.value ≠ o.value
        · exact .inl ⟨_, by rw [e1, if_pos (.inr hy)], by rw [decide_eq_true hy]⟩
        · exact .inr ⟨by rw [e1, if_neg (fun e => e.elim (fun e => e hx) hy)], decide_eq_false hy⟩
      · skip
        refine wc_heldN [] [[(g11, .cells (ViolW.cells ⟨7, d.t.fin, d.place, (j : Nat), u.place, o.key, wo.found, wo.value, o.found, o.value, u.t.fin, d.t.start⟩).toArray 42 (0, 0))]] (fun hQd => ?_)
        refine tkX 0 rfl (v_ldAT rfl (by rfl)) ?_
        refine tkX 1 rfl (v_faddr rfl rfl) ?_
        refine tkX 2 rfl (v_ldT rfl rfl rfl (by rfl)) ?_
        refine tkX 3 rfl (v_faddr rfl rfl) ?_
        refine tkX 4 rfl (v_ldT rfl rfl rfl (by rfl)) ?_
        refine tkX 5 rfl (v_bne rfl rfl rfl) ?_
        refine tkX 6 rfl (v_move rfl) ?_
        refine wh_yes 168 rfl (by simpa using hx) ?_
        first | refine tkgX 7 rfl (v_faddr rfl rfl) ?_ | refine tknX 7 rfl ?_
        refine tknX 8 rfl ?_
        first | refine tkgX 9 rfl (v_faddr rfl rfl) ?_ | refine tknX 9 rfl ?_
        refine tknX 10 rfl ?_
        refine tknX 11 rfl ?_
        refine tkX 12 rfl (by first | exact v_pickT rfl rfl | exact v_pickF rfl rfl | exact v_pick rfl rfl rfl) ?_
        refine efX 13 rfl ?_
        refine rSwRb_0 ?_
        (try refine wx_nil ?_)
        refine hdX ?_
        refine tkX 14 rfl (v_assign rfl) ?_
        refine wh_done (by decide +kernel) ?_
        refine rSwRb_0 ?_
        exact wq_retA2T (cs := ViolW.cells ⟨7, d.t.fin, d.place, (j : Nat), u.place, o.key, wo.found, wo.value, o.found, o.value, u.t.fin, d.t.start⟩) (⟨7, d.t.fin, d.place, (j : Nat), u.place, o.key, wo.found, wo.value, o.found, o.value, u.t.fin, d.t.start⟩, true) rfl rfl rfl rfl rfl (.inl ⟨_, by rw [e1, if_pos (.inl hx)], rfl⟩) rfl
end Go.Proofs.Ytlioccfedophhaa
/- The document's sweep: Judge. -/
set_option linter.unusedVariables false
set_option linter.unusedSimpArgs false
namespace Go.Proofs.Ytlioccfedophhaa
open Go
set_option maxRecDepth 20000
set_option maxHeartbeats 2000000
attribute [local irreducible] WX WC WQ Val VCall
theorem rSwRc_0 {A B : Prop} (k : B) (h : Hold B → A := by intro k; (repeat (first | (apply wx_val; (first | exact v_move rfl | exact v_assign rfl | exact v_faddr rfl rfl | exact v_ldT rfl rfl rfl (by rfl) | exact v_ldAT rfl (by rfl) | exact v_extract rfl rfl | exact v_len rfl rfl | exact v_eq rfl rfl | exact v_lt rfl rfl | exact v_le rfl rfl | exact v_addi rfl rfl (by omega) | exact v_pickT rfl rfl | exact v_pickF rfl rfl | exact v_iaddrE (by assumption) rfl rfl rfl (by omega) | (first | exact v_ldQ 0 0 rfl rfl rfl rfl rfl)); rfl) | refine wx_no rfl rfl rfl ?_ | refine wx_ungd rfl rfl ?_ | refine wc_seq ?_ | refine wc_region ?_ | refine wx_nil ?_ | refine wq_next ?_ | refine wc_block ?_ | refine wc_ret ?_ | refine wc_skip ?_ | refine wc_exit ?_ | refine wq_then_exit ?_ | refine wq_block ?_ | refine wq_block_exit rfl ?_ | refine wq_block_pass rfl ?_ | refine wx_setn ?_ | refine wc_reads rfl (by decide +kernel) ?_ | refine wc_condF rfl ?_ | refine wl_stAT rfl rfl (by rfl) (by rfl) (by exact .inl (Nat.le_refl _)) rfl ?_)); exact k.out) : A := h ⟨k⟩
abbrev VLr (l : List ViolW) (q : Option Addr × Nat × Seg) : Prop := Buf 42 12 q.1 l.length q.2.1 (l.flatMap ViolW.cells) q.2.2
theorem VLr.nil : VLr [] (none, 0, []) := Buf.nil _ _
theorem VLr.snoc {l : List ViolW} {v : ViolW} {A : Option Addr} {c : Nat} {E : Seg} (h : Buf 42 12 A (l.length + 1) c (l.flatMap ViolW.cells ++ v.cells) E) : VLr (l ++ [v]) (A, c, E) := by
  unfold VLr
  rw [List.length_append, show (l ++ [v]).flatMap ViolW.cells = l.flatMap ViolW.cells ++ v.cells by simp]
  exact h
theorem kindsR_step {f : Nat → OpW → Option ViolW} {l : List OpW} {k : Int} {n : Nat} {o : OpW} (h : l[n]? = some o) : kindsN f l k (n + 1) = kindsN f l k n ++ (match f n o with
      | some v => if v.kind = k then [v] else []
      | none => []) := by
  conv => lhs; unfold kindsN
  rw [h]
  rfl
theorem tw_none {E : List DoneT} {f : Int} (h : E.find? (fun d => decide (d.t.status = 1) && decide (d.t.fin = f)) = none) : twD E f = none := by unfold twD; rw [h]; rfl
theorem tw_at {E : List DoneT} {f : Int} {i : Nat} {x : DoneT} (h : (E.take i).find? (fun d => decide (d.t.status = 1) && decide (d.t.fin = f)) = none) (hx : E[i]? = some x) (h1 : x.t.status = 1) (h2 : x.t.fin = f) : twD E f = some x.place := by
  have e : E = E.take i ++ x :: E.drop (i + 1) := by
    obtain ⟨h3, rfl⟩ := List.getElem?_eq_some_iff.1 hx
    rw [← List.drop_eq_getElem_cons h3, List.take_append_drop]
  unfold twD
  rw [e, List.find?_append, h, List.find?_cons]
  simp [h1, h2]
theorem tw_next {E : List DoneT} {f : Int} {i : Nat} {x : DoneT} (h : (E.take i).find? (fun d => decide (d.t.status = 1) && decide (d.t.fin = f)) = none) (hx : E[i]? = some x) (h1 : ¬ (x.t.status = 1 ∧ x.t.fin = f)) : (E.take (i + 1)).find? (fun d => decide (d.t.status = 1) && decide (d.t.fin = f)) = none := by
  rw [List.take_add_one, hx, List.find?_append, h]
  simp only [Option.toList_some, List.find?_cons, List.find?_nil, Option.none_or]
  by_cases h3 : x.t.status = 1
  · have h4 : ¬ x.t.fin = f := fun e => h1 ⟨h3, e⟩
    simp [h4]
  · simp [h3]
def outN (tw : List ViolW) (f : Nat → OpW → Option ViolW) (l : List OpW) : Nat → List ViolW
  | 0 => tw
  | q + 1 => outN tw f l q ++ kindsN f l (6 + (q : Nat)) l.length
theorem kindsR_len (f : Nat → OpW → Option ViolW) (l : List OpW) (k : Int) : ∀ n, (kindsN f l k n).length ≤ n := kindsN_len f l k
theorem outN_len (tw : List ViolW) (f : Nat → OpW → Option ViolW) (l : List OpW) : ∀ q, (outN tw f l q).length ≤ tw.length + q * l.length
  | 0 => by simp [outN]
  | q + 1 => by
    have := outN_len tw f l q
    have := kindsN_len f l (6 + (q : Nat)) l.length
    unfold outN
    rw [List.length_append, Nat.add_mul]
    omega
theorem Judge_spec {A : Option Addr} {c : Nat} {E : List DoneW} {d : DoneW} (hE : E.length ≤ 1048576) (hl : ∀ x ∈ E, x.t.ops.xs.length ≤ 1048576) (hs : SrtD (E.map DoneW.p)) (hld : d.t.ops.xs.length ≤ 1048576) (w : World) (hv : Vw [] w A (E.flatMap DoneW.cells)) (ht : ∀ x ∈ E, x.t.Reads w) (htd : d.t.Reads w) :
    Calls Try.prog 29 #[.slice A E.length c, .agg d.cells.toArray] w (Ret (β := Option Addr × Nat × Seg) w (ids []) (fun x => .slice x.1 (judgeD (E.map DoneW.p) d.p).length x.2.1) (fun x => [x.2.2]) (fun x => VLr (judgeD (E.map DoneW.p) d.p) x)) := by
  refine go [.slice A E.length c, .agg d.cells.toArray] [] Try.func29 Try.ntmps29 rfl rfl (own_nil w) ?_
  obtain ⟨T, hT⟩ : ∃ T, T = twinL (twD (E.map DoneW.p) d.t.fin) d.place d.t.p := ⟨_, rfl⟩
  have hTl : T.length ≤ 1 := by rw [hT]; exact twinL_len _ _ _
  obtain ⟨f, hf⟩ : ∃ f, f = oneQ (fstD (E.map DoneW.p) d.t.start) (seeD (E.map DoneW.p) d.t.start) d.place d.t.p := ⟨_, rfl⟩
  have hJ : judgeD (E.map DoneW.p) d.p = outN T f d.t.ops.xs 3 := by rw [hT, hf]; rfl
  rw [hJ]
  refine rSwRc_0 ?_
  refine wl_boxA rfl rfl (fun g3 => ?_)
  refine rSwRc_0 ?_
  refine wl_alloc rfl rfl (fun g6 => ?_)
  iterate 2 (first | refine wx_nil ?_ | refine wl_stAT rfl rfl (by rfl) (by rfl) (by exact .inl (Nat.le_refl _)) rfl ?_)
  refine wq_setn ?_
  refine wq_blk g6 d.t.cells rfl ?_
  refine wq_setn ?_
  iterate 7 (first | (apply wx_val; (first | exact v_assign rfl); rfl) | refine wc_seq ?_ | refine wc_region ?_ | refine wx_nil ?_ | refine wq_next ?_)
  refine wc_seg ?_
  refine wc_meetK (ι := Option Addr × Nat × Seg) [0, 3, 4, 6] (fun x => [(5, .slice x.1 T.length x.2.1)]) (fun x => [x.2.2]) (M1 := [[]]) (fun x => VLr T x) rfl ?_ ?_
  · refine wc_cat ?_
    refine rSwRc_0 ?_
    refine wc_loopK (ι := Nat) [0, 3, 4, 5, 6] (fun i => [(7, .int .i64 (i : Nat))]) (fun i => []) (fun i => (i ≤ E.length ∧ (d.t.status = 1 → ((E.map DoneW.p).take i).find? (fun x => decide (x.t.status = 1) && decide (x.t.fin = d.t.fin)) = none))) (fun i => E.length - i) (0) rfl ?_ (by repeat (first | exact trivial | refine ⟨rfl, ?_⟩)) ?_
    · exact ⟨Nat.zero_le _, fun _ => rfl⟩
    rintro i ⟨h1, h2⟩
    try dsimp only
    refine wc_fcat ?_
    refine wc_cat ?_
    have fin0 : (d.t.status ≠ 1 ∨ i = E.length) → T = [] := fun h => by
      rw [hT]
      unfold twinL
      by_cases hs1 : d.t.status = 1
      · have hi : i = E.length := h.elim (fun e => absurd hs1 e) id
        have := h2 hs1
        rw [hi, List.take_of_length_le (by simp)] at this
        rw [tw_none this]
      · cases twD (E.map DoneW.p) d.t.fin with
        | none => rfl
        | some x => exact if_neg hs1
    refine rSwRc_0 ?_
    refine wx_gif rfl rfl (fun h3 => ?_) (fun h3 => ?_)
    rotate_left
    · have hT0 := fin0 (.inr (by omega))
      rw [hT0]
      refine rSwRc_0 ?_
      refine wq_cutK ((none, 0, [])) ?_ (by repeat (first | exact trivial | refine ⟨rfl, ?_⟩)) (by first | exact catEq | exact rfl)
      exact VLr.nil
    refine rSwRc_0 ?_
    refine wc_if rfl (fun h4 => ?_) (fun h4 => ?_)
    rotate_left
    · have hT0 := fin0 (.inl h4)
      rw [hT0]
      refine rSwRc_0 ?_
      refine wq_cutK ((none, 0, [])) ?_ (by repeat (first | exact trivial | refine ⟨rfl, ?_⟩)) (by first | exact catEq | exact rfl)
      exact VLr.nil
    obtain ⟨u, hu⟩ : ∃ u, E[i]? = some u := ⟨E[i]'(by omega), List.getElem?_eq_getElem _⟩
    obtain ⟨gE, oE, hAE, hce⟩ := hv.elZ (k := 9) (by decide) (fun _ => rfl) (by omega)
    have hup : (E.map DoneW.p)[i]? = some u.p := by rw [List.getElem?_map, hu]; rfl
    refine rSwRc_0 ?_
    (try refine wx_ungd rfl rfl ?_)
    apply wx_val
    exact v_load rfl rfl rfl (fun w' hr => hce hu hr (j := 7) rfl (by rw [Int.toNat_natCast]))
    rfl
    refine rSwRc_0 ?_
    refine wx_gif rfl rfl (fun h5 => ?_) (fun h5 => ?_)
    rotate_left
    · refine rSwRc_0 ?_
      refine wq_roundK (i + 1) ?_ ?_ (by repeat (first | exact trivial | refine ⟨rfl, ?_⟩)) (by first | exact catEq | exact rfl)
      · exact ⟨by omega, fun e => tw_next (h2 e) hup (fun e2 => h5 e2.1)⟩
      · omega
    refine rSwRc_0 ?_
    (try refine wx_ungd rfl rfl ?_)
    apply wx_val
    exact v_load rfl rfl rfl (fun w' hr => hce hu hr (j := 4) rfl (by rw [Int.toNat_natCast]))
    rfl
    refine rSwRc_0 ?_
    refine wc_if rfl (fun h6 => ?_) (fun h6 => ?_)
    rotate_left
    · refine rSwRc_0 ?_
      refine wq_roundK (i + 1) ?_ ?_ (by repeat (first | exact trivial | refine ⟨rfl, ?_⟩)) (by first | exact catEq | exact rfl)
      · exact ⟨by omega, fun e => tw_next (h2 e) hup (fun e2 => h6 e2.2)⟩
      · omega
    have hTv : T = [⟨5, d.t.fin, d.place, -1, u.place, ⟨#[]⟩, false, ⟨#[]⟩, false, ⟨#[]⟩, d.t.start, d.t.fin⟩] := by
      rw [hT, tw_at (h2 h4) hup h5 h6]
      exact if_pos h4
    rw [hTv]
    refine rSwRc_0 ?_
    refine wc_heldN [] [[(g6, .cells d.t.cells.toArray 47 (0, 0))], [(g3, .cells d.cells.toArray 72 (0, 0))]] (fun hQd => ?_)
    refine tkX 0 rfl (v_move rfl) ?_
    refine tkX 1 rfl (v_faddr rfl rfl) ?_
    refine tkX 2 rfl (v_ldT rfl rfl rfl (by rfl)) ?_
    refine tkX 3 rfl (v_faddr rfl rfl) ?_
    refine tkX 4 rfl (v_ldT rfl rfl rfl (by rfl)) ?_
    refine tkX 5 rfl (v_move rfl) ?_
    refine tkX 6 rfl (v_move rfl) ?_
    refine tkX 7 rfl (v_iaddrE (by assumption) rfl rfl rfl (by omega)) ?_
    refine tkX 8 rfl (v_faddr rfl rfl) ?_
    refine tkX 9 rfl (v_load rfl rfl rfl (fun w' hr => hce hu hr (j := 0) rfl (by rw [Int.toNat_natCast]))) ?_
    refine tkX 10 rfl (v_faddr rfl rfl) ?_
    refine tkX 11 rfl (v_ldT rfl rfl rfl (by rfl)) ?_
    refine tkX 12 rfl (v_faddr rfl rfl) ?_
    refine tkX 13 rfl (v_ldT rfl rfl rfl (by rfl)) ?_
    refine tkX 14 rfl (v_build (cs := (ViolW.cells ⟨5, d.t.fin, d.place, -1, u.place, ⟨#[]⟩, false, ⟨#[]⟩, false, ⟨#[]⟩, d.t.start, d.t.fin⟩).toArray) rfl (by kernel_rfl)) ?_
    refine efX 15 rfl ?_
    refine wl_lit rfl rfl rfl rfl rfl (by decide) rfl (fun g15 => ?_)
    (try refine wx_nil ?_)
    refine hdX ?_
    refine efX 16 rfl ?_
    refine wl_app1T rfl VLr.nil rfl rfl rfl rfl (by decide) rfl (fun A3 c3 E3 hb3 => ?_)
    (try refine wx_nil ?_)
    refine hdX ?_
    refine tkX 17 rfl (v_assign rfl) ?_
    refine wh_done (by decide +kernel) ?_
    refine rSwRc_0 ?_
    refine wq_cutK ((A3, c3, E3)) ?_ (by repeat (first | exact trivial | refine ⟨rfl, ?_⟩)) (by first | exact catEq | exact rfl)
    exact VLr.snoc (l := []) hb3
  rintro ⟨A5, c5, E5⟩ hb5
  refine wc_fcat ?_
  refine wc_cat ?_
  dsimp only at hb5 ⊢
  refine rSwRc_0 ?_
  refine wc_loopM (ι := Nat × Option Addr × Nat × Seg) ([E5]) [0, 3, 4, 6] (fun x => [(8, .int .i64 (6 + (x.1 : Nat))), (5, .slice x.2.1 (outN T f d.t.ops.xs x.1).length x.2.2.1)]) (fun x => [x.2.2.2]) (fun x => (x.1 ≤ 3 ∧ VLr (outN T f d.t.ops.xs x.1) x.2)) (fun x => 3 - x.1) ((0, A5, c5, E5)) rfl rfl ?_ (by repeat (first | exact trivial | refine ⟨rfl, ?_⟩)) ?_
  · exact ⟨Nat.zero_le _, hb5⟩
  rintro ⟨q, A6, c6, E6⟩ ⟨hq, hb6⟩
  try dsimp only
  refine wc_fcat ?_
  refine wc_cat ?_
  dsimp only at hq hb6 ⊢
  have hon := outN_len T f d.t.ops.xs q
  have hqm : q * d.t.ops.xs.length ≤ 3 * d.t.ops.xs.length := Nat.mul_le_mul_right _ hq
  refine rSwRc_0 ?_
  refine wc_if rfl (fun h7 => ?_) (fun h7 => ?_)
  rotate_left
  · obtain rfl : q = 3 := by omega
    refine rSwRc_0 ?_
    exact wq_ret1T (A6, c6, E6) rfl rfl hb6 rfl
  have hk0 : kindsN f d.t.ops.xs (6 + (q : Nat)) 0 = [] := rfl
  refine rSwRc_0 ?_
  refine wc_loopM (ι := Nat × Option Addr × Nat × Seg) ([E6]) [0, 3, 4, 6, 8] (fun y => [(9, .int .i64 (y.1 : Nat)), (5, .slice y.2.1 ((outN T f d.t.ops.xs q).length + (kindsN f d.t.ops.xs (6 + (q : Nat)) y.1).length) y.2.2.1)]) (fun y => [y.2.2.2]) (fun y => (y.1 ≤ d.t.ops.xs.length ∧ Buf 42 12 y.2.1 ((outN T f d.t.ops.xs q).length + (kindsN f d.t.ops.xs (6 + (q : Nat)) y.1).length) y.2.2.1 ((outN T f d.t.ops.xs q).flatMap ViolW.cells ++ (kindsN f d.t.ops.xs (6 + (q : Nat)) y.1).flatMap ViolW.cells) y.2.2.2)) (fun y => d.t.ops.xs.length - y.1) ((0, A6, c6, E6)) rfl rfl ?_ (by repeat (first | exact trivial | refine ⟨rfl, ?_⟩)) ?_
  · refine ⟨Nat.zero_le _, ?_⟩
    dsimp only
    rw [hk0, List.flatMap_nil, List.append_nil]
    exact hb6
  rintro ⟨j, A7, c7, E7⟩ ⟨hj, hb7⟩
  try dsimp only
  refine wc_fcat ?_
  refine wc_cat ?_
  dsimp only at hj hb7 ⊢
  have hkl := kindsN_len f d.t.ops.xs (6 + (q : Nat)) j
  refine rSwRc_0 ?_
  refine wc_if rfl (fun h8 => ?_) (fun h8 => ?_)
  rotate_left
  · obtain rfl : j = d.t.ops.xs.length := by omega
    have el : (outN T f d.t.ops.xs q).length + (kindsN f d.t.ops.xs (6 + (q : Nat)) d.t.ops.xs.length).length = (outN T f d.t.ops.xs (q + 1)).length := by
      conv => rhs; unfold outN
      rw [List.length_append]
    rw [el]
    refine rSwRc_0 ?_
    rw [show (6 : Int) + (q : Nat) + 1 = 6 + ((q + 1 : Nat) : Int) by omega]
    refine wq_roundK ((q + 1, A7, c7, E7)) ?_ ?_ (by repeat (first | exact trivial | refine ⟨rfl, ?_⟩)) (by first | exact catEq | exact rfl)
    · refine ⟨by dsimp only; omega, ?_⟩
      unfold VLr
      dsimp only
      rw [← el]
      conv => arg 6; unfold outN
      rw [List.flatMap_append]
      exact hb7
    · dsimp only; omega
  obtain ⟨o, ho⟩ : ∃ o, d.t.ops.xs[j]? = some o := ⟨d.t.ops.xs[j]'(by omega), List.getElem?_eq_getElem _⟩
  refine rSwRc_0 ?_
  refine wl_callT (fun w' hr ho' => one_spec (A := A) (c := c) hE hl hs hld ho w' (hv.keep hr) (fun x hx => Vw.keep (ht x hx) hr) (Vw.keep htd hr)) rfl rfl rfl ?_
  rintro ⟨v, b⟩ hφ
  dsimp only at hφ ⊢
  refine wx_cat ?_
  rw [← hf] at hφ
  refine rSwRc_0 ?_
  refine wl_alloc rfl rfl (fun g10 => ?_)
  refine rSwRc_0 ?_
  have hst := kindsR_step (f := f) (k := 6 + (q : Nat)) ho
  rcases hφ with ⟨v', hv', hx⟩ | ⟨hn, hb⟩
  · injection hx with hx1 hx2
    subst hx1
    subst hx2
    rw [hv'] at hst
    dsimp only at hst
    refine rSwRc_0 ?_
    refine wc_if rfl (fun h9 => ?_) (fun h9 => ?_)
    · rw [if_pos h9] at hst
      have el : (outN T f d.t.ops.xs q).length + (kindsN f d.t.ops.xs (6 + (q : Nat)) j).length + 1 = (outN T f d.t.ops.xs q).length + (kindsN f d.t.ops.xs (6 + (q : Nat)) (j + 1)).length := by
        rw [hst, List.length_append]
        rfl
      refine rSwRc_0 ?_
      refine wl_lit rfl rfl rfl rfl rfl (by decide) rfl (fun g87 => ?_)
      refine wl_app1T rfl hb7 rfl rfl rfl rfl (by omega) rfl (fun A3 c3 E3 hb3 => ?_)
      rw [el] at hb3 ⊢
      refine rSwRc_0 ?_
      refine wq_roundK ((j + 1, A3, c3, E3)) ?_ ?_ (by repeat (first | exact trivial | refine ⟨rfl, ?_⟩)) (by first | exact catEq | exact rfl)
      · refine ⟨by dsimp only; omega, ?_⟩
        dsimp only
        rw [hst] at hb3 ⊢
        rw [List.flatMap_append, ← List.append_assoc, show [v].flatMap ViolW.cells = v.cells by simp]
        exact hb3
      · dsimp only; omega
    · rw [if_neg h9, List.append_nil] at hst
      rw [← hst] at hb7 ⊢
      refine rSwRc_0 ?_
      refine wq_roundK ((j + 1, A7, c7, E7)) ?_ ?_ (by repeat (first | exact trivial | refine ⟨rfl, ?_⟩)) (by first | exact catEq | exact rfl)
      · exact ⟨by dsimp only; omega, hb7⟩
      · dsimp only; omega
  · have hb' : b = false := hb
    subst hb'
    rw [hn] at hst
    dsimp only at hst
    rw [List.append_nil] at hst
    rw [← hst] at hb7 ⊢
    refine rSwRc_0 ?_
    refine wq_roundK ((j + 1, A7, c7, E7)) ?_ ?_ (by repeat (first | exact trivial | refine ⟨rfl, ?_⟩)) (by first | exact catEq | exact rfl)
    · exact ⟨by dsimp only; omega, hb7⟩
    · dsimp only; omega
end Go.Proofs.Ytlioccfedophhaa
/- The document's sweep: Sound, Events. -/
set_option linter.unusedVariables false
set_option linter.unusedSimpArgs false
namespace Go.Proofs.Ytlioccfedophhaa
open Go
set_option maxRecDepth 20000
set_option maxHeartbeats 2000000
attribute [local irreducible] WX WC WQ Val VCall
theorem rSwRd_0 {A B : Prop} (k : B) (h : Hold B → A := by intro k; (repeat (first | (apply wx_val; (first | exact v_move rfl | exact v_assign rfl | exact v_faddr rfl rfl | exact v_ldT rfl rfl rfl (by rfl) | exact v_len rfl rfl | exact v_lt rfl rfl | exact v_addi rfl rfl (by omega) | exact v_iaddrE (by assumption) rfl rfl rfl (by omega)); rfl) | refine wc_seq ?_ | refine wc_region ?_ | refine wx_nil ?_ | refine wq_next ?_ | refine wc_block ?_ | refine wc_ret ?_ | refine wc_skip ?_ | refine wc_exit ?_ | refine wq_then_exit ?_ | refine wq_block ?_ | refine wq_block_exit rfl ?_)); exact k.out) : A := h ⟨k⟩
theorem Sound_spec (t : TxnW) (w : World) : Calls Try.prog 30 #[.agg t.cells.toArray] w (Ret (β := Unit) w (ids []) (fun _ => .bool (decide (t.start < t.fin))) (fun _ => []) (fun _ => True)) := by
  refine go [.agg t.cells.toArray] [] Try.func30 Try.ntmps30 rfl rfl (own_nil w) ?_
  refine rSwRd_0 ?_
  refine wl_boxA rfl rfl (fun g1 => ?_)
  refine rSwRd_0 ?_
  exact wq_ret1T () rfl rfl trivial rfl
abbrev BufE (l : List RowW) (x : Option Addr × Nat × Seg) : Prop := Buf 35 7 x.1 l.length x.2.1 (l.flatMap RowW.cells) x.2.2
theorem BufE.snoc {l : List RowW} {v : RowW} {A : Option Addr} {c : Nat} {E : Seg} (h : Buf 35 7 A (l.length + 1) c (l.flatMap RowW.cells ++ v.cells) E) : BufE (l ++ [v]) (A, c, E) := by
  unfold BufE
  rw [List.length_append, show (l ++ [v]).flatMap RowW.cells = l.flatMap RowW.cells ++ v.cells by simp]
  exact h
theorem Events_spec {A : Option Addr} {c : Nat} {l : List TxnW} (hl : Fit l) (w : World) (hv : Vw [] w A (l.flatMap TxnW.cells)) (ht : ∀ t ∈ l, t.Reads w) :
    Calls Try.prog 14 #[.slice A l.length c] w (Ret (β := Option Addr × Nat × Seg) w (ids []) (fun r => .slice r.1 (evS l).length r.2.1) (fun r => [r.2.2]) (BufRo 35 (evS l))) := by
  refine go [.slice A l.length c] [] Try.func14 Try.ntmps14 rfl rfl (own_nil w) ?_
  have hlen := hl.len
  refine rSwRd_0 ?_
  refine wc_seg ?_
  refine wc_loopM (ι := Nat × Option Addr × Nat × Seg) ([[]]) [0] (fun x => [(4, .int .i64 (x.1 : Nat)), (3, .slice x.2.1 (evU l x.1).length x.2.2.1)]) (fun x => [x.2.2.2]) (fun x => (x.1 ≤ l.length ∧ BufE (evU l x.1) x.2)) (fun x => l.length - x.1) ((0, none, 0, [])) rfl rfl ?_ (by repeat (first | exact trivial | refine ⟨rfl, ?_⟩)) ?_
  · exact ⟨Nat.zero_le _, Buf.nil _ _⟩
  rintro ⟨i, A3, c3, E3⟩ ⟨hi, hb3⟩
  try dsimp only
  refine wc_fcat ?_
  refine wc_cat ?_
  dsimp only at hi hb3 ⊢
  have hel := evU_len (l := l) i
  refine rSwRd_0 ?_
  refine wc_if rfl (fun h1 => ?_) (fun h1 => ?_)
  · obtain ⟨t, hti⟩ : ∃ t, l[i]? = some t := ⟨l[i]'(by omega), List.getElem?_eq_getElem _⟩
    obtain ⟨gA, oA, hA, hca⟩ := hv.elZ (k := 8) (by decide) (fun _ => rfl) (by omega)
    have hm := List.mem_of_getElem? hti
    have hst := evU_step hti
    have hbl := (hl.fields hm).2.2.1
    refine rSwRd_0 ?_
    (try refine wx_ungd rfl rfl ?_)
    apply wx_val
    exact v_loadA (cs := t.cells) rfl rfl (fun w' hr u x hj => hca hti hr hj (by rw [Int.toNat_natCast]))
    rfl
    skip
    (try refine wx_ungd rfl rfl ?_)
    refine wx_vcall (vc_pure' rfl rfl (fun w' hr => Sound_spec t w')) rfl ?_
    refine rSwRd_0 ?_
    refine wc_if rfl (fun h2 => ?_) (fun h2 => ?_)
    · rw [if_pos h2] at hst
      refine rSwRd_0 ?_
      (try refine wx_ungd rfl rfl ?_)
      apply wx_val
      exact v_loadA (cs := t.cells) rfl rfl (fun w' hr u x hj => hca hti hr hj (by rw [Int.toNat_natCast]))
      rfl
      skip
      refine wl_callT (fun w' hr ho => Body_spec w' (Vw.keep (ht t hm) hr) (hl.ok t hm)) rfl rfl rfl ?_
      rintro ⟨A5, c5, E5⟩ hb5
      dsimp only at hb5 ⊢
      refine wx_cat ?_
      refine rSwRd_0 ?_
      (try refine wx_ungd rfl rfl ?_)
      apply wx_val
      exact v_load rfl rfl rfl (fun w' hr => hca hti hr (j := 2) rfl (by rw [Int.toNat_natCast]))
      rfl
      refine rSwRd_0 ?_
      (try refine wx_ungd rfl rfl ?_)
      apply wx_val
      exact v_build (cs := ((rS (i : Nat) t).cells).toArray) rfl (by kernel_rfl)
      rfl
      refine wl_lit rfl rfl rfl rfl rfl (by decide) rfl (fun g30 => ?_)
      refine wl_app1T rfl hb3 rfl rfl rfl rfl (by omega) rfl (fun A6 c6 E6 hb6 => ?_)
      have hb6' := BufE.snoc (v := rS (i : Nat) t) hb6
      refine rSwRd_0 ?_
      rw [show (evU l i).length + 1 = (evU l i ++ [rS (i : Nat) t]).length by simp]
      refine wc_heldX [] [E5] rfl (by (repeat (first | exact panicNot_M2 rfl | exact panicNot_D3 rfl | with_reducible exact panicNot_of panicOk_body | with_reducible apply panicNot_block | with_reducible apply panicNot_then))) (fun hQd => ?_)
      refine tkX 0 rfl (v_move rfl) ?_
      refine tkX 1 rfl (v_move rfl) ?_
      refine tkX 2 rfl (v_move rfl) ?_
      refine tkX 3 rfl (v_iaddrE (by assumption) rfl rfl rfl (by omega)) ?_
      refine tkX 4 rfl (v_faddr rfl rfl) ?_
      refine tkX 5 rfl (v_load rfl rfl rfl (fun w' hr => hca hti hr (j := 3) rfl (by rw [Int.toNat_natCast]))) ?_
      refine tkX 6 rfl (v_move rfl) ?_
      refine tkX 7 rfl (v_move rfl) ?_
      refine tkX 8 rfl (v_str (l := t.body) rfl rfl rfl rfl (fun w' hr => hb5.rdT hr) rfl) ?_
      refine tkX 9 rfl (v_build (cs := (rE (i : Nat) t).cells.toArray) rfl (by kernel_rfl)) ?_
      refine efX 10 rfl ?_
      refine wl_lit rfl rfl rfl rfl rfl (by decide) rfl (fun g42 => ?_)
      (try refine wx_nil ?_)
      refine hdX ?_
      refine efX 11 rfl ?_
      refine wl_app1T rfl hb6' rfl rfl rfl rfl (by rw [List.length_append, List.length_singleton]; omega) rfl (fun A7 c7 E7 hb7 => ?_)
      have hb7' := BufE.snoc (v := rE (i : Nat) t) hb7
      (try refine wx_nil ?_)
      refine hdX ?_
      refine tkX 12 rfl (v_assign rfl) ?_
      refine wh_done (by decide +kernel) ?_
      have ee : evU l i ++ [rS (i : Nat) t] ++ [rE (i : Nat) t] = evU l (i + 1) := by rw [hst]; simp
      rw [ee] at hb7'
      rw [show (evU l i ++ [rS (i : Nat) t]).length + 1 = (evU l (i + 1)).length by rw [← ee]; simp]
      refine rSwRd_0 ?_
      refine wq_roundK ((i + 1, A7, c7, E7)) ?_ ?_ (by repeat (first | exact trivial | refine ⟨rfl, ?_⟩)) (by first | exact catEq | exact rfl)
      · exact ⟨by dsimp only; omega, hb7'⟩
      · dsimp only; omega
    · rw [if_neg h2, List.append_nil] at hst
      rw [← hst] at hb3 ⊢
      refine rSwRd_0 ?_
      refine wq_roundK ((i + 1, A3, c3, E3)) ?_ ?_ (by repeat (first | exact trivial | refine ⟨rfl, ?_⟩)) (by first | exact catEq | exact rfl)
      · exact ⟨by dsimp only; omega, hb3⟩
      · dsimp only; omega
  · obtain rfl : i = l.length := by omega
    have hle := hb3.le
    refine rSwRd_0 ?_
    refine wl_callT (fun w' hr ho => Sorted_spec 1 (evU l l.length).length (evU l l.length) A3 c3 rfl (by omega) hle.1 hle.2 w' (hb3.vwT hr)) rfl rfl rfl ?_
    rintro ⟨A8, c8, E8⟩ hb8
    dsimp only at hb8 ⊢
    refine wx_cat ?_
    refine rSwRd_0 ?_
    exact wq_ret1T (A8, c8, E8) rfl rfl hb8 rfl
end Go.Proofs.Ytlioccfedophhaa
/- The document's sweep: Declared. -/
set_option linter.unusedVariables false
set_option linter.unusedSimpArgs false
namespace Go.Proofs.Ytlioccfedophhaa
open Go
set_option maxRecDepth 20000
set_option maxHeartbeats 2000000
attribute [local irreducible] WX WC WQ Val VCall
theorem rSwRe_0 {A B : Prop} (k : B) (h : Hold B → A := by intro k; (repeat (first | (apply wx_val; (first | exact v_move rfl | exact v_assign rfl | exact v_faddr rfl rfl | exact v_ldAT rfl (by rfl) | exact v_len rfl rfl | exact v_eq rfl rfl | exact v_lt rfl rfl | exact v_addi rfl rfl (by omega) | exact v_iaddrE (by assumption) rfl rfl rfl (by omega)); rfl) | refine wc_seq ?_ | refine wc_region ?_ | refine wx_nil ?_ | refine wq_next ?_ | refine wc_block ?_ | refine wc_ret ?_ | refine wc_skip ?_ | refine wc_exit ?_ | refine wq_then_exit ?_ | refine wq_block ?_ | refine wq_block_exit rfl ?_ | refine wq_setn ?_ | refine wl_stAT rfl rfl (by rfl) (by rfl) (by exact .inl (Nat.le_refl _)) rfl ?_)); exact k.out) : A := h ⟨k⟩
abbrev DLr (l : List DoneW) (q : Option Addr × Nat × Seg) : Prop := Buf 72 9 q.1 l.length q.2.1 (l.flatMap DoneW.cells) q.2.2
theorem Declared_spec {A : Option Addr} {c : Nat} {l : List TxnW} (hl : Fit l) (w : World) (hv : Vw [] w A (l.flatMap TxnW.cells)) (ht : ∀ t ∈ l, t.Reads w) :
    Calls Try.prog 13 #[.slice A l.length c] w (Ret (β := Option Addr × Nat × Seg) w (ids []) (fun r => .slice r.1 (outL (evS l) l (evS l).length).length r.2.1) (fun r => [r.2.2]) (fun r => VLr (outL (evS l) l (evS l).length) r)) := by
  refine go [.slice A l.length c] [] Try.func13 Try.ntmps13 rfl rfl (own_nil w) ?_
  have hlen := hl.len
  have hel := evS_len l
  refine rSwRe_0 ?_
  refine wl_callT (fun w' hr ho => Events_spec hl w' (hv.keep hr) (fun t hm => Vw.keep (ht t hm) hr)) rfl rfl rfl ?_
  rintro ⟨A3, c3, E3⟩ hb3
  dsimp only at hb3 ⊢
  refine wx_cat ?_
  refine rSwRe_0 ?_
  refine wc_seg ?_
  refine wc_seg ?_
  refine wc_loopM (ι := Nat × (Option Addr × Nat × Seg) × (Option Addr × Nat × Seg)) ([[], []]) [0, 3] (fun x => [(6, .int .i64 (x.1 : Nat)), (4, .slice x.2.1.1 (endN (evS l) l x.1).length x.2.1.2.1), (5, .slice x.2.2.1 (outL (evS l) l x.1).length x.2.2.2.1)]) (fun x => [x.2.1.2.2, x.2.2.2.2]) (fun x => (x.1 ≤ (evS l).length ∧ DLr (endN (evS l) l x.1) x.2.1 ∧ VLr (outL (evS l) l x.1) x.2.2)) (fun x => (evS l).length - x.1) ((0, (none, 0, []), (none, 0, []))) rfl rfl ?_ (by repeat (first | exact trivial | refine ⟨rfl, ?_⟩)) ?_
  · exact ⟨Nat.zero_le _, Buf.nil _ _, Buf.nil _ _⟩
  rintro ⟨n, ⟨A4, c4, E4⟩, ⟨A5, c5, E5⟩⟩ ⟨hn, hb4, hb5⟩
  try dsimp only
  refine wc_fcat ?_
  refine wc_cat ?_
  dsimp only at hn hb4 hb5 ⊢
  have hol := outL_len hl n
  have hnl := end_len hl hn
  refine rSwRe_0 ?_
  refine wc_if rfl (fun h1 => ?_) (fun h1 => ?_)
  · obtain ⟨r, hr0⟩ : ∃ r, (evS l)[n]? = some r := ⟨(evS l)[n]'(by omega), List.getElem?_eq_getElem _⟩
    obtain ⟨g3, hA3⟩ := hb3.ptr (by omega)
    have hen := end_step (l := l) hr0
    have hou := outL_step (l := l) hr0
    refine rSwRe_0 ?_
    (try refine wx_ungd rfl rfl ?_)
    apply wx_val
    exact v_load rfl rfl rfl (fun w' hr => hb3.elemT (i := n) hA3 (by decide) (fun _ => rfl) hr0 hr (j := 0) rfl (by rw [Int.toNat_natCast]))
    rfl
    refine rSwRe_0 ?_
    refine wc_if rfl (fun h2 => ?_) (fun h2 => ?_)
    · obtain ⟨i, t, hti, hso, hrr⟩ := evS_mem.1 (List.mem_of_getElem? hr0)
      have hre : r = rE (i : Nat) t := by
        rcases hrr with rfl | rfl
        · have : (2 : Int) = 1 := h2
          omega
        · rfl
      subst hre
      rw [if_pos h2, show l[(rE (i : Nat) t).index.toNat]? = some t from hti] at hen hou
      dsimp only at hen hou
      have hm := List.mem_of_getElem? hti
      have hil := (List.getElem?_eq_some_iff.1 hti).1
      obtain ⟨gA, oA, hA, hca⟩ := hv.elZ (k := 8) (by decide) (fun _ => rfl) (by omega)
      refine rSwRe_0 ?_
      refine wc_heldX [] [E3] rfl (by (repeat (first | exact panicNot_M2 rfl | exact panicNot_D3 rfl | with_reducible exact panicNot_of panicOk_body | with_reducible apply panicNot_block | with_reducible apply panicNot_then))) (fun hQd => ?_)
      refine tkX 0 rfl (v_move rfl) ?_
      refine tkX 1 rfl (v_move rfl) ?_
      refine tkX 2 rfl (v_iaddrE (by assumption) rfl rfl rfl (by omega)) ?_
      refine tkX 3 rfl (v_faddr rfl rfl) ?_
      refine tkX 4 rfl (v_load rfl rfl rfl (fun w' hr => hb3.elemT (i := n) hA3 (by decide) (fun _ => rfl) hr0 hr (j := 3) (v := .int .i64 (i : Nat)) rfl (by rw [Int.toNat_natCast]))) ?_
      refine tkX 5 rfl (v_move rfl) ?_
      refine tkX 6 rfl (v_move rfl) ?_
      refine tkX 7 rfl (v_move rfl) ?_
      refine tkX 8 rfl (v_iaddrE (by assumption) rfl rfl rfl (by omega)) ?_
      refine tkX 9 rfl (v_faddr rfl rfl) ?_
      refine tkX 10 rfl (v_load rfl rfl rfl (fun w' hr => hb3.elemT (i := n) hA3 (by decide) (fun _ => rfl) hr0 hr (j := 3) (v := .int .i64 (i : Nat)) rfl (by rw [Int.toNat_natCast]))) ?_
      refine tkX 11 rfl (v_iaddrE (by assumption) rfl rfl rfl (by omega)) ?_
      refine tkX 12 rfl (v_loadA (cs := t.cells) rfl rfl (fun w' hr u x hj => hca hti hr hj (by rw [Int.toNat_natCast]))) ?_
      refine tkX 13 rfl (v_build (cs := (DoneW.cells ⟨(i : Nat), t⟩).toArray) rfl (by kernel_rfl)) ?_
      refine efX 14 rfl ?_
      refine wl_alloc rfl rfl (fun g7 => ?_)
      (try refine wx_nil ?_)
      refine hdX ?_
      refine efX 15 rfl ?_
      refine rSwRe_0 ?_
      (try refine wx_nil ?_)
      refine hdX ?_
      refine wh_done (by decide +kernel) ?_
      have hfd := hl.fields hm
      have cJ := fun w' hv' ht' htd' => Judge_spec (A := A4) (c := c4) (E := endN (evS l) l n) (d := ⟨(i : Nat), t⟩) (by omega) (fun x hx => by have := (hl.fields (end_in hx)).2.2.2; omega) (end_srt hl hn) (by dsimp only; omega) w' hv' ht' htd'
      have jl : (judgeD ((endN (evS l) l n).map DoneW.p) ⟨(i : Nat), t.p⟩).length ≤ 49 := by
        refine Nat.le_trans (judgeQ_len _ _ _ _ _) ?_
        show 3 * t.ops.xs.length + 1 ≤ 49
        omega
      rw [show (DoneW.p ⟨(i : Nat), t⟩) = ⟨(i : Nat), t.p⟩ from rfl] at cJ
      refine rSwRe_0 ?_
      refine wl_callT (fun w' hr ho => cJ w' (hb4.vwT hr) (fun x hx => Vw.keep (ht x.t (end_in hx)) hr) (Vw.keep (ht t hm) hr)) rfl rfl rfl ?_
      rintro ⟨A8, c8, E8⟩ hb8
      dsimp only at hb8 ⊢
      refine wx_cat ?_
      have el : (outL (evS l) l n).length + (judgeD ((endN (evS l) l n).map DoneW.p) ⟨(i : Nat), t.p⟩).length = (outL (evS l) l (n + 1)).length := by rw [hou, List.length_append]; rfl
      have el2 : (endN (evS l) l n).length + 1 = (endN (evS l) l (n + 1)).length := by rw [hen, List.length_append]; rfl
      refine rSwRe_0 ?_
      refine wl_appT rfl hb5 rfl rfl (fun w' hr => src_slice rfl (hb8.rdT hr) (flat_len' (k := 12) (fun _ => rfl) _) (by decide) (one_flat (f := ViolW.cells) (fun _ => rfl) _)) (by omega) rfl (fun A6 c6 E6 hb6 => ?_)
      rw [el] at hb6 ⊢
      refine rSwRe_0 ?_
      refine wl_lit rfl rfl rfl rfl rfl (by decide) rfl (fun g45 => ?_)
      refine wl_app1T rfl hb4 rfl rfl rfl rfl (by omega) rfl (fun A7 c7 E7 hb7 => ?_)
      rw [el2] at hb7 ⊢
      refine rSwRe_0 ?_
      refine wq_roundK ((n + 1, (A7, c7, E7), (A6, c6, E6))) ?_ ?_ (by repeat (first | exact trivial | refine ⟨rfl, ?_⟩)) (by first | exact catEq | exact rfl)
      · refine ⟨by dsimp only; omega, ?_, ?_⟩
        · unfold DLr
          dsimp only
          conv => arg 6; rw [hen, List.flatMap_append, show [(⟨(rE (i : Nat) t).index, t⟩ : DoneW)].flatMap DoneW.cells = DoneW.cells ⟨(i : Nat), t⟩ by simp [rE]]
          exact hb7
        · unfold VLr
          dsimp only
          conv => arg 6; rw [hou, List.flatMap_append]
          exact hb6
      · dsimp only; omega
    · rw [if_neg h2, List.append_nil] at hen hou
      rw [← hen] at hb4 ⊢
      rw [← hou] at hb5 ⊢
      refine rSwRe_0 ?_
      refine wq_roundK ((n + 1, (A4, c4, E4), (A5, c5, E5))) ?_ ?_ (by repeat (first | exact trivial | refine ⟨rfl, ?_⟩)) (by first | exact catEq | exact rfl)
      · exact ⟨by dsimp only; omega, hb4, hb5⟩
      · dsimp only; omega
  · obtain rfl : n = (evS l).length := by omega
    refine rSwRe_0 ?_
    exact wq_ret1T (A5, c5, E5) rfl rfl hb5 rfl
end Go.Proofs.Ytlioccfedophhaa
/- The sweep: rows that are refused, in plain. -/
set_option linter.unusedVariables false
set_option linter.unusedSimpArgs false
namespace Go.Proofs.Ytlioccfedophhaa
open Go
set_option maxRecDepth 20000
set_option maxHeartbeats 1000000
/-- a row that is refused leaves the sweep as it was -/
theorem take_no {st : StD} {r : RowW} {e : Int} (h : (refuseD st r).2 = e) (he : e ≠ 0) : takeD st r = (([], e), st) := by
  unfold takeD
  rw [if_pos (by rw [h]; exact he), h]
theorem take_taken {st : StD} {r : RowW} (h : (refuseD st r).2 = 0) : (takeD st r).2.taken = true := by
  unfold takeD
  rw [if_neg (fun e => e h)]
  have hh : ∀ s : StD, (holdD s).2.taken = s.taken := fun s => by unfold holdD; split <;> rfl
  split
  · rw [hh]; rfl
  · split
    · rw [hh]; rfl
    · show (holdD _).2.taken = true
      rw [hh]; rfl
theorem refuse_bad {st : StD} {r : RowW} (hb : st.broken = false) (h : ¬ r.Right ∨ r.kind = 3) : (refuseD st r).2 = 90 := by
  unfold refuseD
  rw [if_neg (by rw [hb]; decide), if_pos h]
/-- behind a row the state's last is that row -/
theorem st_last {l : List TxnW} (h : Fit l) {n : Nat} {r : RowW} (hr : (evS l)[n]? = some r) : (stL 1048576 (evS l) (n + 1)).taken = true ∧ (stL 1048576 (evS l) (n + 1)).last = r ∧ (stL 1048576 (evS l) (n + 1)).broken = false := by
  have hn := (List.getElem?_eq_some_iff.1 hr).1
  have h1 := sim_all h n (by omega)
  have h2 := sim_all h (n + 1) (by omega)
  have h3 : (stL 1048576 (evS l) (n + 1)).taken = true := by rw [stL_step hr]; exact take_taken (sim_refuse h h1 hr)
  obtain ⟨m, h4, h5⟩ := h2.tk h3
  obtain rfl : n = m := by omega
  rw [hr] at h5
  exact ⟨h3, (Option.some.inj h5).symm, h2.br⟩
theorem ev_kind {l : List TxnW} {r : RowW} (h : r ∈ evS l) : r.kind = 1 ∨ r.kind = 2 := by
  obtain ⟨i, t, _, _, h3⟩ := evS_mem.1 h
  rcases h3 with rfl | rfl
  · exact .inr rfl
  · exact .inl rfl
theorem turn_again {l : List TxnW} (h : Fit l) {n : Nat} {r : RowW} (hr : (evS l)[n]? = some r) : (refuseD (stL 1048576 (evS l) (n + 1)) r).2 = 161 := by
  obtain ⟨h1, h2, h3⟩ := st_last h hr
  obtain ⟨q1, q2⟩ := ev_row h (List.mem_of_getElem? hr)
  unfold refuseD
  rw [if_neg (by rw [h3]; decide), if_neg (fun e => e.elim (fun e => e q1) q2), if_pos ⟨h1, by rw [h2]; exact before_irrefl r⟩]
/-- a row of a transaction's end whose body is none -/
def oddX (r : RowW) : RowW := ⟨1, r.time, 0, r.index, 0, 0, ⟨#[63]⟩⟩
theorem odd_dec : (decR [63]).2.2 ≠ 0 := by decide
theorem odd_end {l : List TxnW} (h : Fit l) {n : Nat} {i : Nat} {t : TxnW} (hr : (evS l)[n]? = some (rE (i : Nat) t)) : (refuseD (stL 1048576 (evS l) n) (oddX (rE (i : Nat) t))).2 = 162 := by
  have hn := (List.getElem?_eq_some_iff.1 hr).1
  have hs := sim_all h n (by omega)
  have hm := List.mem_of_getElem? hr
  obtain ⟨q1, q2⟩ := ev_row h hm
  have h0 := sim_refuse h hs hr
  have h12 : ¬ (¬ (rE (i : Nat) t).Right ∨ (rE (i : Nat) t).kind = 3) := fun e => e.elim (fun e => e q1) q2
  have hx : (oddX (rE (i : Nat) t)).Right := ⟨q1.1, q1.2.1, q1.2.2.1, q1.2.2.2.1, q1.2.2.2.2.1, q1.2.2.2.2.2.1, (show (1 : Nat) ≤ 512 by omega)⟩
  have hb : ¬ (stL 1048576 (evS l) n).broken = true := by rw [hs.br]; decide
  unfold refuseD at h0
  rw [if_neg hb, if_neg h12] at h0
  unfold refuseD
  rw [if_neg hb, if_neg (fun e => e.elim (fun e => e hx) (fun e => by have : (1 : Int) = 3 := e; omega))]
  have hbf : rowBefore 1 (stL 1048576 (evS l) n).last (oddX (rE (i : Nat) t)) ↔ rowBefore 1 (stL 1048576 (evS l) n).last (rE (i : Nat) t) := Iff.rfl
  by_cases h4 : (stL 1048576 (evS l) n).taken = true ∧ ¬ rowBefore 1 (stL 1048576 (evS l) n).last (rE (i : Nat) t)
  · rw [if_pos h4] at h0
    have : (161 : Int) = 0 := h0
    omega
  · rw [if_neg h4] at h0
    rw [if_neg (fun e => h4 ⟨e.1, fun x => e.2 (hbf.2 x)⟩)]
    rw [if_neg (show ¬ (rE (i : Nat) t).kind = 2 by show ¬ (1 : Int) = 2; omega)] at h0
    rw [if_neg (show ¬ (oddX (rE (i : Nat) t)).kind = 2 by show ¬ (1 : Int) = 2; omega)]
    rw [show (oddX (rE (i : Nat) t)).index = (rE (i : Nat) t).index from rfl]
    cases hq : startD (stL 1048576 (evS l) n).opn (rE (i : Nat) t).index with
    | none =>
      rw [hq] at h0
      have : (163 : Int) = 0 := h0
      omega
    | some s =>
      dsimp only
      rw [if_pos (.inl odd_dec)]
theorem odd_begin {l : List TxnW} (h : Fit l) {n : Nat} {i : Nat} {t : TxnW} (hr : (evS l)[n]? = some (rS (i : Nat) t)) : (refuseD (stL 1048576 (evS l) n) (oddX (rS (i : Nat) t))).2 = 161 ∨ (refuseD (stL 1048576 (evS l) n) (oddX (rS (i : Nat) t))).2 = 163 := by
  have hn := (List.getElem?_eq_some_iff.1 hr).1
  have hs := sim_all h n (by omega)
  have hm := List.mem_of_getElem? hr
  obtain ⟨q1, q2⟩ := ev_row h hm
  have h0 := sim_refuse h hs hr
  have h12 : ¬ (¬ (rS (i : Nat) t).Right ∨ (rS (i : Nat) t).kind = 3) := fun e => e.elim (fun e => e q1) q2
  have hx : (oddX (rS (i : Nat) t)).Right := ⟨⟨by show (1 : Int) ≤ 1; omega, by show (1 : Int) ≤ 3; omega⟩, q1.2.1, q1.2.2.1, q1.2.2.2.1, q1.2.2.2.2.1, q1.2.2.2.2.2.1, (show (1 : Nat) ≤ 512 by omega)⟩
  have hb : ¬ (stL 1048576 (evS l) n).broken = true := by rw [hs.br]; decide
  unfold refuseD at h0
  rw [if_neg hb, if_neg h12] at h0
  unfold refuseD
  rw [if_neg hb, if_neg (fun e => e.elim (fun e => e hx) (fun e => by have : (1 : Int) = 3 := e; omega))]
  by_cases h4 : (stL 1048576 (evS l) n).taken = true ∧ ¬ rowBefore 1 (stL 1048576 (evS l) n).last (oddX (rS (i : Nat) t))
  · rw [if_pos h4]
    exact .inl rfl
  · rw [if_neg h4]
    rw [if_neg (show ¬ (oddX (rS (i : Nat) t)).kind = 2 by show ¬ (1 : Int) = 2; omega)]
    rw [show (oddX (rS (i : Nat) t)).index = (rS (i : Nat) t).index from rfl]
    by_cases h5 : (stL 1048576 (evS l) n).taken = true ∧ ¬ rowBefore 1 (stL 1048576 (evS l) n).last (rS (i : Nat) t)
    · rw [if_pos h5] at h0
      have : (161 : Int) = 0 := h0
      omega
    rw [if_neg h5, if_pos (show (rS (i : Nat) t).kind = 2 from rfl)] at h0
    by_cases h6 : (rS (i : Nat) t).index ∈ (stL 1048576 (evS l) n).begun
    · rw [if_pos h6] at h0
      have : (163 : Int) = 0 := h0
      omega
    · cases hq : startD (stL 1048576 (evS l) n).opn (rS (i : Nat) t).index with
      | none => exact .inr rfl
      | some s =>
        refine absurd ?_ h6
        obtain ⟨F, hF⟩ := hs.inv
        exact hF.per.mem_iff.2 (List.mem_append_left _ (List.mem_map.2 ⟨_, start_mem hq, rfl⟩))
end Go.Proofs.Ytlioccfedophhaa
/- The law of memory: lists of violations are memory of their own. -/
set_option linter.unusedVariables false
set_option linter.unusedSimpArgs false
namespace Go.Proofs.Ytlioccfedophhaa
open Go
set_option maxRecDepth 20000
set_option maxHeartbeats 2000000
attribute [local irreducible] WX WC WQ Val VCall WY WR
/-- a violation that is a mark -/
def mkV (k : Int) : ViolW := ⟨k, 0, 0, 0, 0, ⟨#[]⟩, false, ⟨#[]⟩, false, ⟨#[]⟩, 0, 0⟩
/-- a list of violations that was kept: where it lies -/
structure KpW where
  A : Option Addr
  n : Nat
  c : Nat
def KpW.cells (k : KpW) : List Value := [.slice k.A k.n k.c]
def KpI (i : Nat) (k : KpW) (E : Seg) : Prop := k.n ≤ 49 ∧ Buf 42 12 k.A k.n k.c ((List.replicate k.n (mkV (-(i : Nat) - 1))).flatMap ViolW.cells) E
/-- the lists kept, one behind the other, lie in a segment -/
def KpIn : Nat → List KpW → Seg → Prop
  | _, [], S => S = []
  | i, k :: K, S => ∃ E S', S = E ++ S' ∧ KpI i k E ∧ KpIn (i + 1) K S'
theorem KpIn.snoc : ∀ {K : List KpW} {i : Nat} {S E : Seg} {k : KpW}, KpIn i K S → KpI (i + K.length) k E → KpIn i (K ++ [k]) (S ++ E)
  | [], i, S, E, k, h1, h2 => by
    have : S = [] := h1
    subst this
    exact ⟨E, [], by simp, h2, rfl⟩
  | x :: K, i, S, E, k, ⟨E1, S', e, hb, h⟩, h2 => by
    have e2 : i + 1 + K.length = i + (x :: K).length := by simp only [List.length_cons]; omega
    exact ⟨E1, S' ++ E, by rw [e, List.append_assoc], hb, h.snoc (by rw [e2]; exact h2)⟩
theorem KpIn.find : ∀ {K : List KpW} {i : Nat} {S : Seg}, KpIn i K S → ∀ {j : Nat} {k : KpW}, K[j]? = some k → ∃ S1 E S2, S = S1 ++ E ++ S2 ∧ KpI (i + j) k E ∧ ∀ E', KpI (i + j) k E' → KpIn i K (S1 ++ E' ++ S2)
  | [], i, S, h, j, k, hj => by simp at hj
  | x :: K, i, S, ⟨E, S', e, hb, h⟩, 0, k, hj => by
    simp at hj
    subst hj
    exact ⟨[], E, S', by simpa using e, hb, fun E' h' => ⟨E', S', by simp, h', h⟩⟩
  | x :: K, i, S, ⟨E, S', e, hb, h⟩, j + 1, k, hj => by
    obtain ⟨S1, E1, S2, e1, h1, h2⟩ := h.find (j := j) (by simpa using hj)
    have e3 : i + 1 + j = i + (j + 1) := by omega
    rw [e3] at h1 h2
    exact ⟨E ++ S1, E1, S2, by rw [e, e1]; simp, h1, fun E' h' => ⟨E, S1 ++ E' ++ S2, by simp, hb, h2 E' h'⟩⟩
theorem Buf.short {e sz n m c : Nat} {A : Option Addr} {xs ys : List Value} {E : Seg} (h : Buf e sz A (n + m) c (xs ++ ys) E) (hx : xs.length = n * sz) : ∃ A' c', (A = A' ∧ c = c' ∧ Buf e sz A' n c' xs E) := by
  refine ⟨A, c, rfl, rfl, hx, ?_⟩
  rcases h.2 with ⟨h1, h2, h3, h4⟩ | ⟨g, cur, fz, h1, h2, h3, h4, h5, h6, h7⟩
  · exact .inl ⟨h1, by omega, h3, h4⟩
  · refine .inr ⟨g, cur, fz, h1, h2, by omega, h4, h5, ?_, h7⟩
    have := congrArg (List.take (n * sz)) h6
    rw [List.take_take, Nat.min_eq_left (Nat.mul_le_mul_right sz (by omega)), ← hx, List.take_left] at this
    rw [← hx]
    exact this
theorem mark_set {n i : Nat} {x : ViolW} {l : List ViolW} (hl : l.length = n) (hi : i < n) : (List.replicate i x ++ l.drop i).set i x = List.replicate (i + 1) x ++ l.drop (i + 1) := by
  subst hl
  rw [List.set_append_right _ _ (by simp), List.length_replicate, Nat.sub_self, List.drop_eq_getElem_cons hi, List.set_cons_zero, List.replicate_succ', List.append_assoc]
  rfl
def z0M (s : SwW) (mc : Nat) (q : Fo) : SwQ := ⟨s, [], 0, [], 0, mc, 0, [], 0, q, []⟩
abbrev BufP (K : List KpW) (x : Option Addr × Nat × Seg) : Prop := Buf 30 1 x.1 K.length x.2.1 (K.flatMap KpW.cells) x.2.2
theorem BufP.snoc {K : List KpW} {k : KpW} {A : Option Addr} {c : Nat} {E : Seg} (h : Buf 30 1 A (K.length + 1) c (K.flatMap KpW.cells ++ [.slice k.A k.n k.c]) E) : BufP (K ++ [k]) (A, c, E) := by
  unfold BufP
  rw [List.length_append, show (K ++ [k]).flatMap KpW.cells = K.flatMap KpW.cells ++ [.slice k.A k.n k.c] by simp [KpW.cells]]
  exact h
theorem tell_cut (l : List TxnW) {n : Nat} (hn : n < (evS l).length) : ((outL (evS l) l (evS l).length).drop (outL (evS l) l n).length).take (tellN (evS l) l n).length = tellN (evS l) l n ∧ (outL (evS l) l n).length + (tellN (evS l) l n).length ≤ (outL (evS l) l (evS l).length).length := by
  have hp : ∀ k, n + 1 + k ≤ (evS l).length → ∃ Z, outL (evS l) l (n + 1 + k) = outL (evS l) l n ++ tellN (evS l) l n ++ Z := fun k => by
    induction k with
    | zero => intro _; exact ⟨[], by rw [Nat.add_zero, outL_tell, List.append_nil]⟩
    | succ k ih =>
      intro h
      obtain ⟨Z, hZ⟩ := ih (by omega)
      exact ⟨Z ++ tellN (evS l) l (n + 1 + k), by rw [show n + 1 + (k + 1) = n + 1 + k + 1 by omega, outL_tell, hZ, List.append_assoc]⟩
  obtain ⟨Z, hZ⟩ := hp ((evS l).length - (n + 1)) (by omega)
  rw [show n + 1 + ((evS l).length - (n + 1)) = (evS l).length by omega] at hZ
  rw [hZ]
  refine ⟨?_, by simp only [List.length_append]; omega⟩
  rw [List.append_assoc, List.drop_left, List.take_left]
end Go.Proofs.Ytlioccfedophhaa
