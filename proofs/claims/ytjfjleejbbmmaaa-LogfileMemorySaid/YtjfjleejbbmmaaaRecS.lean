/- Transactions held against each other, copied; the first example. -/
import Derived.Test.YtjfjleejbbmmaaaRecD5
import Derived.Test.YtjfjleejbbmmaaaRec4
import Derived.Test.YtjfjleejbbmmaaaSame
set_option linter.unusedVariables false
set_option linter.unusedSimpArgs false
namespace Go.Proofs.Ytjfjleejbbmmaaa
open Go
set_option maxRecDepth 20000
set_option maxHeartbeats 2000000
attribute [local irreducible] WX WC WQ Val VCall
theorem eqL_op (o : OpW) : eqL o.cells o.cells = true := by simp [OpW.cells, eqL, eqV]
theorem Vw.elT {α : Type} {f : α → List Value} {k : Nat} {A : Option Addr} {xs : List α} {X : List Nat} {w0 : World} (h : Vw X w0 A (xs.flatMap f)) (hk : 0 < k) (hf : ∀ a, (f a).length = k) (hx : 0 < xs.length) :
    ∃ g o, A = some ⟨g, o, none⟩ ∧ ∀ {i : Nat} {a : α}, xs[i]? = some a → ∀ {w : World} {M : List Seg}, Res w0 X w M → ∀ {j : Nat} {v : Value}, (f a)[j]? = some v → ∀ {off : Nat}, off = o + i * k + j → w.cell? ⟨g, off, none⟩ = some v := by
  have key : ∀ (i : Nat) (a : α), xs[i]? = some a → ∀ j v, (f a)[j]? = some v → (xs.flatMap f)[i * k + j]? = some v := fun i a hi j v hj => by
    have hjk : j < k := by
      have := (List.getElem?_eq_some_iff.1 hj).1
      rw [hf] at this; exact this
    rw [flat_get f hk hf, Nat.mul_comm, Nat.mul_add_div hk, Nat.div_eq_of_lt hjk, Nat.add_zero, hi, Nat.mul_add_mod, Nat.mod_eq_of_lt hjk]
    exact hj
  have hne : xs.flatMap f ≠ [] := by
    intro e
    have := flat_len' hf xs
    rw [e] at this
    have h2 := Nat.mul_pos hx hk
    simp at this; omega
  obtain ⟨g, o, rfl, hg, hc⟩ := h hne
  refine ⟨g, o, rfl, fun {i a} hi {w M} hr {j v} hj {off} ho => ?_⟩
  subst ho
  rw [Nat.add_assoc]
  exact cell_keep hr hg (hc _ _ (key i a hi j v hj))
theorem Same_spec {t : TxnP} {A1 A2 : Option Addr} {c1 c2 : Nat} (ht : t.ops.length ≤ 1048576) (w : World) (hv1 : Vw [] w A1 (t.ops.flatMap OpW.cells)) (hv2 : Vw [] w A2 (t.ops.flatMap OpW.cells)) :
    Calls Try.prog 28 #[.agg (t.cells A1 c1).toArray, .agg (t.cells A2 c2).toArray] w (Ret (β := Unit) w (ids []) (fun _ => .bool true) (fun _ => []) (fun _ => True)) := by
  refine go [.agg (t.cells A1 c1).toArray, .agg (t.cells A2 c2).toArray] [] Try.func28 Try.ntmps28 rfl rfl (own_nil w) ?_
  repeat (first | refine wc_seq ?_ | refine wc_region ?_)
  refine wl_boxA rfl rfl (fun g2 => ?_)
  refine wl_boxA rfl rfl (fun g3 => ?_)
  repeat (first | (apply wx_val; (first | exact v_move rfl | exact v_assign rfl | exact v_faddr rfl rfl | exact v_ldT rfl rfl rfl (by rfl) | exact v_ne rfl rfl); rfl) | refine wc_seq ?_ | refine wc_region ?_ | refine wx_nil ?_ | refine wq_next ?_)
  refine wx_gset false rfl rfl (by simp) ?_
  repeat (first | (apply wx_val; (first | exact v_move rfl | exact v_faddr rfl rfl | exact v_ldT rfl rfl rfl (by rfl) | exact v_ne rfl rfl | exact v_pickF rfl rfl); rfl) | refine wx_ungd rfl rfl ?_)
  refine wx_gset false rfl rfl (by simp) ?_
  repeat (first | (apply wx_val; (first | exact v_move rfl | exact v_faddr rfl rfl | exact v_ldT rfl rfl rfl (by rfl) | exact v_ne rfl rfl | exact v_pickF rfl rfl); rfl) | refine wx_ungd rfl rfl ?_)
  refine wx_gset false rfl rfl (by simp) ?_
  repeat (first | (apply wx_val; (first | exact v_move rfl | exact v_faddr rfl rfl | exact v_ldT rfl rfl rfl (by rfl) | exact v_ne rfl rfl | exact v_pickF rfl rfl); rfl) | refine wx_ungd rfl rfl ?_)
  refine wx_gset false rfl rfl (by simp) ?_
  repeat (first | (apply wx_val; (first | exact v_move rfl | exact v_faddr rfl rfl | exact v_ldT rfl rfl rfl (by rfl) | exact v_ne rfl rfl | exact v_pickF rfl rfl); rfl) | refine wx_ungd rfl rfl ?_)
  refine wx_gset false rfl rfl (by simp) ?_
  repeat (first | (apply wx_val; (first | exact v_move rfl | exact v_faddr rfl rfl | exact v_ldT rfl rfl rfl (by rfl) | exact v_ne rfl rfl | exact v_pickF rfl rfl); rfl) | refine wx_ungd rfl rfl ?_)
  refine wx_gset false rfl rfl (by simp) ?_
  repeat (first | (apply wx_val; (first | exact v_move rfl | exact v_faddr rfl rfl | exact v_ldT rfl rfl rfl (by rfl) | exact v_ne rfl rfl | exact v_pickF rfl rfl); rfl) | refine wx_ungd rfl rfl ?_)
  refine wx_gset false rfl rfl (by simp) ?_
  repeat (first | (apply wx_val; (first | exact v_faddr rfl rfl | exact v_ldT rfl rfl rfl (by rfl) | exact v_len rfl rfl | exact v_ne rfl rfl | exact v_pickF rfl rfl); rfl) | refine wx_ungd rfl rfl ?_ | refine wx_nil ?_ | refine wq_next ?_)
  refine wc_not rfl (by simp) ?_
  repeat (first | (apply wx_val; (first | exact v_assign rfl); rfl) | refine wc_seq ?_ | refine wc_region ?_ | refine wx_nil ?_ | refine wq_next ?_ | refine wc_block ?_ | refine wc_skip ?_)
  refine wc_loopK (ι := Nat) [2, 3] (fun i => [(5, .int .i64 (i : Nat))]) (fun i => []) (fun i => i ≤ t.ops.length) (fun i => t.ops.length - i) (0) rfl ?_ (by repeat (first | exact trivial | refine ⟨rfl, ?_⟩)) ?_
  · exact Nat.zero_le _
  rintro i hi
  try dsimp only
  refine wc_fcat ?_
  refine wc_cat ?_
  repeat (first | (apply wx_val; (first | exact v_move rfl | exact v_faddr rfl rfl | exact v_ldT rfl rfl rfl (by rfl) | exact v_len rfl rfl | exact v_lt rfl rfl); rfl) | refine wc_seq ?_ | refine wc_region ?_ | refine wx_nil ?_ | refine wq_next ?_)
  refine wc_if rfl (fun h1 => ?_) (fun h1 => ?_)
  · obtain ⟨o, ho⟩ : ∃ o, t.ops[i]? = some o := ⟨t.ops[i]'(by omega), List.getElem?_eq_getElem _⟩
    obtain ⟨ga, oa, hA1, hca⟩ := hv1.elT (k := 4) (by decide) (fun _ => rfl) (by omega)
    obtain ⟨gb, ob, hA2, hcb⟩ := hv2.elT (k := 4) (by decide) (fun _ => rfl) (by omega)
    repeat (first | (apply wx_val; (first | exact v_move rfl | exact v_faddr rfl rfl | exact v_ldT rfl rfl rfl (by rfl) | exact v_iaddrE (by assumption) rfl rfl rfl (by omega)); rfl) | refine wc_seq ?_ | refine wq_next ?_ | refine wc_block ?_ | refine wc_skip ?_ | refine wc_reads rfl (by decide +kernel) ?_)
    (try refine wx_ungd rfl rfl ?_)
    apply wx_val
    exact v_loadA (cs := o.cells) rfl rfl (fun w' hr j u hj => hca ho hr hj (by rw [Int.toNat_natCast]))
    rfl
    repeat (first | (apply wx_val; (first | exact v_move rfl | exact v_faddr rfl rfl | exact v_ldT rfl rfl rfl (by rfl) | exact v_iaddrE (by assumption) rfl rfl rfl (by omega)); rfl))
    (try refine wx_ungd rfl rfl ?_)
    apply wx_val
    exact v_loadA (cs := o.cells) rfl rfl (fun w' hr j u hj => hcb ho hr hj (by rw [Int.toNat_natCast]))
    rfl
    repeat (first | (apply wx_val; (first | exact v_neA rfl rfl (by kernel_rfl)); rfl) | refine wx_nil ?_ | refine wq_next ?_)
    refine wc_not rfl (by rw [eqL_op]; rfl) ?_
    repeat (first | (apply wx_val; (first | exact v_move rfl | exact v_assign rfl | exact v_addi rfl rfl (by omega)); rfl) | refine wc_region ?_ | refine wx_nil ?_ | refine wq_next ?_ | refine wc_skip ?_ | refine wq_block ?_)
    refine wq_roundK (i + 1) ?_ ?_ (by repeat (first | exact trivial | refine ⟨rfl, ?_⟩)) (by first | exact catEq | exact rfl)
    · show _ ≤ _; omega
    · omega
  · repeat (first | (apply wx_val; (first | exact v_assign rfl); rfl) | refine wc_seq ?_ | refine wc_region ?_ | refine wx_nil ?_ | refine wq_next ?_ | refine wc_ret ?_ | refine wc_exit ?_ | refine wq_then_exit ?_ | refine wq_block_exit rfl ?_)
    exact wq_clear (wq_ret1 () rfl rfl trivial rfl)
def TxnW.p (t : TxnW) : TxnP := ⟨t.session, t.seq, t.start, t.fin, t.invoke, t.ret, t.status, t.ops.xs⟩
def TxnP.w (t : TxnP) (A : Option Addr) (c : Nat) : TxnW := ⟨t.session, t.seq, t.start, t.fin, t.invoke, t.ret, t.status, { A := A, xs := t.ops, c := c }⟩
theorem Copy_spec {t : TxnW} (ht : t.ops.xs.length ≤ 1048576) (w : World) (hv : t.Reads w) :
    Calls Try.prog 27 #[.agg t.cells.toArray] w (Ret (β := Option Addr × Nat × Seg) w (ids []) (fun q => .agg (t.p.cells q.1 q.2.1).toArray) (fun q => [q.2.2]) (fun q => BufO t.ops.xs q)) := by
  refine go [.agg t.cells.toArray] [] Try.func27 Try.ntmps27 rfl rfl (own_nil w) ?_
  repeat (first | refine wc_seq ?_ | refine wc_region ?_)
  refine wl_boxA rfl rfl (fun g1 => ?_)
  refine wl_alloc rfl rfl (fun g2 => ?_)
  repeat (first | refine wc_seq ?_ | refine wc_region ?_ | refine wx_nil ?_ | refine wq_next ?_)
  refine wl_lit0 rfl rfl (fun g3 E3 hb3 => ?_)
  repeat (first | (apply wx_val; (first | exact v_faddr rfl rfl | exact v_ldT rfl rfl rfl (by rfl)); rfl))
  refine wl_appT rfl hb3 rfl rfl (fun w' hr => src_slice rfl (Vw.keep hv hr).rd (flat_len' (k := 4) (fun _ => rfl) _) (by decide) (fun u hu => by
    obtain ⟨a, _, h⟩ := List.mem_flatMap.1 hu
    exact List.all_eq_true.1 (show a.cells.all Value.oneCell' = true from rfl) u h)) (by omega) rfl (fun A2 c2 E2 hb2 => ?_)
  simp only [Nat.zero_add, List.nil_append] at hb2 ⊢
  repeat (first | (apply wx_val; (first | exact v_faddr rfl rfl | (first | exact v_ldQ 2 0 rfl rfl rfl rfl rfl)); rfl) | refine wc_seq ?_ | refine wc_region ?_ | refine wx_nil ?_ | refine wq_next ?_ | refine wc_ret ?_ | refine wx_setn ?_ | refine wq_setn ?_ | refine wl_storeT rfl rfl rfl (by rfl) (by exact .inl (Nat.le_refl _)) rfl ?_ | refine wl_stAT rfl rfl (by rfl) (by rfl) (by exact .inl (Nat.le_refl _)) rfl ?_)
  exact wq_retAT (cs := t.p.cells A2 c2) (A2, c2, E2) rfl rfl rfl rfl hb2 rfl
end Go.Proofs.Ytjfjleejbbmmaaa
