/- The logfile law's anchor; readings told in plain. -/
import Derived.Test.YtjfjleejbbmmaaaLogW2
import Derived.Test.YtjfjleejbbmmaaaLogW7
set_option linter.unusedVariables false
set_option linter.unusedSimpArgs false
namespace Go.Proofs.Ytjfjleejbbmmaaa
open Go
set_option maxRecDepth 20000
set_option maxHeartbeats 2000000
attribute [local irreducible] WX WC WQ Val VCall
theorem TxnP.Right.ops {t : TxnP} (h : t.Right) : t.ops.length ≤ 16 := by
  obtain ⟨h1, h2, h3⟩ := (t.w none 0).ok_of h
  exact h2
theorem dec_good {d : List UInt8} (h : (allD d).2.2 = 0) : d = logB (allD d).1 ∧ (∀ t ∈ (allD d).1, t.Right) ∧ (allD d).1.length ≤ 4096 ∧ (allD d).2.1 = 0 := by
  have e : allD d = ((allD d).1, (allD d).2.1, 0) := by rw [← h]
  exact log_inv e
theorem dec_bad {d : List UInt8} (h : (allD d).2.2 ≠ 0) : (allD d).1 = [] := all_bad 4097 [] h
theorem dec_small (d : List UInt8) : (∀ t ∈ (allD d).1, t.ops.length ≤ 16) ∧ (allD d).1.length ≤ 4096 := by
  by_cases h : (allD d).2.2 = 0
  · obtain ⟨h1, h2, h3, h4⟩ := dec_good h
    exact ⟨fun t ht => (h2 t ht).ops, h3⟩
  · rw [dec_bad h]
    exact ⟨by simp, by simp⟩
theorem chkL_p : ∀ (L : List TxnW) (k : Nat), chkL L k = chkL ((L.map TxnW.p).map (fun t => t.w none 0)) k
  | [], k => rfl
  | t :: L, k => by
    have e : (t.p.w none 0).err = t.err := rfl
    rw [List.map_cons, List.map_cons, chkL, chkL, e, chkL_p L (k + 1)]
theorem chk_p {W L : List TxnW} (h : W.map TxnW.p = L.map TxnW.p) : chk W = chk L := by
  have e : W.length = L.length := by have := congrArg List.length h; simpa using this
  unfold chk
  rw [e, chkL_p W, chkL_p L, h]
theorem encL_p {W L : List TxnW} (h : W.map TxnW.p = L.map TxnW.p) : encL W = encL L := by
  unfold encL
  rw [chk_p h, h]
/-- a right list's bytes -/
theorem encL_ok {L : List TxnW} (h : (chk L).2 = 0) : encL L = logB (L.map TxnW.p) := if_pos h
theorem right_p {L : List TxnW} (h : ∀ u ∈ L, u.err = 0) : ∀ t ∈ L.map TxnW.p, t.Right := by
  intro t ht
  obtain ⟨u, hu, rfl⟩ := List.mem_map.1 ht
  exact h u hu
theorem logB_len {L : List TxnP} (h : ∀ t ∈ L, t.Right) (hl : L.length ≤ 4096) : (logB L).length ≤ 2097152 := by
  have key : ∀ l : List TxnP, (∀ t ∈ l, t.Right) → (entsB l).length ≤ l.length * 480 := fun l => by
    induction l with
    | nil => intro _; simp [entsB]
    | cons t r ih =>
      intro h
      have h1 := ih (fun x hx => h x (by simp [hx]))
      have h2 := t.body_le (h t (by simp))
      have h3 := formN_len8 (n := t.body.length) (by omega)
      have e : entsB (t :: r) = entB t ++ entsB r := rfl
      rw [e, List.length_append, entB, List.length_append, List.length_cons]
      omega
  have h1 := key L h
  have h3 := formN_len8 (n := L.length) (by omega)
  unfold logB
  rw [List.length_append, List.length_append, List.length_cons, show magicB.length = 4 from rfl]
  omega
/-- what is written is read -/
theorem dec_log {L : List TxnP} (h : ∀ t ∈ L, t.Right) (hl : L.length ≤ 4096) : allD (logB L) = (L, 0, 0) := by
  have := log_at h hl [] true
  rw [List.append_nil, if_pos rfl] at this
  exact this
/-- what is read is written the same -/
theorem enc_dec {d : List UInt8} (h : (allD d).2.2 = 0) {W : List TxnW} (hW : W.map TxnW.p = (allD d).1) : (chk W).2 = 0 ∧ encL W = d := by
  obtain ⟨h1, h2, h3, h4⟩ := dec_good h
  have hl : W.length ≤ 4096 := by have := congrArg List.length hW; simp at this; omega
  have he : ∀ u ∈ W, u.err = 0 := fun u hu => h2 u.p (by rw [← hW]; exact List.mem_map_of_mem hu)
  have e := chk_ok hl he
  refine ⟨by rw [e], ?_⟩
  rw [encL_ok (by rw [e]), hW]
  exact h1.symm
def ancE : List UInt8 := [80, 82, 79, 1, 0, 0]
def ancF : List UInt8 := [80, 82, 79, 1, 0, 1]
theorem anc_enc : chk [] = (0, 0) ∧ encL [] = ancE := by
  refine ⟨rfl, ?_⟩
  have e : encL [] = logB [] := rfl
  rw [e]
  unfold logB
  rw [show ([] : List TxnP).length = 0 from rfl, formN_lt (n := 0) (by decide)]
  rfl
theorem anc_dec : allD ancF = ([], 5, 72) := by
  have h : (⟨ancF, true, 0, 0, false, 0⟩ : Dsc).next = ((TxnP.zero, false, 72), ⟨ancF, true, 5, 0, false, 72⟩) := by rfl
  unfold allD Dsc.all
  rw [h]
  dsimp only
  rw [if_pos (by decide)]
theorem anchor_spec (w : World) : Calls Try.prog 13 #[] w (Ret (β := Unit) w (ids []) (fun _ => .bool true) (fun _ => []) (fun _ => True)) := by
  refine go [] [] Try.func13 Try.ntmps13 rfl rfl (own_nil w) ?_
  repeat (first | (apply wx_val; (first | exact v_assign rfl); rfl) | refine wc_seq ?_ | refine wc_region ?_ | refine wx_nil ?_ | refine wq_next ?_)
  refine wl_callT (M1 := []) (fun w' hr ho => LogEnc_spec (L := []) (A := none) (c := 0) (by decide) w' Vw.nil (by simp)) rfl rfl rfl ?_
  rintro ⟨A2, c2, E2⟩ hb2
  rw [anc_enc.1, anc_enc.2] at *
  dsimp only at hb2 ⊢
  repeat (first | (apply wx_val; (first | exact v_move rfl | exact v_assign rfl | exact v_extract rfl rfl); rfl) | refine wc_seq ?_ | refine wc_region ?_ | refine wx_nil ?_ | refine wq_next ?_ | refine wx_cat ?_)
  refine wl_litB rfl rfl rfl rfl rfl (by decide) rfl (fun g11 E11 hb11 => ?_)
  have hbb : BufB ancF (some ⟨g11, 0, none⟩, 6, E11) := hb11
  skip
  refine wl_callT (M1 := []) (fun w' hr ho => LogDec_spec (d := ancF) (c := 6) (by decide) w' (hbb.vwT hr)) rfl rfl rfl ?_
  rintro ⟨A3, c3, E3, S3, W3⟩ hb3
  rw [anc_dec] at *
  dsimp only at hb3 ⊢
  repeat (first | (apply wx_val; (first | exact v_move rfl | exact v_assign rfl | exact v_extract rfl rfl | exact v_eq rfl rfl); rfl) | refine wx_ungd rfl rfl ?_ | refine wc_seq ?_ | refine wc_region ?_ | refine wx_nil ?_ | refine wq_next ?_ | refine wx_cat ?_)
  refine wl_litB rfl rfl rfl rfl rfl (by decide) rfl (fun g22 E22 hb22 => ?_)
  have hbc : BufB ancE (some ⟨g22, 0, none⟩, 6, E22) := hb22
  repeat (first | refine wx_ungd rfl rfl ?_)
  (try refine wx_ungd rfl rfl ?_)
  refine wx_vcall (vc_pure' rfl rfl (fun w' hr => same_spec (a := ancE) (b := ancE) (by decide) w' (hb2.vwT hr) (hbc.vwT hr))) rfl ?_
  repeat (first | (apply wx_val; (first | exact v_move rfl | exact v_assign rfl | exact v_len rfl rfl | exact v_eq rfl rfl | exact v_pickT rfl rfl); rfl) | refine wx_ungd rfl rfl ?_ | refine wx_nil ?_ | refine wq_next ?_ | refine wc_ret ?_)
  exact wq_clear (wq_ret1 () rfl rfl trivial rfl)
theorem LogEnc_n {W : List TxnW} {A : Option Addr} {c n : Nat} (hn : n = W.length) (hl : n ≤ 1048576) (w : World) (hv : Vw [] w A (W.flatMap TxnW.cells)) (hr1 : ∀ t ∈ W, t.Reads w) :
    Calls Try.prog 17 #[.slice A n c] w (EncR W w) := by
  subst hn
  exact LogEnc_spec hl w hv hr1
theorem SameList_n {W1 W2 : List TxnW} {A1 A2 : Option Addr} {c1 c2 n1 n2 : Nat} (hm : W1.map TxnW.p = W2.map TxnW.p) (h1 : n1 = W1.length) (h2 : n2 = W2.length) (hl : n1 ≤ 1048576) (hs : ∀ t ∈ W1, t.ops.xs.length ≤ 1048576) (w : World) (hv1 : Vw [] w A1 (W1.flatMap TxnW.cells)) (hv2 : Vw [] w A2 (W2.flatMap TxnW.cells)) (hr1 : ∀ t ∈ W1, t.Reads w) (hr2 : ∀ t ∈ W2, t.Reads w) :
    Calls Try.prog 16 #[.slice A1 n1 c1, .slice A2 n2 c2] w (Ret (β := Unit) w (ids []) (fun _ => .bool true) (fun _ => []) (fun _ => True)) := by
  have e : W2.length = W1.length := by have := congrArg List.length hm; simpa using this.symm
  rw [e] at h2
  subst h1; subst h2
  exact SameList_spec hm hl hs w hv1 hv2 hr1 hr2
theorem p_small {W : List TxnW} {L : List TxnP} (h : W.map TxnW.p = L) (hs : ∀ t ∈ L, t.ops.length ≤ 1048576) : ∀ t ∈ W, t.ops.xs.length ≤ 1048576 := fun t ht => hs t.p (by rw [← h]; exact List.mem_map_of_mem ht)
end Go.Proofs.Ytjfjleejbbmmaaa
