/- What is read and written of transactions is memory of its own. -/
import Derived.Test.YtknnkgoehkohaaaRecP2
set_option linter.unusedVariables false
set_option linter.unusedSimpArgs false
namespace Go.Proofs.Ytknnkgoehkohaaa
open Go
set_option maxRecDepth 20000
set_option maxHeartbeats 4000000
attribute [local irreducible] WX WC WQ Val VCall
theorem TxnW.w_err (t : TxnW) (A : Option Addr) (c : Nat) : (t.p.w A c).err = t.err := rfl
theorem TxnW.w_enc (t : TxnW) (A : Option Addr) (c : Nat) : (t.p.w A c).encB = t.encB := rfl
theorem bys_set' (l : List UInt8) (i : Nat) (x : UInt8) : (bys l).set i (.int .u8 x.toNat) = bys (l.set i x) := by simp [bys, List.map_set]
theorem bys_setC (l : List UInt8) (i n : Nat) (h : n < 256) : (bys l).set i (.int .u8 n) = bys (l.set i (UInt8.ofNat n)) := by
  rw [← bys_set']
  have e : (UInt8.ofNat n).toNat = n := by simp; omega
  rw [e]
theorem Mem_law {t : TxnW} (ht : t.ops.xs.length ≤ 1048576) (w : World) (hv : t.Reads w) :
    Calls Try.prog 8 #[.agg t.cells.toArray] w (Holds w) := by
  refine go [.agg t.cells.toArray] [] Try.func8 Try.ntmps8 rfl rfl (own_nil w) ?_
  repeat (first | refine wc_seq ?_ | refine wc_region ?_)
  refine wl_boxA rfl rfl (fun g1 => ?_)
  repeat (first | (apply wx_val; (first | exact v_assign rfl | exact v_ldAT rfl (by rfl) | exact v_not rfl); rfl) | refine wc_seq ?_ | refine wc_region ?_ | refine wx_nil ?_ | refine wq_next ?_ | refine wc_skip ?_ | refine wc_condF rfl ?_ | (apply wx_vcall; exact vc_pure rfl rfl (fun w' => anchor_spec w'); rfl))
  (try refine wx_ungd rfl rfl ?_)
  refine wx_vcall (vc_pure' rfl rfl (fun w' hr => refValid_spec t w' (Vw.keep hv hr))) rfl ?_
  repeat (first | (apply wx_val; (first | exact v_ne rfl rfl); rfl) | refine wx_nil ?_ | refine wq_next ?_)
  refine wc_if rfl (fun he => ?_) (fun he => ?_)
  · repeat (first | (apply wx_val; (first | exact v_assign rfl); rfl) | refine wc_seq ?_ | refine wc_region ?_ | refine wx_nil ?_ | refine wq_next ?_ | refine wc_ret ?_ | refine wq_then_ret ?_)
    exact wq_clear (wq_ret1 () rfl rfl trivial rfl)
  have he' : t.err = 0 := Decidable.not_not.1 he
  have eb : t.encB = t.body := if_pos he'
  obtain ⟨h1, h2, h3⟩ := t.ok_of he'
  have hbl := body_len h1 h2 h3
  have ep : t.p.ops.length = t.ops.xs.length := rfl
  repeat (first | (apply wx_val; (first | exact v_ldAT rfl (by rfl)); rfl) | refine wc_seq ?_ | refine wc_region ?_ | refine wq_next ?_ | refine wc_skip ?_)
  refine wl_callT (M1 := []) (fun w' hr ho => Copy_spec ht w' (Vw.keep hv hr)) rfl rfl rfl ?_
  rintro ⟨A3, c3, E3⟩ hb3
  dsimp only at hb3 ⊢
  try refine wx_cat ?_
  skip
  refine wl_alloc rfl rfl (fun g3 => ?_)
  repeat (first | (apply wx_val; (first | (first | exact v_ldQ 0 0 rfl rfl rfl rfl rfl)); rfl) | refine wc_seq ?_ | refine wc_region ?_ | refine wx_nil ?_ | refine wq_next ?_ | refine wx_setn ?_ | refine wl_stAT rfl rfl (by rfl) (by rfl) (by exact .inl (Nat.le_refl _)) rfl ?_)
  refine wl_callT (M1 := []) (fun w' hr ho => Encode_spec (t := t.p.w A3 c3) w' (hb3.vwT hr)) rfl rfl rfl ?_
  rintro ⟨A4, c4, E4⟩ hb4
  rw [TxnW.w_enc] at hb4
  rw [TxnW.w_err, TxnW.w_enc]
  dsimp only at hb4 ⊢
  rw [eb] at hb4 ⊢
  rw [he']
  repeat (first | (apply wx_val; (first | exact v_move rfl | exact v_assign rfl | exact v_ldAT rfl (by rfl) | exact v_extract rfl rfl); rfl) | refine wc_seq ?_ | refine wc_region ?_ | refine wx_nil ?_ | refine wq_next ?_ | refine wx_cat ?_)
  refine wl_callT (M1 := []) (fun w' hr ho => Encode_spec (t := t.p.w A3 c3) w' (hb3.vwT hr)) rfl rfl rfl ?_
  rintro ⟨A6, c6, E6⟩ hb6
  rw [TxnW.w_enc] at hb6
  rw [TxnW.w_err, TxnW.w_enc]
  dsimp only at hb6 ⊢
  rw [eb] at hb6 ⊢
  rw [he']
  repeat (first | (apply wx_val; (first | exact v_move rfl | exact v_assign rfl | exact v_ldAT rfl (by rfl) | exact v_extract rfl rfl | exact v_ne rfl rfl | exact v_pickF rfl rfl); rfl) | refine wx_ungd rfl rfl ?_ | refine wc_seq ?_ | refine wc_region ?_ | refine wx_nil ?_ | refine wq_next ?_ | refine wx_cat ?_)
  (try refine wx_ungd rfl rfl ?_)
  refine wx_vcall (vc_pure' rfl rfl (fun w' hr => Same_spec (t := t.p) ht w' (hb3.vwT hr) (Vw.keep hv hr))) rfl ?_
  repeat (first | (apply wx_val; (first | exact v_move rfl | exact v_not rfl | exact v_pickF rfl rfl); rfl) | refine wx_ungd rfl rfl ?_)
  (try refine wx_ungd rfl rfl ?_)
  refine wx_vcall (vc_pure' rfl rfl (fun w' hr => same_spec (a := t.body) (b := t.body) (by omega) w' (hb4.vwT hr) (hb6.vwT hr))) rfl ?_
  repeat (first | (apply wx_val; (first | exact v_not rfl | exact v_pickF rfl rfl); rfl) | refine wx_ungd rfl rfl ?_ | refine wx_nil ?_ | refine wq_next ?_)
  refine wc_not rfl (by simp) ?_
  refine wc_keep [1, 3, 4, 6] rfl ?_
  repeat (first | refine wc_seq ?_ | refine wc_region ?_ | refine wq_next ?_ | refine wc_skip ?_)
  refine wl_lit0 rfl rfl (fun g54 E0 hb0 => ?_)
  repeat (first | (apply wx_val; (first | exact v_move rfl); rfl))
  refine wl_appT rfl hb0 rfl rfl (fun w' hr => src_slice rfl (hb4.rdT hr) (by simp) (by decide) (one_bys _)) (by omega) rfl (fun A8 c8 E8 hb8 => ?_)
  simp only [Nat.zero_add, List.nil_append] at hb8 ⊢
  repeat (first | (apply wx_val; (first | exact v_move rfl | exact v_assign rfl); rfl) | refine wc_seq ?_ | refine wc_region ?_ | refine wx_nil ?_ | refine wq_next ?_)
  refine wl_callT (M1 := []) (fun w' hr ho => Decode_spec (d := t.body) (by omega) w' (hb8.vwT hr)) rfl rfl rfl ?_
  rintro ⟨A9, c9, E9⟩ hb9
  rw [dec_body he'] at hb9 ⊢
  dsimp only at hb9 ⊢
  repeat (first | (apply wx_val; (first | exact v_move rfl | exact v_extract rfl rfl); rfl) | refine wx_cat ?_)
  refine wl_alloc rfl rfl (fun g9 => ?_)
  repeat (first | (apply wx_val; (first | exact v_move rfl | exact v_assign rfl); rfl) | refine wc_seq ?_ | refine wc_region ?_ | refine wx_nil ?_ | refine wq_next ?_ | refine wx_setn ?_ | refine wl_stAT rfl rfl (by rfl) (by rfl) (by exact .inl (Nat.le_refl _)) rfl ?_)
  refine wl_callT (M1 := []) (fun w' hr ho => Decode_spec (d := t.body) (by omega) w' (hb8.vwT hr)) rfl rfl rfl ?_
  rintro ⟨Ab, cb, Eb⟩ hbb
  rw [dec_body he'] at hbb ⊢
  dsimp only at hbb ⊢
  repeat (first | (apply wx_val; (first | exact v_move rfl | exact v_extract rfl rfl); rfl) | refine wx_cat ?_)
  refine wl_alloc rfl rfl (fun g12 => ?_)
  repeat (first | (apply wx_val; (first | exact v_move rfl | exact v_assign rfl | exact v_ne rfl rfl | exact v_pickF rfl rfl); rfl) | refine wx_ungd rfl rfl ?_ | refine wc_seq ?_ | refine wc_region ?_ | refine wx_nil ?_ | refine wq_next ?_ | refine wx_setn ?_ | refine wl_stAT rfl rfl (by rfl) (by rfl) (by exact .inl (Nat.le_refl _)) rfl ?_)
  (try refine wx_ungd rfl rfl ?_)
  refine wx_vcall (vc_pure' rfl rfl (fun w' hr => same_spec (a := t.body) (b := t.body) (by omega) w' (hb8.vwT hr) (hb4.vwT hr))) rfl ?_
  repeat (first | (apply wx_val; (first | exact v_not rfl | exact v_pickF rfl rfl); rfl) | refine wx_ungd rfl rfl ?_ | refine wx_nil ?_ | refine wq_next ?_)
  refine wc_not rfl (by simp) ?_
  refine wc_keep [1, 3, 4, 6, 8, 9, 12] rfl ?_
  repeat (first | (apply wx_val; (first | exact v_move rfl | exact v_len rfl rfl); rfl) | refine wc_seq ?_ | refine wc_region ?_ | refine wx_nil ?_ | refine wq_next ?_ | refine wc_block ?_ | refine wc_skip ?_)
  refine wc_loopK (ι := Nat × List UInt8 × Seg) [1, 3, 4, 6, 8, 9, 12, 82] (fun q => [(83, .int .i64 (q.1 : Nat))]) (fun q => [q.2.2]) (fun q => q.1 ≤ t.body.length ∧ q.2.1.length = t.body.length ∧ Buf 5 1 A8 t.body.length c8 (bys q.2.1) q.2.2) (fun q => t.body.length - q.1) ((0, t.body, E8)) rfl ?_ (by repeat (first | exact trivial | refine ⟨rfl, ?_⟩)) ?_
  · exact ⟨Nat.zero_le _, rfl, hb8⟩
  clear hb8
  rintro ⟨i, l8, E8'⟩ ⟨hi, hl8, hb8⟩
  try dsimp only
  refine wc_fcat ?_
  refine wc_cat ?_
  dsimp only at hi hl8 hb8 ⊢
  repeat (first | (apply wx_val; (first | exact v_lt rfl rfl); rfl) | refine wc_seq ?_ | refine wc_region ?_ | refine wx_nil ?_ | refine wq_next ?_)
  refine wc_if rfl (fun hx => ?_) (fun hx => ?_)
  · obtain ⟨gA, hgA⟩ := hb8.ptr (by omega)
    repeat (first | (apply wx_val; (first | exact v_move rfl | exact v_assign rfl | exact v_iaddrE (by assumption) rfl rfl rfl (by omega)); rfl) | refine wc_seq ?_ | refine wc_region ?_ | refine wx_nil ?_ | refine wq_next ?_ | refine wc_block ?_ | refine wc_skip ?_)
    refine wl_bsetT i hgA hb8 rfl rfl (by rw [Int.toNat_natCast]; omega) (by omega) (v := .int .u8 ((255 : Nat) : Int)) rfl rfl (fun E' hb' => ?_)
    rw [bys_setC _ _ _ (by decide)] at hb'
    repeat (first | (apply wx_val; (first | exact v_move rfl | exact v_addi rfl rfl (by omega)); rfl) | refine wc_region ?_ | refine wx_nil ?_ | refine wq_next ?_ | refine wq_block ?_)
    refine wq_roundK ((i + 1, l8.set i (UInt8.ofNat 255), E')) ?_ ?_ (by repeat (first | exact trivial | refine ⟨rfl, ?_⟩)) (by first | exact catEq | exact rfl)
    · exact ⟨by dsimp only; omega, by dsimp only; rw [List.length_set]; exact hl8, hb'⟩
    · dsimp only; omega
  repeat (first | (apply wx_val; (first | exact v_move rfl | exact v_len rfl rfl); rfl) | refine wc_seq ?_ | refine wc_region ?_ | refine wx_nil ?_ | refine wq_next ?_ | refine wc_block ?_ | refine wc_exit ?_ | refine wq_then_exit ?_ | refine wq_block_exit rfl ?_)
  refine wc_loopK (ι := Nat × List UInt8 × Seg) [1, 3, 4, 6, 9, 12, 91] (fun q => [(92, .int .i64 (q.1 : Nat))]) (fun q => [q.2.2]) (fun q => q.1 ≤ t.body.length ∧ q.2.1.length = t.body.length ∧ Buf 5 1 A4 t.body.length c4 (bys q.2.1) q.2.2) (fun q => t.body.length - q.1) ((0, t.body, E4)) rfl ?_ (by repeat (first | exact trivial | refine ⟨rfl, ?_⟩)) ?_
  · exact ⟨Nat.zero_le _, rfl, hb4⟩
  clear hb4
  rintro ⟨i2, l4, E4'⟩ ⟨hi2, hl4, hb4⟩
  try dsimp only
  refine wc_fcat ?_
  refine wc_cat ?_
  dsimp only at hi2 hl4 hb4 ⊢
  repeat (first | (apply wx_val; (first | exact v_lt rfl rfl); rfl) | refine wc_seq ?_ | refine wc_region ?_ | refine wx_nil ?_ | refine wq_next ?_)
  refine wc_if rfl (fun hx2 => ?_) (fun hx2 => ?_)
  · obtain ⟨gA, hgA⟩ := hb4.ptr (by omega)
    repeat (first | (apply wx_val; (first | exact v_move rfl | exact v_assign rfl | exact v_iaddrE (by assumption) rfl rfl rfl (by omega)); rfl) | refine wc_seq ?_ | refine wc_region ?_ | refine wx_nil ?_ | refine wq_next ?_ | refine wc_block ?_ | refine wc_skip ?_)
    refine wl_bsetT i2 hgA hb4 rfl rfl (by rw [Int.toNat_natCast]; omega) (by omega) (v := .int .u8 ((17 : Nat) : Int)) rfl rfl (fun E' hb' => ?_)
    rw [bys_setC _ _ _ (by decide)] at hb'
    repeat (first | (apply wx_val; (first | exact v_move rfl | exact v_addi rfl rfl (by omega)); rfl) | refine wc_region ?_ | refine wx_nil ?_ | refine wq_next ?_ | refine wq_block ?_)
    refine wq_roundK ((i2 + 1, l4.set i2 (UInt8.ofNat 17), E')) ?_ ?_ (by repeat (first | exact trivial | refine ⟨rfl, ?_⟩)) (by first | exact catEq | exact rfl)
    · exact ⟨by dsimp only; omega, by dsimp only; rw [List.length_set]; exact hl4, hb'⟩
    · dsimp only; omega
  repeat (first | (apply wx_val; (first | exact v_move rfl | exact v_faddr rfl rfl | exact v_ldT rfl rfl rfl (by rfl) | exact v_len rfl rfl); rfl) | refine wc_seq ?_ | refine wc_region ?_ | refine wx_nil ?_ | refine wq_next ?_ | refine wc_block ?_ | refine wc_exit ?_ | refine wq_then_exit ?_ | refine wq_block_exit rfl ?_)
  refine wc_loopK (ι := Nat × List OpW × Seg) [1, 3, 6, 9, 12, 101] (fun q => [(102, .int .i64 (q.1 : Nat))]) (fun q => [q.2.2]) (fun q => q.1 ≤ t.ops.xs.length ∧ q.2.1.length = t.ops.xs.length ∧ Buf 43 4 A9 t.ops.xs.length c9 (q.2.1.flatMap OpW.cells) q.2.2) (fun q => t.ops.xs.length - q.1) ((0, t.ops.xs, E9)) rfl ?_ (by repeat (first | exact trivial | refine ⟨rfl, ?_⟩)) ?_
  · exact ⟨Nat.zero_le _, rfl, hb9⟩
  clear hb9
  rintro ⟨i3, l9, E9'⟩ ⟨hi3, hl9, hb9⟩
  try dsimp only
  refine wc_fcat ?_
  refine wc_cat ?_
  dsimp only at hi3 hl9 hb9 ⊢
  repeat (first | (apply wx_val; (first | exact v_lt rfl rfl); rfl) | refine wc_seq ?_ | refine wc_region ?_ | refine wx_nil ?_ | refine wq_next ?_)
  refine wc_if rfl (fun hx3 => ?_) (fun hx3 => ?_)
  · obtain ⟨gA, hgA⟩ := hb9.ptr (by omega)
    repeat (first | (apply wx_val; (first | exact v_move rfl | exact v_assign rfl | exact v_faddr rfl rfl | exact v_ldT rfl rfl rfl (by rfl)); rfl) | refine wc_seq ?_ | refine wc_region ?_ | refine wx_nil ?_ | refine wq_next ?_ | refine wc_block ?_ | refine wc_skip ?_)
    (try refine wx_ungd rfl rfl ?_)
    apply wx_val
    exact v_build (cs := ((OpW.cells ⟨99, ⟨#[]⟩, false, ⟨#[]⟩⟩)).toArray) rfl (by kernel_rfl)
    rfl
    repeat (first | (apply wx_val; (first | exact v_iaddrE (by assumption) rfl rfl rfl (by omega)); rfl))
    refine wl_setAT i3 (f := OpW.cells) (k := 4) ⟨99, ⟨#[]⟩, false, ⟨#[]⟩⟩ (fun _ => rfl) hgA hb9 rfl rfl (by rw [Int.toNat_natCast]; exact Nat.zero_add _) rfl hl9.symm (by omega) rfl (fun E' hb' => ?_)
    repeat (first | (apply wx_val; (first | exact v_move rfl | exact v_addi rfl rfl (by omega)); rfl) | refine wc_region ?_ | refine wx_nil ?_ | refine wq_next ?_ | refine wq_block ?_)
    refine wq_roundK ((i3 + 1, l9.set i3 ⟨99, ⟨#[]⟩, false, ⟨#[]⟩⟩, E')) ?_ ?_ (by repeat (first | exact trivial | refine ⟨rfl, ?_⟩)) (by first | exact catEq | exact rfl)
    · exact ⟨by dsimp only; omega, by dsimp only; rw [List.length_set]; exact hl9, hb'⟩
    · dsimp only; omega
  repeat (first | (apply wx_val; (first | exact v_faddr rfl rfl | exact v_ldT rfl rfl rfl (by rfl)); rfl) | refine wc_seq ?_ | refine wc_region ?_ | refine wq_next ?_ | refine wc_exit ?_ | refine wq_then_exit ?_ | refine wq_block_exit rfl ?_)
  (try refine wx_ungd rfl rfl ?_)
  apply wx_val
  exact v_build (cs := ((OpW.cells ⟨98, ⟨#[]⟩, false, ⟨#[]⟩⟩)).toArray) rfl (by kernel_rfl)
  rfl
  refine wl_lit rfl rfl rfl rfl rfl (by decide) rfl (fun g114 => ?_)
  refine wl_app1T rfl hb9 rfl rfl rfl rfl (by omega) rfl (fun Ac cc Ec hbc => ?_)
  repeat (first | (apply wx_val; (first | exact v_move rfl | exact v_assign rfl | exact v_ldAT rfl (by rfl)); rfl) | refine wc_seq ?_ | refine wc_region ?_ | refine wx_nil ?_ | refine wq_next ?_)
  refine wl_callT (M1 := []) (fun w' hr ho => Body_spec w' (Vw.keep hv hr) he') rfl rfl rfl ?_
  rintro ⟨Ad, cd, Ed⟩ hbd
  dsimp only at hbd ⊢
  repeat (first | refine wx_cat ?_)
  (try refine wx_ungd rfl rfl ?_)
  refine wx_vcall (vc_pure' rfl rfl (fun w' hr => same_spec (a := t.body) (b := t.body) (by omega) w' (hb6.vwT hr) (hbd.vwT hr))) rfl ?_
  repeat (first | (apply wx_val; (first | exact v_move rfl); rfl))
  refine wx_gset true rfl rfl (by simp) ?_
  repeat (first | (apply wx_val; (first | exact v_ldAT rfl (by rfl)); rfl) | refine wx_ungd rfl rfl ?_)
  (try refine wx_ungd rfl rfl ?_)
  refine wx_vcall (vc_pure' rfl rfl (fun w' hr => Same_spec (t := t.p) ht w' (hbb.vwT hr) (Vw.keep hv hr))) rfl ?_
  repeat (first | (apply wx_val; (first | exact v_move rfl | exact v_ldAT rfl (by rfl) | exact v_pickT rfl rfl); rfl) | refine wx_ungd rfl rfl ?_)
  (try refine wx_ungd rfl rfl ?_)
  refine wx_vcall (vc_pure' rfl rfl (fun w' hr => Same_spec (t := t.p) ht w' (hb3.vwT hr) (Vw.keep hv hr))) rfl ?_
  repeat (first | (apply wx_val; (first | exact v_move rfl | exact v_assign rfl | exact v_faddr rfl rfl | exact v_ldT rfl rfl rfl (by rfl) | exact v_len rfl rfl | exact v_eq rfl rfl | exact v_addi rfl rfl (by omega) | exact v_pickT rfl rfl); rfl) | refine wx_ungd rfl rfl ?_ | refine wx_nil ?_ | refine wq_next ?_ | refine wc_ret ?_)
  exact wq_clear (wq_ret1 () rfl (bool_val (by simp)) trivial rfl)
end Go.Proofs.Ytknnkgoehkohaaa
