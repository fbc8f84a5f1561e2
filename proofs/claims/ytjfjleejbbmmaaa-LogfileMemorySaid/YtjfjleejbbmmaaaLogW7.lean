/- Readings of a whole log. -/
import Derived.Test.YtjfjleejbbmmaaaLogW5
import Derived.Test.YtjfjleejbbmmaaaLogW6
import Derived.Test.YtjfjleejbbmmaaaLogF
set_option linter.unusedVariables false
set_option linter.unusedSimpArgs false
namespace Go.Proofs.Ytjfjleejbbmmaaa
open Go
set_option maxRecDepth 20000
set_option maxHeartbeats 2000000
attribute [local irreducible] WX WC WQ Val VCall
/-- what a reading of all bytes tells -/
def allD (d : List UInt8) : List TxnP × Nat × Int := (⟨d, true, 0, 0, false, 0⟩ : Dsc).all 4097 []
abbrev DecO (d : List UInt8) (q : LstO) : Prop := ListO (allD d).1 q
abbrev LDecR (d : List UInt8) (w : World) : Ending → World → Prop :=
  Ret (β := LstO) w (ids []) (fun q => .tuple #[.slice q.1 (allD d).1.length q.2.1, .int .i64 ((allD d).2.1 : Nat), .int .i64 (allD d).2.2]) (fun q => [q.2.2.1, q.2.2.2.1]) (fun q => DecO d q)
/-- a scanner under way over bytes of which none are to come -/
structure Runs (d : List UInt8) (S : Scn) (got : List TxnP) : Prop where
  place : S.at_ + S.rest.length = d.length
  count : S.count ≤ 4096
  num : got.length = S.count
  all : S.all (4097 - S.count) got = allD d
def Under1 (d : List UInt8) (D : Dsc) (got : List TxnP) : Prop := Under d (allD d) D got []
theorem keeps_place {S : Scn} {D : Dsc} (h : Keeps S D) (hf : D.fault = 0) : S.at_ + S.rest.length = D.data.length := by
  obtain ⟨b1, b2, b3, b4⟩ := h.rest (by rw [h.fault]; exact hf)
  rw [h.place, b2, List.length_drop]; omega
theorem LogDec_spec {A : Option Addr} {c : Nat} {d : List UInt8} (hd : d.length ≤ 140737488355328) (w : World) (hv : Vw [] w A (bys d)) :
    Calls Try.prog 14 #[.slice A d.length c] w (LDecR d w) := by
  refine go [.slice A d.length c] [] Try.func14 Try.ntmps14 rfl rfl (own_nil w) ?_
  unfold LDecR
  repeat (first | (apply wx_val; (first | exact v_assign rfl); rfl) | refine wc_seq ?_ | refine wc_region ?_ | refine wx_nil ?_ | refine wq_next ?_)
  refine wl_callT (M1 := []) (fun w' hr ho => scNew_spec w') rfl rfl rfl ?_
  rintro g -
  refine wx_cat ?_
  repeat (first | (apply wx_val; (first | exact v_move rfl | exact v_assign rfl); rfl) | refine wc_seq ?_ | refine wc_region ?_ | refine wx_nil ?_ | refine wq_next ?_)
  refine wx_seg ?_
  refine wl_callT (fun w' hr ho => scFeed_spec (A := none) (c := 0) (S := Scn.new) (E := []) (l := d) (Buf.nil _ _).r (by show 0 + d.length ≤ _; omega) w' (hv.held hr (fun i hi => by rw [ids_append]; exact List.mem_append.2 (.inl hi))) ho) rfl rfl rfl ?_
  rintro ⟨A1, c1, E1⟩ hb1
  have eS : Scn.new.feed d = ⟨d, 0, 0, 0, false, 0⟩ := rfl
  rw [eS] at hb1 ⊢
  dsimp only at hb1 ⊢
  repeat (first | (apply wx_val; (first | exact v_move rfl); rfl) | refine wc_seq ?_ | refine wc_region ?_ | refine wx_nil ?_ | refine wq_next ?_ | refine wx_cat ?_)
  refine wl_callT (fun w' hr ho => scEnd_spec (A := A1) (c := c1) (S := ⟨d, 0, 0, 0, false, 0⟩) w' ho) rfl rfl rfl ?_
  rintro - -
  repeat (first | (apply wx_val; (first | exact v_assign rfl); rfl) | refine wc_seq ?_ | refine wc_region ?_ | refine wx_nil ?_ | refine wq_next ?_ | refine wc_block ?_ | refine wc_cat ?_)
  refine wc_seg ?_
  refine wc_seg ?_
  refine wc_loopK (ι := (Scn × Dsc × List TxnP) × ((Option Addr × Nat) × Seg) × LstO) [5] (fun q => [(6, .slice q.2.2.1 q.1.2.2.length q.2.2.2.1)]) (fun q => [scB g q.2.1.1.1 q.2.1.1.2 q.1.1, q.2.1.2, q.2.2.2.2.1, q.2.2.2.2.2.1]) (fun q => RestO q.1.1 q.2.1.2 q.2.1.1 ∧ Keeps q.1.1 q.1.2.1 ∧ Under d (allD d) q.1.2.1 q.1.2.2 [] ∧ q.1.2.1.ended = true ∧ ListO q.1.2.2 q.2.2) (fun q => 4097 - q.1.2.1.count) (((⟨d, 0, 0, 0, true, 0⟩, ⟨d, true, 0, 0, false, 0⟩, []), ((A1, c1), E1), (none, 0, [], [], []))) rfl ?_ (by repeat (first | exact trivial | refine ⟨rfl, ?_⟩)) ?_
  · exact ⟨hb1, ⟨rfl, rfl, rfl, rfl, ⟨fun h => absurd h (show ¬ 0 = 2 by decide), fun h => absurd h (show ¬ false = true by decide)⟩, Nat.zero_le _, fun _ => ⟨Nat.zero_le _, rfl, Nat.zero_le _, ⟨fun _ => rfl, fun _ => rfl⟩⟩⟩, under_whole d, rfl, ListO.nil⟩
  clear hb1
  rintro ⟨⟨S, D, got⟩, ⟨⟨A2, c2⟩, E2⟩, A3, c3, E3, S3, W3⟩ ⟨hb, hk, hu, hen, hq⟩
  try dsimp only
  refine wc_fcat ?_
  refine wc_cat ?_
  dsimp only at hb hk hu hen hq ⊢
  have hpl := keeps_place hk hu.fault
  have hdd := hu.data
  rw [List.append_nil] at hdd
  rw [hdd] at hpl
  have hcn := hu.count
  have hkc := hk.count
  obtain ⟨n1, n2⟩ := next_rel hk
  repeat (first | (apply wx_val; (first | exact v_move rfl); rfl) | refine wc_seq ?_ | refine wc_region ?_ | refine wc_block ?_)
  refine wl_callT (fun w' hr ho => scNext_spec (A := A2) (c := c2) (S := S) (E := E2) hb (by omega) (by omega) (by omega) w' ho) rfl rfl rfl ?_
  rintro ⟨⟨A4, c4⟩, ⟨A5, c5, E5⟩⟩ ⟨hb4, hb5⟩
  dsimp only at hb4 hb5 ⊢
  rw [n1] at hb5 ⊢
  repeat (first | (apply wx_val; (first | exact v_move rfl | exact v_extract rfl rfl); rfl) | refine wx_cat ?_)
  refine wl_alloc rfl rfl (fun g7 => ?_)
  repeat (first | (apply wx_val; (first | exact v_move rfl | exact v_assign rfl | exact v_ne rfl rfl); rfl) | refine wc_seq ?_ | refine wc_region ?_ | refine wx_nil ?_ | refine wq_next ?_ | refine wc_setn ?_ | refine wl_stAT rfl rfl (by rfl) (by rfl) (by exact .inl (Nat.le_refl _)) rfl ?_)
  refine wc_if rfl (fun he => ?_) (fun he => ?_)
  · obtain ⟨k1, k2, k3, k4⟩ := hu.bad he
    rw [k1]
    dsimp only
    repeat (first | (apply wx_val; (first | exact v_move rfl); rfl) | refine wc_seq ?_ | refine wc_region ?_)
    refine wl_callT (fun w' hr ho => scOffset_spec (A := A4) (c := c4) (S := S.next.2) w' ho) rfl rfl rfl ?_
    rintro - -
    rw [n2.place]
    repeat (first | (apply wx_val; (first | exact v_move rfl | exact v_assign rfl); rfl) | refine wx_nil ?_ | refine wq_next ?_ | refine wc_ret ?_ | refine wq_then_ret ?_ | refine wq_block_ret ?_ | refine wq_cat ?_)
    refine wq_seg ?_
    refine wq_seg ?_
    exact wq_ret3T (none, 0, [], [], []) rfl rfl rfl rfl rfl (by show ListO _ _; rw [k1]; exact ListO.nil) rfl
  have he' : D.next.1.2.2 = 0 := Decidable.not_not.1 he
  repeat (first | (apply wx_val; (first | exact v_move rfl | exact v_not rfl); rfl) | refine wc_seq ?_ | refine wc_region ?_ | refine wx_nil ?_ | refine wq_next ?_ | refine wc_skip ?_)
  refine wc_bool rfl (fun hn => ?_) (fun hn => ?_)
  · obtain ⟨k1, k2⟩ := hu.fin hen (by simpa using hn) he'
    rw [k1]
    dsimp only
    repeat (first | (apply wx_val; (first | exact v_move rfl | exact v_assign rfl); rfl) | refine wc_seq ?_ | refine wc_region ?_ | refine wx_nil ?_ | refine wq_next ?_ | refine wc_ret ?_ | refine wq_then_ret ?_ | refine wq_block_ret ?_)
    exact wq_ret3T (A3, c3, E3, S3, W3) rfl rfl rfl rfl rfl (by show ListO _ _; rw [k1]; exact hq) rfl
  · obtain ⟨k1, k2, k3, k4, k5⟩ := hu.ok (by simpa using hn)
    have hgl := hu.num
    have hqb := hq.buf
    dsimp only at hqb
    repeat (first | (apply wx_val; (first | exact v_move rfl | exact v_ldAT rfl (by rfl)); rfl) | refine wc_region ?_ | refine wq_next ?_ | refine wc_skip ?_)
    refine wl_lit rfl rfl rfl rfl rfl (by decide) rfl (fun g9 => ?_)
    refine wl_app1T (news := D.next.1.1.cells A5 c5) rfl hqb rfl rfl rfl rfl (by omega) rfl (fun A6 c6 E6 hb6 => ?_)
    rw [show got.length + 1 = (got ++ [D.next.1.1]).length by simp]
    repeat (first | (apply wx_val; (first | exact v_assign rfl); rfl) | refine wx_nil ?_ | refine wq_block ?_)
    refine wq_join S3 E5 ?_
    refine wq_roundK (((S.next.2, D.next.2, got ++ [D.next.1.1]), ((A4, c4), E2), (A6, c6, E6, S3 ++ E5, W3 ++ [D.next.1.1.w A5 c5]))) ?_ ?_ (by repeat (first | exact trivial | refine ⟨rfl, ?_⟩)) (by first | exact catEq | exact rfl)
    · exact ⟨hb4, n2, k2, k4.trans hen, hq.snoc D.next.1.1 hb5 hb6⟩
    · dsimp only; omega
theorem dec_place (d : List UInt8) : (allD d).2.1 ≤ d.length := all_place 4097 [] rfl (Nat.zero_le _) (Nat.zero_le _)
theorem refDec_spec {A : Option Addr} {c : Nat} {d : List UInt8} (hd : d.length ≤ 140737488355328) (hdc : d.length ≤ c) (hcm : c ≤ maxLen) (w : World) (hv : Vw [] w A (bys d)) :
    Calls Try.prog 15 #[.slice A d.length c] w (LDecR d w) := by
  refine go [.slice A d.length c] [] Try.func15 Try.ntmps15 rfl rfl (own_nil w) ?_
  unfold LDecR
  repeat (first | (apply wx_val; (first | exact v_move rfl | exact v_assign rfl); rfl) | refine wc_seq ?_ | refine wc_region ?_ | refine wx_nil ?_ | refine wq_next ?_)
  (try refine wx_ungd rfl rfl ?_)
  apply wx_val
  exact v_build (cs := ((dcC ⟨d, true, 0, 0, false, 0⟩ A c)).toArray) rfl (by kernel_rfl)
  rfl
  refine wl_boxA (l := dcC ⟨d, true, 0, 0, false, 0⟩ A c) rfl rfl (fun g => ?_)
  repeat (first | (apply wx_val; (first | exact v_assign rfl); rfl) | refine wc_seq ?_ | refine wc_region ?_ | refine wx_nil ?_ | refine wq_next ?_ | refine wc_block ?_)
  refine wc_seg ?_
  refine wc_seg ?_
  refine wc_loopK (ι := Nat × (Dsc × List TxnP) × LstO) [0, 5] (fun q => [(6, .slice q.2.2.1 q.2.1.2.length q.2.2.2.1), (7, .int .i64 (q.1 : Nat))]) (fun q => [dcB g A c q.2.1.1, q.2.2.2.2.1, q.2.2.2.2.2.1]) (fun q => Under d (allD d) q.2.1.1 q.2.1.2 [] ∧ q.2.1.1.ended = true ∧ ListO q.2.1.2 q.2.2 ∧ q.1 = q.2.1.1.count) (fun q => 4097 - q.1) ((0, (⟨d, true, 0, 0, false, 0⟩, []), (none, 0, [], [], []))) rfl ?_ (by repeat (first | exact trivial | refine ⟨rfl, ?_⟩)) ?_
  · exact ⟨under_whole d, rfl, ListO.nil, rfl⟩
  rintro ⟨i, ⟨D, got⟩, A3, c3, E3, S3, W3⟩ ⟨hu, hen, hq, hi⟩
  try dsimp only
  refine wc_fcat ?_
  refine wc_cat ?_
  dsimp only at hu hen hq hi ⊢
  subst hi
  have hdd := hu.data
  rw [List.append_nil] at hdd
  have hcn := hu.count
  have hdl : D.data.length = d.length := by rw [hdd]
  repeat (first | (apply wx_val; (first | exact v_move rfl | exact v_le rfl rfl); rfl) | refine wc_seq ?_ | refine wc_region ?_ | refine wx_nil ?_ | refine wq_next ?_)
  refine wc_yes rfl (decide_eq_true (by omega)) ?_
  repeat (first | (apply wx_val; (first | exact v_move rfl); rfl) | refine wc_seq ?_ | refine wc_region ?_ | refine wq_next ?_ | refine wc_block ?_ | refine wc_skip ?_)
  refine wl_callT (fun w' hr ho => dcNext_spec (A := A) (c := c) (D := D) (by omega) (by omega) hcm (fun _ => hu.le) hcn (fun _ => hu.foot) w' (by rw [hdd]; exact (hv.held hr (fun i hi => by rw [ids_append]; exact List.mem_append.2 (.inl hi)))) ho) rfl rfl rfl ?_
  rintro ⟨A5, c5, E5⟩ hb5
  dsimp only at hb5 ⊢
  repeat (first | (apply wx_val; (first | exact v_move rfl | exact v_extract rfl rfl); rfl) | refine wx_cat ?_)
  refine wl_alloc rfl rfl (fun g7 => ?_)
  repeat (first | (apply wx_val; (first | exact v_move rfl | exact v_assign rfl | exact v_ne rfl rfl); rfl) | refine wc_seq ?_ | refine wc_region ?_ | refine wx_nil ?_ | refine wq_next ?_ | refine wc_setn ?_ | refine wl_stAT rfl rfl (by rfl) (by rfl) (by exact .inl (Nat.le_refl _)) rfl ?_)
  refine wc_if rfl (fun he => ?_) (fun he => ?_)
  · obtain ⟨k1, k2, k3, k4⟩ := hu.bad he
    rw [k1]
    dsimp only
    repeat (first | (apply wx_val; (first | exact v_move rfl | exact v_assign rfl | exact v_nil rfl | exact v_faddr rfl rfl | exact v_ldT rfl rfl rfl (by rfl)); rfl) | refine wc_seq ?_ | refine wx_nil ?_ | refine wq_next ?_ | refine wc_ret ?_ | refine wq_then_ret ?_ | refine wq_block_ret ?_ | refine wc_reads rfl (by decide +kernel) ?_)
    refine wq_seg ?_
    refine wq_seg ?_
    exact wq_ret3T (none, 0, [], [], []) rfl rfl rfl rfl rfl (by show ListO _ _; rw [k1]; exact ListO.nil) rfl
  have he' : D.next.1.2.2 = 0 := Decidable.not_not.1 he
  repeat (first | (apply wx_val; (first | exact v_move rfl | exact v_not rfl); rfl) | refine wc_seq ?_ | refine wc_region ?_ | refine wx_nil ?_ | refine wq_next ?_ | refine wc_skip ?_)
  refine wc_bool rfl (fun hn => ?_) (fun hn => ?_)
  · obtain ⟨k1, k2⟩ := hu.fin hen (by simpa using hn) he'
    rw [k1]
    dsimp only
    repeat (first | (apply wx_val; (first | exact v_move rfl | exact v_assign rfl); rfl) | refine wc_seq ?_ | refine wc_region ?_ | refine wx_nil ?_ | refine wq_next ?_ | refine wc_ret ?_ | refine wq_then_ret ?_ | refine wq_block_ret ?_)
    exact wq_ret3T (A3, c3, E3, S3, W3) rfl rfl rfl rfl rfl (by show ListO _ _; rw [k1]; exact hq) rfl
  · obtain ⟨k1, k2, k3, k4, k5⟩ := hu.ok (by simpa using hn)
    have hgl := hu.num
    have hqb := hq.buf
    dsimp only at hqb
    repeat (first | (apply wx_val; (first | exact v_move rfl | exact v_ldAT rfl (by rfl)); rfl) | refine wc_region ?_ | refine wq_next ?_ | refine wc_skip ?_)
    refine wl_lit rfl rfl rfl rfl rfl (by decide) rfl (fun g9 => ?_)
    refine wl_app1T (news := D.next.1.1.cells A5 c5) rfl hqb rfl rfl rfl rfl (by omega) rfl (fun A6 c6 E6 hb6 => ?_)
    rw [show got.length + 1 = (got ++ [D.next.1.1]).length by simp]
    repeat (first | (apply wx_val; (first | exact v_move rfl | exact v_assign rfl | exact v_addi rfl rfl (by omega)); rfl) | refine wc_region ?_ | refine wx_nil ?_ | refine wq_next ?_ | refine wq_block ?_)
    refine wq_join S3 E5 ?_
    have hd2 : D.next.2.data.length = D.data.length := by rw [k5]
    refine wq_roundK ((D.count + 1, (D.next.2, got ++ [D.next.1.1]), (A6, c6, E6, S3 ++ E5, W3 ++ [D.next.1.1.w A5 c5]))) ?_ ?_ (by repeat (first | exact trivial | refine ⟨rfl, ?_⟩)) (by first | exact catEq | exact rfl)
    · exact ⟨k2, k4.trans hen, hq.snoc D.next.1.1 hb5 hb6, k3.symm⟩
    · dsimp only; omega
end Go.Proofs.Ytjfjleejbbmmaaa
