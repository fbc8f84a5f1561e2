/- What is handed in and out of a device is memory of its own. -/
import Derived.Test.YtfdkdcopjajklaaDev6
import Derived.Test.YtfdkdcopjajklaaKitX
import Derived.Test.YtfdkdcopjajklaaDevR
set_option linter.unusedVariables false
set_option linter.unusedSimpArgs false
namespace Go.Proofs.Ytfdkdcopjajklaa
open Go
set_option maxRecDepth 20000
set_option maxHeartbeats 4000000
attribute [local irreducible] WX WC WQ Val VCall
theorem bys_set' (l : List UInt8) (i : Nat) (x : UInt8) : (bys l).set i (.int .u8 x.toNat) = bys (l.set i x) := by simp [bys, List.map_set]
theorem same_yes {A B : Option Addr} {ca cb : Nat} {d : List UInt8} (ha : d.length ≤ 9223372036854775807) (w : World) (hva : Vw [] w A (bys d)) (hvb : Vw [] w B (bys d)) :
    Calls Try.prog 17 #[.slice A d.length ca, .slice B d.length cb] w (Ret (β := Unit) w (ids []) (fun _ => .bool true) (fun _ => []) (fun _ => True)) := by
  have h := same_spec (A := A) (B := B) (ca := ca) (cb := cb) ha w hva hvb
  rwa [show decide (d = d) = true from by simp] at h
theorem vw_head {X : List Nat} {w : World} {A : Option Addr} {d : List UInt8} {k c : Nat} (hv : Vw X w A (bys d)) (hk : k ≤ d.length) (hc : k ≤ c) : Vw X w (cutA A 0 k c 1) (bys (d.take k)) := by
  have := vw_bytes (l := 0) (h := k) (c := c) hv (Nat.zero_le _) hk hc
  simpa using this
theorem xor_val (x : UInt8) : ∃ y : UInt8, xorI .u8 (x.toNat : Int) 255 = (y.toNat : Int) := by
  refine ⟨UInt8.ofNat (xorI .u8 (x.toNat : Int) 255).toNat, ?_⟩
  revert x
  have : ∀ n : Fin 256, xorI .u8 ((n.val : Nat) : Int) 255 = ((UInt8.ofNat (xorI .u8 ((n.val : Nat) : Int) 255).toNat).toNat : Int) := by decide
  intro x
  exact this ⟨x.toNat, x.toNat_lt⟩
/-- a device of two blocks whose one fault does not come to strike -/
structure MeOk (d b16 : List UInt8) (n : Nat) (S : DevS) : Prop where
  fl : S.fl = [⟨1, 0, 9, 0⟩]
  down : S.down = false
  blk : S.blk = 16
  sc : S.sc = 2
  inp : S.inp = d
  scr : S.scr = b16 ++ b16
  seen : S.seen.length ≤ n
  ops : S.ops ≤ n + 1
theorem me_readI {d b16 : List UInt8} {n : Nat} {S : DevS} (h : MeOk d b16 n S) (hn : n < 8) (h1 : 1 ≤ d.length) (h2 : d.length ≤ 16) : ∃ S', S.readI 0 = (d, 0, S') ∧ MeOk d b16 (n + 1) S' := by
  obtain ⟨e1, e2, e3, e4, e5, e6, e7, e8⟩ := h
  have hnb : S.nb = 1 := by
    unfold DevS.nb
    rw [e3, e5]
    omega
  have hse := seenN_le S.seen (1, 0)
  have hh : ({ S with ni := S.ni + 1, ops := S.ops + 1 } : DevS).rdHit 1 0 = none := by
    show hitL S.fl 1 0 ((seenN S.seen (1, 0) + 1 : Nat) : Int) = none
    rw [e1]
    unfold hitL
    rw [List.find?_cons_of_neg]
    · rfl
    · simp only [decide_eq_true_eq]
      unfold FaultW.Hits
      dsimp only
      omega
  unfold DevS.readI
  rw [if_neg (by simp [e2]), if_neg (by rw [hnb]; omega)]
  dsimp only
  rw [hh, if_neg (by simp)]
  refine ⟨({ S with ni := S.ni + 1, ops := S.ops + 1 } : DevS).rd 1 0, Prod.ext ?_ rfl, ⟨e1, e2, e3, e4, e5, e6, ?_, ?_⟩⟩
  · show (S.inp.drop ((0 : Int).toNat * S.blk)).take S.blk = d
    rw [e5, e3, show (0 : Int).toNat * 16 = 0 from rfl, List.drop_zero, List.take_of_length_le h2]
  · simp only [DevS.rd, List.length_append, List.length_cons, List.length_nil]; omega
  · simp only [DevS.rd]; omega
theorem me_readSc {d b16 : List UInt8} {n : Nat} {S : DevS} (h : MeOk d b16 n S) (hb : b16.length = 16) {k : Int} (hk : k = 0 ∨ k = 1) : ∃ S', S.readSc k = (b16, 0, S') ∧ MeOk d b16 (n + 1) S' := by
  obtain ⟨e1, e2, e3, e4, e5, e6, e7, e8⟩ := h
  have hh : ({ S with nr := S.nr + 1, ops := S.ops + 1 } : DevS).rdHit 2 k = none := by
    show hitL S.fl 2 k _ = none
    rw [e1]
    unfold hitL
    rw [List.find?_cons_of_neg]
    · rfl
    · simp only [decide_eq_true_eq]
      unfold FaultW.Hits
      dsimp only
      omega
  unfold DevS.readSc
  rw [if_neg (by simp [e2]), if_neg (by rw [e4]; omega)]
  dsimp only
  rw [hh, if_neg (by simp)]
  refine ⟨({ S with nr := S.nr + 1, ops := S.ops + 1 } : DevS).rd 2 k, Prod.ext ?_ rfl, ⟨e1, e2, e3, e4, e5, e6, ?_, ?_⟩⟩
  · show (S.scr.drop (k.toNat * S.blk)).take S.blk = b16
    rw [e6, e3]
    rcases hk with rfl | rfl
    · rw [show (0 : Int).toNat * 16 = 0 from rfl, List.drop_zero, List.take_left' hb]
    · rw [show (1 : Int).toNat * 16 = 16 from rfl, List.drop_left' hb, List.take_of_length_le (by omega)]
  · simp only [DevS.rd, List.length_append, List.length_cons, List.length_nil]; omega
  · simp only [DevS.rd]; omega
theorem cut_bys (l r : List UInt8) (n : Nat) (h : l.length = n) : (bys (l ++ r)).take (n * 1) = bys l := by
  rw [Nat.mul_one, bys_append]; exact List.take_left' (by simpa using h)
theorem rep_get {n i : Nat} (v : UInt8) (h : i < n) : (List.replicate n v).getD i 0 = v := by simp [List.getD, List.getElem?_replicate, h]
def Grown (A : Option Addr) (c n : Nat) (v : UInt8) (q : Nat × Option Addr × Nat × Seg × Seg) : Prop :=
  q.1 ≤ 40 ∧ ∃ x : List UInt8, x.length = q.1 ∧ ((q.2.2.2.2 = [] ∧ A = q.2.1 ∧ c = q.2.2.1 ∧ Buf 5 1 A (n + q.1) c (bys (List.replicate n v ++ x)) q.2.2.2.1) ∨
    (Buf 5 1 A n c (bys (List.replicate n v)) q.2.2.2.1 ∧ Buf 5 1 q.2.1 (n + q.1) q.2.2.1 (bys (List.replicate n v ++ x)) q.2.2.2.2))
theorem Mem_law {A B : Option Addr} {cA cB : Nat} {d b : List UInt8} (hd : d.length ≤ 1048576) (hb : b.length ≤ 1048576) (hcA : d.length ≤ cA) (hcB : b.length ≤ cB) (w : World) (hv : Vw [] w A (bys d)) (hw : Vw [] w B (bys b)) :
    Calls Try.prog 6 #[.slice A d.length cA, .slice B b.length cB] w (Holds w) := by
  refine go [.slice A d.length cA, .slice B b.length cB] [] Try.func6 Try.ntmps6 rfl rfl (own_nil w) ?_
  repeat (first | (apply wx_val; (first | exact v_move rfl | exact v_assign rfl | exact v_len rfl rfl | exact v_lt rfl rfl | exact v_not rfl); rfl) | refine wc_seq ?_ | refine wc_region ?_ | refine wx_nil ?_ | refine wq_next ?_ | refine wc_skip ?_ | refine wc_condF rfl ?_ | (apply wx_vcall; exact vc_pure rfl rfl (fun w' => anchor_spec w'); rfl))
  refine wx_gif rfl rfl (fun h1 => ?_) (fun h1 => ?_)
  · repeat (first | (apply wx_val; (first | exact v_move rfl | exact v_assign rfl | exact v_pickT rfl rfl); rfl) | refine wx_no rfl rfl rfl ?_ | refine wc_seq ?_ | refine wc_region ?_ | refine wx_nil ?_ | refine wq_next ?_ | refine wc_ret ?_ | refine wq_then_ret ?_ | refine wc_condT rfl ?_)
    exact wq_clear (wq_ret1 () rfl rfl trivial rfl)
  repeat (first | (apply wx_val; (first | exact v_move rfl | exact v_len rfl rfl | exact v_gt rfl rfl | exact v_pickF rfl rfl); rfl) | refine wx_ungd rfl rfl ?_)
  refine wx_gif rfl rfl (fun h2 => ?_) (fun h2 => ?_)
  · repeat (first | (apply wx_val; (first | exact v_assign rfl | exact v_pickT rfl rfl); rfl) | refine wx_no rfl rfl rfl ?_ | refine wc_seq ?_ | refine wc_region ?_ | refine wx_nil ?_ | refine wq_next ?_ | refine wc_ret ?_ | refine wq_then_ret ?_ | refine wc_condT rfl ?_)
    exact wq_clear (wq_ret1 () rfl rfl trivial rfl)
  repeat (first | (apply wx_val; (first | exact v_move rfl | exact v_len rfl rfl | exact v_lt rfl rfl | exact v_pickF rfl rfl); rfl) | refine wx_ungd rfl rfl ?_ | refine wx_nil ?_ | refine wq_next ?_)
  refine wc_if rfl (fun h3 => ?_) (fun h3 => ?_)
  · repeat (first | (apply wx_val; (first | exact v_assign rfl); rfl) | refine wc_seq ?_ | refine wc_region ?_ | refine wx_nil ?_ | refine wq_next ?_ | refine wc_ret ?_ | refine wq_then_ret ?_)
    exact wq_clear (wq_ret1 () rfl rfl trivial rfl)
  have hB16 : (b.take 16).length = 16 := by rw [List.length_take]; omega
  obtain ⟨b16, hb16⟩ : ∃ x, x = b.take 16 := ⟨_, rfl⟩
  rw [← hb16] at hB16
  have hw16 : ∀ {w' : World}, Vw [] w' B (bys b) → Vw [] w' (cutA B 0 16 cB 1) (bys b16) := fun hw' => by rw [hb16]; exact vw_head hw' (by omega) (by omega)
  refine wc_keep [0, 1] rfl ?_
  repeat (first | refine wc_seq ?_ | refine wq_next ?_ | refine wc_skip ?_)
  refine wc_meetK (ι := (Option Addr × Nat × Seg) × Option Addr × Nat × Seg) [0, 1] (fun q => [(5, .slice q.1.1 d.length q.1.2.1), (6, .slice q.2.1 b16.length q.2.2.1)]) (fun q => [q.1.2.2, q.2.2.2]) (M1 := []) (fun q => BufB d q.1 ∧ BufB b16 q.2) rfl ?_ ?_
  ·
    refine wc_cat ?_
    refine wc_heldX [] [] rfl (by (repeat (first | exact panicNot_D3 rfl | with_reducible exact panicNot_of panicOk_body | with_reducible apply panicNot_block | with_reducible apply panicNot_then))) (fun hQd => ?_)
    (apply wh_takeX 1; (first | exact fun _ h => h | exact fun _ h => res_takes h); exact hQd; rfl; rfl; exact v_move rfl; decide +kernel; decide +kernel; decide +kernel; rfl)
    (apply wh_takeX 4; (first | exact fun _ h => h | exact fun _ h => res_takes h); exact hQd; rfl; rfl; exact v_move rfl; decide +kernel; decide +kernel; decide +kernel; rfl)
    (apply wh_takeX 5; (first | exact fun _ h => h); exact hQd; rfl; rfl; (exact v_sliceN (n := b.length) (c := cB) (l := 0) (h := 16) (m := b16.length) rfl rfl rfl rfl (by omega) (by omega) (by omega)); decide +kernel; decide +kernel; decide +kernel; rfl)
    refine wh_eff2 0 3 rfl rfl (by decide +kernel) ?_ ?_
    · refine wl_lit0 rfl rfl (fun g0 E0 hb0 => ?_)
      (try refine wx_nil ?_)
      refine wq_held (by (first | exact fun _ h => h | exact fun _ h => res_takes h)) ?_
      refine wh_eff2 2 3 rfl rfl (by decide +kernel) ?_ ?_
      · refine wl_appT rfl hb0 rfl rfl (fun w' hr => src_slice rfl (hv.keep hr).rd (by simp) (by decide) (one_bys _)) (by omega) rfl (fun A5 c5 E5 hb5 => ?_)
        simp only [Nat.zero_add, List.nil_append] at hb5 ⊢
        (try refine wx_nil ?_)
        refine wq_held (by (first | exact fun _ h => h | exact fun _ h => res_takes h)) ?_
        refine wh_eff 3 rfl (by decide +kernel) ?_
        refine wl_lit0 rfl rfl (fun g3 E3 hb3 => ?_)
        (try refine wx_nil ?_)
        refine wq_held (by (first | exact fun _ h => h | exact fun _ h => res_takes h)) ?_
        refine wh_eff 6 rfl (by decide +kernel) ?_
        refine wl_appT rfl hb3 rfl rfl (fun w' hr => src_slice rfl (hw16 (hw.keep hr)).rd (by simp) (by decide) (one_bys _)) (by omega) rfl (fun A6 c6 E6 hb6 => ?_)
        simp only [Nat.zero_add, List.nil_append] at hb6 ⊢
        (try refine wx_nil ?_)
        refine wq_held (by (first | exact fun _ h => h | exact fun _ h => res_takes h)) ?_
        (apply wh_takeX 7; (first | exact fun _ h => h | exact fun _ h => res_takes h); exact hQd; rfl; rfl; exact v_assign rfl; decide +kernel; decide +kernel; decide +kernel; rfl)
        (apply wh_takeX 8; (first | exact fun _ h => h | exact fun _ h => res_takes h); exact hQd; rfl; rfl; exact v_assign rfl; decide +kernel; decide +kernel; decide +kernel; rfl)
        refine wh_done (by decide +kernel) ?_
        refine wq_cutK (((A5, c5, E5), A6, c6, E6)) ?_ (by repeat (first | exact trivial | refine ⟨rfl, ?_⟩)) (by first | exact catEq | exact rfl)
        exact ⟨hb5, hb6⟩
      · refine wl_lit0 rfl rfl (fun g3 E3 hb3 => ?_)
        (try refine wx_nil ?_)
        refine wq_held (by (first | exact fun _ h => h | exact fun _ h => res_takes h)) ?_
        refine wh_eff 2 rfl (by decide +kernel) ?_
        refine wl_appT rfl hb0 rfl rfl (fun w' hr => src_slice rfl (hv.keep hr).rd (by simp) (by decide) (one_bys _)) (by omega) rfl (fun A5 c5 E5 hb5 => ?_)
        simp only [Nat.zero_add, List.nil_append] at hb5 ⊢
        (try refine wx_nil ?_)
        refine wq_held (by (first | exact fun _ h => h | exact fun _ h => res_takes h)) ?_
        refine wh_eff 6 rfl (by decide +kernel) ?_
        refine wl_appT rfl hb3 rfl rfl (fun w' hr => src_slice rfl (hw16 (hw.keep hr)).rd (by simp) (by decide) (one_bys _)) (by omega) rfl (fun A6 c6 E6 hb6 => ?_)
        simp only [Nat.zero_add, List.nil_append] at hb6 ⊢
        (try refine wx_nil ?_)
        refine wq_held (by (first | exact fun _ h => h | exact fun _ h => res_takes h)) ?_
        (apply wh_takeX 7; (first | exact fun _ h => h | exact fun _ h => res_takes h); exact hQd; rfl; rfl; exact v_assign rfl; decide +kernel; decide +kernel; decide +kernel; rfl)
        (apply wh_takeX 8; (first | exact fun _ h => h | exact fun _ h => res_takes h); exact hQd; rfl; rfl; exact v_assign rfl; decide +kernel; decide +kernel; decide +kernel; rfl)
        refine wh_done (by decide +kernel) ?_
        refine wq_cutK (((A5, c5, E5), A6, c6, E6)) ?_ (by repeat (first | exact trivial | refine ⟨rfl, ?_⟩)) (by first | exact catEq | exact rfl)
        exact ⟨hb5, hb6⟩
    · refine wl_lit0 rfl rfl (fun g3 E3 hb3 => ?_)
      (try refine wx_nil ?_)
      refine wq_held (by (first | exact fun _ h => h | exact fun _ h => res_takes h)) ?_
      refine wh_eff 0 rfl (by decide +kernel) ?_
      refine wl_lit0 rfl rfl (fun g0 E0 hb0 => ?_)
      (try refine wx_nil ?_)
      refine wq_held (by (first | exact fun _ h => h | exact fun _ h => res_takes h)) ?_
      refine wh_eff 2 rfl (by decide +kernel) ?_
      refine wl_appT rfl hb0 rfl rfl (fun w' hr => src_slice rfl (hv.keep hr).rd (by simp) (by decide) (one_bys _)) (by omega) rfl (fun A5 c5 E5 hb5 => ?_)
      simp only [Nat.zero_add, List.nil_append] at hb5 ⊢
      (try refine wx_nil ?_)
      refine wq_held (by (first | exact fun _ h => h | exact fun _ h => res_takes h)) ?_
      refine wh_eff 6 rfl (by decide +kernel) ?_
      refine wl_appT rfl hb3 rfl rfl (fun w' hr => src_slice rfl (hw16 (hw.keep hr)).rd (by simp) (by decide) (one_bys _)) (by omega) rfl (fun A6 c6 E6 hb6 => ?_)
      simp only [Nat.zero_add, List.nil_append] at hb6 ⊢
      (try refine wx_nil ?_)
      refine wq_held (by (first | exact fun _ h => h | exact fun _ h => res_takes h)) ?_
      (apply wh_takeX 7; (first | exact fun _ h => h | exact fun _ h => res_takes h); exact hQd; rfl; rfl; exact v_assign rfl; decide +kernel; decide +kernel; decide +kernel; rfl)
      (apply wh_takeX 8; (first | exact fun _ h => h | exact fun _ h => res_takes h); exact hQd; rfl; rfl; exact v_assign rfl; decide +kernel; decide +kernel; decide +kernel; rfl)
      refine wh_done (by decide +kernel) ?_
      refine wq_cutK (((A5, c5, E5), A6, c6, E6)) ?_ (by repeat (first | exact trivial | refine ⟨rfl, ?_⟩)) (by first | exact catEq | exact rfl)
      exact ⟨hb5, hb6⟩
  rintro ⟨⟨A5, c5, E5⟩, A6, c6, E6⟩ ⟨hb5, hb6⟩
  try dsimp only
  refine wc_fcat ?_
  refine wc_cat ?_
  dsimp only at hb5 hb6 ⊢
  repeat (first | refine wc_seq ?_ | refine wc_region ?_)
  (try refine wx_ungd rfl rfl ?_)
  apply wx_val
  exact v_build (cs := ((FaultW.cells ⟨1, 0, 9, 0⟩)).toArray) rfl (by kernel_rfl)
  rfl
  refine wl_litB rfl rfl rfl rfl rfl (by decide) rfl (fun g7 E7 hb7 => ?_)
  have hb7' : BufF [⟨1, 0, 9, 0⟩] (some ⟨g7, 0, none⟩, 1, E7) := hb7
  repeat (first | (apply wx_val; (first | exact v_assign rfl); rfl) | refine wc_seq ?_ | refine wc_region ?_ | refine wx_nil ?_ | refine wq_next ?_)
  (try refine wx_ungd rfl rfl ?_)
  apply wx_val
  exact v_build (cs := ((geoC (16 : Nat) (2 : Nat))).toArray) rfl (by kernel_rfl)
  rfl
  repeat (first | (apply wx_val; (first | exact v_move rfl); rfl))
  have he : newErr (16 : Nat) (2 : Nat) d.length b16.length [⟨1, 0, 9, 0⟩] = 0 := by
    unfold newErr
    rw [if_neg (by omega), if_neg (by omega), if_neg (by omega), if_neg (by decide), if_pos (by decide)]
  refine wl_callT (M1 := []) (fun w' hr ho => New_ok (B := 16) (S := 2) (l1 := d) (l2 := b16) (fl := [⟨1, 0, 9, 0⟩]) (by omega) (by omega) (by decide) w' (hb5.vwT hr) (hb6.vwT hr) (hb7'.vwT hr) (fun e => by cases e) he) rfl rfl rfl ?_
  intro y hy
  repeat (first | (apply wx_val; (first | exact v_move rfl | exact v_assign rfl | exact v_extract rfl rfl | exact v_ne rfl rfl | exact v_eqnil rfl rfl rfl | exact v_pickF rfl rfl); rfl) | refine wx_ungd rfl rfl ?_ | refine wc_seq ?_ | refine wc_region ?_ | refine wx_nil ?_ | refine wq_next ?_ | refine wx_cat ?_)
  (try refine wx_ungd rfl rfl ?_)
  refine wx_vcall (vc_pure' rfl rfl (fun w' hr => same_yes (d := d) (by omega) w' (hb5.vwT hr) (hv.keep hr))) rfl ?_
  repeat (first | (apply wx_val; (first | exact v_move rfl | exact v_not rfl | exact v_pickF rfl rfl); rfl) | refine wx_ungd rfl rfl ?_)
  (try refine wx_ungd rfl rfl ?_)
  apply wx_val
  exact v_sliceN (n := b.length) (c := cB) (l := 0) (h := 16) (m := b16.length) rfl rfl rfl rfl (by omega) (by omega) (by omega)
  rfl
  (try refine wx_ungd rfl rfl ?_)
  refine wx_vcall (vc_pure' rfl rfl (fun w' hr => same_yes (d := b16) (by omega) w' (hb6.vwT hr) (hw16 (hw.keep hr)))) rfl ?_
  repeat (first | (apply wx_val; (first | exact v_move rfl | exact v_not rfl | exact v_pickF rfl rfl); rfl) | refine wx_ungd rfl rfl ?_ | refine wc_seq ?_ | refine wc_region ?_ | refine wx_nil ?_ | refine wq_next ?_ | refine wc_skip ?_ | refine wc_condF rfl ?_)
  refine wl_callT (fun w' hr ho => WriteScratch_spec hy (by show 0 < 1099511627776; omega) 1 (by omega) hb6.le.1 w' (hb6.vwO hr) ho) rfl rfl rfl ?_
  rintro - hy2
  have hwr : (DevS.fresh 16 2 d b16 [⟨1, 0, 9, 0⟩]).write 1 b16 = (0, { DevS.fresh 16 2 d b16 [⟨1, 0, 9, 0⟩] with nw := 1, ops := 1, scr := putB (DevS.fresh 16 2 d b16 [⟨1, 0, 9, 0⟩]).scr 16 b16 }) := by
    unfold DevS.write
    rw [if_neg (by simp [DevS.fresh]), if_neg (by simp [DevS.fresh]), if_neg (by simp [DevS.fresh, hB16])]
    rfl
  rw [hwr] at hy2 ⊢
  dsimp only at hy2 ⊢
  obtain ⟨S, hS⟩ : ∃ S : DevS, S = { DevS.fresh 16 2 d b16 [⟨1, 0, 9, 0⟩] with nw := 1, ops := 1, scr := putB (DevS.fresh 16 2 d b16 [⟨1, 0, 9, 0⟩]).scr 16 b16 } := ⟨_, rfl⟩
  rw [← hS] at hy2 ⊢
  have hm : MeOk d b16 0 S := by
    rw [hS]
    refine ⟨rfl, rfl, rfl, rfl, rfl, ?_, Nat.le_refl 0, Nat.le_refl 1⟩
    show putB (DevS.fresh 16 2 d b16 [⟨1, 0, 9, 0⟩]).scr 16 b16 = b16 ++ b16
    have hf : (DevS.fresh 16 2 d b16 [⟨1, 0, 9, 0⟩]).scr = b16 ++ List.replicate 16 0 := by
      show putB (List.replicate 32 0) 0 b16 = _
      unfold putB
      rw [hB16, List.take_zero, List.nil_append, List.drop_replicate]
    rw [hf]
    unfold putB
    rw [List.take_left' hB16, hB16, List.drop_eq_nil_of_le (by rw [List.length_append, List.length_replicate, hB16]; exact Nat.le_refl _), List.append_nil]
  clear hwr hS
  repeat (first | (apply wx_val; (first | exact v_move rfl | exact v_ne rfl rfl); rfl) | refine wx_ungd rfl rfl ?_ | refine wx_cat ?_)
  (try refine wx_ungd rfl rfl ?_)
  apply wx_val
  exact v_sliceN (n := b.length) (c := cB) (l := 0) (h := 16) (m := b16.length) rfl rfl rfl rfl (by omega) (by omega) (by omega)
  rfl
  (try refine wx_ungd rfl rfl ?_)
  refine wx_vcall (vc_pure' rfl rfl (fun w' hr => same_yes (d := b16) (by omega) w' (hb6.vwT hr) (hw16 (hw.keep hr)))) rfl ?_
  repeat (first | (apply wx_val; (first | exact v_move rfl | exact v_faddr rfl rfl | exact v_not rfl | exact v_pickF rfl rfl | exact v_iaddr rfl rfl rfl (by omega)); rfl) | refine wx_ungd rfl rfl ?_ | refine wc_seq ?_ | refine wc_region ?_ | refine wx_nil ?_ | refine wq_next ?_ | refine wc_skip ?_ | refine wc_condF rfl ?_)
  refine wl_bsetT 2 rfl hb7 rfl rfl rfl (by decide) rfl rfl (fun E7' _ => ?_)
  repeat (first | (apply wx_val; (first | exact v_move rfl | exact v_len rfl rfl); rfl) | refine wc_seq ?_ | refine wc_region ?_ | refine wx_nil ?_ | refine wq_next ?_ | refine wc_block ?_)
  refine wc_loopK (ι := Nat × List UInt8 × Seg) [0, 1, 5, 6, 8, 99] (fun q => [(100, .int .i64 (q.1 : Nat))]) (fun q => [q.2.2]) (fun q => q.1 ≤ d.length ∧ q.2.1.length = d.length ∧ Buf 5 1 A5 d.length c5 (bys q.2.1) q.2.2) (fun q => d.length - q.1) ((0, d, E5)) rfl ?_ (by repeat (first | exact trivial | refine ⟨rfl, ?_⟩)) ?_
  · exact ⟨Nat.zero_le _, rfl, hb5⟩
  clear hb5 hb7'
  rintro ⟨i1, l5, E5'⟩ ⟨hi1, hl5, hb5⟩
  try dsimp only
  refine wc_fcat ?_
  refine wc_cat ?_
  dsimp only at hi1 hl5 hb5 ⊢
  repeat (first | (apply wx_val; (first | exact v_lt rfl rfl); rfl) | refine wc_seq ?_ | refine wc_region ?_ | refine wx_nil ?_ | refine wq_next ?_)
  refine wc_if rfl (fun hx => ?_) (fun hx => ?_)
  · obtain ⟨gA, hgA⟩ := hb5.ptr (by omega)
    obtain ⟨y5, hy5⟩ := xor_val (l5.getD i1 0)
    repeat (first | (apply wx_val; (first | exact v_move rfl | exact v_assign rfl | exact v_iaddrE (by assumption) rfl rfl rfl (by omega)); rfl) | refine wc_seq ?_ | refine wc_region ?_ | refine wx_nil ?_ | refine wq_next ?_ | refine wc_block ?_ | refine wc_skip ?_)
    (try refine wx_ungd rfl rfl ?_)
    apply wx_val
    exact v_load rfl rfl rfl (fun w' hr => hb5.byteE hgA hr (j := i1) (by omega) (by rw [Int.toNat_natCast]; omega))
    rfl
    repeat (first | (apply wx_val; (first | exact v_iaddrE (by assumption) rfl rfl rfl (by omega) | exact v_xor rfl rfl); rfl))
    refine wl_bsetT i1 hgA hb5 rfl rfl (by rw [Int.toNat_natCast]; omega) (by omega) (v := .int .u8 (y5.toNat : Nat)) (by rw [← hy5]; rfl) rfl (fun E' hb' => ?_)
    rw [bys_set'] at hb'
    repeat (first | (apply wx_val; (first | exact v_move rfl | exact v_addi rfl rfl (by omega)); rfl) | refine wc_region ?_ | refine wx_nil ?_ | refine wq_next ?_ | refine wq_block ?_)
    refine wq_roundK ((i1 + 1, l5.set i1 y5, E')) ?_ ?_ (by repeat (first | exact trivial | refine ⟨rfl, ?_⟩)) (by first | exact catEq | exact rfl)
    · exact ⟨by dsimp only; omega, by dsimp only; rw [List.length_set]; exact hl5, hb'⟩
    · dsimp only; omega
  repeat (first | (apply wx_val; (first | exact v_move rfl | exact v_len rfl rfl); rfl) | refine wc_seq ?_ | refine wc_region ?_ | refine wx_nil ?_ | refine wq_next ?_ | refine wc_block ?_ | refine wc_exit ?_ | refine wq_then_exit ?_ | refine wq_block_exit rfl ?_)
  refine wc_loopK (ι := Nat × List UInt8 × Seg) [0, 1, 6, 8, 111] (fun q => [(112, .int .i64 (q.1 : Nat))]) (fun q => [q.2.2]) (fun q => q.1 ≤ b16.length ∧ q.2.1.length = b16.length ∧ Buf 5 1 A6 b16.length c6 (bys q.2.1) q.2.2) (fun q => b16.length - q.1) ((0, b16, E6)) rfl ?_ (by repeat (first | exact trivial | refine ⟨rfl, ?_⟩)) ?_
  · exact ⟨Nat.zero_le _, rfl, hb6⟩
  clear hb6
  rintro ⟨i2, l6, E6'⟩ ⟨hi2, hl6, hb6⟩
  try dsimp only
  refine wc_fcat ?_
  refine wc_cat ?_
  dsimp only at hi2 hl6 hb6 ⊢
  repeat (first | (apply wx_val; (first | exact v_lt rfl rfl); rfl) | refine wc_seq ?_ | refine wc_region ?_ | refine wx_nil ?_ | refine wq_next ?_)
  refine wc_if rfl (fun hx2 => ?_) (fun hx2 => ?_)
  · obtain ⟨gA, hgA⟩ := hb6.ptr (by omega)
    obtain ⟨y5, hy5⟩ := xor_val (l6.getD i2 0)
    repeat (first | (apply wx_val; (first | exact v_move rfl | exact v_assign rfl | exact v_iaddrE (by assumption) rfl rfl rfl (by omega)); rfl) | refine wc_seq ?_ | refine wc_region ?_ | refine wx_nil ?_ | refine wq_next ?_ | refine wc_block ?_ | refine wc_skip ?_)
    (try refine wx_ungd rfl rfl ?_)
    apply wx_val
    exact v_load rfl rfl rfl (fun w' hr => hb6.byteE hgA hr (j := i2) (by omega) (by rw [Int.toNat_natCast]; omega))
    rfl
    repeat (first | (apply wx_val; (first | exact v_iaddrE (by assumption) rfl rfl rfl (by omega) | exact v_xor rfl rfl); rfl))
    refine wl_bsetT i2 hgA hb6 rfl rfl (by rw [Int.toNat_natCast]; omega) (by omega) (v := .int .u8 (y5.toNat : Nat)) (by rw [← hy5]; rfl) rfl (fun E' hb' => ?_)
    rw [bys_set'] at hb'
    repeat (first | (apply wx_val; (first | exact v_move rfl | exact v_addi rfl rfl (by omega)); rfl) | refine wc_region ?_ | refine wx_nil ?_ | refine wq_next ?_ | refine wq_block ?_)
    refine wq_roundK ((i2 + 1, l6.set i2 y5, E')) ?_ ?_ (by repeat (first | exact trivial | refine ⟨rfl, ?_⟩)) (by first | exact catEq | exact rfl)
    · exact ⟨by dsimp only; omega, by dsimp only; rw [List.length_set]; exact hl6, hb'⟩
    · dsimp only; omega
  refine wc_only [devB S y, y.Ei, scrB S y, y.Ef, mapB y] ?_
  refine wc_keep [0, 1, 8] rfl ?_
  repeat (first | (apply wx_val; (first | exact v_move rfl); rfl) | refine wc_seq ?_ | refine wc_region ?_ | refine wq_next ?_ | refine wc_exit ?_ | refine wq_then_exit ?_ | refine wq_block_exit rfl ?_)
  obtain ⟨S1, eS1, hm1⟩ := me_readI hm (n := 0) (by decide) (by omega) (by omega)
  refine wl_callT (fun w' hr ho => ReadInput_spec hy2 (by have := hm.ops; omega) 0 w' ho) rfl rfl rfl ?_
  rintro ⟨⟨Aa, ca, Ea⟩, y1⟩ ⟨hba, hy3, hg⟩
  dsimp only at hba hy3 hg ⊢
  rw [eS1] at hba hy3 ⊢
  dsimp only at hba hy3 ⊢
  rw [← hg]
  clear hg eS1
  repeat (first | (apply wx_val; (first | exact v_move rfl | exact v_assign rfl | exact v_extract rfl rfl); rfl) | refine wc_seq ?_ | refine wc_region ?_ | refine wx_nil ?_ | refine wq_next ?_ | refine wx_cat ?_)
  obtain ⟨S2, eS2, hm2⟩ := me_readI hm1 (n := 1) (by decide) (by omega) (by omega)
  refine wl_callT (fun w' hr ho => ReadInput_spec hy3 (by have := hm1.ops; omega) 0 w' ho) rfl rfl rfl ?_
  rintro ⟨⟨Ab, cb, Eb⟩, y2⟩ ⟨hbb, hy4, hg⟩
  dsimp only at hbb hy4 hg ⊢
  rw [eS2] at hbb hy4 ⊢
  dsimp only at hbb hy4 ⊢
  rw [← hg]
  clear hg eS2
  repeat (first | (apply wx_val; (first | exact v_move rfl | exact v_assign rfl | exact v_extract rfl rfl); rfl) | refine wc_seq ?_ | refine wc_region ?_ | refine wx_nil ?_ | refine wq_next ?_ | refine wx_cat ?_)
  obtain ⟨S3, eS3, hm3⟩ := me_readSc hm2 (n := 2) hB16 (k := 1) (.inr rfl)
  refine wl_callT (fun w' hr ho => ReadScratch_spec hy4 (by have := hm2.ops; omega) 1 w' ho) rfl rfl rfl ?_
  rintro ⟨⟨Ap, cp, Ep⟩, y3⟩ ⟨hbp, hy5, hg⟩
  dsimp only at hbp hy5 hg ⊢
  rw [eS3] at hbp hy5 ⊢
  dsimp only at hbp hy5 ⊢
  rw [← hg]
  clear hg eS3
  repeat (first | (apply wx_val; (first | exact v_move rfl | exact v_assign rfl | exact v_extract rfl rfl); rfl) | refine wc_seq ?_ | refine wc_region ?_ | refine wx_nil ?_ | refine wq_next ?_ | refine wx_cat ?_)
  obtain ⟨S4, eS4, hm4⟩ := me_readSc hm3 (n := 3) hB16 (k := 1) (.inr rfl)
  refine wl_callT (fun w' hr ho => ReadScratch_spec hy5 (by have := hm3.ops; omega) 1 w' ho) rfl rfl rfl ?_
  rintro ⟨⟨Aq, cq, Eq⟩, y4⟩ ⟨hbq, hy6, hg⟩
  dsimp only at hbq hy6 hg ⊢
  rw [eS4] at hbq hy6 ⊢
  dsimp only at hbq hy6 ⊢
  rw [← hg]
  clear hg eS4
  repeat (first | (apply wx_val; (first | exact v_move rfl | exact v_assign rfl | exact v_extract rfl rfl); rfl) | refine wc_seq ?_ | refine wc_region ?_ | refine wx_nil ?_ | refine wq_next ?_ | refine wx_cat ?_)
  refine wl_callT (fun w' hr ho => Image_spec hy6.sane w' ho) rfl rfl rfl ?_
  rintro ⟨Ax, cx, Ex⟩ hbx
  rw [hm4.scr] at hbx ⊢
  dsimp only at hbx ⊢
  repeat (first | (apply wx_val; (first | exact v_move rfl); rfl) | refine wx_cat ?_)
  refine wl_callT (fun w' hr ho => Image_spec hy6.sane w' ho) rfl rfl rfl ?_
  rintro ⟨Ay, cy, Ey⟩ hby
  rw [hm4.scr] at hby ⊢
  dsimp only at hby ⊢
  repeat (first | (apply wx_val; (first | exact v_move rfl); rfl) | refine wx_cat ?_)
  refine wl_callT (fun w' hr ho => Input_spec hy6 w' ho) rfl rfl rfl ?_
  rintro ⟨Az, cz, Ez⟩ hbz
  rw [hm4.inp] at hbz ⊢
  dsimp only at hbz ⊢
  repeat (first | (apply wx_val; (first | exact v_assign rfl); rfl) | refine wc_seq ?_ | refine wx_nil ?_ | refine wq_next ?_ | refine wc_cat ?_)
  have e32 : (b16 ++ b16).length = 32 := by rw [List.length_append, hB16]
  have e16 : (b16 ++ b16).take 16 = b16 := List.take_left' hB16
  dsimp only [BufB] at hba hbb hbp hbq hbx hby hbz
  rw [e32] at hbx hby ⊢
  refine wc_quiet rfl (by decide +kernel) ?_
  repeat (first | (apply wx_val; (first | exact v_move rfl | exact v_len rfl rfl | exact v_ne rfl rfl | exact v_pickF rfl rfl); rfl) | refine wx_ungd rfl rfl ?_)
  (try refine wx_ungd rfl rfl ?_)
  refine wx_vcall (vc_pure' rfl rfl (fun w' hr => same_yes (d := d) (by omega) w' (hba.vwT hr) (hv.keep hr))) rfl ?_
  repeat (first | (apply wx_val; (first | exact v_move rfl | exact v_not rfl | exact v_pickF rfl rfl); rfl) | refine wx_ungd rfl rfl ?_)
  (try refine wx_ungd rfl rfl ?_)
  refine wx_vcall (vc_pure' rfl rfl (fun w' hr => same_yes (d := d) (by omega) w' (hbb.vwT hr) (hv.keep hr))) rfl ?_
  repeat (first | (apply wx_val; (first | exact v_move rfl | exact v_not rfl | exact v_pickF rfl rfl); rfl) | refine wx_ungd rfl rfl ?_)
  (try refine wx_ungd rfl rfl ?_)
  apply wx_val
  exact v_sliceN (n := b.length) (c := cB) (l := 0) (h := 16) (m := b16.length) rfl rfl rfl rfl (by omega) (by omega) (by omega)
  rfl
  (try refine wx_ungd rfl rfl ?_)
  refine wx_vcall (vc_pure' rfl rfl (fun w' hr => same_yes (d := b16) (by omega) w' (hbp.vwT hr) (hw16 (hw.keep hr)))) rfl ?_
  repeat (first | (apply wx_val; (first | exact v_move rfl | exact v_not rfl | exact v_pickF rfl rfl); rfl) | refine wx_ungd rfl rfl ?_)
  (try refine wx_ungd rfl rfl ?_)
  apply wx_val
  exact v_sliceN (n := b.length) (c := cB) (l := 0) (h := 16) (m := b16.length) rfl rfl rfl rfl (by omega) (by omega) (by omega)
  rfl
  (try refine wx_ungd rfl rfl ?_)
  refine wx_vcall (vc_pure' rfl rfl (fun w' hr => same_yes (d := b16) (by omega) w' (hbq.vwT hr) (hw16 (hw.keep hr)))) rfl ?_
  repeat (first | (apply wx_val; (first | exact v_move rfl | exact v_not rfl | exact v_pickF rfl rfl); rfl) | refine wx_ungd rfl rfl ?_)
  have hcx := hbx.le.1
  (try refine wx_ungd rfl rfl ?_)
  apply wx_val
  exact v_sliceN (n := 32) (c := cx) (l := 0) (h := 16) (m := b16.length) rfl rfl rfl rfl (by omega) (by omega) (by omega)
  rfl
  repeat (first | (apply wx_val; (first | exact v_move rfl); rfl) | refine wx_ungd rfl rfl ?_)
  (try refine wx_ungd rfl rfl ?_)
  apply wx_val
  exact v_sliceN (n := b.length) (c := cB) (l := 0) (h := 16) (m := b16.length) rfl rfl rfl rfl (by omega) (by omega) (by omega)
  rfl
  (try refine wx_ungd rfl rfl ?_)
  refine wx_vcall (vc_pure' rfl rfl (fun w' hr => same_yes (d := b16) (by omega) w' (by have := vw_head (k := 16) (c := cx) (hbx.vwT hr) (by omega) (by omega); rwa [e16] at this) (hw16 (hw.keep hr)))) rfl ?_
  repeat (first | (apply wx_val; (first | exact v_move rfl | exact v_not rfl | exact v_pickF rfl rfl); rfl) | refine wx_ungd rfl rfl ?_)
  (try refine wx_ungd rfl rfl ?_)
  refine wx_vcall (vc_pure' rfl rfl (fun w' hr => same_yes (d := d) (by omega) w' (hbz.vwT hr) (hv.keep hr))) rfl ?_
  repeat (first | (apply wx_val; (first | exact v_move rfl | exact v_not rfl | exact v_pickF rfl rfl); rfl) | refine wx_ungd rfl rfl ?_ | refine wc_seq ?_ | refine wc_region ?_ | refine wx_nil ?_ | refine wq_next ?_ | refine wc_skip ?_ | refine wc_condF rfl ?_)
  refine wl_lit rfl rfl rfl rfl rfl (by decide) rfl (fun g203 => ?_)
  repeat (first | (apply wx_val; (first | exact v_move rfl | exact v_assign rfl | exact v_len rfl rfl); rfl) | refine wc_seq ?_ | refine wc_region ?_ | refine wx_nil ?_ | refine wq_next ?_ | refine wc_block ?_)
  refine wc_unroll ?_
  repeat (first | (apply wx_val; (first | exact v_move rfl | exact v_assign rfl | exact v_ldT rfl rfl rfl (by rfl) | exact v_len rfl rfl | exact v_lt rfl rfl | exact v_iaddr rfl rfl rfl (by omega)); rfl) | refine wc_seq ?_ | refine wc_region ?_ | refine wx_nil ?_ | refine wq_next ?_ | refine wc_block ?_ | refine wc_skip ?_ | refine wc_condT rfl ?_)
  refine wc_loopK (ι := Nat × Seg) [0, 1, 8, 23, 24, 25, 204, 205, 206, 212] (fun q => [(213, .int .i64 (q.1 : Nat))]) (fun q => [q.2]) (fun q => q.1 ≤ d.length ∧ Buf 5 1 Aa d.length ca (bys (List.replicate q.1 (UInt8.ofNat (1 + 0)) ++ (d).drop q.1)) q.2) (fun q => d.length - q.1) ((0, Ea)) rfl ?_ (by repeat (first | exact trivial | refine ⟨rfl, ?_⟩)) ?_
  · exact ⟨Nat.zero_le _, hba⟩
  clear hba
  rintro ⟨i, Ea⟩ ⟨hi, hba⟩
  try dsimp only
  refine wc_fcat ?_
  refine wc_cat ?_
  dsimp only at hi hba ⊢
  repeat (first | (apply wx_val; (first | exact v_lt rfl rfl); rfl) | refine wc_seq ?_ | refine wc_region ?_ | refine wx_nil ?_ | refine wq_next ?_)
  refine wc_if rfl (fun hx => ?_) (fun hx => ?_)
  · obtain ⟨gA, hgA⟩ := Buf.ptr hba (by omega)
    repeat (first | (apply wx_val; (first | exact v_move rfl | exact v_assign rfl | exact v_addi rfl rfl (by omega) | exact v_iaddrE (by assumption) rfl rfl rfl (by omega) | exact v_conv8 rfl rfl rfl (by omega)); rfl) | refine wc_seq ?_ | refine wc_region ?_ | refine wx_nil ?_ | refine wq_next ?_ | refine wc_block ?_ | refine wc_skip ?_)
    refine wl_bsetT i hgA hba rfl rfl (by rw [Int.toNat_natCast]; omega) (by omega) (v := .int .u8 ((UInt8.ofNat (1 + 0)).toNat : Nat)) rfl rfl (fun E' hb' => ?_)
    rw [bys_set', mark_step _ _ (by omega)] at hb'
    repeat (first | (apply wx_val; (first | exact v_move rfl | exact v_addi rfl rfl (by omega)); rfl) | refine wc_region ?_ | refine wx_nil ?_ | refine wq_next ?_ | refine wq_block ?_)
    refine wq_roundK ((i + 1, E')) ?_ ?_ (by repeat (first | exact trivial | refine ⟨rfl, ?_⟩)) (by first | exact catEq | exact rfl)
    · exact ⟨by dsimp only; omega, hb'⟩
    · dsimp only; omega
  have hj : i = d.length := by omega
  rw [hj, List.drop_eq_nil_of_le (by omega), List.append_nil] at hba
  clear hj hx hi
  repeat (first | (apply wx_val; (first | exact v_move rfl | exact v_addi rfl rfl (by omega)); rfl) | refine wc_region ?_ | refine wx_nil ?_ | refine wq_next ?_ | refine wc_exit ?_ | refine wq_then_exit ?_ | refine wq_block ?_ | refine wq_block_exit rfl ?_)
  refine wq_again ?_
  repeat (first | (apply wx_val; (first | exact v_move rfl | exact v_assign rfl | exact v_ldT rfl rfl rfl (by rfl) | exact v_len rfl rfl | exact v_lt rfl rfl | exact v_iaddr rfl rfl rfl (by omega)); rfl) | refine wc_seq ?_ | refine wc_region ?_ | refine wx_nil ?_ | refine wq_next ?_ | refine wc_block ?_ | refine wc_skip ?_ | refine wc_condT rfl ?_)
  refine wc_loopK (ι := Nat × Seg) [0, 1, 8, 23, 24, 25, 204, 205, 206, 212] (fun q => [(213, .int .i64 (q.1 : Nat))]) (fun q => [q.2]) (fun q => q.1 ≤ d.length ∧ Buf 5 1 Ab d.length cb (bys (List.replicate q.1 (UInt8.ofNat (1 + 1)) ++ (d).drop q.1)) q.2) (fun q => d.length - q.1) ((0, Eb)) rfl ?_ (by repeat (first | exact trivial | refine ⟨rfl, ?_⟩)) ?_
  · exact ⟨Nat.zero_le _, hbb⟩
  clear hbb
  rintro ⟨i, Eb⟩ ⟨hi, hbb⟩
  try dsimp only
  refine wc_fcat ?_
  refine wc_cat ?_
  dsimp only at hi hbb ⊢
  repeat (first | (apply wx_val; (first | exact v_lt rfl rfl); rfl) | refine wc_seq ?_ | refine wc_region ?_ | refine wx_nil ?_ | refine wq_next ?_)
  refine wc_if rfl (fun hx => ?_) (fun hx => ?_)
  · obtain ⟨gA, hgA⟩ := Buf.ptr hbb (by omega)
    repeat (first | (apply wx_val; (first | exact v_move rfl | exact v_assign rfl | exact v_addi rfl rfl (by omega) | exact v_iaddrE (by assumption) rfl rfl rfl (by omega) | exact v_conv8 rfl rfl rfl (by omega)); rfl) | refine wc_seq ?_ | refine wc_region ?_ | refine wx_nil ?_ | refine wq_next ?_ | refine wc_block ?_ | refine wc_skip ?_)
    refine wl_bsetT i hgA hbb rfl rfl (by rw [Int.toNat_natCast]; omega) (by omega) (v := .int .u8 ((UInt8.ofNat (1 + 1)).toNat : Nat)) rfl rfl (fun E' hb' => ?_)
    rw [bys_set', mark_step _ _ (by omega)] at hb'
    repeat (first | (apply wx_val; (first | exact v_move rfl | exact v_addi rfl rfl (by omega)); rfl) | refine wc_region ?_ | refine wx_nil ?_ | refine wq_next ?_ | refine wq_block ?_)
    refine wq_roundK ((i + 1, E')) ?_ ?_ (by repeat (first | exact trivial | refine ⟨rfl, ?_⟩)) (by first | exact catEq | exact rfl)
    · exact ⟨by dsimp only; omega, hb'⟩
    · dsimp only; omega
  have hj : i = d.length := by omega
  rw [hj, List.drop_eq_nil_of_le (by omega), List.append_nil] at hbb
  clear hj hx hi
  repeat (first | (apply wx_val; (first | exact v_move rfl | exact v_addi rfl rfl (by omega)); rfl) | refine wc_region ?_ | refine wx_nil ?_ | refine wq_next ?_ | refine wc_exit ?_ | refine wq_then_exit ?_ | refine wq_block ?_ | refine wq_block_exit rfl ?_)
  refine wq_again ?_
  repeat (first | (apply wx_val; (first | exact v_move rfl | exact v_assign rfl | exact v_ldT rfl rfl rfl (by rfl) | exact v_len rfl rfl | exact v_lt rfl rfl | exact v_iaddr rfl rfl rfl (by omega)); rfl) | refine wc_seq ?_ | refine wc_region ?_ | refine wx_nil ?_ | refine wq_next ?_ | refine wc_block ?_ | refine wc_skip ?_ | refine wc_condT rfl ?_)
  refine wc_loopK (ι := Nat × Seg) [0, 1, 8, 23, 24, 25, 204, 205, 206, 212] (fun q => [(213, .int .i64 (q.1 : Nat))]) (fun q => [q.2]) (fun q => q.1 ≤ b16.length ∧ Buf 5 1 Ap b16.length cp (bys (List.replicate q.1 (UInt8.ofNat (1 + 2)) ++ (b16).drop q.1)) q.2) (fun q => b16.length - q.1) ((0, Ep)) rfl ?_ (by repeat (first | exact trivial | refine ⟨rfl, ?_⟩)) ?_
  · exact ⟨Nat.zero_le _, hbp⟩
  clear hbp
  rintro ⟨i, Ep⟩ ⟨hi, hbp⟩
  try dsimp only
  refine wc_fcat ?_
  refine wc_cat ?_
  dsimp only at hi hbp ⊢
  repeat (first | (apply wx_val; (first | exact v_lt rfl rfl); rfl) | refine wc_seq ?_ | refine wc_region ?_ | refine wx_nil ?_ | refine wq_next ?_)
  refine wc_if rfl (fun hx => ?_) (fun hx => ?_)
  · obtain ⟨gA, hgA⟩ := Buf.ptr hbp (by omega)
    repeat (first | (apply wx_val; (first | exact v_move rfl | exact v_assign rfl | exact v_addi rfl rfl (by omega) | exact v_iaddrE (by assumption) rfl rfl rfl (by omega) | exact v_conv8 rfl rfl rfl (by omega)); rfl) | refine wc_seq ?_ | refine wc_region ?_ | refine wx_nil ?_ | refine wq_next ?_ | refine wc_block ?_ | refine wc_skip ?_)
    refine wl_bsetT i hgA hbp rfl rfl (by rw [Int.toNat_natCast]; omega) (by omega) (v := .int .u8 ((UInt8.ofNat (1 + 2)).toNat : Nat)) rfl rfl (fun E' hb' => ?_)
    rw [bys_set', mark_step _ _ (by omega)] at hb'
    repeat (first | (apply wx_val; (first | exact v_move rfl | exact v_addi rfl rfl (by omega)); rfl) | refine wc_region ?_ | refine wx_nil ?_ | refine wq_next ?_ | refine wq_block ?_)
    refine wq_roundK ((i + 1, E')) ?_ ?_ (by repeat (first | exact trivial | refine ⟨rfl, ?_⟩)) (by first | exact catEq | exact rfl)
    · exact ⟨by dsimp only; omega, hb'⟩
    · dsimp only; omega
  have hj : i = b16.length := by omega
  rw [hj, List.drop_eq_nil_of_le (by omega), List.append_nil] at hbp
  clear hj hx hi
  repeat (first | (apply wx_val; (first | exact v_move rfl | exact v_addi rfl rfl (by omega)); rfl) | refine wc_region ?_ | refine wx_nil ?_ | refine wq_next ?_ | refine wc_exit ?_ | refine wq_then_exit ?_ | refine wq_block ?_ | refine wq_block_exit rfl ?_)
  refine wq_again ?_
  repeat (first | (apply wx_val; (first | exact v_move rfl | exact v_assign rfl | exact v_ldT rfl rfl rfl (by rfl) | exact v_len rfl rfl | exact v_lt rfl rfl | exact v_iaddr rfl rfl rfl (by omega)); rfl) | refine wc_seq ?_ | refine wc_region ?_ | refine wx_nil ?_ | refine wq_next ?_ | refine wc_block ?_ | refine wc_skip ?_ | refine wc_condT rfl ?_)
  refine wc_loopK (ι := Nat × Seg) [0, 1, 8, 23, 24, 25, 204, 205, 206, 212] (fun q => [(213, .int .i64 (q.1 : Nat))]) (fun q => [q.2]) (fun q => q.1 ≤ b16.length ∧ Buf 5 1 Aq b16.length cq (bys (List.replicate q.1 (UInt8.ofNat (1 + 3)) ++ (b16).drop q.1)) q.2) (fun q => b16.length - q.1) ((0, Eq)) rfl ?_ (by repeat (first | exact trivial | refine ⟨rfl, ?_⟩)) ?_
  · exact ⟨Nat.zero_le _, hbq⟩
  clear hbq
  rintro ⟨i, Eq⟩ ⟨hi, hbq⟩
  try dsimp only
  refine wc_fcat ?_
  refine wc_cat ?_
  dsimp only at hi hbq ⊢
  repeat (first | (apply wx_val; (first | exact v_lt rfl rfl); rfl) | refine wc_seq ?_ | refine wc_region ?_ | refine wx_nil ?_ | refine wq_next ?_)
  refine wc_if rfl (fun hx => ?_) (fun hx => ?_)
  · obtain ⟨gA, hgA⟩ := Buf.ptr hbq (by omega)
    repeat (first | (apply wx_val; (first | exact v_move rfl | exact v_assign rfl | exact v_addi rfl rfl (by omega) | exact v_iaddrE (by assumption) rfl rfl rfl (by omega) | exact v_conv8 rfl rfl rfl (by omega)); rfl) | refine wc_seq ?_ | refine wc_region ?_ | refine wx_nil ?_ | refine wq_next ?_ | refine wc_block ?_ | refine wc_skip ?_)
    refine wl_bsetT i hgA hbq rfl rfl (by rw [Int.toNat_natCast]; omega) (by omega) (v := .int .u8 ((UInt8.ofNat (1 + 3)).toNat : Nat)) rfl rfl (fun E' hb' => ?_)
    rw [bys_set', mark_step _ _ (by omega)] at hb'
    repeat (first | (apply wx_val; (first | exact v_move rfl | exact v_addi rfl rfl (by omega)); rfl) | refine wc_region ?_ | refine wx_nil ?_ | refine wq_next ?_ | refine wq_block ?_)
    refine wq_roundK ((i + 1, E')) ?_ ?_ (by repeat (first | exact trivial | refine ⟨rfl, ?_⟩)) (by first | exact catEq | exact rfl)
    · exact ⟨by dsimp only; omega, hb'⟩
    · dsimp only; omega
  have hj : i = b16.length := by omega
  rw [hj, List.drop_eq_nil_of_le (by omega), List.append_nil] at hbq
  clear hj hx hi
  repeat (first | (apply wx_val; (first | exact v_move rfl | exact v_addi rfl rfl (by omega)); rfl) | refine wc_region ?_ | refine wx_nil ?_ | refine wq_next ?_ | refine wc_exit ?_ | refine wq_then_exit ?_ | refine wq_block ?_ | refine wq_block_exit rfl ?_)
  refine wq_again ?_
  repeat (first | (apply wx_val; (first | exact v_move rfl | exact v_assign rfl | exact v_ldT rfl rfl rfl (by rfl) | exact v_len rfl rfl | exact v_lt rfl rfl | exact v_iaddr rfl rfl rfl (by omega)); rfl) | refine wc_seq ?_ | refine wc_region ?_ | refine wx_nil ?_ | refine wq_next ?_ | refine wc_block ?_ | refine wc_skip ?_ | refine wc_condT rfl ?_)
  refine wc_loopK (ι := Nat × Seg) [0, 1, 8, 23, 24, 25, 204, 205, 206, 212] (fun q => [(213, .int .i64 (q.1 : Nat))]) (fun q => [q.2]) (fun q => q.1 ≤ 32 ∧ Buf 5 1 Ax 32 cx (bys (List.replicate q.1 (UInt8.ofNat (1 + 4)) ++ ((b16 ++ b16)).drop q.1)) q.2) (fun q => 32 - q.1) ((0, Ex)) rfl ?_ (by repeat (first | exact trivial | refine ⟨rfl, ?_⟩)) ?_
  · exact ⟨Nat.zero_le _, hbx⟩
  clear hbx
  rintro ⟨i, Ex⟩ ⟨hi, hbx⟩
  try dsimp only
  refine wc_fcat ?_
  refine wc_cat ?_
  dsimp only at hi hbx ⊢
  repeat (first | (apply wx_val; (first | exact v_lt rfl rfl); rfl) | refine wc_seq ?_ | refine wc_region ?_ | refine wx_nil ?_ | refine wq_next ?_)
  refine wc_if rfl (fun hx => ?_) (fun hx => ?_)
  · obtain ⟨gA, hgA⟩ := Buf.ptr hbx (by omega)
    repeat (first | (apply wx_val; (first | exact v_move rfl | exact v_assign rfl | exact v_addi rfl rfl (by omega) | exact v_iaddrE (by assumption) rfl rfl rfl (by omega) | exact v_conv8 rfl rfl rfl (by omega)); rfl) | refine wc_seq ?_ | refine wc_region ?_ | refine wx_nil ?_ | refine wq_next ?_ | refine wc_block ?_ | refine wc_skip ?_)
    refine wl_bsetT i hgA hbx rfl rfl (by rw [Int.toNat_natCast]; omega) (by omega) (v := .int .u8 ((UInt8.ofNat (1 + 4)).toNat : Nat)) rfl rfl (fun E' hb' => ?_)
    rw [bys_set', mark_step _ _ (by omega)] at hb'
    repeat (first | (apply wx_val; (first | exact v_move rfl | exact v_addi rfl rfl (by omega)); rfl) | refine wc_region ?_ | refine wx_nil ?_ | refine wq_next ?_ | refine wq_block ?_)
    refine wq_roundK ((i + 1, E')) ?_ ?_ (by repeat (first | exact trivial | refine ⟨rfl, ?_⟩)) (by first | exact catEq | exact rfl)
    · exact ⟨by dsimp only; omega, hb'⟩
    · dsimp only; omega
  have hj : i = 32 := by omega
  rw [hj, List.drop_eq_nil_of_le (by omega), List.append_nil] at hbx
  clear hj hx hi
  repeat (first | (apply wx_val; (first | exact v_move rfl | exact v_addi rfl rfl (by omega)); rfl) | refine wc_region ?_ | refine wx_nil ?_ | refine wq_next ?_ | refine wc_exit ?_ | refine wq_then_exit ?_ | refine wq_block ?_ | refine wq_block_exit rfl ?_)
  refine wq_again ?_
  repeat (first | (apply wx_val; (first | exact v_move rfl | exact v_assign rfl | exact v_ldT rfl rfl rfl (by rfl) | exact v_len rfl rfl | exact v_lt rfl rfl | exact v_iaddr rfl rfl rfl (by omega)); rfl) | refine wc_seq ?_ | refine wc_region ?_ | refine wx_nil ?_ | refine wq_next ?_ | refine wc_block ?_ | refine wc_skip ?_ | refine wc_condT rfl ?_)
  refine wc_loopK (ι := Nat × Seg) [0, 1, 8, 23, 24, 25, 204, 205, 206, 212] (fun q => [(213, .int .i64 (q.1 : Nat))]) (fun q => [q.2]) (fun q => q.1 ≤ 32 ∧ Buf 5 1 Ay 32 cy (bys (List.replicate q.1 (UInt8.ofNat (1 + 5)) ++ ((b16 ++ b16)).drop q.1)) q.2) (fun q => 32 - q.1) ((0, Ey)) rfl ?_ (by repeat (first | exact trivial | refine ⟨rfl, ?_⟩)) ?_
  · exact ⟨Nat.zero_le _, hby⟩
  clear hby
  rintro ⟨i, Ey⟩ ⟨hi, hby⟩
  try dsimp only
  refine wc_fcat ?_
  refine wc_cat ?_
  dsimp only at hi hby ⊢
  repeat (first | (apply wx_val; (first | exact v_lt rfl rfl); rfl) | refine wc_seq ?_ | refine wc_region ?_ | refine wx_nil ?_ | refine wq_next ?_)
  refine wc_if rfl (fun hx => ?_) (fun hx => ?_)
  · obtain ⟨gA, hgA⟩ := Buf.ptr hby (by omega)
    repeat (first | (apply wx_val; (first | exact v_move rfl | exact v_assign rfl | exact v_addi rfl rfl (by omega) | exact v_iaddrE (by assumption) rfl rfl rfl (by omega) | exact v_conv8 rfl rfl rfl (by omega)); rfl) | refine wc_seq ?_ | refine wc_region ?_ | refine wx_nil ?_ | refine wq_next ?_ | refine wc_block ?_ | refine wc_skip ?_)
    refine wl_bsetT i hgA hby rfl rfl (by rw [Int.toNat_natCast]; omega) (by omega) (v := .int .u8 ((UInt8.ofNat (1 + 5)).toNat : Nat)) rfl rfl (fun E' hb' => ?_)
    rw [bys_set', mark_step _ _ (by omega)] at hb'
    repeat (first | (apply wx_val; (first | exact v_move rfl | exact v_addi rfl rfl (by omega)); rfl) | refine wc_region ?_ | refine wx_nil ?_ | refine wq_next ?_ | refine wq_block ?_)
    refine wq_roundK ((i + 1, E')) ?_ ?_ (by repeat (first | exact trivial | refine ⟨rfl, ?_⟩)) (by first | exact catEq | exact rfl)
    · exact ⟨by dsimp only; omega, hb'⟩
    · dsimp only; omega
  have hj : i = 32 := by omega
  rw [hj, List.drop_eq_nil_of_le (by omega), List.append_nil] at hby
  clear hj hx hi
  repeat (first | (apply wx_val; (first | exact v_move rfl | exact v_addi rfl rfl (by omega)); rfl) | refine wc_region ?_ | refine wx_nil ?_ | refine wq_next ?_ | refine wc_exit ?_ | refine wq_then_exit ?_ | refine wq_block ?_ | refine wq_block_exit rfl ?_)
  refine wq_again ?_
  repeat (first | (apply wx_val; (first | exact v_move rfl | exact v_assign rfl | exact v_ldT rfl rfl rfl (by rfl) | exact v_len rfl rfl | exact v_lt rfl rfl | exact v_iaddr rfl rfl rfl (by omega)); rfl) | refine wc_seq ?_ | refine wc_region ?_ | refine wx_nil ?_ | refine wq_next ?_ | refine wc_block ?_ | refine wc_skip ?_ | refine wc_condT rfl ?_)
  refine wc_loopK (ι := Nat × Seg) [0, 1, 8, 23, 24, 25, 204, 205, 206, 212] (fun q => [(213, .int .i64 (q.1 : Nat))]) (fun q => [q.2]) (fun q => q.1 ≤ d.length ∧ Buf 5 1 Az d.length cz (bys (List.replicate q.1 (UInt8.ofNat (1 + 6)) ++ (d).drop q.1)) q.2) (fun q => d.length - q.1) ((0, Ez)) rfl ?_ (by repeat (first | exact trivial | refine ⟨rfl, ?_⟩)) ?_
  · exact ⟨Nat.zero_le _, hbz⟩
  clear hbz
  rintro ⟨i, Ez⟩ ⟨hi, hbz⟩
  try dsimp only
  refine wc_fcat ?_
  refine wc_cat ?_
  dsimp only at hi hbz ⊢
  repeat (first | (apply wx_val; (first | exact v_lt rfl rfl); rfl) | refine wc_seq ?_ | refine wc_region ?_ | refine wx_nil ?_ | refine wq_next ?_)
  refine wc_if rfl (fun hx => ?_) (fun hx => ?_)
  · obtain ⟨gA, hgA⟩ := Buf.ptr hbz (by omega)
    repeat (first | (apply wx_val; (first | exact v_move rfl | exact v_assign rfl | exact v_addi rfl rfl (by omega) | exact v_iaddrE (by assumption) rfl rfl rfl (by omega) | exact v_conv8 rfl rfl rfl (by omega)); rfl) | refine wc_seq ?_ | refine wc_region ?_ | refine wx_nil ?_ | refine wq_next ?_ | refine wc_block ?_ | refine wc_skip ?_)
    refine wl_bsetT i hgA hbz rfl rfl (by rw [Int.toNat_natCast]; omega) (by omega) (v := .int .u8 ((UInt8.ofNat (1 + 6)).toNat : Nat)) rfl rfl (fun E' hb' => ?_)
    rw [bys_set', mark_step _ _ (by omega)] at hb'
    repeat (first | (apply wx_val; (first | exact v_move rfl | exact v_addi rfl rfl (by omega)); rfl) | refine wc_region ?_ | refine wx_nil ?_ | refine wq_next ?_ | refine wq_block ?_)
    refine wq_roundK ((i + 1, E')) ?_ ?_ (by repeat (first | exact trivial | refine ⟨rfl, ?_⟩)) (by first | exact catEq | exact rfl)
    · exact ⟨by dsimp only; omega, hb'⟩
    · dsimp only; omega
  have hj : i = d.length := by omega
  rw [hj, List.drop_eq_nil_of_le (by omega), List.append_nil] at hbz
  clear hj hx hi
  repeat (first | (apply wx_val; (first | exact v_move rfl | exact v_addi rfl rfl (by omega)); rfl) | refine wc_region ?_ | refine wx_nil ?_ | refine wq_next ?_ | refine wc_exit ?_ | refine wq_then_exit ?_ | refine wq_block ?_ | refine wq_block_exit rfl ?_)
  refine wq_again ?_
  repeat (first | (apply wx_val; (first | exact v_move rfl | exact v_len rfl rfl | exact v_lt rfl rfl); rfl) | refine wc_seq ?_ | refine wc_region ?_ | refine wx_nil ?_ | refine wq_next ?_ | refine wc_block ?_ | refine wc_exit ?_ | refine wq_then_exit ?_ | refine wq_block_exit rfl ?_ | refine wc_condF rfl ?_)
  refine wc_unroll ?_
  repeat (first | (apply wx_val; (first | exact v_move rfl | exact v_assign rfl | exact v_ldT rfl rfl rfl (by rfl) | exact v_lt rfl rfl | exact v_iaddr rfl rfl rfl (by omega)); rfl) | refine wc_seq ?_ | refine wc_region ?_ | refine wx_nil ?_ | refine wq_next ?_ | refine wc_block ?_ | refine wc_skip ?_ | refine wc_condT rfl ?_)
  refine wc_seg ?_
  refine wc_loopK (ι := Nat × Option Addr × Nat × Seg × Seg) [0, 1, 8, 23, 27, 224, 225, 226] (fun q => [(28, .slice q.2.1 (d.length + q.1) q.2.2.1), (29, .int .i64 (q.1 : Nat))]) (fun q => [q.2.2.2.1, q.2.2.2.2]) (fun q => Grown Aa ca d.length (UInt8.ofNat (1 + 0)) q) (fun q => 40 - q.1) ((0, Aa, ca, Ea, [])) rfl ?_ (by repeat (first | exact trivial | refine ⟨rfl, ?_⟩)) ?_
  · exact ⟨Nat.zero_le _, [], rfl, .inl ⟨rfl, rfl, rfl, by rw [List.append_nil]; exact hba⟩⟩
  clear hba
  rintro ⟨i, A', c', Ea, ex⟩ ⟨hi, x, hxl, hs⟩
  try dsimp only
  refine wc_fcat ?_
  refine wc_cat ?_
  dsimp only at hi hxl hs ⊢
  repeat (first | (apply wx_val; (first | exact v_move rfl | exact v_lt rfl rfl); rfl) | refine wc_seq ?_ | refine wc_region ?_ | refine wx_nil ?_ | refine wq_next ?_)
  refine wc_if rfl (fun hx => ?_) (fun hx => ?_)
  · repeat (first | (apply wx_val; (first | exact v_move rfl | exact v_addi rfl rfl (by omega) | exact v_conv8 rfl rfl rfl (by omega)); rfl) | refine wc_seq ?_ | refine wc_region ?_ | refine wq_next ?_ | refine wc_block ?_ | refine wc_skip ?_)
    refine wl_litB rfl rfl rfl rfl rfl (by decide) rfl (fun g9 E9 hb9 => ?_)
    have hb9' : Buf 5 1 (some ⟨g9, 0, none⟩) 1 1 (bys [UInt8.ofNat (100 + 0)]) E9 := hb9
    rcases hs with ⟨rfl, rfl, rfl, hbj⟩ | ⟨hb0, hbj⟩
    · refine wl_app2T (m := 1) (news := bys [UInt8.ofNat (100 + 0)]) rfl hbj rfl rfl (fun w' hr => src_slice rfl (hb9'.rdT hr) rfl (by decide) (one_bys _)) (by omega) rfl (fun E' hb' => ?_) (fun A'' c'' E'' hb' => ?_)
      · rw [← bys_append, List.append_assoc] at hb'
        repeat (first | (apply wx_val; (first | exact v_move rfl | exact v_assign rfl | exact v_addi rfl rfl (by omega)); rfl) | refine wc_region ?_ | refine wx_nil ?_ | refine wq_next ?_ | refine wq_block ?_)
        refine wq_roundK ((i + 1, _, _, E', [])) ?_ ?_ (by repeat (first | exact trivial | refine ⟨rfl, ?_⟩)) (by first | exact catEq | exact rfl)
        · exact ⟨by dsimp only; omega, x ++ [UInt8.ofNat (100 + 0)], by rw [List.length_append, hxl]; rfl, .inl ⟨rfl, rfl, rfl, hb'⟩⟩
        · dsimp only; omega
      · rw [← bys_append, List.append_assoc] at hb'
        have hb0 := hbj.cutN (m := d.length) (by omega)
        rw [cut_bys _ _ _ List.length_replicate] at hb0
        repeat (first | (apply wx_val; (first | exact v_move rfl | exact v_assign rfl | exact v_addi rfl rfl (by omega)); rfl) | refine wc_region ?_ | refine wx_nil ?_ | refine wq_next ?_ | refine wq_block ?_)
        refine wq_roundK ((i + 1, A'', c'', Ea, E'')) ?_ ?_ (by repeat (first | exact trivial | refine ⟨rfl, ?_⟩)) (by first | exact catEq | exact rfl)
        · exact ⟨by dsimp only; omega, x ++ [UInt8.ofNat (100 + 0)], by rw [List.length_append, hxl]; rfl, .inr ⟨hb0, hb'⟩⟩
        · dsimp only; omega
    · refine wl_appT (m := 1) (news := bys [UInt8.ofNat (100 + 0)]) rfl hbj rfl rfl (fun w' hr => src_slice rfl (hb9'.rdT hr) rfl (by decide) (one_bys _)) (by omega) rfl (fun A'' c'' E'' hb' => ?_)
      rw [← bys_append, List.append_assoc] at hb'
      repeat (first | (apply wx_val; (first | exact v_move rfl | exact v_assign rfl | exact v_addi rfl rfl (by omega)); rfl) | refine wc_region ?_ | refine wx_nil ?_ | refine wq_next ?_ | refine wq_block ?_)
      refine wq_roundK ((i + 1, A'', c'', Ea, E'')) ?_ ?_ (by repeat (first | exact trivial | refine ⟨rfl, ?_⟩)) (by first | exact catEq | exact rfl)
      · exact ⟨by dsimp only; omega, x ++ [UInt8.ofNat (100 + 0)], by rw [List.length_append, hxl]; rfl, .inr ⟨hb0, hb'⟩⟩
      · dsimp only; omega
  have hba : Buf 5 1 Aa d.length ca (bys (List.replicate d.length (UInt8.ofNat (1 + 0)))) Ea := by
    rcases hs with ⟨_, _, _, hbj⟩ | ⟨hb0, _⟩
    · have := hbj.cutN (m := d.length) (by omega)
      rwa [cut_bys _ _ _ List.length_replicate] at this
    · exact hb0
  clear hs hx hi hxl
  repeat (first | (apply wx_val; (first | exact v_move rfl | exact v_addi rfl rfl (by omega)); rfl) | refine wc_region ?_ | refine wx_nil ?_ | refine wq_next ?_ | refine wc_exit ?_ | refine wq_then_exit ?_ | refine wq_block ?_ | refine wq_block_exit rfl ?_)
  refine wq_again ?_
  repeat (first | (apply wx_val; (first | exact v_move rfl | exact v_assign rfl | exact v_ldT rfl rfl rfl (by rfl) | exact v_lt rfl rfl | exact v_iaddr rfl rfl rfl (by omega)); rfl) | refine wc_seq ?_ | refine wc_region ?_ | refine wx_nil ?_ | refine wq_next ?_ | refine wc_block ?_ | refine wc_skip ?_ | refine wc_condT rfl ?_)
  refine wc_seg ?_
  refine wc_loopK (ι := Nat × Option Addr × Nat × Seg × Seg) [0, 1, 8, 23, 27, 224, 225, 226] (fun q => [(28, .slice q.2.1 (d.length + q.1) q.2.2.1), (29, .int .i64 (q.1 : Nat))]) (fun q => [q.2.2.2.1, q.2.2.2.2]) (fun q => Grown Ab cb d.length (UInt8.ofNat (1 + 1)) q) (fun q => 40 - q.1) ((0, Ab, cb, Eb, [])) rfl ?_ (by repeat (first | exact trivial | refine ⟨rfl, ?_⟩)) ?_
  · exact ⟨Nat.zero_le _, [], rfl, .inl ⟨rfl, rfl, rfl, by rw [List.append_nil]; exact hbb⟩⟩
  clear hbb
  rintro ⟨i, A', c', Eb, ex⟩ ⟨hi, x, hxl, hs⟩
  try dsimp only
  refine wc_fcat ?_
  refine wc_cat ?_
  dsimp only at hi hxl hs ⊢
  repeat (first | (apply wx_val; (first | exact v_move rfl | exact v_lt rfl rfl); rfl) | refine wc_seq ?_ | refine wc_region ?_ | refine wx_nil ?_ | refine wq_next ?_)
  refine wc_if rfl (fun hx => ?_) (fun hx => ?_)
  · repeat (first | (apply wx_val; (first | exact v_move rfl | exact v_addi rfl rfl (by omega) | exact v_conv8 rfl rfl rfl (by omega)); rfl) | refine wc_seq ?_ | refine wc_region ?_ | refine wq_next ?_ | refine wc_block ?_ | refine wc_skip ?_)
    refine wl_litB rfl rfl rfl rfl rfl (by decide) rfl (fun g9 E9 hb9 => ?_)
    have hb9' : Buf 5 1 (some ⟨g9, 0, none⟩) 1 1 (bys [UInt8.ofNat (100 + 1)]) E9 := hb9
    rcases hs with ⟨rfl, rfl, rfl, hbj⟩ | ⟨hb0, hbj⟩
    · refine wl_app2T (m := 1) (news := bys [UInt8.ofNat (100 + 1)]) rfl hbj rfl rfl (fun w' hr => src_slice rfl (hb9'.rdT hr) rfl (by decide) (one_bys _)) (by omega) rfl (fun E' hb' => ?_) (fun A'' c'' E'' hb' => ?_)
      · rw [← bys_append, List.append_assoc] at hb'
        repeat (first | (apply wx_val; (first | exact v_move rfl | exact v_assign rfl | exact v_addi rfl rfl (by omega)); rfl) | refine wc_region ?_ | refine wx_nil ?_ | refine wq_next ?_ | refine wq_block ?_)
        refine wq_roundK ((i + 1, _, _, E', [])) ?_ ?_ (by repeat (first | exact trivial | refine ⟨rfl, ?_⟩)) (by first | exact catEq | exact rfl)
        · exact ⟨by dsimp only; omega, x ++ [UInt8.ofNat (100 + 1)], by rw [List.length_append, hxl]; rfl, .inl ⟨rfl, rfl, rfl, hb'⟩⟩
        · dsimp only; omega
      · rw [← bys_append, List.append_assoc] at hb'
        have hb0 := hbj.cutN (m := d.length) (by omega)
        rw [cut_bys _ _ _ List.length_replicate] at hb0
        repeat (first | (apply wx_val; (first | exact v_move rfl | exact v_assign rfl | exact v_addi rfl rfl (by omega)); rfl) | refine wc_region ?_ | refine wx_nil ?_ | refine wq_next ?_ | refine wq_block ?_)
        refine wq_roundK ((i + 1, A'', c'', Eb, E'')) ?_ ?_ (by repeat (first | exact trivial | refine ⟨rfl, ?_⟩)) (by first | exact catEq | exact rfl)
        · exact ⟨by dsimp only; omega, x ++ [UInt8.ofNat (100 + 1)], by rw [List.length_append, hxl]; rfl, .inr ⟨hb0, hb'⟩⟩
        · dsimp only; omega
    · refine wl_appT (m := 1) (news := bys [UInt8.ofNat (100 + 1)]) rfl hbj rfl rfl (fun w' hr => src_slice rfl (hb9'.rdT hr) rfl (by decide) (one_bys _)) (by omega) rfl (fun A'' c'' E'' hb' => ?_)
      rw [← bys_append, List.append_assoc] at hb'
      repeat (first | (apply wx_val; (first | exact v_move rfl | exact v_assign rfl | exact v_addi rfl rfl (by omega)); rfl) | refine wc_region ?_ | refine wx_nil ?_ | refine wq_next ?_ | refine wq_block ?_)
      refine wq_roundK ((i + 1, A'', c'', Eb, E'')) ?_ ?_ (by repeat (first | exact trivial | refine ⟨rfl, ?_⟩)) (by first | exact catEq | exact rfl)
      · exact ⟨by dsimp only; omega, x ++ [UInt8.ofNat (100 + 1)], by rw [List.length_append, hxl]; rfl, .inr ⟨hb0, hb'⟩⟩
      · dsimp only; omega
  have hbb : Buf 5 1 Ab d.length cb (bys (List.replicate d.length (UInt8.ofNat (1 + 1)))) Eb := by
    rcases hs with ⟨_, _, _, hbj⟩ | ⟨hb0, _⟩
    · have := hbj.cutN (m := d.length) (by omega)
      rwa [cut_bys _ _ _ List.length_replicate] at this
    · exact hb0
  clear hs hx hi hxl
  repeat (first | (apply wx_val; (first | exact v_move rfl | exact v_addi rfl rfl (by omega)); rfl) | refine wc_region ?_ | refine wx_nil ?_ | refine wq_next ?_ | refine wc_exit ?_ | refine wq_then_exit ?_ | refine wq_block ?_ | refine wq_block_exit rfl ?_)
  refine wq_again ?_
  repeat (first | (apply wx_val; (first | exact v_move rfl | exact v_assign rfl | exact v_ldT rfl rfl rfl (by rfl) | exact v_lt rfl rfl | exact v_iaddr rfl rfl rfl (by omega)); rfl) | refine wc_seq ?_ | refine wc_region ?_ | refine wx_nil ?_ | refine wq_next ?_ | refine wc_block ?_ | refine wc_skip ?_ | refine wc_condT rfl ?_)
  refine wc_seg ?_
  refine wc_loopK (ι := Nat × Option Addr × Nat × Seg × Seg) [0, 1, 8, 23, 27, 224, 225, 226] (fun q => [(28, .slice q.2.1 (b16.length + q.1) q.2.2.1), (29, .int .i64 (q.1 : Nat))]) (fun q => [q.2.2.2.1, q.2.2.2.2]) (fun q => Grown Ap cp b16.length (UInt8.ofNat (1 + 2)) q) (fun q => 40 - q.1) ((0, Ap, cp, Ep, [])) rfl ?_ (by repeat (first | exact trivial | refine ⟨rfl, ?_⟩)) ?_
  · exact ⟨Nat.zero_le _, [], rfl, .inl ⟨rfl, rfl, rfl, by rw [List.append_nil]; exact hbp⟩⟩
  clear hbp
  rintro ⟨i, A', c', Ep, ex⟩ ⟨hi, x, hxl, hs⟩
  try dsimp only
  refine wc_fcat ?_
  refine wc_cat ?_
  dsimp only at hi hxl hs ⊢
  repeat (first | (apply wx_val; (first | exact v_move rfl | exact v_lt rfl rfl); rfl) | refine wc_seq ?_ | refine wc_region ?_ | refine wx_nil ?_ | refine wq_next ?_)
  refine wc_if rfl (fun hx => ?_) (fun hx => ?_)
  · repeat (first | (apply wx_val; (first | exact v_move rfl | exact v_addi rfl rfl (by omega) | exact v_conv8 rfl rfl rfl (by omega)); rfl) | refine wc_seq ?_ | refine wc_region ?_ | refine wq_next ?_ | refine wc_block ?_ | refine wc_skip ?_)
    refine wl_litB rfl rfl rfl rfl rfl (by decide) rfl (fun g9 E9 hb9 => ?_)
    have hb9' : Buf 5 1 (some ⟨g9, 0, none⟩) 1 1 (bys [UInt8.ofNat (100 + 2)]) E9 := hb9
    rcases hs with ⟨rfl, rfl, rfl, hbj⟩ | ⟨hb0, hbj⟩
    · refine wl_app2T (m := 1) (news := bys [UInt8.ofNat (100 + 2)]) rfl hbj rfl rfl (fun w' hr => src_slice rfl (hb9'.rdT hr) rfl (by decide) (one_bys _)) (by omega) rfl (fun E' hb' => ?_) (fun A'' c'' E'' hb' => ?_)
      · rw [← bys_append, List.append_assoc] at hb'
        repeat (first | (apply wx_val; (first | exact v_move rfl | exact v_assign rfl | exact v_addi rfl rfl (by omega)); rfl) | refine wc_region ?_ | refine wx_nil ?_ | refine wq_next ?_ | refine wq_block ?_)
        refine wq_roundK ((i + 1, _, _, E', [])) ?_ ?_ (by repeat (first | exact trivial | refine ⟨rfl, ?_⟩)) (by first | exact catEq | exact rfl)
        · exact ⟨by dsimp only; omega, x ++ [UInt8.ofNat (100 + 2)], by rw [List.length_append, hxl]; rfl, .inl ⟨rfl, rfl, rfl, hb'⟩⟩
        · dsimp only; omega
      · rw [← bys_append, List.append_assoc] at hb'
        have hb0 := hbj.cutN (m := b16.length) (by omega)
        rw [cut_bys _ _ _ List.length_replicate] at hb0
        repeat (first | (apply wx_val; (first | exact v_move rfl | exact v_assign rfl | exact v_addi rfl rfl (by omega)); rfl) | refine wc_region ?_ | refine wx_nil ?_ | refine wq_next ?_ | refine wq_block ?_)
        refine wq_roundK ((i + 1, A'', c'', Ep, E'')) ?_ ?_ (by repeat (first | exact trivial | refine ⟨rfl, ?_⟩)) (by first | exact catEq | exact rfl)
        · exact ⟨by dsimp only; omega, x ++ [UInt8.ofNat (100 + 2)], by rw [List.length_append, hxl]; rfl, .inr ⟨hb0, hb'⟩⟩
        · dsimp only; omega
    · refine wl_appT (m := 1) (news := bys [UInt8.ofNat (100 + 2)]) rfl hbj rfl rfl (fun w' hr => src_slice rfl (hb9'.rdT hr) rfl (by decide) (one_bys _)) (by omega) rfl (fun A'' c'' E'' hb' => ?_)
      rw [← bys_append, List.append_assoc] at hb'
      repeat (first | (apply wx_val; (first | exact v_move rfl | exact v_assign rfl | exact v_addi rfl rfl (by omega)); rfl) | refine wc_region ?_ | refine wx_nil ?_ | refine wq_next ?_ | refine wq_block ?_)
      refine wq_roundK ((i + 1, A'', c'', Ep, E'')) ?_ ?_ (by repeat (first | exact trivial | refine ⟨rfl, ?_⟩)) (by first | exact catEq | exact rfl)
      · exact ⟨by dsimp only; omega, x ++ [UInt8.ofNat (100 + 2)], by rw [List.length_append, hxl]; rfl, .inr ⟨hb0, hb'⟩⟩
      · dsimp only; omega
  have hbp : Buf 5 1 Ap b16.length cp (bys (List.replicate b16.length (UInt8.ofNat (1 + 2)))) Ep := by
    rcases hs with ⟨_, _, _, hbj⟩ | ⟨hb0, _⟩
    · have := hbj.cutN (m := b16.length) (by omega)
      rwa [cut_bys _ _ _ List.length_replicate] at this
    · exact hb0
  clear hs hx hi hxl
  repeat (first | (apply wx_val; (first | exact v_move rfl | exact v_addi rfl rfl (by omega)); rfl) | refine wc_region ?_ | refine wx_nil ?_ | refine wq_next ?_ | refine wc_exit ?_ | refine wq_then_exit ?_ | refine wq_block ?_ | refine wq_block_exit rfl ?_)
  refine wq_again ?_
  repeat (first | (apply wx_val; (first | exact v_move rfl | exact v_assign rfl | exact v_ldT rfl rfl rfl (by rfl) | exact v_lt rfl rfl | exact v_iaddr rfl rfl rfl (by omega)); rfl) | refine wc_seq ?_ | refine wc_region ?_ | refine wx_nil ?_ | refine wq_next ?_ | refine wc_block ?_ | refine wc_skip ?_ | refine wc_condT rfl ?_)
  refine wc_seg ?_
  refine wc_loopK (ι := Nat × Option Addr × Nat × Seg × Seg) [0, 1, 8, 23, 27, 224, 225, 226] (fun q => [(28, .slice q.2.1 (b16.length + q.1) q.2.2.1), (29, .int .i64 (q.1 : Nat))]) (fun q => [q.2.2.2.1, q.2.2.2.2]) (fun q => Grown Aq cq b16.length (UInt8.ofNat (1 + 3)) q) (fun q => 40 - q.1) ((0, Aq, cq, Eq, [])) rfl ?_ (by repeat (first | exact trivial | refine ⟨rfl, ?_⟩)) ?_
  · exact ⟨Nat.zero_le _, [], rfl, .inl ⟨rfl, rfl, rfl, by rw [List.append_nil]; exact hbq⟩⟩
  clear hbq
  rintro ⟨i, A', c', Eq, ex⟩ ⟨hi, x, hxl, hs⟩
  try dsimp only
  refine wc_fcat ?_
  refine wc_cat ?_
  dsimp only at hi hxl hs ⊢
  repeat (first | (apply wx_val; (first | exact v_move rfl | exact v_lt rfl rfl); rfl) | refine wc_seq ?_ | refine wc_region ?_ | refine wx_nil ?_ | refine wq_next ?_)
  refine wc_if rfl (fun hx => ?_) (fun hx => ?_)
  · repeat (first | (apply wx_val; (first | exact v_move rfl | exact v_addi rfl rfl (by omega) | exact v_conv8 rfl rfl rfl (by omega)); rfl) | refine wc_seq ?_ | refine wc_region ?_ | refine wq_next ?_ | refine wc_block ?_ | refine wc_skip ?_)
    refine wl_litB rfl rfl rfl rfl rfl (by decide) rfl (fun g9 E9 hb9 => ?_)
    have hb9' : Buf 5 1 (some ⟨g9, 0, none⟩) 1 1 (bys [UInt8.ofNat (100 + 3)]) E9 := hb9
    rcases hs with ⟨rfl, rfl, rfl, hbj⟩ | ⟨hb0, hbj⟩
    · refine wl_app2T (m := 1) (news := bys [UInt8.ofNat (100 + 3)]) rfl hbj rfl rfl (fun w' hr => src_slice rfl (hb9'.rdT hr) rfl (by decide) (one_bys _)) (by omega) rfl (fun E' hb' => ?_) (fun A'' c'' E'' hb' => ?_)
      · rw [← bys_append, List.append_assoc] at hb'
        repeat (first | (apply wx_val; (first | exact v_move rfl | exact v_assign rfl | exact v_addi rfl rfl (by omega)); rfl) | refine wc_region ?_ | refine wx_nil ?_ | refine wq_next ?_ | refine wq_block ?_)
        refine wq_roundK ((i + 1, _, _, E', [])) ?_ ?_ (by repeat (first | exact trivial | refine ⟨rfl, ?_⟩)) (by first | exact catEq | exact rfl)
        · exact ⟨by dsimp only; omega, x ++ [UInt8.ofNat (100 + 3)], by rw [List.length_append, hxl]; rfl, .inl ⟨rfl, rfl, rfl, hb'⟩⟩
        · dsimp only; omega
      · rw [← bys_append, List.append_assoc] at hb'
        have hb0 := hbj.cutN (m := b16.length) (by omega)
        rw [cut_bys _ _ _ List.length_replicate] at hb0
        repeat (first | (apply wx_val; (first | exact v_move rfl | exact v_assign rfl | exact v_addi rfl rfl (by omega)); rfl) | refine wc_region ?_ | refine wx_nil ?_ | refine wq_next ?_ | refine wq_block ?_)
        refine wq_roundK ((i + 1, A'', c'', Eq, E'')) ?_ ?_ (by repeat (first | exact trivial | refine ⟨rfl, ?_⟩)) (by first | exact catEq | exact rfl)
        · exact ⟨by dsimp only; omega, x ++ [UInt8.ofNat (100 + 3)], by rw [List.length_append, hxl]; rfl, .inr ⟨hb0, hb'⟩⟩
        · dsimp only; omega
    · refine wl_appT (m := 1) (news := bys [UInt8.ofNat (100 + 3)]) rfl hbj rfl rfl (fun w' hr => src_slice rfl (hb9'.rdT hr) rfl (by decide) (one_bys _)) (by omega) rfl (fun A'' c'' E'' hb' => ?_)
      rw [← bys_append, List.append_assoc] at hb'
      repeat (first | (apply wx_val; (first | exact v_move rfl | exact v_assign rfl | exact v_addi rfl rfl (by omega)); rfl) | refine wc_region ?_ | refine wx_nil ?_ | refine wq_next ?_ | refine wq_block ?_)
      refine wq_roundK ((i + 1, A'', c'', Eq, E'')) ?_ ?_ (by repeat (first | exact trivial | refine ⟨rfl, ?_⟩)) (by first | exact catEq | exact rfl)
      · exact ⟨by dsimp only; omega, x ++ [UInt8.ofNat (100 + 3)], by rw [List.length_append, hxl]; rfl, .inr ⟨hb0, hb'⟩⟩
      · dsimp only; omega
  have hbq : Buf 5 1 Aq b16.length cq (bys (List.replicate b16.length (UInt8.ofNat (1 + 3)))) Eq := by
    rcases hs with ⟨_, _, _, hbj⟩ | ⟨hb0, _⟩
    · have := hbj.cutN (m := b16.length) (by omega)
      rwa [cut_bys _ _ _ List.length_replicate] at this
    · exact hb0
  clear hs hx hi hxl
  repeat (first | (apply wx_val; (first | exact v_move rfl | exact v_addi rfl rfl (by omega)); rfl) | refine wc_region ?_ | refine wx_nil ?_ | refine wq_next ?_ | refine wc_exit ?_ | refine wq_then_exit ?_ | refine wq_block ?_ | refine wq_block_exit rfl ?_)
  refine wq_again ?_
  repeat (first | (apply wx_val; (first | exact v_move rfl | exact v_assign rfl | exact v_ldT rfl rfl rfl (by rfl) | exact v_lt rfl rfl | exact v_iaddr rfl rfl rfl (by omega)); rfl) | refine wc_seq ?_ | refine wc_region ?_ | refine wx_nil ?_ | refine wq_next ?_ | refine wc_block ?_ | refine wc_skip ?_ | refine wc_condT rfl ?_)
  refine wc_seg ?_
  refine wc_loopK (ι := Nat × Option Addr × Nat × Seg × Seg) [0, 1, 8, 23, 27, 224, 225, 226] (fun q => [(28, .slice q.2.1 (32 + q.1) q.2.2.1), (29, .int .i64 (q.1 : Nat))]) (fun q => [q.2.2.2.1, q.2.2.2.2]) (fun q => Grown Ax cx 32 (UInt8.ofNat (1 + 4)) q) (fun q => 40 - q.1) ((0, Ax, cx, Ex, [])) rfl ?_ (by repeat (first | exact trivial | refine ⟨rfl, ?_⟩)) ?_
  · exact ⟨Nat.zero_le _, [], rfl, .inl ⟨rfl, rfl, rfl, by rw [List.append_nil]; exact hbx⟩⟩
  clear hbx
  rintro ⟨i, A', c', Ex, ex⟩ ⟨hi, x, hxl, hs⟩
  try dsimp only
  refine wc_fcat ?_
  refine wc_cat ?_
  dsimp only at hi hxl hs ⊢
  repeat (first | (apply wx_val; (first | exact v_move rfl | exact v_lt rfl rfl); rfl) | refine wc_seq ?_ | refine wc_region ?_ | refine wx_nil ?_ | refine wq_next ?_)
  refine wc_if rfl (fun hx => ?_) (fun hx => ?_)
  · repeat (first | (apply wx_val; (first | exact v_move rfl | exact v_addi rfl rfl (by omega) | exact v_conv8 rfl rfl rfl (by omega)); rfl) | refine wc_seq ?_ | refine wc_region ?_ | refine wq_next ?_ | refine wc_block ?_ | refine wc_skip ?_)
    refine wl_litB rfl rfl rfl rfl rfl (by decide) rfl (fun g9 E9 hb9 => ?_)
    have hb9' : Buf 5 1 (some ⟨g9, 0, none⟩) 1 1 (bys [UInt8.ofNat (100 + 4)]) E9 := hb9
    rcases hs with ⟨rfl, rfl, rfl, hbj⟩ | ⟨hb0, hbj⟩
    · refine wl_app2T (m := 1) (news := bys [UInt8.ofNat (100 + 4)]) rfl hbj rfl rfl (fun w' hr => src_slice rfl (hb9'.rdT hr) rfl (by decide) (one_bys _)) (by omega) rfl (fun E' hb' => ?_) (fun A'' c'' E'' hb' => ?_)
      · rw [← bys_append, List.append_assoc] at hb'
        repeat (first | (apply wx_val; (first | exact v_move rfl | exact v_assign rfl | exact v_addi rfl rfl (by omega)); rfl) | refine wc_region ?_ | refine wx_nil ?_ | refine wq_next ?_ | refine wq_block ?_)
        refine wq_roundK ((i + 1, _, _, E', [])) ?_ ?_ (by repeat (first | exact trivial | refine ⟨rfl, ?_⟩)) (by first | exact catEq | exact rfl)
        · exact ⟨by dsimp only; omega, x ++ [UInt8.ofNat (100 + 4)], by rw [List.length_append, hxl]; rfl, .inl ⟨rfl, rfl, rfl, hb'⟩⟩
        · dsimp only; omega
      · rw [← bys_append, List.append_assoc] at hb'
        have hb0 := hbj.cutN (m := 32) (by omega)
        rw [cut_bys _ _ _ List.length_replicate] at hb0
        repeat (first | (apply wx_val; (first | exact v_move rfl | exact v_assign rfl | exact v_addi rfl rfl (by omega)); rfl) | refine wc_region ?_ | refine wx_nil ?_ | refine wq_next ?_ | refine wq_block ?_)
        refine wq_roundK ((i + 1, A'', c'', Ex, E'')) ?_ ?_ (by repeat (first | exact trivial | refine ⟨rfl, ?_⟩)) (by first | exact catEq | exact rfl)
        · exact ⟨by dsimp only; omega, x ++ [UInt8.ofNat (100 + 4)], by rw [List.length_append, hxl]; rfl, .inr ⟨hb0, hb'⟩⟩
        · dsimp only; omega
    · refine wl_appT (m := 1) (news := bys [UInt8.ofNat (100 + 4)]) rfl hbj rfl rfl (fun w' hr => src_slice rfl (hb9'.rdT hr) rfl (by decide) (one_bys _)) (by omega) rfl (fun A'' c'' E'' hb' => ?_)
      rw [← bys_append, List.append_assoc] at hb'
      repeat (first | (apply wx_val; (first | exact v_move rfl | exact v_assign rfl | exact v_addi rfl rfl (by omega)); rfl) | refine wc_region ?_ | refine wx_nil ?_ | refine wq_next ?_ | refine wq_block ?_)
      refine wq_roundK ((i + 1, A'', c'', Ex, E'')) ?_ ?_ (by repeat (first | exact trivial | refine ⟨rfl, ?_⟩)) (by first | exact catEq | exact rfl)
      · exact ⟨by dsimp only; omega, x ++ [UInt8.ofNat (100 + 4)], by rw [List.length_append, hxl]; rfl, .inr ⟨hb0, hb'⟩⟩
      · dsimp only; omega
  have hbx : Buf 5 1 Ax 32 cx (bys (List.replicate 32 (UInt8.ofNat (1 + 4)))) Ex := by
    rcases hs with ⟨_, _, _, hbj⟩ | ⟨hb0, _⟩
    · have := hbj.cutN (m := 32) (by omega)
      rwa [cut_bys _ _ _ List.length_replicate] at this
    · exact hb0
  clear hs hx hi hxl
  repeat (first | (apply wx_val; (first | exact v_move rfl | exact v_addi rfl rfl (by omega)); rfl) | refine wc_region ?_ | refine wx_nil ?_ | refine wq_next ?_ | refine wc_exit ?_ | refine wq_then_exit ?_ | refine wq_block ?_ | refine wq_block_exit rfl ?_)
  refine wq_again ?_
  repeat (first | (apply wx_val; (first | exact v_move rfl | exact v_assign rfl | exact v_ldT rfl rfl rfl (by rfl) | exact v_lt rfl rfl | exact v_iaddr rfl rfl rfl (by omega)); rfl) | refine wc_seq ?_ | refine wc_region ?_ | refine wx_nil ?_ | refine wq_next ?_ | refine wc_block ?_ | refine wc_skip ?_ | refine wc_condT rfl ?_)
  refine wc_seg ?_
  refine wc_loopK (ι := Nat × Option Addr × Nat × Seg × Seg) [0, 1, 8, 23, 27, 224, 225, 226] (fun q => [(28, .slice q.2.1 (32 + q.1) q.2.2.1), (29, .int .i64 (q.1 : Nat))]) (fun q => [q.2.2.2.1, q.2.2.2.2]) (fun q => Grown Ay cy 32 (UInt8.ofNat (1 + 5)) q) (fun q => 40 - q.1) ((0, Ay, cy, Ey, [])) rfl ?_ (by repeat (first | exact trivial | refine ⟨rfl, ?_⟩)) ?_
  · exact ⟨Nat.zero_le _, [], rfl, .inl ⟨rfl, rfl, rfl, by rw [List.append_nil]; exact hby⟩⟩
  clear hby
  rintro ⟨i, A', c', Ey, ex⟩ ⟨hi, x, hxl, hs⟩
  try dsimp only
  refine wc_fcat ?_
  refine wc_cat ?_
  dsimp only at hi hxl hs ⊢
  repeat (first | (apply wx_val; (first | exact v_move rfl | exact v_lt rfl rfl); rfl) | refine wc_seq ?_ | refine wc_region ?_ | refine wx_nil ?_ | refine wq_next ?_)
  refine wc_if rfl (fun hx => ?_) (fun hx => ?_)
  · repeat (first | (apply wx_val; (first | exact v_move rfl | exact v_addi rfl rfl (by omega) | exact v_conv8 rfl rfl rfl (by omega)); rfl) | refine wc_seq ?_ | refine wc_region ?_ | refine wq_next ?_ | refine wc_block ?_ | refine wc_skip ?_)
    refine wl_litB rfl rfl rfl rfl rfl (by decide) rfl (fun g9 E9 hb9 => ?_)
    have hb9' : Buf 5 1 (some ⟨g9, 0, none⟩) 1 1 (bys [UInt8.ofNat (100 + 5)]) E9 := hb9
    rcases hs with ⟨rfl, rfl, rfl, hbj⟩ | ⟨hb0, hbj⟩
    · refine wl_app2T (m := 1) (news := bys [UInt8.ofNat (100 + 5)]) rfl hbj rfl rfl (fun w' hr => src_slice rfl (hb9'.rdT hr) rfl (by decide) (one_bys _)) (by omega) rfl (fun E' hb' => ?_) (fun A'' c'' E'' hb' => ?_)
      · rw [← bys_append, List.append_assoc] at hb'
        repeat (first | (apply wx_val; (first | exact v_move rfl | exact v_assign rfl | exact v_addi rfl rfl (by omega)); rfl) | refine wc_region ?_ | refine wx_nil ?_ | refine wq_next ?_ | refine wq_block ?_)
        refine wq_roundK ((i + 1, _, _, E', [])) ?_ ?_ (by repeat (first | exact trivial | refine ⟨rfl, ?_⟩)) (by first | exact catEq | exact rfl)
        · exact ⟨by dsimp only; omega, x ++ [UInt8.ofNat (100 + 5)], by rw [List.length_append, hxl]; rfl, .inl ⟨rfl, rfl, rfl, hb'⟩⟩
        · dsimp only; omega
      · rw [← bys_append, List.append_assoc] at hb'
        have hb0 := hbj.cutN (m := 32) (by omega)
        rw [cut_bys _ _ _ List.length_replicate] at hb0
        repeat (first | (apply wx_val; (first | exact v_move rfl | exact v_assign rfl | exact v_addi rfl rfl (by omega)); rfl) | refine wc_region ?_ | refine wx_nil ?_ | refine wq_next ?_ | refine wq_block ?_)
        refine wq_roundK ((i + 1, A'', c'', Ey, E'')) ?_ ?_ (by repeat (first | exact trivial | refine ⟨rfl, ?_⟩)) (by first | exact catEq | exact rfl)
        · exact ⟨by dsimp only; omega, x ++ [UInt8.ofNat (100 + 5)], by rw [List.length_append, hxl]; rfl, .inr ⟨hb0, hb'⟩⟩
        · dsimp only; omega
    · refine wl_appT (m := 1) (news := bys [UInt8.ofNat (100 + 5)]) rfl hbj rfl rfl (fun w' hr => src_slice rfl (hb9'.rdT hr) rfl (by decide) (one_bys _)) (by omega) rfl (fun A'' c'' E'' hb' => ?_)
      rw [← bys_append, List.append_assoc] at hb'
      repeat (first | (apply wx_val; (first | exact v_move rfl | exact v_assign rfl | exact v_addi rfl rfl (by omega)); rfl) | refine wc_region ?_ | refine wx_nil ?_ | refine wq_next ?_ | refine wq_block ?_)
      refine wq_roundK ((i + 1, A'', c'', Ey, E'')) ?_ ?_ (by repeat (first | exact trivial | refine ⟨rfl, ?_⟩)) (by first | exact catEq | exact rfl)
      · exact ⟨by dsimp only; omega, x ++ [UInt8.ofNat (100 + 5)], by rw [List.length_append, hxl]; rfl, .inr ⟨hb0, hb'⟩⟩
      · dsimp only; omega
  have hby : Buf 5 1 Ay 32 cy (bys (List.replicate 32 (UInt8.ofNat (1 + 5)))) Ey := by
    rcases hs with ⟨_, _, _, hbj⟩ | ⟨hb0, _⟩
    · have := hbj.cutN (m := 32) (by omega)
      rwa [cut_bys _ _ _ List.length_replicate] at this
    · exact hb0
  clear hs hx hi hxl
  repeat (first | (apply wx_val; (first | exact v_move rfl | exact v_addi rfl rfl (by omega)); rfl) | refine wc_region ?_ | refine wx_nil ?_ | refine wq_next ?_ | refine wc_exit ?_ | refine wq_then_exit ?_ | refine wq_block ?_ | refine wq_block_exit rfl ?_)
  refine wq_again ?_
  repeat (first | (apply wx_val; (first | exact v_move rfl | exact v_assign rfl | exact v_ldT rfl rfl rfl (by rfl) | exact v_lt rfl rfl | exact v_iaddr rfl rfl rfl (by omega)); rfl) | refine wc_seq ?_ | refine wc_region ?_ | refine wx_nil ?_ | refine wq_next ?_ | refine wc_block ?_ | refine wc_skip ?_ | refine wc_condT rfl ?_)
  refine wc_seg ?_
  refine wc_loopK (ι := Nat × Option Addr × Nat × Seg × Seg) [0, 1, 8, 23, 27, 224, 225, 226] (fun q => [(28, .slice q.2.1 (d.length + q.1) q.2.2.1), (29, .int .i64 (q.1 : Nat))]) (fun q => [q.2.2.2.1, q.2.2.2.2]) (fun q => Grown Az cz d.length (UInt8.ofNat (1 + 6)) q) (fun q => 40 - q.1) ((0, Az, cz, Ez, [])) rfl ?_ (by repeat (first | exact trivial | refine ⟨rfl, ?_⟩)) ?_
  · exact ⟨Nat.zero_le _, [], rfl, .inl ⟨rfl, rfl, rfl, by rw [List.append_nil]; exact hbz⟩⟩
  clear hbz
  rintro ⟨i, A', c', Ez, ex⟩ ⟨hi, x, hxl, hs⟩
  try dsimp only
  refine wc_fcat ?_
  refine wc_cat ?_
  dsimp only at hi hxl hs ⊢
  repeat (first | (apply wx_val; (first | exact v_move rfl | exact v_lt rfl rfl); rfl) | refine wc_seq ?_ | refine wc_region ?_ | refine wx_nil ?_ | refine wq_next ?_)
  refine wc_if rfl (fun hx => ?_) (fun hx => ?_)
  · repeat (first | (apply wx_val; (first | exact v_move rfl | exact v_addi rfl rfl (by omega) | exact v_conv8 rfl rfl rfl (by omega)); rfl) | refine wc_seq ?_ | refine wc_region ?_ | refine wq_next ?_ | refine wc_block ?_ | refine wc_skip ?_)
    refine wl_litB rfl rfl rfl rfl rfl (by decide) rfl (fun g9 E9 hb9 => ?_)
    have hb9' : Buf 5 1 (some ⟨g9, 0, none⟩) 1 1 (bys [UInt8.ofNat (100 + 6)]) E9 := hb9
    rcases hs with ⟨rfl, rfl, rfl, hbj⟩ | ⟨hb0, hbj⟩
    · refine wl_app2T (m := 1) (news := bys [UInt8.ofNat (100 + 6)]) rfl hbj rfl rfl (fun w' hr => src_slice rfl (hb9'.rdT hr) rfl (by decide) (one_bys _)) (by omega) rfl (fun E' hb' => ?_) (fun A'' c'' E'' hb' => ?_)
      · rw [← bys_append, List.append_assoc] at hb'
        repeat (first | (apply wx_val; (first | exact v_move rfl | exact v_assign rfl | exact v_addi rfl rfl (by omega)); rfl) | refine wc_region ?_ | refine wx_nil ?_ | refine wq_next ?_ | refine wq_block ?_)
        refine wq_roundK ((i + 1, _, _, E', [])) ?_ ?_ (by repeat (first | exact trivial | refine ⟨rfl, ?_⟩)) (by first | exact catEq | exact rfl)
        · exact ⟨by dsimp only; omega, x ++ [UInt8.ofNat (100 + 6)], by rw [List.length_append, hxl]; rfl, .inl ⟨rfl, rfl, rfl, hb'⟩⟩
        · dsimp only; omega
      · rw [← bys_append, List.append_assoc] at hb'
        have hb0 := hbj.cutN (m := d.length) (by omega)
        rw [cut_bys _ _ _ List.length_replicate] at hb0
        repeat (first | (apply wx_val; (first | exact v_move rfl | exact v_assign rfl | exact v_addi rfl rfl (by omega)); rfl) | refine wc_region ?_ | refine wx_nil ?_ | refine wq_next ?_ | refine wq_block ?_)
        refine wq_roundK ((i + 1, A'', c'', Ez, E'')) ?_ ?_ (by repeat (first | exact trivial | refine ⟨rfl, ?_⟩)) (by first | exact catEq | exact rfl)
        · exact ⟨by dsimp only; omega, x ++ [UInt8.ofNat (100 + 6)], by rw [List.length_append, hxl]; rfl, .inr ⟨hb0, hb'⟩⟩
        · dsimp only; omega
    · refine wl_appT (m := 1) (news := bys [UInt8.ofNat (100 + 6)]) rfl hbj rfl rfl (fun w' hr => src_slice rfl (hb9'.rdT hr) rfl (by decide) (one_bys _)) (by omega) rfl (fun A'' c'' E'' hb' => ?_)
      rw [← bys_append, List.append_assoc] at hb'
      repeat (first | (apply wx_val; (first | exact v_move rfl | exact v_assign rfl | exact v_addi rfl rfl (by omega)); rfl) | refine wc_region ?_ | refine wx_nil ?_ | refine wq_next ?_ | refine wq_block ?_)
      refine wq_roundK ((i + 1, A'', c'', Ez, E'')) ?_ ?_ (by repeat (first | exact trivial | refine ⟨rfl, ?_⟩)) (by first | exact catEq | exact rfl)
      · exact ⟨by dsimp only; omega, x ++ [UInt8.ofNat (100 + 6)], by rw [List.length_append, hxl]; rfl, .inr ⟨hb0, hb'⟩⟩
      · dsimp only; omega
  have hbz : Buf 5 1 Az d.length cz (bys (List.replicate d.length (UInt8.ofNat (1 + 6)))) Ez := by
    rcases hs with ⟨_, _, _, hbj⟩ | ⟨hb0, _⟩
    · have := hbj.cutN (m := d.length) (by omega)
      rwa [cut_bys _ _ _ List.length_replicate] at this
    · exact hb0
  clear hs hx hi hxl
  repeat (first | (apply wx_val; (first | exact v_move rfl | exact v_addi rfl rfl (by omega)); rfl) | refine wc_region ?_ | refine wx_nil ?_ | refine wq_next ?_ | refine wc_exit ?_ | refine wq_then_exit ?_ | refine wq_block ?_ | refine wq_block_exit rfl ?_)
  refine wq_again ?_
  repeat (first | (apply wx_val; (first | exact v_move rfl | exact v_len rfl rfl | exact v_lt rfl rfl); rfl) | refine wc_seq ?_ | refine wc_region ?_ | refine wx_nil ?_ | refine wq_next ?_ | refine wc_block ?_ | refine wc_exit ?_ | refine wq_then_exit ?_ | refine wq_block_exit rfl ?_ | refine wc_condF rfl ?_)
  refine wc_unroll ?_
  repeat (first | (apply wx_val; (first | exact v_move rfl | exact v_assign rfl | exact v_ldT rfl rfl rfl (by rfl) | exact v_len rfl rfl | exact v_lt rfl rfl | exact v_iaddr rfl rfl rfl (by omega)); rfl) | refine wc_seq ?_ | refine wc_region ?_ | refine wx_nil ?_ | refine wq_next ?_ | refine wc_block ?_ | refine wc_skip ?_ | refine wc_condT rfl ?_)
  refine wc_loopK (ι := Nat) [0, 1, 8, 30, 31, 242, 243, 244, 250] (fun q => [(251, .int .i64 (q : Nat))]) (fun q => []) (fun q => q ≤ d.length) (fun q => d.length - q) (0) rfl ?_ (by repeat (first | exact trivial | refine ⟨rfl, ?_⟩)) ?_
  · exact Nat.zero_le _
  rintro i hi
  try dsimp only
  refine wc_fcat ?_
  refine wc_cat ?_
  repeat (first | (apply wx_val; (first | exact v_lt rfl rfl); rfl) | refine wc_seq ?_ | refine wc_region ?_ | refine wx_nil ?_ | refine wq_next ?_)
  refine wc_if rfl (fun hx => ?_) (fun hx => ?_)
  · obtain ⟨gA, hgA⟩ := Buf.ptr hba (by omega)
    repeat (first | (apply wx_val; (first | exact v_move rfl | exact v_assign rfl | exact v_iaddrE (by assumption) rfl rfl rfl (by omega)); rfl) | refine wc_seq ?_ | refine wc_region ?_ | refine wx_nil ?_ | refine wq_next ?_ | refine wc_block ?_ | refine wc_skip ?_)
    (try refine wx_ungd rfl rfl ?_)
    apply wx_val
    exact v_load (v := .int .u8 ((1 + 0 : Nat) : Int)) rfl rfl rfl (fun w' hr => by have := Buf.byteE hba hgA hr (j := i) (o := (i : Int).toNat) (by rw [List.length_replicate]; omega) (by omega); rw [rep_get _ (by omega)] at this; simpa using this)
    rfl
    repeat (first | (apply wx_val; (first | exact v_move rfl | exact v_ne rfl rfl | exact v_addi rfl rfl (by omega) | exact v_conv8 rfl rfl rfl (by omega)); rfl) | refine wc_region ?_ | refine wx_nil ?_ | refine wq_next ?_ | refine wc_skip ?_ | refine wq_block ?_ | refine wc_condF rfl ?_)
    refine wq_roundK ((i + 1)) ?_ ?_ (by repeat (first | exact trivial | refine ⟨rfl, ?_⟩)) (by first | exact catEq | exact rfl)
    · (try dsimp only); omega
    · (try dsimp only); omega
  clear hx hi
  repeat (first | (apply wx_val; (first | exact v_move rfl | exact v_addi rfl rfl (by omega)); rfl) | refine wc_region ?_ | refine wx_nil ?_ | refine wq_next ?_ | refine wc_exit ?_ | refine wq_then_exit ?_ | refine wq_block ?_ | refine wq_block_exit rfl ?_)
  refine wq_again ?_
  repeat (first | (apply wx_val; (first | exact v_move rfl | exact v_assign rfl | exact v_ldT rfl rfl rfl (by rfl) | exact v_len rfl rfl | exact v_lt rfl rfl | exact v_iaddr rfl rfl rfl (by omega)); rfl) | refine wc_seq ?_ | refine wc_region ?_ | refine wx_nil ?_ | refine wq_next ?_ | refine wc_block ?_ | refine wc_skip ?_ | refine wc_condT rfl ?_)
  refine wc_loopK (ι := Nat) [0, 1, 8, 30, 31, 242, 243, 244, 250] (fun q => [(251, .int .i64 (q : Nat))]) (fun q => []) (fun q => q ≤ d.length) (fun q => d.length - q) (0) rfl ?_ (by repeat (first | exact trivial | refine ⟨rfl, ?_⟩)) ?_
  · exact Nat.zero_le _
  rintro i hi
  try dsimp only
  refine wc_fcat ?_
  refine wc_cat ?_
  repeat (first | (apply wx_val; (first | exact v_lt rfl rfl); rfl) | refine wc_seq ?_ | refine wc_region ?_ | refine wx_nil ?_ | refine wq_next ?_)
  refine wc_if rfl (fun hx => ?_) (fun hx => ?_)
  · obtain ⟨gA, hgA⟩ := Buf.ptr hbb (by omega)
    repeat (first | (apply wx_val; (first | exact v_move rfl | exact v_assign rfl | exact v_iaddrE (by assumption) rfl rfl rfl (by omega)); rfl) | refine wc_seq ?_ | refine wc_region ?_ | refine wx_nil ?_ | refine wq_next ?_ | refine wc_block ?_ | refine wc_skip ?_)
    (try refine wx_ungd rfl rfl ?_)
    apply wx_val
    exact v_load (v := .int .u8 ((1 + 1 : Nat) : Int)) rfl rfl rfl (fun w' hr => by have := Buf.byteE hbb hgA hr (j := i) (o := (i : Int).toNat) (by rw [List.length_replicate]; omega) (by omega); rw [rep_get _ (by omega)] at this; simpa using this)
    rfl
    repeat (first | (apply wx_val; (first | exact v_move rfl | exact v_ne rfl rfl | exact v_addi rfl rfl (by omega) | exact v_conv8 rfl rfl rfl (by omega)); rfl) | refine wc_region ?_ | refine wx_nil ?_ | refine wq_next ?_ | refine wc_skip ?_ | refine wq_block ?_ | refine wc_condF rfl ?_)
    refine wq_roundK ((i + 1)) ?_ ?_ (by repeat (first | exact trivial | refine ⟨rfl, ?_⟩)) (by first | exact catEq | exact rfl)
    · (try dsimp only); omega
    · (try dsimp only); omega
  clear hx hi
  repeat (first | (apply wx_val; (first | exact v_move rfl | exact v_addi rfl rfl (by omega)); rfl) | refine wc_region ?_ | refine wx_nil ?_ | refine wq_next ?_ | refine wc_exit ?_ | refine wq_then_exit ?_ | refine wq_block ?_ | refine wq_block_exit rfl ?_)
  refine wq_again ?_
  repeat (first | (apply wx_val; (first | exact v_move rfl | exact v_assign rfl | exact v_ldT rfl rfl rfl (by rfl) | exact v_len rfl rfl | exact v_lt rfl rfl | exact v_iaddr rfl rfl rfl (by omega)); rfl) | refine wc_seq ?_ | refine wc_region ?_ | refine wx_nil ?_ | refine wq_next ?_ | refine wc_block ?_ | refine wc_skip ?_ | refine wc_condT rfl ?_)
  refine wc_loopK (ι := Nat) [0, 1, 8, 30, 31, 242, 243, 244, 250] (fun q => [(251, .int .i64 (q : Nat))]) (fun q => []) (fun q => q ≤ b16.length) (fun q => b16.length - q) (0) rfl ?_ (by repeat (first | exact trivial | refine ⟨rfl, ?_⟩)) ?_
  · exact Nat.zero_le _
  rintro i hi
  try dsimp only
  refine wc_fcat ?_
  refine wc_cat ?_
  repeat (first | (apply wx_val; (first | exact v_lt rfl rfl); rfl) | refine wc_seq ?_ | refine wc_region ?_ | refine wx_nil ?_ | refine wq_next ?_)
  refine wc_if rfl (fun hx => ?_) (fun hx => ?_)
  · obtain ⟨gA, hgA⟩ := Buf.ptr hbp (by omega)
    repeat (first | (apply wx_val; (first | exact v_move rfl | exact v_assign rfl | exact v_iaddrE (by assumption) rfl rfl rfl (by omega)); rfl) | refine wc_seq ?_ | refine wc_region ?_ | refine wx_nil ?_ | refine wq_next ?_ | refine wc_block ?_ | refine wc_skip ?_)
    (try refine wx_ungd rfl rfl ?_)
    apply wx_val
    exact v_load (v := .int .u8 ((1 + 2 : Nat) : Int)) rfl rfl rfl (fun w' hr => by have := Buf.byteE hbp hgA hr (j := i) (o := (i : Int).toNat) (by rw [List.length_replicate]; omega) (by omega); rw [rep_get _ (by omega)] at this; simpa using this)
    rfl
    repeat (first | (apply wx_val; (first | exact v_move rfl | exact v_ne rfl rfl | exact v_addi rfl rfl (by omega) | exact v_conv8 rfl rfl rfl (by omega)); rfl) | refine wc_region ?_ | refine wx_nil ?_ | refine wq_next ?_ | refine wc_skip ?_ | refine wq_block ?_ | refine wc_condF rfl ?_)
    refine wq_roundK ((i + 1)) ?_ ?_ (by repeat (first | exact trivial | refine ⟨rfl, ?_⟩)) (by first | exact catEq | exact rfl)
    · (try dsimp only); omega
    · (try dsimp only); omega
  clear hx hi
  repeat (first | (apply wx_val; (first | exact v_move rfl | exact v_addi rfl rfl (by omega)); rfl) | refine wc_region ?_ | refine wx_nil ?_ | refine wq_next ?_ | refine wc_exit ?_ | refine wq_then_exit ?_ | refine wq_block ?_ | refine wq_block_exit rfl ?_)
  refine wq_again ?_
  repeat (first | (apply wx_val; (first | exact v_move rfl | exact v_assign rfl | exact v_ldT rfl rfl rfl (by rfl) | exact v_len rfl rfl | exact v_lt rfl rfl | exact v_iaddr rfl rfl rfl (by omega)); rfl) | refine wc_seq ?_ | refine wc_region ?_ | refine wx_nil ?_ | refine wq_next ?_ | refine wc_block ?_ | refine wc_skip ?_ | refine wc_condT rfl ?_)
  refine wc_loopK (ι := Nat) [0, 1, 8, 30, 31, 242, 243, 244, 250] (fun q => [(251, .int .i64 (q : Nat))]) (fun q => []) (fun q => q ≤ b16.length) (fun q => b16.length - q) (0) rfl ?_ (by repeat (first | exact trivial | refine ⟨rfl, ?_⟩)) ?_
  · exact Nat.zero_le _
  rintro i hi
  try dsimp only
  refine wc_fcat ?_
  refine wc_cat ?_
  repeat (first | (apply wx_val; (first | exact v_lt rfl rfl); rfl) | refine wc_seq ?_ | refine wc_region ?_ | refine wx_nil ?_ | refine wq_next ?_)
  refine wc_if rfl (fun hx => ?_) (fun hx => ?_)
  · obtain ⟨gA, hgA⟩ := Buf.ptr hbq (by omega)
    repeat (first | (apply wx_val; (first | exact v_move rfl | exact v_assign rfl | exact v_iaddrE (by assumption) rfl rfl rfl (by omega)); rfl) | refine wc_seq ?_ | refine wc_region ?_ | refine wx_nil ?_ | refine wq_next ?_ | refine wc_block ?_ | refine wc_skip ?_)
    (try refine wx_ungd rfl rfl ?_)
    apply wx_val
    exact v_load (v := .int .u8 ((1 + 3 : Nat) : Int)) rfl rfl rfl (fun w' hr => by have := Buf.byteE hbq hgA hr (j := i) (o := (i : Int).toNat) (by rw [List.length_replicate]; omega) (by omega); rw [rep_get _ (by omega)] at this; simpa using this)
    rfl
    repeat (first | (apply wx_val; (first | exact v_move rfl | exact v_ne rfl rfl | exact v_addi rfl rfl (by omega) | exact v_conv8 rfl rfl rfl (by omega)); rfl) | refine wc_region ?_ | refine wx_nil ?_ | refine wq_next ?_ | refine wc_skip ?_ | refine wq_block ?_ | refine wc_condF rfl ?_)
    refine wq_roundK ((i + 1)) ?_ ?_ (by repeat (first | exact trivial | refine ⟨rfl, ?_⟩)) (by first | exact catEq | exact rfl)
    · (try dsimp only); omega
    · (try dsimp only); omega
  clear hx hi
  repeat (first | (apply wx_val; (first | exact v_move rfl | exact v_addi rfl rfl (by omega)); rfl) | refine wc_region ?_ | refine wx_nil ?_ | refine wq_next ?_ | refine wc_exit ?_ | refine wq_then_exit ?_ | refine wq_block ?_ | refine wq_block_exit rfl ?_)
  refine wq_again ?_
  repeat (first | (apply wx_val; (first | exact v_move rfl | exact v_assign rfl | exact v_ldT rfl rfl rfl (by rfl) | exact v_len rfl rfl | exact v_lt rfl rfl | exact v_iaddr rfl rfl rfl (by omega)); rfl) | refine wc_seq ?_ | refine wc_region ?_ | refine wx_nil ?_ | refine wq_next ?_ | refine wc_block ?_ | refine wc_skip ?_ | refine wc_condT rfl ?_)
  refine wc_loopK (ι := Nat) [0, 1, 8, 30, 31, 242, 243, 244, 250] (fun q => [(251, .int .i64 (q : Nat))]) (fun q => []) (fun q => q ≤ 32) (fun q => 32 - q) (0) rfl ?_ (by repeat (first | exact trivial | refine ⟨rfl, ?_⟩)) ?_
  · exact Nat.zero_le _
  rintro i hi
  try dsimp only
  refine wc_fcat ?_
  refine wc_cat ?_
  repeat (first | (apply wx_val; (first | exact v_lt rfl rfl); rfl) | refine wc_seq ?_ | refine wc_region ?_ | refine wx_nil ?_ | refine wq_next ?_)
  refine wc_if rfl (fun hx => ?_) (fun hx => ?_)
  · obtain ⟨gA, hgA⟩ := Buf.ptr hbx (by omega)
    repeat (first | (apply wx_val; (first | exact v_move rfl | exact v_assign rfl | exact v_iaddrE (by assumption) rfl rfl rfl (by omega)); rfl) | refine wc_seq ?_ | refine wc_region ?_ | refine wx_nil ?_ | refine wq_next ?_ | refine wc_block ?_ | refine wc_skip ?_)
    (try refine wx_ungd rfl rfl ?_)
    apply wx_val
    exact v_load (v := .int .u8 ((1 + 4 : Nat) : Int)) rfl rfl rfl (fun w' hr => by have := Buf.byteE hbx hgA hr (j := i) (o := (i : Int).toNat) (by rw [List.length_replicate]; omega) (by omega); rw [rep_get _ (by omega)] at this; simpa using this)
    rfl
    repeat (first | (apply wx_val; (first | exact v_move rfl | exact v_ne rfl rfl | exact v_addi rfl rfl (by omega) | exact v_conv8 rfl rfl rfl (by omega)); rfl) | refine wc_region ?_ | refine wx_nil ?_ | refine wq_next ?_ | refine wc_skip ?_ | refine wq_block ?_ | refine wc_condF rfl ?_)
    refine wq_roundK ((i + 1)) ?_ ?_ (by repeat (first | exact trivial | refine ⟨rfl, ?_⟩)) (by first | exact catEq | exact rfl)
    · (try dsimp only); omega
    · (try dsimp only); omega
  clear hx hi
  repeat (first | (apply wx_val; (first | exact v_move rfl | exact v_addi rfl rfl (by omega)); rfl) | refine wc_region ?_ | refine wx_nil ?_ | refine wq_next ?_ | refine wc_exit ?_ | refine wq_then_exit ?_ | refine wq_block ?_ | refine wq_block_exit rfl ?_)
  refine wq_again ?_
  repeat (first | (apply wx_val; (first | exact v_move rfl | exact v_assign rfl | exact v_ldT rfl rfl rfl (by rfl) | exact v_len rfl rfl | exact v_lt rfl rfl | exact v_iaddr rfl rfl rfl (by omega)); rfl) | refine wc_seq ?_ | refine wc_region ?_ | refine wx_nil ?_ | refine wq_next ?_ | refine wc_block ?_ | refine wc_skip ?_ | refine wc_condT rfl ?_)
  refine wc_loopK (ι := Nat) [0, 1, 8, 30, 31, 242, 243, 244, 250] (fun q => [(251, .int .i64 (q : Nat))]) (fun q => []) (fun q => q ≤ 32) (fun q => 32 - q) (0) rfl ?_ (by repeat (first | exact trivial | refine ⟨rfl, ?_⟩)) ?_
  · exact Nat.zero_le _
  rintro i hi
  try dsimp only
  refine wc_fcat ?_
  refine wc_cat ?_
  repeat (first | (apply wx_val; (first | exact v_lt rfl rfl); rfl) | refine wc_seq ?_ | refine wc_region ?_ | refine wx_nil ?_ | refine wq_next ?_)
  refine wc_if rfl (fun hx => ?_) (fun hx => ?_)
  · obtain ⟨gA, hgA⟩ := Buf.ptr hby (by omega)
    repeat (first | (apply wx_val; (first | exact v_move rfl | exact v_assign rfl | exact v_iaddrE (by assumption) rfl rfl rfl (by omega)); rfl) | refine wc_seq ?_ | refine wc_region ?_ | refine wx_nil ?_ | refine wq_next ?_ | refine wc_block ?_ | refine wc_skip ?_)
    (try refine wx_ungd rfl rfl ?_)
    apply wx_val
    exact v_load (v := .int .u8 ((1 + 5 : Nat) : Int)) rfl rfl rfl (fun w' hr => by have := Buf.byteE hby hgA hr (j := i) (o := (i : Int).toNat) (by rw [List.length_replicate]; omega) (by omega); rw [rep_get _ (by omega)] at this; simpa using this)
    rfl
    repeat (first | (apply wx_val; (first | exact v_move rfl | exact v_ne rfl rfl | exact v_addi rfl rfl (by omega) | exact v_conv8 rfl rfl rfl (by omega)); rfl) | refine wc_region ?_ | refine wx_nil ?_ | refine wq_next ?_ | refine wc_skip ?_ | refine wq_block ?_ | refine wc_condF rfl ?_)
    refine wq_roundK ((i + 1)) ?_ ?_ (by repeat (first | exact trivial | refine ⟨rfl, ?_⟩)) (by first | exact catEq | exact rfl)
    · (try dsimp only); omega
    · (try dsimp only); omega
  clear hx hi
  repeat (first | (apply wx_val; (first | exact v_move rfl | exact v_addi rfl rfl (by omega)); rfl) | refine wc_region ?_ | refine wx_nil ?_ | refine wq_next ?_ | refine wc_exit ?_ | refine wq_then_exit ?_ | refine wq_block ?_ | refine wq_block_exit rfl ?_)
  refine wq_again ?_
  repeat (first | (apply wx_val; (first | exact v_move rfl | exact v_assign rfl | exact v_ldT rfl rfl rfl (by rfl) | exact v_len rfl rfl | exact v_lt rfl rfl | exact v_iaddr rfl rfl rfl (by omega)); rfl) | refine wc_seq ?_ | refine wc_region ?_ | refine wx_nil ?_ | refine wq_next ?_ | refine wc_block ?_ | refine wc_skip ?_ | refine wc_condT rfl ?_)
  refine wc_loopK (ι := Nat) [0, 1, 8, 30, 31, 242, 243, 244, 250] (fun q => [(251, .int .i64 (q : Nat))]) (fun q => []) (fun q => q ≤ d.length) (fun q => d.length - q) (0) rfl ?_ (by repeat (first | exact trivial | refine ⟨rfl, ?_⟩)) ?_
  · exact Nat.zero_le _
  rintro i hi
  try dsimp only
  refine wc_fcat ?_
  refine wc_cat ?_
  repeat (first | (apply wx_val; (first | exact v_lt rfl rfl); rfl) | refine wc_seq ?_ | refine wc_region ?_ | refine wx_nil ?_ | refine wq_next ?_)
  refine wc_if rfl (fun hx => ?_) (fun hx => ?_)
  · obtain ⟨gA, hgA⟩ := Buf.ptr hbz (by omega)
    repeat (first | (apply wx_val; (first | exact v_move rfl | exact v_assign rfl | exact v_iaddrE (by assumption) rfl rfl rfl (by omega)); rfl) | refine wc_seq ?_ | refine wc_region ?_ | refine wx_nil ?_ | refine wq_next ?_ | refine wc_block ?_ | refine wc_skip ?_)
    (try refine wx_ungd rfl rfl ?_)
    apply wx_val
    exact v_load (v := .int .u8 ((1 + 6 : Nat) : Int)) rfl rfl rfl (fun w' hr => by have := Buf.byteE hbz hgA hr (j := i) (o := (i : Int).toNat) (by rw [List.length_replicate]; omega) (by omega); rw [rep_get _ (by omega)] at this; simpa using this)
    rfl
    repeat (first | (apply wx_val; (first | exact v_move rfl | exact v_ne rfl rfl | exact v_addi rfl rfl (by omega) | exact v_conv8 rfl rfl rfl (by omega)); rfl) | refine wc_region ?_ | refine wx_nil ?_ | refine wq_next ?_ | refine wc_skip ?_ | refine wq_block ?_ | refine wc_condF rfl ?_)
    refine wq_roundK ((i + 1)) ?_ ?_ (by repeat (first | exact trivial | refine ⟨rfl, ?_⟩)) (by first | exact catEq | exact rfl)
    · (try dsimp only); omega
    · (try dsimp only); omega
  clear hx hi
  repeat (first | (apply wx_val; (first | exact v_move rfl | exact v_addi rfl rfl (by omega)); rfl) | refine wc_region ?_ | refine wx_nil ?_ | refine wq_next ?_ | refine wc_exit ?_ | refine wq_then_exit ?_ | refine wq_block ?_ | refine wq_block_exit rfl ?_)
  refine wq_again ?_
  repeat (first | (apply wx_val; (first | exact v_move rfl | exact v_lt rfl rfl); rfl) | refine wc_seq ?_ | refine wc_region ?_ | refine wx_nil ?_ | refine wq_next ?_ | refine wc_exit ?_ | refine wq_then_exit ?_ | refine wq_block_exit rfl ?_ | refine wc_condF rfl ?_)
  obtain ⟨S5, eS5, hm5⟩ := me_readI hm4 (n := 4) (by decide) (by omega) (by omega)
  refine wl_callT (fun w' hr ho => ReadInput_spec hy6 (by have := hm4.ops; omega) 0 w' ho) rfl rfl rfl ?_
  rintro ⟨⟨Aa2, ca2, Ea2⟩, y5⟩ ⟨hba2, hy7, hg⟩
  dsimp only at hba2 hy7 hg ⊢
  rw [eS5] at hba2 hy7 ⊢
  dsimp only at hba2 hy7 ⊢
  rw [← hg]
  clear hg eS5
  repeat (first | (apply wx_val; (first | exact v_move rfl | exact v_assign rfl | exact v_extract rfl rfl); rfl) | refine wc_seq ?_ | refine wc_region ?_ | refine wx_nil ?_ | refine wq_next ?_ | refine wx_cat ?_)
  obtain ⟨S6, eS6, hm6⟩ := me_readSc hm5 (n := 5) hB16 (k := 0) (.inl rfl)
  refine wl_callT (fun w' hr ho => ReadScratch_spec hy7 (by have := hm5.ops; omega) 0 w' ho) rfl rfl rfl ?_
  rintro ⟨⟨Ap2, cp2, Ep2⟩, y6⟩ ⟨hbp2, hy8, hg⟩
  dsimp only at hbp2 hy8 hg ⊢
  rw [eS6] at hbp2 hy8 ⊢
  dsimp only at hbp2 hy8 ⊢
  rw [← hg]
  clear hg eS6
  repeat (first | (apply wx_val; (first | exact v_move rfl | exact v_assign rfl | exact v_extract rfl rfl); rfl) | refine wc_seq ?_ | refine wc_region ?_ | refine wx_nil ?_ | refine wq_next ?_ | refine wx_cat ?_)
  obtain ⟨S7, eS7, hm7⟩ := me_readSc hm6 (n := 6) hB16 (k := 1) (.inr rfl)
  refine wl_callT (fun w' hr ho => ReadScratch_spec hy8 (by have := hm6.ops; omega) 1 w' ho) rfl rfl rfl ?_
  rintro ⟨⟨Aq2, cq2, Eq2⟩, y7⟩ ⟨hbq2, hy9, hg⟩
  dsimp only at hbq2 hy9 hg ⊢
  rw [eS7] at hbq2 hy9 ⊢
  dsimp only at hbq2 hy9 ⊢
  rw [← hg]
  clear hg eS7
  repeat (first | (apply wx_val; (first | exact v_move rfl | exact v_assign rfl | exact v_extract rfl rfl); rfl) | refine wc_seq ?_ | refine wc_region ?_ | refine wx_nil ?_ | refine wq_next ?_ | refine wx_cat ?_)
  dsimp only [BufB] at hba2 hbp2 hbq2
  (try refine wx_ungd rfl rfl ?_)
  refine wx_vcall (vc_pure' rfl rfl (fun w' hr => same_yes (d := d) (by omega) w' (hba2.vwT hr) (hv.keep hr))) rfl ?_
  repeat (first | (apply wx_val; (first | exact v_move rfl); rfl) | refine wx_ungd rfl rfl ?_)
  (try refine wx_ungd rfl rfl ?_)
  apply wx_val
  exact v_sliceN (n := b.length) (c := cB) (l := 0) (h := 16) (m := b16.length) rfl rfl rfl rfl (by omega) (by omega) (by omega)
  rfl
  (try refine wx_ungd rfl rfl ?_)
  refine wx_vcall (vc_pure' rfl rfl (fun w' hr => same_yes (d := b16) (by omega) w' (hbp2.vwT hr) (hw16 (hw.keep hr)))) rfl ?_
  repeat (first | (apply wx_val; (first | exact v_move rfl | exact v_pickT rfl rfl); rfl) | refine wx_ungd rfl rfl ?_)
  (try refine wx_ungd rfl rfl ?_)
  apply wx_val
  exact v_sliceN (n := b.length) (c := cB) (l := 0) (h := 16) (m := b16.length) rfl rfl rfl rfl (by omega) (by omega) (by omega)
  rfl
  (try refine wx_ungd rfl rfl ?_)
  refine wx_vcall (vc_pure' rfl rfl (fun w' hr => same_yes (d := b16) (by omega) w' (hbq2.vwT hr) (hw16 (hw.keep hr)))) rfl ?_
  repeat (first | (apply wx_val; (first | exact v_assign rfl | exact v_pickT rfl rfl); rfl) | refine wx_nil ?_ | refine wq_next ?_ | refine wc_ret ?_)
  exact wq_clear (wq_ret1 () rfl rfl trivial rfl)
end Go.Proofs.Ytfdkdcopjajklaa
