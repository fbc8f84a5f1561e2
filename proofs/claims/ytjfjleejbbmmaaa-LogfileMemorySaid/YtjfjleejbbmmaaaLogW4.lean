/- The scanner's reading. -/
import Derived.Test.YtjfjleejbbmmaaaLogW3
set_option linter.unusedVariables false
set_option linter.unusedSimpArgs false
namespace Go.Proofs.Ytjfjleejbbmmaaa
open Go
set_option maxRecDepth 20000
set_option maxHeartbeats 2000000
attribute [local irreducible] WX WC WQ Val VCall
theorem v_magic {P : Program} {nt : Sh} {w0 : World} {X : List Nat} {fr : Fr} {M : List Seg} {dst : Option Nat} {t ty : TypeId} {pos : String} {af : Array Edge} {gd : Option (Nat × Bool)} {x y : Operand} {k : IntKind} {i : Nat} (hu : P.underlying t = some .string) (hx : ev fr x = some (.string (ByteArray.mk #[80, 82, 79, 1]))) (hy : ev fr y = some (.int k (i : Nat))) (h : i < 4) :
    Val P nt w0 X fr M ⟨dst, .index t x y, ty, pos, af, gd⟩ (.int .u8 ((magicB.getD i 0).toNat : Nat)) := by
  have e := v_sidx (P := P) (nt := nt) (w0 := w0) (X := X) (M := M) (dst := dst) (ty := ty) (pos := pos) (af := af) (gd := gd) hu hx hy (by omega) (by rw [Int.toNat_natCast]; exact h)
  obtain rfl | rfl | rfl | rfl : i = 0 ∨ i = 1 ∨ i = 2 ∨ i = 3 := by omega
  all_goals exact e
theorem head_end {l : List UInt8} {i : Nat} (hi : i < 4) (h : l.length ≤ i) : headAt (magicB.drop i) (l.drop i) i = some (i, true) := by
  rw [List.drop_eq_nil_of_le h]
  obtain rfl | rfl | rfl | rfl : i = 0 ∨ i = 1 ∨ i = 2 ∨ i = 3 := by omega
  all_goals rfl
theorem head_go {l : List UInt8} {i : Nat} (hi : i < 4) (h : i < l.length) : headAt (magicB.drop i) (l.drop i) i = if l.getD i 0 = magicB.getD i 0 then headAt (magicB.drop (i + 1)) (l.drop (i + 1)) (i + 1) else some (i, false) := by
  have e1 : magicB.drop i = magicB.getD i 0 :: magicB.drop (i + 1) := by
    obtain rfl | rfl | rfl | rfl : i = 0 ∨ i = 1 ∨ i = 2 ∨ i = 3 := by omega
    all_goals rfl
  have e2 : l.drop i = l.getD i 0 :: l.drop (i + 1) := by
    rw [List.drop_eq_getElem_cons h]
    congr 1
    simp [List.getD, List.getElem?_eq_getElem h]
  rw [e1, e2]
  simp only [headAt]
section sc
variable {g c : Nat} {A : Option Addr} {S : Scn} {E : Seg}
theorem short_rest {S : Scn} {p : Nat} : (S.short p).2.rest = S.rest := by unfold Scn.short; split <;> rfl
theorem RestO.same {S S' : Scn} {E : Seg} {q : Option Addr × Nat} (h : RestO S E q) (e : S'.rest = S.rest) : RestO S' E q := by
  show BufR _ _ _ S'.rest.length _ (bys S'.rest) _
  rw [e]
  exact h
theorem RestO.cut {S : Scn} {E : Seg} {A : Option Addr} {c n : Nat} (h : RestO S E (A, c)) (hn : n ≤ S.rest.length) : RestO (S.read n) E (cutA A n S.rest.length c 1, c - n) := by
  have := BufR.cut h hn (m := (S.rest.drop n).length) (by simp)
  show BufR _ _ _ (S.rest.drop n).length _ (bys (S.rest.drop n)) _
  rw [Nat.mul_one, show (bys S.rest).drop n = bys (S.rest.drop n) by simp [bys, List.map_drop]] at this
  exact this
theorem scFeed_spec {B : Option Addr} {cB : Nat} {l : List UInt8} (hb : RestO S E (A, c)) (hl : S.rest.length + l.length ≤ 140737488355328) (w : World) (hv : Vw (ids [scB g A c S, E]) w B (bys l)) (ho : Own w [scB g A c S, E]) :
    Calls Try.prog 23 #[.pointer (some ⟨g, 0, none⟩), .slice B l.length cB] w (Ret (β := Option Addr × Nat × Seg) w (ids [scB g A c S, E]) (fun _ => .int .i64 (if S.ended then 73 else 0)) (fun q => [scB g q.1 q.2.1 (S.feed l), q.2.2]) (fun q => RestO (S.feed l) q.2.2 (q.1, q.2.1))) := by
  refine go [.pointer (some ⟨g, 0, none⟩), .slice B l.length cB] [scB g A c S, E] Try.func23 Try.ntmps23 rfl rfl ho ?_
  unfold Scn.feed
  repeat (first | (apply wx_val; (first | exact v_move rfl | exact v_assign rfl | exact v_nil rfl | exact v_faddr rfl rfl | exact v_ldT rfl rfl rfl (by rfl)); rfl) | refine wc_seq ?_ | refine wc_region ?_ | refine wx_nil ?_ | refine wq_next ?_)
  refine wc_bool rfl (fun he => ?_) (fun he => ?_)
  · rw [if_pos he, if_pos he]
    repeat (first | (apply wx_val; (first | exact v_assign rfl); rfl) | refine wc_seq ?_ | refine wc_region ?_ | refine wx_nil ?_ | refine wq_next ?_ | refine wc_ret ?_ | refine wq_then_ret ?_)
    exact wq_ret1T (A, c, E) rfl rfl hb rfl
  · rw [if_neg (by rw [he]; decide), if_neg (by rw [he]; decide)]
    repeat (first | (apply wx_val; (first | exact v_move rfl | exact v_nil rfl | exact v_faddr rfl rfl | exact v_ldT rfl rfl rfl (by rfl) | exact v_eq rfl rfl); rfl) | refine wc_seq ?_ | refine wc_region ?_ | refine wx_nil ?_ | refine wq_next ?_ | refine wc_skip ?_)
    refine wc_if rfl (fun hf => ?_) (fun hf => ?_)
    · rw [if_pos hf]
      repeat (first | (apply wx_val; (first | exact v_move rfl | exact v_nil rfl | exact v_faddr rfl rfl | exact v_ldT rfl rfl rfl (by rfl)); rfl) | refine wc_region ?_)
      refine wl_appR rfl hb rfl rfl (fun w' hr => src_slice rfl (hv.keep hr).rd (by simp) (by decide) (one_bys _)) (by omega) rfl (fun A2 c2 E2 hb2 => ?_)
      rw [← bys_append, ← List.length_append] at hb2
      rw [← List.length_append]
      repeat (first | (apply wx_val; (first | exact v_assign rfl | exact v_nil rfl | exact v_faddr rfl rfl); rfl) | refine wc_seq ?_ | refine wc_region ?_ | refine wx_nil ?_ | refine wq_next ?_ | refine wc_ret ?_ | refine wq_setn ?_ | refine wl_storeT rfl rfl rfl (by rfl) (by exact .inl (Nat.le_refl _)) rfl ?_)
      refine wq_blk g (scC { S with rest := S.rest ++ l } A2 c2) (by rfl) ?_
      refine wq_setn ?_
      exact wq_ret1T (A2, c2, E2) rfl rfl hb2 rfl
    · rw [if_neg hf]
      repeat (first | (apply wx_val; (first | exact v_assign rfl); rfl) | refine wc_seq ?_ | refine wc_region ?_ | refine wx_nil ?_ | refine wq_next ?_ | refine wc_ret ?_ | refine wc_skip ?_)
      exact wq_ret1T (A, c, E) rfl rfl hb rfl
theorem scEnd_spec (w : World) (ho : Own w [scB g A c S]) :
    Calls Try.prog 29 #[.pointer (some ⟨g, 0, none⟩)] w (Ret (β := Unit) w (ids [scB g A c S]) (fun _ => .int .i64 (if S.ended then 73 else 0)) (fun _ => [scB g A c { S with ended := true }]) (fun _ => True)) := by
  refine go [.pointer (some ⟨g, 0, none⟩)] [scB g A c S] Try.func29 Try.ntmps29 rfl rfl ho ?_
  repeat (first | (apply wx_val; (first | exact v_move rfl | exact v_assign rfl | exact v_nil rfl | exact v_faddr rfl rfl | exact v_ldT rfl rfl rfl (by rfl)); rfl) | refine wc_seq ?_ | refine wc_region ?_ | refine wx_nil ?_ | refine wq_next ?_)
  refine wc_bool rfl (fun he => ?_) (fun he => ?_)
  · rw [if_pos he]
    repeat (first | (apply wx_val; (first | exact v_assign rfl); rfl) | refine wc_seq ?_ | refine wc_region ?_ | refine wx_nil ?_ | refine wq_next ?_ | refine wc_ret ?_ | refine wq_then_ret ?_)
    refine wq_blk g (scC { S with ended := true } A c) (by unfold scC; rw [he]) ?_
    refine wq_setn ?_
    exact wq_ret1T () rfl rfl trivial rfl
  · rw [if_neg (by rw [he]; decide)]
    repeat (first | (apply wx_val; (first | exact v_move rfl | exact v_assign rfl | exact v_nil rfl | exact v_faddr rfl rfl); rfl) | refine wc_seq ?_ | refine wc_region ?_ | refine wx_nil ?_ | refine wq_next ?_ | refine wc_ret ?_ | refine wc_skip ?_ | refine wq_setn ?_ | refine wl_storeT rfl rfl rfl (by rfl) (by exact .inl (Nat.le_refl _)) rfl ?_)
    refine wq_blk g (scC { S with ended := true } A c) (by rfl) ?_
    refine wq_setn ?_
    exact wq_ret1T () rfl rfl trivial rfl
theorem scOffset_spec (w : World) (ho : Own w [scB g A c S]) :
    Calls Try.prog 25 #[.pointer (some ⟨g, 0, none⟩)] w (Ret (β := Unit) w (ids [scB g A c S]) (fun _ => .int .i64 (S.at_ : Nat)) (fun _ => [scB g A c S]) (fun _ => True)) := by
  refine go [.pointer (some ⟨g, 0, none⟩)] [scB g A c S] Try.func25 Try.ntmps25 rfl rfl ho ?_
  repeat (first | (apply wx_val; (first | exact v_move rfl | exact v_assign rfl | exact v_nil rfl | exact v_faddr rfl rfl | exact v_ldT rfl rfl rfl (by rfl)); rfl) | refine wc_seq ?_ | refine wc_region ?_ | refine wx_nil ?_ | refine wq_next ?_ | refine wc_ret ?_)
  exact wq_ret1T () rfl rfl trivial rfl
theorem scCount_spec (w : World) (ho : Own w [scB g A c S]) :
    Calls Try.prog 33 #[.pointer (some ⟨g, 0, none⟩)] w (Ret (β := Unit) w (ids [scB g A c S]) (fun _ => .int .i64 (S.count : Nat)) (fun _ => [scB g A c S]) (fun _ => True)) := by
  refine go [.pointer (some ⟨g, 0, none⟩)] [scB g A c S] Try.func33 Try.ntmps33 rfl rfl ho ?_
  repeat (first | (apply wx_val; (first | exact v_move rfl | exact v_assign rfl | exact v_nil rfl | exact v_faddr rfl rfl | exact v_ldT rfl rfl rfl (by rfl)); rfl) | refine wc_seq ?_ | refine wc_region ?_ | refine wx_nil ?_ | refine wq_next ?_ | refine wc_ret ?_)
  exact wq_ret1T () rfl rfl trivial rfl
def Scn.done (S : Scn) : Bool := decide ((S.state : Int) = 2) && S.ended && decide ((S.rest.length : Int) = 0) && decide (S.fault = 0)
theorem scFinished_spec (w : World) (ho : Own w [scB g A c S]) :
    Calls Try.prog 32 #[.pointer (some ⟨g, 0, none⟩)] w (Ret (β := Unit) w (ids [scB g A c S]) (fun _ => .bool S.done) (fun _ => [scB g A c S]) (fun _ => True)) := by
  refine go [.pointer (some ⟨g, 0, none⟩)] [scB g A c S] Try.func32 Try.ntmps32 rfl rfl ho ?_
  unfold Scn.done
  repeat' (first | (apply wx_val; (first | exact v_move rfl | exact v_assign rfl | exact v_nil rfl | exact v_faddr rfl rfl | exact v_ldT rfl rfl rfl (by rfl) | exact v_len rfl rfl | exact v_eq rfl rfl | exact v_pickT rfl rfl | exact v_pickF rfl rfl); rfl) | refine wx_no rfl rfl rfl ?_ | refine wx_ungd rfl rfl ?_ | refine wc_seq ?_ | refine wc_region ?_ | refine wx_nil ?_ | refine wq_next ?_ | refine wc_ret ?_ | refine wx_gif rfl rfl (fun _ => ?_) (fun _ => ?_) | refine wx_gbool rfl rfl (fun _ => ?_) (fun _ => ?_))
  all_goals exact wq_ret1T () rfl (bool_val (by simp_all)) trivial rfl
theorem scHead_spec (hb : RestO S E (A, c)) (hp : S.at_ + S.rest.length ≤ 1152921504606846976) (w : World) (ho : Own w [scB g A c S, E]) :
    Calls Try.prog 38 #[.pointer (some ⟨g, 0, none⟩)] w (Ret (β := Option Addr × Nat) w (ids [scB g A c S, E]) (fun _ => .tuple #[.bool S.head.1.1, .int .i64 S.head.1.2]) (fun q => [scB g q.1 q.2 S.head.2, E]) (fun q => RestO S.head.2 E q)) := by
  refine go [.pointer (some ⟨g, 0, none⟩)] [scB g A c S, E] Try.func38 Try.ntmps38 rfl rfl ho ?_
  have hcl := hb.le
  repeat (first | (apply wx_val; (first | exact v_move rfl | exact v_assign rfl); rfl) | refine wc_seq ?_ | refine wc_region ?_ | refine wx_nil ?_ | refine wq_next ?_ | refine wc_block ?_)
  refine wc_loopK (ι := Nat) [0] (fun i => [(5, .int .i64 (i : Nat))]) (fun i => [scB g A c S, E]) (fun i => i ≤ 4 ∧ i ≤ S.rest.length ∧ headAt magicB S.rest 0 = headAt (magicB.drop i) (S.rest.drop i) i) (fun i => 4 - i) (0) rfl ?_ (by repeat (first | exact trivial | refine ⟨rfl, ?_⟩)) ?_
  · exact ⟨by decide, Nat.zero_le _, rfl⟩
  rintro i ⟨hi, hil, hh⟩
  try dsimp only
  refine wc_fcat ?_
  refine wc_cat ?_
  repeat (first | (apply wx_val; (first | exact v_lt rfl rfl); rfl) | refine wc_seq ?_ | refine wc_region ?_ | refine wx_nil ?_ | refine wq_next ?_)
  refine wc_if rfl (fun h1 => ?_) (fun h1 => ?_)
  · repeat (first | (apply wx_val; (first | exact v_move rfl | exact v_assign rfl | exact v_nil rfl | exact v_faddr rfl rfl | exact v_ldT rfl rfl rfl (by rfl) | exact v_len rfl rfl | exact v_ge rfl rfl); rfl) | refine wc_seq ?_ | refine wc_region ?_ | refine wx_nil ?_ | refine wq_next ?_ | refine wc_block ?_ | refine wc_skip ?_)
    refine wc_if rfl (fun h2 => ?_) (fun h2 => ?_)
    · rw [head_end (by omega) (by omega)] at hh
      have e : S.head = ((false, (S.short i).1), (S.short i).2) := by unfold Scn.head; rw [hh]
      rw [e]
      repeat (first | (apply wx_val; (first | exact v_move rfl); rfl) | refine wc_seq ?_ | refine wc_region ?_)
      refine wl_callT (fun w' hr ho => scShort_spec (A := A) (c := c) (S := S) i (by omega) w' ho) rfl rfl rfl ?_
      rintro - -
      repeat (first | (apply wx_val; (first | exact v_assign rfl); rfl) | refine wx_nil ?_ | refine wq_next ?_ | refine wc_ret ?_ | refine wq_then_ret ?_ | refine wq_block_ret ?_ | refine wq_cat ?_)
      exact wq_ret2T (A, c) rfl rfl rfl rfl (hb.same short_rest) rfl
    · rw [head_go (by omega) (by omega)] at hh
      obtain ⟨gA, oA, hA⟩ := hb.ptr (by omega)
      dsimp only at hA
      repeat (first | (apply wx_val; (first | exact v_move rfl | exact v_nil rfl | exact v_faddr rfl rfl | exact v_ldT rfl rfl rfl (by rfl) | exact v_iaddrE (by assumption) rfl rfl rfl (by omega)); rfl) | refine wc_seq ?_ | refine wq_next ?_ | refine wc_skip ?_ | refine wc_reads rfl (by decide +kernel) ?_)
      (try refine wx_ungd rfl rfl ?_)
      apply wx_val
      exact v_load rfl rfl rfl (fun w' hr => hb.byteE hA hr (j := i) (by omega) (by rw [Int.toNat_natCast]; omega))
      rfl
      repeat (first | (apply wx_val; (first | exact v_move rfl); rfl))
      (try refine wx_ungd rfl rfl ?_)
      apply wx_val
      exact v_magic rfl rfl rfl (by omega)
      rfl
      repeat (first | (apply wx_val; (first | exact v_ne rfl rfl); rfl) | refine wx_nil ?_ | refine wq_next ?_)
      refine wc_if rfl (fun h3 => ?_) (fun h3 => ?_)
      · rw [if_neg (by intro e; exact h3 (by rw [e]))] at hh
        have e : S.head = ((false, 70), S.fail i 70) := by unfold Scn.head; rw [hh]
        rw [e]
        repeat (first | (apply wx_val; (first | exact v_move rfl); rfl) | refine wc_seq ?_ | refine wc_region ?_)
        refine wl_callT (fun w' hr ho => scFail_spec (A := A) (c := c) (S := S) i 70 (by omega) w' ho) rfl rfl rfl ?_
        rintro - -
        repeat (first | (apply wx_val; (first | exact v_assign rfl); rfl) | refine wx_nil ?_ | refine wq_next ?_ | refine wc_ret ?_ | refine wq_then_ret ?_ | refine wq_block_ret ?_ | refine wq_cat ?_)
        exact wq_ret2T (A, c) rfl rfl rfl rfl (hb.same rfl) rfl
      · have h3' : S.rest.getD i 0 = magicB.getD i 0 := by
          have : ¬ ((S.rest.getD i 0).toNat : Int) ≠ (magicB.getD i 0).toNat := h3
          exact UInt8.toNat_inj.1 (by omega)
        rw [if_pos h3'] at hh
        repeat (first | (apply wx_val; (first | exact v_move rfl | exact v_addi rfl rfl (by omega)); rfl) | refine wc_region ?_ | refine wx_nil ?_ | refine wq_next ?_ | refine wc_skip ?_ | refine wq_block ?_)
        refine wq_roundK (i + 1) ?_ ?_ (by repeat (first | exact trivial | refine ⟨rfl, ?_⟩)) (by first | exact catEq | exact rfl)
        · exact ⟨by omega, by omega, hh⟩
        · omega
  · obtain rfl : i = 4 := by omega
    have e : S.head = ((true, 0), { S.read 4 with state := 1 }) := by unfold Scn.head; rw [hh]; rfl
    rw [e]
    repeat (first | (apply wx_val; (first | exact v_move rfl); rfl) | refine wc_seq ?_ | refine wc_region ?_ | refine wq_next ?_ | refine wc_exit ?_ | refine wq_then_exit ?_ | refine wq_block_exit rfl ?_)
    refine wl_callT (fun w' hr ho => scRead_spec (A := A) (c := c) (S := S) 4 (by omega) hcl (by omega) w' ho) rfl rfl rfl ?_
    rintro - -
    repeat (first | (apply wx_val; (first | exact v_move rfl | exact v_assign rfl | exact v_nil rfl | exact v_faddr rfl rfl); rfl) | refine wc_seq ?_ | refine wc_region ?_ | refine wx_nil ?_ | refine wq_next ?_ | refine wc_ret ?_ | refine wq_setn ?_ | refine wx_cat ?_ | refine wl_storeT rfl rfl rfl (by rfl) (by exact .inl (Nat.le_refl _)) rfl ?_)
    refine wq_blk g (scC { S.read 4 with state := 1 } (cutA A 4 S.rest.length c 1) (c - 4)) (by rfl) ?_
    refine wq_setn ?_
    exact wq_ret2T (cutA A 4 S.rest.length c 1, c - 4) rfl rfl rfl rfl ((hb.cut (by omega)).same rfl) rfl
end sc
end Go.Proofs.Ytjfjleejbbmmaaa
