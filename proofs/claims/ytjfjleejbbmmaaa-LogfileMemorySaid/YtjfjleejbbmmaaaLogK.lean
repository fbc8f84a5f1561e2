/- The scanner and the document's reading, side by side. -/
import Derived.Test.YtjfjleejbbmmaaaLogG
set_option linter.unusedVariables false
set_option linter.unusedSimpArgs false
namespace Go.Proofs.Ytjfjleejbbmmaaa
open Go
set_option maxRecDepth 20000
set_option maxHeartbeats 2000000
attribute [local irreducible] WX WC WQ Val VCall
theorem miss_data {D : Dsc} {q : Nat} : (D.miss q).2.data = D.data ∧ (D.miss q).2.ended = D.ended := by unfold Dsc.miss; split <;> exact ⟨rfl, rfl⟩
theorem footer_data (D : Dsc) : D.footer.2.data = D.data ∧ D.footer.2.ended = D.ended := by
  unfold Dsc.footer
  split
  · split
    · exact miss_data
    · exact ⟨rfl, rfl⟩
  · split
    · exact ⟨rfl, rfl⟩
    · split <;> exact ⟨rfl, rfl⟩
theorem entry_data (D : Dsc) : D.entry.2.data = D.data ∧ D.entry.2.ended = D.ended := by
  unfold Dsc.entry
  split
  · split
    · exact miss_data
    · exact ⟨rfl, rfl⟩
  · split
    · exact footer_data D
    · split
      · exact ⟨rfl, rfl⟩
      · split
        · exact miss_data
        · dsimp only
          split <;> exact ⟨rfl, rfl⟩
theorem next_data (D : Dsc) : D.next.2.data = D.data ∧ D.next.2.ended = D.ended := by
  unfold Dsc.next
  split
  · exact ⟨rfl, rfl⟩
  · split
    · split
      · exact miss_data
      · exact ⟨rfl, rfl⟩
      · exact entry_data _
    · split
      · split <;> exact ⟨rfl, rfl⟩
      · exact entry_data _
theorem number_rest (S : Scn) (p : Nat) (m : Int) : (S.number p m).2.rest = S.rest := by
  unfold Scn.number
  split
  · rfl
  · split
    · exact short_rest
    · rfl
theorem foot_rest (S : Scn) (p : Nat) : (S.foot p).2.rest.length ≤ S.rest.length := by
  have hr := number_rest S p 4096
  unfold Scn.foot
  split
  · rename_i e
    rw [e] at hr
    dsimp only at hr ⊢
    rw [hr]
    exact Nat.le_refl _
  · split
    · exact Nat.le_refl _
    · split
      · show (S.rest.drop _).length ≤ _
        rw [List.length_drop]; omega
      · show (S.rest.drop _).length ≤ _
        rw [List.length_drop]; omega
theorem entry_rest (S : Scn) : S.entry.2.rest.length ≤ S.rest.length := by
  have hr := number_rest S 0 512
  unfold Scn.entry
  split
  · rename_i e
    rw [e] at hr
    dsimp only at hr ⊢
    rw [hr]
    exact Nat.le_refl _
  · split
    · exact foot_rest S _
    · split
      · exact Nat.le_refl _
      · split
        · exact Nat.le_of_eq (congrArg List.length short_rest)
        · dsimp only
          split
          · exact Nat.le_refl _
          · show (S.rest.drop _).length ≤ _
            rw [List.length_drop]; omega
theorem next_rest (S : Scn) : S.next.2.rest.length ≤ S.rest.length := by
  unfold Scn.next
  split
  · exact Nat.le_refl _
  · split
    · rcases head_cases S with ⟨e, h4⟩ | ⟨e, S', e1, h4⟩
      · rw [e]
        dsimp only
        refine Nat.le_trans (entry_rest _) ?_
        show (S.rest.drop 4).length ≤ _
        rw [List.length_drop]; omega
      · rw [e1]
        dsimp only
        rw [h4]
        exact Nat.le_refl _
    · split
      · exact entry_rest S
      · split <;> exact Nat.le_refl _
theorem keeps_foot {S : Scn} {D : Dsc} (h : Keeps S D) (hf : D.fault = 0) (hp : D.place = 0) : D.foot = false := by
  obtain ⟨b1, b2, b3, b4⟩ := h.rest (by rw [h.fault]; exact hf)
  cases hfo : D.foot with
  | false => rfl
  | true =>
    have := h.foot.2 hfo
    have := b4.2 hp
    omega
theorem next_place {D : Dsc} (hf : D.fault = 0) (hp : D.place ≤ D.data.length) (hc : D.count ≤ 4096) (hfp : D.place = 0 → D.foot = false) : D.next.2.place ≤ D.data.length := by
  by_cases he : D.next.1.2.2 = 0
  · cases hn : D.next.1.2.1 with
    | true => exact (next_ok hf hp hc hn).2.2.2.2.1
    | false =>
      cases hen : D.ended with
      | false => exact (next_wait hen hf hp hfp hn he).le
      | true => exact Nat.le_of_eq (next_fin hen hf hp hc hfp hn he).2.1
  · exact next_bad hf hp hc he
/-- both under way together -/
structure Both (S : Scn) (D : Dsc) : Prop where
  keeps : Keeps S D
  place : D.place ≤ D.data.length
  rest : S.rest.length ≤ D.data.length
theorem both_new : Both Scn.new Dsc.new := ⟨new_rel, Nat.le_refl _, Nat.le_refl _⟩
theorem Both.feed {S : Scn} {D : Dsc} (h : Both S D) (l : List UInt8) : Both (S.feed l) (D.feed l) := by
  have h1 := h.place
  have h2 := h.rest
  refine ⟨feed_rel h.keeps l, ?_, ?_⟩
  · unfold Dsc.feed
    split
    · exact h1
    · show D.place ≤ (D.data ++ l).length
      rw [List.length_append]; omega
  · unfold Scn.feed Dsc.feed
    rw [h.keeps.ended]
    split
    · exact h2
    · show _ ≤ (D.data ++ l).length
      rw [List.length_append]
      split
      · show (S.rest ++ l).length ≤ _
        rw [List.length_append]; omega
      · omega
theorem Both.stop {S : Scn} {D : Dsc} (h : Both S D) : Both { S with ended := true } { D with ended := true } := ⟨end_rel h.keeps, h.place, h.rest⟩
theorem Both.next {S : Scn} {D : Dsc} (h : Both S D) : S.next.1 = D.next.1 ∧ Both S.next.2 D.next.2 := by
  obtain ⟨n1, n2⟩ := next_rel h.keeps
  refine ⟨n1, n2, ?_, ?_⟩
  · rw [(next_data D).1]
    by_cases hf : D.fault = 0
    · exact next_place hf h.place h.keeps.le (keeps_foot h.keeps hf)
    · unfold Dsc.next
      rw [if_pos hf]
      exact h.place
  · rw [(next_data D).1]
    exact Nat.le_trans (next_rest S) h.rest
theorem Both.done {S : Scn} {D : Dsc} (h : Both S D) : S.done = D.done := by
  unfold Scn.done Dsc.done
  rw [h.keeps.ended, h.keeps.fault]
  by_cases hf : D.fault = 0
  · obtain ⟨b1, b2, b3, b4⟩ := h.keeps.rest (by rw [h.keeps.fault]; exact hf)
    have e1 : decide ((S.state : Int) = 2) = D.foot := by
      cases hfo : D.foot with
      | true => exact decide_eq_true (by have := h.keeps.foot.2 hfo; omega)
      | false => exact decide_eq_false (fun e => by have := h.keeps.foot.1 (by omega); rw [hfo] at this; cases this)
    have e2 : decide ((S.rest.length : Int) = 0) = decide ((D.place : Int) = D.data.length) := by
      have hl : S.rest.length = D.data.length - D.place := by rw [b2, List.length_drop]
      by_cases hz : D.place = D.data.length
      · rw [decide_eq_true (by omega), decide_eq_true (by omega)]
      · rw [decide_eq_false (by omega), decide_eq_false (by omega)]
    rw [e1, e2]
  · rw [decide_eq_false hf, Bool.and_false, Bool.and_false]
section tells
variable {g gr c cr : Nat} {A B : Option Addr} {S : Scn} {D : Dsc}
theorem tells_spec (h : Both S D) (w : World) (ho : Own w [scB g A c S, dcB gr B cr D]) :
    Calls Try.prog 31 #[.pointer (some ⟨g, 0, none⟩), .pointer (some ⟨gr, 0, none⟩)] w (Ret (β := Unit) w (ids [scB g A c S, dcB gr B cr D]) (fun _ => .bool true) (fun _ => [scB g A c S, dcB gr B cr D]) (fun _ => True)) := by
  refine go [.pointer (some ⟨g, 0, none⟩), .pointer (some ⟨gr, 0, none⟩)] [scB g A c S, dcB gr B cr D] Try.func31 Try.ntmps31 rfl rfl ho ?_
  have hk := h.keeps
  repeat (first | (apply wx_val; (first | exact v_assign rfl); rfl) | refine wc_seq ?_ | refine wc_region ?_ | refine wx_nil ?_ | refine wq_next ?_)
  refine wc_heldX [] [scB g A c S, dcB gr B cr D] rfl (by (repeat (first | exact panicNot_D3 rfl | with_reducible exact panicNot_of panicOk_body | with_reducible apply panicNot_block | with_reducible apply panicNot_then))) (fun hQd => ?_)
  (apply wh_takeX 0; (first | exact fun _ h => h | exact fun _ h => res_takes h); exact hQd; rfl; rfl; exact v_move rfl; decide +kernel; decide +kernel; decide +kernel; rfl)
  (apply wh_takeX 2; (first | exact fun _ h => h | exact fun _ h => res_takes h); exact hQd; rfl; rfl; exact v_move rfl; decide +kernel; decide +kernel; decide +kernel; rfl)
  (apply wh_takeX 3; (first | exact fun _ h => h | exact fun _ h => res_takes h); exact hQd; rfl; rfl; exact v_nil rfl; decide +kernel; decide +kernel; decide +kernel; rfl)
  (apply wh_takeX 4; (first | exact fun _ h => h | exact fun _ h => res_takes h); exact hQd; rfl; rfl; exact v_faddr rfl rfl; decide +kernel; decide +kernel; decide +kernel; rfl)
  (apply wh_takeX 5; (first | exact fun _ h => h); exact hQd; rfl; rfl; (first | exact v_ldT rfl rfl rfl (by rfl)); decide +kernel; decide +kernel; decide +kernel; rfl)
  refine wh_eff 1 rfl (by decide +kernel) ?_
  refine wl_callT (fun w' hr ho => scOffset_spec (A := A) (c := c) (S := S) w' ho) rfl rfl rfl ?_
  rintro - -
  refine wx_cat ?_
  rw [hk.place]
  (try refine wx_nil ?_)
  refine wq_held (by (first | exact fun _ h => h | exact fun _ h => res_takes h)) ?_
  (apply wh_takeX 6; (first | exact fun _ h => h); exact hQd; rfl; rfl; (first | exact v_eq rfl rfl); decide +kernel; decide +kernel; decide +kernel; rfl)
  (apply wh_takeX 7; (first | exact fun _ h => h | exact fun _ h => res_takes h); exact hQd; rfl; rfl; exact v_move rfl; decide +kernel; decide +kernel; decide +kernel; rfl)
  refine wh_yes 12 rfl (decide_eq_true rfl) ?_
  (first | (apply wh_takegX 8; (first | exact fun _ h => h); exact hQd; rfl; rfl; rfl; rfl; exact v_move rfl; decide +kernel; decide +kernel; decide +kernel; rfl))
  (first | (apply wh_takegX 10; (first | exact fun _ h => h); exact hQd; rfl; rfl; rfl; rfl; exact v_move rfl; decide +kernel; decide +kernel; decide +kernel; rfl))
  (first | (apply wh_takegX 11; (first | exact fun _ h => h); exact hQd; rfl; rfl; rfl; rfl; exact v_nil rfl; decide +kernel; decide +kernel; decide +kernel; rfl))
  (first | (apply wh_takegX 12; (first | exact fun _ h => h); exact hQd; rfl; rfl; rfl; rfl; exact v_faddr rfl rfl; decide +kernel; decide +kernel; decide +kernel; rfl))
  (first | (apply wh_takegX 13; (first | exact fun _ h => h); exact hQd; rfl; rfl; rfl; rfl; (first | exact v_ldT rfl rfl rfl (by rfl)); decide +kernel; decide +kernel; decide +kernel; rfl))
  refine wh_eff 9 rfl (by decide +kernel) ?_
  refine wx_ungd rfl rfl ?_
  refine wl_callT (fun w' hr ho => scCount_spec (A := A) (c := c) (S := S) w' ho) rfl rfl rfl ?_
  rintro - -
  refine wx_cat ?_
  rw [hk.count]
  (try refine wx_nil ?_)
  refine wq_held (by (first | exact fun _ h => h | exact fun _ h => res_takes h)) ?_
  (first | (apply wh_takegX 14; (first | exact fun _ h => h); exact hQd; rfl; rfl; rfl; rfl; (first | exact v_eq rfl rfl); decide +kernel; decide +kernel; decide +kernel; rfl))
  (apply wh_takeX 15; (first | exact fun _ h => h | exact fun _ h => res_takes h); exact hQd; rfl; rfl; (first | exact v_pickT rfl rfl | exact v_pickF rfl rfl | exact v_pick rfl rfl rfl); decide +kernel; decide +kernel; decide +kernel; rfl)
  (apply wh_takeX 16; (first | exact fun _ h => h | exact fun _ h => res_takes h); exact hQd; rfl; rfl; exact v_move rfl; decide +kernel; decide +kernel; decide +kernel; rfl)
  refine wh_yes 21 rfl (decide_eq_true rfl) ?_
  (first | (apply wh_takegX 17; (first | exact fun _ h => h); exact hQd; rfl; rfl; rfl; rfl; exact v_move rfl; decide +kernel; decide +kernel; decide +kernel; rfl))
  (first | (apply wh_takegX 19; (first | exact fun _ h => h); exact hQd; rfl; rfl; rfl; rfl; exact v_move rfl; decide +kernel; decide +kernel; decide +kernel; rfl))
  refine wh_eff 18 rfl (by decide +kernel) ?_
  refine wx_ungd rfl rfl ?_
  refine wl_callT (fun w' hr ho => scFinished_spec (A := A) (c := c) (S := S) w' ho) rfl rfl rfl ?_
  rintro - -
  refine wx_cat ?_
  rw [h.done]
  (try refine wx_nil ?_)
  refine wq_held (by (first | exact fun _ h => h | exact fun _ h => res_takes h)) ?_
  refine wh_eff 20 rfl (by decide +kernel) ?_
  refine wx_ungd rfl rfl ?_
  refine wl_callT (fun w' hr ho => dcFinished_spec (A := B) (c := cr) (D := D) w' ho) rfl rfl rfl ?_
  rintro - -
  refine wx_cat ?_
  (try refine wx_nil ?_)
  refine wq_held (by (first | exact fun _ h => h | exact fun _ h => res_takes h)) ?_
  (first | (apply wh_takegX 21; (first | exact fun _ h => res_takes h); exact hQd; rfl; rfl; rfl; rfl; (first | exact v_beq rfl rfl rfl); decide +kernel; decide +kernel; decide +kernel; rfl))
  (apply wh_takeX 22; (first | exact fun _ h => h | exact fun _ h => res_takes h); exact hQd; rfl; rfl; (first | exact v_pickT rfl rfl | exact v_pickF rfl rfl | exact v_pick rfl rfl rfl); decide +kernel; decide +kernel; decide +kernel; rfl)
  (apply wh_takeX 23; (first | exact fun _ h => h | exact fun _ h => res_takes h); exact hQd; rfl; rfl; exact v_assign rfl; decide +kernel; decide +kernel; decide +kernel; rfl)
  refine wh_done (by decide +kernel) ?_
  repeat (first | refine wq_next ?_ | refine wc_ret ?_)
  exact wq_ret1T () rfl (bool_val (by simp)) trivial rfl
end tells
end Go.Proofs.Ytjfjleejbbmmaaa
