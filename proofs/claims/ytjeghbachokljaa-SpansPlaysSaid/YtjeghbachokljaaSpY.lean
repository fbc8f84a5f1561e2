/- Drop. -/
import Derived.Test.YtjeghbachokljaaSpX
set_option linter.unusedVariables false
set_option linter.unusedSimpArgs false
namespace Go.Proofs.Ytjeghbachokljaa
open Go
set_option maxRecDepth 20000
set_option maxHeartbeats 2000000
attribute [local irreducible] WX WC WQ Val VCall WY WR
/-- what was gathered of a key -/
structure Gn where
  k : ByteArray
  A : Option Addr
  c : Nat
  l : List Sp
def Gn.v (d : Gn) : Value := .slice d.A d.l.length d.c
def GIn (ds : List Gn) (S : Seg) : Prop := ∀ d ∈ ds, ∃ E : Seg, (∀ p ∈ E, p ∈ S) ∧ SpL d.l d.A d.l.length d.c E
theorem GIn.add {ds : List Gn} {S E : Seg} (h : GIn ds S) {d : Gn} (hd : SpL d.l d.A d.l.length d.c E) : GIn (ds ++ [d]) (S ++ E) := fun x hx => by
  rcases List.mem_append.1 hx with hx | hx
  · obtain ⟨E', h1, h2⟩ := h x hx
    exact ⟨E', fun p hp => List.mem_append.2 (.inl (h1 p hp)), h2⟩
  · rw [List.mem_singleton.1 hx]
    exact ⟨E, fun p hp => List.mem_append.2 (.inr hp), hd⟩
/-- what the first loop keeps -/
structure L1 (fl : Int) (A : Ks) (L D : TE ByteArray) (G : TE ByteArray) (gc : Nat) (ds : List Gn) (S : Seg) (n : Nat) : Prop where
  sub : ∀ e ∈ D, e ∈ L
  nd : D.Nodup
  keys : ds.map Gn.k = D.map (·.1)
  ls : ∀ d ∈ ds, d.l = endK fl d.k A
  gin : GIn ds S
  gs : G.map (fun e => (e.1, e.2.1)) = ds.map (fun d => (d.k, d.v))
  ok : MapOk G gc
  n : n = (ds.map (fun d => d.l.length)).sum
theorem L1.kn {fl : Int} {A : Ks} {L D G : TE ByteArray} {gc n clk : Nat} {ds : List Gn} {S : Seg} (h : L1 fl A L D G gc ds S n) (hL : MapOk L clk) : (D.map (·.1)).Nodup := by
  have h1 := h.sub
  have h2 := h.nd
  clear h
  induction D with
  | nil => exact List.nodup_nil
  | cons x r ih =>
    obtain ⟨a1, a2⟩ := List.nodup_cons.1 h2
    rw [List.map_cons, List.nodup_cons]
    refine ⟨fun hm => ?_, ih (fun e he => h1 e (List.mem_cons_of_mem _ he)) a2⟩
    obtain ⟨y, hy, e⟩ := List.mem_map.1 hm
    have := keys_inj hL.keys (h1 y (List.mem_cons_of_mem _ hy)) (h1 x (List.mem_cons_self ..)) e
    exact a1 (this ▸ hy)
theorem L1.cnt {fl : Int} {A : Ks} {L D G : TE ByteArray} {gc n clk : Nat} {ds : List Gn} {S : Seg} (h : L1 fl A L D G gc ds S n) (hL : MapOk L clk) : n = (A.filter (fun x => decide (x.2.b ≤ fl) && inK (D.map (·.1)) x.1)).length := by
  rw [h.n, ← sum_end fl (h.kn hL), ← h.keys, List.map_map]
  congr 1
  refine List.map_congr_left fun d hd => ?_
  show d.l.length = (endK fl d.k A).length
  rw [h.ls d hd]
theorem L1.add {fl : Int} {A : Ks} {L D G : TE ByteArray} {gc n clk : Nat} {ds : List Gn} {S E : Seg} (h : L1 fl A L D G gc ds S n) (hL : MapOk L clk) {e : ByteArray × Value × Nat} (he : e ∈ L) (hne : e ∉ D) {d : Gn} (hk : d.k = e.1) (hl : d.l = endK fl d.k A) (hd : SpL d.l d.A d.l.length d.c E) :
    L1 fl A L (D ++ [e]) (aput e.1 d.v G gc) (aclk e.1 G gc) (ds ++ [d]) (S ++ E) (n + d.l.length) := by
  have hno : aget e.1 G = none := aget_none fun x hx hxe => by
    have h1 : (x.1, x.2.1) ∈ ds.map (fun d => (d.k, d.v)) := by rw [← h.gs]; exact List.mem_map.2 ⟨x, hx, rfl⟩
    obtain ⟨d', hd', e2⟩ := List.mem_map.1 h1
    have h2 : d'.k ∈ D.map (·.1) := by rw [← h.keys]; exact List.mem_map.2 ⟨d', hd', rfl⟩
    obtain ⟨y, hy, e3⟩ := List.mem_map.1 h2
    have e4 : y.1 = e.1 := by
      rw [← hxe]
      exact e3.trans (congrArg Prod.fst e2)
    have := keys_inj hL.keys (h.sub y hy) he e4
    exact hne (this ▸ hy)
  refine ⟨fun x hx => ?_, ?_, ?_, fun x hx => ?_, h.gin.add hd, ?_, h.ok.put _ _, ?_⟩
  · rcases List.mem_append.1 hx with hx | hx
    · exact h.sub x hx
    · rw [List.mem_singleton.1 hx]; exact he
  · refine List.nodup_append.2 ⟨h.nd, by simp, fun a ha b hb e2 => ?_⟩
    rw [List.mem_singleton.1 hb] at e2
    exact hne (e2 ▸ ha)
  · rw [List.map_append, List.map_append, h.keys]
    simp [hk]
  · rcases List.mem_append.1 hx with hx | hx
    · exact h.ls x hx
    · rw [List.mem_singleton.1 hx]; exact hl
  · unfold aput
    rw [hno, if_neg (by decide), List.map_append, List.map_append, h.gs]
    simp [hk]
  · rw [List.map_append, List.sum_append, h.n]
    simp
theorem Drop_law {m g : Nat} {A : Ks} {q : Fo} (fl : Int) (h : FoOk m A q) (hR : ∀ x ∈ A, x.2.a ≤ x.2.b) (hm : m ≤ 900000000000) (w : World) (ho : Own w [q.seg g A.length]) :
    Calls Try.prog 22 #[.pointer (some ⟨g, 0, none⟩), .int .i64 fl] w (Ret (β := Fo) w (ids [q.seg g A.length]) (fun _ => .int .i64 ((A.filter (fun x => decide (x.2.b ≤ fl))).length : Nat)) (fun q' => [q'.seg g (A.filter (fun x => decide (fl < x.2.b))).length]) (fun q' => FoOk m (A.filter (fun x => decide (fl < x.2.b))) q')) := by
  refine go [.pointer (some ⟨g, 0, none⟩), .int .i64 fl] [q.seg g A.length] Try.func22 Try.ntmps22 rfl rfl ho ?_
  have hls := h.lens
  have hend : ∀ k, gatT fl (q.T k) = endK fl k A := fun k => by
    rw [gatT_eq fl (h.srt k) (fun x hx => ?_), h.cont]
    · rfl
    · rw [h.cont] at hx
      exact hR _ (mem_ofK.1 hx)
  have hkeys : ∀ x ∈ A, x.1 ∈ q.L.map (·.1) := fun x hx => by
    have h1 := h.root x.1
    cases ha : aget x.1 q.L with
    | some v =>
      unfold aget at ha
      cases hf : q.L.find? (fun e => decide (x.1 = e.1)) with
      | none => rw [hf] at ha; cases ha
      | some e =>
        have := List.find?_some hf
        exact List.mem_map.2 ⟨e, List.mem_of_find?_eq_some hf, (of_decide_eq_true this).symm⟩
    | none =>
      unfold RootAt at h1
      rw [ha] at h1
      injection h1 with _ h1
      have h2 := ix_zero (h.at_ x.1) (by simpa using h1.symm)
      have h3 := h.cont x.1
      rw [h2] at h3
      have := mem_ofK.2 (show (x.1, x.2) ∈ A from hx)
      rw [← h3] at this
      cases this
  refine wc_flat (N := [fsB g q.y q.N.length q.sp.length A.length, q.E, mpB q.y.m q.L q.clk, q.Es]) seg_perm3 ?_
  repeat (first | (apply wx_val; (first | exact v_assign rfl); rfl) | refine wc_seq ?_ | refine wc_region ?_ | refine wx_nil ?_ | refine wq_next ?_)
  refine wl_makeMap rfl (fun gm => ?_)
  refine wx_mem (M' := [mpB gm [] 0, fsB g q.y q.N.length q.sp.length A.length, q.E, mpB q.y.m q.L q.clk, q.Es]) (by kernel_rfl) ?_
  repeat (first | (apply wx_val; (first | exact v_move rfl | exact v_assign rfl | exact v_nil rfl | exact v_faddr rfl rfl | exact v_ldT rfl rfl rfl (by rfl)); rfl) | refine wc_seq ?_ | refine wc_region ?_ | refine wx_nil ?_ | refine wq_next ?_)
  refine wl_range (clk := q.clk) (L := q.L) rfl rfl rfl (fun r => ?_)
  refine wx_seg ?_
  repeat (first | refine wx_nil ?_ | refine wq_next ?_ | refine wc_block ?_)
  refine wc_loopK (ι := TE ByteArray × TE ByteArray × Nat × List Gn × Seg × Nat) [0, 1, 5, 18] (fun z => [(6, .int .i64 (z.2.2.2.2.2 : Nat))]) (fun z => [z.2.2.2.2.1, itB r q.y.m q.clk z.1, mpB gm z.2.1 z.2.2.1]) (fun z => L1 fl A q.L z.1 z.2.1 z.2.2.1 z.2.2.2.1 z.2.2.2.2.1 z.2.2.2.2.2) (fun z => q.L.length - z.1.length) (([], [], 0, [], [], 0)) rfl ?_ (by repeat (first | exact trivial | refine ⟨rfl, ?_⟩)) ?_
  · exact ⟨fun e he => (by cases he), List.nodup_nil, rfl, fun d hd => (by cases hd), fun d hd => (by cases hd), rfl, MapOk.nil 0, rfl⟩
  rintro ⟨D, G, gc, ds, S, n⟩ hz
  try dsimp only
  refine wc_fcat ?_
  refine wc_cat ?_
  dsimp only at hz
  repeat (first | refine wc_seq ?_ | refine wc_region ?_)
  refine wl_next (r := r) (g := q.y.m) (D := D) (L := q.L) (clk := q.clk) h.mok hz.sub rfl rfl (fun h0 => ?_) (fun e he hne => ?_)
  rotate_left
  · obtain ⟨ek, ev, es⟩ := e
    have hroot := h.root ek
    unfold RootAt at hroot
    rw [aget_mem h.mok he] at hroot
    have hroot : ev = .int .i64 ((q.T ek).ix : Nat) := hroot
    subst hroot
    have hge := hend ek
    have hsz := hls.2.2 ek
    have hgl := gatT_len fl (q.T ek)
    have hcn := hz.cnt h.mok
    have hfl : (A.filter (fun x => decide (x.2.b ≤ fl) && inK (D.map (·.1)) x.1)).length ≤ A.length := List.length_filter_le _ _
    have c1 := fun w' ho => gather_spec (g := g) (y := q.y) (cnt := (A.length : Nat)) (k := q.sp.length) fl h.fs.ar h.fs.inb (q.T ek) (O := []) (A := none) (c := 0) (Eo := []) (h.at_ ek) (by simp only [List.length_nil]; omega) (Buf.nil _ _) w' ho
    rw [List.nil_append, hge] at c1
    rw [hge] at hgl
    repeat (first | (apply wx_val; (first | exact v_extract rfl rfl); rfl) | refine wc_seq ?_ | refine wc_region ?_ | refine wx_nil ?_ | refine wq_next ?_ | refine wc_block ?_ | refine wc_skip ?_ | refine wc_condT rfl ?_)
    (try refine wx_ungd rfl rfl ?_)
    apply wx_val
    exact v_entry (r := r) (g := q.y.m) (D := D) (L := q.L) (clk := q.clk) (e := (ek, .int .i64 ((q.T ek).ix : Nat), es)) h.mok he rfl
    rfl
    repeat (first | (apply wx_val; (first | exact v_move rfl | exact v_assign rfl | exact v_extract rfl rfl); rfl) | refine wc_seq ?_ | refine wc_region ?_ | refine wx_nil ?_ | refine wq_next ?_)
    refine wx_seg ?_
    refine wl_callT (fun w' hr ho => c1 w' ho) rfl rfl rfl ?_
    rintro ⟨A29, c29, E29⟩ hb
    dsimp only at hb ⊢
    refine wx_cat ?_
    have hadd := hz.add (d := ⟨ek, A29, c29, endK fl ek A⟩) h.mok he hne rfl rfl hb
    skip
    refine wl_mputT (clk := gc) (L := G) rfl hz.ok rfl rfl rfl rfl ?_
    repeat (first | (apply wx_val; (first | exact v_move rfl); rfl) | refine wc_region ?_ | refine wx_nil ?_ | refine wq_next ?_)
    (try refine wx_ungd rfl rfl ?_)
    apply wx_val
    exact v_agetT (clk := aclk ek G gc) (L := aput ek (.slice A29 (endK fl ek A).length c29) G gc) (v := .slice A29 (endK fl ek A).length c29) (by rw [aget_put, if_pos rfl]; rfl) rfl rfl rfl rfl rfl
    rfl
    repeat (first | (apply wx_val; (first | exact v_assign rfl | exact v_len rfl rfl | exact v_addi rfl rfl (by omega)); rfl) | refine wx_nil ?_ | refine wq_block ?_)
    refine wq_join S E29 ?_
    have hlt : D.length < q.L.length := by
      have h1 := hadd.nd
      have h2 := len_sub h1 hadd.sub
      rw [List.length_append] at h2
      simp only [List.length_singleton] at h2
      omega
    refine wq_roundK ((D ++ [(ek, .int .i64 ((q.T ek).ix : Nat), es)], aput ek (.slice A29 (endK fl ek A).length c29) G gc, aclk ek G gc, ds ++ [⟨ek, A29, c29, endK fl ek A⟩], S ++ E29, n + (endK fl ek A).length)) ?_ ?_ (by repeat (first | exact trivial | refine ⟨rfl, ?_⟩)) (by first | exact catEq | exact rfl)
    · exact hadd
    · show q.L.length - (D ++ [_]).length < q.L.length - D.length
      rw [List.length_append]
      simp only [List.length_singleton]
      omega
  have hn : n = (A.filter (fun x => decide (x.2.b ≤ fl))).length := by
    rw [hz.cnt h.mok]
    congr 1
    refine List.filter_congr fun x hx => ?_
    obtain ⟨e, he, hek⟩ := List.mem_map.1 (hkeys x hx)
    rw [inK_iff.2 (List.mem_map.2 ⟨e, h0 e he, hek⟩), Bool.and_true]
  rw [← hn]
  have hK : ∀ x ∈ A, x.1 ∈ G.map (·.1) := fun x hx => by
    obtain ⟨e, he, hek⟩ := List.mem_map.1 (hkeys x hx)
    have h1 : x.1 ∈ ds.map Gn.k := by rw [hz.keys]; exact List.mem_map.2 ⟨e, h0 e he, hek⟩
    obtain ⟨d, hd, hdk⟩ := List.mem_map.1 h1
    have h2 : (d.k, d.v) ∈ G.map (fun e => (e.1, e.2.1)) := by rw [hz.gs]; exact List.mem_map.2 ⟨d, hd, rfl⟩
    obtain ⟨e2, he2, hek2⟩ := List.mem_map.1 h2
    exact List.mem_map.2 ⟨e2, he2, (congrArg Prod.fst hek2).trans hdk⟩
  have hG : ∀ e ∈ G, ∃ d ∈ ds, d.k = e.1 ∧ e.2.1 = d.v := fun e he => by
    have h2 : (e.1, e.2.1) ∈ ds.map (fun d => (d.k, d.v)) := by rw [← hz.gs]; exact List.mem_map.2 ⟨e, he, rfl⟩
    obtain ⟨d, hd, hdk⟩ := List.mem_map.1 h2
    exact ⟨d, hd, congrArg Prod.fst hdk, (congrArg Prod.snd hdk).symm⟩
  have hok := hz.ok
  have hgin := hz.gin
  have hdl := hz.ls
  clear hz h0 hkeys hend
  repeat (first | (apply wx_val; (first | exact v_move rfl | exact v_extract rfl rfl); rfl) | refine wc_seq ?_ | refine wc_region ?_ | refine wx_nil ?_ | refine wq_next ?_ | refine wc_exit ?_ | refine wq_then_exit ?_ | refine wq_block_exit rfl ?_ | refine wc_condF rfl ?_)
  refine wx_only [fsB g q.y q.N.length q.sp.length A.length, q.E, mpB q.y.m q.L q.clk, q.Es, S, mpB gm G gc] ?_
  refine wx_flat (N := [q.seg g A.length, S, mpB gm G gc]) (by
    show ([fsB g q.y q.N.length q.sp.length A.length, q.E, mpB q.y.m q.L q.clk] ++ [q.Es] ++ [S, mpB gm G gc]).flatten.Perm ([q.seg g A.length] ++ [S, mpB gm G gc]).flatten
    rw [List.flatten_append, List.flatten_append (L₁ := [q.seg g A.length])]
    exact seg_perm3.symm.append_right _) ?_
  refine wl_range (clk := gc) (L := G) rfl rfl rfl (fun r2 => ?_)
  rw [← keep_none fl A] at h
  refine wx_mem (M' := [itB r2 gm gc [], q.seg g (A.filter (keepP fl (([] : TE ByteArray).map (·.1)))).length, S, mpB gm G gc]) (by rw [List.map_nil, keep_none]) ?_
  repeat (first | refine wx_nil ?_ | refine wq_next ?_ | refine wc_block ?_)
  refine wc_loopK (ι := TE ByteArray × Fo) [0, 6, 37] (fun z => []) (fun z => [itB r2 gm gc z.1, z.2.seg g (A.filter (keepP fl (z.1.map (·.1)))).length]) (fun z => (∀ e ∈ z.1, e ∈ G) ∧ z.1.Nodup ∧ FoOk m (A.filter (keepP fl (z.1.map (·.1)))) z.2) (fun z => G.length - z.1.length) (([], q)) rfl ?_ (by repeat (first | exact trivial)) ?_
  · exact ⟨fun e he => (by cases he), List.nodup_nil, h⟩
  have hAm := hls.1
  clear h hls
  rintro ⟨D, q1⟩ ⟨z1, z2, h⟩
  try dsimp only
  refine wc_fcat ?_
  refine wc_cat ?_
  dsimp only at z1 z2 h
  repeat (first | refine wc_seq ?_ | refine wc_region ?_)
  refine wl_next (r := r2) (g := gm) (D := D) (L := G) (clk := gc) hok z1 rfl rfl (fun h0 => ?_) (fun e he hne => ?_)
  · have hK2 : ∀ x ∈ A, x.1 ∈ D.map (·.1) := fun x hx => by
      obtain ⟨e, he, hek⟩ := List.mem_map.1 (hK x hx)
      exact List.mem_map.2 ⟨e, h0 e he, hek⟩
    rw [keep_all hK2] at h
    refine wx_mem (M' := [itB r2 gm gc D, q1.seg g (A.filter (fun x => decide (fl < x.2.b))).length, S, mpB gm G gc]) (by rw [keep_all hK2]) ?_
    repeat (first | (apply wx_val; (first | exact v_move rfl | exact v_assign rfl | exact v_extract rfl rfl); rfl) | refine wc_seq ?_ | refine wc_region ?_ | refine wx_nil ?_ | refine wq_next ?_ | refine wc_ret ?_ | refine wc_exit ?_ | refine wq_then_exit ?_ | refine wq_block_exit rfl ?_ | refine wc_condF rfl ?_)
    exact wq_ret1T q1 rfl rfl h rfl
  · obtain ⟨d, hd, hdk, hdv⟩ := hG e he
    obtain ⟨ek, ev, es⟩ := e
    dsimp only at hdk hdv
    subst hdk hdv
    have hl := hdl d hd
    obtain ⟨E, hE, hb⟩ := hgin d hd
    have hks := keep_step fl (D.map (·.1)) d.k A
    rw [← hl] at hks
    have hll : d.l.length ≤ A.length := by
      rw [hl]
      exact Nat.le_trans (List.length_filter_le _ _) (ofK_len _ _)
    repeat (first | (apply wx_val; (first | exact v_extract rfl rfl); rfl) | refine wc_seq ?_ | refine wc_region ?_ | refine wx_nil ?_ | refine wq_next ?_ | refine wc_block ?_ | refine wc_skip ?_ | refine wc_condT rfl ?_)
    (try refine wx_ungd rfl rfl ?_)
    apply wx_val
    exact v_entry (r := r2) (g := gm) (D := D) (L := G) (clk := gc) (e := (d.k, d.v, es)) hok he rfl
    rfl
    unfold Gn.v
    repeat (first | (apply wx_val; (first | exact v_move rfl | exact v_assign rfl | exact v_extract rfl rfl | exact v_len rfl rfl); rfl) | refine wc_seq ?_ | refine wc_region ?_ | refine wx_nil ?_ | refine wq_next ?_ | refine wc_block ?_)
    generalize A.filter (keepP fl (D.map (·.1))) = B at *
    refine wc_mem (M' := [itB r2 gm gc (D ++ [(d.k, .slice d.A d.l.length d.c, es)]), q1.seg g (delK d.k (d.l.take 0) B).length, S, mpB gm G gc]) rfl ?_
    refine wc_loopK (ι := Nat × Fo) [0, 6, 9, 37, 43, 44] (fun z => [(45, .int .i64 (z.1 : Nat))]) (fun z => [z.2.seg g (delK d.k (d.l.take z.1) B).length]) (fun z => z.1 ≤ d.l.length ∧ FoOk m (delK d.k (d.l.take z.1) B) z.2) (fun z => d.l.length - z.1) ((0, q1)) rfl ?_ (by repeat (first | exact trivial | refine ⟨rfl, ?_⟩)) ?_
    · exact ⟨by omega, h⟩
    clear h
    rintro ⟨p, q2⟩ ⟨y1, h⟩
    try dsimp only
    refine wc_fcat ?_
    refine wc_cat ?_
    dsimp only at y1 h
    repeat (first | (apply wx_val; (first | exact v_lt rfl rfl); rfl) | refine wc_seq ?_ | refine wc_region ?_ | refine wx_nil ?_ | refine wq_next ?_)
    refine wc_if rfl (fun hd2 => ?_) (fun hd2 => ?_)
    · obtain ⟨s, hs⟩ : ∃ s, d.l[p]? = some s := ⟨d.l[p], List.getElem?_eq_getElem (by omega)⟩
      obtain ⟨gA, hA⟩ := hb.ptr (by omega)
      have c1 := fun w' ho => Remove_law (g := g) d.k s h hm w' ho
      have htk : d.l.take (p + 1) = d.l.take p ++ [s] := by rw [List.take_add_one, hs]; rfl
      rw [← delK_snoc, ← htk] at c1
      repeat (first | (apply wx_val; (first | exact v_iaddrE (by assumption) rfl rfl rfl (by omega)); rfl) | refine wc_seq ?_ | refine wc_region ?_ | refine wq_next ?_ | refine wc_block ?_ | refine wc_skip ?_)
      (try refine wx_ungd rfl rfl ?_)
      apply wx_val
      exact v_loadA (cs := s.cells) rfl rfl (fun w' hr j u hj => cellS hb hE hA hr hs hj (by omega))
      rfl
      skip
      refine wl_alloc rfl rfl (fun g12 => ?_)
      repeat (first | (apply wx_val; (first | exact v_move rfl | (first | exact v_ldQ 0 0 rfl rfl rfl rfl rfl)); rfl) | refine wc_region ?_ | refine wx_nil ?_ | refine wq_next ?_ | refine wx_setn ?_ | refine wl_stAT rfl rfl (by rfl) (by rfl) (by exact .inl (Nat.le_refl _)) rfl ?_)
      refine wl_callT (fun w' hr ho => c1 w' ho) rfl rfl rfl ?_
      intro q3 h3
      refine wx_cat ?_
      repeat (first | (apply wx_val; (first | exact v_move rfl | exact v_addi rfl rfl (by omega)); rfl) | refine wc_region ?_ | refine wx_nil ?_ | refine wq_next ?_ | refine wq_block ?_)
      refine wq_roundK ((p + 1, q3)) ?_ ?_ (by repeat (first | exact trivial | refine ⟨rfl, ?_⟩)) (by first | exact catEq | exact rfl)
      · exact ⟨by dsimp only; omega, h3⟩
      · show d.l.length - (p + 1) < d.l.length - p
        omega
    obtain rfl : p = d.l.length := by omega
    have hmp : (D ++ [(d.k, Value.slice d.A d.l.length d.c, es)]).map (·.1) = D.map (·.1) ++ [d.k] := by simp
    rw [List.take_length, hks, ← hmp] at h
    rw [List.take_length, hks, ← hmp]
    have z4 : ∀ e ∈ D ++ [(d.k, Value.slice d.A d.l.length d.c, es)], e ∈ G := fun e he2 => by
      rcases List.mem_append.1 he2 with he2 | he2
      · exact z1 e he2
      · rw [List.mem_singleton.1 he2]; exact he
    have z5 : (D ++ [(d.k, Value.slice d.A d.l.length d.c, es)]).Nodup := List.nodup_append.2 ⟨z2, by simp, fun a ha b hb e2 => by
      rw [List.mem_singleton.1 hb] at e2
      exact hne (e2 ▸ ha)⟩
    have hlt := len_sub z5 z4
    rw [List.length_append] at hlt
    simp only [List.length_singleton] at hlt
    repeat (first | refine wc_exit ?_ | refine wq_then_exit ?_ | refine wq_block ?_ | refine wq_block_exit rfl ?_)
    refine wq_roundK ((D ++ [(d.k, .slice d.A d.l.length d.c, es)], q2)) ?_ ?_ (by repeat (first | exact trivial | refine ⟨rfl, ?_⟩)) (by first | exact catEq | exact rfl)
    · exact ⟨z4, z5, h⟩
    · show G.length - (D ++ [_]).length < G.length - D.length
      rw [List.length_append]
      simp only [List.length_singleton]
      omega
end Go.Proofs.Ytjeghbachokljaa
