/- What is written is read back, and what is read was written in its one form. -/
import Derived.Test.YtjfjleejbbmmaaaRecP
import Derived.Test.YtjfjleejbbmmaaaRecS
set_option linter.unusedVariables false
set_option linter.unusedSimpArgs false
namespace Go.Proofs.Ytjfjleejbbmmaaa
open Go
theorem scanL_app (r : List UInt8) : ∀ (n i acc : Nat), i + (formN n).length ≤ 8 → (0 < i → 0 < n) → scanL i acc (formN n ++ r) = (acc + n * 128 ^ i, i + (formN n).length, 0) := by
  intro n
  induction n using Nat.strongRecOn with
  | _ n ih =>
    intro i acc hi h0
    by_cases hn : n < 128
    · rw [formN_lt hn] at hi ⊢
      have hb : (UInt8.ofNat n).toNat = n := by simp; omega
      simp only [List.cons_append, List.nil_append, scanL, hb, List.length_cons, List.length_nil] at hi ⊢
      rw [if_neg (by omega), if_pos hn, if_neg (by omega)]
    · rw [formN_ge (by omega)] at hi ⊢
      have hb : (UInt8.ofNat (n % 128 + 128)).toNat = n % 128 + 128 := by simp; omega
      simp only [List.cons_append, scanL, hb, List.length_cons] at hi ⊢
      rw [if_neg (by omega), if_neg (by omega), ih (n / 128) (by omega) (i + 1) _ (by omega) (by omega)]
      have h1 : (n % 128 + 128) % 128 = n % 128 := by omega
      rw [h1]
      have h2 : n % 128 * 128 ^ i + n / 128 * 128 ^ (i + 1) = n * 128 ^ i := by
        rw [Nat.pow_succ, Nat.mul_comm (128 ^ i) 128, ← Nat.mul_assoc, ← Nat.add_mul]
        congr 1; omega
      refine Prod.ext ?_ (Prod.ext ?_ rfl)
      · dsimp only; omega
      · dsimp only; omega
theorem scanL_form : ∀ (l : List UInt8) (i acc n size : Nat), scanL i acc l = (n, size, 0) → ∃ m, n = acc + m * 128 ^ i ∧ l.take (size - i) = formN m ∧ size = i + (formN m).length ∧ size ≤ 8 ∧ (0 < i → 0 < m)
  | [], i, acc, n, size, h => by simp only [scanL] at h; split at h <;> simp at h
  | b :: r, i, acc, n, size, h => by
    have hb := b.toNat_lt
    simp only [scanL] at h
    split at h
    · simp at h
    · rename_i h8
      split at h
      · rename_i h1
        split at h
        · simp at h
        · rename_i h2
          simp only [Prod.mk.injEq] at h
          obtain ⟨rfl, rfl, _⟩ := h
          refine ⟨b.toNat, rfl, ?_, ?_, by omega, by omega⟩
          · rw [formN_lt h1, show i + 1 - i = 1 by omega]; simp
          · rw [formN_lt h1]; rfl
      · rename_i h1
        obtain ⟨m, h2, h3, h4, h5, h6⟩ := scanL_form r _ _ _ _ h
        have hm : 0 < m := h6 (by omega)
        have hge := formN_ge (n := b.toNat % 128 + 128 * m) (by omega)
        rw [show (b.toNat % 128 + 128 * m) / 128 = m by omega, show (b.toNat % 128 + 128 * m) % 128 + 128 = b.toNat by omega] at hge
        refine ⟨b.toNat % 128 + 128 * m, ?_, ?_, ?_, h5, by omega⟩
        · rw [h2, Nat.pow_succ, Nat.add_mul, Nat.add_assoc]
          congr 2
          rw [Nat.mul_comm (128 ^ i) 128, ← Nat.mul_assoc, Nat.mul_comm m 128]
        · have : size - i = (size - (i + 1)) + 1 := by omega
          rw [this, List.take_succ_cons, h3, hge]
          simp
        · rw [hge, List.length_cons]; omega
theorem num_at {d r : List UInt8} {p n : Nat} {most : Int} (h : d.drop p = formN n ++ r) (hn : (n : Int) ≤ most) (hs : n ≤ 72057594037927935) : numP d p most = .ok (n, p + (formN n).length) := by
  have hl := formN_len8 hs
  unfold numP
  rw [h, scanL_app r n 0 0 (by omega) (by omega)]
  dsimp only
  rw [if_neg (by simp), if_neg (by simpa using hn)]
  simp
theorem text_at {d r : List UInt8} {p : Nat} {s : ByteArray} {least most : Int} (h : d.drop p = textB s ++ r) (h1 : least ≤ s.size) (h2 : (s.size : Int) ≤ most) (hs : s.size ≤ 127) : textP d p least most = .ok (s.data.toList, p + (textB s).length) := by
  have hl := formN_len8 (n := s.size) (by omega)
  have hb : (textB s).length = (formN s.size).length + s.size := by
    unfold textB
    rw [List.length_append]
    rfl
  have hd : d.length - p = (textB s).length + r.length := by
    have := congrArg List.length h
    rwa [List.length_drop, List.length_append] at this
  have hp0 : 0 < (formN s.size).length := formN_pos _
  unfold textB at h
  rw [List.append_assoc] at h
  unfold textP
  rw [h, scanL_app _ s.size 0 0 (by omega) (by omega)]
  dsimp only
  simp only [Nat.zero_add, Nat.pow_zero, Nat.mul_one]
  rw [if_neg (by simp), if_neg (by omega), if_neg (by omega)]
  have e : d.drop (p + (formN s.size).length) = s.data.toList ++ r := by
    rw [← List.drop_drop, h, List.drop_left]
  rw [e, List.take_append_of_le_length (by show s.size ≤ s.data.toList.length; exact Nat.le_refl _), List.take_of_length_le (by show s.data.toList.length ≤ s.size; exact Nat.le_refl _), hb, Nat.add_assoc]
theorem drop_head {d r : List UInt8} {p : Nat} {b : UInt8} (h : d.drop p = b :: r) : p < d.length ∧ d.getD p 0 = b ∧ d.drop (p + 1) = r := by
  have h1 : p < d.length := by
    have := congrArg List.length h
    rw [List.length_drop, List.length_cons] at this
    omega
  refine ⟨h1, ?_, ?_⟩
  · have := congrArg (·[0]?) h
    simp at this
    simp [List.getD_eq_getElem?_getD, this]
  · rw [← List.drop_drop, h]; rfl
theorem op_facts {o : OpW} (ho : o.Right) : kindT o.tag = o.kind ∧ (1 ≤ o.tag ∧ o.tag ≤ 4) ∧ (o.tag = 1 ∨ o.tag = 3 → o.found = true) ∧ (¬ (o.tag = 1 ∨ o.tag = 3) → o.found = false ∧ o.value = ⟨#[]⟩) := by
  obtain ⟨_, _, _, hk⟩ := ho
  obtain ⟨kd, ky, fd, vl⟩ := o
  dsimp only at hk
  rcases hk with ⟨rfl, h⟩ | ⟨rfl, rfl⟩ | ⟨rfl, rfl, h⟩
  · cases fd with
    | true =>
      rw [show (⟨1, ky, true, vl⟩ : OpW).tag = 1 from rfl]
      exact ⟨rfl, by decide, fun _ => rfl, fun h => absurd (.inl rfl) h⟩
    | false =>
      rw [show (⟨1, ky, false, vl⟩ : OpW).tag = 2 from rfl]
      exact ⟨rfl, by decide, fun h => (by rcases h with h | h <;> cases h), fun _ => ⟨rfl, (empty_iff vl).2 (by simpa using h)⟩⟩
  · rw [show (⟨2, ky, true, vl⟩ : OpW).tag = 3 from rfl]
    exact ⟨rfl, by decide, fun _ => rfl, fun h => absurd (.inr rfl) h⟩
  · rw [show (⟨3, ky, false, vl⟩ : OpW).tag = 4 from rfl]
    exact ⟨rfl, by decide, fun h => (by rcases h with h | h <;> cases h), fun _ => ⟨rfl, (empty_iff vl).2 h⟩⟩
theorem op_at {d r : List UInt8} {p : Nat} {o : OpW} (ho : o.Right) (h : d.drop p = o.bytes ++ r) : opP d p = .ok (o, p + o.bytes.length) := by
  obtain ⟨f1, htag, f2, f3⟩ := op_facts ho
  obtain ⟨hk1, hk2, hv, hk⟩ := ho
  have hb : o.bytes = UInt8.ofNat o.tag :: (textB o.key ++ (if o.tag = 1 ∨ o.tag = 3 then textB o.value else [])) := by simp [OpW.bytes]
  rw [hb, List.cons_append, List.append_assoc] at h
  obtain ⟨h1, h2, h3⟩ := drop_head h
  have hg : (d.getD p 0).toNat = o.tag := by rw [h2]; simp; omega
  have ht := text_at (least := 1) (most := 8) h3 (by omega) (by omega) (by omega)
  unfold opP
  rw [if_neg (by omega), hg, if_neg (by omega), ht]
  dsimp only
  have h4 : d.drop (p + 1 + (textB o.key).length) = (if o.tag = 1 ∨ o.tag = 3 then textB o.value else []) ++ r := by
    rw [← List.drop_drop, h3, List.drop_left]
  have hlen : o.bytes.length = 1 + (textB o.key).length + (if o.tag = 1 ∨ o.tag = 3 then textB o.value else []).length := by
    rw [hb, List.length_cons, List.length_append]; omega
  by_cases ht13 : o.tag = 1 ∨ o.tag = 3
  · rw [if_pos ht13] at h4 hlen ⊢
    have hv' := text_at (least := 0) (most := 16) h4 (by omega) (by omega) (by omega)
    rw [hv']
    dsimp only
    rw [f1, hlen, ← f2 ht13]
    simp only [Nat.add_assoc]
  · rw [if_neg ht13] at h4 hlen ⊢
    obtain ⟨g1, g2⟩ := f3 ht13
    rw [f1, hlen, ← g1, ← g2]
    simp only [List.length_nil, Nat.add_zero, Nat.add_assoc]
theorem ops_at {d r : List UInt8} : ∀ {l : List OpW} {p : Nat}, (∀ o ∈ l, o.Right) → d.drop p = opsB l ++ r → opsP d l.length p = .ok (l, p + (opsB l).length)
  | [], p, _, h => rfl
  | o :: l, p, hr, h => by
    have e : opsB (o :: l) = o.bytes ++ opsB l := rfl
    rw [e, List.append_assoc] at h
    have h1 := op_at (hr o (by simp)) h
    have h2 : d.drop (p + o.bytes.length) = opsB l ++ r := by rw [← List.drop_drop, h, List.drop_left]
    have h3 := ops_at (fun o ho => hr o (by simp [ho])) h2
    rw [List.length_cons, opsP, h1]
    dsimp only
    rw [h3]
    dsimp only
    rw [e, List.length_append, Nat.add_assoc]
theorem nums_at {d r : List UInt8} : ∀ {ms ns : List Int} {p : Nat}, ns.length = ms.length → (∀ n ∈ ns, 0 ≤ n ∧ n ≤ 72057594037927935) → (∀ (k : Nat) (n m : Int), ns[k]? = some n → ms[k]? = some m → n ≤ m) → d.drop p = intsB ns ++ r → numsP d ms p = .ok (ns.map Int.toNat, p + (intsB ns).length)
  | [], [], p, _, _, _, h => rfl
  | m :: ms, n :: ns, p, hl, hn, hm, h => by
    have e : intsB (n :: ns) = formI n ++ intsB ns := rfl
    obtain ⟨n0, n1⟩ := hn n (by simp)
    have ef : formI n = formN n.toNat := by unfold formI; rw [if_neg (by omega)]
    rw [e, ef, List.append_assoc] at h
    have h1 := num_at (most := m) h (by have := hm 0 n m rfl rfl; omega) (by omega)
    have h2 : d.drop (p + (formN n.toNat).length) = intsB ns ++ r := by rw [← List.drop_drop, h, List.drop_left]
    have h3 := nums_at (ms := ms) (by simpa using hl) (fun n hn' => hn n (by simp [hn'])) (fun k n' m' h4 h5 => hm (k + 1) n' m' (by simpa using h4) (by simpa using h5)) h2
    rw [numsP, h1]
    dsimp only
    rw [h3]
    dsimp only
    rw [e, ef, List.length_append, Nat.add_assoc]
    rfl
/-! ### a whole body -/
def bodyP : List UInt8 → Nat → PR TxnP := bindP (fun d p => numsP d decMax p) (fun ns => bindP (fun d p => opsP d (ns.getD 7 0) p) (fun l => pureP ⟨(ns.getD 0 0 : Nat), (ns.getD 1 0 : Nat), (ns.getD 2 0 : Nat), (ns.getD 3 0 : Nat), (ns.getD 4 0 : Nat), (ns.getD 5 0 : Nat), (ns.getD 6 0 : Nat), l⟩))
theorem good_body : Good bodyP := good_bind (good_nums _) fun ns => good_bind (good_ops _) fun l => good_pure _
theorem decP_body (d : List UInt8) : decP d = (match bodyP d 0 with
    | .error e => .error e
    | .ok (t, q) => if q < d.length then .error (q, 61) else .ok t) := by
  unfold decP
  dsimp only [bodyP, bindP]
  cases numsP d decMax 0 with
  | error e => rfl
  | ok r =>
    dsimp only
    cases opsP d (r.1.getD 7 0) r.2 with
    | error e => rfl
    | ok r => rfl
theorem body_at {t : TxnW} {r : List UInt8} (h1 : t.FieldsOk) (h2 : t.ops.xs.length ≤ 16) (h3 : ∀ o ∈ t.ops.xs, o.Right) : bodyP (t.body ++ r) 0 = .ok (t.p, t.body.length) := by
  have hb : (t.body ++ r).drop 0 = intsB t.ints ++ (opsB t.ops.xs ++ r) := by rw [List.drop_zero, TxnW.body, List.append_assoc]
  have hok := okInts h1 h2
  have hn := nums_at (ms := decMax) (ns := t.ints) rfl hok (fun k n m hk hm => by
    simp only [TxnW.FieldsOk] at h1
    simp only [TxnW.ints, decMax] at hk hm
    rcases k with _ | _ | _ | _ | _ | _ | _ | _ | k <;> simp at hk hm <;> omega) hb
  have ho := ops_at (d := t.body ++ r) (r := r) (l := t.ops.xs) (p := (intsB t.ints).length) h3 (by rw [TxnW.body, List.append_assoc, List.drop_left])
  obtain ⟨a1, a2, a3, a4, a5, a6, a7⟩ := h1
  have g0 : (t.ints.map Int.toNat).getD 7 0 = t.ops.xs.length := by simp [TxnW.ints]
  dsimp only [bodyP, bindP]
  rw [hn]
  dsimp only
  rw [g0, Nat.zero_add, ho]
  dsimp only [pureP]
  have e : t.body.length = (intsB t.ints).length + (opsB t.ops.xs).length := by rw [TxnW.body, List.length_append]
  rw [e]
  congr 2
  unfold TxnW.p TxnW.ints
  simp only [List.map_cons, List.getD_cons_zero, List.getD_cons_succ]
  congr 1 <;> omega
/-! ### what is read was written in its one form -/
theorem num_inv {d : List UInt8} {p q n : Nat} {most : Int} (h : numP d p most = .ok (n, q)) : (d.drop p).take (q - p) = formN n ∧ q = p + (formN n).length ∧ (n : Int) ≤ most ∧ n ≤ 72057594037927935 := by
  unfold numP at h
  split at h
  · cases h
  · rename_i hs
    split at h
    · cases h
    · rename_i hb
      injection h with h
      injection h with h2 h3
      have hs' : scanL 0 0 (d.drop p) = ((scanL 0 0 (d.drop p)).1, (scanL 0 0 (d.drop p)).2.1, 0) := by
        have : (scanL 0 0 (d.drop p)).2.2 = 0 := by simpa using hs
        rw [← this]
      obtain ⟨m, e1, e2, e3, e4, _⟩ := scanL_form _ _ _ _ _ hs'
      have e1' : n = m := by rw [← h2, e1]; simp
      subst e1'
      have hv := scanL_val (d.drop p) 0 0 (by decide) (by decide)
      rw [h2] at hv
      simp only [Nat.zero_add, Nat.sub_zero] at e2 e3
      have hq : q - p = (scanL 0 0 (d.drop p)).2.1 := by omega
      have hp8 : (128 : Nat) ^ 8 = 72057594037927936 := by decide
      exact ⟨by rw [hq, e2], by omega, by omega, by omega⟩
theorem text_inv {d k : List UInt8} {p q : Nat} {least most : Int} (hp : p ≤ d.length) (h : textP d p least most = .ok (k, q)) : (d.drop p).take (q - p) = textB ⟨k.toArray⟩ ∧ q = p + (textB ⟨k.toArray⟩).length := by
  have hle := textP_le hp h
  unfold textP at h
  split at h
  · cases h
  · rename_i hs
    split at h
    · cases h
    · rename_i hb
      split at h
      · cases h
      · rename_i hl
        injection h with h
        injection h with h2 h3
        have hs' : scanL 0 0 (d.drop p) = ((scanL 0 0 (d.drop p)).1, (scanL 0 0 (d.drop p)).2.1, 0) := by
          have : (scanL 0 0 (d.drop p)).2.2 = 0 := by simpa using hs
          rw [← this]
        obtain ⟨m, e1, e2, e3, e4, _⟩ := scanL_form _ _ _ _ _ hs'
        have e1' : (scanL 0 0 (d.drop p)).1 = m := by rw [e1]; simp
        simp only [Nat.zero_add, Nat.sub_zero] at e2 e3
        have hkl : k.length = m := by rw [← h2, List.length_take, List.length_drop]; omega
        have hsz : (⟨k.toArray⟩ : ByteArray).size = m := by rw [← hkl]; rfl
        have hq : q - p = (formN m).length + m := by omega
        have ht : textB ⟨k.toArray⟩ = formN m ++ k := by
          unfold textB
          rw [hsz]
        rw [ht, List.length_append, hkl]
        refine ⟨?_, by omega⟩
        rw [hq, List.take_add, ← e3, e2, List.drop_drop, ← h2, e1']
theorem take_glue {d : List UInt8} {p q r : Nat} {x y : List UInt8} (hpq : p ≤ q) (hqr : q ≤ r) (h1 : (d.drop p).take (q - p) = x) (h2 : (d.drop q).take (r - q) = y) : (d.drop p).take (r - p) = x ++ y := by
  have e : r - p = (q - p) + (r - q) := by omega
  rw [e, List.take_add, h1, List.drop_drop, show p + (q - p) = q by omega, h2]
theorem op_inv {d : List UInt8} {p q : Nat} {o : OpW} (hp : p ≤ d.length) (h : opP d p = .ok (o, q)) : (d.drop p).take (q - p) = o.bytes ∧ q = p + o.bytes.length ∧ o.Right := by
  unfold opP at h
  split at h
  · cases h
  · rename_i h1
    split at h
    · cases h
    · rename_i hg
      split at h
      · cases h
      · rename_i k p2 hk
        obtain ⟨k1, k2⟩ := text_inv (by omega) hk
        obtain ⟨l1, l2, l3, l4⟩ := textP_le (by omega) hk
        have hhd : (d.drop p).take (p + 1 - p) = [UInt8.ofNat (d.getD p 0).toNat] := by
          rw [show p + 1 - p = 1 by omega, List.drop_eq_getElem_cons (by omega), List.take_succ_cons, List.take_zero]
          congr 1
          rw [List.getD_eq_getElem?_getD, List.getElem?_eq_getElem (by omega)]
          simp
        have g1 := take_glue (by omega) (by omega) hhd k1
        have hks : (⟨k.toArray⟩ : ByteArray).size = k.length := rfl
        have hgv : (d.getD p 0).toNat = 1 ∨ (d.getD p 0).toNat = 2 ∨ (d.getD p 0).toNat = 3 ∨ (d.getD p 0).toNat = 4 := by omega
        split at h
        · rename_i hg13
          split at h
          · cases h
          · rename_i v p3 hv
            obtain ⟨v1, v2⟩ := text_inv l1 hv
            obtain ⟨m1, m2, m3, m4⟩ := textP_le l1 hv
            have hvs : (⟨v.toArray⟩ : ByteArray).size = v.length := rfl
            injection h with h
            injection h with h2 h3
            subst h3
            have g2 := take_glue (by omega) (by omega) g1 v1
            have htg : o.tag = (d.getD p 0).toNat := by
              rw [← h2]
              rcases hgv with e | e | e | e <;> rw [e] at hg13 ⊢ <;> first | rfl | (exfalso; omega)
            have hbt : o.bytes = [UInt8.ofNat (d.getD p 0).toNat] ++ textB ⟨k.toArray⟩ ++ textB ⟨v.toArray⟩ := by
              unfold OpW.bytes
              rw [htg, if_pos hg13, ← h2]
            refine ⟨by rw [g2, hbt], by rw [hbt]; simp only [List.length_append, List.length_cons, List.length_nil]; omega, ?_⟩
            rw [← h2]
            unfold OpW.Right
            refine ⟨by dsimp only; omega, by dsimp only; omega, by dsimp only; omega, ?_⟩
            rcases hg13 with e | e <;> rw [e]
            · exact .inl ⟨rfl, .inl rfl⟩
            · exact .inr (.inl ⟨rfl, rfl⟩)
        · rename_i hg13
          injection h with h
          injection h with h2 h3
          subst h3
          have htg : o.tag = (d.getD p 0).toNat := by
            rw [← h2]
            rcases hgv with e | e | e | e <;> rw [e] at hg13 ⊢ <;> first | rfl | (exfalso; omega)
          have hbt : o.bytes = [UInt8.ofNat (d.getD p 0).toNat] ++ textB ⟨k.toArray⟩ := by
            unfold OpW.bytes
            rw [htg, if_neg hg13, ← h2, List.append_nil]
          refine ⟨by rw [g1, hbt], by rw [hbt]; simp only [List.length_append, List.length_cons, List.length_nil]; omega, ?_⟩
          rw [← h2]
          unfold OpW.Right
          refine ⟨by dsimp only; omega, by dsimp only; omega, Nat.zero_le _, ?_⟩
          have e24 : (d.getD p 0).toNat = 2 ∨ (d.getD p 0).toNat = 4 := by omega
          rcases e24 with e | e <;> rw [e]
          · exact .inl ⟨rfl, .inr rfl⟩
          · exact .inr (.inr ⟨rfl, rfl, rfl⟩)
theorem ops_inv {d : List UInt8} : ∀ {n p q : Nat} {l : List OpW}, p ≤ d.length → opsP d n p = .ok (l, q) → (d.drop p).take (q - p) = opsB l ∧ q = p + (opsB l).length ∧ (∀ o ∈ l, o.Right) ∧ l.length = n
  | 0, p, q, l, hp, h => by
    unfold opsP at h
    injection h with h
    injection h with h1 h2
    subst h1; subst h2
    exact ⟨by simp [opsB], rfl, by simp, rfl⟩
  | n + 1, p, q, l, hp, h => by
    unfold opsP at h
    split at h
    · cases h
    · rename_i o p2 ho
      obtain ⟨a1, a2, a3⟩ := op_inv hp ho
      have hle := opP_le hp ho
      split at h
      · cases h
      · rename_i l2 p3 hl
        obtain ⟨b1, b2, b3, b4⟩ := ops_inv hle hl
        injection h with h
        injection h with h1 h2
        subst h1; subst h2
        have e : opsB (o :: l2) = o.bytes ++ opsB l2 := rfl
        refine ⟨by rw [e]; exact take_glue (by omega) (by omega) a1 b1, by rw [e, List.length_append]; omega, ?_, by simp [b4]⟩
        intro o' ho'
        rcases List.mem_cons.1 ho' with rfl | ho'
        · exact a3
        · exact b3 o' ho'
theorem nums_inv {d : List UInt8} : ∀ {ms : List Int} {p q : Nat} {l : List Nat}, p ≤ d.length → numsP d ms p = .ok (l, q) → (d.drop p).take (q - p) = intsB (l.map (fun n : Nat => (n : Int))) ∧ q = p + (intsB (l.map (fun n : Nat => (n : Int)))).length
  | [], p, q, l, hp, h => by
    unfold numsP at h
    injection h with h
    injection h with h1 h2
    subst h1; subst h2
    exact ⟨by simp [intsB], rfl⟩
  | m :: r, p, q, l, hp, h => by
    unfold numsP at h
    split at h
    · cases h
    · rename_i n p2 hn
      obtain ⟨a1, a2, a3, a4⟩ := num_inv hn
      have hle := numP_le hp hn
      split at h
      · cases h
      · rename_i l2 p3 hl
        obtain ⟨b1, b2⟩ := nums_inv hle.1 hl
        injection h with h
        injection h with h1 h2
        subst h1; subst h2
        have e : intsB ((n :: l2).map (fun n : Nat => (n : Int))) = formN n ++ intsB (l2.map (fun n : Nat => (n : Int))) := by
          show formI (n : Int) ++ _ = _
          unfold formI
          rw [if_neg (by omega)]
          rfl
        exact ⟨by rw [e]; exact take_glue (by omega) (by omega) a1 b1, by rw [e, List.length_append]; omega⟩
theorem body_inv {d : List UInt8} {q : Nat} {t : TxnP} (A : Option Addr) (c : Nat) (h : bodyP d 0 = .ok (t, q)) : d.take q = (t.w A c).body ∧ (t.w A c).FieldsOk ∧ t.ops.length ≤ 16 ∧ (∀ o ∈ t.ops, o.Right) ∧ q = (t.w A c).body.length := by
  dsimp only [bodyP, bindP] at h
  cases hn : numsP d decMax 0 with
  | error e => rw [hn] at h; cases h
  | ok r =>
    obtain ⟨ns, p⟩ := r
    rw [hn] at h
    dsimp only at h
    obtain ⟨l1, l2⟩ := numsP_le (Nat.zero_le _) hn
    obtain ⟨n0, n1, n2, n3, n4, n5, n6, n7, rfl⟩ := len8 l2
    have hm := nums_max (Nat.zero_le _) hn
    obtain ⟨a1, a2⟩ := nums_inv (Nat.zero_le _) hn
    cases ho : opsP d ([n0, n1, n2, n3, n4, n5, n6, n7].getD 7 0) p with
    | error e => rw [ho] at h; cases h
    | ok r =>
      obtain ⟨l, q2⟩ := r
      rw [ho] at h
      dsimp only [pureP] at h
      obtain ⟨b1, b2, b3, b4⟩ := ops_inv l1 ho
      have b4' : l.length = n7 := b4
      injection h with h
      injection h with h1 h2
      obtain rfl : t = (⟨(n0 : Nat), (n1 : Nat), (n2 : Nat), (n3 : Nat), (n4 : Nat), (n5 : Nat), (n6 : Nat), l⟩ : TxnP) := h1.symm
      subst h2
      have m0 := hm 0 n0 1048575 rfl rfl
      have m1 := hm 1 n1 1048575 rfl rfl
      have m2 := hm 2 n2 1099511627776 rfl rfl
      have m3 := hm 3 n3 1099511627776 rfl rfl
      have m4 := hm 4 n4 1099511627776 rfl rfl
      have m5 := hm 5 n5 1099511627776 rfl rfl
      have m6 := hm 6 n6 1 rfl rfl
      have m7 := hm 7 n7 16 rfl rfl
      have hg := take_glue (Nat.zero_le _) (by omega) a1 b1
      rw [List.drop_zero, Nat.sub_zero] at hg
      have hb : (TxnP.w ⟨(n0 : Nat), (n1 : Nat), (n2 : Nat), (n3 : Nat), (n4 : Nat), (n5 : Nat), (n6 : Nat), l⟩ A c).body = intsB ([n0, n1, n2, n3, n4, n5, n6, n7].map (fun n : Nat => (n : Int))) ++ opsB l := by
        unfold TxnW.body TxnW.ints TxnP.w
        dsimp only
        rw [b4']
        rfl
      refine ⟨by rw [hb]; exact hg, ?_, by show l.length ≤ 16; omega, b3, by rw [hb, List.length_append]; omega⟩
      unfold TxnW.FieldsOk TxnP.w
      dsimp only
      omega
/-! ### the laws -/
theorem TxnW.ok_of {t : TxnW} (he : t.err = 0) : t.FieldsOk ∧ t.ops.xs.length ≤ 16 ∧ ∀ o ∈ t.ops.xs, o.Right := by
  have h1 : t.FieldsOk := Decidable.not_not.1 (mt err62 (by rw [he]; decide))
  have h2 : t.ops.xs.length ≤ 16 := by
    rcases Nat.lt_or_ge 16 t.ops.xs.length with h | h
    · have := err63 h1 h; rw [he] at this; cases this
    · exact h
  refine ⟨h1, h2, fun o ho => ?_⟩
  by_cases hr : o.Right
  · exact hr
  · have := err64 h1 h2 ho hr; rw [he] at this; cases this
theorem dec_body {t : TxnW} (he : t.err = 0) : decR t.body = (t.p, 0, 0) := by
  obtain ⟨h1, h2, h3⟩ := t.ok_of he
  have := body_at (r := []) h1 h2 h3
  rw [List.append_nil] at this
  unfold decR
  rw [decP_body, this]
  dsimp only
  rw [if_neg (by omega)]
theorem dec_tail {t : TxnW} (he : t.err = 0) {r : List UInt8} (hr : r ≠ []) : decR (t.body ++ r) = (TxnP.zero, (t.body.length : Int), (61 : Int)) := by
  obtain ⟨h1, h2, h3⟩ := t.ok_of he
  have := body_at (r := r) h1 h2 h3
  have hl : 0 < r.length := List.length_pos_iff.2 hr
  unfold decR
  rw [decP_body, this]
  dsimp only
  rw [if_pos (by rw [List.length_append]; omega)]
theorem dec_cases (d : List UInt8) : (∃ t, decR d = (t, 0, 0) ∧ bodyP d 0 = .ok (t, d.length)) ∨ (∃ (t : TxnP) (q : Nat), decR d = (TxnP.zero, (q : Int), (61 : Int)) ∧ bodyP d 0 = .ok (t, q) ∧ q < d.length) ∨ (∃ (a : Nat) (e : Int), decR d = (TxnP.zero, (a : Int), e) ∧ bodyP d 0 = .error ((a : Int), e) ∧ a ≤ d.length ∧ (e = 51 ∨ e = 52 ∨ e = 53 ∨ (e = 60 ∧ a < d.length))) := by
  unfold decR
  rw [decP_body]
  cases h : bodyP d 0 with
  | error e =>
    obtain ⟨a, h1, h2, h3, h4⟩ := good_body.errAt (Nat.zero_le _) h
    obtain ⟨e1, e2⟩ := e
    dsimp only at h1 h4 ⊢
    subst h1
    exact .inr (.inr ⟨a, e2, rfl, rfl, h3, h4⟩)
  | ok r =>
    obtain ⟨t, q⟩ := r
    dsimp only
    have hq := good_body.okLe (Nat.zero_le _) h
    by_cases hl : q < d.length
    · rw [if_pos hl]
      exact .inr (.inl ⟨t, q, rfl, rfl, hl⟩)
    · rw [if_neg hl]
      obtain rfl : q = d.length := by omega
      exact .inl ⟨t, rfl, rfl⟩
theorem dec_one {d : List UInt8} {t : TxnP} (h : bodyP d 0 = .ok (t, d.length)) (A : Option Addr) (c : Nat) : (t.w A c).err = 0 ∧ (t.w A c).body = d ∧ (t.w A c).encB = d := by
  obtain ⟨h1, h2, h3, h4, h5⟩ := body_inv A c h
  rw [List.take_length] at h1
  have he := err0 h2 h3 h4
  exact ⟨he, h1.symm, by rw [TxnW.encB, if_pos he, h1]⟩
theorem dec_cut {t : TxnW} (he : t.err = 0) {k : Nat} (hk : k < t.body.length) : ∃ a : Nat, a ≤ k ∧ decR (t.body.take k) = (TxnP.zero, (a : Int), (51 : Int)) := by
  obtain ⟨h1, h2, h3⟩ := t.ok_of he
  have hb := body_at (r := []) h1 h2 h3
  rw [List.append_nil] at hb
  have hsp : t.body = t.body.take k ++ t.body.drop k := (List.take_append_drop k t.body).symm
  have hlk : (t.body.take k).length = k := by rw [List.length_take]; omega
  rcases dec_cases (t.body.take k) with ⟨t', e1, e2⟩ | ⟨t', q, e1, e2, e3⟩ | ⟨a, e, e1, e2, e3, e4⟩
  · have := good_body.okApp (t.body.drop k) (Nat.zero_le _) e2
    rw [← hsp, hb] at this
    injection this with this
    injection this with _ this
    omega
  · have := good_body.okApp (t.body.drop k) (Nat.zero_le _) e2
    rw [← hsp, hb] at this
    injection this with this
    injection this with _ this
    omega
  · by_cases h51 : e = 51
    · subst h51
      exact ⟨a, by omega, e1⟩
    · have := good_body.errApp (t.body.drop k) (Nat.zero_le _) e2 h51
      rw [← hsp, hb] at this
      cases this
theorem dec_tag {d s : List UInt8} {a : Nat} (h : bodyP d 0 = .error ((a : Int), 60)) (ha : a < d.length) : decR (d.take (a + 1) ++ s) = (TxnP.zero, (a : Int), (60 : Int)) := by
  have h1 := good_body.tagTake (Nat.zero_le _) h
  have h2 := good_body.errApp s (Nat.zero_le _) h1 (show (60 : Int) ≠ 51 by decide)
  unfold decR
  rw [decP_body, h2]
theorem dec_tailcut {d : List UInt8} {t : TxnP} {q : Nat} (h : bodyP d 0 = .ok (t, q)) (hq : q < d.length) : decR (d.take q) = (t, 0, 0) := by
  have h1 := good_body.okTake q (Nat.zero_le _) h (Nat.le_refl _)
  unfold decR
  rw [decP_body, h1]
  dsimp only
  rw [if_neg (by rw [List.length_take]; omega)]
theorem dec_endcut {d : List UInt8} {a : Nat} (h : bodyP d 0 = .error ((a : Int), 51)) : decR (d.take a) = (TxnP.zero, (a : Int), (51 : Int)) := by
  have h1 := good_body.endTake (Nat.zero_le _) h
  unfold decR
  rw [decP_body, h1]
end Go.Proofs.Ytjfjleejbbmmaaa
