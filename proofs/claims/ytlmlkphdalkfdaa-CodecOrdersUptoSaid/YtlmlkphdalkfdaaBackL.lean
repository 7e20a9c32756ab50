/- The plain law of the codec: what is written is read again, and the other way round. No program in sight. -/
import Derived.Test.YtlmlkphdalkfdaaRds
namespace Go.Proofs.Ytlmlkphdalkfdaa

theorem getN_cons : ∀ (l : List UInt8) (x : UInt8), getN (x :: l) = x.toNat * 256 ^ l.length + getN l := by
  have h : ∀ (l : List UInt8) (a : Nat), l.foldl (fun n b => n * 256 + b.toNat) a = a * 256 ^ l.length + getN l := by
    intro l
    induction l with
    | nil => intro a; simp [getN]
    | cons y l ih =>
      intro a
      rw [List.foldl_cons, ih, List.length_cons, Nat.pow_succ]
      have h2 : getN (y :: l) = y.toNat * 256 ^ l.length + getN l := by
        unfold getN
        rw [List.foldl_cons, ih]
        simp [getN]
      rw [h2, Nat.add_mul, Nat.mul_assoc, Nat.mul_comm 256, Nat.add_assoc]
  intro l x
  unfold getN
  rw [List.foldl_cons, h]
  simp [getN]
theorem ofNat_add (a c : Nat) : UInt8.ofNat (a * 256 + c) = UInt8.ofNat c := by
  apply UInt8.toNat_inj.1
  rw [UInt8.toNat_ofNat', UInt8.toNat_ofNat']
  omega
theorem numBE_add : ∀ (s a b : Nat), numBE (a * 256 ^ s + b) s = numBE b s
  | 0, _, _ => rfl
  | s + 1, a, b => by
    have hp : 0 < 256 ^ s := Nat.pow_pos (by decide)
    have h1 : a * 256 ^ (s + 1) + b = (a * 256) * 256 ^ s + b := by rw [Nat.pow_succ, Nat.mul_assoc, Nat.mul_comm 256]
    have h2 : ((a * 256) * 256 ^ s + b) / 256 ^ s = a * 256 + b / 256 ^ s := by
      rw [Nat.add_comm, Nat.add_mul_div_right _ _ hp, Nat.add_comm]
    rw [numBE, h1, h2, ofNat_add, numBE_add s]
    rfl
theorem numBE_getN : ∀ (l : List UInt8), numBE (getN l) l.length = l
  | [] => rfl
  | x :: l => by
    have hp : 0 < 256 ^ l.length := Nat.pow_pos (by decide)
    have hl := getN_lt l.length l rfl
    rw [List.length_cons, numBE, getN_cons, numBE_add, numBE_getN l]
    congr 1
    rw [Nat.add_comm, Nat.add_mul_div_right _ _ hp, Nat.div_eq_of_lt hl, Nat.zero_add]
    apply UInt8.toNat_inj.1
    have := byte_lt x
    rw [UInt8.toNat_ofNat']
    omega
theorem getN_numBE (n : Nat) : ∀ s, getN (numBE n s) = n % 256 ^ s
  | 0 => by simp [numBE, getN, Nat.mod_one]
  | s + 1 => by
    rw [numBE, getN_cons, getN_numBE n s, numBE_len, UInt8.toNat_ofNat', show 2 ^ 8 = 256 from rfl]
    rw [Nat.pow_succ, Nat.mod_mul, Nat.mul_comm, Nat.add_comm]

theorem textD_esc (start : Nat) (rest : List UInt8) : ∀ (t out : List UInt8) (p : Nat), out.length + t.length ≤ 64 → textD start p (escT t ++ (0 :: 0 :: rest)) out = .inr (out ++ t, p + (escT t).length + 2)
  | [], out, p, h => by
    simp only [List.length_nil, Nat.add_zero] at h
    show textD start p (0 :: 0 :: rest) out = _
    rw [textD_zero, if_pos rfl, if_neg (by omega)]
    simp [escT]
  | b :: t, out, p, h => by
    simp only [List.length_cons] at h
    have he : escT (b :: t) = esc1 b ++ escT t := by simp [escT]
    rw [he]
    by_cases hb : b = 0
    · subst hb
      have h1 : esc1 0 = [0, 255] := rfl
      rw [h1]
      show textD start p (0 :: 255 :: (escT t ++ (0 :: 0 :: rest))) out = _
      rw [textD_zero, if_neg (by decide), if_pos rfl, textD_esc start rest t (out ++ [0]) (p + 2) (by simp; omega)]
      simp; omega
    · have h1 : esc1 b = [b] := if_neg hb
      rw [h1]
      show textD start p (b :: (escT t ++ (0 :: 0 :: rest))) out = _
      rw [textD_some _ _ _ _ _ hb, textD_esc start rest t (out ++ [b]) (p + 1) (by simp; omega)]
      simp; omega
theorem textD_inv (start : Nat) : ∀ (n : Nat) (r out : List UInt8) (p : Nat) (t : List UInt8) (q : Nat), r.length ≤ n → textD start p r out = .inr (t, q) →
    ∃ t', t = out ++ t' ∧ r = escT t' ++ (0 :: 0 :: r.drop (q - p)) ∧ p < q
  | 0, r, out, p, t, q, hn, h => by
    have := List.eq_nil_of_length_eq_zero (Nat.le_zero.1 hn)
    subst this
    rw [textD_nil] at h; cases h
  | n + 1, [], out, p, t, q, hn, h => by rw [textD_nil] at h; cases h
  | n + 1, x :: r, out, p, t, q, hn, h => by
    simp only [List.length_cons] at hn
    by_cases hx : x = 0
    · subst hx
      cases r with
      | nil => rw [textD_zero_nil] at h; cases h
      | cons y r =>
        rw [textD_zero] at h
        simp only [List.length_cons] at hn
        split at h
        · rename_i hy
          subst hy
          split at h
          · cases h
          · cases h
            exact ⟨[], by simp, by rw [show p + 2 - p = 2 by omega]; rfl, by omega⟩
        · split at h
          · rename_i hy
            subst hy
            obtain ⟨t', h1, h2, h3⟩ := textD_inv start n r _ (p + 2) t q (by omega) h
            refine ⟨0 :: t', by rw [h1]; simp, ?_, by omega⟩
            have he : escT (0 :: t') = [0, 255] ++ escT t' := by simp [escT, esc1]
            have hd : (0 :: 255 :: r).drop (q - p) = r.drop (q - (p + 2)) := by
              rw [show q - p = (q - (p + 2)) + 2 by omega]; rfl
            rw [he, hd]
            conv => lhs; rw [h2]
            rfl
          · cases h
    · rw [textD_some _ _ _ _ _ hx] at h
      obtain ⟨t', h1, h2, h3⟩ := textD_inv start n r _ (p + 1) t q (by omega) h
      refine ⟨x :: t', by rw [h1]; simp, ?_, by omega⟩
      have he : escT (x :: t') = [x] ++ escT t' := by simp [escT, esc1, hx]
      have hd : (x :: r).drop (q - p) = r.drop (q - (p + 1)) := by
        rw [show q - p = (q - (p + 1)) + 1 by omega]; rfl
      rw [he, hd]
      conv => lhs; rw [h2]
      rfl

/-- What a value that passes looks like. -/
theorem checkV_form {v : V} (h : checkV v = 0) : (∃ n, v = (1, n, [])) ∨ ∃ t, v = (2, 0, t) ∧ t.length ≤ 64 := by
  obtain ⟨k, n, t⟩ := v
  unfold checkV at h
  simp only at h
  split at h
  · rename_i hk
    split at h
    · rename_i ht; exact .inl ⟨n, by rw [hk, ht]⟩
    · cases h
  · split at h
    · rename_i hk
      split at h
      · rename_i ht; exact .inr ⟨t, by rw [hk.1, hk.2], ht⟩
      · cases h
    · cases h

theorem decD_enc : ∀ (vs : List V) (pre : List UInt8) (acc : List V) (f : Nat), (∀ v ∈ vs, checkV v = 0) → (∀ v ∈ vs, -9223372036854775808 ≤ v.2.1 ∧ v.2.1 ≤ 9223372036854775807) → vs.length < f →
    decD (pre ++ encL vs) f pre.length acc = .inr (acc ++ vs)
  | [], pre, acc, f, _, _, hf => by
    obtain ⟨f, rfl⟩ : ∃ f', f = f' + 1 := ⟨f - 1, by simp at hf; omega⟩
    rw [decD_nil (by simp [encL])]
    simp
  | v :: vs, pre, acc, f, hc, hr, hf => by
    simp only [List.length_cons] at hf
    obtain ⟨f, rfl⟩ : ∃ f', f = f' + 1 := ⟨f - 1, by omega⟩
    have he : encL (v :: vs) = encV v ++ encL vs := by simp [encL]
    have hc' := fun u hu => hc u (List.mem_cons_of_mem _ hu)
    have hr' := fun u hu => hr u (List.mem_cons_of_mem _ hu)
    rcases checkV_form (hc v (List.mem_cons_self ..)) with ⟨n, rfl⟩ | ⟨t, rfl, ht⟩
    · obtain ⟨h1, h2⟩ := hr _ (List.mem_cons_self ..)
      simp only at h1 h2
      have hN : (n + 9223372036854775808).toNat < 18446744073709551616 := by omega
      have hv : encV (1, n, []) = 1 :: numBE (n + 9223372036854775808).toNat 8 := by simp [encV]
      have hd : (pre ++ encL ((1, n, []) :: vs)).drop pre.length = 1 :: (numBE (n + 9223372036854775808).toNat 8 ++ encL vs) := by
        rw [List.drop_left, he, hv]; rfl
      have hl8 := numBE_len (n + 9223372036854775808).toNat 8
      rw [decD_cons hd, if_pos rfl, if_neg (by simp [hl8])]
      have ht8 : (numBE (n + 9223372036854775808).toNat 8 ++ encL vs).take 8 = numBE (n + 9223372036854775808).toNat 8 := by
        rw [← hl8]; exact List.take_left ..
      have hg : getN (numBE (n + 9223372036854775808).toNat 8) = (n + 9223372036854775808).toNat := by
        rw [getN_numBE]; exact Nat.mod_eq_of_lt hN
      rw [ht8, hg]
      have hpre : pre ++ encL ((1, n, []) :: vs) = (pre ++ (1 :: numBE (n + 9223372036854775808).toNat 8)) ++ encL vs := by rw [he, hv]; simp
      have hlen : pre.length + 9 = (pre ++ (1 :: numBE (n + 9223372036854775808).toNat 8)).length := by simp [hl8]
      have hval : (((n + 9223372036854775808).toNat : Nat) : Int) - 9223372036854775808 = n := by omega
      rw [hpre, hlen, hval, decD_enc vs _ _ f hc' hr' (by omega)]
      simp
    · have hv : encV (2, 0, t) = 2 :: (escT t ++ [0, 0]) := by simp [encV]
      have hd : (pre ++ encL ((2, 0, t) :: vs)).drop pre.length = 2 :: (escT t ++ (0 :: 0 :: encL vs)) := by
        rw [List.drop_left, he, hv]; simp
      rw [decD_cons hd, if_neg (by decide), if_pos rfl, textD_esc _ _ t [] (pre.length + 1) (by simpa using ht)]
      have hpre : pre ++ encL ((2, 0, t) :: vs) = (pre ++ (2 :: (escT t ++ [0, 0]))) ++ encL vs := by rw [he, hv]; simp
      have hlen : pre.length + 1 + (escT t).length + 2 = (pre ++ (2 :: (escT t ++ [0, 0]))).length := by simp; omega
      simp only [List.nil_append]
      rw [hpre, hlen, decD_enc vs _ _ f hc' hr' (by omega)]
      simp
theorem encL_len_ge : ∀ (vs : List V), vs.length ≤ (encL vs).length
  | [] => by simp
  | v :: vs => by
    have ih := encL_len_ge vs
    have he : encL (v :: vs) = encV v ++ encL vs := by simp [encL]
    have : 1 ≤ (encV v).length := by unfold encV; split <;> simp
    rw [he, List.length_append, List.length_cons]
    omega
/-- What is written is read again. -/
theorem dec_enc (vs : List V) (h : checkL vs = 0) (hr : ∀ v ∈ vs, -9223372036854775808 ≤ v.2.1 ∧ v.2.1 ≤ 9223372036854775807) : decOf (encL vs) = .inr vs := by
  have := decD_enc vs [] [] ((encL vs).length + 1) (checkL_zero vs h) hr (by have := encL_len_ge vs; omega)
  simpa [decOf] using this

theorem decD_inv (l : List UInt8) : ∀ (f p : Nat) (acc vs : List V), l.length - p < f → p ≤ l.length → decD l f p acc = .inr vs →
    ∃ us, vs = acc ++ us ∧ (∀ u ∈ us, checkV u = 0 ∧ -9223372036854775808 ≤ u.2.1 ∧ u.2.1 ≤ 9223372036854775807) ∧ encL us = l.drop p
  | 0, p, acc, vs, hf, _, _ => by omega
  | f + 1, p, acc, vs, hf, hp, h => by
    cases hd : l.drop p with
    | nil => rw [decD_nil hd] at h; cases h; exact ⟨[], by simp, by simp, by simp [encL]⟩
    | cons k r =>
      rw [decD_cons hd] at h
      obtain ⟨h3, h4⟩ := drop_len hd
      split at h
      · rename_i hk
        subst hk
        split at h
        · cases h
        · rename_i h8
          obtain ⟨us, h5, h6, h7⟩ := decD_inv l f (p + 9) _ vs (by omega) (by omega) h
          have hlt : (r.take 8).length = 8 := by rw [List.length_take]; omega
          have hN := getN_lt 8 _ hlt
          refine ⟨(1, (getN (r.take 8) : Int) - 9223372036854775808, []) :: us, by rw [h5]; simp, ?_, ?_⟩
          · intro u hu
            rcases List.mem_cons.1 hu with rfl | hu
            · refine ⟨by simp [checkV], ?_, ?_⟩ <;> simp only <;> omega
            · exact h6 u hu
          · have he : encL ((1, (getN (r.take 8) : Int) - 9223372036854775808, []) :: us) = encV (1, (getN (r.take 8) : Int) - 9223372036854775808, []) ++ encL us := by simp [encL]
            have hv : encV (1, (getN (r.take 8) : Int) - 9223372036854775808, []) = 1 :: numBE (getN (r.take 8)) 8 := by
              simp only [encV, if_true]
              rw [show ((getN (r.take 8) : Int) - 9223372036854775808 + 9223372036854775808).toNat = getN (r.take 8) by omega]
            have hb := numBE_getN (r.take 8)
            rw [hlt] at hb
            have hdd : l.drop (p + 9) = r.drop 8 := by rw [h4, List.drop_drop]
            rw [he, hv, hb, h7, hdd]
            show 1 :: (r.take 8 ++ r.drop 8) = _
            rw [List.take_append_drop]
      · split at h
        · rename_i hk
          subst hk
          split at h
          · cases h
          · rename_i t q hx
            have hend := textD_end r.length r [] p (p + 1) t q (Nat.le_refl _) hx
            obtain ⟨t', h8, h9, h10⟩ := textD_inv p r.length r [] (p + 1) t q (Nat.le_refl _) hx
            simp only [List.nil_append] at h8
            subst h8
            obtain ⟨us, h5, h6, h7⟩ := decD_inv l f q _ vs (by omega) (by omega) h
            refine ⟨(2, 0, t) :: us, by rw [h5]; simp, ?_, ?_⟩
            · intro u hu
              rcases List.mem_cons.1 hu with rfl | hu
              · refine ⟨by simp [checkV, hend.2.2], ?_, ?_⟩ <;> simp only <;> omega
              · exact h6 u hu
            · have he : encL ((2, 0, t) :: us) = encV (2, 0, t) ++ encL us := by simp [encL]
              have hv : encV (2, 0, t) = 2 :: (escT t ++ [0, 0]) := by simp [encV]
              have hdd : l.drop q = r.drop (q - (p + 1)) := by rw [h4, List.drop_drop]; congr 1; omega
              rw [he, hv, h7, hdd]
              conv => rhs; rw [h9]
              simp
        · cases h
/-- What is read is written just so. -/
theorem enc_dec (l : List UInt8) (vs : List V) (h : decOf l = .inr vs) : checkL vs = 0 ∧ encL vs = l ∧ ∀ u ∈ vs, -9223372036854775808 ≤ u.2.1 ∧ u.2.1 ≤ 9223372036854775807 := by
  obtain ⟨us, h1, h2, h3⟩ := decD_inv l (l.length + 1) 0 [] vs (by omega) (by omega) h
  simp only [List.nil_append] at h1
  subst h1
  exact ⟨checkL_all vs fun j v hv => (h2 v (List.mem_of_getElem? hv)).1, by simpa using h3, fun u hu => (h2 u hu).2⟩

theorem textD_place : ∀ (n : Nat) (r out : List UInt8) (start p c q : Nat), r.length ≤ n → start ≤ p → textD start p r out = .inl (c, q) → q ≤ p + r.length
  | 0, r, out, start, p, c, q, hn, hs, h => by
    have := List.eq_nil_of_length_eq_zero (Nat.le_zero.1 hn)
    subst this
    rw [textD_nil] at h; cases h; simp
  | n + 1, [], out, start, p, c, q, hn, hs, h => by rw [textD_nil] at h; cases h; simp
  | n + 1, x :: r, out, start, p, c, q, hn, hs, h => by
    simp only [List.length_cons] at hn ⊢
    by_cases hx : x = 0
    · subst hx
      cases r with
      | nil => rw [textD_zero_nil] at h; cases h; simp
      | cons y r =>
        rw [textD_zero] at h
        simp only [List.length_cons] at hn ⊢
        split at h
        · split at h
          · cases h; omega
          · cases h
        · split at h
          · have := textD_place n r _ start (p + 2) c q (by omega) (by omega) h; omega
          · cases h; omega
    · rw [textD_some _ _ _ _ _ hx] at h
      have := textD_place n r _ start (p + 1) c q (by omega) (by omega) h; omega
theorem decD_fault (l : List UInt8) : ∀ (f p : Nat) (acc : List V) (c q : Nat), p ≤ l.length → decD l f p acc = .inl (c, q) → c ≠ 0 ∧ q ≤ l.length
  | 0, p, acc, c, q, hp, h => by rw [decD.eq_def] at h; cases h
  | f + 1, p, acc, c, q, hp, h => by
    cases hd : l.drop p with
    | nil => rw [decD_nil hd] at h; cases h
    | cons k r =>
      rw [decD_cons hd] at h
      obtain ⟨h3, h4⟩ := drop_len hd
      split at h
      · split at h
        · cases h; exact ⟨by decide, Nat.le_refl _⟩
        · exact decD_fault l f (p + 9) _ c q (by omega) h
      · split at h
        · split at h
          · rename_i e hx
            cases h
            have h5 := textD_code r.length r [] p (p + 1) c q (Nat.le_refl _) hx
            have h6 := textD_place r.length r [] p (p + 1) c q (Nat.le_refl _) (by omega) hx
            exact ⟨h5, by omega⟩
          · rename_i t q' hx
            have hend := textD_end r.length r [] p (p + 1) t q' (Nat.le_refl _) hx
            exact decD_fault l f q' _ c q (by omega) h
        · cases h; exact ⟨by decide, hp⟩
theorem dec_fault (l : List UInt8) (c q : Nat) (h : decOf l = .inl (c, q)) : c ≠ 0 ∧ q ≤ l.length := decD_fault l _ 0 [] c q (by omega) h

end Go.Proofs.Ytlmlkphdalkfdaa
