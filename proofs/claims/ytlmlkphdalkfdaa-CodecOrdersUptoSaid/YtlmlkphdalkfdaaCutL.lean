/- The plain law of cut bytes and of a turned bit. No program in sight. -/
import Derived.Test.YtlmlkphdalkfdaaBackL
namespace Go.Proofs.Ytlmlkphdalkfdaa

theorem textD_cut (start : Nat) (rest : List UInt8) : ∀ (t out : List UInt8) (p c : Nat), out.length + t.length ≤ 64 → c < (escT t).length + 2 → textD start p ((escT t ++ (0 :: 0 :: rest)).take c) out = .inl (20, p + c)
  | [], out, p, c, h, hc => by
    have he : escT [] = [] := rfl
    rw [he] at hc ⊢
    simp only [List.length_nil, Nat.zero_add, List.nil_append] at hc ⊢
    match c, hc with
    | 0, _ => rw [List.take_zero, textD_nil, Nat.add_zero]
    | 1, _ => exact textD_zero_nil start p out
  | b :: t, out, p, c, h, hc => by
    simp only [List.length_cons] at h
    have he : escT (b :: t) = esc1 b ++ escT t := by simp [escT]
    rw [he] at hc ⊢
    by_cases hb : b = 0
    · subst hb
      have h1 : esc1 0 = [0, 255] := rfl
      rw [h1] at hc ⊢
      simp only [List.length_append, List.length_cons, List.length_nil] at hc
      match c, hc with
      | 0, _ => rw [List.take_zero, textD_nil, Nat.add_zero]
      | 1, _ => exact textD_zero_nil start p out
      | c + 2, hc =>
        show textD start p (0 :: 255 :: (escT t ++ (0 :: 0 :: rest)).take c) out = _
        rw [textD_zero, if_neg (by decide), if_pos rfl, textD_cut start rest t (out ++ [0]) (p + 2) c (by simp; omega) (by omega)]
        congr 2; omega
    · have h1 : esc1 b = [b] := if_neg hb
      rw [h1] at hc ⊢
      simp only [List.length_append, List.length_cons, List.length_nil] at hc
      match c, hc with
      | 0, _ => rw [List.take_zero, textD_nil, Nat.add_zero]
      | c + 1, hc =>
        show textD start p (b :: (escT t ++ (0 :: 0 :: rest)).take c) out = _
        rw [textD_some _ _ _ _ _ hb, textD_cut start rest t (out ++ [b]) (p + 1) c (by simp; omega) (by omega)]
        congr 2; omega

theorem decD_cut (cut : Nat) : ∀ (vs : List V) (pre : List UInt8) (acc : List V) (f : Nat), (∀ v ∈ vs, checkV v = 0) → (∀ v ∈ vs, -9223372036854775808 ≤ v.2.1 ∧ v.2.1 ≤ 9223372036854775807) → vs.length < f →
    pre.length ≤ cut → cut ≤ (pre ++ encL vs).length →
    (∃ k, k ≤ vs.length ∧ decD ((pre ++ encL vs).take cut) f pre.length acc = .inr (acc ++ vs.take k)) ∨ decD ((pre ++ encL vs).take cut) f pre.length acc = .inl (20, cut)
  | [], pre, acc, f, _, _, hf, h1, h2 => by
    obtain ⟨f, rfl⟩ : ∃ f', f = f' + 1 := ⟨f - 1, by simp at hf; omega⟩
    refine .inl ⟨0, by simp, ?_⟩
    have he : encL [] = [] := rfl
    rw [he, List.append_nil] at h2 ⊢
    rw [decD_nil (by rw [List.take_of_length_le (by omega)]; simp)]
    simp
  | v :: vs, pre, acc, f, hc, hr, hf, h1, h2 => by
    simp only [List.length_cons] at hf
    obtain ⟨f, rfl⟩ : ∃ f', f = f' + 1 := ⟨f - 1, by omega⟩
    have he : encL (v :: vs) = encV v ++ encL vs := by simp [encL]
    have hc' := fun u hu => hc u (List.mem_cons_of_mem _ hu)
    have hr' := fun u hu => hr u (List.mem_cons_of_mem _ hu)
    have hdt : ((pre ++ encL (v :: vs)).take cut).drop pre.length = (encL (v :: vs)).take (cut - pre.length) := by
      rw [List.drop_take, List.drop_left]
    have hlen : ((pre ++ encL (v :: vs)).take cut).length = cut := by rw [List.length_take]; omega
    by_cases hcp : cut = pre.length
    · refine .inl ⟨0, by simp, ?_⟩
      rw [decD_nil (by rw [hdt, hcp]; simp)]
      simp
    · obtain ⟨c, hcc⟩ : ∃ c, cut - pre.length = c + 1 := ⟨cut - pre.length - 1, by omega⟩
      rw [hcc] at hdt
      have step : ∀ (w : V) (acc' : List V), acc' = acc ++ [v] → (pre ++ encV v).length ≤ cut →
          (∃ k, k ≤ (v :: vs).length ∧ decD ((pre ++ encL (v :: vs)).take cut) f (pre ++ encV v).length acc' = .inr (acc ++ (v :: vs).take k)) ∨ decD ((pre ++ encL (v :: vs)).take cut) f (pre ++ encV v).length acc' = .inl (20, cut) := by
        intro _ acc' ha hcut
        subst ha
        have hpre : pre ++ encL (v :: vs) = (pre ++ encV v) ++ encL vs := by rw [he]; simp
        rw [hpre] at h2 ⊢
        rcases decD_cut cut vs (pre ++ encV v) (acc ++ [v]) f hc' hr' (by omega) hcut h2 with ⟨k, hk, h⟩ | h
        · exact .inl ⟨k + 1, by simp; omega, by rw [h]; simp⟩
        · exact .inr h
      rcases checkV_form (hc v (List.mem_cons_self ..)) with ⟨n, rfl⟩ | ⟨t, rfl, ht⟩
      · obtain ⟨g1, g2⟩ := hr _ (List.mem_cons_self ..)
        simp only at g1 g2
        have hN : (n + 9223372036854775808).toNat < 18446744073709551616 := by omega
        have hv : encV (1, n, []) = 1 :: numBE (n + 9223372036854775808).toNat 8 := by simp [encV]
        have hl8 := numBE_len (n + 9223372036854775808).toNat 8
        have hd : ((pre ++ encL ((1, n, []) :: vs)).take cut).drop pre.length = 1 :: (numBE (n + 9223372036854775808).toNat 8 ++ encL vs).take c := by
          rw [hdt, he, hv]; rfl
        rw [decD_cons hd, if_pos rfl]
        have hrl : ((numBE (n + 9223372036854775808).toNat 8 ++ encL vs).take c).length = c := by
          have h3 : (encL ((1, n, []) :: vs)).length = (numBE (n + 9223372036854775808).toNat 8 ++ encL vs).length + 1 := by rw [he, hv]; rfl
          rw [List.length_append] at h2
          rw [List.length_take]; omega
        rw [hrl, hlen]
        by_cases h8 : c < 8
        · rw [if_pos h8]; exact .inr rfl
        · rw [if_neg h8]
          have ht8 : ((numBE (n + 9223372036854775808).toNat 8 ++ encL vs).take c).take 8 = numBE (n + 9223372036854775808).toNat 8 := by
            rw [List.take_take, Nat.min_eq_left (by omega), ← hl8]; exact List.take_left ..
          have hg : getN (numBE (n + 9223372036854775808).toNat 8) = (n + 9223372036854775808).toNat := by
            rw [getN_numBE]; exact Nat.mod_eq_of_lt hN
          have hval : (((n + 9223372036854775808).toNat : Nat) : Int) - 9223372036854775808 = n := by omega
          rw [ht8, hg, hval]
          have hl9 : pre.length + 9 = (pre ++ encV (1, n, [])).length := by rw [hv]; simp [hl8]
          rw [hl9]
          exact step (1, n, []) _ rfl (by omega)
      · have hv : encV (2, 0, t) = 2 :: (escT t ++ [0, 0]) := by simp [encV]
        have hd : ((pre ++ encL ((2, 0, t) :: vs)).take cut).drop pre.length = 2 :: (escT t ++ (0 :: 0 :: encL vs)).take c := by
          rw [hdt, he, hv]; simp
        rw [decD_cons hd, if_neg (by decide), if_pos rfl]
        by_cases hct : c < (escT t).length + 2
        · rw [textD_cut _ _ t [] (pre.length + 1) c (by simpa using ht) hct]
          refine .inr ?_
          simp only
          congr 2; omega
        · have hsplit : (escT t ++ (0 :: 0 :: encL vs)).take c = escT t ++ (0 :: 0 :: (encL vs).take (c - (escT t).length - 2)) := by
            rw [List.take_append, List.take_of_length_le (by omega)]
            congr 1
            obtain ⟨d, hd'⟩ : ∃ d, c - (escT t).length = d + 2 := ⟨c - (escT t).length - 2, by omega⟩
            rw [hd']
            rfl
          rw [hsplit, textD_esc _ _ t [] (pre.length + 1) (by simpa using ht)]
          have hl9 : pre.length + 1 + (escT t).length + 2 = (pre ++ encV (2, 0, t)).length := by rw [hv]; simp; omega
          simp only [List.nil_append]
          rw [hl9]
          exact step (2, 0, t) _ rfl (by omega)
theorem decD_fuel (l : List UInt8) : ∀ (f g p : Nat) (acc : List V), l.length - p < f → l.length - p < g → p ≤ l.length → decD l f p acc = decD l g p acc
  | 0, g, p, acc, hf, _, _ => by omega
  | f + 1, g, p, acc, hf, hg, hp => by
    obtain ⟨g, rfl⟩ : ∃ g', g = g' + 1 := ⟨g - 1, by omega⟩
    cases hd : l.drop p with
    | nil => rw [decD_nil hd, decD_nil hd]
    | cons k r =>
      rw [decD_cons hd, decD_cons hd]
      obtain ⟨h3, h4⟩ := drop_len hd
      split
      · split
        · rfl
        · exact decD_fuel l f g (p + 9) _ (by omega) (by omega) (by omega)
      · split
        · split
          · rfl
          · rename_i t q hx
            have := textD_end r.length r [] p (p + 1) t q (Nat.le_refl _) hx
            exact decD_fuel l f g q _ (by omega) (by omega) (by omega)
        · rfl
/-- Cut short: the values so far, or refused at the end. -/
theorem dec_cut (vs : List V) (cut : Nat) (h : checkL vs = 0) (hr : ∀ v ∈ vs, -9223372036854775808 ≤ v.2.1 ∧ v.2.1 ≤ 9223372036854775807) (hc : cut ≤ (encL vs).length) :
    (∃ us, decOf ((encL vs).take cut) = .inr us ∧ us.length ≤ vs.length) ∨ decOf ((encL vs).take cut) = .inl (20, cut) := by
  have hl : ((encL vs).take cut).length = cut := by rw [List.length_take]; omega
  have hd : decOf ((encL vs).take cut) = decD ((encL vs).take cut) (vs.length + cut + 2) 0 [] := decD_fuel _ _ _ 0 [] (by omega) (by omega) (by omega)
  rw [hd]
  rcases decD_cut cut vs [] [] (vs.length + cut + 2) (checkL_zero vs h) hr (by omega) (by simp) (by simpa using hc) with ⟨k, hk, h⟩ | h
  · exact .inl ⟨vs.take k, by simpa using h, by rw [List.length_take]; omega⟩
  · exact .inr (by simpa using h)

theorem shl1_inj {a b : Nat} (ha : a < 4294967296) (hb : b < 4294967296) (h : shl1 a = shl1 b) : a = b := by
  have top : ∀ x y : Nat, x < 2147483648 → y < 2147483648 → x ^^^ 3988292384 = y → False := fun x y hx hy h => by
    have h1 : (x ^^^ 3988292384).testBit 31 = y.testBit 31 := by rw [h]
    rw [Nat.testBit_xor, Nat.testBit_lt_two_pow (show x < 2 ^ 31 from hx), Nat.testBit_lt_two_pow (show y < 2 ^ 31 from hy)] at h1
    exact absurd h1 (by decide)
  have canc : ∀ x y : Nat, x ^^^ 3988292384 = y ^^^ 3988292384 → x = y := fun x y h => by
    have := congrArg (· ^^^ 3988292384) h
    simpa [Nat.xor_assoc] using this
  unfold shl1 at h
  split at h <;> split at h
  · have := canc _ _ h; omega
  · exact (top _ _ (by omega) (by omega) h).elim
  · exact (top _ _ (by omega) (by omega) h.symm).elim
  · omega
theorem shlN_inj : ∀ (n : Nat) {a b : Nat}, a < 4294967296 → b < 4294967296 → shlN n a = shlN n b → a = b
  | 0, _, _, _, _, h => h
  | n + 1, _, _, ha, hb, h => shl1_inj ha hb (shlN_inj n (shl1_lt ha) (shl1_lt hb) h)
theorem xor_canc {a b c : Nat} (h : a ^^^ c = b ^^^ c) : a = b := by
  have := congrArg (· ^^^ c) h
  simpa [Nat.xor_assoc] using this
theorem crcB_inj {a b : Nat} (x : UInt8) (ha : a < 4294967296) (hb : b < 4294967296) (h : crcB a x = crcB b x) : a = b := by
  have hx := byte_lt x
  exact xor_canc (shlN_inj 8 (xor_lt ha (by omega)) (xor_lt hb (by omega)) h)
theorem crcB_inj' {s : Nat} {x y : UInt8} (hs : s < 4294967296) (h : crcB s x = crcB s y) : x = y := by
  have hx := byte_lt x
  have hy := byte_lt y
  have h1 := shlN_inj 8 (xor_lt hs (by omega)) (xor_lt hs (by omega)) h
  rw [Nat.xor_comm s, Nat.xor_comm s] at h1
  exact UInt8.toNat_inj.1 (xor_canc h1)
theorem crc_inj : ∀ (l : List UInt8) {a b : Nat}, a < 4294967296 → b < 4294967296 → crc a l = crc b l → a = b
  | [], _, _, _, _, h => h
  | x :: l, _, _, ha, hb, h => crcB_inj x ha hb (crc_inj l (crcB_lt ha x) (crcB_lt hb x) h)
/-- One byte turned: another sum. -/
theorem crcOf_set (l : List UInt8) (i : Nat) (x y : UInt8) (h : l[i]? = some x) (hxy : y ≠ x) : crcOf (l.set i y) ≠ crcOf l := by
  intro he
  have hl := (List.getElem?_eq_some_iff.1 h).1
  have hx := (List.getElem?_eq_some_iff.1 h).2
  have h1 : l = l.take i ++ x :: l.drop (i + 1) := by
    conv => lhs; rw [← List.take_append_drop i l]
    rw [List.drop_eq_getElem_cons hl, hx]
  have h2 : l.set i y = l.take i ++ y :: l.drop (i + 1) := List.set_eq_take_append_cons_drop .. |>.trans (by rw [if_pos hl])
  unfold crcOf at he
  have c1 := crc_lt (l.set i y) (s := 4294967295) (by decide)
  have c2 := crc_lt l (s := 4294967295) (by decide)
  have h3 : crc 4294967295 (l.set i y) = crc 4294967295 l := by omega
  rw [h2] at h3
  conv at h3 => rhs; rw [h1]
  rw [crc_append, crc_append] at h3
  have hs := crc_lt (l.take i) (s := 4294967295) (by decide)
  have h4 := crc_inj (l.drop (i + 1)) (crcB_lt hs y) (crcB_lt hs x) h3
  exact hxy (crcB_inj' hs h4)

end Go.Proofs.Ytlmlkphdalkfdaa
