/- The plain law of orders: values stand in the order of their bytes; Compare is an order. No program in sight. -/
import Derived.Test.YtlmlkphdalkfdaaRnd
namespace Go.Proofs.Ytlmlkphdalkfdaa

theorem bl_trans : ∀ (x y z : List UInt8), Op.bytesLess x y = true → Op.bytesLess y z = true → Op.bytesLess x z = true
  | _, [], _, h, _ => by simp [Op.bytesLess] at h
  | _, _ :: _, [], _, h => by simp [Op.bytesLess] at h
  | [], _ :: _, _ :: _, _, _ => by simp [Op.bytesLess]
  | a :: x, b :: y, c :: z, h1, h2 => by
    unfold Op.bytesLess at h1 h2 ⊢
    simp only [Bool.or_eq_true, Bool.and_eq_true, decide_eq_true_eq, beq_iff_eq] at h1 h2 ⊢
    rcases h1 with h1 | ⟨rfl, h1⟩
    · rcases h2 with h2 | ⟨rfl, h2⟩
      · exact .inl (UInt8.lt_trans h1 h2)
      · exact .inl h1
    · rcases h2 with h2 | ⟨rfl, h2⟩
      · exact .inl h2
      · exact .inr ⟨rfl, bl_trans x y z h1 h2⟩
theorem bl_total : ∀ (x y : List UInt8), x ≠ y → Op.bytesLess x y = false → Op.bytesLess y x = true
  | [], [], h, _ => absurd rfl h
  | [], _ :: _, _, h => by simp [Op.bytesLess] at h
  | _ :: _, [], _, _ => by simp [Op.bytesLess]
  | a :: x, b :: y, h, h1 => by
    unfold Op.bytesLess at h1 ⊢
    simp only [Bool.or_eq_false_iff, decide_eq_false_iff_not, Bool.and_eq_false_iff, beq_eq_false_iff_ne] at h1
    simp only [Bool.or_eq_true, Bool.and_eq_true, decide_eq_true_eq, beq_iff_eq]
    by_cases hab : a = b
    · subst hab
      refine .inr ⟨rfl, bl_total x y (fun e => h (by rw [e])) (h1.2.resolve_left (fun h => h rfl))⟩
    · refine .inl ?_
      have h2 : ¬ a.toNat < b.toNat := fun h => h1.1 (UInt8.lt_iff_toNat_lt.2 h)
      have h3 : a.toNat ≠ b.toNat := fun h => hab (UInt8.toNat_inj.1 h)
      exact UInt8.lt_iff_toNat_lt.2 (by omega)
theorem bl_asymm (x y : List UInt8) (h : Op.bytesLess x y = true) : Op.bytesLess y x = false := by
  cases h2 : Op.bytesLess y x with
  | false => rfl
  | true => have := bl_trans x y x h h2; rw [bytesLess_self] at this; cases this

/-- u stands ahead of v. -/
def Lt (u v : V) : Prop := u.1 < v.1 ∨ (u.1 = v.1 ∧ (u.2.1 < v.2.1 ∨ (u.2.1 = v.2.1 ∧ Op.bytesLess u.2.2 v.2.2 = true)))
instance (u v : V) : Decidable (Lt u v) := by unfold Lt; exact inferInstance
theorem Lt.irrefl (u : V) : ¬ Lt u u := by
  rintro (h | ⟨_, h | ⟨_, h⟩⟩)
  · omega
  · omega
  · rw [bytesLess_self] at h; cases h
theorem Lt.trans {u v x : V} (h1 : Lt u v) (h2 : Lt v x) : Lt u x := by
  rcases h1 with h1 | ⟨e1, h1 | ⟨e2, h1⟩⟩ <;> rcases h2 with h2 | ⟨g1, h2 | ⟨g2, h2⟩⟩
  · exact .inl (by omega)
  · exact .inl (by omega)
  · exact .inl (by omega)
  · exact .inl (by omega)
  · exact .inr ⟨by omega, .inl (by omega)⟩
  · exact .inr ⟨by omega, .inl (by omega)⟩
  · exact .inl (by omega)
  · exact .inr ⟨by omega, .inl (by omega)⟩
  · exact .inr ⟨by omega, .inr ⟨by omega, bl_trans _ _ _ h1 h2⟩⟩
theorem Lt.total {u v : V} (h : u ≠ v) (h2 : ¬ Lt u v) : Lt v u := by
  obtain ⟨k, n, t⟩ := u
  obtain ⟨k', n', t'⟩ := v
  unfold Lt at *
  simp only at *
  by_cases hk : k = k'
  · subst hk
    by_cases hn : n = n'
    · subst hn
      have ht : t ≠ t' := fun e => h (by rw [e])
      have hb : Op.bytesLess t t' = false := by
        cases hb : Op.bytesLess t t' with
        | false => rfl
        | true => exact absurd (.inr ⟨rfl, .inr ⟨rfl, hb⟩⟩) h2
      exact .inr ⟨rfl, .inr ⟨rfl, bl_total t t' ht hb⟩⟩
    · exact .inr ⟨rfl, .inl (by
        have : ¬ n < n' := fun h => h2 (.inr ⟨rfl, .inl h⟩)
        omega)⟩
  · exact .inl (by
      have : ¬ k < k' := fun h => h2 (.inl h)
      omega)
theorem oneV_lt {u v : V} (h : Lt u v) : oneV u v = -1 := if_pos h
theorem oneV_eq (u : V) : oneV u u = 0 := oneV_self u (bytesLess_self _)
theorem oneV_gt {u v : V} (h : Lt v u) : oneV u v = 1 := by
  have h1 : ¬ Lt u v := fun h2 => Lt.irrefl _ (Lt.trans h h2)
  have h2 : u ≠ v := fun e => by subst e; exact Lt.irrefl _ h
  unfold Lt at h1
  unfold oneV
  rw [if_neg h1, if_neg h2]
theorem oneV_cases (u v : V) : (Lt u v ∧ oneV u v = -1 ∧ oneV v u = 1) ∨ (u = v ∧ oneV u v = 0) ∨ (Lt v u ∧ oneV u v = 1 ∧ oneV v u = -1) := by
  by_cases h : u = v
  · subst h; exact .inr (.inl ⟨rfl, oneV_eq u⟩)
  · by_cases h2 : Lt u v
    · exact .inl ⟨h2, oneV_lt h2, oneV_gt h2⟩
    · have h3 := Lt.total h h2
      exact .inr (.inr ⟨h3, oneV_gt h3, oneV_lt h3⟩)

theorem cmpL_neg : ∀ (us vs : List V), cmpL vs us = - cmpL us vs
  | [], [] => rfl
  | [], _ :: _ => rfl
  | _ :: _, [] => rfl
  | u :: us, v :: vs => by
    have ih := cmpL_neg us vs
    rw [cmpL, cmpL]
    rcases oneV_cases u v with ⟨_, h1, h2⟩ | ⟨rfl, h1⟩ | ⟨_, h1, h2⟩
    · rw [h1, h2]; simp
    · rw [h1]; simpa using ih
    · rw [h1, h2]; simp
theorem cmpL_three : ∀ (us vs : List V), cmpL us vs = -1 ∨ cmpL us vs = 0 ∨ cmpL us vs = 1
  | [], [] => .inr (.inl rfl)
  | [], _ :: _ => .inl rfl
  | _ :: _, [] => .inr (.inr rfl)
  | u :: us, v :: vs => by
    have ih := cmpL_three us vs
    rw [cmpL]
    rcases oneV_cases u v with ⟨_, h1, h2⟩ | ⟨rfl, h1⟩ | ⟨_, h1, h2⟩
    · rw [h1]; simp
    · rw [h1]; simpa using ih
    · rw [h1]; simp
theorem cmpL_trans : ∀ (a b c : List V), cmpL a b ≤ 0 → cmpL b c ≤ 0 → cmpL a c ≤ 0
  | [], _, [], _, _ => by simp [cmpL]
  | [], _, _ :: _, _, _ => by simp [cmpL]
  | _ :: _, [], _, h, _ => by simp [cmpL] at h
  | _ :: _, _ :: _, [], _, h => by simp [cmpL] at h
  | u :: us, v :: vs, x :: xs, h1, h2 => by
    have ih := cmpL_trans us vs xs
    rw [cmpL] at h1 h2 ⊢
    rcases oneV_cases u v with ⟨g1, e1, _⟩ | ⟨rfl, e1⟩ | ⟨_, e1, _⟩
    · rcases oneV_cases v x with ⟨g2, e2, _⟩ | ⟨rfl, e2⟩ | ⟨_, e2, _⟩
      · rw [oneV_lt (Lt.trans g1 g2)]; simp
      · rw [e1]; simp
      · rw [e2] at h2; simp at h2
    · rw [e1] at h1
      simp only [if_true] at h1
      rcases oneV_cases u x with ⟨g2, e2, _⟩ | ⟨rfl, e2⟩ | ⟨_, e2, _⟩
      · rw [e2]; simp
      · rw [e2] at h2 ⊢
        simp only [if_true] at h2 ⊢
        exact ih h1 h2
      · rw [e2] at h2; simp at h2
    · rw [e1] at h1; simp at h1
theorem cmpL_eq : ∀ (us vs : List V), cmpL us vs = 0 → us = vs
  | [], [], _ => rfl
  | [], _ :: _, h => by simp [cmpL] at h
  | _ :: _, [], h => by simp [cmpL] at h
  | u :: us, v :: vs, h => by
    rw [cmpL] at h
    rcases oneV_cases u v with ⟨_, h1, h2⟩ | ⟨rfl, h1⟩ | ⟨_, h1, h2⟩
    · rw [h1] at h; simp at h
    · rw [h1] at h
      simp only [if_true] at h
      rw [cmpL_eq us vs h]
    · rw [h1] at h; simp at h

theorem bl_cons (a b : UInt8) (x y : List UInt8) : Op.bytesLess (a :: x) (b :: y) = (decide (a < b) || (a == b && Op.bytesLess x y)) := by
  conv => lhs; unfold Op.bytesLess
theorem bl_pre : ∀ (p x y : List UInt8), Op.bytesLess (p ++ x) (p ++ y) = Op.bytesLess x y
  | [], _, _ => rfl
  | a :: p, x, y => by
    show Op.bytesLess (a :: (p ++ x)) (a :: (p ++ y)) = _
    rw [bl_cons, bl_pre p x y]
    have : ¬ a < a := UInt8.lt_irrefl a
    simp [this]
theorem bl_len : ∀ (x y X Y : List UInt8), x.length = y.length → x ≠ y → Op.bytesLess (x ++ X) (y ++ Y) = Op.bytesLess x y
  | [], [], _, _, _, h => absurd rfl h
  | [], _ :: _, _, _, h, _ => by simp at h
  | _ :: _, [], _, _, h, _ => by simp at h
  | a :: x, b :: y, X, Y, h, hne => by
    simp only [List.length_cons, Nat.add_right_cancel_iff] at h
    show Op.bytesLess (a :: (x ++ X)) (b :: (y ++ Y)) = _
    rw [bl_cons, bl_cons]
    by_cases hab : a = b
    · subst hab
      rw [bl_len x y X Y h (fun e => hne (by rw [e]))]
    · have : (a == b) = false := by simp [hab]
      rw [this]; simp
theorem bl_esc : ∀ (t t' X Y : List UInt8), t ≠ t' → Op.bytesLess (escT t ++ (0 :: 0 :: X)) (escT t' ++ (0 :: 0 :: Y)) = Op.bytesLess t t'
  | [], [], _, _, h => absurd rfl h
  | [], b :: t', X, Y, _ => by
    have he : escT (b :: t') = esc1 b ++ escT t' := by simp [escT]
    rw [he]
    by_cases hb : b = 0
    · subst hb
      rfl
    · have h1 : esc1 b = [b] := if_neg hb
      rw [h1]
      show Op.bytesLess (0 :: 0 :: X) (b :: (escT t' ++ (0 :: 0 :: Y))) = true
      rw [bl_cons]
      have : (0 : UInt8) < b := UInt8.lt_iff_toNat_lt.2 (by
        have : b.toNat ≠ 0 := fun e => hb (UInt8.toNat_inj.1 (by simpa using e))
        simp; omega)
      simp [this]
  | b :: t, [], X, Y, _ => by
    have he : escT (b :: t) = esc1 b ++ escT t := by simp [escT]
    rw [he]
    by_cases hb : b = 0
    · subst hb
      rfl
    · have h1 : esc1 b = [b] := if_neg hb
      rw [h1]
      show Op.bytesLess (b :: (escT t ++ (0 :: 0 :: X))) (0 :: 0 :: Y) = false
      rw [bl_cons]
      have h2 : ¬ b < 0 := by rw [UInt8.lt_iff_toNat_lt]; simp
      simp [h2, hb]
  | b :: t, b' :: t', X, Y, h => by
    have he : escT (b :: t) = esc1 b ++ escT t := by simp [escT]
    have he' : escT (b' :: t') = esc1 b' ++ escT t' := by simp [escT]
    by_cases hbb : b = b'
    · subst hbb
      have hne : t ≠ t' := fun e => h (by rw [e])
      rw [he, he', List.append_assoc, List.append_assoc, bl_pre, bl_esc t t' X Y hne]
      have := bl_pre [b] t t'
      exact this.symm
    · rw [he, he']
      have hq : (b == b') = false := by simp [hbb]
      by_cases hb : b = 0
      · subst hb
        have hb' : b' ≠ 0 := fun e => hbb e.symm
        have h1 : esc1 b' = [b'] := if_neg hb'
        have h2 : esc1 0 = [0, 255] := rfl
        rw [h1, h2]
        show Op.bytesLess (0 :: 255 :: (escT t ++ (0 :: 0 :: X))) (b' :: (escT t' ++ (0 :: 0 :: Y))) = _
        rw [bl_cons, bl_cons]
        rw [hq]; simp
      · have h1 : esc1 b = [b] := if_neg hb
        rw [h1]
        by_cases hb' : b' = 0
        · subst hb'
          have h2 : esc1 0 = [0, 255] := rfl
          rw [h2]
          show Op.bytesLess (b :: (escT t ++ (0 :: 0 :: X))) (0 :: 255 :: (escT t' ++ (0 :: 0 :: Y))) = _
          rw [bl_cons, bl_cons]
          rw [hq]; simp
        · have h2 : esc1 b' = [b'] := if_neg hb'
          rw [h2]
          show Op.bytesLess (b :: (escT t ++ (0 :: 0 :: X))) (b' :: (escT t' ++ (0 :: 0 :: Y))) = _
          rw [bl_cons, bl_cons]
          rw [hq]; simp

theorem bl_enc : ∀ (us vs : List V), (∀ u ∈ us, checkV u = 0 ∧ -9223372036854775808 ≤ u.2.1 ∧ u.2.1 ≤ 9223372036854775807) → (∀ v ∈ vs, checkV v = 0 ∧ -9223372036854775808 ≤ v.2.1 ∧ v.2.1 ≤ 9223372036854775807) →
    Op.bytesLess (encL us) (encL vs) = decide (cmpL us vs < 0)
  | [], [], _, _ => rfl
  | [], v :: vs, _, _ => by
    have he : encL (v :: vs) = encV v ++ encL vs := by simp [encL]
    have h0 : encL [] = [] := rfl
    rw [he, h0]
    obtain ⟨x, r, hx⟩ : ∃ x r, encV v = x :: r := by unfold encV; split <;> exact ⟨_, _, rfl⟩
    rw [hx]
    simp [Op.bytesLess, cmpL]
  | u :: us, [], _, _ => by
    have h0 : encL [] = [] := rfl
    rw [h0]
    have : ∀ x : List UInt8, Op.bytesLess x [] = false := fun x => by cases x <;> rfl
    rw [this]; simp [cmpL]
  | u :: us, v :: vs, hu, hv => by
    have he : encL (u :: us) = encV u ++ encL us := by simp [encL]
    have he' : encL (v :: vs) = encV v ++ encL vs := by simp [encL]
    have hu' := fun x hx => hu x (List.mem_cons_of_mem _ hx)
    have hv' := fun x hx => hv x (List.mem_cons_of_mem _ hx)
    rw [he, he', cmpL]
    by_cases heq : u = v
    · subst heq
      rw [bl_pre, bl_enc us vs hu' hv', if_pos (oneV_eq u)]
    · have hone : (oneV u v < 0) ↔ Lt u v := by
        rcases oneV_cases u v with ⟨h, h1, _⟩ | ⟨rfl, h1⟩ | ⟨h, h1, _⟩
        · rw [h1]; exact ⟨fun _ => h, fun _ => by decide⟩
        · exact absurd rfl heq
        · rw [h1]; exact ⟨fun h => by omega, fun h2 => absurd (Lt.trans h h2) (Lt.irrefl _)⟩
      have hnz : oneV u v ≠ 0 := by
        rcases oneV_cases u v with ⟨h, h1, _⟩ | ⟨rfl, h1⟩ | ⟨h, h1, _⟩
        · omega
        · exact absurd rfl heq
        · omega
      rw [if_neg hnz]
      have hgoal : Op.bytesLess (encV u ++ encL us) (encV v ++ encL vs) = decide (Lt u v) := by
        obtain ⟨cu, u1, u2⟩ := hu u (List.mem_cons_self ..)
        obtain ⟨cv, v1, v2⟩ := hv v (List.mem_cons_self ..)
        rcases checkV_form cu with ⟨n, rfl⟩ | ⟨t, rfl, _⟩ <;> rcases checkV_form cv with ⟨m, rfl⟩ | ⟨t', rfl, _⟩
        · simp only at u1 u2 v1 v2
          have hn : n ≠ m := fun e => heq (by rw [e])
          have e1 : encV (1, n, []) = [1] ++ numBE (n + 9223372036854775808).toNat 8 := by simp [encV]
          have e2 : encV (1, m, []) = [1] ++ numBE (m + 9223372036854775808).toNat 8 := by simp [encV]
          have hless := bytesLess_num (n + 9223372036854775808).toNat (m + 9223372036854775808).toNat (by omega) (by omega)
          have hne : numBE (n + 9223372036854775808).toNat 8 ≠ numBE (m + 9223372036854775808).toNat 8 := fun e => by
            have := congrArg getN e
            rw [getN_numBE, getN_numBE, Nat.mod_eq_of_lt (show (n + 9223372036854775808).toNat < 256 ^ 8 by show _ < 18446744073709551616; omega), Nat.mod_eq_of_lt (show (m + 9223372036854775808).toNat < 256 ^ 8 by show _ < 18446744073709551616; omega)] at this
            omega
          rw [e1, e2, List.append_assoc, List.append_assoc, bl_pre, bl_len _ _ _ _ (by rw [numBE_len, numBE_len]) hne, hless]
          rw [Bool.eq_iff_iff]
          simp only [decide_eq_true_eq, Lt]
          constructor
          · intro h; exact .inr ⟨trivial, .inl (by omega)⟩
          · rintro (h | ⟨_, h | ⟨h, _⟩⟩)
            · omega
            · omega
            · exact absurd h hn
        · have : Lt (1, n, []) (2, 0, t') := .inl (by simp)
          simp only [this, decide_true]
          simp [encV, Op.bytesLess]
        · have : ¬ Lt (2, 0, t) (1, m, []) := by
            rintro (h | ⟨h, _⟩)
            · simp only at h; omega
            · simp only at h; omega
          simp only [this, decide_false]
          simp [encV, Op.bytesLess]
        · have ht : t ≠ t' := fun e => heq (by rw [e])
          have e1 : encV (2, 0, t) ++ encL us = [2] ++ (escT t ++ (0 :: 0 :: encL us)) := by simp [encV]
          have e2 : encV (2, 0, t') ++ encL vs = [2] ++ (escT t' ++ (0 :: 0 :: encL vs)) := by simp [encV]
          rw [e1, e2, bl_pre, bl_esc t t' _ _ ht]
          rw [Bool.eq_iff_iff]
          simp only [decide_eq_true_eq, Lt]
          constructor
          · intro h; exact .inr ⟨trivial, .inr ⟨trivial, h⟩⟩
          · rintro (h | ⟨_, h | ⟨_, h⟩⟩)
            · omega
            · omega
            · exact h
      rw [hgoal]
      rw [Bool.eq_iff_iff]
      simp only [decide_eq_true_eq]
      exact hone.symm
theorem enc_inj (us vs : List V) (hu : ∀ u ∈ us, checkV u = 0 ∧ -9223372036854775808 ≤ u.2.1 ∧ u.2.1 ≤ 9223372036854775807) (hv : ∀ v ∈ vs, checkV v = 0 ∧ -9223372036854775808 ≤ v.2.1 ∧ v.2.1 ≤ 9223372036854775807) :
    (encL us == encL vs) = decide (cmpL us vs = 0) := by
  have h1 := bl_enc us vs hu hv
  have h2 := bl_enc vs us hv hu
  rw [Bool.eq_iff_iff, beq_iff_eq, decide_eq_true_eq]
  constructor
  · intro h
    rw [h, bytesLess_self] at h1
    rw [h, bytesLess_self] at h2
    rw [cmpL_neg us vs] at h2
    have h3 := of_decide_eq_false h1.symm
    have h4 := of_decide_eq_false h2.symm
    omega
  · intro h
    rw [cmpL_eq us vs h]

end Go.Proofs.Ytlmlkphdalkfdaa
