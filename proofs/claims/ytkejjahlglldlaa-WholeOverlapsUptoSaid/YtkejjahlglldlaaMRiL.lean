/- The backbone of the interval tree: forks and ways, as arithmetic. No program in sight. -/
import Derived.Test.YtkejjahlglldlaaMB2
import Derived.Lib.BitFns
namespace Go.Proofs.Ytkejjahlglldlaa
open Go.RowKit Go.Lib

/-- A place in the tree of numbers: k: its level; b: which of them. -/
def bb (k b : Nat) : Nat := 2 ^ k * (2 * b + 1)
/-- Is x below that place (or at it)? -/
def Under (x k b : Nat) : Prop := 2 ^ k * (2 * b) < x ∧ x < 2 ^ k * (2 * b + 2)

theorem exists_bb : ∀ {n : Nat}, n ≠ 0 → ∃ t a, n = bb t a := by
  intro n
  induction n using Nat.strongRecOn with
  | _ n ih =>
    intro hn
    by_cases h : n % 2 = 1
    · exact ⟨0, n / 2, by unfold bb; rw [Nat.pow_zero, Nat.one_mul]; omega⟩
    · obtain ⟨t, a, hta⟩ := ih (n / 2) (by omega) (by omega)
      refine ⟨t + 1, a, ?_⟩
      have : n = 2 * (n / 2) := by omega
      rw [this, hta]
      unfold bb
      rw [Nat.pow_succ, Nat.mul_comm (2 ^ t) 2, Nat.mul_assoc]

theorem under_lt {t a k b : Nat} (hu : Under (bb t a) k b) (hne : bb t a ≠ bb k b) : t < k := by
  refine Nat.lt_of_not_le fun hk => ?_
  obtain ⟨d, rfl⟩ : ∃ d, t = k + d := ⟨t - k, by omega⟩
  have h1 : bb (k + d) a = 2 ^ k * (2 ^ d * (2 * a + 1)) := by unfold bb; rw [Nat.pow_add, Nat.mul_assoc]
  have hp : 0 < 2 ^ k := Nat.two_pow_pos k
  unfold Under at hu
  rw [h1] at hu hne
  have h2 := Nat.lt_of_mul_lt_mul_left hu.1
  have h3 := Nat.lt_of_mul_lt_mul_left hu.2
  exact hne (by unfold bb; rw [show 2 ^ d * (2 * a + 1) = 2 * b + 1 by omega])

/-- The parent. -/
theorem under_up {t a k b : Nat} (hu : Under (bb t a) k b) (ht : t < k) : Under (bb (t + 1) (a / 2)) k b ∨ bb (t + 1) (a / 2) = bb k b := by
  obtain ⟨d, rfl⟩ : ∃ d, k = t + 1 + d := ⟨k - (t + 1), by omega⟩
  have hp : 0 < 2 ^ t := Nat.two_pow_pos t
  have hpd : 0 < 2 ^ d := Nat.two_pow_pos d
  have e1 : ∀ x, 2 ^ (t + 1 + d) * x = 2 ^ t * (2 * (2 ^ d * x)) := fun x => by
    rw [Nat.pow_add, Nat.pow_succ, Nat.mul_assoc, Nat.mul_assoc]
  have e2 : ∀ x, 2 ^ (t + 1) * x = 2 ^ t * (2 * x) := fun x => by rw [Nat.pow_succ, Nat.mul_assoc]
  unfold Under bb at hu ⊢
  rw [e1, e1] at hu
  have h2 := Nat.lt_of_mul_lt_mul_left hu.1
  have h3 := Nat.lt_of_mul_lt_mul_left hu.2
  rw [e1, e1, e1, e2]
  have h4 : 2 ^ d * (2 * b) = 2 * (2 ^ d * b) := by rw [← Nat.mul_assoc, Nat.mul_comm (2 ^ d) 2, Nat.mul_assoc]
  have h5 : 2 ^ d * (2 * b + 2) = 2 * (2 ^ d * b) + 2 * 2 ^ d := by rw [Nat.mul_add, h4]; omega
  have h6 : 2 ^ d * (2 * b + 1) = 2 * (2 ^ d * b) + 2 ^ d := by rw [Nat.mul_add, h4]; omega
  rw [h4] at h2 ⊢
  rw [h5] at h3 ⊢
  rw [h6]
  by_cases hd : d = 0
  · subst hd
    right
    simp only [Nat.pow_zero] at *
    rw [show 2 * (a / 2) + 1 = 2 * (1 * b) + 1 by omega]
  · obtain ⟨d', rfl⟩ : ∃ d', d = d' + 1 := ⟨d - 1, by omega⟩
    left
    rw [Nat.pow_succ] at *
    generalize 2 ^ d' = P at *
    have e3 : P * 2 * b = 2 * (P * b) := by rw [Nat.mul_comm P 2, Nat.mul_assoc]
    rw [e3] at h2 h3 ⊢
    refine ⟨Nat.mul_lt_mul_of_pos_left (by omega) hp, Nat.mul_lt_mul_of_pos_left (by omega) hp⟩
theorem under_top {x k b : Nat} (h : Under x k b) (hk : 2 ^ k * (2 * b + 2) ≤ 1099511627776) : x ≤ 1099511627776 := by
  unfold Under at h; omega

/-- Where a period is filed. -/
def IsFork (F T f : Int) : Prop := (F = 0 ∧ f = 0) ∨ ∃ k b : Nat, f = (bb k b : Nat) ∧ 0 < F ∧ F ≤ f ∧ f < T ∧ ((2 ^ k * (2 * b) : Nat) : Int) < F ∧ T ≤ ((2 ^ k * (2 * b + 2) : Nat) : Int) ∧ 2 ^ k * (2 * b + 2) ≤ 1099511627776
def forkN (F T : Nat) : Nat := if F = 0 then 0 else (T - 1) / 2 ^ (Go.Lib.bitLen ((F - 1) ^^^ (T - 1)) - 1) * 2 ^ (Go.Lib.bitLen ((F - 1) ^^^ (T - 1)) - 1)

theorem bitLenAux_range : ∀ (f x : Nat), 0 < x → x < 2 ^ f → 2 ^ (Go.Lib.bitLenAux f x - 1) ≤ x ∧ x < 2 ^ Go.Lib.bitLenAux f x ∧ 0 < Go.Lib.bitLenAux f x
  | 0, x, h0, h1 => by simp at h1; omega
  | f + 1, x, h0, h1 => by
    have e : Go.Lib.bitLenAux (f + 1) x = 1 + Go.Lib.bitLenAux f (x / 2) := by rw [Go.Lib.bitLenAux, if_neg (by omega)]
    rw [e]
    by_cases hx : x = 1
    · subst hx
      have : Go.Lib.bitLenAux f (1 / 2) = 0 := by cases f <;> simp [Go.Lib.bitLenAux]
      rw [this]; simp
    · obtain ⟨i1, i2, i3⟩ := bitLenAux_range f (x / 2) (by omega) (by rw [Nat.pow_succ] at h1; omega)
      refine ⟨?_, ?_, by omega⟩
      · have : 1 + Go.Lib.bitLenAux f (x / 2) - 1 = (Go.Lib.bitLenAux f (x / 2) - 1) + 1 := by omega
        rw [this, Nat.pow_succ]; omega
      · rw [Nat.add_comm, Nat.pow_succ]; omega
theorem pow_div_le {k b n : Nat} (h : 2 ^ k * (2 * b + 1) < 2 ^ n) : 2 ^ k * (2 * b + 2) ≤ 2 ^ n := by
  have hk : k < n := by
    refine Nat.lt_of_not_le fun hn => ?_
    have h1 : 2 ^ n ≤ 2 ^ k := Nat.pow_le_pow_right (by omega) hn
    have h2 : 2 ^ k ≤ 2 ^ k * (2 * b + 1) := Nat.le_mul_of_pos_right _ (by omega)
    omega
  obtain ⟨d, rfl⟩ : ∃ d, n = k + 1 + d := ⟨n - (k + 1), by omega⟩
  have e : 2 ^ (k + 1 + d) = 2 ^ k * (2 * 2 ^ d) := by rw [Nat.pow_add, Nat.pow_succ, Nat.mul_assoc]
  rw [e] at h ⊢
  have := Nat.lt_of_mul_lt_mul_left h
  exact Nat.mul_le_mul_left _ (by omega)

theorem xor_one (x : Nat) : x ^^^ 1 = if x % 2 = 0 then x + 1 else x - 1 := by
  have h1 : (x ^^^ 1) / 2 = x / 2 := by
    have := Nat.shiftRight_xor_distrib (a := x) (b := 1) (i := 1)
    simpa [Nat.shiftRight_eq_div_pow] using this
  have h2 : (x ^^^ 1) % 2 = 1 - x % 2 := by
    have h3 := Nat.testBit_xor x 1 0
    rw [Nat.testBit_zero, Nat.testBit_zero, Nat.testBit_zero] at h3
    rcases Nat.mod_two_eq_zero_or_one x with h | h <;> rcases Nat.mod_two_eq_zero_or_one (x ^^^ 1) with h' | h' <;> simp [h, h'] at h3 ⊢
  split <;> omega
theorem fork_spec {F T : Int} (h0 : 0 ≤ F) (h1 : F < T) (h2 : T ≤ 1099511627776) : IsFork F T (forkN F.toNat T.toNat : Nat) := by
  by_cases hF : F = 0
  · left; subst hF; simp [forkN]
  · right
    obtain ⟨u, hu⟩ : ∃ u, F.toNat - 1 = u := ⟨_, rfl⟩
    obtain ⟨v, hv⟩ : ∃ v, T.toNat - 1 = v := ⟨_, rfl⟩
    have huv : u < v := by omega
    have hv40 : v < 1099511627776 := by omega
    have hx0 : 0 < u ^^^ v := by
      rcases Nat.eq_zero_or_pos (u ^^^ v) with h | h
      · have h3 : (u ^^^ v) ^^^ v = v := by rw [h, Nat.zero_xor]
        rw [Nat.xor_assoc, Nat.xor_self, Nat.xor_zero] at h3
        omega
      · exact h
    have hx1 : u ^^^ v < 2 ^ 64 := Nat.xor_lt_two_pow (n := 64) (by omega) (by omega)
    obtain ⟨r1, r2, r3⟩ := bitLenAux_range 64 (u ^^^ v) hx0 hx1
    obtain ⟨k, hk⟩ : ∃ k, Go.Lib.bitLenAux 64 (u ^^^ v) - 1 = k := ⟨_, rfl⟩
    have hk2 : Go.Lib.bitLenAux 64 (u ^^^ v) = k + 1 := by omega
    rw [hk] at r1
    rw [hk2] at r2
    have hp : 0 < 2 ^ k := Nat.two_pow_pos k
    have hd : (u ^^^ v) / 2 ^ k = 1 := by
      refine Nat.div_eq_of_lt_le (by omega) (by rw [Nat.pow_succ] at r2; omega)
    rw [← Nat.shiftRight_eq_div_pow, Nat.shiftRight_xor_distrib, Nat.shiftRight_eq_div_pow, Nat.shiftRight_eq_div_pow] at hd
    have hle : u / 2 ^ k ≤ v / 2 ^ k := Nat.div_le_div_right (by omega)
    have hab : ∃ b, u / 2 ^ k = 2 * b ∧ v / 2 ^ k = 2 * b + 1 := by
      generalize u / 2 ^ k = x at hd hle
      generalize v / 2 ^ k = y at hd hle
      have hy : y = x ^^^ 1 := by
        rw [← hd, ← Nat.xor_assoc, Nat.xor_self, Nat.zero_xor]
      have hm := xor_one x
      rw [hm] at hy
      split at hy
      · exact ⟨x / 2, by omega, by omega⟩
      · omega
    obtain ⟨b, hb1, hb2⟩ := hab
    have du := Nat.div_add_mod u (2 ^ k)
    have dv := Nat.div_add_mod v (2 ^ k)
    have mu := Nat.mod_lt u hp
    have mv := Nat.mod_lt v hp
    rw [hb1] at du
    rw [hb2] at dv
    have hf : (forkN F.toNat T.toNat) = bb k b := by
      unfold forkN bb Go.Lib.bitLen
      rw [if_neg (by omega), hu, hv, hk, hb2, Nat.mul_comm]
    have e1 : 2 ^ k * (2 * b + 1) = 2 ^ k * (2 * b) + 2 ^ k := by rw [Nat.mul_add]; omega
    have e2 : 2 ^ k * (2 * b + 2) = 2 ^ k * (2 * b) + 2 ^ k + 2 ^ k := by rw [Nat.mul_add]; omega
    have htop := pow_div_le (k := k) (b := b) (n := 40) (by omega)
    refine ⟨k, b, by rw [hf], ?_, ?_, ?_, ?_, ?_, htop⟩
    all_goals (try rw [hf]); (try unfold bb); omega

theorem fork_mem {F T f : Int} (h : IsFork F T f) (h1 : F < T) : F ≤ f ∧ f < T := by
  rcases h with ⟨rfl, rfl⟩ | ⟨k, b, _, _, h2, h3, _⟩
  · exact ⟨Int.le_refl _, h1⟩
  · exact ⟨h2, h3⟩

end Go.Proofs.Ytkejjahlglldlaa
