/- ritree.key, Fork, way: walked. -/
import Derived.Test.YtkejjahlglldlaaMC
import Derived.Test.YtkejjahlglldlaaMShB
import Derived.Test.YtkejjahlglldlaaMIns
import Derived.Test.YtkejjahlglldlaaMRiL
import Derived.Laws.Bits64
namespace Go.Proofs.Ytkejjahlglldlaa
open Go.RowKit Go.Lib

theorem bits_nat2 (op : BinOp) (x y : Nat) (hx : x < 9223372036854775808) (hy : y < 9223372036854775808) :
    bits .and .i64 (x : Int) (y : Int) = ((x &&& y : Nat) : Int) ∧ bits .or .i64 (x : Int) (y : Int) = ((x ||| y : Nat) : Int) := by
  have h1 : (BitVec.ofInt 64 (x : Int)).toNat = x := by rw [BitVec.toNat_ofInt]; omega
  have h2 : (BitVec.ofInt 64 (y : Int)).toNat = y := by rw [BitVec.toNat_ofInt]; omega
  have h3 : x &&& y ≤ x := Nat.and_le_left
  have h4 : x ||| y < 2 ^ 63 := Nat.or_lt_two_pow (by omega) (by omega)
  constructor
  · show IntKind.i64.wrap ((BitVec.ofInt 64 (x : Int) &&& BitVec.ofInt 64 (y : Int)).toNat : Int) = _
    rw [BitVec.toNat_and, h1, h2, IntKind.wrap_i64]; omega
  · show IntKind.i64.wrap ((BitVec.ofInt 64 (x : Int) ||| BitVec.ofInt 64 (y : Int)).toNat : Int) = _
    rw [BitVec.toNat_or, h1, h2, IntKind.wrap_i64]; omega
theorem and_compl {a k : Nat} (h : a < 2 ^ k) : a &&& (2 ^ k - (a + 1)) = 0 := by
  refine Nat.eq_of_testBit_eq fun i => ?_
  rw [Nat.testBit_and, Nat.testBit_two_pow_sub_succ h, Nat.zero_testBit]
  cases a.testBit i <;> simp
/-- The lowest bit that is set. -/
theorem low_bit {t a : Nat} (h : bb t a < 9223372036854775808) : bits .and .i64 ((bb t a : Nat) : Int) (IntKind.i64.wrap (-((bb t a : Nat) : Int))) = ((2 ^ t : Nat) : Int) := by
  have hp : 0 < 2 ^ t := Nat.two_pow_pos t
  have hle : 2 ^ t ≤ bb t a := Nat.le_mul_of_pos_right _ (by omega)
  have ht : t < 63 := by
    refine Nat.lt_of_not_le fun hn => ?_
    have : 2 ^ 63 ≤ 2 ^ t := Nat.pow_le_pow_right (by omega) hn
    omega
  have hw : IntKind.i64.wrap (-((bb t a : Nat) : Int)) = -((bb t a : Nat) : Int) := by rw [IntKind.wrap_i64]; omega
  have h1 : (BitVec.ofInt 64 ((bb t a : Nat) : Int)).toNat = bb t a := by rw [BitVec.toNat_ofInt]; omega
  have h2 : (BitVec.ofInt 64 (-((bb t a : Nat) : Int))).toNat = 2 ^ 64 - bb t a := by rw [BitVec.toNat_ofInt]; omega
  rw [hw]
  show IntKind.i64.wrap ((BitVec.ofInt 64 ((bb t a : Nat) : Int) &&& BitVec.ofInt 64 (-((bb t a : Nat) : Int))).toNat : Int) = _
  rw [BitVec.toNat_and, h1, h2]
  obtain ⟨d, hd⟩ : ∃ d, 64 = t + (d + 1) := ⟨63 - t, by omega⟩
  have e1 : 2 ^ 64 = 2 ^ t * (2 * 2 ^ d) := by rw [hd, Nat.pow_add, Nat.pow_succ, Nat.mul_comm (2 ^ d) 2]
  have ha : a < 2 ^ d := by
    unfold bb at h
    have : 2 ^ t * (2 * a + 1) < 2 ^ t * (2 * 2 ^ d) := by omega
    have := Nat.lt_of_mul_lt_mul_left this
    omega
  have e2 : 2 ^ 64 - bb t a = 2 ^ t * (2 * (2 ^ d - (a + 1)) + 1) := by
    rw [e1]; unfold bb
    rw [← Nat.mul_sub]
    congr 1; omega
  have e3 : bb t a &&& (2 ^ 64 - bb t a) = 2 ^ t := by
    rw [e2]
    unfold bb
    rw [Nat.mul_comm (2 ^ t), Nat.mul_comm (2 ^ t), ← Nat.shiftLeft_eq, ← Nat.shiftLeft_eq, ← Nat.shiftLeft_and_distrib]
    have e4 : (2 * a + 1) &&& (2 * (2 ^ d - (a + 1)) + 1) = 1 := by
      refine Nat.eq_of_testBit_eq fun i => ?_
      cases i with
      | zero => simp [Nat.testBit_and, Nat.testBit_zero]
      | succ i =>
        rw [Nat.testBit_and, Nat.testBit_succ, Nat.testBit_succ, Nat.testBit_succ, show (2 * a + 1) / 2 = a by omega, show (2 * (2 ^ d - (a + 1)) + 1) / 2 = 2 ^ d - (a + 1) by omega, ← Nat.testBit_and, and_compl ha]
    rw [e4, Nat.shiftLeft_eq, Nat.one_mul]
  rw [e3, IntKind.wrap_i64]
  omega
theorem low_off {t a : Nat} (h : bb t a < 9223372036854775808) : bits .andNot .i64 ((bb t a : Nat) : Int) ((2 ^ t : Nat) : Int) = ((2 ^ (t + 1) * a : Nat) : Int) := by
  have hp : 0 < 2 ^ t := Nat.two_pow_pos t
  have hle : 2 ^ t ≤ bb t a := Nat.le_mul_of_pos_right _ (by omega)
  have h1 : (BitVec.ofInt 64 ((bb t a : Nat) : Int)).toNat = bb t a := by rw [BitVec.toNat_ofInt]; omega
  have h2 : (BitVec.ofInt 64 ((2 ^ t : Nat) : Int)).toNat = 2 ^ t := by rw [BitVec.toNat_ofInt]; omega
  show IntKind.i64.wrap ((BitVec.ofInt 64 ((bb t a : Nat) : Int) &&& ~~~ BitVec.ofInt 64 ((2 ^ t : Nat) : Int)).toNat : Int) = _
  rw [BitVec.toNat_and, BitVec.toNat_not, h1, h2]
  have e0 : bb t a = 2 ^ (t + 1) * a + 2 ^ t := by unfold bb; rw [Nat.mul_add, Nat.pow_succ, Nat.mul_assoc, Nat.mul_one]
  have e3 : bb t a &&& (2 ^ 64 - 1 - 2 ^ t) = 2 ^ (t + 1) * a := by
    refine Nat.eq_of_testBit_eq fun i => ?_
    rw [Nat.testBit_and, show 2 ^ 64 - 1 - 2 ^ t = 2 ^ 64 - (2 ^ t + 1) by omega, Nat.testBit_two_pow_sub_succ (by omega)]
    have hb : bb t a = (2 * a + 1) <<< t := by rw [Nat.shiftLeft_eq, Nat.mul_comm]; rfl
    have hc : 2 ^ (t + 1) * a = a <<< (t + 1) := by rw [Nat.shiftLeft_eq, Nat.mul_comm]
    rw [hb, hc, Nat.testBit_shiftLeft, Nat.testBit_shiftLeft, Nat.testBit_two_pow]
    by_cases h3 : i = t
    · subst h3
      simp
      intro hh; omega
    · by_cases h4 : t ≤ i
      · obtain ⟨j, rfl⟩ : ∃ j, i = t + 1 + j := ⟨i - (t + 1), by omega⟩
        have e5 : t + 1 + j - t = j + 1 := by omega
        have e6 : t + 1 + j - (t + 1) = j := by omega
        rw [e5, e6, Nat.testBit_succ, show (2 * a + 1) / 2 = a by omega]
        by_cases h5 : t + 1 + j < 64
        · have : t ≠ t + 1 + j := by omega
          simp [h5, this, h4]
        · have h6 : a.testBit j = false := by
            refine Nat.testBit_lt_two_pow ?_
            have h7 : 2 ^ (t + 1) * a < 2 ^ (t + 1) * 2 ^ j := by
              rw [← Nat.pow_add]
              have : 2 ^ 64 ≤ 2 ^ (t + 1 + j) := Nat.pow_le_pow_right (by omega) (by omega)
              omega
            exact Nat.lt_of_mul_lt_mul_left h7
          simp [h6]
      · have h6 : ¬ t + 1 ≤ i := by omega
        simp [h4, h6]
  rw [e3, IntKind.wrap_i64]
  omega
theorem low_up {t a : Nat} (h : bb t a < 4611686018427387904) : bits .or .i64 ((2 ^ (t + 1) * a : Nat) : Int) ((2 ^ (t + 1) : Nat) : Int) = ((bb (t + 1) (a / 2) : Nat) : Int) := by
  have hp : 0 < 2 ^ t := Nat.two_pow_pos t
  have hle : 2 ^ t ≤ bb t a := Nat.le_mul_of_pos_right _ (by omega)
  have e0 : bb t a = 2 ^ (t + 1) * a + 2 ^ t := by unfold bb; rw [Nat.mul_add, Nat.pow_succ, Nat.mul_assoc, Nat.mul_one]
  rw [(bits_nat2 .or _ _ (by omega) (by rw [Nat.pow_succ]; omega)).2]
  congr 1
  unfold bb
  have e1 : 2 ^ (t + 1) * a = a <<< (t + 1) := by rw [Nat.shiftLeft_eq, Nat.mul_comm]
  have e2 : 2 ^ (t + 1) = 1 <<< (t + 1) := by rw [Nat.shiftLeft_eq, Nat.one_mul]
  have e3 : 2 ^ (t + 1) * (2 * (a / 2) + 1) = (2 * (a / 2) + 1) <<< (t + 1) := by rw [Nat.shiftLeft_eq, Nat.mul_comm]
  rw [e3, e1]
  conv => lhs; rhs; rw [e2]
  rw [← Nat.shiftLeft_or_distrib]
  congr 1
  refine Nat.eq_of_testBit_eq fun i => ?_
  cases i with
  | zero => simp [Nat.testBit_or, Nat.testBit_zero]
  | succ i =>
    rw [Nat.testBit_or, Nat.testBit_succ, Nat.testBit_succ, Nat.testBit_succ, show (2 * (a / 2) + 1) / 2 = a / 2 by omega]
    simp
theorem xor_topc {c : Int} (hc : -9223372036854775808 ≤ c ∧ c < 9223372036854775808) : bits .xor .u64 (IntKind.u64.wrap c) 9223372036854775808 = (((c + 9223372036854775808).toNat : Nat) : Int) := by
  obtain ⟨x, hx⟩ : ∃ x : Nat, IntKind.u64.wrap c = (x : Int) := ⟨(IntKind.u64.wrap c).toNat, by rw [IntKind.wrap_u64]; omega⟩
  have hx2 : (x : Int) = c % 18446744073709551616 := by rw [← hx, IntKind.wrap_u64]
  rw [hx]
  have h1 : (BitVec.ofInt 64 (x : Int)).toNat = x := by rw [BitVec.toNat_ofInt]; omega
  show IntKind.u64.wrap ((BitVec.ofInt 64 (x : Int) ^^^ BitVec.ofInt 64 9223372036854775808).toNat : Int) = _
  rw [BitVec.toNat_xor, h1, show (BitVec.ofInt 64 9223372036854775808).toNat = 2 ^ 63 by decide]
  have e1 : (x ^^^ 2 ^ 63) % 2 ^ 63 = x % 2 ^ 63 := by
    rw [Nat.xor_mod_two_pow]; simp
  have e2 : (x ^^^ 2 ^ 63) / 2 ^ 63 = (x / 2 ^ 63) ^^^ 1 := by
    rw [← Nat.shiftRight_eq_div_pow, Nat.shiftRight_xor_distrib, Nat.shiftRight_eq_div_pow, Nat.shiftRight_eq_div_pow]
  rw [xor_one] at e2
  rw [IntKind.wrap_u64]
  have : x < 2 ^ 64 := by omega
  split at e2 <;> omega

set_option maxRecDepth 100000 in
set_option maxHeartbeats 4000000 in
theorem key_ok (a b : Nat) (c : Int) (w : World) (ha : a < 9223372036854775808) (hb : b < 9223372036854775808) (hc : -9223372036854775808 ≤ c ∧ c < 9223372036854775808) :
    Calls Try.prog 51 #[.int .i64 (a : Int), .int .i64 (b : Int), .int .i64 c] w fun e w' => e = .returned (str (numBE a 8 ++ numBE b 8 ++ numBE (c + 9223372036854775808).toNat 8)) ∧ Ext w w' := by
  have hwa : IntKind.u64.wrap (a : Int) = (a : Int) := by rw [IntKind.wrap_u64]; omega
  have hwb : IntKind.u64.wrap (b : Int) = (b : Int) := by rw [IntKind.wrap_u64]; omega
  have hx := xor_topc hc
  obtain ⟨d, hd⟩ : ∃ d, (c + 9223372036854775808).toNat = d := ⟨_, rfl⟩
  rw [hd] at hx ⊢
  have hd2 : d < 18446744073709551616 := by omega
  have hp8 : putN 8 = 8 := by decide
  clear hd
  go_enter Try.func51, Try.ntmps51
  go_wp2_with fail
  refine (Put_ok _ [] a 8 w (BytesAt.nil w) (by omega) (by simp) (by omega) (by omega)).mono ?_
  rintro e w1 ⟨g1, c1, rfl, hB1, -, hE1⟩
  have hA1 := hB1.at
  simp only [hp8, List.length_nil, Nat.zero_add, List.nil_append] at hA1 ⊢
  clear hB1
  go_wp2_with fail
  refine (Put_ok _ (numBE a 8) b 8 w1 hA1 (by omega) (by simp [numBE_len]) (by omega) (by omega)).mono ?_
  clear hA1
  rintro e w2 ⟨g2, c2, rfl, hB2, -, hE2⟩
  have hA2 := hB2.at
  simp only [hp8, numBE_len] at hA2 ⊢
  clear hB2
  go_wp2_with fail
  refine (Put_ok _ (numBE a 8 ++ numBE b 8) d 8 w2 hA2 hd2 (by simp [numBE_len]) (by omega) (by omega)).mono ?_
  clear hA2
  rintro e w3 ⟨g3, c3, rfl, hB3, -, hE3⟩
  have hcv := conv_at hB3.at
  simp only [hp8, numBE_len, List.length_append] at hcv ⊢
  clear hB3
  go_wp2
  go_ret
  exact ⟨rfl, hE1.trans (hE2.trans hE3)⟩

theorem perV_box (q : Per) (w : World) : True := trivial
set_option maxRecDepth 100000 in
set_option maxHeartbeats 4000000 in
theorem Fork_no (q : Per) (w : World) (h : ¬ okP q) : Calls Try.prog 50 #[perV q] w fun e w' => e = .returned (.tuple #[.int .i64 0, .int .i64 40]) ∧ Ext w w' := by
  have HN := Lib.hid h
  clear h
  go_enter Try.func50, Try.ntmps50
  go_wp2_with fail
  refine (Check_no q _ HN.out).mono ?_
  rintro e w1 ⟨rfl, hE1⟩
  go_wp2
  go_ret2
  exact ⟨rfl, ((Ext.refl w).alloc _).trans hE1⟩
set_option maxRecDepth 100000 in
set_option maxHeartbeats 4000000 in
theorem Fork_yes (F T : Nat) (w : World) (h : okP ((F : Int), (T : Int))) : Calls Try.prog 50 #[perV ((F : Int), (T : Int))] w fun e w' => e = .returned (.tuple #[.int .i64 (forkN F T : Nat), .int .i64 0]) ∧ Ext w w' := by
  have HN := Lib.hid h
  have h1 : F < T := by have := h.2.1; simp only at this; omega
  have h2 : T ≤ 1099511627776 := by have := h.2.2; simp only at this; omega
  clear h
  go_enter Try.func50, Try.ntmps50
  go_wp2_with fail
  refine (Check_yes _ _ HN.out).mono ?_
  rintro e w1 ⟨rfl, hE1⟩
  have HB := Lib.hid (Ext.block hE1 (blk_new w (.cells #[.int .i64 (F : Int), .int .i64 (T : Int)] 45)))
  have hE : Hid (Ext w w1) := Lib.hid (((Ext.refl w).alloc _).trans hE1)
  clear hE1
  generalize w.heap.size = pb at *
  by_cases hF : F = 0
  · subst hF
    have c0 := blk_cell HB.out (i := 0) rfl
    have c1 := blk_cell HB.out (i := 1) rfl
    go_wp2
    go_ret2
    exact ⟨rfl, hE.out⟩
  · have c0 := blk_cell HB.out (i := 0) rfl
    have c1 := blk_cell HB.out (i := 1) rfl
    have hF0 : ((F : Int) == 0) = false := beq_eq_false_iff_ne.2 (by omega)
    have hF1 : ¬ (F : Int) = 0 := by omega
    obtain ⟨u, hu⟩ : ∃ u, F - 1 = u := ⟨_, rfl⟩
    obtain ⟨v, hv⟩ : ∃ v, T - 1 = v := ⟨_, rfl⟩
    have hu1 : (F : Int) - 1 = (u : Int) := by omega
    have hv1 : (T : Int) - 1 = (v : Int) := by omega
    have hwu : IntKind.i64.wrap (u : Int) = (u : Int) := by rw [IntKind.wrap_i64]; omega
    have hwv : IntKind.i64.wrap (v : Int) = (v : Int) := by rw [IntKind.wrap_i64]; omega
    have hwu2 : IntKind.u64.wrap (u : Int) = (u : Int) := by rw [IntKind.wrap_u64]; omega
    have hwv2 : IntKind.u64.wrap (v : Int) = (v : Int) := by rw [IntKind.wrap_u64]; omega
    have hx := bits_xor_u64_nat u v (by omega) (by omega)
    have hx0 : 0 < u ^^^ v := by
      rcases Nat.eq_zero_or_pos (u ^^^ v) with h | h
      · have h3 : (u ^^^ v) ^^^ v = v := by rw [h, Nat.zero_xor]
        rw [Nat.xor_assoc, Nat.xor_self, Nat.xor_zero] at h3
        omega
      · exact h
    have hx1 : u ^^^ v < 2 ^ 64 := Nat.xor_lt_two_pow (n := 64) (by omega) (by omega)
    have hfk : Hid (forkN F T = v / 2 ^ (Go.Lib.bitLen (u ^^^ v) - 1) * 2 ^ (Go.Lib.bitLen (u ^^^ v) - 1)) := by
      unfold forkN
      rw [if_neg hF, hu, hv]
      exact Lib.hid rfl
    have HV := Lib.hid hv
    clear hu hv
    generalize u ^^^ v = x at *
    obtain ⟨r1, r2, r3⟩ := bitLenAux_range 64 x hx0 hx1
    have hbl : Go.Lib.bitLen x ≤ 64 := by
      refine Nat.le_of_not_lt fun h => ?_
      have h2 : 2 ^ 64 ≤ 2 ^ (Go.Lib.bitLenAux 64 x - 1) := Nat.pow_le_pow_right (by omega) (by unfold Go.Lib.bitLen at h; omega)
      omega
    obtain ⟨k, hk⟩ : ∃ k, Go.Lib.bitLen x = k + 1 := ⟨Go.Lib.bitLen x - 1, by unfold Go.Lib.bitLen at *; omega⟩
    have hlen : ∀ U, Calls Try.prog 89 #[.int .u64 (x : Int)] U fun e w' => e = .returned (.int .i64 ((k + 1 : Nat) : Int)) ∧ w' = U := fun U => by
      refine (Try.bits_Len64 (x : Int) U (by omega) (by omega)).mono ?_
      rintro e w' ⟨rfl, rfl⟩
      rw [Int.toNat_natCast, hk]
      exact ⟨rfl, rfl⟩
    have hk63 : k ≤ 63 := by omega
    have HK := Lib.hid hk
    rw [hk] at hfk
    have HLEN := Lib.hid hlen
    clear hlen hk hbl r1 r2 r3 hx0 hx1
    go_wp2
    refine region_calm [.p 0, .l 1, .p 2, .l 3, .p 4, .p 5, .p 6] f_mixed (by kernel_rfl) (by kernel_rfl) ?_
    repeat (first | (refine plan_p rfl (fun K hK => ?_); go_simp; refine hK _ ?_; clear hK K) | (refine plan_l rfl (fun K hK => ?_); go_simp; refine hK _ ?_; clear hK K))
    refine plan_done ?_
    go_wp2_with fail
    refine (HLEN.out _).mono ?_
    rintro e w' ⟨rfl, rfl⟩
    have hk1 : (((k + 1 : Nat) : Int)) - 1 = (k : Int) := by omega
    have hwk : IntKind.i64.wrap (k : Int) = (k : Int) := by rw [IntKind.wrap_i64]; omega
    generalize ((k + 1 : Nat) : Int) = kk at *
    have e1 : ((v : Int) / 2 ^ k * 2 ^ k) = ((v / 2 ^ k * 2 ^ k : Nat) : Int) := by
      rw [Int.natCast_mul, Int.natCast_ediv, Int.natCast_pow]; rfl
    have e2 : v / 2 ^ k * 2 ^ k ≤ v := Nat.div_mul_le_self _ _
    have e3 := HV.out
    have e4 : IntKind.i64.wrap ((v : Int) / 2 ^ k * 2 ^ k) = ((forkN F T : Nat) : Int) := by
      rw [hfk.out, Nat.add_sub_cancel, e1]
      generalize v / 2 ^ k * 2 ^ k = z at *
      rw [IntKind.wrap_i64]; omega
    clear e1 e2 e3
    go_wp2
    go_ret2
    exact ⟨rfl, hE.out.drew⟩
theorem Sl.len_le {w : World} {ty : TypeId} {g : Option Nat} {n cap : Nat} {xs : List Value} (h : Sl w ty 1 g n cap xs) : xs.length = n := by have := h.len; omega
theorem way_next {w wr w' : World} {n0 n m m' tt aa : Nat} {g : Option Nat} {g' cap' : Nat} {out : List Nat} (hg : ∀ b, g = some b → w.heap.size ≤ b) (hE : Ext w wr) (hall : ∀ x ∈ out, x ≤ 1099511627776)
    (hex : ∀ k b, Under n0 k b → n0 ≠ bb k b → 2 ^ k * (2 * b + 2) ≤ 1099511627776 → bb k b ∈ out ∨ (Under n k b ∧ n ≠ bb k b))
    (hup : ∀ k b, Under n k b → n ≠ bb k b → Under (bb tt aa) k b ∨ bb tt aa = bb k b) (hm : bb tt aa = m)
    (hS : Sl w' 2 1 (some g') (out.length + 1) cap' ((out.map fun x : Nat => Value.int .i64 (x : Int)) ++ [.int .i64 (m' : Int)])) (hT : Touch (fun k => g = some k) (wr.alloc (.cells #[.int .i64 (m' : Int)] 2)) w')
    (hat : g = some g' ∨ g' = wr.heap.size + 1) (hm' : (m' = 0 ∧ 1099511627776 < m) ∨ (m' = m ∧ m ≤ 1099511627776)) :
    Value.slice (some ⟨g', 0, none⟩) (out.length + 1) cap' = slv (some g') (out ++ [m']).length cap' ∧ Sl w' 2 1 (some g') (out ++ [m']).length cap' ((out ++ [m']).map fun x : Nat => Value.int .i64 (x : Int)) ∧ (∀ b, some g' = some b → w.heap.size ≤ b) ∧ Ext w w' ∧
      (∀ x ∈ out ++ [m'], x ≤ 1099511627776) ∧ ∀ k b, Under n0 k b → n0 ≠ bb k b → 2 ^ k * (2 * b + 2) ≤ 1099511627776 → bb k b ∈ out ++ [m'] ∨ (Under m' k b ∧ m' ≠ bb k b) := by
  subst hm
  have hl : (out ++ [m']).length = out.length + 1 := by simp
  have hz := hE.size
  refine ⟨by rw [hl]; rfl, by rw [hl, List.map_append]; exact hS, ?_, ?_, ?_, ?_⟩
  · intro b hb
    cases hb
    rcases hat with h | h
    · exact hg _ h
    · omega
  · refine Touch.ext ((((hE.alloc _).touch _).trans' hT (fun i hi h => h))) (fun i hi e => ?_)
    have := hg i e
    omega
  · intro x hx
    rcases List.mem_append.1 hx with hx | hx
    · exact hall x hx
    · simp at hx
      rcases hm' with ⟨h, _⟩ | ⟨h, h2⟩ <;> omega
  · intro k b h1 h2 h3
    rcases hex k b h1 h2 h3 with h | ⟨h4, h5⟩
    · exact .inl (List.mem_append_left _ h)
    · rcases hup k b h4 h5 with h | h
      · rcases hm' with ⟨h6, h7⟩ | ⟨h6, h7⟩
        · have := under_top h h3; omega
        · subst h6
          by_cases h8 : bb tt aa = bb k b
          · exact .inl (List.mem_append_right _ (by simp [h8]))
          · exact .inr ⟨h, h8⟩
      · rcases hm' with ⟨h6, h7⟩ | ⟨h6, h7⟩
        · have : bb k b ≤ 1099511627776 := by
            refine Nat.le_trans ?_ h3
            unfold bb
            exact Nat.mul_le_mul_left _ (by omega)
          omega
        · subst h6
          exact .inl (List.mem_append_right _ (by simp [h]))
set_option maxRecDepth 100000 in
set_option maxHeartbeats 4000000 in
theorem way_ok (n0 : Nat) (w : World) (hn : n0 < 1099511627776) :
    Calls Try.prog 92 #[.int .i64 (n0 : Int)] w fun e w' => ∃ (g : Option Nat) (cap : Nat) (out : List Nat), e = .returned (slv g out.length cap) ∧ Sl w' 2 1 g out.length cap (out.map fun x : Nat => .int .i64 (x : Int)) ∧ (∀ b, g = some b → w.heap.size ≤ b) ∧ Ext w w' ∧ out.length ≤ 50 ∧
      (∀ x ∈ out, x ≤ 1099511627776) ∧ ∀ k b, Under n0 k b → n0 ≠ bb k b → 2 ^ k * (2 * b + 2) ≤ 1099511627776 → bb k b ∈ out := by
  go_enter Try.func92, Try.ntmps92
  go_wp2
  go_loopg [0, 3] 42 (fun j v0 v3 wr => ∃ (n : Nat) (g : Option Nat) (cap : Nat) (out : List Nat), v0 = .int .i64 (n : Int) ∧ v3 = slv g out.length cap ∧ Sl wr 2 1 g out.length cap (out.map fun x : Nat => .int .i64 (x : Int)) ∧ (∀ b, g = some b → w.heap.size ≤ b) ∧ Ext w wr ∧ out.length + j ≤ 42 ∧
      (∀ x ∈ out, x ≤ 1099511627776) ∧ (n = 0 ∨ ∃ t a, n = bb t a ∧ n ≤ 1099511627776 ∧ 41 ≤ j + t) ∧ ∀ k b, Under n0 k b → n0 ≠ bb k b → 2 ^ k * (2 * b + 2) ≤ 1099511627776 → bb k b ∈ out ∨ (Under n k b ∧ n ≠ bb k b))
  case atStart =>
    refine ⟨n0, none, 0, [], rfl, rfl, Sl.nil _ _ _, by simp, Ext.refl _, by simp, by simp, ?_, fun k b h1 h2 _ => .inr ⟨h1, h2⟩⟩
    by_cases h : n0 = 0
    · exact .inl h
    · obtain ⟨t, a, h2⟩ := exists_bb h
      exact .inr ⟨t, a, h2, by omega, by omega⟩
  case round =>
    obtain ⟨n, g, cap, out, rfl, rfl, hS, hg, hE, hlen, hall, hn2, hex⟩ := hrel
    have HG := Lib.hid hg; have HE := Lib.hid hE; have HAL := Lib.hid hall; have HEX := Lib.hid hex; have HS := Lib.hid hS
    clear hg hE hall hex hS
    by_cases h0 : n = 0
    · subst h0
      clear hn2
      go_wp2
      go_ret
      refine ⟨g, cap, out, rfl, HS.out, HG.out, HE.out, by omega, HAL.out, fun k b h1 h2 h3 => ?_⟩
      rcases HEX.out k b h1 h2 h3 with h | ⟨h, -⟩
      · exact h
      · unfold Under at h; omega
    · obtain ⟨t, a, rfl, hle, hj⟩ : ∃ t a, n = bb t a ∧ n ≤ 1099511627776 ∧ 41 ≤ gk + t := by
        rcases hn2 with h | h
        · exact absurd h h0
        · exact h
      clear hn2
      have ht : t ≤ 40 := by
        refine Nat.le_of_not_lt fun h => ?_
        have h1 : 2 ^ 41 ≤ 2 ^ t := Nat.pow_le_pow_right (by omega) (by omega)
        have h2 : 2 ^ t ≤ bb t a := Nat.le_mul_of_pos_right _ (by omega)
        omega
      have e1 := low_bit (t := t) (a := a) (by omega)
      rw [show IntKind.i64.wrap (-((bb t a : Nat) : Int)) = -((bb t a : Nat) : Int) by rw [IntKind.wrap_i64]; omega] at e1
      have e2 := low_off (t := t) (a := a) (by omega)
      have e4 := low_up (t := t) (a := a) (by omega)
      have hp41 : 2 ^ t ≤ 2 ^ 40 := Nat.pow_le_pow_right (by omega) ht
      have e3 : IntKind.i64.wrap (((2 ^ t : Nat) : Int) * 2) = ((2 ^ (t + 1) : Nat) : Int) := by
        rw [IntKind.wrap_i64, Nat.pow_succ]; omega
      have hn0 : (((bb t a : Nat) : Int) != 0) = true := by simpa using (show ((bb t a : Nat) : Int) ≠ 0 by omega)
      have hup : ∀ k b, Under (bb t a) k b → bb t a ≠ bb k b → Under (bb (t + 1) (a / 2)) k b ∨ bb (t + 1) (a / 2) = bb k b := fun k b h1 h2 => under_up h1 (under_lt h1 h2)
      have HUP := Lib.hid hup
      obtain ⟨m, hm⟩ : ∃ m, bb (t + 1) (a / 2) = m := ⟨_, rfl⟩
      have HM := Lib.hid hm
      rw [hm] at e4
      have hm2 : m ≤ 4398046511104 := by
        rw [← hm]
        have h1 : bb (t + 1) (a / 2) ≤ 2 * bb t a := by
          unfold bb
          rw [Nat.pow_succ, Nat.mul_comm (2 ^ t) 2, Nat.mul_assoc]
          refine Nat.mul_le_mul_left _ (Nat.mul_le_mul_left _ (by omega))
        omega
      clear hm hup h0
      generalize hnn : bb t a = n at *
      have HNN := Lib.hid hnn
      clear hnn
      generalize hq1 : ((2 ^ t : Nat) : Int) = q1 at *
      generalize hq2 : ((2 ^ (t + 1) * a : Nat) : Int) = q2 at *
      generalize hq3 : ((2 ^ (t + 1) : Nat) : Int) = q3 at *
      clear hq1 hq2 hq3
      by_cases hbig : 1099511627776 < m
      · have hb1 : decide (1099511627776 < (m : Int)) = true := decide_eq_true (by omega)
        go_wp2_with (at_builtin; refine app_lit ei_int64 rfl (.tmp 19) (.tmp 21) rfl (g := g) (n := out.length) (cap := cap) (b := wr.heap.size) (by rfl) (HS.out.ext ((Ext.refl _).alloc _)) (by rfl) (news := [.int .i64 0]) rfl (blk_new wr _) (by intro u hu; simp at hu; subst hu; rfl) (by omega) (by omega) ?_)
        intro g' cap' w' hS' hT' hat'
        have HN := Lib.hid (way_next HG.out HE.out HAL.out HEX.out HUP.out HM.out hS' hT' hat' (m' := 0) (.inl ⟨rfl, hbig⟩))
        clear hS' hT' hat' e1 e2 e3 e4
        go_wp2
        go_roundg (gk - 1)
        case measure => omega
        case rel => exact ⟨0, some g', cap', out ++ [0], rfl, HN.out.1, HN.out.2.1, HN.out.2.2.1, HN.out.2.2.2.1, by simp; omega, HN.out.2.2.2.2.1, .inl rfl, HN.out.2.2.2.2.2⟩
      · have hb1 : decide (1099511627776 < (m : Int)) = false := decide_eq_false (by omega)
        go_wp2_with (at_builtin; refine app_lit ei_int64 rfl (.tmp 19) (.tmp 21) rfl (g := g) (n := out.length) (cap := cap) (b := wr.heap.size) (by rfl) (HS.out.ext ((Ext.refl _).alloc _)) (by rfl) (news := [.int .i64 (m : Int)]) rfl (blk_new wr _) (by intro u hu; simp at hu; subst hu; rfl) (by omega) (by omega) ?_)
        intro g' cap' w' hS' hT' hat'
        have HN := Lib.hid (way_next HG.out HE.out HAL.out HEX.out HUP.out HM.out hS' hT' hat' (m' := m) (.inr ⟨rfl, by omega⟩))
        clear hS' hT' hat' e1 e2 e3 e4
        go_wp2
        go_roundg (gk - 1)
        case measure => omega
        case rel => exact ⟨m, some g', cap', out ++ [m], rfl, HN.out.1, HN.out.2.1, HN.out.2.2.1, HN.out.2.2.2.1, by simp; omega, HN.out.2.2.2.2.1, .inr ⟨t + 1, a / 2, HM.out.symm, by omega, by omega⟩, HN.out.2.2.2.2.2⟩
end Go.Proofs.Ytkejjahlglldlaa
