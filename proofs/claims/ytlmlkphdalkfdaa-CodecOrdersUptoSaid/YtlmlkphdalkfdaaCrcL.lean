/- The plain law of the sum: bit by bit with the bits turned in one after the other, and byte by byte, come to the same. No program is named here. -/
import Derived.WalkKit
namespace Go.Proofs.Ytlmlkphdalkfdaa

/-- One shift of the sum. -/
def shl1 (s : Nat) : Nat := if s % 2 = 1 then (s / 2) ^^^ 3988292384 else s / 2
/-- n shifts. -/
def shlN : Nat → Nat → Nat
  | 0, s => s
  | n + 1, s => shlN n (shl1 s)
/-- One byte. -/
def crcB (s : Nat) (x : UInt8) : Nat := shlN 8 (s ^^^ x.toNat)
/-- Many bytes. -/
def crc (s : Nat) (l : List UInt8) : Nat := l.foldl crcB s
/-- The sum. -/
def crcOf (l : List UInt8) : Nat := 4294967295 - crc 4294967295 l

theorem shl1_lt {s : Nat} (h : s < 4294967296) : shl1 s < 4294967296 := by
  unfold shl1
  split
  · exact Nat.xor_lt_two_pow (n := 32) (by omega) (by decide)
  · omega
theorem shlN_lt : ∀ (n : Nat) {s : Nat}, s < 4294967296 → shlN n s < 4294967296
  | 0, _, h => h
  | n + 1, _, h => shlN_lt n (shl1_lt h)
theorem shlN_succ : ∀ (n s : Nat), shlN (n + 1) s = shl1 (shlN n s)
  | 0, _ => rfl
  | n + 1, s => shlN_succ n (shl1 s)
theorem byte_lt (x : UInt8) : x.toNat < 256 := by have := x.toNat_lt; simpa using this
theorem xor_lt {s t : Nat} (h : s < 4294967296) (k : t < 4294967296) : s ^^^ t < 4294967296 := Nat.xor_lt_two_pow (n := 32) h k
theorem crcB_lt {s : Nat} (h : s < 4294967296) (x : UInt8) : crcB s x < 4294967296 := by
  have := byte_lt x
  exact shlN_lt 8 (xor_lt h (by omega))
theorem crc_lt : ∀ (l : List UInt8) {s : Nat}, s < 4294967296 → crc s l < 4294967296
  | [], _, h => h
  | x :: l, _, h => crc_lt l (crcB_lt h x)
theorem crc_append (s : Nat) (l m : List UInt8) : crc s (l ++ m) = crc (crc s l) m := by simp [crc]
theorem crc_nil (s : Nat) : crc s [] = s := rfl
theorem crc_snoc (s : Nat) (l : List UInt8) (x : UInt8) : crc s (l ++ [x]) = crcB (crc s l) x := by simp [crc]

theorem xor_mod2 (a b : Nat) : (a ^^^ b) % 2 = (a % 2 + b % 2) % 2 := by
  have h := Nat.testBit_xor (x := a) (y := b) (i := 0)
  simp only [Nat.testBit_zero] at h
  rcases Nat.mod_two_eq_zero_or_one a with ha | ha <;> rcases Nat.mod_two_eq_zero_or_one b with hb | hb <;>
    rcases Nat.mod_two_eq_zero_or_one (a ^^^ b) with hc | hc <;> simp [ha, hb, hc] at h ⊢
theorem xor_div2 (a b : Nat) : (a ^^^ b) / 2 = a / 2 ^^^ b / 2 := by
  have := Nat.shiftRight_xor_distrib (a := a) (b := b) (i := 1)
  simpa [Nat.shiftRight_eq_div_pow] using this

theorem shl1_xor (s y : Nat) : shl1 (s ^^^ y) = shl1 (s ^^^ y % 2) ^^^ (y / 2) := by
  have h1 : (s ^^^ y % 2) % 2 = (s ^^^ y) % 2 := by rw [xor_mod2, xor_mod2]; omega
  have h2 : (s ^^^ y % 2) / 2 = s / 2 := by
    rw [xor_div2]
    have : y % 2 / 2 = 0 := by omega
    rw [this, Nat.xor_zero]
  unfold shl1
  rw [h1, h2, xor_div2]
  split
  · rw [Nat.xor_assoc, Nat.xor_assoc, Nat.xor_comm (y / 2)]
  · rfl

/-- n bits of y turned in, the lowest first. -/
def crcBits : Nat → Nat → Nat → Nat
  | 0, s, _ => s
  | n + 1, s, y => shl1 (crcBits n s y ^^^ (y / 2 ^ n % 2))
theorem crcBits_cons : ∀ (n s y : Nat), crcBits (n + 1) s y = crcBits n (shl1 (s ^^^ y % 2)) (y / 2)
  | 0, s, y => by simp [crcBits]
  | n + 1, s, y => by
    rw [crcBits, crcBits_cons n s y]
    conv => rhs; rw [crcBits]
    rw [Nat.div_div_eq_div_mul, Nat.pow_succ']
theorem shlN_bits : ∀ (n s y : Nat), shlN n (s ^^^ y) = crcBits n s y ^^^ (y / 2 ^ n)
  | 0, s, y => by simp [shlN, crcBits]
  | n + 1, s, y => by
    rw [shlN, shl1_xor, shlN_bits n, ← crcBits_cons, Nat.div_div_eq_div_mul, Nat.pow_succ']
theorem crcB_bits (s : Nat) (x : UInt8) : crcB s x = crcBits 8 s x.toNat := by
  have := byte_lt x
  rw [crcB, shlN_bits, Nat.div_eq_of_lt (by omega), Nat.xor_zero]
theorem crcBits_lt : ∀ (n : Nat) {s : Nat} (y : Nat), s < 4294967296 → crcBits n s y < 4294967296
  | 0, _, _, h => h
  | n + 1, s, y, h => shl1_lt (xor_lt (crcBits_lt n y h) (by omega))

/-- The state behind i bits of l. -/
def rst (l : List UInt8) : Nat → Nat
  | 0 => 4294967295
  | i + 1 => shl1 (rst l i ^^^ ((l.getD (i / 8) 0).toNat / 2 ^ (i % 8) % 2))
theorem rst_bits (l : List UInt8) (k : Nat) : ∀ j, j ≤ 8 → rst l (8 * k + j) = crcBits j (rst l (8 * k)) (l.getD k 0).toNat
  | 0, _ => rfl
  | j + 1, h => by
    show rst l (8 * k + j + 1) = _
    rw [rst, rst_bits l k j (by omega), crcBits]
    have h1 : (8 * k + j) / 8 = k := by omega
    have h2 : (8 * k + j) % 8 = j := by omega
    rw [h1, h2]
theorem rst_bytes (l : List UInt8) : ∀ k, k ≤ l.length → rst l (8 * k) = crc 4294967295 (l.take k)
  | 0, _ => rfl
  | k + 1, h => by
    show rst l (8 * k + 8) = _
    have hk : k < l.length := by omega
    rw [rst_bits l k 8 (Nat.le_refl _), rst_bytes l k (by omega), ← crcB_bits, List.getD_eq_getElem?_getD, List.getElem?_eq_getElem hk, Option.getD_some, ← crc_snoc, List.take_succ_eq_append_getElem hk]
theorem rst_all (l : List UInt8) : rst l (8 * l.length) = crc 4294967295 l := by rw [rst_bytes l _ (Nat.le_refl _), List.take_length]
theorem rst_lt (l : List UInt8) : ∀ i, rst l i < 4294967296
  | 0 => Nat.lt_succ_self _
  | i + 1 => shl1_lt (xor_lt (rst_lt l i) (by omega))

/-- Bit k of one shift. -/
def bitOf (s k : Nat) : Nat := s / 2 ^ k % 2
theorem bitOf_le (s k : Nat) : bitOf s k < 2 := Nat.mod_lt _ (by decide)
theorem bitOf_xor (a b k : Nat) : bitOf (a ^^^ b) k = (bitOf a k + bitOf b k) % 2 := by
  unfold bitOf
  have : (a ^^^ b) / 2 ^ k = a / 2 ^ k ^^^ b / 2 ^ k := by
    have := Nat.shiftRight_xor_distrib (a := a) (b := b) (i := k)
    simpa [Nat.shiftRight_eq_div_pow] using this
  rw [this, xor_mod2]
theorem bitOf_half (s k : Nat) : bitOf (s / 2) k = bitOf s (k + 1) := by
  unfold bitOf
  rw [Nat.div_div_eq_div_mul, Nat.pow_succ', Nat.mul_comm]
theorem bitOf_shl1 (s b k : Nat) (hb : b < 2) : bitOf (shl1 (s ^^^ b)) k = (bitOf s (k + 1) + (bitOf s 0 + b) % 2 * bitOf 3988292384 k) % 2 := by
  have h2 : (s ^^^ b) / 2 = s / 2 := by
    rw [xor_div2]
    have : b / 2 = 0 := by omega
    rw [this, Nat.xor_zero]
  have h1 : (s ^^^ b) % 2 = (bitOf s 0 + b) % 2 := by
    rw [xor_mod2]; unfold bitOf; simp
  unfold shl1
  rw [h1, h2]
  have h3 := bitOf_le s (k + 1)
  split
  · rename_i h; rw [h, bitOf_xor, bitOf_half, Nat.one_mul]
  · rename_i h
    have : (bitOf s 0 + b) % 2 = 0 := by omega
    rw [this, bitOf_half, Nat.zero_mul]; omega
theorem bitOf_high {s : Nat} (h : s < 4294967296) : bitOf s 32 = 0 := by
  unfold bitOf
  rw [Nat.div_eq_of_lt (by simpa using h)]
theorem bitOf_low (s k : Nat) (h : k < 32) : bitOf 3988292384 k = ([0, 0, 0, 0, 0, 1, 0, 0, 1, 1, 0, 0, 0, 0, 0, 1, 0, 0, 0, 1, 1, 1, 0, 1, 1, 0, 1, 1, 0, 1, 1, 1] : List Nat).getD k 0 := by
  have : ∀ k : Fin 32, bitOf 3988292384 k = ([0, 0, 0, 0, 0, 1, 0, 0, 1, 1, 0, 0, 0, 0, 0, 1, 0, 0, 0, 1, 1, 1, 0, 1, 1, 0, 1, 1, 0, 1, 1, 1] : List Nat).getD k 0 := by decide
  exact this ⟨k, h⟩

/-- What the noughts among the first k bits come to. -/
def outTo (s : Nat) : Nat → Nat
  | 0 => 0
  | k + 1 => if bitOf s k = 0 then outTo s k + 2 ^ k else outTo s k
theorem outTo_eq (s : Nat) : ∀ k, outTo s k = 2 ^ k - 1 - s % 2 ^ k
  | 0 => by simp [outTo, Nat.mod_one]
  | k + 1 => by
    have ih := outTo_eq s k
    have hp : 0 < 2 ^ k := Nat.two_pow_pos k
    have hm : s % 2 ^ (k + 1) = s % 2 ^ k + 2 ^ k * bitOf s k := by unfold bitOf; rw [Nat.pow_succ, Nat.mod_mul]
    have hl := Nat.mod_lt s hp
    have hb := bitOf_le s k
    rw [outTo, ih, hm, Nat.pow_succ]
    split
    · rename_i h; rw [h]; omega
    · rename_i h
      have : bitOf s k = 1 := by omega
      rw [this]; omega
theorem outTo_all {s : Nat} (h : s < 4294967296) : outTo s 32 = 4294967295 - s := by
  rw [outTo_eq, Nat.mod_eq_of_lt (by simpa using h)]

end Go.Proofs.Ytlmlkphdalkfdaa
