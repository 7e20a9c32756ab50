/- codec.Sum, walked: the sum of the parts one behind the other. -/
import Derived.Test.YtlmlkphdalkfdaaSlc
import Derived.Test.YtlmlkphdalkfdaaCrcL
import Derived.Laws.BitsAllLaws
import Derived.LoopTactic
import Derived.Deep.LoopGhost
import Derived.Lib.Hide
import Derived.Test.YtlmlkphdalkfdaaProg
namespace Go.Proofs.Ytlmlkphdalkfdaa
open Go.RowKit

/-- The slice v holds the bytes l. -/
def BytesAt (w : World) (v : Value) (l : List UInt8) : Prop :=
  ∃ a c, v = .slice a l.length c ∧ (a = none → c = 0) ∧ (0 < l.length → ∃ b off, a = some ⟨b, off, none⟩ ∧ ∀ j x, l[j]? = some x → w.cell? ⟨b, off + j, none⟩ = some (.int .u8 (x.toNat : Int)))
theorem BytesAt.ext {w w' : World} {v : Value} {l : List UInt8} (h : BytesAt w v l) (he : Ext w w') : BytesAt w' v l := by
  obtain ⟨a, c, h1, h0, h2⟩ := h
  refine ⟨a, c, h1, h0, fun hl => ?_⟩
  obtain ⟨b, off, h3, h4⟩ := h2 hl
  exact ⟨b, off, h3, fun j x hx => Ext.cell he (h4 j x hx)⟩
theorem BytesAt.nil (w : World) : BytesAt w (.slice none 0 0) [] := ⟨none, 0, rfl, fun _ => rfl, fun h => by simp at h⟩

theorem u32_and1 {s : Nat} (h : s < 4294967296) : bits .and .u32 (s : Int) 1 = ((s % 2 : Nat) : Int) := by
  have := u32_and_nat s 1 h (by decide)
  rw [nat_mask1] at this
  exact this
theorem u32_poly {s : Nat} (h : s < 4294967296) : bits .xor .u32 ((s : Int) / 2) 3988292384 = ((s / 2 ^^^ 3988292384 : Nat) : Int) := by
  have := u32_xor_nat (s / 2) 3988292384 (by omega) (by decide)
  rw [← this]; rfl

theorem u32_not {s : Nat} (h : s < 4294967296) : bits .xor .u32 IntKind.u32.max (s : Int) = ((4294967295 - s : Nat) : Int) := by
  have h1 := u32_xor_nat 4294967295 s (by decide) h
  have h2 : 4294967295 ^^^ s = 4294967295 - s := by
    have := outTo_all h
    apply Nat.eq_of_testBit_eq
    intro i
    have h3 := Nat.testBit_two_pow_sub_succ (n := 32) h i
    rw [show 2 ^ 32 - (s + 1) = 4294967295 - s from by omega] at h3
    rw [h3, Nat.testBit_xor]
    have h4 := Nat.testBit_two_pow_sub_one 32 i
    rw [show 2 ^ 32 - 1 = 4294967295 from rfl] at h4
    rw [h4]
    by_cases hi : i < 32
    · simp [hi]
    · have : s.testBit i = false := Nat.testBit_lt_two_pow (Nat.lt_of_lt_of_le (show s < 2 ^ 32 from h) (Nat.pow_le_pow_right (by decide) (by omega)))
      simp [hi, this]
  rw [h2] at h1
  exact h1

set_option maxHeartbeats 4000000 in
theorem Sum_ok (pb cap : Nat) (ls : List (List UInt8)) (w : World) (hsz : ls.length ≤ 140737488355328)
    (h : ∀ i l, ls[i]? = some l → l.length ≤ 140737488355328 ∧ ∃ v, w.cell? ⟨pb, i, none⟩ = some v ∧ BytesAt w v l) :
    Calls Try.prog 13 #[.slice (some ⟨pb, 0, none⟩) ls.length cap] w
      (fun e w' => e = .returned (.int .u32 ((crcOf ls.flatten : Nat) : Int)) ∧ w' = w) := by
  have HP := Lib.hid h; clear h
  go_enter Try.func13, Try.ntmps13
  go_wp2
  go_loopg [3, 11] ls.length (fun k v3 v11 wr => ∃ i : Nat, i + k = ls.length ∧ v3 = .int .u32 ((crc 4294967295 (ls.take i).flatten : Nat) : Int) ∧ v11 = .int .i64 i ∧ wr = w)
  case atStart => exact ⟨0, by omega, by simp [crc], rfl, rfl⟩
  case round =>
    obtain ⟨i, hik, rfl, rfl, rfl⟩ := hrel
    by_cases hlt : i < ls.length
    · obtain ⟨l, hl⟩ : ∃ l, ls[i]? = some l := ⟨_, List.getElem?_eq_getElem hlt⟩
      obtain ⟨hlz, v, c0, a, c, rfl, _, hby⟩ := HP.out i l hl
      have hs0 : crc 4294967295 (ls.take i).flatten < 4294967296 := crc_lt _ (by decide)
      generalize hs : crc 4294967295 (ls.take i).flatten = s0 at hs0 ⊢
      have HS := Lib.hid hs; clear hs
      have HBY := Lib.hid hby; clear hby
      have HIK := Lib.hid hik; clear hik
      have HL := Lib.hid hl; clear hl
      go_wp2
      go_loopg [3, 17] l.length (fun k v3 v17 wr' => ∃ j : Nat, j + k = l.length ∧ v3 = .int .u32 ((crc s0 (l.take j) : Nat) : Int) ∧ v17 = .int .i64 j ∧ wr' = wr)
      case atStart => exact ⟨0, by omega, by simp [crc], rfl, rfl⟩
      case round =>
        obtain ⟨j, hjk, rfl, rfl, rfl⟩ := hrel
        by_cases hlt2 : j < l.length
        · obtain ⟨b, off, rfl, hc⟩ := HBY.out (by omega)
          have c1 := hc j l[j] (List.getElem?_eq_getElem hlt2)
          have hs1 : crc s0 (l.take j) < 4294967296 := crc_lt _ hs0
          have hx := byte_lt l[j]
          have hcs : crc s0 (l.take (j + 1)) = crcB (crc s0 (l.take j)) l[j] := by rw [List.take_succ_eq_append_getElem hlt2, crc_snoc]
          generalize l[j] = x at c1 hx hcs
          generalize crc s0 (l.take j) = s1 at hs1 hcs ⊢
          have HCS := Lib.hid hcs; clear hcs
          have HC := Lib.hid hc; clear hc
          have HJK := Lib.hid hjk; clear hjk
          have hw : IntKind.u32.wrap (x.toNat : Int) = (x.toNat : Int) := by rw [IntKind.wrap_u32']; omega
          have hxo : bits .xor .u32 (s1 : Int) (x.toNat : Int) = ((s1 ^^^ x.toNat : Nat) : Int) := u32_xor_nat _ _ hs1 (by omega)
          have hs2 : s1 ^^^ x.toNat < 4294967296 := xor_lt hs1 (by omega)
          go_wp2
          go_loopg [3, 25] 8 (fun k v3 v25 wr' => ∃ q : Nat, q + k = 8 ∧ v3 = .int .u32 ((shlN q (s1 ^^^ x.toNat) : Nat) : Int) ∧ v25 = .int .i64 q ∧ wr' = wr)
          case atStart => exact ⟨0, by omega, by simp [shlN], rfl, rfl⟩
          case round =>
            obtain ⟨q, hqk, rfl, rfl, rfl⟩ := hrel
            by_cases hlt3 : q < 8
            · have hs3 : shlN q (s1 ^^^ x.toNat) < 4294967296 := shlN_lt q hs2
              have hss := shlN_succ q (s1 ^^^ x.toNat)
              generalize shlN q (s1 ^^^ x.toNat) = s3 at hs3 hss ⊢
              have HSS := Lib.hid hss; clear hss
              have ha := u32_and1 hs3
              have hp := u32_poly hs3
              have HQK := Lib.hid hqk; clear hqk
              by_cases h1 : s3 % 2 = 1
              · have h1' : (((s3 % 2 : Nat) : Int) == 1) = true := by rw [h1]; rfl
                go_wp2
                go_roundg (gk - 1)
                case measure => have := HQK.out; omega
                case rel => exact ⟨q + 1, by have := HQK.out; omega, by rw [HSS.out, shl1, if_pos h1], by go_num, rfl⟩
              · have h1' : (((s3 % 2 : Nat) : Int) == 1) = false := by
                  have : s3 % 2 = 0 := by omega
                  rw [this]; rfl
                go_wp2
                go_roundg (gk - 1)
                case measure => have := HQK.out; omega
                case rel => exact ⟨q + 1, by have := HQK.out; omega, by rw [HSS.out, shl1, if_neg h1]; rfl, by go_num, rfl⟩
            · have hq : q = 8 := by omega
              subst hq
              go_wp2
              go_roundg (l.length - j - 1)
              case measure => have := HJK.out; omega
              case rel => exact ⟨j + 1, by have := HJK.out; omega, by rw [HCS.out]; rfl, by go_num, rfl⟩
        · have hj : j = l.length := by omega
          subst hj
          go_wp2
          go_roundg (ls.length - i - 1)
          case measure => have := HIK.out; omega
          case rel => exact ⟨i + 1, by have := HIK.out; omega, by rw [List.take_add_one, HL.out, List.flatten_append, crc_append, HS.out]; simp, by go_num, rfl⟩
    · have hi : i = ls.length := by omega
      subst hi
      rw [List.take_length]
      have hs0 : crc 4294967295 ls.flatten < 4294967296 := crc_lt _ (by decide)
      have hn : bits .xor .u32 IntKind.u32.max ((crc 4294967295 ls.flatten : Nat) : Int) = ((crcOf ls.flatten : Nat) : Int) := u32_not hs0
      have hsg : ¬ IntKind.u32.signed = true := by decide
      go_wp2
      go_ret
      exact ⟨rfl, rfl⟩

end Go.Proofs.Ytlmlkphdalkfdaa
