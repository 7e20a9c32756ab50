/- LexNumbers: walked. -/
import Derived.Test.YtaiedccjaahmgaaDoorLex7
namespace Go.Proofs.YtaiedccjaahmgaaDoor
open Go.RowKit

theorem lexOf_digits {l : List UInt8} (h : ∀ x ∈ l, isD x = true) (hne : l ≠ []) (hl : l.length ≤ 4096) : lexOf l = if l.length ≤ 18 then .inr [(2, [], val l, 0)] else .inl (140, 0) := by
  unfold lexOf
  rw [if_neg (by omega), tk_digits h hne 0]
  by_cases h18 : l.length ≤ 18
  · rw [if_pos h18, if_pos h18]
  · rw [if_neg h18, if_neg h18]
def dgt (d : Nat) : UInt8 := UInt8.ofNat (48 + d)
theorem dgt_ok (d : Nat) (hd : d < 10) : isD (dgt d) = true ∧ (dgt d).toNat - 48 = d := by
  have : ∀ k : Fin 10, isD (dgt k.val) = true ∧ (dgt k.val).toNat - 48 = k.val := by decide
  exact this ⟨d, hd⟩
theorem dgt_cut (d : Nat) (hd : d < 10) : (⟨#[48, 49, 50, 51, 52, 53, 54, 55, 56, 57]⟩ : ByteArray).extract d (d + 1) = bs [dgt d] := by
  have h : ∀ k : Fin 10, (bs [48, 49, 50, 51, 52, 53, 54, 55, 56, 57]).extract k.val (k.val + 1) = bs [dgt k.val] := by
    intro k
    rw [bs_extract]
    congr 1
    revert k
    decide
  exact h ⟨d, hd⟩

/-- The digits so far: of n stands m to be written. -/
def DigSo (n m : Nat) (s : List UInt8) : Prop := (∀ x ∈ s, isD x = true) ∧ n = m * 10 ^ s.length + val s
theorem DigSo.next {n m : Nat} {s : List UInt8} (h : DigSo n m s) : DigSo n (m / 10) (dgt (m % 10) :: s) := by
  obtain ⟨h1, h2⟩ := h
  obtain ⟨k1, k2⟩ := dgt_ok (m % 10) (Nat.mod_lt _ (by omega))
  refine ⟨fun x hx => ?_, ?_⟩
  · rcases List.mem_cons.1 hx with rfl | hx
    · exact k1
    · exact h1 x hx
  · rw [val_cons, k2, List.length_cons, Nat.pow_succ]
    have h3 : m = 10 * (m / 10) + m % 10 := (Nat.div_add_mod m 10).symm
    have h4 : m / 10 * (10 ^ s.length * 10) + (m % 10 * 10 ^ s.length + val s) = (10 * (m / 10) + m % 10) * 10 ^ s.length + val s := by
      rw [Nat.add_mul]
      have : m / 10 * (10 ^ s.length * 10) = 10 * (m / 10) * 10 ^ s.length := by rw [Nat.mul_comm (10 ^ s.length) 10, ← Nat.mul_assoc, Nat.mul_comm (m / 10) 10]
      omega
    rw [h4, ← h3]; exact h2
theorem DigSo.few {n m : Nat} {s : List UInt8} (h : DigSo n m s) (hn : n < 1000000000000000000) (hm : 0 < m) : s.length < 18 := by
  obtain ⟨_, h2⟩ := h
  apply Nat.lt_of_not_le
  intro hl
  have h3 : 10 ^ 18 ≤ 10 ^ s.length := Nat.pow_le_pow_right (by omega) hl
  have h4 : 10 ^ s.length ≤ m * 10 ^ s.length := Nat.le_mul_of_pos_left _ hm
  omega
theorem val_zero (s : List UInt8) : val (48 :: s) = val s := by rw [val_cons]; simp

def NumIn (w : World) (n k : Nat) (v5 v6 : Value) (wr : World) : Prop :=
  ∃ (m : Nat) (s : List UInt8), k = m + (if s = [] then 1 else 0) ∧ v6 = .int .i64 (m : Int) ∧ v5 = str s ∧ DigSo n m s ∧ s.length ≤ 18 ∧ Ext w wr
def NouIn (w : World) (n nou k : Nat) (v5 v7 : Value) (wr : World) : Prop :=
  ∃ (i : Nat) (s : List UInt8), i + k = nou ∧ v7 = .int .i64 (i : Int) ∧ v5 = str s ∧ (∀ x ∈ s, isD x = true) ∧ val s = n ∧ s ≠ [] ∧ s.length ≤ 18 + i ∧ Ext w wr

set_option maxRecDepth 100000 in
set_option maxHeartbeats 8000000 in
theorem numbers_in (n nou : Nat) (w : World) (hn : n < 1000000000000000000) (hnou : nou ≤ 30) :
    Calls Tryd.prog 5 #[.int .i64 (n : Int), .int .i64 (nou : Int)] w (fun e w' => e = .returned (.bool true) ∧ Ext w w') := by
  have HNN := Lib.hid hn
  have h0 : (0 : Int) ≤ (n : Int) := by omega
  have h1 : decide ((1000000000000000000 : Int) ≤ (n : Int)) = false := by rw [decide_eq_false_iff_not]; omega
  have h2 : decide ((30 : Int) < (nou : Int)) = false := by rw [decide_eq_false_iff_not]; omega
  have h3 : decide ((n : Int) < 0) = false := by rw [decide_eq_false_iff_not]; omega
  have h4 : decide ((nou : Int) < 0) = false := by rw [decide_eq_false_iff_not]; omega
  clear hn
  go_enter Tryd.func5, Tryd.ntmps5
  go_wp2_with fail
  refine (awake_ok w).mono ?_
  rintro e w1 ⟨rfl, hE1⟩
  go_wp2
  clear h0 h1 h2 h3 h4
  have hbs := bs_toList
  go_loopg [5, 6] (n + 1) (fun k v5 v6 wr => NumIn w n k v5 v6 wr)
  case atStart => exact ⟨n, [], by simp, rfl, rfl, ⟨by simp, by simp [val]⟩, by simp, hE1⟩
  case round =>
    obtain ⟨m, s, hk, rfl, rfl, hD, hsl, hE⟩ := hrel
    have HD := Lib.hid hD; clear hD
    have HK := Lib.hid hk; clear hk
    by_cases hgo : 0 < m ∨ s = []
    · have hlen : s.length < 18 := by
        rcases hgo with h | h
        · exact HD.out.few HNN.out h
        · rw [h]; simp
      have hdm : m % 10 < 10 := Nat.mod_lt _ (by omega)
      have hm64 : m < 1000000000000000000 := by
        have := HNN.out
        have h := HD.out.2
        have h5 : 1 ≤ 10 ^ s.length := Nat.one_le_pow _ _ (by omega)
        have h6 : m ≤ m * 10 ^ s.length := Nat.le_mul_of_pos_right _ h5
        omega
      obtain ⟨d, hd⟩ : ∃ d, d = m % 10 := ⟨_, rfl⟩
      obtain ⟨m', hm'⟩ : ∃ m', m' = m / 10 := ⟨_, rfl⟩
      have hr : (m : Int) % 10 = (d : Int) := by omega
      have hq : (m : Int) / 10 = (m' : Int) := by omega
      have hr2 : Int.tmod (m : Int) 10 = (d : Int) := by rw [Int.tmod_eq_emod_of_nonneg (by omega)]; exact hr
      have hq2 : Int.tdiv (m : Int) 10 = (m' : Int) := by rw [Int.tdiv_eq_ediv_of_nonneg (by omega)]; exact hq
      have hd10 : d < 10 := by omega
      have hw : IntKind.i64.wrap (m' : Int) = (m' : Int) := by rw [IntKind.wrap_i64]; omega
      have hd1 : (0 : Int) ≤ (d : Int) := by omega
      have hd2 : ((d : Int) + 1).toNat = d + 1 := by omega
      have hd3 : (d : Int) + 1 ≤ 10 := by omega
      have hcut := dgt_cut d hd10
      have hc : ∀ u : World, (Op.stringOp .add (bs [dgt d]) (bs s)).run Tryd.prog u = .ok (str (dgt d :: s)) u := fun u => cat_ok [dgt d] s u (by simp; omega)
      have hlt : 0 < m → m' < m := fun h => by omega
      have HLT := Lib.hid hlt
      have HM' := Lib.hid hm'
      have HDD := Lib.hid hd
      clear hlt hm' hd hdm hm64
      by_cases hm0 : 0 < m
      · have hz : decide ((0 : Int) < (m : Int)) = true := by rw [decide_eq_true_eq]; omega
        clear hgo
        go_wp2
        go_roundg (m' + (if dgt d :: s = [] then 1 else 0))
        case measure => (have := HLT.out hm0; have := HK.out; simp at *; omega)
        case rel =>
          refine ⟨m', dgt d :: s, rfl, rfl, rfl, ?_, by rw [List.length_cons]; omega, hE⟩
          have := HD.out.next
          rw [HM'.out, HDD.out]
          exact this
      · have hs0 : s = [] := by
          rcases hgo with h | h
          · exact absurd h hm0
          · exact h
        subst hs0
        obtain rfl : m = 0 := by omega
        have hcut0 : (⟨#[48, 49, 50, 51, 52, 53, 54, 55, 56, 57]⟩ : ByteArray).extract 0 1 = bs [dgt 0] := dgt_cut 0 (by omega)
        have hc0 : ∀ u : World, (Op.stringOp .add (bs [dgt 0]) (bs [])).run Tryd.prog u = .ok (str [dgt 0]) u := fun u => cat_ok [dgt 0] [] u (by simp)
        clear hcut hc hr hq hr2 hq2 hd1 hd2 hd3 hw hgo hm0
        go_wp2
        go_roundg 0
        case measure => have := HK.out; simp at *; omega
        case rel =>
          refine ⟨0, [dgt 0], by simp, rfl, rfl, ?_, by simp, hE⟩
          exact HD.out.next
    · have hm0 : m = 0 := by omega
      have hs0 : s ≠ [] := fun h => hgo (.inr h)
      subst hm0
      have hval : val s = n := by have := HD.out.2; omega
      have hall := HD.out.1
      have HVAL := Lib.hid hval
      have HALL := Lib.hid hall
      have HS0 := Lib.hid hs0
      have hsz0 : (s == []) = false := by
        cases s with
        | nil => exact absurd rfl hs0
        | cons a b => rfl
      clear hval hall hs0 hgo HD
      go_wp2
      clear hsz0
      go_loopg [5, 7] nou (fun k v5 v7 wr => NouIn w n nou k v5 v7 wr)
      case atStart => exact ⟨0, s, by omega, rfl, rfl, HALL.out, HVAL.out, HS0.out, by omega, hE⟩
      case round =>
        clear HALL HVAL HS0 hE HK hsl
        obtain ⟨i, s2, hik, rfl, rfl, hall, hval, hne, hlen, hE⟩ := hrel
        have HIK := Lib.hid hik
        have HVAL := Lib.hid hval
        have HALL := Lib.hid hall
        have HNE := Lib.hid hne
        clear hval hall hne
        by_cases hlt : i < nou
        · have hc0 : ∀ u : World, (Op.stringOp .add ⟨#[48]⟩ (bs s2)).run Tryd.prog u = .ok (str (48 :: s2)) u := fun u => cat_ok [48] s2 u (by simp; omega)
          clear hik
          go_wp2
          go_roundg (gk - 1)
          case measure => have := HIK.out; omega
          case rel =>
            refine ⟨i + 1, 48 :: s2, by have := HIK.out; omega, by go_num, rfl, fun x hx => ?_, ?_, by simp, by simp; omega, hE⟩
            · rcases List.mem_cons.1 hx with rfl | hx
              · decide
              · exact HALL.out x hx
            · rw [val_zero]; exact HVAL.out
        · clear hik
          have hl2 : s2.length ≤ 4096 := by have := HIK.out; omega
          have HLX := Lib.hid (lexOf_digits HALL.out HNE.out hl2)
          have hsz2 := bs_size s2
          by_cases h18 : s2.length ≤ 18
          · have h := HLX.out
            rw [if_pos h18, HVAL.out] at h
            have HG := Lib.hid h
            have hz18 : decide ((18 : Int) < (s2.length : Int)) = false := by rw [decide_eq_false_iff_not]; omega
            clear h
            go_wp2_with fail
            refine (tokens_good s2 _ (by omega) _ HG.out).mono ?_
            rintro e w3 ⟨g, cap, rfl, hS, hg, hE3⟩
            obtain ⟨b, hgb⟩ := hS.some_of_pos (by simp)
            have z0 := fun u => idx0 (cap := cap) hgb (show 0 < 1 by omega) u
            have hS' := hS
            rw [hgb] at hS'
            have hlb := hS'.block_lt
            have x0 : w3.cell? ⟨b, 0, none⟩ = some (.int .i64 2) := hS'.cell rfl
            have x1 : w3.cell? ⟨b, 1, none⟩ = some (str []) := hS'.cell rfl
            have x2 : w3.cell? ⟨b, 2, none⟩ = some (.int .i64 (n : Int)) := hS'.cell rfl
            clear hS hS' hg hgb
            go_wp2
            go_ret
            exact ⟨rfl, (hE.trans hE3).alloc _⟩
          · have h := HLX.out
            rw [if_neg h18] at h
            have HG := Lib.hid h
            have hz18 : decide ((18 : Int) < (s2.length : Int)) = true := by rw [decide_eq_true_eq]; omega
            clear h
            go_wp2_with fail
            refine (tokens_bad s2 _ (by omega) 140 0 HG.out).mono ?_
            rintro e w3 ⟨rfl, hE3⟩
            go_wp2
            go_ret
            exact ⟨rfl, (hE.trans hE3).alloc _⟩

set_option maxRecDepth 100000 in
set_option maxHeartbeats 8000000 in
theorem numbers_out (n nou : Int) (w : World) (h : n < 0 ∨ 1000000000000000000 ≤ n ∨ nou < 0 ∨ 30 < nou) :
    Calls Tryd.prog 5 #[.int .i64 n, .int .i64 nou] w (fun e w' => e = .returned (.bool true) ∧ Ext w w') := by
  by_cases h1 : n < 0
  · have z1 : decide (n < 0) = true := by rw [decide_eq_true_eq]; exact h1
    clear h h1
    go_enter Tryd.func5, Tryd.ntmps5
    go_wp2_with fail
    refine (awake_ok w).mono ?_
    rintro e w1 ⟨rfl, hE1⟩
    go_wp2
    go_ret
    exact ⟨rfl, hE1⟩
  · have z1 : decide (n < 0) = false := by rw [decide_eq_false_iff_not]; exact h1
    by_cases h2 : 1000000000000000000 ≤ n
    · have z2 : decide ((1000000000000000000 : Int) ≤ n) = true := by rw [decide_eq_true_eq]; exact h2
      clear h h1 h2
      go_enter Tryd.func5, Tryd.ntmps5
      go_wp2_with fail
      refine (awake_ok w).mono ?_
      rintro e w1 ⟨rfl, hE1⟩
      go_wp2
      go_ret
      exact ⟨rfl, hE1⟩
    · have z2 : decide ((1000000000000000000 : Int) ≤ n) = false := by rw [decide_eq_false_iff_not]; exact h2
      by_cases h3 : nou < 0
      · have z3 : decide (nou < 0) = true := by rw [decide_eq_true_eq]; exact h3
        clear h h1 h2 h3
        go_enter Tryd.func5, Tryd.ntmps5
        go_wp2_with fail
        refine (awake_ok w).mono ?_
        rintro e w1 ⟨rfl, hE1⟩
        go_wp2
        go_ret
        exact ⟨rfl, hE1⟩
      · have z3 : decide (nou < 0) = false := by rw [decide_eq_false_iff_not]; exact h3
        have z4 : decide ((30 : Int) < nou) = true := by rw [decide_eq_true_eq]; omega
        clear h h1 h2 h3
        go_enter Tryd.func5, Tryd.ntmps5
        go_wp2_with fail
        refine (awake_ok w).mono ?_
        rintro e w1 ⟨rfl, hE1⟩
        go_wp2
        go_ret
        exact ⟨rfl, hE1⟩
theorem numbers_any (n nou : Int) (w : World) : Calls Tryd.prog 5 #[.int .i64 n, .int .i64 nou] w (fun e w' => e = .returned (.bool true) ∧ Ext w w') := by
  by_cases h : n < 0 ∨ 1000000000000000000 ≤ n ∨ nou < 0 ∨ 30 < nou
  · exact numbers_out n nou w h
  · obtain ⟨a, rfl⟩ : ∃ a : Nat, n = (a : Int) := ⟨n.toNat, by omega⟩
    obtain ⟨b, rfl⟩ : ∃ b : Nat, nou = (b : Int) := ⟨nou.toNat, by omega⟩
    exact numbers_in a b w (by omega) (by omega)
end Go.Proofs.YtaiedccjaahmgaaDoor
