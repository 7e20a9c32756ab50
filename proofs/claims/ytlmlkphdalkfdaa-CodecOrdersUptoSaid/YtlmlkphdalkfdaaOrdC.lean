/- cmp.Compare, cmp.Or, strings.Compare, codec.Compare: walked. -/
import Derived.Test.YtlmlkphdalkfdaaOrdL
import Derived.Lib.Bytealg
namespace Go.Proofs.Ytlmlkphdalkfdaa
open Go.RowKit

set_option maxHeartbeats 400000 in
theorem isNaN_i64 (a : Int) (w : World) :
    Calls Try.prog 38 #[.int .i64 a] w fun e w' => e = .returned (.bool false) ∧ w = w' := by
  go_enter Try.func38, Try.ntmps38
  go_wp2
  go_ret
  exact ⟨by simp, rfl⟩
set_option maxHeartbeats 400000 in
theorem isNaN_int (a : Int) (w : World) :
    Calls Try.prog 37 #[.int .i64 a] w fun e w' => e = .returned (.bool false) ∧ w = w' := by
  go_enter Try.func37, Try.ntmps37
  go_wp2
  go_ret
  exact ⟨by simp, rfl⟩
def cmpI (a b : Int) : Int := if a < b then -1 else if b < a then 1 else 0
set_option maxHeartbeats 400000 in
theorem compare_i64 (a b : Int) (w : World) :
    Calls Try.prog 34 #[.int .i64 a, .int .i64 b] w fun e w' => e = .returned (.int .i64 (cmpI a b)) ∧ w = w' := by
  go_enter Try.func34, Try.ntmps34
  go_wp2_with (go_at_call 38; refine (isNaN_i64 _ _).mono ?_; rintro e w' ⟨rfl, rfl⟩)
  all_goals (go_ret; refine ⟨?_, rfl⟩; simp [cmpI, *])
  rw [if_neg (by omega), if_neg (by omega)]
set_option maxHeartbeats 400000 in
theorem compare_int (a b : Int) (w : World) :
    Calls Try.prog 33 #[.int .i64 a, .int .i64 b] w fun e w' => e = .returned (.int .i64 (cmpI a b)) ∧ w = w' := by
  go_enter Try.func33, Try.ntmps33
  go_wp2_with (go_at_call 37; refine (isNaN_int _ _).mono ?_; rintro e w' ⟨rfl, rfl⟩)
  all_goals (go_ret; refine ⟨?_, rfl⟩; simp [cmpI, *])
  rw [if_neg (by omega), if_neg (by omega)]
/-- The first number that is not 0. -/
def orL : List Int → Int
  | [] => 0
  | x :: xs => if x = 0 then orL xs else x
theorem orL_zero : ∀ (xs : List Int), (∀ j, j < xs.length → xs[j]?.getD 0 = 0) → orL xs = 0
  | [], _ => rfl
  | x :: xs, h => by
    have h0 : x = 0 := by simpa using h 0 (by simp)
    simp only [orL, h0, if_true]
    exact orL_zero xs fun j hj => by simpa using h (j + 1) (by simp; omega)
theorem orL_at : ∀ (xs : List Int) (k : Nat), k < xs.length → (∀ j, j < k → xs[j]?.getD 0 = 0) → xs[k]?.getD 0 ≠ 0 → orL xs = xs[k]?.getD 0
  | [], k, hk, _, _ => by simp at hk
  | x :: xs, 0, _, _, h => by simp at h; simp [orL, h]
  | x :: xs, k + 1, hk, hz, h => by
    have h0 : x = 0 := by simpa using hz 0 (by omega)
    simp only [orL, h0, if_true]
    rw [orL_at xs k (by simpa using hk) (fun j hj => by simpa using hz (j + 1) (by omega)) (by simpa using h)]
    simp
set_option maxHeartbeats 400000 in
theorem or_any (p : Nat) (xs : List Int) (n : Nat) (w : World) (hn : n = xs.length) (hm : n ≤ 1000) (hc : ∀ j, j < n → w.cell? ⟨p, j, none⟩ = some (.int .i64 (xs[j]?.getD 0))) :
    Calls Try.prog 32 #[.slice (some ⟨p, 0, none⟩) n n] w fun e w' => e = .returned (.int .i64 (orL xs)) ∧ w = w' := by
  have Hn : Hid (n = xs.length) := hn
  clear hn
  have Hc : Hid (∀ j, j < n → w.cell? ⟨p, j, none⟩ = some (.int .i64 (xs[j]?.getD 0))) := hc
  clear hc
  go_enter Try.func32, Try.ntmps32
  go_wp2
  go_loop [8] (fun i => ∃ k : Nat, k ≤ n ∧ i = .int .i64 k ∧ Hid (∀ j, j < k → xs[j]?.getD 0 = 0)) (fun i => n - (intOf i).toNat)
  case atStart => exact ⟨0, Nat.zero_le _, rfl, fun j hj => by omega⟩
  case round =>
    obtain ⟨k, hk, rfl, hz⟩ := hrel
    by_cases hlt : k < n
    · have hcell := Hc.out k hlt
      by_cases h0 : xs[k]?.getD 0 = 0
      · rw [h0] at hcell
        go_wp2
        go_round
        case rel => exact ⟨k + 1, by omega, by go_num, fun j hj => by
          by_cases h : j = k
          · subst h; exact h0
          · exact hz.out j (by omega)⟩
        case measure => simp [intOf]; omega
      · have h0' : (xs[k]?.getD 0 == 0) = false := by simpa using h0
        have h0'' : (xs[k]?.getD 0 != 0) = true := by simpa using h0
        generalize hx : xs[k]?.getD 0 = x at *
        have Hx := Lib.hid hx; clear hx
        go_wp2
        go_ret
        refine ⟨?_, rfl⟩
        rw [orL_at xs k (by rw [← Hn.out]; exact hlt) hz.out (by rw [Hx.out]; exact h0), Hx.out]
        rfl
    · go_wp2
      go_ret
      refine ⟨?_, rfl⟩
      rw [orL_zero xs (fun j hj => hz.out j (by have := Hn.out; omega))]
      rfl

set_option maxHeartbeats 1000000 in
theorem cmpstr_any (a b : ByteArray) (w : World) :
    Calls Try.prog 39 #[.string a, .string b] w fun e w' => e = .returned (.int .i64 (Lib.compareBytes a.data.toList b.data.toList)) ∧ w = w' := by
  go_enter Try.func39, Try.ntmps39
  go_wp2_with fail
  rw [run_callFunc_extern Try.func40 (by kernel_rfl) (by kernel_rfl) (by kernel_rfl) (e := Extern.BytealgCompare.compare) (by kernel_rfl), Lib.run_compareString]
  simp only [Result.andThen]
  rw [Oper.upon_value]
  go_wp2
  go_ret
  exact ⟨rfl, rfl⟩
set_option maxHeartbeats 1000000 in
theorem strcmp_any (a b : ByteArray) (w : World) :
    Calls Try.prog 35 #[.string a, .string b] w fun e w' => e = .returned (.int .i64 (Lib.compareBytes a.data.toList b.data.toList)) ∧ w = w' := by
  go_enter Try.func35, Try.ntmps35
  go_wp2_with (go_at_call 39; refine (cmpstr_any _ _ _).mono ?_; rintro e w' ⟨rfl, rfl⟩)
  go_ret
  exact ⟨rfl, rfl⟩

theorem strcmp_bs (a b : List UInt8) (w : World) :
    Calls Try.prog 35 #[str a, str b] w fun e w' => e = .returned (.int .i64 (Lib.compareBytes a b)) ∧ w = w' := by
  have h := strcmp_any (bs a) (bs b) w
  have ha : (bs a).data.toList = a := by simp [bs]
  have hb : (bs b).data.toList = b := by simp [bs]
  rw [ha, hb] at h
  exact h

theorem cmpB_eq : ∀ (a b : List UInt8), Lib.compareBytes a b = if Op.bytesLess a b = true then -1 else if a = b then 0 else 1
  | [], [] => by simp [Lib.compareBytes, Op.bytesLess]
  | [], _ :: _ => by simp [Lib.compareBytes, Op.bytesLess]
  | _ :: _, [] => by simp [Lib.compareBytes, Op.bytesLess]
  | x :: a, y :: b => by
    have ih := cmpB_eq a b
    rw [bl_cons]
    unfold Lib.compareBytes
    by_cases hxy : x = y
    · subst hxy
      have hlt : ¬ x < x := UInt8.lt_irrefl x
      simp [hlt, ih]
    · by_cases hlt : x < y
      · simp [hlt]
      · have hyx : y < x := UInt8.lt_of_le_of_ne (UInt8.not_lt.1 hlt) (Ne.symm hxy)
        simp [hlt, hyx, hxy]
theorem oneV_or (k k' n n' : Int) (t t' : List UInt8) : orL [cmpI k k', cmpI n n', Lib.compareBytes t t'] = oneV (k, n, t) (k', n', t') := by
  rw [cmpB_eq]
  unfold oneV
  simp only [orL, cmpI, Prod.mk.injEq]
  by_cases h1 : k < k'
  · simp [h1]
  · by_cases h2 : k = k'
    · subst h2
      by_cases h3 : n < n'
      · simp [h3]
      · by_cases h4 : n = n'
        · subst h4
          by_cases h5 : Op.bytesLess t t' = true
          · simp [h5]
          · by_cases h6 : t = t'
            · subst h6; simp [h5]
            · simp [h5, h6]
        · have h5 : n' < n := by omega
          simp [h3, h4, h5]
    · have h3 : k' < k := by omega
      simp [h1, h2, h3]

end Go.Proofs.Ytlmlkphdalkfdaa
