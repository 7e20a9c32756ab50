/- cmp.Compare and cmp.Or at integers. -/
import Derived.Test.YtcildmdmgjehbaaProg
import Derived.Test.YtcildmdmgjehbaaMem
import Derived.WalkSpells
import Derived.WalkLawsBesides
import Derived.Lib.Hide
namespace Go.Proofs.Ytcildmdmgjehbaa
open Go.RowKit
theorem f_mixed : Try.prog.follows .mixedOrders = true := by kernel_rfl
set_option maxHeartbeats 400000 in
theorem isNaN_any (a : Int) (w : World) :
    Calls Try.prog 27 #[.int .i64 a] w fun e w' => e = .returned (.bool false) ∧ w = w' := by
  go_enter Try.func27, Try.ntmps27
  go_wp2
  go_ret
  exact ⟨by simp, rfl⟩
def cmpI (a b : Int) : Int := if a < b then -1 else if b < a then 1 else 0
set_option maxHeartbeats 400000 in
theorem compare_any (a b : Int) (w : World) :
    Calls Try.prog 26 #[.int .i64 a, .int .i64 b] w fun e w' => e = .returned (.int .i64 (cmpI a b)) ∧ w = w' := by
  go_enter Try.func26, Try.ntmps26
  go_wp2_with (go_at_call 27; refine (isNaN_any _ _).mono ?_; rintro e w' ⟨rfl, rfl⟩)
  all_goals (go_ret; refine ⟨?_, rfl⟩; simp [cmpI, *])
  rw [if_neg (by omega), if_neg (by omega)]
/-- The first number that is not 0. -/
def orL : List Int → Int
  | [] => 0
  | x :: xs => if x = 0 then orL xs else x
theorem orL_zero : ∀ (xs : List Int), (∀ j, j < xs.length → xs[j]?.getD 0 = 0) → orL xs = 0
  | [], _ => rfl
  | x :: xs, h => by
    have h0 : x = 0 := by simpa using h 0 (by simp)
    simp only [orL, h0, if_true]
    exact orL_zero xs fun j hj => by simpa using h (j + 1) (by simp; omega)
theorem orL_at : ∀ (xs : List Int) (k : Nat), k < xs.length → (∀ j, j < k → xs[j]?.getD 0 = 0) → xs[k]?.getD 0 ≠ 0 → orL xs = xs[k]?.getD 0
  | [], k, hk, _, _ => by simp at hk
  | x :: xs, 0, _, _, h => by simp at h; simp [orL, h]
  | x :: xs, k + 1, hk, hz, h => by
    have h0 : x = 0 := by simpa using hz 0 (by omega)
    simp only [orL, h0, if_true]
    rw [orL_at xs k (by simpa using hk) (fun j hj => by simpa using hz (j + 1) (by omega)) (by simpa using h)]
    simp
set_option maxHeartbeats 400000 in
theorem or_any (p : Nat) (xs : List Int) (n : Nat) (w : World) (hn : n = xs.length) (hm : n ≤ 1000) (hc : ∀ j, j < n → w.cell? ⟨p, j, none⟩ = some (.int .i64 (xs[j]?.getD 0))) :
    Calls Try.prog 25 #[.slice (some ⟨p, 0, none⟩) n n] w fun e w' => e = .returned (.int .i64 (orL xs)) ∧ w = w' := by
  have Hn : Hid (n = xs.length) := hn
  clear hn
  have Hc : Hid (∀ j, j < n → w.cell? ⟨p, j, none⟩ = some (.int .i64 (xs[j]?.getD 0))) := hc
  clear hc
  go_enter Try.func25, Try.ntmps25
  go_wp2
  go_loop [8] (fun i => ∃ k : Nat, k ≤ n ∧ i = .int .i64 k ∧ Hid (∀ j, j < k → xs[j]?.getD 0 = 0)) (fun i => n - (intOf i).toNat)
  case atStart => exact ⟨0, Nat.zero_le _, rfl, fun j hj => by omega⟩
  case round =>
    obtain ⟨k, hk, rfl, hz⟩ := hrel
    by_cases hlt : k < n
    · have hcell := Hc.out k hlt
      by_cases h0 : xs[k]?.getD 0 = 0
      · rw [h0] at hcell
        go_wp2
        go_round
        case rel => exact ⟨k + 1, by omega, by go_num, fun j hj => by
          by_cases h : j = k
          · subst h; exact h0
          · exact hz.out j (by omega)⟩
        case measure => simp [intOf]; omega
      · have h0' : (xs[k]?.getD 0 == 0) = false := by simpa using h0
        have h0'' : (xs[k]?.getD 0 != 0) = true := by simpa using h0
        generalize hx : xs[k]?.getD 0 = x at *
        have Hx := Lib.hid hx; clear hx
        go_wp2
        go_ret
        refine ⟨?_, rfl⟩
        rw [orL_at xs k (by rw [← Hn.out]; exact hlt) hz.out (by rw [Hx.out]; exact h0), Hx.out]
        rfl
    · go_wp2
      go_ret
      refine ⟨?_, rfl⟩
      rw [orL_zero xs (fun j hj => hz.out j (by have := Hn.out; omega))]
      rfl
end Go.Proofs.Ytcildmdmgjehbaa
