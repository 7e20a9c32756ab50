/- lex.letter, digit and the two kinds of bytes; the document's: walked. -/
import Derived.Test.YtaiedccjaahmgaaDoorProg
import Derived.Test.YtaiedccjaahmgaaDoorMem
import Derived.Test.YtaiedccjaahmgaaDoorLexL
import Derived.WalkSpells
import Derived.WalkLawsBesides
namespace Go.Proofs.YtaiedccjaahmgaaDoor
open Go.RowKit

theorem f_mixed : Tryd.prog.follows .mixedOrders = true := by kernel_rfl
set_option maxHeartbeats 4000000 in
theorem letter_ok (x : UInt8) (w : World) : Calls Tryd.prog 16 #[.int .u8 (x.toNat : Int)] w (fun e w' => e = .returned (.bool (isL x)) ∧ w' = w) := by
  go_enter Tryd.func16, Tryd.ntmps16
  go_wp2
  all_goals (go_ret; refine ⟨congrArg (fun b => Ending.returned (Value.bool b)) ?_, rfl⟩; rw [Bool.eq_iff_iff]; simp [isL] <;> omega)
set_option maxHeartbeats 4000000 in
theorem digit_ok (x : UInt8) (w : World) : Calls Tryd.prog 19 #[.int .u8 (x.toNat : Int)] w (fun e w' => e = .returned (.bool (isD x)) ∧ w' = w) := by
  go_enter Tryd.func19, Tryd.ntmps19
  go_wp2
  all_goals (go_ret; refine ⟨congrArg (fun b => Ending.returned (Value.bool b)) ?_, rfl⟩; rw [Bool.eq_iff_iff]; simp [isD] <;> omega)
set_option maxHeartbeats 4000000 in
theorem rletter_ok (x : UInt8) (w : World) : Calls Tryd.prog 33 #[.int .u8 (x.toNat : Int)] w (fun e w' => e = .returned (.bool (isL x)) ∧ w' = w) := by
  go_enter Tryd.func33, Tryd.ntmps33
  go_wp2
  all_goals (go_ret; refine ⟨congrArg (fun b => Ending.returned (Value.bool b)) ?_, rfl⟩; rw [Bool.eq_iff_iff]; simp [isL] <;> omega)
set_option maxHeartbeats 4000000 in
theorem rdigit_ok (x : UInt8) (w : World) : Calls Tryd.prog 34 #[.int .u8 (x.toNat : Int)] w (fun e w' => e = .returned (.bool (isD x)) ∧ w' = w) := by
  go_enter Tryd.func34, Tryd.ntmps34
  go_wp2
  all_goals (go_ret; refine ⟨congrArg (fun b => Ending.returned (Value.bool b)) ?_, rfl⟩; rw [Bool.eq_iff_iff]; simp [isD] <;> omega)
set_option maxHeartbeats 4000000 in
theorem blank_ok (x : UInt8) (w : World) : Calls Tryd.prog 15 #[.int .u8 (x.toNat : Int)] w (fun e w' => e = .returned (.bool (isB x)) ∧ w' = w) := by
  go_enter Tryd.func15, Tryd.ntmps15
  go_wp2
  all_goals (go_ret; refine ⟨congrArg (fun b => Ending.returned (Value.bool b)) ?_, rfl⟩; rw [Bool.eq_iff_iff]; simp [isB] <;> omega)
set_option maxHeartbeats 4000000 in
theorem wordc_ok (x : UInt8) (w : World) : Calls Tryd.prog 18 #[.int .u8 (x.toNat : Int)] w (fun e w' => e = .returned (.bool (isW x)) ∧ w' = w) := by
  go_enter Tryd.func18, Tryd.ntmps18
  cases hl : isL x
  · go_wp2_with (first | (go_at_call 16; refine (letter_ok _ _).mono ?_; rintro e w' ⟨rfl, rfl⟩; rw [hl]) | (go_at_call 19; refine (digit_ok _ _).mono ?_; rintro e w' ⟨rfl, rfl⟩))
    go_ret
    exact ⟨by simp [isW, hl], rfl⟩
  · go_wp2_with (first | (go_at_call 16; refine (letter_ok _ _).mono ?_; rintro e w' ⟨rfl, rfl⟩; rw [hl]) | (go_at_call 19; refine (digit_ok _ _).mono ?_; rintro e w' ⟨rfl, rfl⟩))
    go_ret
    exact ⟨by simp [isW, hl], rfl⟩
end Go.Proofs.YtaiedccjaahmgaaDoor
