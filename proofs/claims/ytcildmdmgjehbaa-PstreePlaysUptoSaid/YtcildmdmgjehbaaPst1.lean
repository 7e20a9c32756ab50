/- pstree.ahead, above: walked. -/
import Derived.Test.YtcildmdmgjehbaaCmp
namespace Go.Proofs.Ytcildmdmgjehbaa
open Go.RowKit

abbrev pt (x y i : Int) : Value := .agg #[.int .i64 x, .int .i64 y, .int .i64 i]
def aheadI (x1 i1 x2 i2 : Int) : Int := orL [cmpI x1 x2, cmpI i1 i2]
def aboveB (x1 y1 i1 x2 y2 i2 : Int) : Bool := decide (orL [cmpI y2 y1, aheadI x1 i1 x2 i2] < 0)

set_option maxHeartbeats 400000 in
theorem ahead_any (x1 y1 i1 x2 y2 i2 : Int) (w : World) :
    Calls Try.prog 17 #[pt x1 y1 i1, pt x2 y2 i2] w
     fun e w' => e = .returned (.int .i64 (aheadI x1 i1 x2 i2)) ∧ Ext w w' := by
  go_enter Try.func17, Try.ntmps17
  go_wp2
  refine region_calm [.p 0, .l 1, .p 2, .l 3, .p 5, .l 6, .p 7, .l 8, .h 4 true, .h 9 false, .h 10 false, .h 11 false, .p 12] f_mixed (by kernel_rfl) (by kernel_rfl) ?_
  repeat (first | (refine plan_p rfl (fun K hK => ?_); go_simp; refine hK _ ?_; clear hK K) | (refine plan_l rfl (fun K hK => ?_); go_simp; refine hK _ ?_; clear hK K))
  refine plan_ct rfl rfl (fun K _ hK => ?_)
  go_wp2_with (go_at_call 26; refine (compare_any _ _ _).mono ?_; rintro e w' ⟨rfl, rfl⟩)
  refine hK _ _ (Ext.refl _) ?_; clear hK K
  refine plan_c rfl rfl (fun K _ hK => ?_)
  go_wp2_with (go_at_call 26; refine (compare_any _ _ _).mono ?_; rintro e w' ⟨rfl, rfl⟩)
  refine plan_c rfl rfl (fun K _ hK => ?_)
  go_wp2
  refine plan_c rfl rfl (fun K _ hK => ?_)
  go_wp2_with fail
  refine (or_any _ [cmpI x1 x2, cmpI i1 i2] 2 _ rfl (by omega) ?_).mono ?_
  · intro j hj
    obtain rfl | rfl : j = 0 ∨ j = 1 := by omega
    all_goals go_simp
  rintro e w' ⟨rfl, rfl⟩
  go_wp2
  repeat (first | (refine plan_p rfl (fun K hK => ?_); go_simp; refine hK _ ?_; clear hK K) | (refine plan_l rfl (fun K hK => ?_); go_simp; refine hK _ ?_; clear hK K))
  refine plan_done ?_
  go_wp2
  go_ret
  refine ⟨rfl, ?_⟩
  repeat (first | exact Ext.refl _ | refine Ext.alloc ?_ _ | refine Ext.drew ?_)

set_option maxHeartbeats 400000 in
theorem above_any (x1 y1 i1 x2 y2 i2 : Int) (w : World) :
    Calls Try.prog 16 #[pt x1 y1 i1, pt x2 y2 i2] w
     fun e w' => e = .returned (.bool (aboveB x1 y1 i1 x2 y2 i2)) ∧ Ext w w' := by
  go_enter Try.func16, Try.ntmps16
  go_wp2
  refine region_calm [.p 0, .l 1, .p 2, .l 3, .l 5, .l 6, .h 4 true, .h 7 false, .h 8 false, .h 9 false, .p 10, .p 11] f_mixed (by kernel_rfl) (by kernel_rfl) ?_
  repeat (first | (refine plan_p rfl (fun K hK => ?_); go_simp; refine hK _ ?_; clear hK K) | (refine plan_l rfl (fun K hK => ?_); go_simp; refine hK _ ?_; clear hK K))
  refine plan_ct rfl rfl (fun K _ hK => ?_)
  go_wp2_with (go_at_call 26; refine (compare_any _ _ _).mono ?_; rintro e w' ⟨rfl, rfl⟩)
  refine hK _ _ (Ext.refl _) ?_; clear hK K
  refine plan_at (fun W => Ext w W) (by repeat (first | exact Ext.refl _ | refine Ext.alloc ?_ _ | refine Ext.drew ?_)) ?_
  intro W hE
  refine plan_c rfl rfl (fun K _ hK => ?_)
  go_wp2_with (go_at_call 17; refine (ahead_any _ _ _ _ _ _ _).mono ?_; rintro e w' ⟨rfl, hE2⟩)
  replace hE := hE.trans hE2
  clear hE2
  refine plan_c rfl rfl (fun K _ hK => ?_)
  go_wp2
  refine plan_c rfl rfl (fun K _ hK => ?_)
  go_wp2_with fail
  refine (or_any _ [cmpI y2 y1, aheadI x1 i1 x2 i2] 2 _ rfl (by omega) ?_).mono ?_
  · intro j hj
    obtain rfl | rfl : j = 0 ∨ j = 1 := by omega
    all_goals go_simp
  rintro e w' ⟨rfl, rfl⟩
  go_wp2
  repeat (first | (refine plan_p rfl (fun K hK => ?_); go_simp; refine hK _ ?_; clear hK K) | (refine plan_l rfl (fun K hK => ?_); go_simp; refine hK _ ?_; clear hK K))
  refine plan_done ?_
  go_wp2
  go_ret
  refine ⟨rfl, ?_⟩
  repeat (first | exact hE | refine Ext.alloc ?_ _ | refine Ext.drew ?_)
end Go.Proofs.Ytcildmdmgjehbaa
