/- annalslaw11.awake: walked. -/
import Derived.Test.YtcildmdmgjehbaaPst6
namespace Go.Proofs.Ytcildmdmgjehbaa
open Go.RowKit

theorem Touch.fresh {S : Nat → Prop} {a b c : World} (h : Ext a b) (k : Touch S b c) (hs : ∀ i, S i → a.heap.size ≤ i) : Ext a c :=
  Ext.trans' h (k.below h.size hs)

set_option maxHeartbeats 1000000 in
theorem awake_any (w : World) : Calls Try.prog 7 #[] w (fun e w' => e = .returned (.bool true) ∧ Ext w w') := by
  go_enter Try.func7, Try.ntmps7
  go_wp2_with fail
  refine (New_ok w).mono ?_
  rintro e w1 ⟨tb, bs, rfl, hT1, hb1, hE1⟩
  have HT1 := Lib.hid hT1; clear hT1
  have HB1 := Lib.hid hb1; clear hb1
  go_wp2_with fail
  refine (Add_ok tb 1 5 1 [] bs w1 HT1.out (by simp)).mono ?_
  rintro e w2 ⟨L2, bs2, rfl, hT2, hp2, hb2, ht2⟩
  have hL2 : L2 = [(1, 5, 1)] := List.perm_singleton.1 hp2
  subst hL2
  have hE2 : Ext w w2 := Touch.fresh hE1 ht2 HB1.out
  have hbs2 : ∀ k ∈ bs2, w.heap.size ≤ k := fun k hk => (hb2 k hk).elim (HB1.out k) (fun h => Nat.le_trans hE1.size h)
  have HT2 := Lib.hid hT2; clear hT2
  have HB2 := Lib.hid hbs2; clear hbs2
  clear hp2 hb2 ht2
  go_wp2_with fail
  refine (Add_ok tb 2 9 2 [(1, 5, 1)] bs2 w2 HT2.out (by simp)).mono ?_
  rintro e w3 ⟨L3, bs3, rfl, hT3, hp3, hb3, ht3⟩
  have hL3 : L3 = [(1, 5, 1), (2, 9, 2)] := srt_unique hT3.srt (by simp [kLt]) (hp3.trans (List.Perm.swap _ _ _))
  subst hL3
  have hE3 : Ext w w3 := Touch.fresh hE2 ht3 HB2.out
  have HT3 := Lib.hid hT3; clear hT3
  clear hp3 hb3 ht3
  go_wp2_with fail
  refine (Find_ok 0 4 6 tb _ bs3 w3 HT3.out (by simp)).mono ?_
  rintro e w4 ⟨g, cap, rfl, hS, hg, hE4⟩
  have hq : inRange 0 4 6 [(1, 5, 1), (2, 9, 2)] = [(2, 9, 2)] := by decide
  rw [hq] at hS
  simp only [hq] at *
  obtain ⟨b, rfl⟩ := hS.some_of_pos (by simp)
  have c2 : w4.cell? ⟨b, 2, none⟩ = some (.int .i64 2) := hS.cell rfl
  have hbl := hS.block_lt
  have HT4 := Lib.hid (HT3.out.ext hE4)
  clear hS hg hq
  simp only [slv, adr]
  go_wp2_with fail
  obtain ⟨p, hp, hmax, hcall⟩ := Top_ok tb _ bs3 w4 HT4.out (by simp)
  have hp' : p = (2, 9, 2) := by
    rcases hmax (2, 9, 2) (by simp) with h | h
    · exact h.symm
    · simp at hp; rcases hp with rfl | rfl
      · simp [kAb, kLt] at h
      · rfl
  subst hp'
  refine hcall.mono ?_
  rintro e w5 ⟨rfl, hE5⟩
  have HT5 := Lib.hid (HT4.out.ext hE5)
  have c2' := Ext.cell hE5 c2
  have hbl' : b < w5.heap.size := Nat.lt_of_lt_of_le hbl hE5.size
  clear c2 hbl hmax hcall hp
  go_wp2_with fail
  refine (Len_ok tb _ bs3 _ (HT5.out.ext ((Ext.refl w5).alloc _))).mono ?_
  rintro e w6 ⟨rfl, rfl⟩
  go_wp2
  go_ret
  refine ⟨rfl, ?_⟩
  exact ((hE3.trans hE4).trans hE5).alloc _
end Go.Proofs.Ytcildmdmgjehbaa
