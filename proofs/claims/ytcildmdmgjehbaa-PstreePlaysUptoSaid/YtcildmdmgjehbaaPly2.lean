/- annalslaw11.step: asked for points, and for the top: walked. -/
import Derived.Test.YtcildmdmgjehbaaPly
namespace Go.Proofs.Ytcildmdmgjehbaa
open Go.RowKit

/-- A block of one element, as a slice. -/
theorem sl_one {w : World} {b : Nat} {e : TypeId} {size : Nat} {xs : List Value} (hb : w.heap[b]? = some (.cells xs.toArray e (0, 0))) (hl : xs.length = 1 * size) : Sl w e size (some b) 1 1 xs :=
  ⟨hl, xs.toArray, hb, Nat.le_refl _, by unfold maxLen; omega, by simpa using hl, by rw [← hl]; simp⟩

section
variable (B tb : Nat) (g : Option Nat) (n cap : Nat) (L : List Pt) (bs : List Nat) (x y i lo hi le : Int) (w : World)

set_option maxRecDepth 100000 in
set_option maxHeartbeats 4000000 in
theorem step_find (h : Twin B w tb g n cap L bs) (hB : B ≤ w.heap.size) (hsz : n * 24 ≤ 140737488355328) :
    Calls Try.prog 12 #[.pointer (some ⟨tb, 0, none⟩), slv g n cap, opv 2 x y i lo hi le] w (StepPost B tb n L (x, y, i) w) := by
  have H := Lib.hid h; clear h
  have hle := inRange_le lo hi le L
  have HLE := Lib.hid hle; clear hle
  go_enter Try.func12, Try.ntmps12
  go_wp2
  refine region_calm [.p 0, .p 1, .p 2, .l 3, .p 4, .l 5, .p 6, .l 7, .p 9, .p 10, .l 11, .p 12, .l 13, .p 14, .l 15, .h 8 true, .h 16 false, .h 17 false, .p 18, .p 19] f_mixed (by kernel_rfl) (by kernel_rfl) ?_
  repeat (first | (refine plan_p rfl (fun K hK => ?_); go_simp; refine hK _ ?_; clear hK K) | (refine plan_l rfl (fun K hK => ?_); go_simp; refine hK _ ?_; clear hK K))
  refine plan_ct rfl rfl (fun K _ hK => ?_)
  go_wp2_with fail
  refine (Find_ok lo hi le tb L bs _ (H.out.tree.ext (((Ext.refl w).alloc _).alloc _).drew) (by rw [H.out.len]; exact hsz)).mono ?_
  rintro e w1 ⟨g1, cap1, rfl, hS1, hg1, hE1⟩
  have HS1 := Lib.hid hS1
  have hE1' : Ext w w1 := (((Ext.refl w).alloc _).alloc _).drew.trans hE1
  clear hS1 hg1
  generalize hql : (inRange lo hi le L).length = ql at HS1 HLE ⊢
  have HQL := Lib.hid hql; clear hql
  go_wp2_with fail
  refine hK _ _ (hE1) ?_; clear hK K
  refine plan_c rfl rfl (fun K _ hK => ?_)
  go_wp2_with fail
  refine (RFind_any lo hi le g n cap L _ H.out.len (H.out.list.ext hE1') hsz).mono ?_
  rintro e w2 ⟨g2, cap2, rfl, hS2, hg2, hE2⟩
  have HS2 := Lib.hid hS2
  clear hS2 hg2
  go_wp2_with fail
  refine plan_h rfl (fun K hK => ?_)
  go_wp2_with fail
  have hS2' : Sl w2 66 3 g2 ql cap2 (flatP (inRange lo hi le L)) := by have := HS2.out; rw [HQL.out] at this; exact this
  rw [HQL.out]
  refine (points_eq g1 g2 ql cap1 cap2 (inRange lo hi le L) _ HQL.out (HS1.out.ext hE2) hS2' (by have := HLE.out; have := H.out.len; omega)).mono ?_
  rintro e w3 ⟨rfl, hE3⟩
  clear hS2'
  go_wp2_with fail
  repeat (first | (refine plan_p rfl (fun K hK => ?_); go_simp; refine hK _ ?_; clear hK K) | (refine plan_l rfl (fun K hK => ?_); go_simp; refine hK _ ?_; clear hK K))
  refine plan_done ?_
  have hE : Ext w w3 := hE1'.trans (hE2.trans hE3)
  go_wp2
  go_ret2
  exact ⟨g, n, cap, L, bs, rfl, H.out.ext hE, by omega, hE.mono hB, fun q hq => .inl hq⟩

set_option maxRecDepth 100000 in
set_option maxHeartbeats 4000000 in
theorem step_top (h : Twin B w tb g n cap L bs) (hB : B ≤ w.heap.size) (hsz : n * 24 ≤ 140737488355328) :
    Calls Try.prog 12 #[.pointer (some ⟨tb, 0, none⟩), slv g n cap, opv 3 x y i lo hi le] w (StepPost B tb n L (x, y, i) w) := by
  have H := Lib.hid h; clear h
  have hcase : ∃ (p : Pt) (c : Int), (∀ u, Ext w u → Calls Try.prog 14 #[.pointer (some ⟨tb, 0, none⟩)] u (fun e w' => e = .returned (.tuple #[pt p.1 p.2.1 p.2.2, .int .i64 c]) ∧ Ext u w')) ∧
      (∀ u, Ext w u → Calls Try.prog 23 #[slv g n cap] u (fun e w' => e = .returned (.tuple #[pt p.1 p.2.1 p.2.2, .int .i64 c]) ∧ Ext u w')) := by
    by_cases hne : L = []
    · have hn0 : n = 0 := by rw [← H.out.len, hne]; rfl
      refine ⟨(0, 0, 0), 5, fun u hu => ?_, fun u hu => ?_⟩
      · have := H.out.tree.ext hu
        rw [hne] at this
        exact Top_none tb bs u this
      · rw [hn0]; exact RTop_none g cap u
    · obtain ⟨p, hp, hm, -⟩ := Top_ok tb L bs w H.out.tree hne
      have hl : 0 < n := by rw [← H.out.len]; exact List.length_pos_iff.2 hne
      refine ⟨p, 0, fun u hu => ?_, fun u hu => ?_⟩
      · obtain ⟨p', hp', hm', hc⟩ := Top_ok tb L bs u (H.out.tree.ext hu) hne
        have : p' = p := by
          have h1 := topUp_eq L H.out.tree.srt hne p hp hm
          have h2 := topUp_eq L H.out.tree.srt hne p' hp' hm'
          rw [← h1, ← h2]
        rw [← this]; exact hc
      · have := RTop_some g n cap L u H.out.len (H.out.list.ext hu) hl hsz
        have h1 := topUp_eq L H.out.tree.srt hne p hp hm
        rw [H.out.len] at h1
        rw [h1] at this
        exact this
  obtain ⟨⟨px, py, pid⟩, c, hc1, hc2⟩ := hcase
  have HC1 := Lib.hid hc1; clear hc1
  have HC2 := Lib.hid hc2; clear hc2
  go_enter Try.func12, Try.ntmps12
  go_wp2_with fail
  refine (HC1.out _ (((Ext.refl w).alloc _).alloc _)).mono ?_
  rintro e w1 ⟨rfl, hE1⟩
  have hE1' : Ext w w1 := (((Ext.refl w).alloc _).alloc _).trans hE1
  go_wp2_with fail
  refine (HC2.out _ (hE1'.alloc _)).mono ?_
  rintro e w2 ⟨rfl, hE2⟩
  have hb2 := Ext.block hE2 (blk_new w1 _)
  obtain ⟨d0, d1, d2⟩ := blk3 hb2
  have hlt2 := blk_lt hb2
  have hE2' : Ext w w2 := (hE1'.alloc _).trans hE2
  clear hb2
  go_wp2_with fail
  refine (points_eq (some (w2.heap.size + 1)) (some (w2.heap.size + 1 + 1)) 1 1 1 [(px, py, pid)] _ rfl (sl_one (xs := [.int .i64 px, .int .i64 py, .int .i64 pid]) ?_ rfl) (sl_one (xs := [.int .i64 px, .int .i64 py, .int .i64 pid]) ?_ rfl) (by omega)).mono ?_
  · have := blk_alloc (o' := .cells #[.int .i64 px, .int .i64 py, .int .i64 pid] 66) (blk_new (w2.alloc (.cells #[.int .i64 px, .int .i64 py, .int .i64 pid] 66)) (.cells #[.int .i64 px, .int .i64 py, .int .i64 pid] 31))
    simpa using this
  · have := blk_new ((w2.alloc (.cells #[.int .i64 px, .int .i64 py, .int .i64 pid] 66)).alloc (.cells #[.int .i64 px, .int .i64 py, .int .i64 pid] 31)) (.cells #[.int .i64 px, .int .i64 py, .int .i64 pid] 66)
    simpa using this
  rintro e w3 ⟨rfl, hE3⟩
  have hE : Ext w w3 := (((hE2'.alloc _).alloc _).alloc _).trans hE3
  go_wp2
  go_ret2
  exact ⟨g, n, cap, L, bs, rfl, H.out.ext hE, by omega, hE.mono hB, fun q hq => .inl hq⟩
end
end Go.Proofs.Ytcildmdmgjehbaa
