/- bag.Clip at facts of one row: walked. -/
import Derived.Test.YtkejjahlglldlaaPeK
namespace Go.Proofs.Ytkejjahlglldlaa
open Go.RowKit

theorem clipL_take {ps : List Per} {i : Nat} {q p : Per} (h : ps[i]? = some q) : clipL (ps.take (i + 1)) p = if both q p then clipL (ps.take i) p ++ [meetP q p] else clipL (ps.take i) p := by
  unfold clipL
  rw [List.take_add_one, h, List.filter_append, List.map_append]
  split
  · rename_i hk; simp [hk]
  · rename_i hk; simp [hk]
def ClpInv (W : World) (pb : Nat) (p : Per) (ps : List Per) (n gk : Nat) (v5 v12 : Value) (wr : World) : Prop :=
  ∃ (i m : Nat) (g : Option Nat) (cap : Nat), i + gk = n ∧ v12 = .int .i64 (i : Int) ∧ v5 = slv g m cap ∧ FSl wr g m cap (clipL (ps.take i) p) ∧ m ≤ i ∧ (∀ b, g = some b → W.heap.size ≤ b) ∧ Ext W wr ∧ wr.heap[pb]? = some (.cells #[.int .i64 p.1, .int .i64 p.2] 45 (0, 0))
set_option maxRecDepth 100000 in
set_option maxHeartbeats 16000000 in
theorem Clip_ok (g : Option Nat) (n cap : Nat) (ps : List Per) (a z : Int) (w : World) (hS : FSl w g n cap ps) (hn : n ≤ 1048576) :
    Calls Try.prog 30 #[slv g n cap, perV (a, z)] w (NormPost (clipL ps (a, z)) w) := by
  have HN := Lib.hid hS.count
  have HS := Lib.hid hS; clear hS
  go_enter Try.func30, Try.ntmps30
  go_wp2
  go_loopg [5, 12] n (fun gk v5 v12 wr => ClpInv (w.alloc (.cells #[.int .i64 a, .int .i64 z] 45)) w.heap.size (a, z) ps n gk v5 v12 wr)
  case atStart => exact ⟨0, 0, none, 0, by omega, rfl, rfl, FSl.nil _, by omega, by simp, Ext.refl _, blk_new _ _⟩
  case round =>
    obtain ⟨i, m, g1, cap1, hik, rfl, rfl, hF, hmi, hg, hE, hB⟩ := hrel
    have HIK := Lib.hid hik; clear hik
    have HF := Lib.hid hF; clear hF
    have HG := Lib.hid hg; clear hg
    have HE := Lib.hid hE; clear hE
    have HB := Lib.hid hB
    by_cases hlt : i < n
    · obtain ⟨b, rv, x, y, e1, l1, p1, rr, c0, c1, c2⟩ := FSl.at' (HS.out.ext (((Ext.refl w).alloc _).trans HE.out)) hlt
      obtain ⟨rb, rc, rfl, _⟩ := rr.out
      have HRR := Lib.hid rr
      have z1 := fun u => run_index_slv ei_fact (cap := cap) e1 hlt u
      have HH := Lib.hid (clipL_take (p := (a, z)) p1)
      obtain ⟨q0, q1⟩ := blk2 hB
      have lb := blk_lt hB
      clear p1 e1 rr hB
      by_cases hok : both (x, y) (a, z)
      · have HH2 := Lib.hid (HH.out.trans (if_pos hok))
        clear HH
        go_wp2_with fail
        refine (Overlap_ok (x, y) (a, z) _).mono ?_
        rintro e w2 ⟨hE2, rfl⟩
        rw [if_pos hok]
        have HE2 : Hid (Ext wr w2) := ((Ext.refl wr).alloc _).trans hE2
        have hb2 : w2.heap[wr.heap.size]? = _ := Ext.block hE2 (blk_new wr _)
        have HB2 := Lib.hid (Ext.block HE2.out HB.out)
        obtain ⟨d0, d1, d2⟩ := blk3 hb2
        have ld := blk_lt hb2
        generalize hmt : meetP (x, y) (a, z) = mt at *
        obtain ⟨mx, my⟩ := mt
        clear hE2 hb2 hok c0 c1 c2 z1 l1 q0 q1 lb hmt
        go_wp2
        refine region_calm [.p 0, .p 1, .l 2, .l 5, .h 3 true, .h 4 true, .p 6, .h 7 false, .h 8 false, .p 9] f_mixed (by kernel_rfl) (by kernel_rfl) ?_
        repeat (first | (refine plan_p rfl (fun K hK => ?_); go_simp; refine hK _ ?_; clear hK K) | (refine plan_l rfl (fun K hK => ?_); go_simp; refine hK _ ?_; clear hK K))
        refine plan_ct rfl rfl (fun K _ hK => ?_)
        go_wp2
        refine hK _ _ ((Ext.refl _).alloc _) ?_; clear hK K
        refine plan_ct rfl rfl (fun K _ hK => ?_)
        go_wp2_with fail
        refine (copied_ok _ 1 _ _ (copy_cell (by simp)) (HRR.out.ext (((HE2.out.alloc _).alloc _).drew))).mono ?_
        rintro e w5 ⟨v, rfl, hV, hE5⟩
        obtain ⟨vb, vc, rfl, _⟩ := hV.out
        have HV := Lib.hid hV
        have HE5 := Lib.hid (((HE2.out.alloc (.cells #[.int .i64 mx, .int .i64 my] 45)).alloc (.cells #[.slice (some ⟨rb, 0, none⟩) 1 rc] 23)).drew.trans hE5)
        have HB5 := Lib.hid (Ext.block HE5.out HB.out)
        go_wp2_with fail
        refine hK _ _ (hE5) ?_; clear hK K
        clear hV hE5 d0 d1 d2 ld
        repeat (first | (refine plan_p rfl (fun K hK => ?_); go_simp; refine hK _ ?_; clear hK K) | (refine plan_l rfl (fun K hK => ?_); go_simp; refine hK _ ?_; clear hK K))
        refine plan_c rfl rfl (fun K _ hK => ?_)
        go_wp2_with fail
        obtain ⟨fs, hs4, hps4, hr4⟩ := HF.out
        refine plan_c rfl rfl (fun K _ hK => ?_)
        refine app_lit ei_fact rfl (.tmp 24) (.tmp 31) rfl (g := g1) (n := m) (cap := cap1) (b := w5.heap.size) (by rfl) (hs4.ext (HE5.out.alloc _)) (by rfl) rfl (blk_new_at _ rfl) (by simp [Value.oneCell']) (by omega) (by omega) ?_
        intro g6 cap6 w6 hS6 hT6 hat6
        obtain ⟨hF6, hG6, hX6⟩ := FSl.put (W := w.alloc (.cells #[.int .i64 a, .int .i64 z] 45)) (q := (mx, my)) hs4 hps4 hr4 (HE5.out.alloc _) (HV.out.ext ((Ext.refl _).alloc _)) hS6 hT6 hat6 HE.out HG.out
        rw [← HH2.out] at hF6
        have hB6 := hT6.old (blk_alloc (o' := .cells #[.slice (some ⟨vb, 0, none⟩) 1 vc, .int .i64 mx, .int .i64 my] 70) HB5.out) (fun e => by
          have h1 := HG.out _ e
          simp at h1
          omega)
        have HF6 := Lib.hid hF6
        have HG6 := Lib.hid hG6
        have HX6 := Lib.hid hX6
        have HB6 := Lib.hid hB6
        clear hs4 hps4 hr4 hS6 hT6 hat6 hF6 hG6 hX6 hB6
        go_wp2_with fail
        repeat (first | (refine plan_p rfl (fun K hK => ?_); go_simp; refine hK _ ?_; clear hK K) | (refine plan_l rfl (fun K hK => ?_); go_simp; refine hK _ ?_; clear hK K))
        refine plan_done ?_
        go_wp2
        go_roundg (gk - 1)
        case measure => have := HIK.out; omega
        case rel => exact ⟨i + 1, m + 1, some g6, cap6, by have := HIK.out; omega, by go_num, rfl, HF6.out, by omega, HG6.out, HX6.out, HB6.out⟩
      · have HH2 := Lib.hid (HH.out.trans (if_neg hok))
        clear HH
        go_wp2_with fail
        refine (Overlap_ok (x, y) (a, z) _).mono ?_
        rintro e w2 ⟨hE2, rfl⟩
        rw [if_neg hok]
        have HE2 : Hid (Ext wr w2) := ((Ext.refl wr).alloc _).trans hE2
        have HB2 := Lib.hid (Ext.block HE2.out HB.out)
        clear hE2 hok c0 c1 c2 z1 l1 q0 q1 lb
        go_wp2
        go_roundg (gk - 1)
        case measure => have := HIK.out; omega
        case rel => exact ⟨i + 1, m, g1, cap1, by have := HIK.out; omega, by go_num, rfl, by rw [HH2.out]; exact HF.out.ext (HE2.out.alloc _), by omega, HG.out, HE.out.trans (HE2.out.alloc _), blk_alloc HB2.out⟩
    · have hin : i = n := by have := HIK.out; omega
      subst hin
      have hF2 := HF.out
      rw [List.take_of_length_le (by rw [HN.out]; exact Nat.le_refl _)] at hF2
      have HF2 := Lib.hid hF2
      clear hF2 hB
      go_wp2_with fail
      refine (Normal_ok _ 1 g1 m cap1 (clipL ps (a, z)) _ (blk_cell (blk_new _ _) rfl) (HF2.out.ext ((Ext.refl _).alloc _)) (by omega)).mono ?_
      rintro e w2 ⟨g7, m7, cap7, out, rfl, hF7, hok7, hpt7, hm7, hg7, hE7⟩
      have HE7 := Lib.hid ((((Ext.refl w).alloc (.cells #[.int .i64 a, .int .i64 z] 45)).trans (HE.out.alloc _)).trans hE7)
      have HF7 := Lib.hid hF7
      have HOK := Lib.hid hok7
      have HPT := Lib.hid hpt7
      have HG7 : Hid (∀ b, g7 = some b → w.heap.size ≤ b) := fun b hb => by
        have h1 := hg7 b hb
        have h2 := HE.out.size
        simp at h1 h2
        omega
      clear hF7 hok7 hpt7 hg7 hE7
      go_wp2
      go_ret
      exact ⟨g7, m7, cap7, out, rfl, HF7.out, HOK.out, HPT.out, hm7, HG7.out, HE7.out⟩
end Go.Proofs.Ytkejjahlglldlaa
