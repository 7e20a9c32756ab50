/- bag.right at facts of one row: walked. -/
import Derived.Test.YtkejjahlglldlaaPeF
namespace Go.Proofs.Ytkejjahlglldlaa
open Go.RowKit

theorem okL_take {ps : List Per} {i : Nat} {x y : Int} (h : ps[i]? = some (x, y)) : okL (ps.take (i + 1)) = if okP (x, y) then okL (ps.take i) ++ [(x, y)] else okL (ps.take i) := by
  unfold okL
  rw [List.take_add_one, h, List.filter_append]
  split
  · rename_i hk; simp [hk]
  · rename_i hk; simp [hk]
theorem copy_cell1 (w : World) (v : Value) (t : TypeId) : ((w.alloc (.cells #[v] t)).drew).cell? ⟨w.heap.size, 0, none⟩ = some v := blk_cell (by rw [blk_drew]; exact blk_new _ _) rfl
theorem copy_cell1d (w : World) (v : Value) (t : TypeId) : ((w.drew).alloc (.cells #[v] t)).cell? ⟨w.heap.size, 0, none⟩ = some v := blk_cell (blk_new_at _ rfl) rfl
/-- What right gives. -/
def RgtPost (ps : List Per) (w : World) (e : Ending) (w' : World) : Prop :=
  ∃ g m cap qs, e = .returned (slv g m cap) ∧ FSl w' g m cap qs ∧ qs.Perm (okL ps) ∧ m ≤ ps.length ∧ (∀ b, g = some b → w.heap.size ≤ b) ∧ Ext w w'
def RgtInv (W : World) (ps : List Per) (n gk : Nat) (v3 v8 : Value) (wr : World) : Prop :=
  ∃ (i m : Nat) (g : Option Nat) (cap : Nat), i + gk = n ∧ v8 = .int .i64 (i : Int) ∧ v3 = slv g m cap ∧ FSl wr g m cap (okL (ps.take i)) ∧ m ≤ i ∧ (∀ b, g = some b → W.heap.size ≤ b) ∧ Ext W wr
set_option maxRecDepth 100000 in
set_option maxHeartbeats 16000000 in
theorem right_ok (g : Option Nat) (n cap : Nat) (ps : List Per) (w : World) (hS : FSl w g n cap ps) (hn : n ≤ 2199023255552) :
    Calls Try.prog 62 #[slv g n cap] w (RgtPost ps w) := by
  have HN := Lib.hid hS.count
  have HS := Lib.hid hS; clear hS
  go_enter Try.func62, Try.ntmps62
  go_wp2
  go_loopg [3, 8] n (fun gk v3 v8 wr => RgtInv w ps n gk v3 v8 wr)
  case atStart => exact ⟨0, 0, none, 0, by omega, rfl, rfl, FSl.nil _, by omega, by simp, Ext.refl _⟩
  case round =>
    obtain ⟨i, m, g1, cap1, hik, rfl, rfl, hF, hmi, hg, hE⟩ := hrel
    have HIK := Lib.hid hik; clear hik
    have HF := Lib.hid hF; clear hF
    have HG := Lib.hid hg; clear hg
    have HE := Lib.hid hE; clear hE
    by_cases hlt : i < n
    · obtain ⟨b, rv, x, y, e1, l1, p1, rr, c0, c1, c2⟩ := FSl.at' (HS.out.ext HE.out) hlt
      obtain ⟨rb, rc, rfl, _⟩ := rr.out
      have HRR := Lib.hid rr
      have z1 := fun u => run_index_slv ei_fact (cap := cap) e1 hlt u
      have HH := Lib.hid (okL_take p1)
      clear p1 e1 rr
      by_cases hok : okP (x, y)
      · have HH2 := Lib.hid (HH.out.trans (if_pos hok))
        clear HH
        go_wp2_with fail
        refine (Check_yes (x, y) _ hok).mono ?_
        rintro e w2 ⟨rfl, hE2⟩
        have HE2 : Hid (Ext wr w2) := ((Ext.refl wr).alloc _).trans hE2
        have hb2 : w2.heap[wr.heap.size]? = _ := Ext.block hE2 (blk_new wr _)
        obtain ⟨d0, d1, d2⟩ := blk3 hb2
        clear hE2 hb2 hok c0 c1 c2 z1 l1
        go_wp2
        refine region_calm [.p 0, .p 1, .l 2, .p 5, .l 6, .h 3 true, .h 4 true, .p 7, .h 8 false, .h 9 false, .p 10] f_mixed (by kernel_rfl) (by kernel_rfl) ?_
        repeat (first | (refine plan_p rfl (fun K hK => ?_); go_simp; refine hK _ ?_; clear hK K) | (refine plan_l rfl (fun K hK => ?_); go_simp; refine hK _ ?_; clear hK K))
        refine plan_ct rfl rfl (fun K _ hK => ?_)
        go_wp2
        refine hK _ _ ((Ext.refl _).alloc _) ?_; clear hK K
        refine plan_ct rfl rfl (fun K _ hK => ?_)
        go_wp2_with fail
        refine (copied_ok _ 1 _ _ (copy_cell1 _ _ _) (HRR.out.ext ((HE2.out.alloc _).drew))).mono ?_
        rintro e w5 ⟨v, rfl, hV, hE5⟩
        obtain ⟨vb, vc, rfl, _⟩ := hV.out
        have HV := Lib.hid hV
        have HE5 := Lib.hid ((HE2.out.alloc (.cells #[.slice (some ⟨rb, 0, none⟩) 1 rc] 23)).drew.trans hE5)
        go_wp2_with fail
        refine hK _ _ (hE5) ?_; clear hK K
        clear hV hE5 d0 d1 d2
        repeat (first | (refine plan_p rfl (fun K hK => ?_); go_simp; refine hK _ ?_; clear hK K) | (refine plan_l rfl (fun K hK => ?_); go_simp; refine hK _ ?_; clear hK K))
        refine plan_c rfl rfl (fun K _ hK => ?_)
        go_wp2_with fail
        obtain ⟨fs, hs4, hps4, hr4⟩ := HF.out
        refine plan_c rfl rfl (fun K _ hK => ?_)
        refine app_lit ei_fact rfl (.tmp 16) (.tmp 24) rfl (g := g1) (n := m) (cap := cap1) (b := w5.heap.size) (by rfl) (hs4.ext (HE5.out.alloc _)) (by rfl) rfl (blk_new_at _ rfl) (by simp [Value.oneCell']) (by omega) (by omega) ?_
        intro g6 cap6 w6 hS6 hT6 hat6
        obtain ⟨hF6, hG6, hX6⟩ := FSl.put (W := w) (q := (x, y)) hs4 hps4 hr4 (HE5.out.alloc _) (HV.out.ext ((Ext.refl _).alloc _)) hS6 hT6 hat6 HE.out HG.out
        rw [← HH2.out] at hF6
        have HF6 := Lib.hid hF6
        have HG6 := Lib.hid hG6
        have HX6 := Lib.hid hX6
        clear hs4 hps4 hr4 hS6 hT6 hat6 hF6 hG6 hX6
        go_wp2_with fail
        repeat (first | (refine plan_p rfl (fun K hK => ?_); go_simp; refine hK _ ?_; clear hK K) | (refine plan_l rfl (fun K hK => ?_); go_simp; refine hK _ ?_; clear hK K))
        refine plan_done ?_
        go_wp2
        go_roundg (gk - 1)
        case measure => have := HIK.out; omega
        case rel => exact ⟨i + 1, m + 1, some g6, cap6, by have := HIK.out; omega, by go_num, rfl, HF6.out, by omega, HG6.out, HX6.out⟩
      · have HH2 := Lib.hid (HH.out.trans (if_neg hok))
        clear HH
        go_wp2_with fail
        refine (Check_no (x, y) _ hok).mono ?_
        rintro e w2 ⟨rfl, hE2⟩
        have HE2 : Hid (Ext wr w2) := ((Ext.refl wr).alloc _).trans hE2
        clear hE2 hok
        go_wp2
        go_roundg (gk - 1)
        case measure => have := HIK.out; omega
        case rel => exact ⟨i + 1, m, g1, cap1, by have := HIK.out; omega, by go_num, rfl, by rw [HH2.out]; exact HF.out.ext HE2.out, by omega, HG.out, HE.out.trans HE2.out⟩
    · have hin : i = n := by have := HIK.out; omega
      subst hin
      have hF2 := HF.out
      rw [List.take_of_length_le (by rw [HN.out]; exact Nat.le_refl _)] at hF2
      have HF2 := Lib.hid hF2
      clear hF2
      go_wp2_with fail
      refine (sortF_ok g1 m cap1 _ _ HF2.out (by omega)).mono ?_
      rintro e w2 ⟨rfl, qs, hp, _, hF3, hT3⟩
      have HF3 := Lib.hid hF3
      have HP3 := Lib.hid hp
      have HE3 := Lib.hid (Touch.freshX HE.out hT3 (fun k hk => HG.out k hk))
      clear hF3 hp hT3
      go_wp2
      go_ret
      exact ⟨g1, m, cap1, qs, rfl, HF3.out, HP3.out, by rw [HN.out]; exact hmi, HG.out, HE3.out⟩
end Go.Proofs.Ytkejjahlglldlaa
