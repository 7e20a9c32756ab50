/- codec.Compare, bag.order: growth and draws alone; slices.SortFunc at facts of one row. -/
import Derived.Test.YtkejjahlglldlaaPeM
namespace Go.Proofs.Ytkejjahlglldlaa
open Go.RowKit Go.Shelf Go.Lib Go.Sort


set_option maxHeartbeats 8000000 in
theorem Compare_gr (a b : Option Addr) (n n' c c' : Nat) (us vs : List V) (w : World) (hn : us.length = n) (hn' : vs.length = n') (hu : Vals w a us) (hv : Vals w b vs) (hsz : n ≤ 1000000000) (hsz' : n' ≤ 1000000000) :
    Calls Try.prog 13 #[.slice a n c, .slice b n' c'] w (fun e w' => e = .returned (.int .i64 (cmpL us vs)) ∧ Gr w w') := by
  generalize hR : cmpL us vs = R
  have HR := Lib.hid hR; clear hR
  have HN := Lib.hid hn; clear hn
  have HN' := Lib.hid hn'; clear hn'
  have HU := Lib.hid hu; clear hu
  have HV := Lib.hid hv; clear hv
  by_cases hnn : n ≤ n'
  · skip
    go_enter Try.func13, Try.ntmps13
    go_wp2
    go_loopg [12] n (fun gk v12 wr => ∃ i : Nat, i + gk = n ∧ v12 = .int .i64 i ∧ Gr w wr ∧ cmpL (us.drop i) (vs.drop i) = R)
    case atStart => exact ⟨0, by omega, rfl, Gr.refl _, HR.out⟩
    case round =>
      obtain ⟨i, hik, rfl, hE, hD⟩ := hrel
      by_cases hlt : i < n
      · have hin : i < n := by omega
        have hin' : i < n' := by omega
        obtain ⟨la, oa, ha, hca⟩ := (HU.out.ext hE.ext) (by have := HN.out; omega)
        obtain ⟨lb, ob, hb, hcb⟩ := (HV.out.ext hE.ext) (by have := HN'.out; omega)
        subst ha hb
        obtain ⟨⟨k, m, t⟩, hx⟩ : ∃ v, us[i]? = some v := ⟨us[i]'(by rw [HN.out]; exact hin), by rw [List.getElem?_eq_getElem]⟩
        obtain ⟨⟨k', m', t'⟩, hy⟩ : ∃ v, vs[i]? = some v := ⟨vs[i]'(by rw [HN'.out]; exact hin'), by rw [List.getElem?_eq_getElem]⟩
        obtain ⟨c0, c1, c2⟩ := hca i _ hx
        obtain ⟨d0, d1, d2⟩ := hcb i _ hy
        simp only [] at c0 c1 c2 d0 d1 d2
        rw [drop_cons hx, drop_cons hy, cmpL] at hD
        have HD := Lib.hid hD
        have HIK := Lib.hid hik
        clear hD hik hx hy hca hcb hnn
        go_wp2
        refine region_calm [.p 0, .p 1, .p 2, .p 3, .l 4, .p 5, .p 6, .p 7, .p 8, .l 9, .p 11, .p 12, .p 13, .p 14, .l 15, .p 16, .p 17, .p 18, .p 19, .l 20, .p 22, .p 23, .p 24, .p 25, .l 26, .p 27, .p 28, .p 29, .p 30, .l 31, .h 10 true, .h 21 true, .h 32 false, .h 33 false, .h 34 false, .p 35] f_mixed (by kernel_rfl) (by kernel_rfl) ?_
        repeat (first | (refine plan_p rfl (fun K hK => ?_); go_simp; refine hK _ ?_; clear hK K) | (refine plan_l rfl (fun K hK => ?_); go_simp; refine hK _ ?_; clear hK K))
        refine plan_ct rfl rfl (fun K _ hK => ?_)
        go_wp2_with (go_at_call 47; refine (compare_int _ _ _).mono ?_; rintro e w' ⟨rfl, rfl⟩)
        refine hK _ _ (Ext.refl _) ?_; clear hK K
        refine plan_ct rfl rfl (fun K _ hK => ?_)
        go_wp2_with (go_at_call 48; refine (compare_i64 _ _ _).mono ?_; rintro e w' ⟨rfl, rfl⟩)
        refine hK _ _ (Ext.refl _) ?_; clear hK K
        clear c0 c1 c2 d0 d1 d2
        refine plan_c rfl rfl (fun K _ hK => ?_)
        go_wp2_with (go_at_call 49; refine (strcmp_bs _ _ _).mono ?_; rintro e w' ⟨rfl, rfl⟩)
        refine plan_c rfl rfl (fun K _ hK => ?_)
        go_wp2
        refine plan_c rfl rfl (fun K _ hK => ?_)
        go_wp2_with fail
        refine (or_any _ [cmpI k k', cmpI m m', Lib.compareBytes t t'] 3 _ rfl (by omega) ?_).mono ?_
        · intro j hj
          obtain rfl | rfl | rfl : j = 0 ∨ j = 1 ∨ j = 2 := by omega
          all_goals go_simp
        rintro e w2 ⟨rfl, rfl⟩
        rw [oneV_or]
        generalize oneV (k, m, t) (k', m', t') = r at *
        go_wp2
        repeat (first | (refine plan_p rfl (fun K hK => ?_); go_simp; refine hK _ ?_; clear hK K) | (refine plan_l rfl (fun K hK => ?_); go_simp; refine hK _ ?_; clear hK K))
        refine plan_done ?_
        by_cases hr : r = 0
        · have HD2 : Hid (cmpL (us.drop (i + 1)) (vs.drop (i + 1)) = R) := by have := HD.out; rwa [if_pos hr] at this
          subst hr
          go_wp2
          go_roundg (gk - 1)
          case measure => have := HIK.out; omega
          case rel => exact ⟨i + 1, by have := HIK.out; omega, by go_num, by repeat (first | exact hE | refine Gr.alloc ?_ _ | refine Gr.drew ?_), HD2.out⟩
        · have HD2 : Hid (r = R) := by have := HD.out; rwa [if_neg hr] at this
          have hrb : (r != 0) = true := by simp [hr]
          clear hr
          go_wp2
          go_ret
          exact ⟨by rw [← HD2.out]; rfl, by repeat (first | exact hE | refine Gr.alloc ?_ _ | refine Gr.drew ?_)⟩
      · have hi : i = n := by omega
        have hend := cmpL_end us vs i (by have := HN.out; omega) (by have := HN'.out; omega) (by have := HN.out; have := HN'.out; omega)
        rw [hend, HN.out, HN'.out] at hD
        have HD := Lib.hid hD
        clear hD hend hi hnn
        go_wp2_with fail
        refine (compare_int _ _ _).mono ?_
        rintro e w2 ⟨rfl, rfl⟩
        go_wp2
        go_ret
        exact ⟨by rw [← HD.out]; rfl, hE⟩
  · skip
    go_enter Try.func13, Try.ntmps13
    go_wp2
    go_loopg [12] n' (fun gk v12 wr => ∃ i : Nat, i + gk = n' ∧ v12 = .int .i64 i ∧ Gr w wr ∧ cmpL (us.drop i) (vs.drop i) = R)
    case atStart => exact ⟨0, by omega, rfl, Gr.refl _, HR.out⟩
    case round =>
      obtain ⟨i, hik, rfl, hE, hD⟩ := hrel
      by_cases hlt : i < n'
      · have hin : i < n := by omega
        have hin' : i < n' := by omega
        obtain ⟨la, oa, ha, hca⟩ := (HU.out.ext hE.ext) (by have := HN.out; omega)
        obtain ⟨lb, ob, hb, hcb⟩ := (HV.out.ext hE.ext) (by have := HN'.out; omega)
        subst ha hb
        obtain ⟨⟨k, m, t⟩, hx⟩ : ∃ v, us[i]? = some v := ⟨us[i]'(by rw [HN.out]; exact hin), by rw [List.getElem?_eq_getElem]⟩
        obtain ⟨⟨k', m', t'⟩, hy⟩ : ∃ v, vs[i]? = some v := ⟨vs[i]'(by rw [HN'.out]; exact hin'), by rw [List.getElem?_eq_getElem]⟩
        obtain ⟨c0, c1, c2⟩ := hca i _ hx
        obtain ⟨d0, d1, d2⟩ := hcb i _ hy
        simp only [] at c0 c1 c2 d0 d1 d2
        rw [drop_cons hx, drop_cons hy, cmpL] at hD
        have HD := Lib.hid hD
        have HIK := Lib.hid hik
        clear hD hik hx hy hca hcb hnn
        go_wp2
        refine region_calm [.p 0, .p 1, .p 2, .p 3, .l 4, .p 5, .p 6, .p 7, .p 8, .l 9, .p 11, .p 12, .p 13, .p 14, .l 15, .p 16, .p 17, .p 18, .p 19, .l 20, .p 22, .p 23, .p 24, .p 25, .l 26, .p 27, .p 28, .p 29, .p 30, .l 31, .h 10 true, .h 21 true, .h 32 false, .h 33 false, .h 34 false, .p 35] f_mixed (by kernel_rfl) (by kernel_rfl) ?_
        repeat (first | (refine plan_p rfl (fun K hK => ?_); go_simp; refine hK _ ?_; clear hK K) | (refine plan_l rfl (fun K hK => ?_); go_simp; refine hK _ ?_; clear hK K))
        refine plan_ct rfl rfl (fun K _ hK => ?_)
        go_wp2_with (go_at_call 47; refine (compare_int _ _ _).mono ?_; rintro e w' ⟨rfl, rfl⟩)
        refine hK _ _ (Ext.refl _) ?_; clear hK K
        refine plan_ct rfl rfl (fun K _ hK => ?_)
        go_wp2_with (go_at_call 48; refine (compare_i64 _ _ _).mono ?_; rintro e w' ⟨rfl, rfl⟩)
        refine hK _ _ (Ext.refl _) ?_; clear hK K
        clear c0 c1 c2 d0 d1 d2
        refine plan_c rfl rfl (fun K _ hK => ?_)
        go_wp2_with (go_at_call 49; refine (strcmp_bs _ _ _).mono ?_; rintro e w' ⟨rfl, rfl⟩)
        refine plan_c rfl rfl (fun K _ hK => ?_)
        go_wp2
        refine plan_c rfl rfl (fun K _ hK => ?_)
        go_wp2_with fail
        refine (or_any _ [cmpI k k', cmpI m m', Lib.compareBytes t t'] 3 _ rfl (by omega) ?_).mono ?_
        · intro j hj
          obtain rfl | rfl | rfl : j = 0 ∨ j = 1 ∨ j = 2 := by omega
          all_goals go_simp
        rintro e w2 ⟨rfl, rfl⟩
        rw [oneV_or]
        generalize oneV (k, m, t) (k', m', t') = r at *
        go_wp2
        repeat (first | (refine plan_p rfl (fun K hK => ?_); go_simp; refine hK _ ?_; clear hK K) | (refine plan_l rfl (fun K hK => ?_); go_simp; refine hK _ ?_; clear hK K))
        refine plan_done ?_
        by_cases hr : r = 0
        · have HD2 : Hid (cmpL (us.drop (i + 1)) (vs.drop (i + 1)) = R) := by have := HD.out; rwa [if_pos hr] at this
          subst hr
          go_wp2
          go_roundg (gk - 1)
          case measure => have := HIK.out; omega
          case rel => exact ⟨i + 1, by have := HIK.out; omega, by go_num, by repeat (first | exact hE | refine Gr.alloc ?_ _ | refine Gr.drew ?_), HD2.out⟩
        · have HD2 : Hid (r = R) := by have := HD.out; rwa [if_neg hr] at this
          have hrb : (r != 0) = true := by simp [hr]
          clear hr
          go_wp2
          go_ret
          exact ⟨by rw [← HD2.out]; rfl, by repeat (first | exact hE | refine Gr.alloc ?_ _ | refine Gr.drew ?_)⟩
      · have hi : i = n' := by omega
        have hend := cmpL_end us vs i (by have := HN.out; omega) (by have := HN'.out; omega) (by have := HN.out; have := HN'.out; omega)
        rw [hend, HN.out, HN'.out] at hD
        have HD := Lib.hid hD
        clear hD hend hi hnn
        go_wp2_with fail
        refine (compare_int _ _ _).mono ?_
        rintro e w2 ⟨rfl, rfl⟩
        go_wp2
        go_ret
        exact ⟨by rw [← HD.out]; rfl, hE⟩
end Go.Proofs.Ytkejjahlglldlaa
