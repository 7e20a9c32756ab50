/- CodecOrders: walked. -/
import Derived.Test.YtlmlkphdalkfdaaOrdD
import Derived.Test.YtlmlkphdalkfdaaRnd
namespace Go.Proofs.Ytlmlkphdalkfdaa
open Go.RowKit

theorem fine_checked {us : List V} (h : checkL us = 0) (hf : ∀ v ∈ us, -9223372036854775808 ≤ v.2.1 ∧ v.2.1 ≤ 9223372036854775807) :
    ∀ u ∈ us, checkV u = 0 ∧ -9223372036854775808 ≤ u.2.1 ∧ u.2.1 ≤ 9223372036854775807 := by
  induction us with
  | nil => simp
  | cons v us ih =>
    have h1 : checkV v = 0 := by
      by_cases h1 : checkV v = 0
      · exact h1
      · simp [checkL, h1] at h
    have h2 : checkL us = 0 := by simpa [checkL, h1] using h
    intro u hu
    rcases List.mem_cons.1 hu with rfl | hu
    · exact ⟨h1, hf _ (List.mem_cons_self ..)⟩
    · exact ih h2 (fun v hv => hf v (List.mem_cons_of_mem _ hv)) u hu
theorem cmpL_bytes {us vs : List V} (hu : checkL us = 0) (hv : checkL vs = 0) (fu : ∀ v ∈ us, -9223372036854775808 ≤ v.2.1 ∧ v.2.1 ≤ 9223372036854775807) (fv : ∀ v ∈ vs, -9223372036854775808 ≤ v.2.1 ∧ v.2.1 ≤ 9223372036854775807) :
    Op.bytesLess (encO us) (encO vs) = decide (cmpL us vs < 0) ∧ (encO us == encO vs) = decide (cmpL us vs = 0) := by
  unfold encO
  rw [if_pos hu, if_pos hv]
  exact ⟨bl_enc _ _ (fine_checked hu fu) (fine_checked hv fv), enc_inj _ _ (fine_checked hu fu) (fine_checked hv fv)⟩



set_option maxRecDepth 100000 in
set_option maxHeartbeats 8000000 in
theorem orders_any (a b c : Option Addr) (n m k na nb nc : Nat) (us vs xs : List V) (w : World) (hn : us.length = n) (hm : vs.length = m) (hk : xs.length = k) (hu : Vals w a us) (hv : Vals w b vs) (hx : Vals w c xs)
    (hs1 : n ≤ 2000000) (hs2 : m ≤ 2000000) (hs3 : k ≤ 2000000) (fu : Fine us) (fv : Fine vs) :
    Calls Try.prog 10 #[.slice a n na, .slice b m nb, .slice c k nc] w (fun e w' => e = .returned (.bool true) ∧ Ext w w') := by
  have HN := Lib.hid hn; clear hn
  have HM := Lib.hid hm; clear hm
  have HK := Lib.hid hk; clear hk
  have HU := Lib.hid hu; clear hu
  have HV := Lib.hid hv; clear hv
  have HX := Lib.hid hx; clear hx
  have HTU : Hid (∀ v ∈ us, v.2.2.length ≤ 140737488355328) := fun v hv => (fu v hv).1
  have HFU : Hid (∀ v ∈ us, -9223372036854775808 ≤ v.2.1 ∧ v.2.1 ≤ 9223372036854775807) := fun v hv => (fu v hv).2
  have HTV : Hid (∀ v ∈ vs, v.2.2.length ≤ 140737488355328) := fun v hv => (fv v hv).1
  have HFV : Hid (∀ v ∈ vs, -9223372036854775808 ≤ v.2.1 ∧ v.2.1 ≤ 9223372036854775807) := fun v hv => (fv v hv).2
  clear fu fv
  have hneg := cmpL_neg us vs
  have htr := cmpL_trans us vs xs
  have hth := cmpL_three us vs
  have HNEG := Lib.hid hneg
  have HTR := Lib.hid htr
  clear hneg htr
  generalize hr : cmpL us vs = r at hth
  have HR := Lib.hid hr
  rw [hr] at HNEG HTR
  clear hr
  go_enter Try.func10, Try.ntmps10
  go_wp2_with fail
  refine (awake_ok w).mono ?_
  rintro e w1 ⟨rfl, hE1⟩
  go_wp2_with fail
  refine (Encode_ok a n na us w1 HN.out (HU.out.ext hE1) (by omega) HTU.out HFU.out).mono ?_
  rintro e w2 ⟨g2, m2, c2, rfl, hB2, hg2, hE2⟩
  have hE12 := hE1.trans hE2
  have HB2 := Lib.hid hB2
  clear hB2 hg2
  go_wp2_with fail
  refine (Encode_ok b m nb vs w2 HM.out (HV.out.ext hE12) (by omega) HTV.out HFV.out).mono ?_
  rintro e w3 ⟨g3, m3, c3, rfl, hB3, hg3, hE3⟩
  have hE13 := hE12.trans hE3
  have HB2 := Lib.hid (HB2.out.ext hE3)
  have HB3 := Lib.hid hB3
  clear hB3 hg3
  go_wp2_with fail
  refine (Compare_ok a b n m na nb us vs w3 HN.out HM.out (HU.out.ext hE13) (HV.out.ext hE13) (by omega) (by omega)).mono ?_
  rintro e w4 ⟨rfl, hE4⟩
  rw [HR.out]
  have hE14 := hE13.trans hE4
  go_wp2_with fail
  refine (Compare_ok b a m n nb na vs us w4 HM.out HN.out (HV.out.ext hE14) (HU.out.ext hE14) (by omega) (by omega)).mono ?_
  rintro e w5 ⟨rfl, hE5⟩
  rw [HNEG.out]
  have hE15 := hE14.trans hE5
  have hE35 := hE4.trans hE5
  clear hE1 hE2 hE12 hE3 hE13 hE4 hE14 hE5
  rcases hth with rfl | rfl | rfl
  · skip
    go_wp2_with fail
    refine (RCompare_ok a b n m na nb us vs w5 HN.out HM.out (HU.out.ext hE15) (HV.out.ext hE15) (by omega) (by omega)).mono ?_
    rintro e w6 ⟨rfl, hE6⟩
    rw [HR.out]
    have hE16 := hE15.trans hE6
    have hE36 := hE35.trans hE6
    clear hE6
    go_wp2_with fail
    refine (Compare_ok b c m k nb nc vs xs w6 HM.out HK.out (HV.out.ext hE16) (HX.out.ext hE16) (by omega) (by omega)).mono ?_
    rintro e w7 ⟨rfl, hE7⟩
    have hE17 := hE16.trans hE7
    have hE37 := hE36.trans hE7
    clear hE7
    generalize hs : cmpL vs xs = s
    rw [hs] at HTR
    clear hs
    by_cases hs0 : s ≤ 0
    · have hq := HTR.out (by decide) hs0
      go_wp2_with fail
      refine (Compare_ok a c n k na nc us xs w7 HN.out HK.out (HU.out.ext hE17) (HX.out.ext hE17) (by omega) (by omega)).mono ?_
      rintro e w8 ⟨rfl, hE8⟩
      have hE18 := hE17.trans hE8
      have hE38 := hE37.trans hE8
      generalize cmpL us xs = q at *
      have hq' : decide (0 < q) = false := by simp; omega
      by_cases hcu : checkL us = 0
      · by_cases hcv : checkL vs = 0
        · have hb := cmpL_bytes hcu hcv HFU.out HFV.out
          rw [HR.out] at hb
          obtain ⟨hless, heq⟩ := hb
          have hc2 := conv_bytes (HB2.out.ext (w' := w8) (by exact hE38))
          have hc3 := conv_bytes (HB3.out.ext (w' := w8) (by exact hE38))
          have hta := bs_toList (encO us)
          have htb := bs_toList (encO vs)
          generalize encO us = X at *
          generalize encO vs = Y at *
          rw [hcu, hcv]
          clear hcu hcv
          try rw [decide_eq_true (by decide)] at hless
          try rw [decide_eq_false (by decide)] at hless
          try rw [decide_eq_true (by decide)] at heq
          try rw [decide_eq_false (by decide)] at heq
          go_wp2
          go_ret
          exact ⟨rfl, by exact hE18⟩
        · have hcv' : (checkL vs != 0) = true := by simp [hcv]
          rw [hcu]
          clear hcu hcv
          go_wp2
          go_ret
          exact ⟨rfl, by exact hE18⟩
      · have hcu' : (checkL us != 0) = true := by simp [hcu]
        clear hcu
        go_wp2
        go_ret
        exact ⟨rfl, by exact hE18⟩
    · have hs' : decide (s ≤ 0) = false := by simp; omega
      by_cases hcu : checkL us = 0
      · by_cases hcv : checkL vs = 0
        · have hb := cmpL_bytes hcu hcv HFU.out HFV.out
          rw [HR.out] at hb
          obtain ⟨hless, heq⟩ := hb
          have hc2 := conv_bytes (HB2.out.ext (w' := w7) (by exact hE37))
          have hc3 := conv_bytes (HB3.out.ext (w' := w7) (by exact hE37))
          have hta := bs_toList (encO us)
          have htb := bs_toList (encO vs)
          generalize encO us = X at *
          generalize encO vs = Y at *
          rw [hcu, hcv]
          clear hcu hcv
          try rw [decide_eq_true (by decide)] at hless
          try rw [decide_eq_false (by decide)] at hless
          try rw [decide_eq_true (by decide)] at heq
          try rw [decide_eq_false (by decide)] at heq
          go_wp2
          go_ret
          exact ⟨rfl, by exact hE17⟩
        · have hcv' : (checkL vs != 0) = true := by simp [hcv]
          rw [hcu]
          clear hcu hcv
          go_wp2
          go_ret
          exact ⟨rfl, by exact hE17⟩
      · have hcu' : (checkL us != 0) = true := by simp [hcu]
        clear hcu
        go_wp2
        go_ret
        exact ⟨rfl, by exact hE17⟩
  · skip
    go_wp2_with fail
    refine (RCompare_ok a b n m na nb us vs w5 HN.out HM.out (HU.out.ext hE15) (HV.out.ext hE15) (by omega) (by omega)).mono ?_
    rintro e w6 ⟨rfl, hE6⟩
    rw [HR.out]
    have hE16 := hE15.trans hE6
    have hE36 := hE35.trans hE6
    clear hE6
    go_wp2_with fail
    refine (Compare_ok b c m k nb nc vs xs w6 HM.out HK.out (HV.out.ext hE16) (HX.out.ext hE16) (by omega) (by omega)).mono ?_
    rintro e w7 ⟨rfl, hE7⟩
    have hE17 := hE16.trans hE7
    have hE37 := hE36.trans hE7
    clear hE7
    generalize hs : cmpL vs xs = s
    rw [hs] at HTR
    clear hs
    by_cases hs0 : s ≤ 0
    · have hq := HTR.out (by decide) hs0
      go_wp2_with fail
      refine (Compare_ok a c n k na nc us xs w7 HN.out HK.out (HU.out.ext hE17) (HX.out.ext hE17) (by omega) (by omega)).mono ?_
      rintro e w8 ⟨rfl, hE8⟩
      have hE18 := hE17.trans hE8
      have hE38 := hE37.trans hE8
      generalize cmpL us xs = q at *
      have hq' : decide (0 < q) = false := by simp; omega
      by_cases hcu : checkL us = 0
      · by_cases hcv : checkL vs = 0
        · have hb := cmpL_bytes hcu hcv HFU.out HFV.out
          rw [HR.out] at hb
          obtain ⟨hless, heq⟩ := hb
          have hc2 := conv_bytes (HB2.out.ext (w' := w8) (by exact hE38))
          have hc3 := conv_bytes (HB3.out.ext (w' := w8) (by exact hE38))
          have hta := bs_toList (encO us)
          have htb := bs_toList (encO vs)
          generalize encO us = X at *
          generalize encO vs = Y at *
          rw [hcu, hcv]
          clear hcu hcv
          try rw [decide_eq_true (by decide)] at hless
          try rw [decide_eq_false (by decide)] at hless
          try rw [decide_eq_true (by decide)] at heq
          try rw [decide_eq_false (by decide)] at heq
          go_wp2
          go_ret
          exact ⟨rfl, by exact hE18⟩
        · have hcv' : (checkL vs != 0) = true := by simp [hcv]
          rw [hcu]
          clear hcu hcv
          go_wp2
          go_ret
          exact ⟨rfl, by exact hE18⟩
      · have hcu' : (checkL us != 0) = true := by simp [hcu]
        clear hcu
        go_wp2
        go_ret
        exact ⟨rfl, by exact hE18⟩
    · have hs' : decide (s ≤ 0) = false := by simp; omega
      by_cases hcu : checkL us = 0
      · by_cases hcv : checkL vs = 0
        · have hb := cmpL_bytes hcu hcv HFU.out HFV.out
          rw [HR.out] at hb
          obtain ⟨hless, heq⟩ := hb
          have hc2 := conv_bytes (HB2.out.ext (w' := w7) (by exact hE37))
          have hc3 := conv_bytes (HB3.out.ext (w' := w7) (by exact hE37))
          have hta := bs_toList (encO us)
          have htb := bs_toList (encO vs)
          generalize encO us = X at *
          generalize encO vs = Y at *
          rw [hcu, hcv]
          clear hcu hcv
          try rw [decide_eq_true (by decide)] at hless
          try rw [decide_eq_false (by decide)] at hless
          try rw [decide_eq_true (by decide)] at heq
          try rw [decide_eq_false (by decide)] at heq
          go_wp2
          go_ret
          exact ⟨rfl, by exact hE17⟩
        · have hcv' : (checkL vs != 0) = true := by simp [hcv]
          rw [hcu]
          clear hcu hcv
          go_wp2
          go_ret
          exact ⟨rfl, by exact hE17⟩
      · have hcu' : (checkL us != 0) = true := by simp [hcu]
        clear hcu
        go_wp2
        go_ret
        exact ⟨rfl, by exact hE17⟩
  · skip
    go_wp2_with fail
    refine (RCompare_ok a b n m na nb us vs w5 HN.out HM.out (HU.out.ext hE15) (HV.out.ext hE15) (by omega) (by omega)).mono ?_
    rintro e w6 ⟨rfl, hE6⟩
    rw [HR.out]
    have hE16 := hE15.trans hE6
    have hE36 := hE35.trans hE6
    clear hE6
    by_cases hcu : checkL us = 0
    · by_cases hcv : checkL vs = 0
      · have hb := cmpL_bytes hcu hcv HFU.out HFV.out
        rw [HR.out] at hb
        obtain ⟨hless, heq⟩ := hb
        have hc2 := conv_bytes (HB2.out.ext (w' := w6) (by exact hE36))
        have hc3 := conv_bytes (HB3.out.ext (w' := w6) (by exact hE36))
        have hta := bs_toList (encO us)
        have htb := bs_toList (encO vs)
        generalize encO us = X at *
        generalize encO vs = Y at *
        rw [hcu, hcv]
        clear hcu hcv
        try rw [decide_eq_true (by decide)] at hless
        try rw [decide_eq_false (by decide)] at hless
        try rw [decide_eq_true (by decide)] at heq
        try rw [decide_eq_false (by decide)] at heq
        go_wp2
        go_ret
        exact ⟨rfl, by exact hE16⟩
      · have hcv' : (checkL vs != 0) = true := by simp [hcv]
        rw [hcu]
        clear hcu hcv
        go_wp2
        go_ret
        exact ⟨rfl, by exact hE16⟩
    · have hcu' : (checkL us != 0) = true := by simp [hcu]
      clear hcu
      go_wp2
      go_ret
      exact ⟨rfl, by exact hE16⟩
end Go.Proofs.Ytlmlkphdalkfdaa
