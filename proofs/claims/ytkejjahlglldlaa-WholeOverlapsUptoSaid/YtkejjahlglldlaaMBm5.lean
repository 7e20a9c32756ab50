/- fill: no neighbour has a key to spare: two kids become one: walked. -/
import Derived.Test.YtkejjahlglldlaaMBm4
namespace Go.Proofs.Ytkejjahlglldlaa
open Go.RowKit Go.Lib

theorem NodeAt.ext {W W' : World} {b : Nat} {es : List Ent} {ps : List Nat} {gk gv gc : Option Nat} {ck cv cc : Nat} (h : NodeAt W b es ps gk gv gc ck cv cc) (he : Ext W W') : NodeAt W' b es ps gk gv gc ck cv cc :=
  h.congr fun k hk => Below.block he k (h.lt k hk)
theorem NodeAt.kid {W : World} {b : Nat} {es : List Ent} {ps : List Nat} {gk gv gc : Option Nat} {ck cv cc : Nat} (h : NodeAt W b es ps gk gv gc ck cv cc) {g i k : Nat} (hg : gc = some g) (hk : ps[i]? = some k) : W.cell? ⟨g, i, none⟩ = some (.pointer (some ⟨k, 0, none⟩)) := by
  have h2 := h.kids
  rw [hg] at h2
  exact h2.cell (sP_get hk)
/-- The node behind has no key to spare (or there is none). -/
def NoRight (w : World) (m i : Nat) (es : List Ent) (ps : List Nat) : Prop := i < es.length → ∃ (rb n c : Nat) (g : Option Nat) (v1 v2 : Value), ps[i + 1]? = some rb ∧ w.heap[rb]? = some (.cells #[slv g n c, v1, v2] 82 (0, 0)) ∧ n < m ∧ n ≤ 127
theorem NoRight.ext {w w' : World} {m i : Nat} {es : List Ent} {ps : List Nat} (h : NoRight w m i es ps) (he : Ext w w') : NoRight w' m i es ps := fun hi => by
  obtain ⟨rb, n, c, g, v1, v2, h1, h2, h3⟩ := h hi
  exact ⟨rb, n, c, g, v1, v2, h1, Ext.block he h2, h3⟩

set_option maxRecDepth 100000 in
set_option maxHeartbeats 8000000 in
theorem fillD_ok (tb nb kb b1 m i q : Nat) (tr tc : Value) (es ek : List Ent) (ps pk : List Nat) (gk gv gc hk hv hc : Option Nat) (ck cv cc dk dv dc : Nat) (w : World) {P : World → Prop}
    (hB : w.heap[tb]? = some (.cells #[.int .i64 (m : Int), tr, tc] 84 (0, 0))) (hN : NodeAt w nb es ps gk gv gc ck cv cc) (hK : NodeAt w kb ek pk hk hv hc dk dv dc)
    (hno : NoLeft w m i ps) (hnr : NoRight w m i es ps) (hki : ps[i]? = some kb) (hq : (i = es.length ∧ i = q + 1) ∨ (i < es.length ∧ q = i))
    (hm : m ≤ 64) (hek : ek.length < m) (hl1 : es.length ≤ 127) (hl2 : ps.length ≤ 128) (hl5 : ek.length ≤ 127)
    (hmg : ∀ w1, Ext w w1 → Calls Try.prog 114 #[.pointer (some ⟨tb, 0, none⟩), .pointer (some ⟨nb, 0, none⟩), .int .i64 (q : Int)] w1 fun e w' => e = .returned (.pointer (some ⟨b1, 0, none⟩)) ∧ P w') :
    Calls Try.prog 112 #[.pointer (some ⟨tb, 0, none⟩), .pointer (some ⟨nb, 0, none⟩), .int .i64 (i : Int)] w fun e w' => e = .returned (.pointer (some ⟨b1, 0, none⟩)) ∧ P w' := by
  have hip : i < ps.length := (List.getElem?_eq_some_iff.1 hki).1
  obtain ⟨gcb, HGC⟩ : ∃ b, Hid (gc = some b) := hN.kids.some_of_pos (by omega)
  have HB := Lib.hid hB; have HN := Lib.hid hN; have HK := Lib.hid hK; have HKI := Lib.hid hki; have HNO := Lib.hid hno; have HNR := Lib.hid hnr; have HMG := Lib.hid hmg
  clear hB hN hK hki hno hnr hmg
  have hA : decide ((m : Int) - 1 < (ek.length : Int)) = false := decide_eq_false (by omega)
  have hrc := fun U => run_index_slv (P := Try.prog) ei_node (cap := cc) HGC.out (j := i) (n := ps.length) (by omega) U
  obtain ⟨t0, -, -⟩ := blk3 HB.out
  obtain ⟨n0, n1, n2⟩ := blk3 HN.out.blk
  obtain ⟨k0, k1, k2⟩ := blk3 HK.out.blk
  have hc1 := HN.out.kid HGC.out HKI.out
  go_enter Try.func112, Try.ntmps112
  go_wp2
  refine region_calm [.p 0, .p 1, .p 2, .l 3, .p 4, .p 5, .p 6, .p 7, .l 8, .h 9 true, .p 10] f_mixed (by kernel_rfl) (by kernel_rfl) ?_
  repeat (first | (refine plan_p rfl (fun K hK => ?_); go_simp; refine hK _ ?_; clear hK K) | (refine plan_l rfl (fun K hK => ?_); go_simp; refine hK _ ?_; clear hK K))
  refine plan_ct rfl rfl (fun K _ hK => ?_)
  go_wp2_with fail
  refine (least_ok m hm _).mono ?_
  rintro e W1 ⟨rfl, hE1⟩
  go_wp2
  refine hK _ _ (hE1) ?_; clear hK K
  repeat (first | (refine plan_p rfl (fun K hK => ?_); go_simp; refine hK _ ?_; clear hK K) | (refine plan_l rfl (fun K hK => ?_); go_simp; refine hK _ ?_; clear hK K))
  refine plan_done ?_
  clear t0 n0 n1 n2 k0 k1 k2 hc1 hA HK
  have HE1 := Lib.hid ((Ext.refl w).drew.trans hE1)
  replace HN := Lib.hid (HN.out.ext HE1.out)
  replace HB := Lib.hid (Ext.block HE1.out HB.out)
  replace HNO := Lib.hid (HNO.out.ext HE1.out)
  replace HNR := Lib.hid (HNR.out.ext HE1.out)
  replace HMG := Lib.hid (fun w1 (h : Ext W1 w1) => HMG.out w1 (HE1.out.trans h))
  clear hE1 HE1
  go_upto_region 4 with fail
  go_cut [51] from 30 to 50 (fun v51 wc => v51 = .bool false ∧ Ext W1 wc)
  case first =>
    by_cases hpos : 0 < i
    · obtain ⟨j, hij⟩ : ∃ j, i = j + 1 := ⟨i - 1, by omega⟩
      obtain ⟨lb, n, c, g, v1, v2, h1, h2, h3, h4⟩ := HNO.out j hij
      have hA2 : decide (0 < i) = true := decide_eq_true hpos
      have hA5 : decide ((m : Int) - 1 < (n : Int)) = false := decide_eq_false (by omega)
      have hji : (i : Int) - 1 = (j : Int) := by omega
      have hwj : IntKind.i64.wrap (j : Int) = (j : Int) := by rw [IntKind.wrap_i64]; omega
      have hrcj := fun U => run_index_slv (P := Try.prog) ei_node (cap := cc) HGC.out (j := j) (n := ps.length) (by omega) U
      have H2 := Lib.hid h2
      have HLI := Lib.hid h1
      clear hij h1 h2 hpos hq
      refine region_calm [.p 0, .p 1, .p 2, .p 3, .p 4, .p 5, .l 6, .p 7, .p 8, .p 9, .l 10, .p 11, .p 12, .l 13, .p 14, .p 15, .p 16, .p 17, .l 18, .h 19 true, .p 20, .p 21] f_mixed (by kernel_rfl) (by kernel_rfl) ?_
      have hEd : Ext W1 W1.drew := (Ext.refl _).drew
      replace HN := Lib.hid (HN.out.ext hEd)
      replace HB := Lib.hid (Ext.block hEd HB.out)
      replace H2 := Lib.hid (Ext.block hEd H2.out)
      generalize W1.drew = V1 at *
      obtain ⟨t0, -, -⟩ := blk3 HB.out
      obtain ⟨n0, n1, n2⟩ := blk3 HN.out.blk
      obtain ⟨l0, -, -⟩ := blk3 H2.out
      have hc2 := HN.out.kid HGC.out HLI.out
      repeat (first | (refine plan_p rfl (fun K hK => ?_); go_simp; refine hK _ ?_; clear hK K) | (refine plan_l rfl (fun K hK => ?_); go_simp; refine hK _ ?_; clear hK K))
      refine plan_t rfl (fun K hK => ?_)
      go_wp2_with fail
      refine (least_ok m hm _).mono ?_
      rintro e W2 ⟨rfl, hE2⟩
      go_wp2
      refine hK _ _ (hE2) ?_; clear hK K
      repeat (first | (refine plan_p rfl (fun K hK => ?_); go_simp; refine hK _ ?_; clear hK K) | (refine plan_l rfl (fun K hK => ?_); go_simp; refine hK _ ?_; clear hK K))
      refine plan_done ?_
      go_wp2
      go_meet
      case rel => exact ⟨rfl, hEd.trans hE2⟩
    · have hA2 : decide (0 < i) = false := decide_eq_false hpos
      clear hpos hq
      refine region_calm [.p 0, .p 1, .p 2, .p 3, .p 4, .p 5, .l 6, .p 7, .p 8, .p 9, .l 10, .p 11, .p 12, .l 13, .p 14, .p 15, .p 16, .p 17, .l 18, .h 19 true, .p 20, .p 21] f_mixed (by kernel_rfl) (by kernel_rfl) ?_
      have hEd : Ext W1 W1.drew := (Ext.refl _).drew
      generalize W1.drew = V1 at *
      repeat (first | (refine plan_p rfl (fun K hK => ?_); go_simp; refine hK _ ?_; clear hK K) | (refine plan_l rfl (fun K hK => ?_); go_simp; refine hK _ ?_; clear hK K))
      refine plan_t rfl (fun K hK => ?_)
      go_wp2
      refine hK _ _ (Ext.refl _) ?_; clear hK K
      repeat (first | (refine plan_p rfl (fun K hK => ?_); go_simp; refine hK _ ?_; clear hK K) | (refine plan_l rfl (fun K hK => ?_); go_simp; refine hK _ ?_; clear hK K))
      refine plan_done ?_
      go_wp2
      go_meet
      case rel => exact ⟨rfl, hEd⟩
  case rest =>
    obtain ⟨rfl, hE2⟩ := hcut
    replace HN := Lib.hid (HN.out.ext hE2)
    replace HB := Lib.hid (Ext.block hE2 HB.out)
    replace HNR := Lib.hid (HNR.out.ext hE2)
    replace HMG := Lib.hid (fun w1 (h : Ext wc w1) => HMG.out w1 (hE2.trans h))
    clear hE2 HNO
    go_upto_region 14 with fail
    go_cut [203] from 177 to 202 (fun v203 wd => v203 = .bool false ∧ Ext wc wd)
    case first =>
      by_cases hpos : i < es.length
      · obtain ⟨rb, n, c, g, v1, v2, h1, h2, h3, h4⟩ := HNR.out hpos
        have hA2 : decide (i < es.length) = true := decide_eq_true hpos
        have hA5 : decide ((m : Int) - 1 < (n : Int)) = false := decide_eq_false (by omega)
        have hwi : IntKind.i64.wrap ((i : Int) + 1) = (i : Int) + 1 := by rw [IntKind.wrap_i64]; omega
        have hi1 : i + 1 < ps.length := (List.getElem?_eq_some_iff.1 h1).1
        have hrc2 := fun U => run_index_slv (P := Try.prog) ei_node (cap := cc) HGC.out (j := i + 1) (n := ps.length) hi1 U
        have hcast : ((i + 1 : Nat) : Int) = (i : Int) + 1 := rfl
        rw [hcast] at hrc2
        have H2 := Lib.hid h2
        have HRI := Lib.hid h1
        clear hcast h1 h2 hpos hq
        refine region_calm [.p 0, .p 1, .p 2, .p 3, .l 4, .p 5, .p 6, .p 7, .p 8, .p 9, .p 10, .l 11, .p 12, .p 13, .p 14, .l 15, .p 16, .p 17, .l 18, .p 19, .p 20, .p 21, .p 22, .l 23, .h 24 true, .p 25, .p 26] f_mixed (by kernel_rfl) (by kernel_rfl) ?_
        have hEd : Ext wc wc.drew := (Ext.refl _).drew
        replace HN := Lib.hid (HN.out.ext hEd)
        replace HB := Lib.hid (Ext.block hEd HB.out)
        replace H2 := Lib.hid (Ext.block hEd H2.out)
        generalize wc.drew = V1 at *
        obtain ⟨t0, -, -⟩ := blk3 HB.out
        obtain ⟨n0, n1, n2⟩ := blk3 HN.out.blk
        obtain ⟨l0, -, -⟩ := blk3 H2.out
        have hc2 := HN.out.kid HGC.out HRI.out
        repeat (first | (refine plan_p rfl (fun K hK => ?_); go_simp; refine hK _ ?_; clear hK K) | (refine plan_l rfl (fun K hK => ?_); go_simp; refine hK _ ?_; clear hK K))
        refine plan_t rfl (fun K hK => ?_)
        go_wp2_with fail
        refine (least_ok m hm _).mono ?_
        rintro e W2 ⟨rfl, hE2⟩
        go_wp2
        refine hK _ _ (hE2) ?_; clear hK K
        repeat (first | (refine plan_p rfl (fun K hK => ?_); go_simp; refine hK _ ?_; clear hK K) | (refine plan_l rfl (fun K hK => ?_); go_simp; refine hK _ ?_; clear hK K))
        refine plan_done ?_
        go_wp2
        go_meet
        case rel => exact ⟨rfl, hEd.trans hE2⟩
      · have hA2 : decide (i < es.length) = false := decide_eq_false hpos
        clear hpos hq
        refine region_calm [.p 0, .p 1, .p 2, .p 3, .l 4, .p 5, .p 6, .p 7, .p 8, .p 9, .p 10, .l 11, .p 12, .p 13, .p 14, .l 15, .p 16, .p 17, .l 18, .p 19, .p 20, .p 21, .p 22, .l 23, .h 24 true, .p 25, .p 26] f_mixed (by kernel_rfl) (by kernel_rfl) ?_
        have hEd : Ext wc wc.drew := (Ext.refl _).drew
        replace HN := Lib.hid (HN.out.ext hEd)
        generalize wc.drew = V1 at *
        obtain ⟨n0, n1, n2⟩ := blk3 HN.out.blk
        repeat (first | (refine plan_p rfl (fun K hK => ?_); go_simp; refine hK _ ?_; clear hK K) | (refine plan_l rfl (fun K hK => ?_); go_simp; refine hK _ ?_; clear hK K))
        refine plan_t rfl (fun K hK => ?_)
        go_wp2
        refine hK _ _ (Ext.refl _) ?_; clear hK K
        repeat (first | (refine plan_p rfl (fun K hK => ?_); go_simp; refine hK _ ?_; clear hK K) | (refine plan_l rfl (fun K hK => ?_); go_simp; refine hK _ ?_; clear hK K))
        refine plan_done ?_
        go_wp2
        go_meet
        case rel => exact ⟨rfl, hEd⟩
    case rest =>
      obtain ⟨rfl, hE3⟩ := hcut
      replace HN := Lib.hid (HN.out.ext hE3)
      replace HMG := Lib.hid (fun w1 (h : Ext wc w1) => HMG.out w1 (hE3.trans h))
      clear hE3 HNR HB
      obtain ⟨n0, n1, n2⟩ := blk3 HN.out.blk
      rcases hq with ⟨hq1, hq2⟩ | ⟨hq1, hq2⟩
      · have hE : decide (i = es.length) = true := decide_eq_true hq1
        have hE' : ((i : Int) == (es.length : Int)) = true := by rw [hq1]; exact beq_self_eq_true _
        have hji : (i : Int) - 1 = (q : Int) := by omega
        have hwj : IntKind.i64.wrap (q : Int) = (q : Int) := by rw [IntKind.wrap_i64]; omega
        clear hq1 hq2
        go_wp2_with fail
        refine (HMG.out _ (Ext.refl _)).mono ?_
        rintro e w9 ⟨rfl, hP⟩
        go_wp2
        go_ret
        exact ⟨rfl, hP⟩
      · subst hq2
        have hE : decide (q = es.length) = false := decide_eq_false (by omega)
        have hE' : ((q : Int) == (es.length : Int)) = false := beq_eq_false_iff_ne.2 (by omega)
        clear hq1
        go_wp2_with fail
        refine (HMG.out _ (Ext.refl _)).mono ?_
        rintro e w9 ⟨rfl, hP⟩
        go_wp2
        go_ret
        exact ⟨rfl, hP⟩
end Go.Proofs.Ytkejjahlglldlaa
