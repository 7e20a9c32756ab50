/- fill: the kid takes a key (and a kid) of the node ahead of it: walked. -/
import Derived.Test.YtkejjahlglldlaaMBm2
import Derived.Deep.Cut
import Derived.Deep.CutBlock
import Derived.Deep.CutRange
namespace Go.Proofs.Ytkejjahlglldlaa
open Go.RowKit Go.Lib

theorem sK_set (es : List Ent) (j : Nat) (e : Ent) : sK (es.set j e) = (sK es).set j (str e.1) := by simp [sK, List.map_set]
theorem sV_set (es : List Ent) (j : Nat) (e : Ent) : sV (es.set j e) = (sV es).set j (.int .i64 e.2) := by simp [sV, List.map_set]
theorem len_set (es : List Ent) (j : Nat) (e : Ent) : es.length = (es.set j e).length := by simp
set_option maxRecDepth 100000 in
set_option maxHeartbeats 16000000 in
theorem fillB_ok (tb nb lb kb m i j L : Nat) (tr tc : Value) (es el ek : List Ent) (em ex : Ent) (ps pl pk : List Nat) (gk gv gc lk lv lc hk hv hc : Option Nat) (ck cv cc bk bv bc dk dv dc : Nat) (w : World)
    (hB : w.heap[tb]? = some (.cells #[.int .i64 (m : Int), tr, tc] 84 (0, 0))) (hN : NodeAt w nb es ps gk gv gc ck cv cc) (hL : NodeAt w lb el pl lk lv lc bk bv bc) (hK : NodeAt w kb ek pk hk hv hc dk dv dc)
    (hnd : (ownL nb gk gv gc ++ (ownL lb lk lv lc ++ ownL kb hk hv hc)).Nodup)
    (hij : i = j + 1) (hki : ps[i]? = some kb) (hli : ps[j]? = some lb) (hem : es[j]? = some em) (hel : el.length = L + 1) (hex : el[L]? = some ex) (hpl : pl = [] ∨ pl.length = el.length + 1)
    (hm : m ≤ 64) (hek : ek.length < m) (hel2 : m ≤ el.length) (hl1 : es.length ≤ 127) (hl2 : ps.length ≤ 128) (hl3 : el.length ≤ 127) (hl4 : pl.length ≤ 128) (hl5 : ek.length ≤ 127) (hl6 : pk.length ≤ 128) :
    Calls Try.prog 112 #[.pointer (some ⟨tb, 0, none⟩), .pointer (some ⟨nb, 0, none⟩), .int .i64 (i : Int)] w fun e w' => e = .returned (.pointer (some ⟨kb, 0, none⟩)) ∧
      ∃ hk' hv' hc' dk' dv' dc', NodeAt w' nb (es.set j ex) ps gk gv gc ck cv cc ∧ NodeAt w' lb (el.take L) (pl.take (L + 1)) lk lv lc bk bv bc ∧ NodeAt w' kb (em :: ek) (pl.drop (L + 1) ++ pk) hk' hv' hc' dk' dv' dc' ∧
        Touch (fun k => k ∈ ownL nb gk gv gc ++ (ownL lb lk lv lc ++ ownL kb hk hv hc)) w w' ∧ (ownL nb gk gv gc ++ (ownL lb lk lv lc ++ ownL kb hk' hv' hc')).Nodup ∧
        ∀ x ∈ ownL kb hk' hv' hc', x ∈ ownL nb gk gv gc ++ (ownL lb lk lv lc ++ ownL kb hk hv hc) ∨ w.heap.size ≤ x := by
  have hip : i < ps.length := (List.getElem?_eq_some_iff.1 hki).1
  have hje : j < es.length := (List.getElem?_eq_some_iff.1 hem).1
  have HM := Lib.hid (Mm.start3 hN hL hK hnd)
  obtain ⟨gkb, HGK⟩ : ∃ b, Hid (gk = some b) := hN.keys.some_of_pos (by omega)
  obtain ⟨gvb, HGV⟩ : ∃ b, Hid (gv = some b) := hN.vals.some_of_pos (by omega)
  obtain ⟨gcb, HGC⟩ : ∃ b, Hid (gc = some b) := hN.kids.some_of_pos (by omega)
  obtain ⟨lkb, HLK⟩ : ∃ b, Hid (lk = some b) := hL.keys.some_of_pos (by omega)
  obtain ⟨lvb, HLV⟩ : ∃ b, Hid (lv = some b) := hL.vals.some_of_pos (by omega)
  have hB2 : ∀ W, Ext w W → W.heap[tb]? = some (.cells #[.int .i64 (m : Int), tr, tc] 84 (0, 0)) := fun W hE => Ext.block hE hB
  have hlcap := hL.keys.le
  have hlcap2 := hL.vals.le
  have HB := Lib.hid hB; have HB2 := Lib.hid hB2; have HKI := Lib.hid hki; have HLI := Lib.hid hli; have HEM := Lib.hid hem; have HEX := Lib.hid hex; have HPL := Lib.hid hpl
  clear hB hB2 hN hL hK hki hli hem hex hpl hnd
  have hA : decide ((m : Int) - 1 < (ek.length : Int)) = false := decide_eq_false (by omega)
  have hA2 : decide (0 < i) = true := decide_eq_true (by omega)
  have hA3 : decide ((m : Int) - 1 < (el.length : Int)) = true := decide_eq_true (by omega)
  have hji : (i : Int) - 1 = (j : Int) := by omega
  have hwj : IntKind.i64.wrap (j : Int) = (j : Int) := by rw [IntKind.wrap_i64]; omega
  have hwL : IntKind.i64.wrap (L : Int) = (L : Int) := by rw [IntKind.wrap_i64]; omega
  have hLl : (el.length : Int) - 1 = (L : Int) := by omega
  have HIJ := Lib.hid hij; have HEL := Lib.hid hel
  clear hij hel
  have hrc := fun U => run_index_slv (P := Try.prog) ei_node (cap := cc) HGC.out (j := i) (n := ps.length) (by omega) U
  have hrc2 := fun U => run_index_slv (P := Try.prog) ei_node (cap := cc) HGC.out (j := j) (n := ps.length) (by have := HIJ.out; omega) U
  have hrk := fun U => run_index_slv (P := Try.prog) ei_string (cap := ck) HGK.out (j := j) (n := es.length) hje U
  have hrv := fun U => run_index_slv (P := Try.prog) ei_int64 (cap := cv) HGV.out (j := j) (n := es.length) hje U
  have hrl := fun U => run_index_slv (P := Try.prog) ei_string (cap := bk) HLK.out (j := L) (n := el.length) (by have := HEL.out; omega) U
  have hrlv := fun U => run_index_slv (P := Try.prog) ei_int64 (cap := bv) HLV.out (j := L) (n := el.length) (by have := HEL.out; omega) U
  obtain ⟨t0, -, -⟩ := blk3 HB.out
  obtain ⟨n0, n1, n2⟩ := HM.out.c3 0 (b := nb) (by decide) rfl rfl
  obtain ⟨l0, l1, l2⟩ := HM.out.c3 1 (b := lb) (by decide) rfl rfl
  obtain ⟨k0, k1, k2⟩ := HM.out.c3 2 (b := kb) (by decide) rfl rfl
  have hc1 := HM.out.el 2 (by decide) rfl HGC.out (sP_get HKI.out)
  have hc2 := HM.out.el 2 (by decide) rfl HGC.out (sP_get HLI.out)
  go_enter Try.func112, Try.ntmps112
  go_wp2
  refine region_calm [.p 0, .p 1, .p 2, .l 3, .p 4, .p 5, .p 6, .p 7, .l 8, .h 9 true, .p 10] f_mixed (by kernel_rfl) (by kernel_rfl) ?_
  repeat (first | (refine plan_p rfl (fun K hK => ?_); go_simp; refine hK _ ?_; clear hK K) | (refine plan_l rfl (fun K hK => ?_); go_simp; refine hK _ ?_; clear hK K))
  refine plan_ct rfl rfl (fun K _ hK => ?_)
  go_wp2_with fail
  refine (least_ok m hm _).mono ?_
  rintro e W1 ⟨rfl, hE1⟩
  go_wp2
  refine hK _ _ (hE1) ?_; clear hK K
  repeat (first | (refine plan_p rfl (fun K hK => ?_); go_simp; refine hK _ ?_; clear hK K) | (refine plan_l rfl (fun K hK => ?_); go_simp; refine hK _ ?_; clear hK K))
  refine plan_done ?_
  clear t0 n0 n1 n2 k0 k1 k2 hc1 l0 l1 l2 hc2
  replace HM := Lib.hid ((HM.out.ext (Ext.refl _).drew).ext hE1)
  replace HB := Lib.hid (HB2.out W1 ((Ext.refl w).drew.trans hE1))
  clear HB2
  replace HM := Lib.hid (HM.out.ext (Ext.refl _).drew)
  replace HB := Lib.hid (show W1.drew.heap[tb]? = _ from HB.out)
  obtain ⟨t0, -, -⟩ := blk3 HB.out
  obtain ⟨n0, n1, n2⟩ := HM.out.c3 0 (b := nb) (by decide) rfl rfl
  obtain ⟨l0, l1, l2⟩ := HM.out.c3 1 (b := lb) (by decide) rfl rfl
  obtain ⟨k0, k1, k2⟩ := HM.out.c3 2 (b := kb) (by decide) rfl rfl
  have hc1 := HM.out.el 2 (by decide) rfl HGC.out (sP_get HKI.out)
  have hc2 := HM.out.el 2 (by decide) rfl HGC.out (sP_get HLI.out)
  go_wp2
  refine region_calm [.p 0, .p 1, .p 2, .p 3, .p 4, .p 5, .l 6, .p 7, .p 8, .p 9, .l 10, .p 11, .p 12, .l 13, .p 14, .p 15, .p 16, .p 17, .l 18, .h 19 true, .p 20, .p 21] f_mixed (by kernel_rfl) (by kernel_rfl) ?_
  repeat (first | (refine plan_p rfl (fun K hK => ?_); go_simp; refine hK _ ?_; clear hK K) | (refine plan_l rfl (fun K hK => ?_); go_simp; refine hK _ ?_; clear hK K))
  refine plan_t rfl (fun K hK => ?_)
  go_wp2_with fail
  refine (least_ok m hm _).mono ?_
  rintro e W2 ⟨rfl, hE2⟩
  go_wp2
  refine hK _ _ (hE2) ?_; clear hK K
  repeat (first | (refine plan_p rfl (fun K hK => ?_); go_simp; refine hK _ ?_; clear hK K) | (refine plan_l rfl (fun K hK => ?_); go_simp; refine hK _ ?_; clear hK K))
  refine plan_done ?_
  clear t0 n0 n1 n2 k0 k1 k2 hc1 l0 l1 l2 hc2
  replace HM := Lib.hid (HM.out.ext hE2)
  clear hE1 hE2 HB
  obtain ⟨n0, n1, n2⟩ := HM.out.c3 0 (b := nb) (by decide) rfl rfl
  obtain ⟨l0, l1, l2⟩ := HM.out.c3 1 (b := lb) (by decide) rfl rfl
  have hc2 := HM.out.el 2 (by decide) rfl HGC.out (sP_get HLI.out)
  go_upto_region 7 with fail
  clear n0 n1 n2 l0 l1 l2 hc2
  go_cut [] from 66 to 99 (fun wc => ∃ gK cK gV cV, Mm w (fun k => k ∈ ownL nb gk gv gc ++ (ownL lb lk lv lc ++ ownL kb hk hv hc)) 3 9 (hd3 nb lb kb) (hc3 (hcN gk gv gc es.length ps.length ck cv cc) (hcN lk lv lc el.length pl.length bk bv bc) (hcN (some gK) (some gV) hc (ek.length + 1) pk.length cK cV dc))
      (s9 (sdK es gk ck) (sdV es gv cv) (sdP ps gc cc) (sdK el lk bk) (sdV el lv bv) (sdP pl lc bc) ⟨9, some gK, ek.length + 1, cK, str em.1 :: sK ek⟩ ⟨2, some gV, ek.length + 1, cV, .int .i64 em.2 :: sV ek⟩ (sdP pk hc dc)) wc)
  case first =>
    letI : Tch.TS := ⟨fun k => hk = some k⟩
    replace HM := Lib.hid (HM.out.ext (Ext.refl _).drew)
    refine Tch.region_fork (.fork [.p 0, .p 1, .p 2, .p 3, .p 4, .e 5, .p 6, .p 7, .p 8, .e 9, .p 10, .p 11, .p 12, .e 13, .p 16, .p 17, .p 18, .e 19, .p 20, .p 21, .p 22, .e 23, .p 24, .p 25, .p 26, .e 27] 14 true (.fork [] 15 true (.leaf [.h 28 true, .h 29 false, .p 30, .p 31, .h 32 false, .p 33, .p 34, .h 35 false]) 28 true (.leaf [.h 15 true, .h 29 false, .p 30, .p 31, .h 32 false, .p 33, .p 34, .h 35 false])) 28 true (.leaf [.h 14 true, .h 15 true, .h 29 false, .p 30, .p 31, .h 32 false, .p 33, .p 34, .h 35 false])) f_mixed (by kernel_rfl) ?_
    refine Tch.fork_split ?_
    generalize W2.drew = V0 at *
    repeat (refine Tch.plan_p rfl (fun K hK => ?_); go_simp; refine hK _ ?_; clear hK K)
    refine Tch.plan_e1 rfl rfl ((slv hk ek.length dk)) (fun w' he => ?_) (fun K hK => ?_)
    · obtain ⟨k0, k1, k2⟩ := HM.out.c3t (j := 6) (by decide) rfl he 2 (b := kb) (by decide) rfl rfl
      go_simp
    go_simp; refine hK _ ?_; clear hK K
    repeat (refine Tch.plan_p rfl (fun K hK => ?_); go_simp; refine hK _ ?_; clear hK K)
    refine Tch.plan_e1 rfl rfl ((slv gk es.length ck)) (fun w' he => ?_) (fun K hK => ?_)
    · obtain ⟨k0, k1, k2⟩ := HM.out.c3t (j := 6) (by decide) rfl he 0 (b := nb) (by decide) rfl rfl
      go_simp
    go_simp; refine hK _ ?_; clear hK K
    repeat (refine Tch.plan_p rfl (fun K hK => ?_); go_simp; refine hK _ ?_; clear hK K)
    refine Tch.plan_e1 rfl rfl ((str em.1)) (fun w' he => ?_) (fun K hK => ?_)
    · have hc := HM.out.elt (j := 6) (by decide) rfl he 0 (by decide) (by decide) rfl HGK.out (sK_get HEM.out)
      go_simp
    go_simp; refine hK _ ?_; clear hK K
    repeat (refine Tch.plan_p rfl (fun K hK => ?_); go_simp; refine hK _ ?_; clear hK K)
    refine Tch.plan_e1 rfl rfl ((slv hv ek.length dv)) (fun w' he => ?_) (fun K hK => ?_)
    · obtain ⟨k0, k1, k2⟩ := HM.out.c3t (j := 6) (by decide) rfl he 2 (b := kb) (by decide) rfl rfl
      go_simp
    go_simp; refine hK _ ?_; clear hK K
    repeat (refine Tch.plan_p rfl (fun K hK => ?_); go_simp; refine hK _ ?_; clear hK K)
    refine Tch.plan_e1 rfl rfl ((slv gv es.length cv)) (fun w' he => ?_) (fun K hK => ?_)
    · obtain ⟨k0, k1, k2⟩ := HM.out.c3t (j := 6) (by decide) rfl he 0 (b := nb) (by decide) rfl rfl
      go_simp
    go_simp; refine hK _ ?_; clear hK K
    repeat (refine Tch.plan_p rfl (fun K hK => ?_); go_simp; refine hK _ ?_; clear hK K)
    refine Tch.plan_e1 rfl rfl ((Value.int .i64 em.2)) (fun w' he => ?_) (fun K hK => ?_)
    · have hc := HM.out.elt (j := 6) (by decide) rfl he 1 (by decide) (by decide) rfl HGV.out (sV_get HEM.out)
      go_simp
    go_simp; refine hK _ ?_; clear hK K
    repeat (refine Tch.plan_p rfl (fun K hK => ?_); go_simp; refine hK _ ?_; clear hK K)
    refine Tch.fork_end ?_ ?_
    · refine Tch.fork_t rfl (fun K hK => ?_)
      go_wp2_with fail
      refine hK _ _ (((Ext.refl _).alloc _).touch _) ?_; clear hK K
      have HA : Hid ((V0.alloc (.cells #[str em.1] 9)).heap[V0.heap.size]? = some (.cells #[str em.1] 9 (0, 0))) := blk_new _ _
      have hna : hk ≠ some V0.heap.size := fun h => by have := HM.out.slt (i := 6) (by decide) h; omega
      replace HM := Lib.hid (HM.out.ext ((Ext.refl _).alloc (.cells #[str em.1] 9)))
      skip
      generalize V0.heap.size = ba at *
      generalize V0.alloc (.cells #[str em.1] 9) = V1 at *
      refine Tch.fork_now ?_ ?_
      · refine Tch.fork_t rfl (fun K hK => ?_)
        go_wp2_with fail
        refine (InsS hk ek.length dk 0 ba 1 (sK ek) (str em.1) V1 (HM.out.sd 6 (by decide) rfl) HA.out hna (Nat.zero_le _) (sK_one ek) rfl (by omega)).mono ?_
        rintro e V2 ⟨gK, cK, rfl, hS, hT, hat⟩
        go_wp2_with fail
        refine hK _ _ hT ?_; clear hK K
        skip
        replace HM := Lib.hid (HM.out.slice (i := 6) (by decide) hS hT (fun x hx => by cases hx; exact hat))
        clear hS hT hat
        refine Tch.fork_leaf ?_
        refine Tch.plan_ct rfl rfl (fun K _ hK => ?_)
        go_wp2_with fail
        refine hK _ _ (((Ext.refl _).alloc _).touch _) ?_; clear hK K
        have HV : Hid ((V2.alloc (.cells #[.int .i64 em.2] 2)).heap[V2.heap.size]? = some (.cells #[.int .i64 em.2] 2 (0, 0))) := blk_new _ _
        have hnv : hv ≠ some V2.heap.size := fun h => by have := HM.out.slt (i := 7) (by decide) h; omega
        skip
        replace HM := Lib.hid (HM.out.ext ((Ext.refl _).alloc (.cells #[.int .i64 em.2] 2)))
        skip
        generalize V2.heap.size = bv at *
        generalize V2.alloc (.cells #[.int .i64 em.2] 2) = V3 at *
        refine Tch.plan_c rfl rfl (fun K _ hK => ?_)
        go_wp2_with fail
        refine (InsI hv ek.length dv 0 bv 1 (sV ek) (.int .i64 em.2) V3 (HM.out.sd 7 (by decide) rfl) HV.out hnv (Nat.zero_le _) (sV_one ek) rfl (by omega)).mono ?_
        rintro e V4 ⟨gV, cV, rfl, hS, hT, hat⟩
        go_wp2_with fail
        replace HM := Lib.hid (HM.out.slice (i := 7) (by decide) hS hT (fun x hx => by cases hx; exact hat))
        clear hS hT hat
        obtain ⟨k0, k1, k2⟩ := HM.out.c3 2 (b := kb) (by decide) rfl rfl
        have hz := HM.out.fz 2 (b := kb) (by decide) rfl 0
        repeat (refine Tch.plan_p rfl (fun K hK => ?_); go_simp; refine hK _ ?_; clear hK K)
        refine Tch.plan_c rfl rfl (fun K _ hK => ?_)
        go_wp2_with fail
        clear k0 k1 k2 hz
        replace HM := Lib.hid (show Mm _ _ _ _ _ _ _ (V4.setCell ⟨kb, 0, none⟩ (slv (some gK) (ek.length + 1) cK)) from HM.out.head (i := 2) (by decide) 0 (slv (some gK) (ek.length + 1) cK))
        generalize V4.setCell ⟨kb, 0, none⟩ (slv (some gK) (ek.length + 1) cK) = V5 at *
        have hz := HM.out.fz 2 (b := kb) (by decide) rfl 1
        obtain ⟨k0, k1, k2⟩ := HM.out.c3 2 (b := kb) (by decide) rfl rfl
        repeat (refine Tch.plan_p rfl (fun K hK => ?_); go_simp; refine hK _ ?_; clear hK K)
        refine Tch.plan_c rfl rfl (fun K _ hK => ?_)
        go_wp2_with fail
        clear k0 k1 k2 hz
        replace HM := Lib.hid (show Mm _ _ _ _ _ _ _ (V5.setCell ⟨kb, 1, none⟩ (slv (some gV) (ek.length + 1) cV)) from HM.out.head (i := 2) (by decide) 1 (slv (some gV) (ek.length + 1) cV))
        refine tch_done ?_
        go_wp2_with fail
        go_meet
        case rel => exact ⟨gK, cK, gV, cV, HM.out.conv rfl rfl rfl rfl rfl rfl rfl rfl rfl rfl rfl rfl⟩
      · refine Tch.fork_t rfl (fun K hK => ?_)
        go_wp2_with fail
        refine hK _ _ (((Ext.refl _).alloc _).touch _) ?_; clear hK K
        have HV : Hid ((V1.alloc (.cells #[.int .i64 em.2] 2)).heap[V1.heap.size]? = some (.cells #[.int .i64 em.2] 2 (0, 0))) := blk_new _ _
        have hnv : hv ≠ some V1.heap.size := fun h => by have := HM.out.slt (i := 7) (by decide) h; omega
        (have hnv2 : hk ≠ some V1.heap.size := fun h => by have := HM.out.slt (i := 6) (by decide) h; omega)
        replace HM := Lib.hid (HM.out.ext ((Ext.refl _).alloc (.cells #[.int .i64 em.2] 2)))
        (replace HA := Lib.hid (blk_alloc (o' := .cells #[.int .i64 em.2] 2) HA.out))
        generalize V1.heap.size = bv at *
        generalize V1.alloc (.cells #[.int .i64 em.2] 2) = V2 at *
        refine Tch.fork_leaf ?_
        refine Tch.plan_ct rfl rfl (fun K _ hK => ?_)
        go_wp2_with fail
        refine (InsS hk ek.length dk 0 ba 1 (sK ek) (str em.1) V2 (HM.out.sd 6 (by decide) rfl) HA.out hna (Nat.zero_le _) (sK_one ek) rfl (by omega)).mono ?_
        rintro e V3 ⟨gK, cK, rfl, hS, hT, hat⟩
        go_wp2_with fail
        refine hK _ _ hT ?_; clear hK K
        (replace HV := Lib.hid (hT.old HV.out hnv2))
        replace HM := Lib.hid (HM.out.slice (i := 6) (by decide) hS hT (fun x hx => by cases hx; exact hat))
        clear hS hT hat
        refine Tch.plan_c rfl rfl (fun K _ hK => ?_)
        go_wp2_with fail
        refine (InsI hv ek.length dv 0 bv 1 (sV ek) (.int .i64 em.2) V3 (HM.out.sd 7 (by decide) rfl) HV.out hnv (Nat.zero_le _) (sV_one ek) rfl (by omega)).mono ?_
        rintro e V4 ⟨gV, cV, rfl, hS, hT, hat⟩
        go_wp2_with fail
        replace HM := Lib.hid (HM.out.slice (i := 7) (by decide) hS hT (fun x hx => by cases hx; exact hat))
        clear hS hT hat
        obtain ⟨k0, k1, k2⟩ := HM.out.c3 2 (b := kb) (by decide) rfl rfl
        have hz := HM.out.fz 2 (b := kb) (by decide) rfl 0
        repeat (refine Tch.plan_p rfl (fun K hK => ?_); go_simp; refine hK _ ?_; clear hK K)
        refine Tch.plan_c rfl rfl (fun K _ hK => ?_)
        go_wp2_with fail
        clear k0 k1 k2 hz
        replace HM := Lib.hid (show Mm _ _ _ _ _ _ _ (V4.setCell ⟨kb, 0, none⟩ (slv (some gK) (ek.length + 1) cK)) from HM.out.head (i := 2) (by decide) 0 (slv (some gK) (ek.length + 1) cK))
        generalize V4.setCell ⟨kb, 0, none⟩ (slv (some gK) (ek.length + 1) cK) = V5 at *
        have hz := HM.out.fz 2 (b := kb) (by decide) rfl 1
        obtain ⟨k0, k1, k2⟩ := HM.out.c3 2 (b := kb) (by decide) rfl rfl
        repeat (refine Tch.plan_p rfl (fun K hK => ?_); go_simp; refine hK _ ?_; clear hK K)
        refine Tch.plan_c rfl rfl (fun K _ hK => ?_)
        go_wp2_with fail
        clear k0 k1 k2 hz
        replace HM := Lib.hid (show Mm _ _ _ _ _ _ _ (V5.setCell ⟨kb, 1, none⟩ (slv (some gV) (ek.length + 1) cV)) from HM.out.head (i := 2) (by decide) 1 (slv (some gV) (ek.length + 1) cV))
        refine tch_done ?_
        go_wp2_with fail
        go_meet
        case rel => exact ⟨gK, cK, gV, cV, HM.out.conv rfl rfl rfl rfl rfl rfl rfl rfl rfl rfl rfl rfl⟩
    · refine Tch.fork_t rfl (fun K hK => ?_)
      go_wp2_with fail
      refine hK _ _ (((Ext.refl _).alloc _).touch _) ?_; clear hK K
      have HV : Hid ((V0.alloc (.cells #[.int .i64 em.2] 2)).heap[V0.heap.size]? = some (.cells #[.int .i64 em.2] 2 (0, 0))) := blk_new _ _
      have hnv : hv ≠ some V0.heap.size := fun h => by have := HM.out.slt (i := 7) (by decide) h; omega
      (have hnv2 : hk ≠ some V0.heap.size := fun h => by have := HM.out.slt (i := 6) (by decide) h; omega)
      replace HM := Lib.hid (HM.out.ext ((Ext.refl _).alloc (.cells #[.int .i64 em.2] 2)))
      skip
      generalize V0.heap.size = bv at *
      generalize V0.alloc (.cells #[.int .i64 em.2] 2) = V1 at *
      refine Tch.fork_leaf ?_
      refine Tch.plan_ct rfl rfl (fun K _ hK => ?_)
      go_wp2_with fail
      refine hK _ _ (((Ext.refl _).alloc _).touch _) ?_; clear hK K
      have HA : Hid ((V1.alloc (.cells #[str em.1] 9)).heap[V1.heap.size]? = some (.cells #[str em.1] 9 (0, 0))) := blk_new _ _
      have hna : hk ≠ some V1.heap.size := fun h => by have := HM.out.slt (i := 6) (by decide) h; omega
      replace HM := Lib.hid (HM.out.ext ((Ext.refl _).alloc (.cells #[str em.1] 9)))
      (replace HV := Lib.hid (blk_alloc (o' := .cells #[str em.1] 9) HV.out))
      generalize V1.heap.size = ba at *
      generalize V1.alloc (.cells #[str em.1] 9) = V2 at *
      refine Tch.plan_ct rfl rfl (fun K _ hK => ?_)
      go_wp2_with fail
      refine (InsS hk ek.length dk 0 ba 1 (sK ek) (str em.1) V2 (HM.out.sd 6 (by decide) rfl) HA.out hna (Nat.zero_le _) (sK_one ek) rfl (by omega)).mono ?_
      rintro e V3 ⟨gK, cK, rfl, hS, hT, hat⟩
      go_wp2_with fail
      refine hK _ _ hT ?_; clear hK K
      (replace HV := Lib.hid (hT.old HV.out hnv2))
      replace HM := Lib.hid (HM.out.slice (i := 6) (by decide) hS hT (fun x hx => by cases hx; exact hat))
      clear hS hT hat
      refine Tch.plan_c rfl rfl (fun K _ hK => ?_)
      go_wp2_with fail
      refine (InsI hv ek.length dv 0 bv 1 (sV ek) (.int .i64 em.2) V3 (HM.out.sd 7 (by decide) rfl) HV.out hnv (Nat.zero_le _) (sV_one ek) rfl (by omega)).mono ?_
      rintro e V4 ⟨gV, cV, rfl, hS, hT, hat⟩
      go_wp2_with fail
      replace HM := Lib.hid (HM.out.slice (i := 7) (by decide) hS hT (fun x hx => by cases hx; exact hat))
      clear hS hT hat
      obtain ⟨k0, k1, k2⟩ := HM.out.c3 2 (b := kb) (by decide) rfl rfl
      have hz := HM.out.fz 2 (b := kb) (by decide) rfl 0
      repeat (refine Tch.plan_p rfl (fun K hK => ?_); go_simp; refine hK _ ?_; clear hK K)
      refine Tch.plan_c rfl rfl (fun K _ hK => ?_)
      go_wp2_with fail
      clear k0 k1 k2 hz
      replace HM := Lib.hid (show Mm _ _ _ _ _ _ _ (V4.setCell ⟨kb, 0, none⟩ (slv (some gK) (ek.length + 1) cK)) from HM.out.head (i := 2) (by decide) 0 (slv (some gK) (ek.length + 1) cK))
      generalize V4.setCell ⟨kb, 0, none⟩ (slv (some gK) (ek.length + 1) cK) = V5 at *
      have hz := HM.out.fz 2 (b := kb) (by decide) rfl 1
      obtain ⟨k0, k1, k2⟩ := HM.out.c3 2 (b := kb) (by decide) rfl rfl
      repeat (refine Tch.plan_p rfl (fun K hK => ?_); go_simp; refine hK _ ?_; clear hK K)
      refine Tch.plan_c rfl rfl (fun K _ hK => ?_)
      go_wp2_with fail
      clear k0 k1 k2 hz
      replace HM := Lib.hid (show Mm _ _ _ _ _ _ _ (V5.setCell ⟨kb, 1, none⟩ (slv (some gV) (ek.length + 1) cV)) from HM.out.head (i := 2) (by decide) 1 (slv (some gV) (ek.length + 1) cV))
      refine tch_done ?_
      go_wp2_with fail
      go_meet
      case rel => exact ⟨gK, cK, gV, cV, HM.out.conv rfl rfl rfl rfl rfl rfl rfl rfl rfl rfl rfl rfl⟩
  case rest =>
    clear HM
    obtain ⟨gK, cK, gV, cV, hM⟩ := hcut
    have HM := Lib.hid hM
    clear hM hrc hrc2
    go_wp2
    refine region_calm [.p 0, .p 1, .p 2, .l 3, .p 4, .p 5, .p 6, .p 7, .p 8, .l 9, .p 10, .p 11, .p 12, .p 13, .p 14, .l 15, .p 16, .p 17, .l 18, .p 19, .p 20, .p 21, .l 22, .p 23, .p 24, .l 25, .p 26, .h 27 false, .p 28, .h 29 false] f_mixed (by kernel_rfl) (by kernel_rfl) ?_
    replace HM := Lib.hid (HM.out.ext (Ext.refl _).drew)
    generalize wc.drew = V1 at *
    obtain ⟨n0, n1, n2⟩ := HM.out.c3 0 (b := nb) (by decide) rfl rfl
    obtain ⟨l0, l1, l2⟩ := HM.out.c3 1 (b := lb) (by decide) rfl rfl
    have ha := HM.out.el 0 (by decide) rfl HGK.out (sK_get HEM.out)
    have hb := HM.out.el 1 (by decide) rfl HGV.out (sV_get HEM.out)
    have hc1 := HM.out.el 3 (by decide) rfl HLK.out (sK_get HEX.out)
    have hd := HM.out.el 4 (by decide) rfl HLV.out (sV_get HEX.out)
    have hz := HM.out.fzs 0 (by decide) rfl HGK.out j
    have hz2 := HM.out.fzs 1 (by decide) rfl HGV.out j
    repeat (first | (refine plan_p rfl (fun K hK => ?_); go_simp; refine hK _ ?_; clear hK K) | (refine plan_l rfl (fun K hK => ?_); go_simp; refine hK _ ?_; clear hK K))
    refine plan_c rfl rfl (fun K _ hK => ?_)
    go_wp2_with fail
    replace HM := Lib.hid (HM.out.elem (i := 0) (by decide) HGK.out (str ex.1) hje)
    generalize V1.setCell ⟨gkb, j, none⟩ (str ex.1) = V2 at *
    clear n0 n1 n2 l0 l1 l2 ha hb hc1 hd hz hz2
    have hb := HM.out.el 1 (by decide) rfl HGV.out (sV_get HEM.out)
    have hz2 := HM.out.fzs 1 (by decide) rfl HGV.out j
    repeat (first | (refine plan_p rfl (fun K hK => ?_); go_simp; refine hK _ ?_; clear hK K) | (refine plan_l rfl (fun K hK => ?_); go_simp; refine hK _ ?_; clear hK K))
    refine plan_c rfl rfl (fun K _ hK => ?_)
    go_wp2_with fail
    replace HM := Lib.hid (HM.out.elem (i := 1) (by decide) HGV.out (.int .i64 ex.2) hje)
    refine plan_done ?_
    generalize V2.setCell ⟨gvb, j, none⟩ (.int .i64 ex.2) = V3 at *
    clear hb hz2 V1 V2
    have hLb : L ≤ bk := by have := HEL.out; omega
    have hLb2 : L ≤ bv := by have := HEL.out; omega
    replace HM := Lib.hid (HM.out.ext (Ext.refl _).drew)
    go_wp2
    refine region_calm [.p 0, .p 1, .p 2, .p 3, .p 4, .l 5, .p 6, .p 7, .p 8, .p 9, .p 10, .l 11, .p 12, .p 13, .p 14, .p 15, .h 16 false, .p 17, .p 18, .h 19 false] f_mixed (by kernel_rfl) (by kernel_rfl) ?_
    generalize V3.drew = V1 at *
    obtain ⟨l0, l1, l2⟩ := HM.out.c3 1 (b := lb) (by decide) rfl rfl
    have hz := HM.out.fz 1 (b := lb) (by decide) rfl 0
    have hz2 := HM.out.fz 1 (b := lb) (by decide) rfl 1
    repeat (first | (refine plan_p rfl (fun K hK => ?_); go_simp; refine hK _ ?_; clear hK K) | (refine plan_l rfl (fun K hK => ?_); go_simp; refine hK _ ?_; clear hK K))
    refine plan_c rfl rfl (fun K _ hK => ?_)
    go_wp2_with fail
    replace HM := Lib.hid ((HM.out.short (i := 3) (by decide) (k := L) (by show L ≤ el.length; have := HEL.out; omega)).short (i := 4) (by decide) (k := L) (by show L ≤ el.length; have := HEL.out; omega))
    replace HM := Lib.hid (show Mm _ _ _ _ _ _ _ (V1.setCell ⟨lb, 0, none⟩ (slv lk L bk)) from HM.out.head (i := 1) (by decide) 0 (slv lk L bk))
    clear l0 l1 l2 hz hz2
    generalize V1.setCell ⟨lb, 0, none⟩ (slv lk L bk) = V2 at *
    have hz2 := HM.out.fz 1 (b := lb) (by decide) rfl 1
    obtain ⟨l0, l1, l2⟩ := HM.out.c3 1 (b := lb) (by decide) rfl rfl
    repeat (first | (refine plan_p rfl (fun K hK => ?_); go_simp; refine hK _ ?_; clear hK K) | (refine plan_l rfl (fun K hK => ?_); go_simp; refine hK _ ?_; clear hK K))
    refine plan_c rfl rfl (fun K _ hK => ?_)
    go_wp2_with fail
    replace HM := Lib.hid (show Mm _ _ _ _ _ _ _ (V2.setCell ⟨lb, 1, none⟩ (slv lv L bv)) from HM.out.head (i := 1) (by decide) 1 (slv lv L bv))
    refine plan_done ?_
    generalize V2.setCell ⟨lb, 1, none⟩ (slv lv L bv) = V3 at *
    clear l0 l1 l2 hz2 V1 V2
    have hT : (el.take L).length = L := by rw [List.length_take]; have := HEL.out; omega
    have HLF : Hid (NodeAt V3 lb (el.take L) pl lk lv lc bk bv bc) := HM.out.node 1 (b := lb) (es := el.take L) (ps := pl) (by decide) (by decide) rfl rfl rfl rfl rfl hT.symm hT.symm rfl (sK_take el L).symm (sV_take el L).symm rfl
    clear hT
    rcases HPL.out with hp0 | hp0
    · have hp' : decide (pl = []) = true := decide_eq_true hp0
      go_wp2_with (first | (go_at_call 34; refine (leaf_ok HLF.out).mono ?_; rintro e w' ⟨rfl, rfl⟩))
      go_ret
      have hN := HM.out.node 0 (b := nb) (es := es.set j ex) (ps := ps) (by decide) (by decide) rfl rfl rfl rfl rfl (len_set es j ex) (len_set es j ex) rfl (sK_set es j ex).symm (sV_set es j ex).symm rfl
      have hK := HM.out.node 2 (b := kb) (es := em :: ek) (ps := pl.drop (L + 1) ++ pk) (by decide) (by decide) rfl rfl rfl rfl rfl rfl rfl (by show pk.length = _; simp [hp0]) rfl rfl (by show sP pk = _; simp [hp0])
      have hL := HLF.out
      have e1 : pl.take (L + 1) = pl := by simp [hp0]
      rw [e1]
      exact ⟨rfl, _, _, _, _, _, _, hN, hL, hK, HM.out.touch, HM.out.nd3 rfl rfl rfl rfl rfl rfl rfl rfl rfl rfl rfl rfl, HM.out.sub 2 (by decide) (by decide) rfl rfl rfl rfl⟩
    · have hp' : decide (pl = []) = false := decide_eq_false (fun e => by simp [e] at hp0)
      have hpL : pl.length = L + 2 := by have := HEL.out; omega
      obtain ⟨y, hy⟩ : ∃ y, pl[L + 1]? = some y := ⟨pl[L + 1]'(by omega), List.getElem?_eq_getElem _⟩
      obtain ⟨lcb, HLC⟩ : ∃ b, Hid (lc = some b) := HLF.out.kids.some_of_pos (by omega)
      have hlcc := HLF.out.kids.le
      have hcapL : L + 1 ≤ bc := by omega
      have hrlc := fun U => run_index_slv (P := Try.prog) ei_node (cap := bc) HLC.out (j := L + 1) (n := pl.length) (by omega) U
      have hcast : ((L + 1 : Nat) : Int) = (L : Int) + 1 := rfl
      rw [hcast] at hrlc
      have hwL1 : IntKind.i64.wrap ((L : Int) + 1) = (L : Int) + 1 := by rw [IntKind.wrap_i64]; omega
      have HY := Lib.hid hy; have HP0 := Lib.hid hp0; have HPL2 := Lib.hid hpL
      clear hp0 hy hcast hpL
      go_wp2_with (first | (go_at_call 34; refine (leaf_ok HLF.out).mono ?_; rintro e w' ⟨rfl, rfl⟩))
      refine region_calm [.p 0, .p 1, .p 2, .p 3, .l 4, .p 5, .p 6, .p 7, .l 8, .p 9, .p 10, .p 11, .l 12, .h 13 true, .h 14 false, .p 15, .p 16, .h 17 false] f_mixed (by kernel_rfl) (by kernel_rfl) ?_
      replace HM := Lib.hid (HM.out.ext (Ext.refl _).drew)
      generalize V3.drew = V1 at *
      obtain ⟨l0, l1, l2⟩ := HM.out.c3 1 (b := lb) (by decide) rfl rfl
      obtain ⟨k0, k1, k2⟩ := HM.out.c3 2 (b := kb) (by decide) rfl rfl
      have hc1 := HM.out.el 5 (by decide) rfl HLC.out (sP_get HY.out)
      repeat (first | (refine plan_p rfl (fun K hK => ?_); go_simp; refine hK _ ?_; clear hK K) | (refine plan_l rfl (fun K hK => ?_); go_simp; refine hK _ ?_; clear hK K))
      clear l0 l1 l2 k0 k1 k2 hc1
      refine plan_ct rfl rfl (fun K _ hK => ?_)
      go_wp2_with fail
      refine hK _ _ ((Ext.refl _).alloc _) ?_; clear hK K
      have HA : Hid ((V1.alloc (.cells #[.pointer (some ⟨y, 0, none⟩)] 78)).heap[V1.heap.size]? = some (.cells #[.pointer (some ⟨y, 0, none⟩)] 78 (0, 0))) := blk_new _ _
      have hna : hc ≠ some V1.heap.size := fun h => by have := HM.out.slt (i := 8) (by decide) h; omega
      replace HM := Lib.hid (HM.out.ext ((Ext.refl _).alloc (.cells #[.pointer (some ⟨y, 0, none⟩)] 78)))
      generalize V1.heap.size = ba at *
      generalize V1.alloc (.cells #[.pointer (some ⟨y, 0, none⟩)] 78) = V2 at *
      refine plan_c rfl rfl (fun K _ hK => ?_)
      go_wp2_with fail
      refine (InsN hc pk.length dc 0 ba 1 (sP pk) (.pointer (some ⟨y, 0, none⟩)) V2 (HM.out.sd 8 (by decide) rfl) HA.out hna (Nat.zero_le _) (sP_one pk) rfl (by omega)).mono ?_
      rintro e V4 ⟨gC, cC, rfl, hS, hT, hat⟩
      go_wp2_with fail
      replace HM := Lib.hid (HM.out.slice (i := 8) (by decide) hS hT (fun x hx => by cases hx; exact hat))
      clear hS hT hat HA
      obtain ⟨k0, k1, k2⟩ := HM.out.c3 2 (b := kb) (by decide) rfl rfl
      have hz := HM.out.fz 2 (b := kb) (by decide) rfl 2
      repeat (first | (refine plan_p rfl (fun K hK => ?_); go_simp; refine hK _ ?_; clear hK K) | (refine plan_l rfl (fun K hK => ?_); go_simp; refine hK _ ?_; clear hK K))
      refine plan_c rfl rfl (fun K _ hK => ?_)
      go_wp2_with fail
      replace HM := Lib.hid (show Mm _ _ _ _ _ _ _ (V4.setCell ⟨kb, 2, none⟩ (slv (some gC) (pk.length + 1) cC)) from HM.out.head (i := 2) (by decide) 2 (slv (some gC) (pk.length + 1) cC))
      refine plan_done ?_
      generalize V4.setCell ⟨kb, 2, none⟩ (slv (some gC) (pk.length + 1) cC) = V5 at *
      clear k0 k1 k2 hz
      obtain ⟨l0, l1, l2⟩ := HM.out.c3 1 (b := lb) (by decide) rfl rfl
      have hz := HM.out.fz 1 (b := lb) (by decide) rfl 2
      go_wp2
      go_ret
      replace HM := Lib.hid (HM.out.short (i := 5) (by decide) (k := L + 1) (by show L + 1 ≤ pl.length; have := HPL2.out; omega))
      replace HM := Lib.hid (show Mm _ _ _ _ _ _ _ (V5.setCell ⟨lb, 2, none⟩ (slv lc (L + 1) bc)) from HM.out.head (i := 1) (by decide) 2 (slv lc (L + 1) bc))
      have hT : L = (el.take L).length := by rw [List.length_take]; have := HEL.out; omega
      have hP : L + 1 = (pl.take (L + 1)).length := by rw [List.length_take]; have := HPL2.out; omega
      have hD : pl.drop (L + 1) = [y] := by
        obtain ⟨h1, h2⟩ := List.getElem?_eq_some_iff.1 HY.out
        rw [List.drop_eq_getElem_cons h1, h2, List.drop_eq_nil_of_le (by have := HPL2.out; omega)]
      rw [hD]
      have hN := HM.out.node 0 (b := nb) (es := es.set j ex) (ps := ps) (by decide) (by decide) rfl rfl rfl rfl rfl (len_set es j ex) (len_set es j ex) rfl (sK_set es j ex).symm (sV_set es j ex).symm rfl
      have hL := HM.out.node 1 (b := lb) (es := el.take L) (ps := pl.take (L + 1)) (by decide) (by decide) rfl rfl rfl rfl rfl hT hT hP (sK_take el L).symm (sV_take el L).symm (sP_take pl (L + 1)).symm
      have hK := HM.out.node 2 (b := kb) (es := em :: ek) (ps := [y] ++ pk) (by decide) (by decide) rfl rfl rfl rfl rfl rfl rfl rfl rfl rfl rfl
      exact ⟨rfl, _, _, _, _, _, _, hN, hL, hK, HM.out.touch, HM.out.nd3 rfl rfl rfl rfl rfl rfl rfl rfl rfl rfl rfl rfl, HM.out.sub 2 (by decide) (by decide) rfl rfl rfl rfl⟩
end Go.Proofs.Ytkejjahlglldlaa
