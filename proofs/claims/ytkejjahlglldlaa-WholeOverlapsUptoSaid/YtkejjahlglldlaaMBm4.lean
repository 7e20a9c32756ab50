/- fill: the kid takes a key (and a kid) of the node behind it: walked. -/
import Derived.Test.YtkejjahlglldlaaMBm3
namespace Go.Proofs.Ytkejjahlglldlaa
open Go.RowKit Go.Lib

/-- The node ahead has no key to spare (or there is none). -/
def NoLeft (w : World) (m i : Nat) (ps : List Nat) : Prop := ∀ j, i = j + 1 → ∃ (lb n c : Nat) (g : Option Nat) (v1 v2 : Value), ps[j]? = some lb ∧ w.heap[lb]? = some (.cells #[slv g n c, v1, v2] 82 (0, 0)) ∧ n < m ∧ n ≤ 127
theorem NoLeft.ext {w w' : World} {m i : Nat} {ps : List Nat} (h : NoLeft w m i ps) (he : Ext w w') : NoLeft w' m i ps := fun j hj => by
  obtain ⟨lb, n, c, g, v1, v2, h1, h2, h3⟩ := h j hj
  exact ⟨lb, n, c, g, v1, v2, h1, Ext.block he h2, h3⟩

set_option maxRecDepth 100000 in
set_option maxHeartbeats 16000000 in
theorem fillC_ok (tb nb kb rb m i : Nat) (tr tc : Value) (es ek er : List Ent) (em ex : Ent) (ps pk pr : List Nat) (gk gv gc hk hv hc rk rv rc : Option Nat) (ck cv cc dk dv dc fk fv fc : Nat) (w : World)
    (hB : w.heap[tb]? = some (.cells #[.int .i64 (m : Int), tr, tc] 84 (0, 0))) (hN : NodeAt w nb es ps gk gv gc ck cv cc) (hK : NodeAt w kb ek pk hk hv hc dk dv dc) (hR : NodeAt w rb er pr rk rv rc fk fv fc)
    (hnd : (ownL nb gk gv gc ++ (ownL kb hk hv hc ++ ownL rb rk rv rc)).Nodup) (hno : NoLeft w m i ps)
    (hki : ps[i]? = some kb) (hri : ps[i + 1]? = some rb) (hem : es[i]? = some em) (hex : er[0]? = some ex) (hpr : pr = [] ∨ pr.length = er.length + 1)
    (hm : m ≤ 64) (hek : ek.length < m) (her2 : m ≤ er.length) (hl1 : es.length ≤ 127) (hl2 : ps.length ≤ 128) (hl3 : er.length ≤ 127) (hl4 : pr.length ≤ 128) (hl5 : ek.length ≤ 127) (hl6 : pk.length ≤ 128) :
    Calls Try.prog 112 #[.pointer (some ⟨tb, 0, none⟩), .pointer (some ⟨nb, 0, none⟩), .int .i64 (i : Int)] w fun e w' => e = .returned (.pointer (some ⟨kb, 0, none⟩)) ∧
      ∃ hk' hv' hc' dk' dv' dc', NodeAt w' nb (es.set i ex) ps gk gv gc ck cv cc ∧ NodeAt w' kb (ek ++ [em]) (pk ++ pr.take 1) hk' hv' hc' dk' dv' dc' ∧ NodeAt w' rb (er.drop 1) (pr.drop 1) rk rv rc fk fv fc ∧
        Touch (fun k => k ∈ ownL nb gk gv gc ++ (ownL kb hk hv hc ++ ownL rb rk rv rc)) w w' ∧ (ownL nb gk gv gc ++ (ownL kb hk' hv' hc' ++ ownL rb rk rv rc)).Nodup ∧
        ∀ x ∈ ownL kb hk' hv' hc', x ∈ ownL nb gk gv gc ++ (ownL kb hk hv hc ++ ownL rb rk rv rc) ∨ w.heap.size ≤ x := by
  have hip : i + 1 < ps.length := (List.getElem?_eq_some_iff.1 hri).1
  have hie : i < es.length := (List.getElem?_eq_some_iff.1 hem).1
  have HM := Lib.hid (Mm.start3 hN hK hR hnd)
  obtain ⟨gkb, HGK⟩ : ∃ b, Hid (gk = some b) := hN.keys.some_of_pos (by omega)
  obtain ⟨gvb, HGV⟩ : ∃ b, Hid (gv = some b) := hN.vals.some_of_pos (by omega)
  obtain ⟨gcb, HGC⟩ : ∃ b, Hid (gc = some b) := hN.kids.some_of_pos (by omega)
  have her0 : 0 < er.length := (List.getElem?_eq_some_iff.1 hex).1
  obtain ⟨rkb, HRK⟩ : ∃ b, Hid (rk = some b) := hR.keys.some_of_pos her0
  obtain ⟨rvb, HRV⟩ : ∃ b, Hid (rv = some b) := hR.vals.some_of_pos her0
  have HB2 := Lib.hid (show ∀ W, Ext w W → W.heap[tb]? = some (.cells #[.int .i64 (m : Int), tr, tc] 84 (0, 0)) from fun W hE => Ext.block hE hB)
  have HB := Lib.hid hB; have HKI := Lib.hid hki; have HRI := Lib.hid hri; have HEM := Lib.hid hem; have HEX := Lib.hid hex; have HPR := Lib.hid hpr; have HNO := Lib.hid hno
  clear hB hN hR hK hki hri hem hex hpr hnd hno
  have hA : decide ((m : Int) - 1 < (ek.length : Int)) = false := decide_eq_false (by omega)
  have hA3 : decide ((m : Int) - 1 < (er.length : Int)) = true := decide_eq_true (by omega)
  have hA4 : decide (i < es.length) = true := decide_eq_true hie
  have hwi : IntKind.i64.wrap ((i : Int) + 1) = (i : Int) + 1 := by rw [IntKind.wrap_i64]; omega
  have hrc := fun U => run_index_slv (P := Try.prog) ei_node (cap := cc) HGC.out (j := i) (n := ps.length) (by omega) U
  have hrc2 := fun U => run_index_slv (P := Try.prog) ei_node (cap := cc) HGC.out (j := i + 1) (n := ps.length) (by omega) U
  have hcast : ((i + 1 : Nat) : Int) = (i : Int) + 1 := rfl
  rw [hcast] at hrc2
  clear hcast
  have hrk := fun U => run_index_slv (P := Try.prog) ei_string (cap := ck) HGK.out (j := i) (n := es.length) hie U
  have hrv := fun U => run_index_slv (P := Try.prog) ei_int64 (cap := cv) HGV.out (j := i) (n := es.length) hie U
  have hrl : ∀ U, (Instr.indexAt 79 (slv rk er.length fk) (.int .i64 0)).run Try.prog U = .ok (.pointer (some ⟨rkb, 0, none⟩)) U := fun U => run_index_slv (P := Try.prog) ei_string (cap := fk) HRK.out (j := 0) (n := er.length) her0 U
  have hrlv : ∀ U, (Instr.indexAt 46 (slv rv er.length fv) (.int .i64 0)).run Try.prog U = .ok (.pointer (some ⟨rvb, 0, none⟩)) U := fun U => run_index_slv (P := Try.prog) ei_int64 (cap := fv) HRV.out (j := 0) (n := er.length) her0 U
  obtain ⟨t0, -, -⟩ := blk3 HB.out
  obtain ⟨n0, n1, n2⟩ := HM.out.c3 0 (b := nb) (by decide) rfl rfl
  obtain ⟨k0, k1, k2⟩ := HM.out.c3 1 (b := kb) (by decide) rfl rfl
  obtain ⟨r0, r1, r2⟩ := HM.out.c3 2 (b := rb) (by decide) rfl rfl
  have hc1 := HM.out.el 2 (by decide) rfl HGC.out (sP_get HKI.out)
  have hc2 := HM.out.el 2 (by decide) rfl HGC.out (sP_get HRI.out)
  go_enter Try.func112, Try.ntmps112
  go_wp2
  refine region_calm [.p 0, .p 1, .p 2, .l 3, .p 4, .p 5, .p 6, .p 7, .l 8, .h 9 true, .p 10] f_mixed (by kernel_rfl) (by kernel_rfl) ?_
  repeat (first | (refine plan_p rfl (fun K hK => ?_); go_simp; refine hK _ ?_; clear hK K) | (refine plan_l rfl (fun K hK => ?_); go_simp; refine hK _ ?_; clear hK K))
  refine plan_ct rfl rfl (fun K _ hK => ?_)
  go_wp2_with fail
  refine (least_ok m hm _).mono ?_
  rintro e W1 ⟨rfl, hE1⟩
  go_wp2
  refine hK _ _ (hE1) ?_; clear hK K
  repeat (first | (refine plan_p rfl (fun K hK => ?_); go_simp; refine hK _ ?_; clear hK K) | (refine plan_l rfl (fun K hK => ?_); go_simp; refine hK _ ?_; clear hK K))
  refine plan_done ?_
  clear t0 n0 n1 n2 k0 k1 k2 hc1 r0 r1 r2 hc2
  have HE1 := Lib.hid ((Ext.refl w).drew.trans hE1)
  replace HM := Lib.hid (HM.out.ext HE1.out)
  replace HB := Lib.hid (HB2.out W1 HE1.out)
  replace HNO := Lib.hid (HNO.out.ext HE1.out)
  clear hE1
  go_upto_region 4 with fail
  go_cut [51] from 30 to 50 (fun v51 wc => v51 = .bool false ∧ Ext W1 wc)
  case first =>
    by_cases hpos : 0 < i
    · obtain ⟨j, hij⟩ : ∃ j, i = j + 1 := ⟨i - 1, by omega⟩
      obtain ⟨lb, n, c, g, v1, v2, h1, h2, h3, h4⟩ := HNO.out j hij
      have hA2 : decide (0 < i) = true := decide_eq_true hpos
      have hA5 : decide ((m : Int) - 1 < (n : Int)) = false := decide_eq_false (by omega)
      have hji : (i : Int) - 1 = (j : Int) := by omega
      have hwj : IntKind.i64.wrap (j : Int) = (j : Int) := by rw [IntKind.wrap_i64]; omega
      have hrcj := fun U => run_index_slv (P := Try.prog) ei_node (cap := cc) HGC.out (j := j) (n := ps.length) (by omega) U
      have HIJ := Lib.hid hij
      have H2 := Lib.hid h2
      have HLI := Lib.hid h1
      clear hij h1 h2 hpos
      refine region_calm [.p 0, .p 1, .p 2, .p 3, .p 4, .p 5, .l 6, .p 7, .p 8, .p 9, .l 10, .p 11, .p 12, .l 13, .p 14, .p 15, .p 16, .p 17, .l 18, .h 19 true, .p 20, .p 21] f_mixed (by kernel_rfl) (by kernel_rfl) ?_
      have hEd : Ext W1 W1.drew := (Ext.refl _).drew
      replace HM := Lib.hid (HM.out.ext hEd)
      replace HB := Lib.hid (Ext.block hEd HB.out)
      replace H2 := Lib.hid (Ext.block hEd H2.out)
      generalize W1.drew = V1 at *
      obtain ⟨t0, -, -⟩ := blk3 HB.out
      obtain ⟨n0, n1, n2⟩ := HM.out.c3 0 (b := nb) (by decide) rfl rfl
      obtain ⟨l0, -, -⟩ := blk3 H2.out
      have hc2 := HM.out.el 2 (by decide) rfl HGC.out (sP_get HLI.out)
      repeat (first | (refine plan_p rfl (fun K hK => ?_); go_simp; refine hK _ ?_; clear hK K) | (refine plan_l rfl (fun K hK => ?_); go_simp; refine hK _ ?_; clear hK K))
      refine plan_t rfl (fun K hK => ?_)
      go_wp2_with fail
      refine (least_ok m hm _).mono ?_
      rintro e W2 ⟨rfl, hE2⟩
      go_wp2
      refine hK _ _ (hE2) ?_; clear hK K
      repeat (first | (refine plan_p rfl (fun K hK => ?_); go_simp; refine hK _ ?_; clear hK K) | (refine plan_l rfl (fun K hK => ?_); go_simp; refine hK _ ?_; clear hK K))
      refine plan_done ?_
      go_wp2
      go_meet
      case rel => exact ⟨rfl, hEd.trans hE2⟩
    · have hA2 : decide (0 < i) = false := decide_eq_false hpos
      clear hpos
      refine region_calm [.p 0, .p 1, .p 2, .p 3, .p 4, .p 5, .l 6, .p 7, .p 8, .p 9, .l 10, .p 11, .p 12, .l 13, .p 14, .p 15, .p 16, .p 17, .l 18, .h 19 true, .p 20, .p 21] f_mixed (by kernel_rfl) (by kernel_rfl) ?_
      have hEd : Ext W1 W1.drew := (Ext.refl _).drew
      generalize W1.drew = V1 at *
      repeat (first | (refine plan_p rfl (fun K hK => ?_); go_simp; refine hK _ ?_; clear hK K) | (refine plan_l rfl (fun K hK => ?_); go_simp; refine hK _ ?_; clear hK K))
      refine plan_t rfl (fun K hK => ?_)
      go_wp2
      refine hK _ _ (Ext.refl _) ?_; clear hK K
      repeat (first | (refine plan_p rfl (fun K hK => ?_); go_simp; refine hK _ ?_; clear hK K) | (refine plan_l rfl (fun K hK => ?_); go_simp; refine hK _ ?_; clear hK K))
      refine plan_done ?_
      go_wp2
      go_meet
      case rel => exact ⟨rfl, hEd⟩
  case rest =>
    obtain ⟨rfl, hE2⟩ := hcut
    replace HM := Lib.hid (HM.out.ext hE2)
    replace HB := Lib.hid (Ext.block hE2 HB.out)
    clear hE2 HNO HB2 HE1
    go_upto_region 14 with fail
    refine region_calm [.p 0, .p 1, .p 2, .p 3, .l 4, .p 5, .p 6, .p 7, .p 8, .p 9, .p 10, .l 11, .p 12, .p 13, .p 14, .l 15, .p 16, .p 17, .l 18, .p 19, .p 20, .p 21, .p 22, .l 23, .h 24 true, .p 25, .p 26] f_mixed (by kernel_rfl) (by kernel_rfl) ?_
    replace HM := Lib.hid (HM.out.ext (Ext.refl _).drew)
    replace HB := Lib.hid (Ext.block (Ext.refl wc).drew HB.out)
    generalize wc.drew = V1 at *
    obtain ⟨t0, -, -⟩ := blk3 HB.out
    obtain ⟨n0, n1, n2⟩ := HM.out.c3 0 (b := nb) (by decide) rfl rfl
    obtain ⟨r0, r1, r2⟩ := HM.out.c3 2 (b := rb) (by decide) rfl rfl
    have hc2 := HM.out.el 2 (by decide) rfl HGC.out (sP_get HRI.out)
    repeat (first | (refine plan_p rfl (fun K hK => ?_); go_simp; refine hK _ ?_; clear hK K) | (refine plan_l rfl (fun K hK => ?_); go_simp; refine hK _ ?_; clear hK K))
    refine plan_t rfl (fun K hK => ?_)
    go_wp2_with fail
    refine (least_ok m hm _).mono ?_
    rintro e W2 ⟨rfl, hE2⟩
    go_wp2
    refine hK _ _ (hE2) ?_; clear hK K
    repeat (first | (refine plan_p rfl (fun K hK => ?_); go_simp; refine hK _ ?_; clear hK K) | (refine plan_l rfl (fun K hK => ?_); go_simp; refine hK _ ?_; clear hK K))
    refine plan_done ?_
    clear t0 n0 n1 n2 r0 r1 r2 hc2 HB
    replace HM := Lib.hid (HM.out.ext hE2)
    clear hE2 V1
    obtain ⟨n0, n1, n2⟩ := HM.out.c3 0 (b := nb) (by decide) rfl rfl
    have hc2 := HM.out.el 2 (by decide) rfl HGC.out (sP_get HRI.out)
    go_upto_region 16 with fail
    clear n0 n1 n2 hc2
    go_cut [] from 212 to 243 (fun wc => ∃ gK cK gV cV, Mm w (fun k => k ∈ ownL nb gk gv gc ++ (ownL kb hk hv hc ++ ownL rb rk rv rc)) 3 9 (hd3 nb kb rb) (hc3 (hcN gk gv gc es.length ps.length ck cv cc) (hcN (some gK) (some gV) hc (ek.length + 1) pk.length cK cV dc) (hcN rk rv rc er.length pr.length fk fv fc))
      (s9 (sdK es gk ck) (sdV es gv cv) (sdP ps gc cc) ⟨9, some gK, ek.length + 1, cK, sK ek ++ [str em.1]⟩ ⟨2, some gV, ek.length + 1, cV, sV ek ++ [.int .i64 em.2]⟩ (sdP pk hc dc) (sdK er rk fk) (sdV er rv fv) (sdP pr rc fc)) wc)
    case first =>
      letI : Tch.TS := ⟨fun k => hk = some k⟩
      replace HM := Lib.hid (HM.out.ext (Ext.refl _).drew)
      refine Tch.region_fork (.fork [.p 0, .p 1, .p 2, .p 3, .p 4, .e 5, .p 6, .p 7, .p 8, .e 9, .p 10, .p 11, .e 12, .p 15, .p 16, .p 17, .e 18, .p 19, .p 20, .p 21, .e 22, .p 23, .p 24, .e 25] 13 true (.fork [] 14 true (.leaf [.h 26 true, .h 27 false, .p 28, .p 29, .h 30 false, .p 31, .p 32, .h 33 false]) 26 true (.leaf [.h 14 true, .h 27 false, .p 28, .p 29, .h 30 false, .p 31, .p 32, .h 33 false])) 26 true (.leaf [.h 13 true, .h 14 true, .h 27 false, .p 28, .p 29, .h 30 false, .p 31, .p 32, .h 33 false])) f_mixed (by kernel_rfl) ?_
      refine Tch.fork_split ?_
      generalize W2.drew = V0 at *
      repeat (refine Tch.plan_p rfl (fun K hK => ?_); go_simp; refine hK _ ?_; clear hK K)
      refine Tch.plan_e1 rfl rfl ((slv hk ek.length dk)) (fun w' he => ?_) (fun K hK => ?_)
      · obtain ⟨k0, k1, k2⟩ := HM.out.c3t (j := 3) (by decide) rfl he 1 (b := kb) (by decide) rfl rfl
        go_simp
      go_simp; refine hK _ ?_; clear hK K
      repeat (refine Tch.plan_p rfl (fun K hK => ?_); go_simp; refine hK _ ?_; clear hK K)
      refine Tch.plan_e1 rfl rfl ((slv gk es.length ck)) (fun w' he => ?_) (fun K hK => ?_)
      · obtain ⟨k0, k1, k2⟩ := HM.out.c3t (j := 3) (by decide) rfl he 0 (b := nb) (by decide) rfl rfl
        go_simp
      go_simp; refine hK _ ?_; clear hK K
      repeat (refine Tch.plan_p rfl (fun K hK => ?_); go_simp; refine hK _ ?_; clear hK K)
      refine Tch.plan_e1 rfl rfl ((str em.1)) (fun w' he => ?_) (fun K hK => ?_)
      · have hc := HM.out.elt (j := 3) (by decide) rfl he 0 (by decide) (by decide) rfl HGK.out (sK_get HEM.out)
        go_simp
      go_simp; refine hK _ ?_; clear hK K
      repeat (refine Tch.plan_p rfl (fun K hK => ?_); go_simp; refine hK _ ?_; clear hK K)
      refine Tch.plan_e1 rfl rfl ((slv hv ek.length dv)) (fun w' he => ?_) (fun K hK => ?_)
      · obtain ⟨k0, k1, k2⟩ := HM.out.c3t (j := 3) (by decide) rfl he 1 (b := kb) (by decide) rfl rfl
        go_simp
      go_simp; refine hK _ ?_; clear hK K
      repeat (refine Tch.plan_p rfl (fun K hK => ?_); go_simp; refine hK _ ?_; clear hK K)
      refine Tch.plan_e1 rfl rfl ((slv gv es.length cv)) (fun w' he => ?_) (fun K hK => ?_)
      · obtain ⟨k0, k1, k2⟩ := HM.out.c3t (j := 3) (by decide) rfl he 0 (b := nb) (by decide) rfl rfl
        go_simp
      go_simp; refine hK _ ?_; clear hK K
      repeat (refine Tch.plan_p rfl (fun K hK => ?_); go_simp; refine hK _ ?_; clear hK K)
      refine Tch.plan_e1 rfl rfl ((Value.int .i64 em.2)) (fun w' he => ?_) (fun K hK => ?_)
      · have hc := HM.out.elt (j := 3) (by decide) rfl he 1 (by decide) (by decide) rfl HGV.out (sV_get HEM.out)
        go_simp
      go_simp; refine hK _ ?_; clear hK K
      repeat (refine Tch.plan_p rfl (fun K hK => ?_); go_simp; refine hK _ ?_; clear hK K)
      refine Tch.fork_end ?_ ?_
      · refine Tch.fork_t rfl (fun K hK => ?_)
        go_wp2_with fail
        refine hK _ _ (((Ext.refl _).alloc _).touch _) ?_; clear hK K
        have HA : Hid ((V0.alloc (.cells #[str em.1] 9)).heap[V0.heap.size]? = some (.cells #[str em.1] 9 (0, 0))) := blk_new _ _
        replace HM := Lib.hid (HM.out.ext ((Ext.refl _).alloc (.cells #[str em.1] 9)))
        skip
        generalize V0.heap.size = ba at *
        generalize V0.alloc (.cells #[str em.1] 9) = V1 at *
        refine Tch.fork_now ?_ ?_
        · refine Tch.fork_t rfl (fun K hK => ?_)
          refine app_lit ei_string rfl (.tmp 217) (.tmp 225) rfl (g := hk) (n := ek.length) (cap := dk) (xs := sK ek) (b := ba) (by rfl) (HM.out.sd 3 (by decide) rfl) (by rfl) (news := [str em.1]) rfl HA.out (by intro u hu; simp at hu; subst hu; rfl) (by omega) (by omega) ?_
          intro gK cK V2 hS hT hat
          go_wp2_with fail
          refine hK _ _ hT ?_; clear hK K
          skip
          replace HM := Lib.hid (HM.out.slice (i := 3) (by decide) hS hT (fun x hx => by
            cases hx
            rcases hat with h | h
            · exact .inl h
            · exact .inr (by rw [h]; exact Nat.le_refl _)))
          clear hS hT hat
          refine Tch.fork_leaf ?_
          refine Tch.plan_ct rfl rfl (fun K _ hK => ?_)
          go_wp2_with fail
          refine hK _ _ (((Ext.refl _).alloc _).touch _) ?_; clear hK K
          have HV : Hid ((V2.alloc (.cells #[.int .i64 em.2] 2)).heap[V2.heap.size]? = some (.cells #[.int .i64 em.2] 2 (0, 0))) := blk_new _ _
          skip
          replace HM := Lib.hid (HM.out.ext ((Ext.refl _).alloc (.cells #[.int .i64 em.2] 2)))
          skip
          generalize V2.heap.size = bv at *
          generalize V2.alloc (.cells #[.int .i64 em.2] 2) = V3 at *
          refine Tch.plan_c rfl rfl (fun K _ hK => ?_)
          refine app_lit ei_int64 rfl (.tmp 230) (.tmp 238) rfl (g := hv) (n := ek.length) (cap := dv) (xs := sV ek) (b := bv) (by rfl) (HM.out.sd 4 (by decide) rfl) (by rfl) (news := [.int .i64 em.2]) rfl HV.out (by intro u hu; simp at hu; subst hu; rfl) (by omega) (by omega) ?_
          intro gV cV V4 hS hT hat
          go_wp2_with fail
          replace HM := Lib.hid (HM.out.slice (i := 4) (by decide) hS hT (fun x hx => by
            cases hx
            rcases hat with h | h
            · exact .inl h
            · exact .inr (by rw [h]; exact Nat.le_refl _)))
          clear hS hT hat
          obtain ⟨k0, k1, k2⟩ := HM.out.c3 1 (b := kb) (by decide) rfl rfl
          have hz := HM.out.fz 1 (b := kb) (by decide) rfl 0
          repeat (refine Tch.plan_p rfl (fun K hK => ?_); go_simp; refine hK _ ?_; clear hK K)
          refine Tch.plan_c rfl rfl (fun K _ hK => ?_)
          go_wp2_with fail
          clear k0 k1 k2 hz
          replace HM := Lib.hid (show Mm _ _ _ _ _ _ _ (V4.setCell ⟨kb, 0, none⟩ (.slice (some ⟨gK, 0, none⟩) (ek.length + 1) cK)) from HM.out.head (i := 1) (by decide) 0 (slv (some gK) (ek.length + 1) cK))
          generalize V4.setCell ⟨kb, 0, none⟩ (.slice (some ⟨gK, 0, none⟩) (ek.length + 1) cK) = V5 at *
          have hz := HM.out.fz 1 (b := kb) (by decide) rfl 1
          obtain ⟨k0, k1, k2⟩ := HM.out.c3 1 (b := kb) (by decide) rfl rfl
          repeat (refine Tch.plan_p rfl (fun K hK => ?_); go_simp; refine hK _ ?_; clear hK K)
          refine Tch.plan_c rfl rfl (fun K _ hK => ?_)
          go_wp2_with fail
          clear k0 k1 k2 hz
          replace HM := Lib.hid (show Mm _ _ _ _ _ _ _ (V5.setCell ⟨kb, 1, none⟩ (.slice (some ⟨gV, 0, none⟩) (ek.length + 1) cV)) from HM.out.head (i := 1) (by decide) 1 (slv (some gV) (ek.length + 1) cV))
          refine tch_done ?_
          go_wp2_with fail
          go_meet
          case rel => exact ⟨gK, cK, gV, cV, HM.out.conv rfl rfl rfl rfl rfl rfl rfl rfl rfl rfl rfl rfl⟩
        · refine Tch.fork_t rfl (fun K hK => ?_)
          go_wp2_with fail
          refine hK _ _ (((Ext.refl _).alloc _).touch _) ?_; clear hK K
          have HV : Hid ((V1.alloc (.cells #[.int .i64 em.2] 2)).heap[V1.heap.size]? = some (.cells #[.int .i64 em.2] 2 (0, 0))) := blk_new _ _
          (have hnv2 : hk ≠ some V1.heap.size := fun h => by have := HM.out.slt (i := 3) (by decide) h; omega)
          replace HM := Lib.hid (HM.out.ext ((Ext.refl _).alloc (.cells #[.int .i64 em.2] 2)))
          (replace HA := Lib.hid (blk_alloc (o' := .cells #[.int .i64 em.2] 2) HA.out))
          generalize V1.heap.size = bv at *
          generalize V1.alloc (.cells #[.int .i64 em.2] 2) = V2 at *
          refine Tch.fork_leaf ?_
          refine Tch.plan_ct rfl rfl (fun K _ hK => ?_)
          refine app_lit ei_string rfl (.tmp 217) (.tmp 225) rfl (g := hk) (n := ek.length) (cap := dk) (xs := sK ek) (b := ba) (by rfl) (HM.out.sd 3 (by decide) rfl) (by rfl) (news := [str em.1]) rfl HA.out (by intro u hu; simp at hu; subst hu; rfl) (by omega) (by omega) ?_
          intro gK cK V3 hS hT hat
          go_wp2_with fail
          refine hK _ _ hT ?_; clear hK K
          (replace HV := Lib.hid (hT.old HV.out hnv2))
          replace HM := Lib.hid (HM.out.slice (i := 3) (by decide) hS hT (fun x hx => by
            cases hx
            rcases hat with h | h
            · exact .inl h
            · exact .inr (by rw [h]; exact Nat.le_refl _)))
          clear hS hT hat
          refine Tch.plan_c rfl rfl (fun K _ hK => ?_)
          refine app_lit ei_int64 rfl (.tmp 230) (.tmp 238) rfl (g := hv) (n := ek.length) (cap := dv) (xs := sV ek) (b := bv) (by rfl) (HM.out.sd 4 (by decide) rfl) (by rfl) (news := [.int .i64 em.2]) rfl HV.out (by intro u hu; simp at hu; subst hu; rfl) (by omega) (by omega) ?_
          intro gV cV V4 hS hT hat
          go_wp2_with fail
          replace HM := Lib.hid (HM.out.slice (i := 4) (by decide) hS hT (fun x hx => by
            cases hx
            rcases hat with h | h
            · exact .inl h
            · exact .inr (by rw [h]; exact Nat.le_refl _)))
          clear hS hT hat
          obtain ⟨k0, k1, k2⟩ := HM.out.c3 1 (b := kb) (by decide) rfl rfl
          have hz := HM.out.fz 1 (b := kb) (by decide) rfl 0
          repeat (refine Tch.plan_p rfl (fun K hK => ?_); go_simp; refine hK _ ?_; clear hK K)
          refine Tch.plan_c rfl rfl (fun K _ hK => ?_)
          go_wp2_with fail
          clear k0 k1 k2 hz
          replace HM := Lib.hid (show Mm _ _ _ _ _ _ _ (V4.setCell ⟨kb, 0, none⟩ (.slice (some ⟨gK, 0, none⟩) (ek.length + 1) cK)) from HM.out.head (i := 1) (by decide) 0 (slv (some gK) (ek.length + 1) cK))
          generalize V4.setCell ⟨kb, 0, none⟩ (.slice (some ⟨gK, 0, none⟩) (ek.length + 1) cK) = V5 at *
          have hz := HM.out.fz 1 (b := kb) (by decide) rfl 1
          obtain ⟨k0, k1, k2⟩ := HM.out.c3 1 (b := kb) (by decide) rfl rfl
          repeat (refine Tch.plan_p rfl (fun K hK => ?_); go_simp; refine hK _ ?_; clear hK K)
          refine Tch.plan_c rfl rfl (fun K _ hK => ?_)
          go_wp2_with fail
          clear k0 k1 k2 hz
          replace HM := Lib.hid (show Mm _ _ _ _ _ _ _ (V5.setCell ⟨kb, 1, none⟩ (.slice (some ⟨gV, 0, none⟩) (ek.length + 1) cV)) from HM.out.head (i := 1) (by decide) 1 (slv (some gV) (ek.length + 1) cV))
          refine tch_done ?_
          go_wp2_with fail
          go_meet
          case rel => exact ⟨gK, cK, gV, cV, HM.out.conv rfl rfl rfl rfl rfl rfl rfl rfl rfl rfl rfl rfl⟩
      · refine Tch.fork_t rfl (fun K hK => ?_)
        go_wp2_with fail
        refine hK _ _ (((Ext.refl _).alloc _).touch _) ?_; clear hK K
        have HV : Hid ((V0.alloc (.cells #[.int .i64 em.2] 2)).heap[V0.heap.size]? = some (.cells #[.int .i64 em.2] 2 (0, 0))) := blk_new _ _
        (have hnv2 : hk ≠ some V0.heap.size := fun h => by have := HM.out.slt (i := 3) (by decide) h; omega)
        replace HM := Lib.hid (HM.out.ext ((Ext.refl _).alloc (.cells #[.int .i64 em.2] 2)))
        skip
        generalize V0.heap.size = bv at *
        generalize V0.alloc (.cells #[.int .i64 em.2] 2) = V1 at *
        refine Tch.fork_leaf ?_
        refine Tch.plan_ct rfl rfl (fun K _ hK => ?_)
        go_wp2_with fail
        refine hK _ _ (((Ext.refl _).alloc _).touch _) ?_; clear hK K
        have HA : Hid ((V1.alloc (.cells #[str em.1] 9)).heap[V1.heap.size]? = some (.cells #[str em.1] 9 (0, 0))) := blk_new _ _
        replace HM := Lib.hid (HM.out.ext ((Ext.refl _).alloc (.cells #[str em.1] 9)))
        (replace HV := Lib.hid (blk_alloc (o' := .cells #[str em.1] 9) HV.out))
        generalize V1.heap.size = ba at *
        generalize V1.alloc (.cells #[str em.1] 9) = V2 at *
        refine Tch.plan_ct rfl rfl (fun K _ hK => ?_)
        refine app_lit ei_string rfl (.tmp 217) (.tmp 225) rfl (g := hk) (n := ek.length) (cap := dk) (xs := sK ek) (b := ba) (by rfl) (HM.out.sd 3 (by decide) rfl) (by rfl) (news := [str em.1]) rfl HA.out (by intro u hu; simp at hu; subst hu; rfl) (by omega) (by omega) ?_
        intro gK cK V3 hS hT hat
        go_wp2_with fail
        refine hK _ _ hT ?_; clear hK K
        (replace HV := Lib.hid (hT.old HV.out hnv2))
        replace HM := Lib.hid (HM.out.slice (i := 3) (by decide) hS hT (fun x hx => by
          cases hx
          rcases hat with h | h
          · exact .inl h
          · exact .inr (by rw [h]; exact Nat.le_refl _)))
        clear hS hT hat
        refine Tch.plan_c rfl rfl (fun K _ hK => ?_)
        refine app_lit ei_int64 rfl (.tmp 230) (.tmp 238) rfl (g := hv) (n := ek.length) (cap := dv) (xs := sV ek) (b := bv) (by rfl) (HM.out.sd 4 (by decide) rfl) (by rfl) (news := [.int .i64 em.2]) rfl HV.out (by intro u hu; simp at hu; subst hu; rfl) (by omega) (by omega) ?_
        intro gV cV V4 hS hT hat
        go_wp2_with fail
        replace HM := Lib.hid (HM.out.slice (i := 4) (by decide) hS hT (fun x hx => by
          cases hx
          rcases hat with h | h
          · exact .inl h
          · exact .inr (by rw [h]; exact Nat.le_refl _)))
        clear hS hT hat
        obtain ⟨k0, k1, k2⟩ := HM.out.c3 1 (b := kb) (by decide) rfl rfl
        have hz := HM.out.fz 1 (b := kb) (by decide) rfl 0
        repeat (refine Tch.plan_p rfl (fun K hK => ?_); go_simp; refine hK _ ?_; clear hK K)
        refine Tch.plan_c rfl rfl (fun K _ hK => ?_)
        go_wp2_with fail
        clear k0 k1 k2 hz
        replace HM := Lib.hid (show Mm _ _ _ _ _ _ _ (V4.setCell ⟨kb, 0, none⟩ (.slice (some ⟨gK, 0, none⟩) (ek.length + 1) cK)) from HM.out.head (i := 1) (by decide) 0 (slv (some gK) (ek.length + 1) cK))
        generalize V4.setCell ⟨kb, 0, none⟩ (.slice (some ⟨gK, 0, none⟩) (ek.length + 1) cK) = V5 at *
        have hz := HM.out.fz 1 (b := kb) (by decide) rfl 1
        obtain ⟨k0, k1, k2⟩ := HM.out.c3 1 (b := kb) (by decide) rfl rfl
        repeat (refine Tch.plan_p rfl (fun K hK => ?_); go_simp; refine hK _ ?_; clear hK K)
        refine Tch.plan_c rfl rfl (fun K _ hK => ?_)
        go_wp2_with fail
        clear k0 k1 k2 hz
        replace HM := Lib.hid (show Mm _ _ _ _ _ _ _ (V5.setCell ⟨kb, 1, none⟩ (.slice (some ⟨gV, 0, none⟩) (ek.length + 1) cV)) from HM.out.head (i := 1) (by decide) 1 (slv (some gV) (ek.length + 1) cV))
        refine tch_done ?_
        go_wp2_with fail
        go_meet
        case rel => exact ⟨gK, cK, gV, cV, HM.out.conv rfl rfl rfl rfl rfl rfl rfl rfl rfl rfl rfl rfl⟩
    case rest =>
      clear HM
      obtain ⟨gK, cK, gV, cV, hM⟩ := hcut
      have HM := Lib.hid hM
      clear hM hrc hrc2
      go_wp2
      refine region_calm [.p 0, .p 1, .p 2, .l 3, .p 4, .p 5, .p 6, .p 7, .l 8, .p 9, .p 10, .p 11, .p 12, .l 13, .p 14, .l 15, .p 16, .p 17, .p 18, .l 19, .p 20, .l 21, .p 22, .h 23 false, .p 24, .h 25 false] f_mixed (by kernel_rfl) (by kernel_rfl) ?_
      replace HM := Lib.hid (HM.out.ext (Ext.refl _).drew)
      generalize wc.drew = V1 at *
      obtain ⟨n0, n1, n2⟩ := HM.out.c3 0 (b := nb) (by decide) rfl rfl
      obtain ⟨r0, r1, r2⟩ := HM.out.c3 2 (b := rb) (by decide) rfl rfl
      have ha := HM.out.el 0 (by decide) rfl HGK.out (sK_get HEM.out)
      have hb := HM.out.el 1 (by decide) rfl HGV.out (sV_get HEM.out)
      have hc1 := HM.out.el 6 (by decide) rfl HRK.out (sK_get HEX.out)
      have hd := HM.out.el 7 (by decide) rfl HRV.out (sV_get HEX.out)
      have hz := HM.out.fzs 0 (by decide) rfl HGK.out i
      repeat (first | (refine plan_p rfl (fun K hK => ?_); go_simp; refine hK _ ?_; clear hK K) | (refine plan_l rfl (fun K hK => ?_); go_simp; refine hK _ ?_; clear hK K))
      refine plan_c rfl rfl (fun K _ hK => ?_)
      go_wp2_with fail
      replace HM := Lib.hid (HM.out.elem (i := 0) (by decide) HGK.out (str ex.1) hie)
      generalize V1.setCell ⟨gkb, i, none⟩ (str ex.1) = V2 at *
      clear n0 n1 n2 r0 r1 r2 ha hb hc1 hd hz
      have hb := HM.out.el 1 (by decide) rfl HGV.out (sV_get HEM.out)
      have hz2 := HM.out.fzs 1 (by decide) rfl HGV.out i
      repeat (first | (refine plan_p rfl (fun K hK => ?_); go_simp; refine hK _ ?_; clear hK K) | (refine plan_l rfl (fun K hK => ?_); go_simp; refine hK _ ?_; clear hK K))
      refine plan_c rfl rfl (fun K _ hK => ?_)
      go_wp2_with fail
      replace HM := Lib.hid (HM.out.elem (i := 1) (by decide) HGV.out (.int .i64 ex.2) hie)
      refine plan_done ?_
      generalize V2.setCell ⟨gvb, i, none⟩ (.int .i64 ex.2) = V3 at *
      clear hb hz2 V1 V2
      go_wp2
      letI : Tch.TS := ⟨fun k => rk = some k⟩
      replace HM := Lib.hid (HM.out.ext (Ext.refl _).drew)
      refine Tch.region_calm [.p 0, .p 1, .p 2, .p 3, .p 4, .e 5, .p 7, .p 8, .p 9, .e 10, .h 6 true, .h 11 false, .p 12, .p 13, .h 14 false, .p 15, .p 16, .h 17 false] f_mixed (by kernel_rfl) (by kernel_rfl) ?_
      generalize V3.drew = V1 at *
      repeat (refine Tch.plan_p rfl (fun K hK => ?_); go_simp; refine hK _ ?_; clear hK K)
      refine Tch.plan_e1 rfl rfl (slv rk er.length fk) (fun w' he => ?_) (fun K hK => ?_)
      · obtain ⟨n0, n1, n2⟩ := HM.out.c3t (j := 6) (by decide) rfl he 2 (b := rb) (by decide) rfl rfl
        go_simp
      go_simp; refine hK _ ?_; clear hK K
      repeat (refine Tch.plan_p rfl (fun K hK => ?_); go_simp; refine hK _ ?_; clear hK K)
      refine Tch.plan_e1 rfl rfl (slv rv er.length fv) (fun w' he => ?_) (fun K hK => ?_)
      · obtain ⟨n0, n1, n2⟩ := HM.out.c3t (j := 6) (by decide) rfl he 2 (b := rb) (by decide) rfl rfl
        go_simp
      go_simp; refine hK _ ?_; clear hK K
      repeat (refine Tch.plan_p rfl (fun K hK => ?_); go_simp; refine hK _ ?_; clear hK K)
      refine Tch.plan_ct rfl rfl (fun K _ hK => ?_)
      go_wp2_with fail
      refine (DelS_at (g := rk) (n := er.length) (cap := fk) (i := 0) (xs := sK er) (HM.out.sd 6 (by decide) rfl) her0 rfl rfl (sK_one er)).mono ?_
      rintro e V4 ⟨rfl, hS, hT⟩
      go_wp2_with fail
      refine hK _ _ hT ?_; clear hK K
      replace HM := Lib.hid (HM.out.slice (i := 6) (by decide) hS hT (fun x hx => .inl hx))
      clear hS hT
      refine Tch.plan_c rfl rfl (fun K _ hK => ?_)
      go_wp2_with fail
      refine (DelI_at (g := rv) (n := er.length) (cap := fv) (i := 0) (xs := sV er) (HM.out.sd 7 (by decide) rfl) her0 rfl rfl (sV_one er)).mono ?_
      rintro e V5 ⟨rfl, hS, hT⟩
      go_wp2_with fail
      replace HM := Lib.hid (HM.out.slice (i := 7) (by decide) hS hT (fun x hx => .inl hx))
      clear hS hT
      obtain ⟨r0, r1, r2⟩ := HM.out.c3 2 (b := rb) (by decide) rfl rfl
      have hz := HM.out.fz 2 (b := rb) (by decide) rfl 0
      repeat (refine Tch.plan_p rfl (fun K hK => ?_); go_simp; refine hK _ ?_; clear hK K)
      refine Tch.plan_c rfl rfl (fun K _ hK => ?_)
      go_wp2_with fail
      clear r0 r1 r2 hz
      replace HM := Lib.hid (show Mm _ _ _ _ _ _ _ (V5.setCell ⟨rb, 0, none⟩ (slv rk (er.length - 1) fk)) from HM.out.head (i := 2) (by decide) 0 (slv rk (er.length - 1) fk))
      generalize V5.setCell ⟨rb, 0, none⟩ (slv rk (er.length - 1) fk) = V6 at *
      have hz1 := HM.out.fz 2 (b := rb) (by decide) rfl 1
      obtain ⟨r0, r1, r2⟩ := HM.out.c3 2 (b := rb) (by decide) rfl rfl
      repeat (refine Tch.plan_p rfl (fun K hK => ?_); go_simp; refine hK _ ?_; clear hK K)
      refine Tch.plan_c rfl rfl (fun K _ hK => ?_)
      go_wp2_with fail
      clear r0 r1 r2 hz1
      replace HM := Lib.hid (show Mm _ _ _ _ _ _ _ (V6.setCell ⟨rb, 1, none⟩ (slv rv (er.length - 1) fv)) from HM.out.head (i := 2) (by decide) 1 (slv rv (er.length - 1) fv))
      refine tch_done ?_
      generalize V6.setCell ⟨rb, 1, none⟩ (slv rv (er.length - 1) fv) = V7 at *
      clear V1 V4 V5 V6 this
      have hTL : Hid (er.length - 1 = (er.drop 1).length) := Lib.hid (by simp)
      have HLF : Hid (NodeAt V7 rb (er.drop 1) pr rk rv rc fk fv fc) := HM.out.node 2 (b := rb) (es := er.drop 1) (ps := pr) (by decide) (by decide) rfl rfl rfl rfl rfl hTL.out hTL.out rfl (by show [] ++ (sK er).drop 1 = _; simp [sK]) (by show [] ++ (sV er).drop 1 = _; simp [sV]) rfl
      rcases HPR.out with hp0 | hp0
      · have hp' : decide (pr = []) = true := decide_eq_true hp0
        go_wp2_with (first | (go_at_call 34; refine (leaf_ok HLF.out).mono ?_; rintro e w' ⟨rfl, rfl⟩))
        go_ret
        have hN := HM.out.node 0 (b := nb) (es := es.set i ex) (ps := ps) (by decide) (by decide) rfl rfl rfl rfl rfl (len_set es i ex) (len_set es i ex) rfl (sK_set es i ex).symm (sV_set es i ex).symm rfl
        have hK := HM.out.node 1 (b := kb) (es := ek ++ [em]) (ps := pk ++ pr.take 1) (by decide) (by decide) rfl rfl rfl rfl rfl (by simp) (by simp) (by show pk.length = _; simp [hp0]) (sK_app ek [em]).symm (sV_app ek [em]).symm (by show sP pk = _; simp [hp0])
        have hR := HLF.out
        have e1 : pr.drop 1 = pr := by simp [hp0]
        rw [e1]
        exact ⟨rfl, _, _, _, _, _, _, hN, hK, hR, HM.out.touch, HM.out.nd3 rfl rfl rfl rfl rfl rfl rfl rfl rfl rfl rfl rfl, HM.out.sub 1 (by decide) (by decide) rfl rfl rfl rfl⟩
      · have hp' : decide (pr = []) = false := decide_eq_false (fun e => by simp [e] at hp0)
        have hp1 : 0 < pr.length := by omega
        obtain ⟨y, hy⟩ : ∃ y, pr[0]? = some y := ⟨pr[0]'hp1, List.getElem?_eq_getElem _⟩
        obtain ⟨rcb, HRC⟩ : ∃ b, Hid (rc = some b) := HLF.out.kids.some_of_pos hp1
        have hrlc : ∀ U, (Instr.indexAt 80 (slv rc pr.length fc) (.int .i64 0)).run Try.prog U = .ok (.pointer (some ⟨rcb, 0, none⟩)) U := fun U => run_index_slv (P := Try.prog) ei_node (cap := fc) HRC.out (j := 0) (n := pr.length) hp1 U
        have HY := Lib.hid hy; have HP0 := Lib.hid hp0
        clear hp0 hy
        go_wp2_with (first | (go_at_call 34; refine (leaf_ok HLF.out).mono ?_; rintro e w' ⟨rfl, rfl⟩))
        refine region_calm [.p 0, .p 1, .p 2, .p 3, .l 4, .p 5, .p 6, .p 7, .l 8, .p 9, .l 10, .h 11 true, .h 12 false, .p 13, .p 14, .h 15 false] f_mixed (by kernel_rfl) (by kernel_rfl) ?_
        replace HM := Lib.hid (HM.out.ext (Ext.refl _).drew)
        generalize V7.drew = V1 at *
        obtain ⟨k0, k1, k2⟩ := HM.out.c3 1 (b := kb) (by decide) rfl rfl
        obtain ⟨r0, r1, r2⟩ := HM.out.c3 2 (b := rb) (by decide) rfl rfl
        have hc1 := HM.out.el 8 (by decide) rfl HRC.out (sP_get HY.out)
        repeat (first | (refine plan_p rfl (fun K hK => ?_); go_simp; refine hK _ ?_; clear hK K) | (refine plan_l rfl (fun K hK => ?_); go_simp; refine hK _ ?_; clear hK K))
        clear k0 k1 k2 r0 r1 r2 hc1
        refine plan_ct rfl rfl (fun K _ hK => ?_)
        go_wp2_with fail
        refine hK _ _ ((Ext.refl _).alloc _) ?_; clear hK K
        have HA : Hid ((V1.alloc (.cells #[.pointer (some ⟨y, 0, none⟩)] 78)).heap[V1.heap.size]? = some (.cells #[.pointer (some ⟨y, 0, none⟩)] 78 (0, 0))) := blk_new _ _
        replace HM := Lib.hid (HM.out.ext ((Ext.refl _).alloc (.cells #[.pointer (some ⟨y, 0, none⟩)] 78)))
        generalize V1.heap.size = ba at *
        generalize V1.alloc (.cells #[.pointer (some ⟨y, 0, none⟩)] 78) = V2 at *
        refine plan_c rfl rfl (fun K _ hK => ?_)
        refine app_lit ei_node rfl (.tmp 291) (.tmp 298) rfl (g := hc) (n := pk.length) (cap := dc) (xs := sP pk) (b := ba) (by rfl) (HM.out.sd 5 (by decide) rfl) (by rfl) (news := [.pointer (some ⟨y, 0, none⟩)]) rfl HA.out (by intro u hu; simp at hu; subst hu; rfl) (by omega) (by omega) ?_
        intro gC cC V4 hS hT hat
        go_wp2_with fail
        replace HM := Lib.hid (HM.out.slice (i := 5) (by decide) hS hT (fun x hx => by
          cases hx
          rcases hat with h | h
          · exact .inl h
          · exact .inr (by rw [h]; exact Nat.le_refl _)))
        clear hS hT hat HA
        obtain ⟨k0, k1, k2⟩ := HM.out.c3 1 (b := kb) (by decide) rfl rfl
        have hz := HM.out.fz 1 (b := kb) (by decide) rfl 2
        repeat (first | (refine plan_p rfl (fun K hK => ?_); go_simp; refine hK _ ?_; clear hK K) | (refine plan_l rfl (fun K hK => ?_); go_simp; refine hK _ ?_; clear hK K))
        refine plan_c rfl rfl (fun K _ hK => ?_)
        go_wp2_with fail
        replace HM := Lib.hid (show Mm _ _ _ _ _ _ _ (V4.setCell ⟨kb, 2, none⟩ (.slice (some ⟨gC, 0, none⟩) (pk.length + 1) cC)) from HM.out.head (i := 1) (by decide) 2 (slv (some gC) (pk.length + 1) cC))
        refine plan_done ?_
        generalize V4.setCell ⟨kb, 2, none⟩ (.slice (some ⟨gC, 0, none⟩) (pk.length + 1) cC) = V5 at *
        clear k0 k1 k2 hz
        obtain ⟨r0, r1, r2⟩ := HM.out.c3 2 (b := rb) (by decide) rfl rfl
        go_wp2_with fail
        refine (DelN_at (g := rc) (n := pr.length) (cap := fc) (i := 0) (xs := sP pr) (HM.out.sd 8 (by decide) rfl) hp1 rfl rfl (sP_one pr)).mono ?_
        rintro e V6 ⟨rfl, hS, hT⟩
        clear r0 r1 r2
        replace HM := Lib.hid (HM.out.slice (i := 8) (by decide) hS hT (fun x hx => .inl hx))
        clear hS hT
        obtain ⟨r0, r1, r2⟩ := HM.out.c3 2 (b := rb) (by decide) rfl rfl
        have hz := HM.out.fz 2 (b := rb) (by decide) rfl 2
        go_wp2
        go_ret
        replace HM := Lib.hid (show Mm _ _ _ _ _ _ _ (V6.setCell ⟨rb, 2, none⟩ (slv rc (pr.length - 1) fc)) from HM.out.head (i := 2) (by decide) 2 (slv rc (pr.length - 1) fc))
        have hD : pr.take 1 = [y] := by
          obtain ⟨h1, h2⟩ := List.getElem?_eq_some_iff.1 HY.out
          rw [List.take_one, List.head?_eq_getElem?, HY.out]; rfl
        rw [hD]
        have hN := HM.out.node 0 (b := nb) (es := es.set i ex) (ps := ps) (by decide) (by decide) rfl rfl rfl rfl rfl (len_set es i ex) (len_set es i ex) rfl (sK_set es i ex).symm (sV_set es i ex).symm rfl
        have hK := HM.out.node 1 (b := kb) (es := ek ++ [em]) (ps := pk ++ [y]) (by decide) (by decide) rfl rfl rfl rfl rfl (by simp) (by simp) (by simp) (sK_app ek [em]).symm (sV_app ek [em]).symm (sP_app pk [y]).symm
        have hR := HM.out.node 2 (b := rb) (es := er.drop 1) (ps := pr.drop 1) (by decide) (by decide) rfl rfl rfl rfl rfl hTL.out hTL.out (by simp) (by show [] ++ (sK er).drop 1 = _; simp [sK]) (by show [] ++ (sV er).drop 1 = _; simp [sV]) (by show [] ++ (sP pr).drop 1 = _; simp [sP])
        exact ⟨rfl, _, _, _, _, _, _, hN, hK, hR, HM.out.touch, HM.out.nd3 rfl rfl rfl rfl rfl rfl rfl rfl rfl rfl rfl rfl, HM.out.sub 1 (by decide) (by decide) rfl rfl rfl rfl⟩
end Go.Proofs.Ytkejjahlglldlaa
