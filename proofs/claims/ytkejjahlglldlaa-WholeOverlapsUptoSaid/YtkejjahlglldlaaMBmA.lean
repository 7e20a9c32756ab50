/- btree.cut: walked. -/
import Derived.Test.YtkejjahlglldlaaMBmP
import Derived.Test.YtkejjahlglldlaaMBmS
namespace Go.Proofs.Ytkejjahlglldlaa
open Go.RowKit Go.Lib

set_option maxRecDepth 100000 in
set_option maxHeartbeats 16000000 in
theorem cut_ok (w0 : World) (tb m : Nat) (key0 : List UInt8) (L0 : List Ent) (bs0 : List Nat) (rb H : Nat) (es0 : List Ent) (ks0 : List Kid) (g1 g2 g3 : Option Nat) (c1 c2 c3 : Nat) (w : World)
    (hI0 : CuI w0 tb m key0 L0 bs0 w rb H H rb 0 key0 [] [] [] es0 ks0 g1 g2 g3 c1 c2 c3) (h1 : 1 ≤ es0.length) :
    Calls Try.prog 91 #[.pointer (some ⟨tb, 0, none⟩), .pointer (some ⟨rb, 0, none⟩), str key0] w fun e w' => (∃ v, e = .returned v) ∧ CutPost tb m key0 L0 bs0 w0 rb H w' := by
  have HI0 := Lib.hid hI0
  have hm2 := hI0.m2
  have hm64 := hI0.m64
  clear hI0
  go_enter Try.func91, Try.ntmps91
  go_wp2; go_step3
  go_wp2; go_step3
  go_wp2
  go_loopg [1, 2] H (fun k v1 v2 wr => ∃ (h nb lo : Nat) (key : List UInt8) (F : List Nat) (A B es : List Ent) (ks : List Kid) (sk sv sc : Option Nat) (ck cv cc : Nat), v1 = .pointer (some ⟨nb, 0, none⟩) ∧ v2 = str key ∧ CuI w0 tb m key0 L0 bs0 wr rb H h nb lo key F A B es ks sk sv sc ck cv cc ∧ lo + 1 ≤ es.length ∧ k = h)
  case atStart => exact ⟨_, _, _, _, _, _, _, _, _, _, _, _, _, _, _, rfl, rfl, HI0.out, h1, rfl⟩
  case round =>
    have HJ : Hid (Onward (Handed ‹Nat → Act → World → Prop› gk) gk w0 tb m key0 L0 bs0 rb H) := by
      rename_i J K hJ hK
      refine Lib.hid ⟨?_⟩
      intros
      rename_i h hlt hre
      refine Handed.intro h hlt (hJ _ _ _ ?_)
      obtain ⟨nb, lo, key, F, A, B, es, ks, sk, sv, sc, ck, cv, cc, rfl, rfl, hI, hlo⟩ := hre
      (repeat apply Exists.intro)
      exact ⟨⟨h, nb, lo, key, F, A, B, es, ks, sk, sv, sc, ck, cv, cc, rfl, rfl, hI, hlo, rfl⟩, rfl⟩
    have HJK : Hid (Onward ‹Act → World → Prop› gk w0 tb m key0 L0 bs0 rb H) := by
      rename_i J K hJ hK
      exact Lib.hid ⟨fun h h1 h2 => hK _ _ (HJ.out.go h h1 h2)⟩
    obtain ⟨h, nb, lo, key, F, A, B, es, ks, sk, sv, sc, ck, cv, cc, rfl, rfl, hI, hlo, hkh⟩ := hrel
    have HI := Lib.hid hI
    have HKH := Lib.hid hkh
    have hlen : es.length ≤ 127 := by have := hI.hi; omega
    clear hI hkh HI0 h1
    obtain ⟨p, hp⟩ : ∃ p, pos key es = p := ⟨_, rfl⟩
    have hples : p ≤ es.length := by rw [← hp]; exact pos_le key es
    obtain ⟨n0, n1, n2⟩ := blk3 HI.out.node.blk
    obtain ⟨t0, t1, t2⟩ := blk3 HI.out.tree
    go_wp2_with fail
    refine (find_ok HI.out.node key (by omega) HI.out.srt.node).mono ?_
    rintro e w' ⟨rfl, rfl⟩
    rw [hp]
    have HPP := Lib.hid hp; clear hp
    by_cases hks : ks = []
    · have hpk' : decide (ks.map Kid.b = []) = true := decide_eq_true (by rw [hks]; rfl)
      have hh0 : h = 0 := by
        cases h with
        | zero => rfl
        | succ h' => have := HI.out.ok.1; rw [hks] at this; simp at this
      have hin : inter (ks.map Kid.L) es = es := by rw [hks]; simp [inter]
      have hhas := HI.out.hasE
      have hsrt := HI.out.srt
      rw [hin] at hhas hsrt
      obtain ⟨v0, hv0, hes⟩ := at_true (leaf_at hsrt hhas)
      rw [HPP.out] at hv0 hes
      have hie : p < es.length := (List.getElem?_eq_some_iff.1 hv0).1
      have hnd : (ownL nb sk sv sc).Nodup := (List.nodup_append.1 HI.out.nodup).1
      have HKS := Lib.hid hks; have HES := Lib.hid hes; have HIN := Lib.hid hin; have HSR := Lib.hid hsrt; have HH0 := Lib.hid hh0
      clear hks hv0 hes hhas hin hsrt hh0
      have hw1 : IntKind.i64.wrap ((p : Int) + 1) = (p : Int) + 1 := by rw [IntKind.wrap_i64]; omega
      go_wp2_with (first | (go_at_call 34; refine (leaf_ok HI.out.node).mono ?_; rintro e w' ⟨rfl, rfl⟩))
      clear n0 n1 n2 t0 t1 t2
      letI : Tch.TS := ⟨fun k => sk = some k⟩
      have HM := Lib.hid ((Mm.start1 HI.out.node hnd).ext (Ext.refl wr).drew)
      clear hnd
      refine Tch.region_calm [.p 0, .p 1, .p 2, .p 3, .p 4, .e 5, .p 6, .p 7, .p 8, .p 10, .p 11, .p 12, .e 13, .p 14, .p 15, .p 16, .h 9 true, .h 17 false, .p 18, .p 19, .h 20 false, .p 21, .p 22, .h 23 false] f_mixed (by kernel_rfl) (by kernel_rfl) ?_
      generalize wr.drew = W1 at *
      repeat (refine Tch.plan_p rfl (fun K hK => ?_); go_simp; refine hK _ ?_; clear hK K)
      refine Tch.plan_e1 rfl rfl (slv sk es.length ck) (fun w' he => ?_) (fun K hK => ?_)
      · obtain ⟨n0, n1, n2⟩ := HM.out.c3t (j := 0) (by decide) rfl he 0 (b := nb) (by decide) rfl rfl
        go_simp
      go_simp; refine hK _ ?_; clear hK K
      repeat (refine Tch.plan_p rfl (fun K hK => ?_); go_simp; refine hK _ ?_; clear hK K)
      refine Tch.plan_e1 rfl rfl (slv sv es.length cv) (fun w' he => ?_) (fun K hK => ?_)
      · obtain ⟨n0, n1, n2⟩ := HM.out.c3t (j := 0) (by decide) rfl he 0 (b := nb) (by decide) rfl rfl
        go_simp
      go_simp; refine hK _ ?_; clear hK K
      repeat (refine Tch.plan_p rfl (fun K hK => ?_); go_simp; refine hK _ ?_; clear hK K)
      refine Tch.plan_ct rfl rfl (fun K _ hK => ?_)
      go_wp2_with fail
      refine (DelS_at (g := sk) (n := es.length) (cap := ck) (xs := sK es) (HM.out.sd 0 (by decide) rfl) hie rfl rfl (sK_one es)).mono ?_
      rintro e w3 ⟨rfl, hS, hT⟩
      go_wp2_with fail
      refine hK _ _ hT ?_; clear hK K
      replace HM := Lib.hid (HM.out.slice (i := 0) (by decide) hS hT (fun x hx => .inl hx))
      clear hS hT
      refine Tch.plan_c rfl rfl (fun K _ hK => ?_)
      go_wp2_with fail
      refine (DelI_at (g := sv) (n := es.length) (cap := cv) (xs := sV es) (HM.out.sd 1 (by decide) rfl) hie rfl rfl (sV_one es)).mono ?_
      rintro e w4 ⟨rfl, hS, hT⟩
      go_wp2_with fail
      replace HM := Lib.hid (HM.out.slice (i := 1) (by decide) hS hT (fun x hx => .inl hx))
      clear hS hT
      obtain ⟨n0, n1, n2⟩ := HM.out.c3 0 (b := nb) (by decide) rfl rfl
      have hz := HM.out.fz 0 (b := nb) (by decide) rfl 0
      have hz1 := HM.out.fz 0 (b := nb) (by decide) rfl 1
      repeat (refine Tch.plan_p rfl (fun K hK => ?_); go_simp; refine hK _ ?_; clear hK K)
      refine Tch.plan_c rfl rfl (fun K _ hK => ?_)
      go_wp2_with fail
      clear n0 n1 n2 hz hz1
      replace HM := Lib.hid (show Mm _ _ _ _ _ _ _ (w4.setCell ⟨nb, 0, none⟩ (slv sk (es.length - 1) ck)) from HM.out.head (i := 0) (by decide) 0 (slv sk (es.length - 1) ck))
      generalize w4.setCell ⟨nb, 0, none⟩ (slv sk (es.length - 1) ck) = W5 at *
      have hz1 := HM.out.fz 0 (b := nb) (by decide) rfl 1
      obtain ⟨n0, n1, n2⟩ := HM.out.c3 0 (b := nb) (by decide) rfl rfl
      repeat (refine Tch.plan_p rfl (fun K hK => ?_); go_simp; refine hK _ ?_; clear hK K)
      refine Tch.plan_c rfl rfl (fun K _ hK => ?_)
      go_wp2_with fail
      clear n0 n1 n2 hz1
      replace HM := Lib.hid (show Mm _ _ _ _ _ _ _ (W5.setCell ⟨nb, 1, none⟩ (slv sv (es.length - 1) cv)) from HM.out.head (i := 0) (by decide) 1 (slv sv (es.length - 1) cv))
      refine tch_done ?_
      generalize W5.setCell ⟨nb, 1, none⟩ (slv sv (es.length - 1) cv) = WD at *
      clear w3 w4 W5
      go_wp2
      rw [Exit.noGoto_ret]
      refine bodyPost_ret (results_none rfl _ _ _) rfl ?_
      have hl3 : es.length - 1 = (es.take p ++ es.drop (p + 1)).length := by simp; omega
      have hN := HM.out.node 0 (b := nb) (es := es.take p ++ es.drop (p + 1)) (ps := ks.map Kid.b) (by decide) (by decide) rfl rfl rfl rfl rfl hl3 hl3 rfl (by simp [sK]) (by simp [sV]) rfl
      have hle : (es.take p ++ es.drop (p + 1)).length + 1 = es.length := by rw [← hl3]; omega
      refine ⟨⟨_, rfl⟩, HI.out.close HM.out.touch hN (by omega) (by have := HI.out.hi; omega) ?_ ?_⟩
      · rw [HH0.out]; exact HKS.out
      · rw [HIN.out]
        have h5 : inter (ks.map Kid.L) (es.take p ++ es.drop (p + 1)) = es.take p ++ es.drop (p + 1) := by rw [HKS.out]; simp [inter]
        have h6 := HSR.out
        rw [HES.out] at h6
        rw [h5]
        conv => rhs; rw [HES.out]
        rw [del_mid h6]
    · have hpk' : decide (ks.map Kid.b = []) = false := decide_eq_false (by simpa using hks)
      have HKS := Lib.hid hks; clear hks
      obtain ⟨h', hh'⟩ : ∃ h', h = h' + 1 := by
        cases h with
        | zero => exact absurd HI.out.ok HKS.out
        | succ h' => exact ⟨h', rfl⟩
      subst hh'
      have HKL : Hid (ks.length = es.length + 1) := HI.out.ok.1
      cases hat : at_ key es
      · have HAT := Lib.hid hat; clear hat
        go_wp2_with (first | (go_at_call 34; refine (leaf_ok HI.out.node).mono ?_; rintro e w' ⟨rfl, rfl⟩))
        have hfp := fill_ok HI.out.tree HI.out.node HI.out.ok hm64 hm2 (by omega) HI.out.hi HI.out.srt HAT.out (F := tb :: F) (fun x hx => HI.out.rlt x (by
            rcases List.mem_cons.1 hx with rfl | hx
            · simp
            · exact List.mem_cons_of_mem _ (List.mem_append_left _ hx))) (by
            refine (List.Perm.nodup_iff ?_).1 HI.out.nodup
            rw [List.perm_iff_count]
            intro a
            simp only [List.count_append, List.count_cons]
            omega)
        rw [HPP.out] at hfp
        refine hfp.mono ?_
        clear hfp n0 n1 n2 t0 t1 t2
        rintro e W2 ⟨es', ks', nx, rfl, hR, hnx, hat2, hnn, hl1, hl2⟩
        have HI2 := Lib.hid (HI.out.turn hR (by omega) (by have := HI.out.hi; omega))
        obtain ⟨F', A', B', ek, kk, a1, a2, a3, a4, a5, a6, hD1, hD2⟩ := HI2.out.down hat2 hnx hnn
        have HD1 := Lib.hid hD1; have HD2 := Lib.hid hD2
        have hes2 : es'.length ≤ 127 := by omega
        have hp2 := pos_le key es'
        clear hD1 hD2 hR hnn
        obtain ⟨n0, n1, n2⟩ := blk3 HI2.out.node.blk
        go_wp2_with fail
        refine (find_ok HI2.out.node key (by omega) HI2.out.srt.node).mono ?_
        rintro e w' ⟨rfl, rfl⟩
        rw [hat2]
        have hkl2 : ks'.length = es'.length + 1 := HI2.out.ok.1
        have HNX := Lib.hid hnx
        clear hnx hat2
        generalize pos key es' = p2 at *
        obtain ⟨gcb, hgcb⟩ := HI2.out.node.kids.some_of_pos (by rw [List.length_map]; omega)
        have hci := HI2.out.node.kid hgcb (show (ks'.map Kid.b)[p2]? = some nx.b by simp [HNX.out])
        obtain ⟨kn, hkn⟩ : ∃ kn, (ks'.map Kid.b).length = kn := ⟨_, rfl⟩
        have hri := fun U => run_index_slv (P := Try.prog) ei_node (cap := cc) hgcb (j := p2) (n := kn) (by rw [← hkn, List.length_map]; omega) U
        rw [hkn] at n2
        have HKN := Lib.hid hkn; have HG := Lib.hid hgcb; have HKL2 := Lib.hid hkl2
        clear hkn hgcb hkl2 hl1 hl2
        have hnq := fun U => neq_node ⟨nx.b, 0, none⟩ U
        go_wp2
        exact HJ.out.go h' (by rw [HKH.out]; omega) ⟨_, _, key, _, _, _, _, _, _, _, _, _, _, _, rfl, rfl, HD1.out, HD2.out⟩
      · have HAT := Lib.hid hat; clear hat
        go_wp2_with (first | (go_at_call 34; refine (leaf_ok HI.out.node).mono ?_; rintro e w' ⟨rfl, rfl⟩; rw [hpk']))
        obtain ⟨v0, hv0, -⟩ := at_true HAT.out
        rw [HPP.out] at hv0
        have hie : p < es.length := (List.getElem?_eq_some_iff.1 hv0).1
        have HV0 := Lib.hid hv0; clear hv0
        obtain ⟨a, ha⟩ : ∃ a, ks[p]? = some a := ⟨ks[p]'(by have := HKL.out; omega), List.getElem?_eq_getElem _⟩
        obtain ⟨b, hb⟩ : ∃ b, ks[p + 1]? = some b := ⟨ks[p + 1]'(by have := HKL.out; omega), List.getElem?_eq_getElem _⟩
        have hra := HI.out.ok.2 a (List.mem_of_getElem? ha)
        have hrb := HI.out.ok.2 b (List.mem_of_getElem? hb)
        obtain ⟨ea, ka, ak, av, ac, dk, dv, dc, aN, an, -⟩ := hra.1.open
        obtain ⟨eb, kb, bk, bv, bc, fk, fv, fc, bN, bn, -⟩ := hrb.1.open
        have HA := Lib.hid ha; have HB := Lib.hid hb; have HRA := Lib.hid hra; have HRB := Lib.hid hrb; have HAN := Lib.hid aN; have HBN := Lib.hid bN; have Han := Lib.hid an; have Hbn := Lib.hid bn
        have hl1 : ea.length ≤ 127 := by omega
        have hl2 : eb.length ≤ 127 := by omega
        clear ha hb hra hrb aN bN an bn
        obtain ⟨scb, HSC⟩ : ∃ b, Hid (sc = some b) := HI.out.node.kids.some_of_pos (by rw [List.length_map]; have := HKL.out; omega)
        obtain ⟨skb, HSK⟩ : ∃ b, Hid (sk = some b) := HI.out.node.keys.some_of_pos (by omega)
        obtain ⟨svb, HSV⟩ : ∃ b, Hid (sv = some b) := HI.out.node.vals.some_of_pos (by omega)
        obtain ⟨kn, HKN⟩ : ∃ kn, Hid ((ks.map Kid.b).length = kn) := ⟨_, Lib.hid rfl⟩
        have hkn : p + 1 < kn := by rw [← HKN.out, List.length_map]; have := HKL.out; omega
        have hri := fun U => run_index_slv (P := Try.prog) ei_node (cap := cc) HSC.out (j := p) (n := kn) (by omega) U
        have hri1 := fun U => run_index_slv (P := Try.prog) ei_node (cap := cc) HSC.out (j := p + 1) (n := kn) hkn U
        have hcast : ((p + 1 : Nat) : Int) = (p : Int) + 1 := rfl
        rw [hcast] at hri1
        have hw1 : IntKind.i64.wrap ((p : Int) + 1) = (p : Int) + 1 := by rw [IntKind.wrap_i64]; omega
        have hrk := fun U => run_index_slv (P := Try.prog) ei_string (cap := ck) HSK.out (j := p) (n := es.length) hie U
        have hrv := fun U => run_index_slv (P := Try.prog) ei_int64 (cap := cv) HSV.out (j := p) (n := es.length) hie U
        clear hcast n0 n1 n2 t0 t1 t2
        go_upto_region 9 with fail
        go_cut [74] from 75 to 91 (fun v74 wc => v74 = .bool (decide (m ≤ a.n)) ∧ Ext wr wc)
        case first =>
          refine region_calm [.p 0, .p 1, .p 2, .l 3, .p 4, .p 5, .l 6, .p 7, .p 8, .l 9, .p 10, .p 11, .p 12, .p 13, .l 14, .h 15 true, .p 16, .p 17] f_mixed (by kernel_rfl) (by kernel_rfl) ?_
          replace HI := Lib.hid (HI.out.ext (Ext.refl wr).drew)
          replace HAN := Lib.hid (HAN.out.ext (Ext.refl wr).drew)
          have hEd : Ext wr wr.drew := (Ext.refl wr).drew
          have hci := HI.out.node.kid HSC.out (show (ks.map Kid.b)[p]? = some a.b by simp [HA.out])
          obtain ⟨n0, n1, n2⟩ := blk3 HI.out.node.blk
          obtain ⟨t0, t1, t2⟩ := blk3 HI.out.tree
          rw [HKN.out] at n2
          obtain ⟨a0, a1, a2⟩ := blk3 HAN.out.blk
          have hdec : decide ((m : Int) - 1 < (ea.length : Int)) = decide (m ≤ a.n) := by rw [Han.out]; exact decide_eq_decide.2 (by omega)
          generalize wr.drew = V1 at *
          repeat (first | (refine plan_p rfl (fun K hK => ?_); go_simp; refine hK _ ?_; clear hK K) | (refine plan_l rfl (fun K hK => ?_); go_simp; refine hK _ ?_; clear hK K))
          refine plan_ct rfl rfl (fun K _ hK => ?_)
          go_wp2_with fail
          refine (least_ok m hm64 _).mono ?_
          rintro e W1 ⟨rfl, hE1⟩
          go_wp2
          refine hK _ _ (hE1) ?_; clear hK K
          repeat (first | (refine plan_p rfl (fun K hK => ?_); go_simp; refine hK _ ?_; clear hK K) | (refine plan_l rfl (fun K hK => ?_); go_simp; refine hK _ ?_; clear hK K))
          refine plan_done ?_
          go_wp2_with fail
          go_meet
          case rel => exact ⟨rfl, hEd.trans hE1⟩
        case rest =>
          obtain ⟨rfl, hE1⟩ := hcut
          replace HI := Lib.hid (HI.out.ext hE1)
          replace HAN := Lib.hid (HAN.out.ext hE1)
          replace HBN := Lib.hid (HBN.out.ext hE1)
          clear hE1 HRA HRB
          by_cases hma : m ≤ a.n
          · rw [show decide (m ≤ a.n) = true from decide_eq_true hma]
            go_step
            refine wp_cond_true rfl ?_
            exact cut_pred HI.out HPP.out HAT.out HA.out hma HJK.out (by rw [HKH.out]; omega)
          · rw [show decide (m ≤ a.n) = false from decide_eq_false hma]
            go_upto_region 15 with fail
            go_cut [164] from 165 to 182 (fun v164 wd => v164 = .bool (decide (m ≤ b.n)) ∧ Ext wc wd)
            case first =>
              refine region_calm [.p 0, .p 1, .p 2, .l 3, .p 4, .p 5, .p 6, .l 7, .p 8, .p 9, .l 10, .p 11, .p 12, .p 13, .p 14, .l 15, .h 16 true, .p 17, .p 18] f_mixed (by kernel_rfl) (by kernel_rfl) ?_
              replace HI := Lib.hid (HI.out.ext (Ext.refl wc).drew)
              replace HBN := Lib.hid (HBN.out.ext (Ext.refl wc).drew)
              have hEd : Ext wc wc.drew := (Ext.refl wc).drew
              have hci := HI.out.node.kid HSC.out (show (ks.map Kid.b)[p + 1]? = some b.b by simp [HB.out])
              obtain ⟨n0, n1, n2⟩ := blk3 HI.out.node.blk
              obtain ⟨t0, t1, t2⟩ := blk3 HI.out.tree
              rw [HKN.out] at n2
              obtain ⟨a0, a1, a2⟩ := blk3 HBN.out.blk
              have hdec : decide ((m : Int) - 1 < (eb.length : Int)) = decide (m ≤ b.n) := by rw [Hbn.out]; exact decide_eq_decide.2 (by omega)
              generalize wc.drew = V1 at *
              repeat (first | (refine plan_p rfl (fun K hK => ?_); go_simp; refine hK _ ?_; clear hK K) | (refine plan_l rfl (fun K hK => ?_); go_simp; refine hK _ ?_; clear hK K))
              refine plan_ct rfl rfl (fun K _ hK => ?_)
              go_wp2_with fail
              refine (least_ok m hm64 _).mono ?_
              rintro e W1 ⟨rfl, hE1⟩
              go_wp2
              refine hK _ _ (hE1) ?_; clear hK K
              repeat (first | (refine plan_p rfl (fun K hK => ?_); go_simp; refine hK _ ?_; clear hK K) | (refine plan_l rfl (fun K hK => ?_); go_simp; refine hK _ ?_; clear hK K))
              refine plan_done ?_
              go_wp2_with fail
              go_meet
              case rel => exact ⟨rfl, hEd.trans hE1⟩
            case rest =>
              obtain ⟨rfl, hE1⟩ := hcut
              replace HI := Lib.hid (HI.out.ext hE1)
              clear hE1 HAN HBN
              have hra := HI.out.ok.2 a (List.mem_of_getElem? HA.out)
              have hrb := HI.out.ok.2 b (List.mem_of_getElem? HB.out)
              by_cases hmb : m ≤ b.n
              · rw [show decide (m ≤ b.n) = true from decide_eq_true hmb]
                go_step
                refine wp_cond_true rfl ?_
                exact cut_succ HI.out HPP.out HAT.out HB.out hmb HJK.out (by rw [HKH.out]; omega)
              · rw [show decide (m ≤ b.n) = false from decide_eq_false hmb]
                have hmr := merge_recut (tb := tb) (i := p) (F := tb :: F) HI.out.node HI.out.ok hm64 hm2 HI.out.hi HA.out HB.out HV0.out (by omega) (fun x hx => HI.out.rlt x (by
                    rcases List.mem_cons.1 hx with rfl | hx
                    · simp
                    · exact List.mem_cons_of_mem _ (List.mem_append_left _ hx))) (by
                    refine (List.Perm.nodup_iff ?_).1 HI.out.nodup
                    rw [List.perm_iff_count]
                    intro a
                    simp only [List.count_append, List.count_cons]
                    omega)
                have HMR := Lib.hid hmr; clear hmr
                have HAB : Hid (m ≤ a.n + b.n + 1) := Lib.hid (by omega)
                clear hra hrb hma hmb Han Hbn hl1 hl2
                go_wp2_with fail
                refine HMR.out.mono ?_
                clear HMR
                rintro e W2 ⟨rfl, c, hcb, hcn, -, hR⟩
                obtain ⟨p1, p2⟩ := pos_cut HI.out.srt.node HPP.out hie
                have HI2 := Lib.hid (HI.out.turn hR (by simp; omega) (by have := HI.out.hi; simp; omega))
                obtain ⟨F', A', B', e9, k9, a1, a2, a3, a4, a5, a6, hD1, hD2⟩ := HI2.out.down p2 (k := c) (by
                  rw [p1]
                  have hjl : (ks.take p).length = p := by rw [List.length_take]; have := HKL.out; omega
                  rw [List.append_assoc, List.getElem?_append_right (by omega), hjl, Nat.sub_self]
                  rfl) (by rw [hcn]; exact HAB.out)
                rw [hcb] at hD1
                have HD1 := Lib.hid hD1; have HD2 := Lib.hid hD2
                clear hD1 hD2 hR p1 p2 hcb hcn HI2
                go_wp2
                exact HJ.out.go h' (by rw [HKH.out]; omega) ⟨_, _, key, _, _, _, _, _, _, _, _, _, _, _, rfl, rfl, HD1.out, HD2.out⟩
end Go.Proofs.Ytkejjahlglldlaa
