/- Two neighbours and the key between them become one node: merge; least: walked. -/
import Derived.Test.YtkejjahlglldlaaMMm
import Derived.Test.YtkejjahlglldlaaMA
namespace Go.Proofs.Ytkejjahlglldlaa
open Go.RowKit Go.Lib

set_option maxRecDepth 100000 in
set_option maxHeartbeats 1000000 in
theorem least_ok (m : Nat) (hm : m ≤ 64) (w : World) :
    Calls Try.prog 113 #[.agg #[.int .i64 (m : Int)]] w fun e w' => e = .returned (.int .i64 ((m : Int) - 1)) ∧ Ext w w' := by
  go_enter Try.func113, Try.ntmps113
  go_wp2
  go_ret
  exact ⟨rfl, (Ext.refl w).alloc _⟩

theorem sK_app (a b : List Ent) : sK (a ++ b) = sK a ++ sK b := by simp [sK]
theorem sV_app (a b : List Ent) : sV (a ++ b) = sV a ++ sV b := by simp [sV]
theorem sP_app (a b : List Nat) : sP (a ++ b) = sP a ++ sP b := by simp [sP]

set_option maxRecDepth 100000 in
set_option maxHeartbeats 8000000 in
theorem merge_ok (tb nb b1 b2 i : Nat) (es e1 e2 : List Ent) (em : Ent) (ps p1 p2 : List Nat) (gk gv gc hk hv hc jk jv jc : Option Nat) (ck cv cc dk dv dc fk fv fc : Nat) (w : World)
    (hN : NodeAt w nb es ps gk gv gc ck cv cc) (h1 : NodeAt w b1 e1 p1 hk hv hc dk dv dc) (h2 : NodeAt w b2 e2 p2 jk jv jc fk fv fc) (hnd : (ownL nb gk gv gc ++ (ownL b1 hk hv hc ++ ownL b2 jk jv jc)).Nodup)
    (hem : es[i]? = some em) (hp1 : ps[i]? = some b1) (hp2 : ps[i + 1]? = some b2) (hl : es.length ≤ 127) (hlp : ps.length ≤ 128) (hl1 : e1.length ≤ 127) (hl2 : e2.length ≤ 127) (hlp1 : p1.length ≤ 128) (hlp2 : p2.length ≤ 128) :
    Calls Try.prog 114 #[.pointer (some ⟨tb, 0, none⟩), .pointer (some ⟨nb, 0, none⟩), .int .i64 (i : Int)] w fun e w' => e = .returned (.pointer (some ⟨b1, 0, none⟩)) ∧
      ∃ g1k g1v g1c c1k c1v c1c, NodeAt w' nb (es.take i ++ es.drop (i + 1)) (ps.take (i + 1) ++ ps.drop (i + 2)) gk gv gc ck cv cc ∧ NodeAt w' b1 (e1 ++ em :: e2) (p1 ++ p2) g1k g1v g1c c1k c1v c1c ∧
        Touch (fun k => k ∈ ownL nb gk gv gc ++ (ownL b1 hk hv hc ++ ownL b2 jk jv jc)) w w' ∧ (ownL nb gk gv gc ++ ownL b1 g1k g1v g1c).Nodup ∧
        ∀ x ∈ ownL b1 g1k g1v g1c, x ∈ ownL nb gk gv gc ++ (ownL b1 hk hv hc ++ ownL b2 jk jv jc) ∨ w.heap.size ≤ x := by
  have HM := Lib.hid (Mm.start3 hN h1 h2 hnd)
  have hil : i < es.length := (List.getElem?_eq_some_iff.1 hem).1
  have hip : i + 1 < ps.length := (List.getElem?_eq_some_iff.1 hp2).1
  obtain ⟨gkb, HGN⟩ : ∃ b, Hid (gk = some b) := hN.keys.some_of_pos (by omega)
  obtain ⟨gvb, HGV⟩ : ∃ b, Hid (gv = some b) := hN.vals.some_of_pos (by omega)
  obtain ⟨gcb, HGC⟩ : ∃ b, Hid (gc = some b) := hN.kids.some_of_pos (by omega)
  clear hN h1 h2 hnd
  have hrk := fun U => run_index_slv (P := Try.prog) ei_string (cap := ck) HGN.out (j := i) (n := es.length) hil U
  have hrv := fun U => run_index_slv (P := Try.prog) ei_int64 (cap := cv) HGV.out (j := i) (n := es.length) hil U
  have hrc := fun U => run_index_slv (P := Try.prog) ei_node (cap := cc) HGC.out (j := i) (n := ps.length) (by omega) U
  have hrc1 := fun U => run_index_slv (P := Try.prog) ei_node (cap := cc) HGC.out (j := i + 1) (n := ps.length) (by omega) U
  have hcast : ((i + 1 : Nat) : Int) = (i : Int) + 1 := rfl
  rw [hcast] at hrc1
  clear hcast
  have hw1 : IntKind.i64.wrap ((i : Int) + 1) = (i : Int) + 1 := by rw [IntKind.wrap_i64]; omega
  have hw2 : IntKind.i64.wrap ((i : Int) + 2) = (i : Int) + 2 := by rw [IntKind.wrap_i64]; omega
  go_enter Try.func114, Try.ntmps114
  obtain ⟨n0, n1, n2⟩ := HM.out.c3 0 (b := nb) (by decide) rfl rfl
  have hc1 := HM.out.el 2 (by decide) rfl HGC.out (sP_get hp1)
  have hc2 := HM.out.el 2 (by decide) rfl HGC.out (sP_get hp2)
  go_wp2
  refine region_calm [.p 0, .p 1, .p 2, .l 3, .p 4, .p 5, .l 6, .p 7, .p 8, .p 9, .l 10, .p 11, .p 12, .p 13, .l 14, .p 15, .p 16] f_mixed (by kernel_rfl) (by kernel_rfl) ?_
  repeat (first | (refine plan_p rfl (fun K hK => ?_); go_simp; refine hK _ ?_; clear hK K) | (refine plan_l rfl (fun K hK => ?_); go_simp; refine hK _ ?_; clear hK K))
  refine plan_done ?_
  clear n0 n1 n2 hc1 hc2
  go_wp2
  letI : Tch.TS := ⟨fun k => hk = some k⟩
  replace HM := Lib.hid ((HM.out.ext (Ext.refl _).drew).ext (Ext.refl _).drew)
  refine Tch.region_calm [.p 0, .p 1, .p 2, .p 3, .e 4, .p 5, .p 6, .p 7, .e 8, .p 9, .p 10, .e 11, .p 14, .p 15, .p 16, .e 17, .h 12 true, .h 13 true, .h 18 false, .p 19, .p 20, .h 21 false] f_mixed (by kernel_rfl) (by kernel_rfl) ?_
  generalize w.drew.drew = W1 at *
  repeat (refine Tch.plan_p rfl (fun K hK => ?_); go_simp; refine hK _ ?_; clear hK K)
  refine Tch.plan_e1 rfl rfl (slv hk e1.length dk) (fun w' he => ?_) (fun K hK => ?_)
  · obtain ⟨k0, k1, k2⟩ := HM.out.c3t (j := 3) (by decide) rfl he 1 (b := b1) (by decide) rfl rfl
    go_simp
  go_simp; refine hK _ ?_; clear hK K
  repeat (refine Tch.plan_p rfl (fun K hK => ?_); go_simp; refine hK _ ?_; clear hK K)
  refine Tch.plan_e1 rfl rfl (slv gk es.length ck) (fun w' he => ?_) (fun K hK => ?_)
  · obtain ⟨n0, n1, n2⟩ := HM.out.c3t (j := 3) (by decide) rfl he 0 (b := nb) (by decide) rfl rfl
    go_simp
  go_simp; refine hK _ ?_; clear hK K
  repeat (refine Tch.plan_p rfl (fun K hK => ?_); go_simp; refine hK _ ?_; clear hK K)
  refine Tch.plan_e1 rfl rfl ((str em.1)) (fun w' he => ?_) (fun K hK => ?_)
  · have hc := HM.out.elt (j := 3) (by decide) rfl he 0 (by decide) (by decide) rfl HGN.out (sK_get hem)
    go_simp
  go_simp; refine hK _ ?_; clear hK K
  repeat (refine Tch.plan_p rfl (fun K hK => ?_); go_simp; refine hK _ ?_; clear hK K)
  refine Tch.plan_e1 rfl rfl (slv jk e2.length fk) (fun w' he => ?_) (fun K hK => ?_)
  · obtain ⟨r0, r1, r2⟩ := HM.out.c3t (j := 3) (by decide) rfl he 2 (b := b2) (by decide) rfl rfl
    go_simp
  go_simp; refine hK _ ?_; clear hK K
  refine Tch.plan_ct rfl rfl (fun K _ hK => ?_)
  go_wp2_with fail
  refine hK _ _ (((Ext.refl _).alloc _).touch _) ?_; clear hK K
  refine Tch.plan_ct rfl rfl (fun K _ hK => ?_)
  refine app_lit ei_string rfl (.tmp 28) (.tmp 36) rfl (g := hk) (n := e1.length) (cap := dk) (xs := sK e1) (b := W1.heap.size) (by rfl) (Sl.ext (HM.out.sd 3 (by decide) rfl) ((Ext.refl _).alloc _)) (by rfl) (news := [(str em.1)]) rfl (blk_new W1 _) (by intro u hu; simp at hu; subst hu; rfl) (by omega) (by omega) ?_
  intro g1 c1 w1 hS hT hat
  go_wp2
  refine hK _ _ hT ?_; clear hK K
  replace HM := Lib.hid ((HM.out.ext ((Ext.refl _).alloc _)).slice (i := 3) (by decide) hS hT (fun x hx => by
    cases hx
    rcases hat with h | h
    · exact .inl h
    · exact .inr (by rw [h]; exact Nat.le_refl _)))
  clear hS hT hat
  refine Tch.plan_c rfl rfl (fun K _ hK => ?_)
  refine app_sl ei_string rfl (.tmp 37) (.tmp 41) rfl (g := some g1) (n := e1.length + 1) (cap := c1) (xs := sK e1 ++ [(str em.1)]) (g2 := jk) (m := e2.length) (c := fk) (news := sK e2) (by rfl) (HM.out.sd 3 (by decide) rfl) (by rfl) (HM.out.sd 6 (by decide) rfl) (sK_one e2) (by omega) ?_
  intro g2 c2 w2 hS hT hat
  obtain ⟨g3, hg3⟩ := hS.some_of_pos (by omega)
  subst hg3
  go_wp2
  replace HM := Lib.hid (HM.out.slice (i := 3) (by decide) hS hT (fun x hx => by
    rcases hat with h | h
    · exact .inl (h ▸ hx)
    · exact .inr (by rw [h] at hx; cases hx; exact Nat.le_refl _)))
  clear hS hT hat
  repeat (refine Tch.plan_p rfl (fun K hK => ?_); go_simp; refine hK _ ?_; clear hK K)
  refine Tch.plan_c rfl rfl (fun K _ hK => ?_)
  obtain ⟨k0, k1, k2⟩ := HM.out.c3 1 (b := b1) (by decide) rfl rfl
  have hz := HM.out.fz 1 (b := b1) (by decide) rfl 0
  go_wp2
  clear k0 k1 k2 hz
  replace HM := Lib.hid (show Mm _ _ _ _ _ _ _ (w2.setCell ⟨b1, 0, none⟩ (slv (some g3) (e1.length + 1 + e2.length) c2)) from HM.out.head (i := 1) (by decide) 0 (slv (some g3) (e1.length + 1 + e2.length) c2))
  refine tch_done ?_
  generalize w2.setCell ⟨b1, 0, none⟩ (slv (some g3) (e1.length + 1 + e2.length) c2) = WA at *
  clear w1 w2
  go_wp2
  clear this
  letI : Tch.TS := ⟨fun k => hv = some k⟩
  replace HM := Lib.hid (HM.out.ext (Ext.refl _).drew)
  refine Tch.region_calm [.p 0, .p 1, .p 2, .p 3, .e 4, .p 5, .p 6, .p 7, .e 8, .p 9, .p 10, .e 11, .p 14, .p 15, .p 16, .e 17, .h 12 true, .h 13 true, .h 18 false, .p 19, .p 20, .h 21 false] f_mixed (by kernel_rfl) (by kernel_rfl) ?_
  generalize WA.drew = W1 at *
  repeat (refine Tch.plan_p rfl (fun K hK => ?_); go_simp; refine hK _ ?_; clear hK K)
  refine Tch.plan_e1 rfl rfl (slv hv e1.length dv) (fun w' he => ?_) (fun K hK => ?_)
  · obtain ⟨k0, k1, k2⟩ := HM.out.c3t (j := 4) (by decide) rfl he 1 (b := b1) (by decide) rfl rfl
    go_simp
  go_simp; refine hK _ ?_; clear hK K
  repeat (refine Tch.plan_p rfl (fun K hK => ?_); go_simp; refine hK _ ?_; clear hK K)
  refine Tch.plan_e1 rfl rfl (slv gv es.length cv) (fun w' he => ?_) (fun K hK => ?_)
  · obtain ⟨n0, n1, n2⟩ := HM.out.c3t (j := 4) (by decide) rfl he 0 (b := nb) (by decide) rfl rfl
    go_simp
  go_simp; refine hK _ ?_; clear hK K
  repeat (refine Tch.plan_p rfl (fun K hK => ?_); go_simp; refine hK _ ?_; clear hK K)
  refine Tch.plan_e1 rfl rfl ((Value.int .i64 em.2)) (fun w' he => ?_) (fun K hK => ?_)
  · have hc := HM.out.elt (j := 4) (by decide) rfl he 1 (by decide) (by decide) rfl HGV.out (sV_get hem)
    go_simp
  go_simp; refine hK _ ?_; clear hK K
  repeat (refine Tch.plan_p rfl (fun K hK => ?_); go_simp; refine hK _ ?_; clear hK K)
  refine Tch.plan_e1 rfl rfl (slv jv e2.length fv) (fun w' he => ?_) (fun K hK => ?_)
  · obtain ⟨r0, r1, r2⟩ := HM.out.c3t (j := 4) (by decide) rfl he 2 (b := b2) (by decide) rfl rfl
    go_simp
  go_simp; refine hK _ ?_; clear hK K
  refine Tch.plan_ct rfl rfl (fun K _ hK => ?_)
  go_wp2_with fail
  refine hK _ _ (((Ext.refl _).alloc _).touch _) ?_; clear hK K
  refine Tch.plan_ct rfl rfl (fun K _ hK => ?_)
  refine app_lit ei_int64 rfl (.tmp 49) (.tmp 57) rfl (g := hv) (n := e1.length) (cap := dv) (xs := sV e1) (b := W1.heap.size) (by rfl) (Sl.ext (HM.out.sd 4 (by decide) rfl) ((Ext.refl _).alloc _)) (by rfl) (news := [(Value.int .i64 em.2)]) rfl (blk_new W1 _) (by intro u hu; simp at hu; subst hu; rfl) (by omega) (by omega) ?_
  intro g1 c1 w1 hS hT hat
  go_wp2
  refine hK _ _ hT ?_; clear hK K
  replace HM := Lib.hid ((HM.out.ext ((Ext.refl _).alloc _)).slice (i := 4) (by decide) hS hT (fun x hx => by
    cases hx
    rcases hat with h | h
    · exact .inl h
    · exact .inr (by rw [h]; exact Nat.le_refl _)))
  clear hS hT hat
  refine Tch.plan_c rfl rfl (fun K _ hK => ?_)
  refine app_sl ei_int64 rfl (.tmp 58) (.tmp 62) rfl (g := some g1) (n := e1.length + 1) (cap := c1) (xs := sV e1 ++ [(Value.int .i64 em.2)]) (g2 := jv) (m := e2.length) (c := fv) (news := sV e2) (by rfl) (HM.out.sd 4 (by decide) rfl) (by rfl) (HM.out.sd 7 (by decide) rfl) (sV_one e2) (by omega) ?_
  intro g2 c2 w2 hS hT hat
  obtain ⟨g3, hg3⟩ := hS.some_of_pos (by omega)
  subst hg3
  go_wp2
  replace HM := Lib.hid (HM.out.slice (i := 4) (by decide) hS hT (fun x hx => by
    rcases hat with h | h
    · exact .inl (h ▸ hx)
    · exact .inr (by rw [h] at hx; cases hx; exact Nat.le_refl _)))
  clear hS hT hat
  repeat (refine Tch.plan_p rfl (fun K hK => ?_); go_simp; refine hK _ ?_; clear hK K)
  refine Tch.plan_c rfl rfl (fun K _ hK => ?_)
  obtain ⟨k0, k1, k2⟩ := HM.out.c3 1 (b := b1) (by decide) rfl rfl
  have hz := HM.out.fz 1 (b := b1) (by decide) rfl 1
  go_wp2
  clear k0 k1 k2 hz
  replace HM := Lib.hid (show Mm _ _ _ _ _ _ _ (w2.setCell ⟨b1, 1, none⟩ (slv (some g3) (e1.length + 1 + e2.length) c2)) from HM.out.head (i := 1) (by decide) 1 (slv (some g3) (e1.length + 1 + e2.length) c2))
  refine tch_done ?_
  generalize w2.setCell ⟨b1, 1, none⟩ (slv (some g3) (e1.length + 1 + e2.length) c2) = WB at *
  clear w1 w2
  go_wp2
  clear this
  replace HM := Lib.hid (HM.out.ext (Ext.refl _).drew)
  obtain ⟨k0, k1, k2⟩ := HM.out.c3 1 (b := b1) (by decide) rfl rfl
  obtain ⟨r0, r1, r2⟩ := HM.out.c3 2 (b := b2) (by decide) rfl rfl
  refine region_calm [.p 0, .p 1, .p 2, .p 3, .l 4, .p 5, .p 6, .p 7, .l 8, .h 9 false, .p 10, .p 11, .h 12 false] f_mixed (by kernel_rfl) (by kernel_rfl) ?_
  generalize WB.drew = W1 at *
  repeat (first | (refine plan_p rfl (fun K hK => ?_); go_simp; refine hK _ ?_; clear hK K) | (refine plan_l rfl (fun K hK => ?_); go_simp; refine hK _ ?_; clear hK K))
  clear k0 k1 k2 r0 r1 r2
  refine plan_c rfl rfl (fun K _ hK => ?_)
  refine app_sl ei_node rfl (.tmp 70) (.tmp 74) rfl (g := hc) (n := p1.length) (cap := dc) (xs := sP p1) (g2 := jc) (m := p2.length) (c := fc) (news := sP p2) (by rfl) (HM.out.sd 5 (by decide) rfl) (by rfl) (HM.out.sd 8 (by decide) rfl) (sP_one p2) (by omega) ?_
  intro g1c c1c w2 hS hT hat
  go_wp2
  replace HM := Lib.hid (HM.out.slice (i := 5) (by decide) hS hT (fun x hx => by
    rcases hat with h | h
    · exact .inl (h ▸ hx)
    · exact .inr (by rw [h] at hx; cases hx; exact Nat.le_refl _)))
  clear hS hT hat
  obtain ⟨k0, k1, k2⟩ := HM.out.c3 1 (b := b1) (by decide) rfl rfl
  have hz := HM.out.fz 1 (b := b1) (by decide) rfl 2
  repeat (first | (refine plan_p rfl (fun K hK => ?_); go_simp; refine hK _ ?_; clear hK K) | (refine plan_l rfl (fun K hK => ?_); go_simp; refine hK _ ?_; clear hK K))
  refine plan_c rfl rfl (fun K _ hK => ?_)
  go_wp2
  clear k0 k1 k2 hz
  replace HM := Lib.hid (show Mm _ _ _ _ _ _ _ (w2.setCell ⟨b1, 2, none⟩ (slv g1c (p1.length + p2.length) c1c)) from HM.out.head (i := 1) (by decide) 2 (slv g1c (p1.length + p2.length) c1c))
  refine plan_done ?_
  generalize w2.setCell ⟨b1, 2, none⟩ (slv g1c (p1.length + p2.length) c1c) = WC at *
  clear w2
  go_wp2
  letI : Tch.TS := ⟨fun k => gk = some k⟩
  replace HM := Lib.hid (HM.out.ext (Ext.refl _).drew)
  refine Tch.region_calm [.p 0, .p 1, .p 2, .p 3, .p 4, .e 5, .p 6, .p 7, .p 8, .p 10, .p 11, .p 12, .e 13, .p 14, .p 15, .p 16, .h 9 true, .h 17 false, .p 18, .p 19, .h 20 false, .p 21, .p 22, .h 23 false] f_mixed (by kernel_rfl) (by kernel_rfl) ?_
  generalize WC.drew = W1 at *
  repeat (refine Tch.plan_p rfl (fun K hK => ?_); go_simp; refine hK _ ?_; clear hK K)
  refine Tch.plan_e1 rfl rfl (slv gk es.length ck) (fun w' he => ?_) (fun K hK => ?_)
  · obtain ⟨n0, n1, n2⟩ := HM.out.c3t (j := 0) (by decide) rfl he 0 (b := nb) (by decide) rfl rfl
    go_simp
  go_simp; refine hK _ ?_; clear hK K
  repeat (refine Tch.plan_p rfl (fun K hK => ?_); go_simp; refine hK _ ?_; clear hK K)
  refine Tch.plan_e1 rfl rfl (slv gv es.length cv) (fun w' he => ?_) (fun K hK => ?_)
  · obtain ⟨n0, n1, n2⟩ := HM.out.c3t (j := 0) (by decide) rfl he 0 (b := nb) (by decide) rfl rfl
    go_simp
  go_simp; refine hK _ ?_; clear hK K
  repeat (refine Tch.plan_p rfl (fun K hK => ?_); go_simp; refine hK _ ?_; clear hK K)
  refine Tch.plan_ct rfl rfl (fun K _ hK => ?_)
  go_wp2_with fail
  refine (DelS_at (g := gk) (n := es.length) (cap := ck) (xs := sK es) (HM.out.sd 0 (by decide) rfl) hil rfl rfl (sK_one es)).mono ?_
  rintro e w3 ⟨rfl, hS, hT⟩
  go_wp2_with fail
  refine hK _ _ hT ?_; clear hK K
  replace HM := Lib.hid (HM.out.slice (i := 0) (by decide) hS hT (fun x hx => .inl hx))
  clear hS hT
  refine Tch.plan_c rfl rfl (fun K _ hK => ?_)
  go_wp2_with fail
  refine (DelI_at (g := gv) (n := es.length) (cap := cv) (xs := sV es) (HM.out.sd 1 (by decide) rfl) hil rfl rfl (sV_one es)).mono ?_
  rintro e w4 ⟨rfl, hS, hT⟩
  go_wp2_with fail
  replace HM := Lib.hid (HM.out.slice (i := 1) (by decide) hS hT (fun x hx => .inl hx))
  clear hS hT
  obtain ⟨n0, n1, n2⟩ := HM.out.c3 0 (b := nb) (by decide) rfl rfl
  have hz := HM.out.fz 0 (b := nb) (by decide) rfl 0
  have hz1 := HM.out.fz 0 (b := nb) (by decide) rfl 1
  repeat (refine Tch.plan_p rfl (fun K hK => ?_); go_simp; refine hK _ ?_; clear hK K)
  refine Tch.plan_c rfl rfl (fun K _ hK => ?_)
  go_wp2_with fail
  clear n0 n1 n2 hz hz1
  replace HM := Lib.hid (show Mm _ _ _ _ _ _ _ (w4.setCell ⟨nb, 0, none⟩ (slv gk (es.length - 1) ck)) from HM.out.head (i := 0) (by decide) 0 (slv gk (es.length - 1) ck))
  generalize w4.setCell ⟨nb, 0, none⟩ (slv gk (es.length - 1) ck) = W5 at *
  have hz1 := HM.out.fz 0 (b := nb) (by decide) rfl 1
  obtain ⟨n0, n1, n2⟩ := HM.out.c3 0 (b := nb) (by decide) rfl rfl
  repeat (refine Tch.plan_p rfl (fun K hK => ?_); go_simp; refine hK _ ?_; clear hK K)
  refine Tch.plan_c rfl rfl (fun K _ hK => ?_)
  go_wp2_with fail
  clear n0 n1 n2 hz1
  replace HM := Lib.hid (show Mm _ _ _ _ _ _ _ (W5.setCell ⟨nb, 1, none⟩ (slv gv (es.length - 1) cv)) from HM.out.head (i := 0) (by decide) 1 (slv gv (es.length - 1) cv))
  refine tch_done ?_
  generalize W5.setCell ⟨nb, 1, none⟩ (slv gv (es.length - 1) cv) = WD at *
  clear w3 w4 W5
  obtain ⟨n0, n1, n2⟩ := HM.out.c3 0 (b := nb) (by decide) rfl rfl
  go_wp2_with fail
  refine (DelN_at (g := gc) (n := ps.length) (cap := cc) (i := i + 1) (xs := sP ps) (HM.out.sd 2 (by decide) rfl) hip rfl (by omega) (sP_one ps)).mono ?_
  rintro e w6 ⟨rfl, hS, hT⟩
  clear n0 n1 n2
  replace HM := Lib.hid (HM.out.slice (i := 2) (by decide) hS hT (fun x hx => .inl hx))
  clear hS hT
  obtain ⟨n0, n1, n2⟩ := HM.out.c3 0 (b := nb) (by decide) rfl rfl
  have hz := HM.out.fz 0 (b := nb) (by decide) rfl 2
  go_wp2
  clear n0 n1 n2 hz
  replace HM := Lib.hid (show Mm _ _ _ _ _ _ _ (w6.setCell ⟨nb, 2, none⟩ (slv gc (ps.length - 1) cc)) from HM.out.head (i := 0) (by decide) 2 (slv gc (ps.length - 1) cc))
  go_ret
  have hl3 : es.length - 1 = (es.take i ++ es.drop (i + 1)).length := by simp; omega
  have hl4 : ps.length - 1 = (ps.take (i + 1) ++ ps.drop (i + 2)).length := by simp; omega
  have hN := HM.out.node 0 (b := nb) (es := es.take i ++ es.drop (i + 1)) (ps := ps.take (i + 1) ++ ps.drop (i + 2)) (by decide) (by decide) rfl rfl rfl rfl rfl hl3 hl3 hl4 (by simp [sK]) (by simp [sV]) (by simp [sP])
  have hK1 := HM.out.node 1 (b := b1) (es := e1 ++ em :: e2) (ps := p1 ++ p2) (by decide) (by decide) rfl rfl rfl rfl rfl (by simp; omega) (by simp; omega) (by simp) (by simp [sK]) (by simp [sV]) (by simp [sP])
  refine ⟨rfl, _, _, _, _, _, _, hN, hK1, HM.out.touch, nodup_drop (HM.out.nd3 (nb := nb) (b1 := b1) (b2 := b2) rfl rfl rfl rfl rfl rfl rfl rfl rfl rfl rfl rfl), HM.out.sub 1 (by decide) (by decide) rfl rfl rfl rfl⟩
end Go.Proofs.Ytkejjahlglldlaa
