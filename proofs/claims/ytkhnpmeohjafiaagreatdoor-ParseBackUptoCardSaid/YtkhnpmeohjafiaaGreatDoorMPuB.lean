/- annalslaw15.ParseBack: walked at every input. -/
import Derived.Test.YtkhnpmeohjafiaaGreatDoorMX3
import Derived.Test.YtkhnpmeohjafiaaGreatDoorMPuV
import Derived.Test.YtkhnpmeohjafiaaGreatDoorMPuS
import Derived.Test.YtkhnpmeohjafiaaGreatDoorMU
namespace Go.Proofs.YtkhnpmeohjafiaaGreatDoor
open Go.RowKit

theorem ls_ones {α : Type} {K : Kd α} {w : World} {A : Nat → Prop} : ∀ {fl : List Value} {xs : List α}, LsC K w A fl xs → ∀ u ∈ fl, u.oneCell' = true
  | fl, [], h => by have : fl = [] := h; subst this; simp
  | fl, x :: xs, h => by
    obtain ⟨c, r, rfl, h1, h2⟩ := h
    intro u hu
    rcases List.mem_append.1 hu with hu | hu
    · exact K.one h1 u hu
    · exact ls_ones h2 u hu
set_option maxRecDepth 100000 in
set_option maxHeartbeats 32000000 in
theorem back_any (l : List UInt8) (w : World) (hg : Gl w) (hl : l.length ≤ 1048576) :
    Calls Tryz.prog 4 #[str l] w (fun e w' => e = .returned (.bool true) ∧ Ext w w') := by
  have HG := Lib.hid hg
  have HL := Lib.hid hl
  obtain ⟨x, hx⟩ : ∃ x, stOf (parseOf l) = x := ⟨_, rfl⟩
  obtain ⟨f1, hf1⟩ : ∃ x, (flOf (parseOf l)).1 = x := ⟨_, rfl⟩
  obtain ⟨f2, hf2⟩ : ∃ x, (flOf (parseOf l)).2 = x := ⟨_, rfl⟩
  have HX := Lib.hid hx
  have HF1 := Lib.hid hf1
  have HF2 := Lib.hid hf2
  clear hg hx hf1 hf2
  go_enter Tryz.func4, Tryz.ntmps4
  go_wp2_with fail
  refine (awake_ok w HG.out).mono ?_
  rintro e w1 ⟨rfl, hE1⟩
  have HE1 := Lib.hid hE1
  clear hE1
  go_wp2_with fail
  refine (Parse_any l w1 (by omega) x f1 f2 HX.out HF1.out HF2.out).mono ?_
  rintro e w2 ⟨hE, gg1, gg2, gg3, gg4, gg5, gg6, gg7, gg8, gg9, gg10, cc1, cc2, cc3, cc4, cc5, cc6, cc7, cc8, cc9, cc10, rfl, hok⟩
  have HO2 := Lib.hid hok
  have HE2 := Lib.hid hE
  clear hE hok
  by_cases hf : f1 = 0
  · have HFF := Lib.hid hf
    have HP : Hid (parseOf l = .inr x) := Lib.hid (by
      obtain ⟨x', hx'⟩ := fl_ok (HF1.out.trans hf)
      have : x' = x := by have := HX.out; rw [hx'] at this; exact this
      rw [hx', this])
    have HWF : Hid (WfS x) := Lib.hid (parse_wf HP.out)
    have HSZ : Hid (szS x ≤ 100000000) := Lib.hid (parse_sz HP.out)
    obtain ⟨tt, htt⟩ : ∃ z, printT x = z := ⟨_, rfl⟩
    have HTT := Lib.hid htt
    have HTL : Hid (tt.length ≤ 1000000000) := Lib.hid (by have h1 := printT_len HWF.out; have h2 := HSZ.out; rw [htt] at h1; omega)
    clear htt
    subst hf
    go_wp2_with fail
    have HU : Hid (Ext w2 ((w2.alloc (.cells #[str x.kind, str x.table, slv gg1 x.columns.length cc1, slv gg2 x.keys.length cc2, slv gg3 x.values.length cc3, slv gg4 x.sets.length cc4, .int .i64 (x.period.1 : Int), .int .i64 (x.period.2 : Int), slv gg5 x.cond.length cc5, slv gg6 x.query.length cc6, slv gg7 x.ops.length cc7, slv gg8 x.asOf.length cc8, slv gg9 x.during.length cc9, slv gg10 x.order.length cc10] 33)).alloc (.cells #[.int .i64 0, .int .i64 (f2 : Int)] 36))) := Lib.hid (((Ext.refl w2).alloc _).alloc _)
    have HB1 : Hid (((w2.alloc (.cells #[str x.kind, str x.table, slv gg1 x.columns.length cc1, slv gg2 x.keys.length cc2, slv gg3 x.values.length cc3, slv gg4 x.sets.length cc4, .int .i64 (x.period.1 : Int), .int .i64 (x.period.2 : Int), slv gg5 x.cond.length cc5, slv gg6 x.query.length cc6, slv gg7 x.ops.length cc7, slv gg8 x.asOf.length cc8, slv gg9 x.during.length cc9, slv gg10 x.order.length cc10] 33)).alloc (.cells #[.int .i64 0, .int .i64 (f2 : Int)] 36)).heap[w2.heap.size]? = some (.cells #[str x.kind, str x.table, slv gg1 x.columns.length cc1, slv gg2 x.keys.length cc2, slv gg3 x.values.length cc3, slv gg4 x.sets.length cc4, .int .i64 (x.period.1 : Int), .int .i64 (x.period.2 : Int), slv gg5 x.cond.length cc5, slv gg6 x.query.length cc6, slv gg7 x.ops.length cc7, slv gg8 x.asOf.length cc8, slv gg9 x.during.length cc9, slv gg10 x.order.length cc10] 33 (0, 0))) := Lib.hid (blk_alloc (blk_new _ _))
    have HB2 : Hid (((w2.alloc (.cells #[str x.kind, str x.table, slv gg1 x.columns.length cc1, slv gg2 x.keys.length cc2, slv gg3 x.values.length cc3, slv gg4 x.sets.length cc4, .int .i64 (x.period.1 : Int), .int .i64 (x.period.2 : Int), slv gg5 x.cond.length cc5, slv gg6 x.query.length cc6, slv gg7 x.ops.length cc7, slv gg8 x.asOf.length cc8, slv gg9 x.during.length cc9, slv gg10 x.order.length cc10] 33)).alloc (.cells #[.int .i64 0, .int .i64 (f2 : Int)] 36)).heap[w2.heap.size + 1]? = some (.cells #[.int .i64 0, .int .i64 (f2 : Int)] 36 (0, 0))) := Lib.hid (blk_new_at _ (by simp))
    refine (Print_ok x HWF.out HSZ.out ⟨slv gg1 x.columns.length cc1, slv gg2 x.keys.length cc2, slv gg3 x.values.length cc3, slv gg4 x.sets.length cc4, slv gg5 x.cond.length cc5, slv gg6 x.query.length cc6, slv gg7 x.ops.length cc7, slv gg8 x.asOf.length cc8, slv gg9 x.during.length cc9, slv gg10 x.order.length cc10⟩ ((w2.alloc (.cells #[str x.kind, str x.table, slv gg1 x.columns.length cc1, slv gg2 x.keys.length cc2, slv gg3 x.values.length cc3, slv gg4 x.sets.length cc4, .int .i64 (x.period.1 : Int), .int .i64 (x.period.2 : Int), slv gg5 x.cond.length cc5, slv gg6 x.query.length cc6, slv gg7 x.ops.length cc7, slv gg8 x.asOf.length cc8, slv gg9 x.during.length cc9, slv gg10 x.order.length cc10] 33)).alloc (.cells #[.int .i64 0, .int .i64 (f2 : Int)] 36)) (HG.out.ext (HE1.out.trans (HE2.out.trans HU.out))) (HO2.out.keep (A' := fun _ => True) (fun b hb _ => ⟨Below.block HU.out b hb, trivial⟩))).mono ?_
    rintro e w3 ⟨rfl, hE3⟩
    rw [HTT.out]
    have HE3 := Lib.hid (HU.out.trans hE3)
    have HB1' := Lib.hid (Ext.block hE3 HB1.out)
    have HB2' := Lib.hid (Ext.block hE3 HB2.out)
    clear hE3
    obtain ⟨y, hy⟩ : ∃ y, stOf (parseOf tt) = y := ⟨_, rfl⟩
    obtain ⟨g1, hg1⟩ : ∃ y, (flOf (parseOf tt)).1 = y := ⟨_, rfl⟩
    obtain ⟨g2, hg2⟩ : ∃ y, (flOf (parseOf tt)).2 = y := ⟨_, rfl⟩
    have HY := Lib.hid hy
    have HG1 := Lib.hid hg1
    have HG2 := Lib.hid hg2
    clear hy hg1 hg2
    go_wp2_with fail
    refine (Parse_any tt w3 HTL.out y g1 g2 HY.out HG1.out HG2.out).mono ?_
    rintro e w4 ⟨hE4, mg1, mg2, mg3, mg4, mg5, mg6, mg7, mg8, mg9, mg10, mc1, mc2, mc3, mc4, mc5, mc6, mc7, mc8, mc9, mc10, rfl, hok4⟩
    have HO4 := Lib.hid hok4
    have HE4 := Lib.hid hE4
    obtain ⟨a0, a1, a2, a3, a4, a5, a6, a7, a8, a9, a10, a11, a12, a13⟩ := blk14 (Ext.block hE4 HB1'.out)
    obtain ⟨b0, b1⟩ := blk2 (Ext.block hE4 HB2'.out)
    have la : w2.heap.size < w4.heap.size := blk_lt (Ext.block hE4 HB1'.out)
    have lb : w2.heap.size + 1 < w4.heap.size := blk_lt (Ext.block hE4 HB2'.out)
    clear hE4 hok4
    have hnn := bs_size tt
    by_cases hlong : 4096 < tt.length
    · have hg : g1 = 2 := by have := HG1.out; rw [parse_long hlong] at this; exact this.symm
      have hgi : (4096 : Int) < (tt.length : Int) := by omega
      subst hg
      go_wp2
      go_ret
      exact ⟨rfl, ((HE1.out.trans (HE2.out.trans (HE3.out.trans HE4.out))).alloc _).alloc _⟩
    · have hgi : ¬ (4096 : Int) < (tt.length : Int) := by omega
      have HNL := Lib.hid hlong
      have HPP : Hid (parseOf tt = .inr x) := Lib.hid (by rw [← HTT.out]; exact parse_print HWF.out (by rw [HTT.out]; omega))
      have hyx : x = y := by have := HY.out; rw [HPP.out] at this; exact this
      have hg : g1 = 0 := by have := HG1.out; rw [HPP.out] at this; exact this.symm
      subst hyx hg
      clear hlong
      go_wp2
      refine region_calm [.p 1, .l 2, .p 4, .l 5, .p 8, .h 0 true, .h 3 true, .h 6 false, .p 7] f_mixed (by kernel_rfl) (by kernel_rfl) ?_
      repeat (first | (refine plan_p rfl (fun K hK => ?_); go_simp; refine hK _ ?_; clear hK K) | (refine plan_l rfl (fun K hK => ?_); go_simp; refine hK _ ?_; clear hK K))
      refine plan_ct rfl rfl (fun K _ hK => ?_)
      go_wp2
      refine hK _ _ ((Ext.refl _).alloc _) ?_; clear hK K
      refine plan_at (F := fun W => Ext w4 W ∧ W.heap[w4.heap.size]? = some (.cells #[str x.kind, str x.table, slv mg1 x.columns.length mc1, slv mg2 x.keys.length mc2, slv mg3 x.values.length mc3, slv mg4 x.sets.length mc4, .int .i64 (x.period.1 : Int), .int .i64 (x.period.2 : Int), slv mg5 x.cond.length mc5, slv mg6 x.query.length mc6, slv mg7 x.ops.length mc7, slv mg8 x.asOf.length mc8, slv mg9 x.during.length mc9, slv mg10 x.order.length mc10] 33 (0, 0)) ∧ W.heap[w4.heap.size + 1]? = some (.cells #[.int .i64 0, .int .i64 (g2 : Int)] 36 (0, 0)) ∧ W.heap[w4.heap.size + 1 + 1]? = some (.cells #[] 45 (0, 0))) ⟨?_, ?_, ?_, ?_⟩ ?_
      · exact ((((Ext.refl w4).alloc _).alloc _).alloc _).drew
      · exact blk_dr (blk_alloc (blk_alloc (blk_new _ _)))
      · exact blk_dr (blk_alloc (blk_new_at _ (by simp)))
      · exact blk_dr (blk_new_at _ (by simp))
      rintro W ⟨hW, hB3, hB4, hB5⟩
      have HW := Lib.hid hW
      have HB3 := Lib.hid hB3
      have HB4 := Lib.hid hB4
      have HB5 := Lib.hid hB5
      clear hW hB3 hB4 hB5 a0 a1 a2 a3 a4 a5 a6 a7 a8 a9 a10 a11 a12 a13 b0 b1 la lb
      obtain ⟨gv, cv, fv, hv1, hv2, hv3⟩ := HO2.out.val.rd
      obtain ⟨rfl, rfl⟩ := slv_inj hv1
      obtain ⟨gw, cw, fw, hw1, hw2, hw3⟩ := HO2.out.cond.rd
      obtain ⟨rfl, rfl⟩ := slv_inj hw1
      have HE24 := Lib.hid (HE3.out.trans (HE4.out.trans HW.out))
      have HSV := Lib.hid (hv2.ext HE24.out)
      have HSW := Lib.hid (hw2.ext HE24.out)
      have HLV := Lib.hid hv3
      have HLW := Lib.hid hw3
      have HN := exL_sz HSZ.out
      clear hv1 hv2 hv3 hw1 hw2 hw3
      refine plan_ct rfl rfl (fun K _ hK => ?_)
      refine app_empty ei_ex rfl (.tmp 51) (.tmp 53) rfl (b := w4.heap.size + 1 + 1) (by rfl) HB5.out (by rfl) HSW.out (ls_ones HLW.out) (by have := HN.1; unfold exL at this; rw [List.length_append] at this; omega) ?_
      intro g6 cap6 W6 hS6 hE6 hat6
      have HE6 := Lib.hid hE6
      have HS6 := Lib.hid hS6
      have HAT6 := Lib.hid hat6
      refine hK _ _ (hE6) ?_; clear hK K
      clear hS6 hE6 hat6
      refine plan_c rfl rfl (fun K _ hK => ?_)
      refine app_sl ei_ex rfl (.tmp 54) (.tmp 56) rfl (by rfl) HS6.out (by rfl) (HSV.out.ext HE6.out) (ls_ones HLV.out) (by have := HN.1; unfold exL at this; rw [List.length_append] at this; omega) ?_
      intro g7 cap7 W7 hS7 hT7 hat7
      have HLEN : Hid (x.cond.length + x.values.length = (exL x).length) := Lib.hid (by unfold exL; rw [List.length_append])
      rw [HLEN.out] at hS7 ⊢
      have HX7 : Hid (Ext w4 W7) := Lib.hid (Touch.ext (S := fun _ => False) (((HW.out.trans HE6.out).touch _).trans' hT7 fun k hlt hk => by
        have h1 := HW.out.size
        rcases HAT6.out k hk with h | h <;> omega) fun _ _ h => h)
      have hnk : ∀ k, k < w4.heap.size + 1 + 1 → ¬ g6 = some k := fun k hk h => by
        have h1 := blk_lt HB5.out
        rcases HAT6.out k h with h | h <;> omega
      have HB3' := Lib.hid (hT7.old (Ext.block HE6.out HB3.out) (hnk _ (by omega)))
      have HB4' := Lib.hid (hT7.old (Ext.block HE6.out HB4.out) (hnk _ (by omega)))
      have HRD : Hid (Rd ExK 45 W7 (slv g7 (exL x).length cap7) (exL x)) := Lib.hid (by
        refine ⟨g7, cap7, fw ++ fv, rfl, hS7, ?_⟩
        have hk : Ext w2 W7 := HE3.out.trans (HE4.out.trans HX7.out)
        exact LsC.append _ (LsC.keep _ (fun b hb _ => ⟨Below.block hk b hb, trivial⟩) _ _ HLW.out) (LsC.keep _ (fun b hb _ => ⟨Below.block hk b hb, trivial⟩) _ _ HLV.out))
      have HNX := Lib.hid HN
      have HHG := Lib.hid (HG.out.ext (HE1.out.trans (HE2.out.trans (HE3.out.trans (HE4.out.trans HX7.out)))))
      have hnle := HN.1
      clear hT7 hat7 hS7 hnk HN HSV HSW HLV HLW HS6 HAT6 HB3 HB4 HB5 HLEN HE24
      refine hK _ _ ?_; clear hK K
      repeat (first | (refine plan_p rfl (fun K hK => ?_); go_simp; refine hK _ ?_; clear hK K) | (refine plan_l rfl (fun K hK => ?_); go_simp; refine hK _ ?_; clear hK K))
      refine plan_done ?_
      go_wp2
      go_loopg [59] (exL x).length (fun gk vj wr => ∃ j : Nat, j + gk = (exL x).length ∧ vj = .int .i64 (j : Int) ∧ Ext W7 wr)
      case atStart => exact ⟨0, by omega, rfl, Ext.refl _⟩
      case round =>
        obtain ⟨j, hjk, rfl, hE⟩ := hrel
        have HJK := Lib.hid hjk
        have HEJ := Lib.hid hE
        clear hjk hE
        by_cases hj : j < (exL x).length
        · obtain ⟨e, he⟩ : ∃ e, (exL x)[j]? = some e := ⟨_, List.getElem?_eq_getElem hj⟩
          have HGE := Lib.hid (exL_ok HWF.out e (List.mem_of_getElem? he))
          have HSE := Lib.hid (HNX.out.2 e (List.mem_of_getElem? he))
          obtain ⟨ga, ca, ba, csa, hva, hga, hla, hca, hcc⟩ := (HRD.out.ext HEJ.out).at he
          obtain ⟨rfl, rfl⟩ := slv_inj hva
          have HCA := Lib.hid hca
          obtain ⟨et, het⟩ : ∃ z, textE e = z := ⟨_, rfl⟩
          have HET := Lib.hid het
          have hel : et.length ≤ 100000000 := by have h1 := textE_len HGE.out.1; have h2 := HSE.out; rw [het] at h1; omega
          obtain ⟨s1, h1⟩ : ∃ z : Str, z = [83, 69, 76, 69, 67, 84, 32, 65, 32, 70, 82, 79, 77, 32, 84, 32, 87, 72, 69, 82, 69, 32] ++ et := ⟨_, rfl⟩
          have hc1 : ∀ u : World, (Op.stringOp .add ⟨#[83, 69, 76, 69, 67, 84, 32, 65, 32, 70, 82, 79, 77, 32, 84, 32, 87, 72, 69, 82, 69, 32]⟩ (bs et)).run Tryz.prog u = .ok (str s1) u := fun u => by rw [h1]; exact cat_ok [83, 69, 76, 69, 67, 84, 32, 65, 32, 70, 82, 79, 77, 32, 84, 32, 87, 72, 69, 82, 69, 32] et u (by simp only [List.length_cons, List.length_nil]; omega)
          have HL1 : Hid (s1.length ≤ 1000000000) := Lib.hid (by rw [h1, List.length_append]; simp only [List.length_cons, List.length_nil]; omega)
          have HBK : Hid (s1.length ≤ 4096 → parseOf s1 = .inr (qWhere e)) := Lib.hid (by rw [h1, ← het]; exact where_back HGE.out)
          have HTE := Lib.hid (Text_ok HGE.out.1 HSE.out)
          clear h1 het hel
          obtain ⟨op, n, t, o, args⟩ := e
          obtain ⟨gx, cx, fx, rfl, -⟩ := hca
          have d0 : wr.cell? ⟨ba, j * 5, none⟩ = some (str op) := hcc 0 (by decide) _ rfl
          have d1 : wr.cell? ⟨ba, j * 5 + 1, none⟩ = some (.int .i64 (n : Int)) := hcc 1 (by decide) _ rfl
          have d2 : wr.cell? ⟨ba, j * 5 + 2, none⟩ = some (str t) := hcc 2 (by decide) _ rfl
          have d3 : wr.cell? ⟨ba, j * 5 + 3, none⟩ = some (str o) := hcc 3 (by decide) _ rfl
          have d4 : wr.cell? ⟨ba, j * 5 + 4, none⟩ = some (slv gx args.length cx) := hcc 4 (by decide) _ rfl
          have z1 : ∀ u : World, (Instr.indexAt 25 (slv g7 (exL x).length cap7) (.int .i64 (j : Int))).run Tryz.prog u = .ok (.pointer (some ⟨ba, j * 5, none⟩)) u := fun u => run_index_slv ei_ex (cap := cap7) hga hj u
          clear he hva hga hcc hla
          go_wp2_with fail
          have HWA : Hid (Ext wr (wr.alloc (.cells #[str op, .int .i64 (n : Int), str t, str o, slv gx args.length cx] 45))) := Lib.hid ((Ext.refl wr).alloc _)
          have HB9 : Hid ((wr.alloc (.cells #[str op, .int .i64 (n : Int), str t, str o, slv gx args.length cx] 45)).heap[wr.heap.size]? = some (.cells #[str op, .int .i64 (n : Int), str t, str o, slv gx args.length cx] 45 (0, 0))) := Lib.hid (blk_new _ _)
          refine (HTE.out (exCells op n t o (slv gx args.length cx)) (wr.alloc (.cells #[str op, .int .i64 (n : Int), str t, str o, slv gx args.length cx] 45)) (HHG.out.ext (HEJ.out.trans HWA.out)) (ExC.ext HCA.out HWA.out)).mono ?_
          rintro r w8 ⟨rfl, hE8⟩
          rw [HET.out]
          have HE8 := Lib.hid (HWA.out.trans hE8)
          have HB9' := Lib.hid (Ext.block hE8 HB9.out)
          clear hE8 d0 d1 d2 d3 d4 z1
          obtain ⟨y3, hy3⟩ : ∃ y, stOf (parseOf s1) = y := ⟨_, rfl⟩
          obtain ⟨k1, hk1⟩ : ∃ y, (flOf (parseOf s1)).1 = y := ⟨_, rfl⟩
          obtain ⟨k2, hk2⟩ : ∃ y, (flOf (parseOf s1)).2 = y := ⟨_, rfl⟩
          have HY3 := Lib.hid hy3
          have HK1 := Lib.hid hk1
          have HK2 := Lib.hid hk2
          have hs1 := bs_size s1
          clear hy3 hk1 hk2
          go_wp2_with fail
          refine (Parse_any s1 w8 HL1.out y3 k1 k2 HY3.out HK1.out HK2.out).mono ?_
          rintro e10 w10 ⟨hE10, ng1, ng2, ng3, ng4, ng5, ng6, ng7, ng8, ng9, ng10, nc1, nc2, nc3, nc4, nc5, nc6, nc7, nc8, nc9, nc10, rfl, hok10⟩
          have HO10 := Lib.hid hok10
          have HE10 := Lib.hid hE10
          have hB9 := Ext.block hE10 HB9'.out
          have HBX := Lib.hid hB9
          have p0 := blk_cell (i := 0) hB9 rfl
          have p1 := blk_cell (i := 1) hB9 rfl
          have p2 := blk_cell (i := 2) hB9 rfl
          have p3 := blk_cell (i := 3) hB9 rfl
          have p4 := blk_cell (i := 4) hB9 rfl
          have la9 : wr.heap.size < w10.heap.size := blk_lt hB9
          have lb9 : wr.heap.size < w10.heap.size + 1 := by omega
          clear hE10 hok10 hB9
          by_cases hshort : s1.length ≤ 4096
          · have hsi : (s1.length : Int) ≤ 4096 := by omega
            have hpq := HBK.out hshort
            have hyq : y3 = qWhere (.mk op n t o args) := by have := HY3.out; rw [hpq] at this; exact this.symm
            have hk0 : k1 = 0 := by have := HK1.out; rw [hpq] at this; exact this.symm
            obtain ⟨q, hq, hqc⟩ : ∃ q, y3.query = [q] ∧ q.cond = [.mk op n t o args] := by rw [hyq]; exact ⟨_, rfl, rfl⟩
            have HQC := Lib.hid hqc
            have hqn : ((y3.query.length : Int) != 1) = false := by simp [hq]
            obtain ⟨ga, ca, bq, csa, hva, hga, hla, hca, hcc⟩ := HO10.out.qu.rd.at (i := 0) (x := q) (by rw [hq]; rfl)
            obtain ⟨rfl, rfl⟩ := slv_inj hva
            obtain ⟨via, vta, vca, rfl, -, -, hvc⟩ := hca
            have HVC := Lib.hid hvc.rd
            obtain ⟨gz, cz, rfl⟩ := hvc.slice
            have d6 : w10.cell? ⟨bq, 6, none⟩ = some (slv gz q.cond.length cz) := hcc 6 (by decide) _ rfl
            have z2 : ∀ v : World, (Instr.indexAt 29 (slv ng6 y3.query.length nc6) (.int .i64 0)).run Tryz.prog v = .ok (.pointer (some ⟨bq, 0, none⟩)) v := fun v => run_index_slv ei_qu (cap := nc6) (j := 0) hga (by rw [hq]; simp) v
            have lq : bq < w10.heap.size + 1 := by omega
            subst hk0
            clear hyq hpq hvc hcc hga hva hq hqc hshort
            go_wp2
            refine region_calm [.p 0, .p 1, .p 2, .p 3, .p 4, .l 5, .p 6, .p 7, .p 8, .l 9, .p 10, .p 11, .p 12, .p 13, .p 14, .l 15, .p 16, .p 17, .l 18, .l 19, .h 20 true, .h 21 false, .p 22, .p 23, .p 24] f_mixed (by kernel_rfl) (by kernel_rfl) ?_
            repeat (first | (refine plan_p rfl (fun K hK => ?_); go_simp; refine hK _ ?_; clear hK K) | (refine plan_l rfl (fun K hK => ?_); go_simp; refine hK _ ?_; clear hK K))
            refine plan_t rfl (fun K hK => ?_)
            go_wp2
            refine hK _ _ ((Ext.refl _).alloc _) ?_; clear hK K
            refine plan_h rfl (fun K hK => ?_)
            go_wp2_with fail
            refine (exprs_same (slv gz q.cond.length cz) _ q.cond _ ?r1 ?r2).mono ?_
            case r1 => exact HVC.out.ext ((((Ext.refl w10).alloc _).alloc _).alloc _).drew
            case r2 =>
              rw [HQC.out]
              refine (VLA.one (A := fun _ => True) ExK (cs := exCells op n t o (slv gx args.length cx)) (blk_dr (blk_new_at _ (by simp))) (ExK.keep (w := wr) (A := fun _ => True) (fun b hb _ => ⟨?_, trivial, ?_⟩) _ _ HCA.out) trivial).rd
              · exact Below.block (HE8.out.trans (HE10.out.trans ((((Ext.refl w10).alloc _).alloc _).alloc _).drew)) b hb
              · omega
            rintro e11 w11 ⟨rfl, hE11⟩
            have HE11 := Lib.hid (HE8.out.trans (HE10.out.trans (((((Ext.refl w10).alloc _).alloc _).alloc _).drew.trans hE11)))
            clear hE11 d6 z2 p0 p1 p2 p3 p4
            go_wp2_with fail
            repeat (first | (refine plan_p rfl (fun K hK => ?_); go_simp; refine hK _ ?_; clear hK K) | (refine plan_l rfl (fun K hK => ?_); go_simp; refine hK _ ?_; clear hK K))
            refine plan_done ?_
            go_wp2
            go_roundg (gk - 1)
            case measure => have := HJK.out; omega
            case rel => exact ⟨j + 1, by have := HJK.out; omega, by go_num, HEJ.out.trans HE11.out⟩
          · have hsd : decide ((s1.length : Int) ≤ 4096) = false := by simp; omega
            clear hshort
            go_wp2
            refine region_calm [.p 0, .p 1, .p 2, .p 3, .p 4, .l 5, .p 6, .p 7, .p 8, .l 9, .p 10, .p 11, .p 12, .p 13, .p 14, .l 15, .p 16, .p 17, .l 18, .l 19, .h 20 true, .h 21 false, .p 22, .p 23, .p 24] f_mixed (by kernel_rfl) (by kernel_rfl) ?_
            repeat (first | (refine plan_p rfl (fun K hK => ?_); go_simp; refine hK _ ?_; clear hK K) | (refine plan_l rfl (fun K hK => ?_); go_simp; refine hK _ ?_; clear hK K))
            refine plan_t rfl (fun K hK => ?_)
            go_wp2
            refine hK _ _ ((Ext.refl _)) ?_; clear hK K
            refine plan_h rfl (fun K hK => ?_)
            go_wp2
            repeat (first | (refine plan_p rfl (fun K hK => ?_); go_simp; refine hK _ ?_; clear hK K) | (refine plan_l rfl (fun K hK => ?_); go_simp; refine hK _ ?_; clear hK K))
            refine plan_done ?_
            go_wp2
            go_roundg (gk - 1)
            case measure => have := HJK.out; omega
            case rel => exact ⟨j + 1, by have := HJK.out; omega, by go_num, HEJ.out.trans (HE8.out.trans (HE10.out.trans ((((Ext.refl w10).alloc _).alloc _).drew)))⟩
        · obtain ⟨a0, a1, a2, a3, a4, a5, a6, a7, a8, a9, a10, a11, a12, a13⟩ := blk14 (Ext.block (HE4.out.trans (HX7.out.trans HEJ.out)) HB1'.out)
          obtain ⟨c0, c1, c2, c3, c4, c5, c6, c7, c8, c9, c10, c11, c12, c13⟩ := blk14 (Ext.block HEJ.out HB3'.out)
          obtain ⟨e0, e1⟩ := blk2 (Ext.block HEJ.out HB4'.out)
          go_wp2_with fail
          refine (Same_ok x ⟨slv gg1 x.columns.length cc1, slv gg2 x.keys.length cc2, slv gg3 x.values.length cc3, slv gg4 x.sets.length cc4, slv gg5 x.cond.length cc5, slv gg6 x.query.length cc6, slv gg7 x.ops.length cc7, slv gg8 x.asOf.length cc8, slv gg9 x.during.length cc9, slv gg10 x.order.length cc10⟩ ⟨slv mg1 x.columns.length mc1, slv mg2 x.keys.length mc2, slv mg3 x.values.length mc3, slv mg4 x.sets.length mc4, slv mg5 x.cond.length mc5, slv mg6 x.query.length mc6, slv mg7 x.ops.length mc7, slv mg8 x.asOf.length mc8, slv mg9 x.during.length mc9, slv mg10 x.order.length mc10⟩ wr (HO2.out.keep (A' := fun _ => True) (fun b hb _ => ⟨Below.block (HE3.out.trans (HE4.out.trans (HX7.out.trans HEJ.out))) b hb, trivial⟩)) (HO4.out.keep (A' := fun _ => True) (fun b hb _ => ⟨Below.block (HX7.out.trans HEJ.out) b hb, trivial⟩))).mono ?_
          rintro e w12 ⟨rfl, hE12⟩
          have HE12 := Lib.hid (HEJ.out.trans hE12)
          have hB3 := Ext.block hE12 (Ext.block HEJ.out HB3'.out)
          clear hE12 a0 a1 a2 a3 a4 a5 a6 a7 a8 a9 a10 a11 a12 a13 c0 c1 c2 c3 c4 c5 c6 c7 c8 c9 c10 c11 c12 c13 e0 e1
          obtain ⟨c0, c1, c2, c3, c4, c5, c6, c7, c8, c9, c10, c11, c12, c13⟩ := blk14 hB3
          clear hB3
          go_wp2_with fail
          refine (Print_ok x HWF.out HSZ.out ⟨slv mg1 x.columns.length mc1, slv mg2 x.keys.length mc2, slv mg3 x.values.length mc3, slv mg4 x.sets.length mc4, slv mg5 x.cond.length mc5, slv mg6 x.query.length mc6, slv mg7 x.ops.length mc7, slv mg8 x.asOf.length mc8, slv mg9 x.during.length mc9, slv mg10 x.order.length mc10⟩ w12 (HHG.out.ext HE12.out) (HO4.out.keep (A' := fun _ => True) (fun b hb _ => ⟨Below.block (HX7.out.trans HE12.out) b hb, trivial⟩))).mono ?_
          rintro e w13 ⟨rfl, hE13⟩
          rw [HTT.out]
          have HE13 := Lib.hid (HE12.out.trans hE13)
          have hbs := bs_toList
          clear hE13 c0 c1 c2 c3 c4 c5 c6 c7 c8 c9 c10 c11 c12 c13
          go_wp2
          go_ret
          exact ⟨rfl, HE1.out.trans (HE2.out.trans (HE3.out.trans (HE4.out.trans (HX7.out.trans HE13.out))))⟩
  · obtain ⟨p, hp⟩ : ∃ p, parseOf l = .inl p := by
      cases hr : parseOf l with
      | inl p => exact ⟨p, rfl⟩
      | inr y => exact absurd (by have := HF1.out; rw [hr] at this; exact this.symm) hf
    have hk : x.kind = [] := by have := HX.out; rw [hp] at this; rw [← this]; rfl
    have hke : (bs x.kind).toList = [] := by rw [hk]; exact bs_toList []
    have h2 : (0 : Int) ≤ (f2 : Int) := by omega
    have h3 : (f2 : Int) ≤ (l.length : Int) := by
      have := (parse_fault hp).2
      have h4 := HF2.out
      rw [hp] at h4
      have h5 : p.2 = f2 := h4
      omega
    have hnn : (bs l).size = l.length := bs_size l
    clear hp hk
    go_wp2
    go_ret
    exact ⟨rfl, ((HE1.out.trans HE2.out).alloc _).alloc _⟩
end Go.Proofs.YtkhnpmeohjafiaaGreatDoor
