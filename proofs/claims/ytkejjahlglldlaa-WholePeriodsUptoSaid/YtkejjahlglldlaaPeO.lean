/- annalstop.WholePeriods: walked. -/
import Derived.Test.YtkejjahlglldlaaPeN
import Derived.Test.YtkejjahlglldlaaFrk
namespace Go.Proofs.Ytkejjahlglldlaa
open Go.RowKit

theorem pers_block {w : World} {b : Nat} {ps : List Per} {e : TypeId} {f : Nat × Nat} (h : w.heap[b]? = some (.cells (flatQ ps).toArray e f)) : Pers w (some ⟨b, 0, none⟩) ps := fun _ => by
  refine ⟨b, 0, rfl, fun i q hq => ?_⟩
  obtain ⟨h0, h1⟩ := flatQ_get ps i q hq
  rw [Nat.zero_add]
  exact ⟨blk_cell h (by simpa using h0), blk_cell h (by simpa using h1)⟩
theorem fork_u {P : Program} {ops : Array Oper} {Q : Exit → Act → World → Prop} {i : Nat} {o : Oper} {t : PT} {a : Act} {w : World} {r : List Oper} (ho : ops.toList.drop i = o :: r)
    (h : ∀ K : Act → World → Prop, (∀ a' w', Ext w w' → wpPT P ops Q t a' w' → K a' w') → wpList P ops (Exit.then K (calm Q)) [o] a w) :
    wpOp P ops (calm Q) i (fun a' w' => (True → Ext w w') ∧ wpPT P ops Q t a' w') a w :=
  wpOp_mono (K := fun a' w' => Ext w w' ∧ wpPT P ops Q t a' w') (fun _ _ h => ⟨fun _ => h.1, h.2⟩) (wpOp_of_list ho (h _ fun _ _ h1 h2 => ⟨h1, h2⟩))
theorem canon03 : Canon [((0 : Int), (3 : Int))] := ⟨by simp [okP], by simp⟩
theorem uni_small {out : List Per} (h : IsUni [((0 : Int), (2 : Int)), (2, 3)] out) : out = [(0, 3)] := by
  refine canon_unique h.can canon03 fun t => ?_
  rw [h.pts t, okL_ok (by simp [okP])]
  simp only [Pts, List.mem_cons, List.not_mem_nil, or_false]
  constructor
  · rintro ⟨q, rfl | rfl, h1, h2⟩
    · exact ⟨_, rfl, by simp only at *; omega, by simp only at *; omega⟩
    · exact ⟨_, rfl, by simp only at *; omega, by simp only at *; omega⟩
  · rintro ⟨q, rfl, h1, h2⟩
    simp only at h1 h2
    by_cases h3 : t < 2
    · exact ⟨_, .inl rfl, h1, h3⟩
    · exact ⟨_, .inr rfl, by simp only; omega, h2⟩
theorem uni_one {out : List Per} (h : IsUni [((0 : Int), (3 : Int))] out) : out = [(0, 3)] := canon_unique h.can canon03 fun t => by rw [h.pts t, okL_ok (by simp [okP])]
set_option maxRecDepth 100000 in
set_option maxHeartbeats 32000000 in
theorem periods_any (a z : Int) (sv : Option Addr) (n cap : Nat) (ps : List Per) (w : World) (hn : ps.length = n) (hp : Pers w sv ps) (hnil : sv = none → n = 0) (hsz : n ≤ 1048576) :
    Calls Try.prog 5 #[perV (a, z), .slice sv n cap] w (fun e w' => e = .returned (.bool true) ∧ Ext w w') := by
  have HN := Lib.hid hn; clear hn
  have HP := Lib.hid hp; clear hp
  go_enter Try.func5, Try.ntmps5
  go_wp2_with fail
  refine (one_ok (some ⟨w.heap.size + 1, 0, none⟩) 2 2 [(0, 2), (2, 3)] _ rfl (pers_block (blk_new_at _ (by simp))) (by omega)).mono ?_
  rintro e w1 ⟨g1, c1, rfl, hF1, _, hE1⟩
  have HX : Hid (Ext w w1) := (((Ext.refl w).alloc _).alloc _).trans hE1
  have HPB : Hid (w1.heap[w.heap.size]? = some (.cells #[.int .i64 a, .int .i64 z] 45 (0, 0))) := Ext.block hE1 (blk_alloc (blk_new w _))
  have HF1 := Lib.hid hF1
  clear hF1 hE1
  go_wp2_with fail
  refine (Coalesce_ok g1 2 c1 [(0, 2), (2, 3)] _ HF1.out (by omega)).mono ?_
  rintro e w2 ⟨g2, m2, c2, out2, rfl, hF2, hu2, _, _, hE⟩
  obtain rfl := uni_small hu2
  obtain rfl : 1 = m2 := hF2.count
  replace HX := Lib.hid (HX.out.trans hE)
  replace HPB := Lib.hid (Ext.block hE HPB.out)
  obtain ⟨b, rv, x, y, e1, l1, p1, rr, c0, c1', c2'⟩ := FSl.at' hF2 (i := 0) (by omega)
  obtain ⟨rb, rc, rfl, _⟩ := rr.out
  simp at p1
  obtain ⟨rfl, rfl⟩ := p1
  rw [Nat.zero_mul] at c0 c1' c2'
  have z0 : ∀ u, (Instr.indexAt 65 (slv g2 1 c2) (.int .i64 0)).run Try.prog u = .ok (.pointer (some ⟨b, 0, none⟩)) u := fun u => by simpa using run_index_slv ei_fact (cap := c2) e1 (j := 0) (by omega) u
  clear hE hu2 hF2 e1 rr HF1
  go_wp2_with fail
  refine (Union_ok (some ⟨w2.heap.size, 0, none⟩) 1 1 [(0, 3)] _ rfl (pers_block (blk_new _ _)) (by simp) (by omega)).mono ?_
  rintro e w3 ⟨g3, m3, c3, out3, rfl, hS3, hu3, _, _, hE⟩
  obtain rfl := uni_one hu3
  obtain rfl : 1 = m3 := hS3.count
  replace hE := ((Ext.refl w2).alloc _).trans hE
  replace HX := Lib.hid (HX.out.trans hE)
  replace HPB := Lib.hid (Ext.block hE HPB.out)
  clear hE hu3 hS3 z0 c0 c1' c2' l1
  go_wp2_with fail
  refine (Union_ok sv n cap ps _ HN.out (HP.out.ext HX.out) hnil (by omega)).mono ?_
  rintro e w4 ⟨g4, m4, c4, u, rfl, hU, hu, hmu, _, hE⟩
  rw [HN.out] at hmu
  replace HX := Lib.hid (HX.out.trans hE)
  replace HPB := Lib.hid (Ext.block hE HPB.out)
  have HU := Lib.hid hU
  have HUU := Lib.hid hu
  clear hU hu hE
  go_wp2_with fail
  refine (one_ok (adr g4) m4 c4 u _ HU.out.count HU.out.pers (by omega)).mono ?_
  rintro e w5 ⟨g5, c5, rfl, hF5, _, hE⟩
  replace HX := Lib.hid (HX.out.trans hE)
  replace HPB := Lib.hid (Ext.block hE HPB.out)
  have H5 := Lib.hid hF5
  clear hF5 hE HU
  obtain ⟨q0, q1⟩ := blk2 HPB.out
  go_wp2_with fail
  refine (Minus_ok a z sv n cap ps _ HN.out (HP.out.ext HX.out) hnil (by omega)).mono ?_
  rintro e w6 ⟨g6, m6, c6, left, rfl, hL, hl, hml, _, hE⟩
  rw [HN.out] at hml
  replace HX := Lib.hid (HX.out.trans hE)
  replace HPB := Lib.hid (Ext.block hE HPB.out)
  replace H5 := Lib.hid (H5.out.ext hE)
  have HLS := Lib.hid hL
  have HL := Lib.hid hl
  clear hL hl hE q0 q1
  go_wp2_with fail
  refine (one_ok (adr g6) m6 c6 left _ HLS.out.count HLS.out.pers (by omega)).mono ?_
  rintro e w7 ⟨g7, c7, rfl, hF7, _, hE⟩
  replace HX := Lib.hid (HX.out.trans hE).drew
  replace HPB : Hid (w7.drew.heap[w.heap.size]? = _) := Lib.hid (Ext.block hE HPB.out)
  replace H5 := Lib.hid (H5.out.ext hE.drew)
  have H7 := Lib.hid (hF7.ext (Ext.refl w7).drew)
  clear hF7 hE HLS
  go_wp2
  refine region_fork (.fork [.p 0, .p 3, .h 1 false, .h 2 false, .h 4 false, .p 5, .l 6, .p 9, .p 12, .h 7 false, .h 8 false, .h 10 false, .h 11 false, .h 13 false, .p 14, .p 15, .p 16, .l 18, .l 21, .p 24] 17 true (.fork [] 19 true (.fork [] 20 true (.leaf [.h 22 true, .h 23 false, .h 25 false, .h 26 false, .h 27 false, .p 28, .p 29]) 22 true (.leaf [.h 20 true, .h 23 false, .h 25 false, .h 26 false, .h 27 false, .p 28, .p 29])) 22 true (.leaf [.h 19 true, .h 20 true, .h 23 false, .h 25 false, .h 26 false, .h 27 false, .p 28, .p 29])) 22 true (.leaf [.h 17 true, .h 19 true, .h 20 true, .h 23 false, .h 25 false, .h 26 false, .h 27 false, .p 28, .p 29])) f_mixed (by kernel_rfl) ?_
  refine fork_split ?_
  repeat (first | (refine plan_p rfl (fun K hK => ?_); go_simp; refine hK _ ?_; clear hK K) | (refine plan_l rfl (fun K hK => ?_); go_simp; refine hK _ ?_; clear hK K))
  refine plan_c rfl rfl (fun K _ hK => ?_)
  go_wp2_with fail
  refine (one_ok sv n cap ps _ HN.out (HP.out.ext HX.out) (by omega)).mono ?_
  rintro e w8 ⟨g8, c8, rfl, hFA, _, hE⟩
  replace HX := Lib.hid (HX.out.trans hE)
  replace H7 := Lib.hid (H7.out.ext hE)
  (try replace HPB := Lib.hid (Ext.block hE HPB.out))
  (try replace HB := Lib.hid (Ext.block hE HB.out))
  (try replace HA := Lib.hid (HA.out.ext hE))
  (try replace HC := Lib.hid (HC.out.ext hE))
  (try replace HD := Lib.hid (HD.out.ext hE))
  (try replace HF := Lib.hid (HF.out.ext hE))
  (try replace HG := Lib.hid (HG.out.ext hE))
  replace H5 := Lib.hid (H5.out.ext hE)
  have HA := Lib.hid hFA
  clear hFA hE
  go_wp2_with fail
  refine plan_c rfl rfl (fun K _ hK => ?_)
  go_wp2_with fail
  refine (Coalesce_ok g8 n c8 ps _ HA.out (by omega)).mono ?_
  rintro e w9 ⟨g9, m9, c9, out9, rfl, hF9, hu9, _, _, hE⟩
  clear HA
  replace HX := Lib.hid (HX.out.trans hE)
  replace H7 := Lib.hid (H7.out.ext hE)
  (try replace HPB := Lib.hid (Ext.block hE HPB.out))
  (try replace HB := Lib.hid (Ext.block hE HB.out))
  (try replace HA := Lib.hid (HA.out.ext hE))
  (try replace HC := Lib.hid (HC.out.ext hE))
  (try replace HD := Lib.hid (HD.out.ext hE))
  (try replace HF := Lib.hid (HF.out.ext hE))
  (try replace HG := Lib.hid (HG.out.ext hE))
  replace H5 := Lib.hid (H5.out.ext hE)
  obtain rfl := hu9.eq HUU.out (fun t => Iff.rfl)
  obtain rfl : m9 = m4 := by rw [← hF9.count, ← H5.out.count]
  have H9 := Lib.hid hF9
  clear hF9 hu9 hE
  go_wp2_with fail
  refine plan_c rfl rfl (fun K _ hK => ?_)
  go_wp2_with fail
  refine (SameF_ok g9 g5 m9 c9 c5 out9 _ H9.out H5.out (by omega)).mono ?_
  rintro e w10 ⟨rfl, hE⟩
  clear H5 H9
  replace HX := Lib.hid (HX.out.trans hE)
  replace H7 := Lib.hid (H7.out.ext hE)
  (try replace HPB := Lib.hid (Ext.block hE HPB.out))
  (try replace HB := Lib.hid (Ext.block hE HB.out))
  (try replace HA := Lib.hid (HA.out.ext hE))
  (try replace HC := Lib.hid (HC.out.ext hE))
  (try replace HD := Lib.hid (HD.out.ext hE))
  (try replace HF := Lib.hid (HF.out.ext hE))
  (try replace HG := Lib.hid (HG.out.ext hE))
  clear hE
  obtain ⟨q0, q1⟩ := blk2 HPB.out
  go_wp2_with fail
  repeat (first | (refine plan_p rfl (fun K hK => ?_); go_simp; refine hK _ ?_; clear hK K) | (refine plan_l rfl (fun K hK => ?_); go_simp; refine hK _ ?_; clear hK K))
  refine plan_h rfl (fun K hK => ?_)
  have hE : Ext w10 (w10.alloc (.cells #[.int .i64 a, .int .i64 z] 45)) := (Ext.refl _).alloc _
  replace HX := Lib.hid (HX.out.trans hE)
  replace H7 := Lib.hid (H7.out.ext hE)
  (try replace HPB := Lib.hid (Ext.block hE HPB.out))
  (try replace HB := Lib.hid (Ext.block hE HB.out))
  (try replace HA := Lib.hid (HA.out.ext hE))
  (try replace HC := Lib.hid (HC.out.ext hE))
  (try replace HD := Lib.hid (HD.out.ext hE))
  (try replace HF := Lib.hid (HF.out.ext hE))
  (try replace HG := Lib.hid (HG.out.ext hE))
  have HB : Hid ((w10.alloc (.cells #[.int .i64 a, .int .i64 z] 45)).heap[w10.heap.size]? = some (.cells (flatQ [(a, z)]).toArray 45 (0, 0))) := blk_new _ _
  clear hE
  go_wp2_with fail
  clear q0 q1
  refine plan_h rfl (fun K hK => ?_)
  go_wp2_with fail
  refine (one_ok (some ⟨_, 0, none⟩) 1 1 [(a, z)] _ rfl (pers_block HB.out) (by omega)).mono ?_
  rintro e w11 ⟨g11, c11, rfl, hF11, _, hE⟩
  clear HB
  replace HX := Lib.hid (HX.out.trans hE)
  replace H7 := Lib.hid (H7.out.ext hE)
  (try replace HPB := Lib.hid (Ext.block hE HPB.out))
  (try replace HB := Lib.hid (Ext.block hE HB.out))
  (try replace HA := Lib.hid (HA.out.ext hE))
  (try replace HC := Lib.hid (HC.out.ext hE))
  (try replace HD := Lib.hid (HD.out.ext hE))
  (try replace HF := Lib.hid (HF.out.ext hE))
  (try replace HG := Lib.hid (HG.out.ext hE))
  have H11 := Lib.hid hF11
  clear hF11 hE
  go_wp2_with fail
  refine plan_h rfl (fun K hK => ?_)
  go_wp2_with fail
  refine (one_ok sv n cap ps _ HN.out (HP.out.ext HX.out) (by omega)).mono ?_
  rintro e w12 ⟨g12, c12, rfl, hF12, _, hE⟩
  replace HX := Lib.hid (HX.out.trans hE)
  replace H7 := Lib.hid (H7.out.ext hE)
  (try replace HPB := Lib.hid (Ext.block hE HPB.out))
  (try replace HB := Lib.hid (Ext.block hE HB.out))
  (try replace HA := Lib.hid (HA.out.ext hE))
  (try replace HC := Lib.hid (HC.out.ext hE))
  (try replace HD := Lib.hid (HD.out.ext hE))
  (try replace HF := Lib.hid (HF.out.ext hE))
  (try replace HG := Lib.hid (HG.out.ext hE))
  replace H11 := Lib.hid (H11.out.ext hE)
  have H12 := Lib.hid hF12
  clear hF12 hE
  go_wp2_with fail
  refine plan_h rfl (fun K hK => ?_)
  go_wp2_with fail
  refine (Except_ok (a, z) g11 c11 g12 n c12 ps _ H11.out H12.out (by omega)).mono ?_
  rintro e w13 ⟨g13, m13, c13, x13, rfl, hF13, hx13, _, _, hE⟩
  clear H11 H12
  replace HX := Lib.hid (HX.out.trans hE)
  replace H7 := Lib.hid (H7.out.ext hE)
  (try replace HPB := Lib.hid (Ext.block hE HPB.out))
  (try replace HB := Lib.hid (Ext.block hE HB.out))
  (try replace HA := Lib.hid (HA.out.ext hE))
  (try replace HC := Lib.hid (HC.out.ext hE))
  (try replace HD := Lib.hid (HD.out.ext hE))
  (try replace HF := Lib.hid (HF.out.ext hE))
  (try replace HG := Lib.hid (HG.out.ext hE))
  obtain rfl := min_eq HL.out hx13
  obtain rfl : m13 = m6 := by rw [← hF13.count, ← H7.out.count]
  have H13 := Lib.hid hF13
  clear hF13 hx13 hE
  go_wp2_with fail
  refine plan_h rfl (fun K hK => ?_)
  go_wp2_with fail
  refine (SameF_ok g13 g7 m13 c13 c7 left _ H13.out H7.out (by omega)).mono ?_
  rintro e w14 ⟨rfl, hE⟩
  clear H13
  replace HX := Lib.hid (HX.out.trans hE)
  replace H7 := Lib.hid (H7.out.ext hE)
  (try replace HPB := Lib.hid (Ext.block hE HPB.out))
  (try replace HB := Lib.hid (Ext.block hE HB.out))
  (try replace HA := Lib.hid (HA.out.ext hE))
  (try replace HC := Lib.hid (HC.out.ext hE))
  (try replace HD := Lib.hid (HD.out.ext hE))
  (try replace HF := Lib.hid (HF.out.ext hE))
  (try replace HG := Lib.hid (HG.out.ext hE))
  clear hE
  obtain ⟨q0, q1⟩ := blk2 HPB.out
  go_wp2_with fail
  repeat (first | (refine plan_p rfl (fun K hK => ?_); go_simp; refine hK _ ?_; clear hK K) | (refine plan_l rfl (fun K hK => ?_); go_simp; refine hK _ ?_; clear hK K))
  clear q0 q1
  refine fork_end ?_ ?_
  · show wpOp _ _ _ _ _ _ _
    first | refine fork_t rfl (fun K hK => ?_) | refine fork_u rfl (fun K hK => ?_)
    go_wp2_with fail
    refine (one_ok sv n cap ps _ HN.out (HP.out.ext HX.out) (by omega)).mono ?_
    rintro e wA ⟨gA, cA, rfl, hFA, _, hE⟩
    replace HX := Lib.hid (HX.out.trans hE)
    replace H7 := Lib.hid (H7.out.ext hE)
    (try replace HPB := Lib.hid (Ext.block hE HPB.out))
    (try replace HB := Lib.hid (Ext.block hE HB.out))
    (try replace HA := Lib.hid (HA.out.ext hE))
    (try replace HC := Lib.hid (HC.out.ext hE))
    (try replace HD := Lib.hid (HD.out.ext hE))
    (try replace HF := Lib.hid (HF.out.ext hE))
    (try replace HG := Lib.hid (HG.out.ext hE))
    have HA := Lib.hid hFA
    go_wp2_with fail
    refine hK _ _ hE ?_
    clear hK K hE hFA
    refine fork_now ?_ ?_
    · show wpOp _ _ _ _ _ _ _
      first | refine fork_t rfl (fun K hK => ?_) | refine fork_u rfl (fun K hK => ?_)
      go_wp2_with fail
      refine (Clip_ok gA n cA ps a z _ HA.out (by omega)).mono ?_
      rintro e wC ⟨gC, mC, cC, nrm, rfl, hFC, hokC, hptC, hmC, _, hE⟩
      clear HA
      replace HX := Lib.hid (HX.out.trans hE)
      replace H7 := Lib.hid (H7.out.ext hE)
      (try replace HPB := Lib.hid (Ext.block hE HPB.out))
      (try replace HB := Lib.hid (Ext.block hE HB.out))
      (try replace HA := Lib.hid (HA.out.ext hE))
      (try replace HC := Lib.hid (HC.out.ext hE))
      (try replace HD := Lib.hid (HD.out.ext hE))
      (try replace HF := Lib.hid (HF.out.ext hE))
      (try replace HG := Lib.hid (HG.out.ext hE))
      have HC := Lib.hid hFC
      have HOKC := Lib.hid hokC
      have HPTC := Lib.hid hptC
      go_wp2_with fail
      refine hK _ _ hE ?_
      clear hK K hE hFC hokC hptC
      refine fork_now ?_ ?_
      · show wpOp _ _ _ _ _ _ _
        first | refine fork_t rfl (fun K hK => ?_) | refine fork_u rfl (fun K hK => ?_)
        go_wp2_with fail
        have HCC := Lib.hid HC.out.count
        refine (Coalesce_ok gC mC cC nrm _ HC.out hmC).mono ?_
        rintro e wD ⟨gD, mD, cD, d1, rfl, hFD, huD, hmD, _, hE⟩
        clear HC
        replace HX := Lib.hid (HX.out.trans hE)
        replace H7 := Lib.hid (H7.out.ext hE)
        (try replace HPB := Lib.hid (Ext.block hE HPB.out))
        (try replace HB := Lib.hid (Ext.block hE HB.out))
        (try replace HA := Lib.hid (HA.out.ext hE))
        (try replace HC := Lib.hid (HC.out.ext hE))
        (try replace HD := Lib.hid (HD.out.ext hE))
        (try replace HF := Lib.hid (HF.out.ext hE))
        (try replace HG := Lib.hid (HG.out.ext hE))
        have HD := Lib.hid hFD
        have HUD := Lib.hid huD
        have HMD : Hid (mD ≤ 2199023255552) := by have h := HCC.out; exact Nat.le_trans hmD (h ▸ hmC)
        go_wp2_with fail
        refine hK _ _ hE ?_
        clear hK K hE hFD huD hmD
        refine fork_leaf ?_
        first | refine plan_t rfl (fun K hK => ?_) | refine plan_t rfl (fun K hK => ?_)
        have hE : Ext wD (wD.alloc (.cells #[.int .i64 a, .int .i64 z] 45)) := (Ext.refl _).alloc _
        replace HX := Lib.hid (HX.out.trans hE)
        replace H7 := Lib.hid (H7.out.ext hE)
        (try replace HPB := Lib.hid (Ext.block hE HPB.out))
        (try replace HB := Lib.hid (Ext.block hE HB.out))
        (try replace HA := Lib.hid (HA.out.ext hE))
        (try replace HC := Lib.hid (HC.out.ext hE))
        (try replace HD := Lib.hid (HD.out.ext hE))
        (try replace HF := Lib.hid (HF.out.ext hE))
        (try replace HG := Lib.hid (HG.out.ext hE))
        have HB : Hid ((wD.alloc (.cells #[.int .i64 a, .int .i64 z] 45)).heap[wD.heap.size]? = some (.cells (flatQ [(a, z)]).toArray 45 (0, 0))) := blk_new _ _
        go_wp2_with fail
        refine hK _ _ hE ?_
        clear hK K hE
        refine plan_h rfl (fun K hK => ?_)
        go_wp2_with fail
        refine (one_ok (some ⟨_, 0, none⟩) 1 1 [(a, z)] _ rfl (pers_block HB.out) (by omega)).mono ?_
        rintro e wF ⟨gF, cF, rfl, hFF, _, hE⟩
        clear HB
        replace HX := Lib.hid (HX.out.trans hE)
        replace H7 := Lib.hid (H7.out.ext hE)
        (try replace HPB := Lib.hid (Ext.block hE HPB.out))
        (try replace HB := Lib.hid (Ext.block hE HB.out))
        (try replace HA := Lib.hid (HA.out.ext hE))
        (try replace HC := Lib.hid (HC.out.ext hE))
        (try replace HD := Lib.hid (HD.out.ext hE))
        (try replace HF := Lib.hid (HF.out.ext hE))
        (try replace HG := Lib.hid (HG.out.ext hE))
        have HF := Lib.hid hFF
        clear hFF hE
        go_wp2_with fail
        refine plan_h rfl (fun K hK => ?_)
        go_wp2_with fail
        refine (Except_ok (a, z) gF cF g7 m13 c7 left _ HF.out H7.out (by omega)).mono ?_
        rintro e wG ⟨gG, mG, cG, xx, rfl, hFG, hxG, hmG, _, hE⟩
        clear HF
        replace HX := Lib.hid (HX.out.trans hE)
        replace H7 := Lib.hid (H7.out.ext hE)
        (try replace HPB := Lib.hid (Ext.block hE HPB.out))
        (try replace HB := Lib.hid (Ext.block hE HB.out))
        (try replace HA := Lib.hid (HA.out.ext hE))
        (try replace HC := Lib.hid (HC.out.ext hE))
        (try replace HD := Lib.hid (HD.out.ext hE))
        (try replace HF := Lib.hid (HF.out.ext hE))
        (try replace HG := Lib.hid (HG.out.ext hE))
        have HG := Lib.hid hFG
        have HXG := Lib.hid hxG
        clear hFG hE hxG
        go_wp2_with fail
        refine plan_h rfl (fun K hK => ?_)
        go_wp2_with fail
        refine (Coalesce_ok gG mG cG xx _ HG.out hmG).mono ?_
        rintro e wH ⟨gH, mH, cH, d2, rfl, hFH, huH, _, _, hE⟩
        clear HG
        replace HX := Lib.hid (HX.out.trans hE)
        replace H7 := Lib.hid (H7.out.ext hE)
        (try replace HPB := Lib.hid (Ext.block hE HPB.out))
        (try replace HB := Lib.hid (Ext.block hE HB.out))
        (try replace HA := Lib.hid (HA.out.ext hE))
        (try replace HC := Lib.hid (HC.out.ext hE))
        (try replace HD := Lib.hid (HD.out.ext hE))
        (try replace HF := Lib.hid (HF.out.ext hE))
        (try replace HG := Lib.hid (HG.out.ext hE))
        have hd : d1 = d2 := clip_third HL.out HXG.out HPTC.out HOKC.out HUD.out huH
        subst hd
        have hmm : mH = mD := by rw [← hFH.count, ← HD.out.count]
        subst hmm
        have HH := Lib.hid hFH
        clear hFH huH hE
        go_wp2_with fail
        refine plan_h rfl (fun K hK => ?_)
        go_wp2_with fail
        refine (SameF_ok gD gH mH cD cH d1 _ HD.out HH.out HMD.out).mono ?_
        rintro e wI ⟨rfl, hE⟩
        replace HX := Lib.hid (HX.out.trans hE)
        replace H7 := Lib.hid (H7.out.ext hE)
        (try replace HPB := Lib.hid (Ext.block hE HPB.out))
        (try replace HB := Lib.hid (Ext.block hE HB.out))
        (try replace HA := Lib.hid (HA.out.ext hE))
        (try replace HC := Lib.hid (HC.out.ext hE))
        (try replace HD := Lib.hid (HD.out.ext hE))
        (try replace HF := Lib.hid (HF.out.ext hE))
        (try replace HG := Lib.hid (HG.out.ext hE))
        clear hE
        go_wp2_with fail
        repeat (first | (refine plan_p rfl (fun K hK => ?_); go_simp; refine hK _ ?_; clear hK K) | (refine plan_l rfl (fun K hK => ?_); go_simp; refine hK _ ?_; clear hK K))
        refine plan_done ?_
        go_wp2
        go_ret
        exact ⟨rfl, HX.out⟩
      · show wpOp _ _ _ _ _ _ _
        first | refine fork_t rfl (fun K hK => ?_) | refine fork_u rfl (fun K hK => ?_)
        have hE : Ext wC (wC.alloc (.cells #[.int .i64 a, .int .i64 z] 45)) := (Ext.refl _).alloc _
        replace HX := Lib.hid (HX.out.trans hE)
        replace H7 := Lib.hid (H7.out.ext hE)
        (try replace HPB := Lib.hid (Ext.block hE HPB.out))
        (try replace HB := Lib.hid (Ext.block hE HB.out))
        (try replace HA := Lib.hid (HA.out.ext hE))
        (try replace HC := Lib.hid (HC.out.ext hE))
        (try replace HD := Lib.hid (HD.out.ext hE))
        (try replace HF := Lib.hid (HF.out.ext hE))
        (try replace HG := Lib.hid (HG.out.ext hE))
        have HB : Hid ((wC.alloc (.cells #[.int .i64 a, .int .i64 z] 45)).heap[wC.heap.size]? = some (.cells (flatQ [(a, z)]).toArray 45 (0, 0))) := blk_new _ _
        go_wp2_with fail
        refine hK _ _ hE ?_
        clear hK K hE
        refine fork_leaf ?_
        first | refine plan_t rfl (fun K hK => ?_) | refine plan_t rfl (fun K hK => ?_)
        go_wp2_with fail
        have HCC := Lib.hid HC.out.count
        refine (Coalesce_ok gC mC cC nrm _ HC.out hmC).mono ?_
        rintro e wD ⟨gD, mD, cD, d1, rfl, hFD, huD, hmD, _, hE⟩
        clear HC
        replace HX := Lib.hid (HX.out.trans hE)
        replace H7 := Lib.hid (H7.out.ext hE)
        (try replace HPB := Lib.hid (Ext.block hE HPB.out))
        (try replace HB := Lib.hid (Ext.block hE HB.out))
        (try replace HA := Lib.hid (HA.out.ext hE))
        (try replace HC := Lib.hid (HC.out.ext hE))
        (try replace HD := Lib.hid (HD.out.ext hE))
        (try replace HF := Lib.hid (HF.out.ext hE))
        (try replace HG := Lib.hid (HG.out.ext hE))
        have HD := Lib.hid hFD
        have HUD := Lib.hid huD
        have HMD : Hid (mD ≤ 2199023255552) := by have h := HCC.out; exact Nat.le_trans hmD (h ▸ hmC)
        go_wp2_with fail
        refine hK _ _ hE ?_
        clear hK K hE hFD huD hmD
        refine plan_h rfl (fun K hK => ?_)
        go_wp2_with fail
        refine (one_ok (some ⟨_, 0, none⟩) 1 1 [(a, z)] _ rfl (pers_block HB.out) (by omega)).mono ?_
        rintro e wF ⟨gF, cF, rfl, hFF, _, hE⟩
        clear HB
        replace HX := Lib.hid (HX.out.trans hE)
        replace H7 := Lib.hid (H7.out.ext hE)
        (try replace HPB := Lib.hid (Ext.block hE HPB.out))
        (try replace HB := Lib.hid (Ext.block hE HB.out))
        (try replace HA := Lib.hid (HA.out.ext hE))
        (try replace HC := Lib.hid (HC.out.ext hE))
        (try replace HD := Lib.hid (HD.out.ext hE))
        (try replace HF := Lib.hid (HF.out.ext hE))
        (try replace HG := Lib.hid (HG.out.ext hE))
        have HF := Lib.hid hFF
        clear hFF hE
        go_wp2_with fail
        refine plan_h rfl (fun K hK => ?_)
        go_wp2_with fail
        refine (Except_ok (a, z) gF cF g7 m13 c7 left _ HF.out H7.out (by omega)).mono ?_
        rintro e wG ⟨gG, mG, cG, xx, rfl, hFG, hxG, hmG, _, hE⟩
        clear HF
        replace HX := Lib.hid (HX.out.trans hE)
        replace H7 := Lib.hid (H7.out.ext hE)
        (try replace HPB := Lib.hid (Ext.block hE HPB.out))
        (try replace HB := Lib.hid (Ext.block hE HB.out))
        (try replace HA := Lib.hid (HA.out.ext hE))
        (try replace HC := Lib.hid (HC.out.ext hE))
        (try replace HD := Lib.hid (HD.out.ext hE))
        (try replace HF := Lib.hid (HF.out.ext hE))
        (try replace HG := Lib.hid (HG.out.ext hE))
        have HG := Lib.hid hFG
        have HXG := Lib.hid hxG
        clear hFG hE hxG
        go_wp2_with fail
        refine plan_h rfl (fun K hK => ?_)
        go_wp2_with fail
        refine (Coalesce_ok gG mG cG xx _ HG.out hmG).mono ?_
        rintro e wH ⟨gH, mH, cH, d2, rfl, hFH, huH, _, _, hE⟩
        clear HG
        replace HX := Lib.hid (HX.out.trans hE)
        replace H7 := Lib.hid (H7.out.ext hE)
        (try replace HPB := Lib.hid (Ext.block hE HPB.out))
        (try replace HB := Lib.hid (Ext.block hE HB.out))
        (try replace HA := Lib.hid (HA.out.ext hE))
        (try replace HC := Lib.hid (HC.out.ext hE))
        (try replace HD := Lib.hid (HD.out.ext hE))
        (try replace HF := Lib.hid (HF.out.ext hE))
        (try replace HG := Lib.hid (HG.out.ext hE))
        have hd : d1 = d2 := clip_third HL.out HXG.out HPTC.out HOKC.out HUD.out huH
        subst hd
        have hmm : mH = mD := by rw [← hFH.count, ← HD.out.count]
        subst hmm
        have HH := Lib.hid hFH
        clear hFH huH hE
        go_wp2_with fail
        refine plan_h rfl (fun K hK => ?_)
        go_wp2_with fail
        refine (SameF_ok gD gH mH cD cH d1 _ HD.out HH.out HMD.out).mono ?_
        rintro e wI ⟨rfl, hE⟩
        replace HX := Lib.hid (HX.out.trans hE)
        replace H7 := Lib.hid (H7.out.ext hE)
        (try replace HPB := Lib.hid (Ext.block hE HPB.out))
        (try replace HB := Lib.hid (Ext.block hE HB.out))
        (try replace HA := Lib.hid (HA.out.ext hE))
        (try replace HC := Lib.hid (HC.out.ext hE))
        (try replace HD := Lib.hid (HD.out.ext hE))
        (try replace HF := Lib.hid (HF.out.ext hE))
        (try replace HG := Lib.hid (HG.out.ext hE))
        clear hE
        go_wp2_with fail
        repeat (first | (refine plan_p rfl (fun K hK => ?_); go_simp; refine hK _ ?_; clear hK K) | (refine plan_l rfl (fun K hK => ?_); go_simp; refine hK _ ?_; clear hK K))
        refine plan_done ?_
        go_wp2
        go_ret
        exact ⟨rfl, HX.out⟩
    · show wpOp _ _ _ _ _ _ _
      first | refine fork_t rfl (fun K hK => ?_) | refine fork_u rfl (fun K hK => ?_)
      have hE : Ext wA (wA.alloc (.cells #[.int .i64 a, .int .i64 z] 45)) := (Ext.refl _).alloc _
      replace HX := Lib.hid (HX.out.trans hE)
      replace H7 := Lib.hid (H7.out.ext hE)
      (try replace HPB := Lib.hid (Ext.block hE HPB.out))
      (try replace HB := Lib.hid (Ext.block hE HB.out))
      (try replace HA := Lib.hid (HA.out.ext hE))
      (try replace HC := Lib.hid (HC.out.ext hE))
      (try replace HD := Lib.hid (HD.out.ext hE))
      (try replace HF := Lib.hid (HF.out.ext hE))
      (try replace HG := Lib.hid (HG.out.ext hE))
      have HB : Hid ((wA.alloc (.cells #[.int .i64 a, .int .i64 z] 45)).heap[wA.heap.size]? = some (.cells (flatQ [(a, z)]).toArray 45 (0, 0))) := blk_new _ _
      go_wp2_with fail
      refine hK _ _ hE ?_
      clear hK K hE
      refine fork_leaf ?_
      first | refine plan_t rfl (fun K hK => ?_) | refine plan_t rfl (fun K hK => ?_)
      go_wp2_with fail
      refine (Clip_ok gA n cA ps a z _ HA.out (by omega)).mono ?_
      rintro e wC ⟨gC, mC, cC, nrm, rfl, hFC, hokC, hptC, hmC, _, hE⟩
      clear HA
      replace HX := Lib.hid (HX.out.trans hE)
      replace H7 := Lib.hid (H7.out.ext hE)
      (try replace HPB := Lib.hid (Ext.block hE HPB.out))
      (try replace HB := Lib.hid (Ext.block hE HB.out))
      (try replace HA := Lib.hid (HA.out.ext hE))
      (try replace HC := Lib.hid (HC.out.ext hE))
      (try replace HD := Lib.hid (HD.out.ext hE))
      (try replace HF := Lib.hid (HF.out.ext hE))
      (try replace HG := Lib.hid (HG.out.ext hE))
      have HC := Lib.hid hFC
      have HOKC := Lib.hid hokC
      have HPTC := Lib.hid hptC
      go_wp2_with fail
      refine hK _ _ hE ?_
      clear hK K hE hFC hokC hptC
      first | refine plan_t rfl (fun K hK => ?_) | refine plan_t rfl (fun K hK => ?_)
      go_wp2_with fail
      have HCC := Lib.hid HC.out.count
      refine (Coalesce_ok gC mC cC nrm _ HC.out hmC).mono ?_
      rintro e wD ⟨gD, mD, cD, d1, rfl, hFD, huD, hmD, _, hE⟩
      clear HC
      replace HX := Lib.hid (HX.out.trans hE)
      replace H7 := Lib.hid (H7.out.ext hE)
      (try replace HPB := Lib.hid (Ext.block hE HPB.out))
      (try replace HB := Lib.hid (Ext.block hE HB.out))
      (try replace HA := Lib.hid (HA.out.ext hE))
      (try replace HC := Lib.hid (HC.out.ext hE))
      (try replace HD := Lib.hid (HD.out.ext hE))
      (try replace HF := Lib.hid (HF.out.ext hE))
      (try replace HG := Lib.hid (HG.out.ext hE))
      have HD := Lib.hid hFD
      have HUD := Lib.hid huD
      have HMD : Hid (mD ≤ 2199023255552) := by have h := HCC.out; exact Nat.le_trans hmD (h ▸ hmC)
      go_wp2_with fail
      refine hK _ _ hE ?_
      clear hK K hE hFD huD hmD
      refine plan_h rfl (fun K hK => ?_)
      go_wp2_with fail
      refine (one_ok (some ⟨_, 0, none⟩) 1 1 [(a, z)] _ rfl (pers_block HB.out) (by omega)).mono ?_
      rintro e wF ⟨gF, cF, rfl, hFF, _, hE⟩
      clear HB
      replace HX := Lib.hid (HX.out.trans hE)
      replace H7 := Lib.hid (H7.out.ext hE)
      (try replace HPB := Lib.hid (Ext.block hE HPB.out))
      (try replace HB := Lib.hid (Ext.block hE HB.out))
      (try replace HA := Lib.hid (HA.out.ext hE))
      (try replace HC := Lib.hid (HC.out.ext hE))
      (try replace HD := Lib.hid (HD.out.ext hE))
      (try replace HF := Lib.hid (HF.out.ext hE))
      (try replace HG := Lib.hid (HG.out.ext hE))
      have HF := Lib.hid hFF
      clear hFF hE
      go_wp2_with fail
      refine plan_h rfl (fun K hK => ?_)
      go_wp2_with fail
      refine (Except_ok (a, z) gF cF g7 m13 c7 left _ HF.out H7.out (by omega)).mono ?_
      rintro e wG ⟨gG, mG, cG, xx, rfl, hFG, hxG, hmG, _, hE⟩
      clear HF
      replace HX := Lib.hid (HX.out.trans hE)
      replace H7 := Lib.hid (H7.out.ext hE)
      (try replace HPB := Lib.hid (Ext.block hE HPB.out))
      (try replace HB := Lib.hid (Ext.block hE HB.out))
      (try replace HA := Lib.hid (HA.out.ext hE))
      (try replace HC := Lib.hid (HC.out.ext hE))
      (try replace HD := Lib.hid (HD.out.ext hE))
      (try replace HF := Lib.hid (HF.out.ext hE))
      (try replace HG := Lib.hid (HG.out.ext hE))
      have HG := Lib.hid hFG
      have HXG := Lib.hid hxG
      clear hFG hE hxG
      go_wp2_with fail
      refine plan_h rfl (fun K hK => ?_)
      go_wp2_with fail
      refine (Coalesce_ok gG mG cG xx _ HG.out hmG).mono ?_
      rintro e wH ⟨gH, mH, cH, d2, rfl, hFH, huH, _, _, hE⟩
      clear HG
      replace HX := Lib.hid (HX.out.trans hE)
      replace H7 := Lib.hid (H7.out.ext hE)
      (try replace HPB := Lib.hid (Ext.block hE HPB.out))
      (try replace HB := Lib.hid (Ext.block hE HB.out))
      (try replace HA := Lib.hid (HA.out.ext hE))
      (try replace HC := Lib.hid (HC.out.ext hE))
      (try replace HD := Lib.hid (HD.out.ext hE))
      (try replace HF := Lib.hid (HF.out.ext hE))
      (try replace HG := Lib.hid (HG.out.ext hE))
      have hd : d1 = d2 := clip_third HL.out HXG.out HPTC.out HOKC.out HUD.out huH
      subst hd
      have hmm : mH = mD := by rw [← hFH.count, ← HD.out.count]
      subst hmm
      have HH := Lib.hid hFH
      clear hFH huH hE
      go_wp2_with fail
      refine plan_h rfl (fun K hK => ?_)
      go_wp2_with fail
      refine (SameF_ok gD gH mH cD cH d1 _ HD.out HH.out HMD.out).mono ?_
      rintro e wI ⟨rfl, hE⟩
      replace HX := Lib.hid (HX.out.trans hE)
      replace H7 := Lib.hid (H7.out.ext hE)
      (try replace HPB := Lib.hid (Ext.block hE HPB.out))
      (try replace HB := Lib.hid (Ext.block hE HB.out))
      (try replace HA := Lib.hid (HA.out.ext hE))
      (try replace HC := Lib.hid (HC.out.ext hE))
      (try replace HD := Lib.hid (HD.out.ext hE))
      (try replace HF := Lib.hid (HF.out.ext hE))
      (try replace HG := Lib.hid (HG.out.ext hE))
      clear hE
      go_wp2_with fail
      repeat (first | (refine plan_p rfl (fun K hK => ?_); go_simp; refine hK _ ?_; clear hK K) | (refine plan_l rfl (fun K hK => ?_); go_simp; refine hK _ ?_; clear hK K))
      refine plan_done ?_
      go_wp2
      go_ret
      exact ⟨rfl, HX.out⟩
  · show wpOp _ _ _ _ _ _ _
    first | refine fork_t rfl (fun K hK => ?_) | refine fork_u rfl (fun K hK => ?_)
    have hE : Ext w14 (w14.alloc (.cells #[.int .i64 a, .int .i64 z] 45)) := (Ext.refl _).alloc _
    replace HX := Lib.hid (HX.out.trans hE)
    replace H7 := Lib.hid (H7.out.ext hE)
    (try replace HPB := Lib.hid (Ext.block hE HPB.out))
    (try replace HB := Lib.hid (Ext.block hE HB.out))
    (try replace HA := Lib.hid (HA.out.ext hE))
    (try replace HC := Lib.hid (HC.out.ext hE))
    (try replace HD := Lib.hid (HD.out.ext hE))
    (try replace HF := Lib.hid (HF.out.ext hE))
    (try replace HG := Lib.hid (HG.out.ext hE))
    have HB : Hid ((w14.alloc (.cells #[.int .i64 a, .int .i64 z] 45)).heap[w14.heap.size]? = some (.cells (flatQ [(a, z)]).toArray 45 (0, 0))) := blk_new _ _
    go_wp2_with fail
    refine hK _ _ hE ?_
    clear hK K hE
    refine fork_leaf ?_
    first | refine plan_t rfl (fun K hK => ?_) | refine plan_t rfl (fun K hK => ?_)
    go_wp2_with fail
    refine (one_ok sv n cap ps _ HN.out (HP.out.ext HX.out) (by omega)).mono ?_
    rintro e wA ⟨gA, cA, rfl, hFA, _, hE⟩
    replace HX := Lib.hid (HX.out.trans hE)
    replace H7 := Lib.hid (H7.out.ext hE)
    (try replace HPB := Lib.hid (Ext.block hE HPB.out))
    (try replace HB := Lib.hid (Ext.block hE HB.out))
    (try replace HA := Lib.hid (HA.out.ext hE))
    (try replace HC := Lib.hid (HC.out.ext hE))
    (try replace HD := Lib.hid (HD.out.ext hE))
    (try replace HF := Lib.hid (HF.out.ext hE))
    (try replace HG := Lib.hid (HG.out.ext hE))
    have HA := Lib.hid hFA
    go_wp2_with fail
    refine hK _ _ hE ?_
    clear hK K hE hFA
    first | refine plan_t rfl (fun K hK => ?_) | refine plan_t rfl (fun K hK => ?_)
    go_wp2_with fail
    refine (Clip_ok gA n cA ps a z _ HA.out (by omega)).mono ?_
    rintro e wC ⟨gC, mC, cC, nrm, rfl, hFC, hokC, hptC, hmC, _, hE⟩
    clear HA
    replace HX := Lib.hid (HX.out.trans hE)
    replace H7 := Lib.hid (H7.out.ext hE)
    (try replace HPB := Lib.hid (Ext.block hE HPB.out))
    (try replace HB := Lib.hid (Ext.block hE HB.out))
    (try replace HA := Lib.hid (HA.out.ext hE))
    (try replace HC := Lib.hid (HC.out.ext hE))
    (try replace HD := Lib.hid (HD.out.ext hE))
    (try replace HF := Lib.hid (HF.out.ext hE))
    (try replace HG := Lib.hid (HG.out.ext hE))
    have HC := Lib.hid hFC
    have HOKC := Lib.hid hokC
    have HPTC := Lib.hid hptC
    go_wp2_with fail
    refine hK _ _ hE ?_
    clear hK K hE hFC hokC hptC
    first | refine plan_t rfl (fun K hK => ?_) | refine plan_t rfl (fun K hK => ?_)
    go_wp2_with fail
    have HCC := Lib.hid HC.out.count
    refine (Coalesce_ok gC mC cC nrm _ HC.out hmC).mono ?_
    rintro e wD ⟨gD, mD, cD, d1, rfl, hFD, huD, hmD, _, hE⟩
    clear HC
    replace HX := Lib.hid (HX.out.trans hE)
    replace H7 := Lib.hid (H7.out.ext hE)
    (try replace HPB := Lib.hid (Ext.block hE HPB.out))
    (try replace HB := Lib.hid (Ext.block hE HB.out))
    (try replace HA := Lib.hid (HA.out.ext hE))
    (try replace HC := Lib.hid (HC.out.ext hE))
    (try replace HD := Lib.hid (HD.out.ext hE))
    (try replace HF := Lib.hid (HF.out.ext hE))
    (try replace HG := Lib.hid (HG.out.ext hE))
    have HD := Lib.hid hFD
    have HUD := Lib.hid huD
    have HMD : Hid (mD ≤ 2199023255552) := by have h := HCC.out; exact Nat.le_trans hmD (h ▸ hmC)
    go_wp2_with fail
    refine hK _ _ hE ?_
    clear hK K hE hFD huD hmD
    refine plan_h rfl (fun K hK => ?_)
    go_wp2_with fail
    refine (one_ok (some ⟨_, 0, none⟩) 1 1 [(a, z)] _ rfl (pers_block HB.out) (by omega)).mono ?_
    rintro e wF ⟨gF, cF, rfl, hFF, _, hE⟩
    clear HB
    replace HX := Lib.hid (HX.out.trans hE)
    replace H7 := Lib.hid (H7.out.ext hE)
    (try replace HPB := Lib.hid (Ext.block hE HPB.out))
    (try replace HB := Lib.hid (Ext.block hE HB.out))
    (try replace HA := Lib.hid (HA.out.ext hE))
    (try replace HC := Lib.hid (HC.out.ext hE))
    (try replace HD := Lib.hid (HD.out.ext hE))
    (try replace HF := Lib.hid (HF.out.ext hE))
    (try replace HG := Lib.hid (HG.out.ext hE))
    have HF := Lib.hid hFF
    clear hFF hE
    go_wp2_with fail
    refine plan_h rfl (fun K hK => ?_)
    go_wp2_with fail
    refine (Except_ok (a, z) gF cF g7 m13 c7 left _ HF.out H7.out (by omega)).mono ?_
    rintro e wG ⟨gG, mG, cG, xx, rfl, hFG, hxG, hmG, _, hE⟩
    clear HF
    replace HX := Lib.hid (HX.out.trans hE)
    replace H7 := Lib.hid (H7.out.ext hE)
    (try replace HPB := Lib.hid (Ext.block hE HPB.out))
    (try replace HB := Lib.hid (Ext.block hE HB.out))
    (try replace HA := Lib.hid (HA.out.ext hE))
    (try replace HC := Lib.hid (HC.out.ext hE))
    (try replace HD := Lib.hid (HD.out.ext hE))
    (try replace HF := Lib.hid (HF.out.ext hE))
    (try replace HG := Lib.hid (HG.out.ext hE))
    have HG := Lib.hid hFG
    have HXG := Lib.hid hxG
    clear hFG hE hxG
    go_wp2_with fail
    refine plan_h rfl (fun K hK => ?_)
    go_wp2_with fail
    refine (Coalesce_ok gG mG cG xx _ HG.out hmG).mono ?_
    rintro e wH ⟨gH, mH, cH, d2, rfl, hFH, huH, _, _, hE⟩
    clear HG
    replace HX := Lib.hid (HX.out.trans hE)
    replace H7 := Lib.hid (H7.out.ext hE)
    (try replace HPB := Lib.hid (Ext.block hE HPB.out))
    (try replace HB := Lib.hid (Ext.block hE HB.out))
    (try replace HA := Lib.hid (HA.out.ext hE))
    (try replace HC := Lib.hid (HC.out.ext hE))
    (try replace HD := Lib.hid (HD.out.ext hE))
    (try replace HF := Lib.hid (HF.out.ext hE))
    (try replace HG := Lib.hid (HG.out.ext hE))
    have hd : d1 = d2 := clip_third HL.out HXG.out HPTC.out HOKC.out HUD.out huH
    subst hd
    have hmm : mH = mD := by rw [← hFH.count, ← HD.out.count]
    subst hmm
    have HH := Lib.hid hFH
    clear hFH huH hE
    go_wp2_with fail
    refine plan_h rfl (fun K hK => ?_)
    go_wp2_with fail
    refine (SameF_ok gD gH mH cD cH d1 _ HD.out HH.out HMD.out).mono ?_
    rintro e wI ⟨rfl, hE⟩
    replace HX := Lib.hid (HX.out.trans hE)
    replace H7 := Lib.hid (H7.out.ext hE)
    (try replace HPB := Lib.hid (Ext.block hE HPB.out))
    (try replace HB := Lib.hid (Ext.block hE HB.out))
    (try replace HA := Lib.hid (HA.out.ext hE))
    (try replace HC := Lib.hid (HC.out.ext hE))
    (try replace HD := Lib.hid (HD.out.ext hE))
    (try replace HF := Lib.hid (HF.out.ext hE))
    (try replace HG := Lib.hid (HG.out.ext hE))
    clear hE
    go_wp2_with fail
    repeat (first | (refine plan_p rfl (fun K hK => ?_); go_simp; refine hK _ ?_; clear hK K) | (refine plan_l rfl (fun K hK => ?_); go_simp; refine hK _ ?_; clear hK K))
    refine plan_done ?_
    go_wp2
    go_ret
    exact ⟨rfl, HX.out⟩
end Go.Proofs.Ytkejjahlglldlaa
