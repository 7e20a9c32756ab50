/- bag.Normal, bag.Except at facts of one row: walked. -/
import Derived.Test.YtkejjahlglldlaaPeH
import Derived.Test.YtkejjahlglldlaaPeI
namespace Go.Proofs.Ytkejjahlglldlaa
open Go.RowKit

/-- Facts more, behind an append of some. -/
theorem FSl.join {w w' : World} {g g' : Option Nat} {n cap m cap' : Nat} {fs fs1 : List Fct} {ps ps1 : List Per} (hs : Sl w 70 3 g n cap (flatF fs)) (hps : fs.map (·.2) = ps) (hr : ∀ f ∈ fs, RowOk w f.1) (hps1 : fs1.map (·.2) = ps1) (hr1 : ∀ f ∈ fs1, RowOk w f.1)
    (hs' : Sl w' 70 3 g' (n + m) cap' (flatF fs ++ flatF fs1)) (ht : Touch (fun k => g = some k) w w') : FSl w' g' (n + m) cap' (ps ++ ps1) := by
  have hn : ∀ k, g = some k → ∃ (cur : Array Value) (t : TypeId) (f : Nat × Nat), w.heap[k]? = some (.cells cur t f) ∧ t ≠ 93 := by
    rintro k rfl
    obtain ⟨_, cur, hb, _⟩ := hs
    exact ⟨cur, _, _, hb, by decide⟩
  refine ⟨fs ++ fs1, by rw [flatF_append]; exact hs', by rw [List.map_append, hps, hps1], fun f hf => ?_⟩
  rcases List.mem_append.1 hf with hf | hf
  · exact (hr f hf).touch ht hn
  · exact (hr1 f hf).touch ht hn
theorem steps_le {ps ms : List Per} {es : List Int} {st : List Stp} (hs : IsSteps ps ms es st) : ∀ s ∈ st, s.2 ≤ (ps.length : Int) := by
  intro s h
  obtain ⟨i, a, b, _, _, rfl⟩ := hs.get h
  have := cntP_le ps a
  simp only
  omega

/-- What is laid behind the variable's facts: the layers of the steps. -/
def LyQ (W : World) (ob : Nat) (ps ms : List Per) (wr : World) : Prop := ∃ g m cap out es st, OutC W ob g m cap out wr ∧ IsEdges (ps ++ ms) es ∧ IsSteps ps ms es st ∧ LayF st 1 out ∧ m ≤ 2199023255552
theorem cap_le {K m : Nat} (h1 : K ≤ 1048576) (h2 : m ≤ 2097152) : K * m ≤ 2199023255552 := Nat.le_trans (Nat.mul_le_mul h1 h2) (by decide)
set_option maxRecDepth 100000 in
set_option maxHeartbeats 16000000 in
theorem NormalF_ok (ob : Nat) (r : Value) (g : Option Nat) (n cap : Nat) (ps : List Per) (w : World) (hr : RowOk w r) (hS : PSl w g n cap ps) (ho : w.heap[ob]? = some (.cells #[.slice none 0 0] 65 (0, 0))) (hn : n ≤ 1048576) :
    Calls Try.prog 102 #[r, slv g n cap, .pointer (some ⟨ob, 0, none⟩)] w (fun e w' => e = .returned (.tuple #[]) ∧ LyQ w ob ps [] w') := by
  obtain ⟨rb, rc, rfl, _⟩ := hr.out
  have HRR := Lib.hid hr; clear hr
  have co : w.cell? ⟨ob, 0, none⟩ = some (.slice none 0 0) := blk1 ho
  have lo := blk_lt ho
  have HO := Lib.hid (OutC.start ho); clear ho
  have HC := Lib.hid hS.count
  have HS := Lib.hid hS; clear hS
  have hbnd : n * (2 * (n + 0)) ≤ 2199023255552 := cap_le hn (by omega)
  go_enter Try.func102, Try.ntmps102
  go_wp2
  refine region_calm [.l 0, .p 1, .p 2, .h 3 true, .h 4 true, .h 5 false, .h 6 false] f_mixed (by kernel_rfl) (by kernel_rfl) ?_
  repeat (first | (refine plan_p rfl (fun K hK => ?_); go_simp; refine hK _ ?_; clear hK K) | (refine plan_l rfl (fun K hK => ?_); go_simp; refine hK _ ?_; clear hK K))
  refine plan_ct rfl rfl (fun K _ hK => ?_)
  go_wp2_with fail
  refine (steps_ok g n cap ps none 0 0 [] _ (HS.out.ext ((Ext.refl w).drew)) (Sl.nil _ _ _) (by omega)).mono ?_
  rintro e w2 ⟨g2, m2, cap2, es, st, rfl, hSS, hED, hST, hm2, _, hE2⟩
  have HSS := Lib.hid hSS
  have HED := Lib.hid hED
  have HST := Lib.hid hST
  have HE2 := Lib.hid (((Ext.refl w).drew).trans hE2)
  rw [HC.out, List.length_nil] at hm2
  go_wp2_with fail
  refine hK _ _ (hE2) ?_; clear hK K
  clear hSS hED hST hE2
  refine plan_ct rfl rfl (fun K _ hK => ?_)
  go_wp2_with fail
  refine (layers_ok _ g2 m2 cap2 st n _ ((HRR.out).ext HE2.out) HSS.out (by rw [← HC.out]; exact steps_le HST.out) (by omega) (by omega) (Nat.le_trans (Nat.mul_le_mul_left n hm2) hbnd)).mono ?_
  rintro e w3 ⟨g3, m3, cap3, out, rfl, hF3, hL3, hm3, _, hE3⟩
  have HL3 := Lib.hid hL3
  have HM3 : Hid (m3 ≤ 2199023255552) := Nat.le_trans hm3 (Nat.le_trans (Nat.mul_le_mul_left n hm2) hbnd)
  have HE3 := Lib.hid (HE2.out.trans hE3)
  go_wp2_with fail
  refine hK _ _ (hE3) ?_; clear hK K
  obtain ⟨fs1, hs1, hps1, hr1⟩ := hF3
  clear hL3 hE3
  obtain ⟨fs, hs4, hps4, hr4⟩ := HO.out.fsl
  refine plan_c rfl rfl (fun K _ hK => ?_)
  refine app_slice ei_fact rfl (.tmp 5) (.tmp 9) rfl (g := none) (n := 0) (cap := 0) (by rfl) (hs4.ext HE3.out) (by rfl) hs1 (flatF_one hr1) (by have := HM3.out; omega) ?_
  intro g6 cap6 w6 hS6 hT6 hat6
  rw [Nat.zero_add] at hS6 ⊢
  have hF6 := FSl.join (m := m3) (hs4.ext HE3.out) hps4 (fun f hf => (hr4 f hf).ext HE3.out) hps1 hr1 (by rw [Nat.zero_add]; exact hS6) hT6
  rw [Nat.zero_add, List.nil_append] at hF6
  obtain ⟨d0, d1, hO6⟩ := HO.out.store HE3.out hT6 hF6 hat6
  have HO6 := Lib.hid hO6
  clear hs4 hps4 hr4 hS6 hT6 hat6 hF6 hO6 hs1 hps1 hr1 hm3
  go_wp2_with fail
  refine plan_c rfl rfl (fun K _ hK => ?_)
  go_wp2_with fail
  refine plan_done ?_
  go_wp2
  (try simp only [Exit.inBlock, Exit.then]); refine bodyPost_end (results_none rfl _ _ _) rfl ?_
  exact ⟨rfl, g6, m3, cap6, out, es, st, HO6.out, HED.out, HST.out, HL3.out, HM3.out⟩
/-- The off periods. -/
def OffInv (W : World) (ms : List Per) (n gk : Nat) (v6 v11 : Value) (wr : World) : Prop :=
  ∃ (i : Nat) (g : Option Nat) (cap : Nat), i + gk = n ∧ v11 = .int .i64 (i : Int) ∧ v6 = slv g i cap ∧ PSl wr g i cap (ms.take i) ∧ (∀ b, g = some b → W.heap.size ≤ b) ∧ Ext W wr
set_option maxRecDepth 100000 in
set_option maxHeartbeats 16000000 in
theorem ExceptF_ok (mb ob : Nat) (r : Value) (g : Option Nat) (n cap : Nat) (ps : List Per) (gm : Option Nat) (nm cm : Nat) (ms : List Per) (w : World) (hr : RowOk w r) (hS : PSl w g n cap ps) (hmb : w.cell? ⟨mb, 0, none⟩ = some (slv gm nm cm)) (lmb : mb < w.heap.size) (hM : FSl w gm nm cm ms) (ho : w.heap[ob]? = some (.cells #[.slice none 0 0] 65 (0, 0))) (hn : n ≤ 1) (hnm : nm ≤ 2097152) :
    Calls Try.prog 70 #[r, slv g n cap, .pointer (some ⟨mb, 0, none⟩), .pointer (some ⟨ob, 0, none⟩)] w (fun e w' => e = .returned (.tuple #[]) ∧ LyQ w ob ps ms w') := by
  obtain ⟨rb, rc, rfl, hrv⟩ := hr.out
  have HRV := Lib.hid hrv
  have HR0 := Lib.hid hr
  have HO0 := Lib.hid (OutC.start ho); clear ho
  have HC := Lib.hid hS.count
  have HS0 := Lib.hid hS; clear hS hrv hr
  have HNM := Lib.hid hM.count
  have HM := Lib.hid hM; clear hM
  have hbnd : n * (2 * (n + nm)) ≤ 2199023255552 := Nat.le_trans (Nat.mul_le_mul hn (Nat.le_refl _)) (by omega)
  have HBND := Lib.hid hbnd
  clear hbnd
  go_enter Try.func70, Try.ntmps70
  go_wp2
  go_loopg [6, 11] nm (fun gk v6 v11 wr => OffInv w ms nm gk v6 v11 wr)
  case atStart => exact ⟨0, none, 0, by omega, rfl, rfl, Sl.nil _ _ _, by simp, Ext.refl _⟩
  case round =>
    obtain ⟨i, g4, cap4, hik, rfl, rfl, hP4, hg4, hE⟩ := hrel
    have HIK := Lib.hid hik; clear hik
    have HP4 := Lib.hid hP4; clear hP4
    have HG4 := Lib.hid hg4; clear hg4
    have HE := Lib.hid hE; clear hE
    by_cases hlt : i < nm
    · obtain ⟨b, rv, x, y, e1, l1, p1, rr, c0, c1, c2⟩ := FSl.at' (HM.out.ext HE.out) hlt
      obtain ⟨rb2, rc2, rfl, v2⟩ := rr.out
      have HV2 := Lib.hid v2
      have z1 := fun u => run_index_slv ei_fact (cap := cm) e1 hlt u
      have HQ : Hid (ms.take (i + 1) = ms.take i ++ [(x, y)]) := by show _ = _; rw [List.take_add_one, p1]; rfl
      clear p1 e1 rr v2
      go_wp2_with fail
      refine (Compare_ok (some ⟨rb2, 0, none⟩) (some ⟨rb, 0, none⟩) 1 1 rc2 rc oneVs oneVs _ rfl rfl (HV2.out.ext ((Ext.refl _).alloc _)) (HRV.out.ext (HE.out.alloc _)) (by omega) (by omega)).mono ?_
      rintro e w2 ⟨rfl, hE2⟩
      have hone : cmpL oneVs oneVs = 0 := rfl
      rw [hone]
      have HE2 : Hid (Ext wr w2) := ((Ext.refl wr).alloc _).trans hE2
      have hb2 : w2.heap[wr.heap.size]? = _ := Ext.block hE2 (blk_new wr _)
      obtain ⟨d0, d1, d2⟩ := blk3 hb2
      clear hE2 hb2 hone c0 c1 c2 z1 l1
      go_wp2_with (at_builtin; refine (fun (h : True → _) => h trivial) ?_)
      intro _
      refine app_lit ei_per rfl (.tmp 20) (.tmp 23) rfl (g := g4) (n := i) (cap := cap4) (b := w2.heap.size) (by rfl) (HP4.out.ext (HE2.out.alloc _)) (by rfl) rfl (blk_new_at _ rfl) (by simp [Value.oneCell']) (by omega) (by omega) ?_
      intro g5 cap5 w5 hS5 hT5 hat5
      have hP5 : PSl w5 (some g5) (i + 1) cap5 (ms.take (i + 1)) := by
        show Sl _ _ _ _ _ _ _
        rw [HQ.out, flatQ_append]
        exact hS5
      have HP5 := Lib.hid hP5
      have HG5 : Hid (∀ b, some g5 = some b → w.heap.size ≤ b) := by
        intro k hk
        cases hk
        rcases hat5 with h | h
        · exact HG4.out _ h
        · have := HE.out.size; have := HE2.out.size; simp at h; omega
      have HE5 : Hid (Ext w w5) := Touch.freshX ((HE.out.trans HE2.out).alloc _) hT5 (fun k hk => HG4.out k hk)
      clear hS5 hT5 hat5 d0 d1 d2 hP5
      go_wp2
      go_roundg (gk - 1)
      case measure => have := HIK.out; omega
      case rel => exact ⟨i + 1, some g5, cap5, by have := HIK.out; omega, by go_num, rfl, HP5.out, HG5.out, HE5.out⟩
    · have hin : i = nm := by have := HIK.out; omega
      subst hin
      have hP2 := HP4.out
      rw [List.take_of_length_le (by rw [HNM.out]; exact Nat.le_refl _)] at hP2
      have HPM := Lib.hid hP2
      have HRR := Lib.hid (HR0.out.ext HE.out)
      have HO := Lib.hid (HO0.out.ext HE.out)
      have HS := Lib.hid (HS0.out.ext HE.out)
      have co := HO.out.cell
      have lo := blk_lt HO.out.blk
      clear hP2 hmb
      go_wp2
      refine region_calm [.l 0, .p 1, .p 2, .p 3, .h 4 true, .h 5 true, .h 6 false, .h 7 false] f_mixed (by kernel_rfl) (by kernel_rfl) ?_
      repeat (first | (refine plan_p rfl (fun K hK => ?_); go_simp; refine hK _ ?_; clear hK K) | (refine plan_l rfl (fun K hK => ?_); go_simp; refine hK _ ?_; clear hK K))
      refine plan_ct rfl rfl (fun K _ hK => ?_)
      go_wp2_with fail
      refine (steps_ok g n cap ps g4 i cap4 ms _ (HS.out.ext ((Ext.refl wr).drew)) (HPM.out.ext ((Ext.refl wr).drew)) (by omega)).mono ?_
      rintro e w2 ⟨g2, m2, cap2, es, st, rfl, hSS, hED, hST, hm2, _, hE2⟩
      have HSS := Lib.hid hSS
      have HED := Lib.hid hED
      have HST := Lib.hid hST
      have HE2 := Lib.hid (((Ext.refl wr).drew).trans hE2)
      rw [HC.out, HNM.out] at hm2
      go_wp2_with fail
      refine hK _ _ (hE2) ?_; clear hK K
      clear hSS hED hST hE2
      refine plan_ct rfl rfl (fun K _ hK => ?_)
      go_wp2_with fail
      refine (layers_ok _ g2 m2 cap2 st n _ ((HRR.out).ext HE2.out) HSS.out (by rw [← HC.out]; exact steps_le HST.out) (by omega) (by omega) (Nat.le_trans (Nat.mul_le_mul_left n hm2) HBND.out)).mono ?_
      rintro e w3 ⟨g3, m3, cap3, out, rfl, hF3, hL3, hm3, _, hE3⟩
      have HL3 := Lib.hid hL3
      have HM3 : Hid (m3 ≤ 2199023255552) := Nat.le_trans hm3 (Nat.le_trans (Nat.mul_le_mul_left n hm2) HBND.out)
      have HE3 := Lib.hid (HE2.out.trans hE3)
      go_wp2_with fail
      refine hK _ _ (hE3) ?_; clear hK K
      obtain ⟨fs1, hs1, hps1, hr1⟩ := hF3
      clear hL3 hE3
      obtain ⟨fs, hs4, hps4, hr4⟩ := HO.out.fsl
      refine plan_c rfl rfl (fun K _ hK => ?_)
      refine app_slice ei_fact rfl (.tmp 26) (.tmp 31) rfl (g := none) (n := 0) (cap := 0) (by rfl) (hs4.ext HE3.out) (by rfl) hs1 (flatF_one hr1) (by have := HM3.out; omega) ?_
      intro g6 cap6 w6 hS6 hT6 hat6
      rw [Nat.zero_add] at hS6 ⊢
      have hF6 := FSl.join (m := m3) (hs4.ext HE3.out) hps4 (fun f hf => (hr4 f hf).ext HE3.out) hps1 hr1 (by rw [Nat.zero_add]; exact hS6) hT6
      rw [Nat.zero_add, List.nil_append] at hF6
      obtain ⟨d0, d1, hO6⟩ := HO.out.store HE3.out hT6 hF6 hat6
      have HO6 := Lib.hid hO6
      clear hs4 hps4 hr4 hS6 hT6 hat6 hF6 hO6 hs1 hps1 hr1 hm3
      go_wp2_with fail
      refine plan_c rfl rfl (fun K _ hK => ?_)
      go_wp2_with fail
      refine plan_done ?_
      go_wp2
      (try simp only [Exit.inBlock, Exit.then]); refine bodyPost_end (results_none rfl _ _ _) rfl ?_
      exact ⟨rfl, g6, m3, cap6, out, es, st, HO6.out, HED.out, HST.out, HL3.out, HM3.out⟩
end Go.Proofs.Ytkejjahlglldlaa
