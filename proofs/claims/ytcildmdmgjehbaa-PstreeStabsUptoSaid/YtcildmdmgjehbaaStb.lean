/- PstreeStabs: walked. -/
import Derived.Test.YtcildmdmgjehbaaSpl
import Derived.Laws.MakeOwn
namespace Go.Proofs.Ytcildmdmgjehbaa
open Go.RowKit

/-- The last k periods as points, the last first. -/
def ptsDn (ps : List (Int × Int)) (n k : Nat) : List Pt := (List.range k).map fun (i : Nat) => ((ps[n - 1 - i]?.getD (0, 0)).1, (ps[n - 1 - i]?.getD (0, 0)).2, ((n - 1 - i : Nat) : Int))
theorem ptsDn_succ (ps : List (Int × Int)) (n k : Nat) : ptsDn ps n (k + 1) = ptsDn ps n k ++ [((ps[n - 1 - k]?.getD (0, 0)).1, (ps[n - 1 - k]?.getD (0, 0)).2, ((n - 1 - k : Nat) : Int))] := by
  simp [ptsDn, List.range_succ]
theorem ptsDn_id (ps : List (Int × Int)) (n k j : Nat) (h : k + 1 + j = n) : ∀ q ∈ ptsDn ps n k, q.2.2 ≠ (j : Int) := by
  intro q hq
  simp only [ptsDn, List.mem_map, List.mem_range] at hq
  obtain ⟨i, hi, rfl⟩ := hq
  simp only; omega
theorem ptsDn_perm (ps : List (Int × Int)) (n : Nat) : (ptsDn ps n n).Perm (ptsUp ps n) := by
  have h : ptsDn ps n n = (ptsUp ps n).reverse := by
    apply List.ext_getElem
    · simp [ptsDn, ptsUp]
    · intro i h1 h2
      simp [ptsDn, ptsUp, List.getElem_reverse]
  rw [h]
  exact List.reverse_perm _

/-- Two trees of the call's own. -/
def TwoTrees (B : Nat) (w : World) (tb sb : Nat) (ps qs : List Pt) : Prop :=
  ∃ L bs M cs, TreeOk w tb L bs ∧ TreeOk w sb M cs ∧ L.Perm ps ∧ M.Perm qs ∧ (∀ b ∈ bs, B ≤ b) ∧ (∀ b ∈ cs, B ≤ b) ∧ ∀ b ∈ bs, b ∉ cs
def StbInv (w1 : World) (tb sb n : Nat) (ps : List (Int × Int)) (k : Nat) (v : Value) (wr : World) : Prop :=
  ∃ i : Nat, i + k = n ∧ v = .int .i64 i ∧ TwoTrees w1.heap.size wr tb sb (ptsUp ps i) (ptsDn ps n i) ∧ Ext w1 wr

/-- Which ids the first j of these points have, as cells. -/
def fndA (q : List Pt) (j n : Nat) : Array Value := ((List.range n).map fun (i : Nat) => Value.bool ((q.take j).any fun p => p.2.2 == (i : Int))).toArray
theorem fndA_zero (q : List Pt) (n : Nat) : madeCells #[.bool false] n = fndA q 0 n := by
  apply Array.ext
  · simp [madeCells, fndA]
  · intro i h1 h2
    simp [madeCells, fndA, Nat.mod_one]
theorem fndA_get (q : List Pt) (j n i : Nat) (h : i < n) : (fndA q j n)[i]? = some (.bool ((q.take j).any fun p => p.2.2 == (i : Int))) := by
  simp [fndA, h]
theorem fndA_at (q : List Pt) (j n i : Nat) (h : i < (fndA q j n).size) : (fndA q j n)[i] = .bool ((q.take j).any fun p => p.2.2 == (i : Int)) := by
  simp [fndA]
theorem fndA_size (q : List Pt) (j n : Nat) : (fndA q j n).size = n := by simp [fndA]
theorem fndA_set (q : List Pt) (j n c : Nat) (px py : Int) (h : q[j]? = some (px, py, (c : Int))) : (fndA q j n).setIfInBounds c (.bool true) = fndA q (j + 1) n := by
  apply Array.ext
  · simp [fndA_size]
  · intro i h1 h2
    have hj : q.take (j + 1) = q.take j ++ [(px, py, (c : Int))] := by
      rw [List.take_add_one, h]; rfl
    rw [fndA_at, Array.getElem_setIfInBounds (by simpa using h1), hj]
    by_cases hc : c = i
    · subst hc
      simp
    · have h3 : ¬ ((c : Int) = (i : Int)) := by omega
      simp only [hc, if_false]
      rw [fndA_at]
      simp [h3]

theorem prev_lt {q : List Pt} {j : Nat} {a b : Pt} (h : q.Pairwise kLt) (ha : q[j]? = some a) (hb : q[j + 1]? = some b) : kLt a b := by
  obtain ⟨h1, rfl⟩ := List.getElem?_eq_some_iff.1 ha
  obtain ⟨h2, rfl⟩ := List.getElem?_eq_some_iff.1 hb
  exact List.pairwise_iff_getElem.1 h j (j + 1) h1 h2 (by omega)
theorem info_bool : (Try.prog.info? 4).map (fun i => (i.zero, i.size, i.bytes)) = some (some (.bool false), 1, 1) := by kernel_rfl

/-- Who is found: just those that have the instant. -/
theorem stab_found (ps : List (Int × Int)) (a : Int) (M : List Pt) (hM : M.Perm (ptsUp ps ps.length)) (hw : ∀ p ∈ ps, -9223372036854775808 ≤ p.1) :
    ∀ (i : Nat) (p : Int × Int), ps[i]? = some p → ((inRange (-9223372036854775808) a (a + 1) M).any (fun q => q.2.2 == (i : Int)) = decide (p.1 ≤ a ∧ a < p.2)) := by
  intro i p hp
  rw [Bool.eq_iff_iff, List.any_eq_true, decide_eq_true_eq]
  simp only [beq_iff_eq]
  constructor
  · rintro ⟨q, hq, he⟩
    simp only [inRange, List.mem_filter, decide_eq_true_eq] at hq
    obtain ⟨h1, h2, h3, h4⟩ := hq
    have h5 := hM.subset h1
    simp only [ptsUp, List.mem_map, List.mem_range] at h5
    obtain ⟨k, hk, rfl⟩ := h5
    simp only at he h2 h3 h4
    obtain rfl : k = i := by omega
    simp only [hp, Option.getD_some] at h2 h3 h4
    omega
  · rintro ⟨h1, h2⟩
    have hi : i < ps.length := (List.getElem?_eq_some_iff.1 hp).1
    refine ⟨(p.1, p.2, i), ?_, rfl⟩
    simp only [inRange, List.mem_filter, decide_eq_true_eq]
    refine ⟨hM.symm.subset ?_, hw p (List.mem_of_getElem? hp), h1, by omega⟩
    simp only [ptsUp, List.mem_map, List.mem_range]
    exact ⟨i, hi, by simp [hp]⟩
theorem stab_id (ps : List (Int × Int)) (a b c : Int) (M : List Pt) (hM : M.Perm (ptsUp ps ps.length)) : ∀ q ∈ inRange a b c M, ∃ k : Nat, k < ps.length ∧ q.2.2 = (k : Int) := by
  intro q hq
  simp only [inRange, List.mem_filter] at hq
  have h5 := hM.subset hq.1
  simp only [ptsUp, List.mem_map, List.mem_range] at h5
  obtain ⟨k, hk, rfl⟩ := h5
  exact ⟨k, hk, rfl⟩

set_option maxRecDepth 100000 in
set_option maxHeartbeats 40000000 in
theorem stabs_any (sv : Option Addr) (n cap : Nat) (ps : List (Int × Int)) (a : Int) (w : World) (hn : ps.length = n) (hc : Pers w sv ps) (hsz : n * 24 ≤ 140737488355328)
    (ha : -9223372036854775808 ≤ a ∧ a ≤ 9223372036854775807) (hw : ∀ p ∈ ps, -9223372036854775808 ≤ p.1) :
    Calls Try.prog 3 #[.slice sv n cap, .int .i64 a] w
      (fun e w' => e = .returned (.bool true) ∧ Ext w w') := by
  have HN := Lib.hid hn; clear hn
  have HC := Lib.hid hc; clear hc
  have HSZ := Lib.hid hsz
  have HAB := Lib.hid ha; clear ha
  have HW := Lib.hid hw; clear hw
  obtain ⟨i0, hi0, hz0, hz1, hz2⟩ := info_parts info_bool
  have hmk : ∀ u : World, (Instr.makeSlice 35 (.int .i64 (n : Int)) (.int .i64 (n : Int))).run Try.prog u =
      .ok (.slice (some ⟨u.heap.size, 0, none⟩) n n) (u.alloc (.cells (madeCells #[.bool false] n) 4)) := fun u => by
    have h := run_make (P := Try.prog) (w := u) 35 4 i0 (.bool false) Try.underlying35 hi0 hz0 .i64 .i64 (n : Int) (n : Int) (by omega) (Int.le_refl _) (by rw [hz2]; omega) (by omega)
    simpa [hz1, Value.cells] using h
  clear hi0 hz0 hz1 hz2
  go_enter Try.func3, Try.ntmps3
  go_wp2_with fail
  refine (awake_any _).mono ?_
  rintro e w1 ⟨rfl, hW1⟩
  go_wp2_with fail
  refine (New_ok w1).mono ?_
  rintro e w2 ⟨tb, bs, rfl, hT2, hb2, hE2⟩
  have HT2 := Lib.hid hT2; clear hT2
  go_wp2_with fail
  refine (New_ok w2).mono ?_
  rintro e w3 ⟨sb, cs, rfl, hT3, hb3, hE3⟩
  have HTT : Hid (TwoTrees w1.heap.size w3 tb sb (ptsUp ps 0) (ptsDn ps n 0)) :=
    ⟨[], bs, [], cs, HT2.out.ext hE3, hT3, List.Perm.refl _, List.Perm.refl _, hb2, fun b hb => Nat.le_trans hE2.size (hb3 b hb), fun b hb hb' => by
      have := HT2.out.lt b hb; have := hb3 b hb'; omega⟩
  have hE4 : Ext w1 w3 := hE2.trans hE3
  clear HT2 hb2 hE2 hT3 hb3 hE3
  go_wp2
  go_loopg [22] n (fun k v wr => StbInv w1 tb sb n ps k v wr)
  case atStart => exact ⟨0, by omega, rfl, HTT.out, hE4⟩
  case round =>
    obtain ⟨i, hik, rfl, hTr, hEr⟩ := hrel
    have HTr := Lib.hid hTr; clear hTr
    by_cases hlt : i < n
    · obtain ⟨lb, off, hsv, hcell⟩ := (HC.out.ext (hW1.trans hEr)) (by have := HN.out; omega)
      subst hsv
      obtain ⟨p, hp⟩ : ∃ p, ps[i]? = some p := ⟨ps[i]'(by rw [HN.out]; exact hlt), by rw [List.getElem?_eq_getElem]⟩
      obtain ⟨c0, c1⟩ := hcell i p hp
      obtain ⟨j, hj⟩ : ∃ j, i + 1 + j = n := ⟨n - (i + 1), by omega⟩
      obtain ⟨q, hq⟩ : ∃ q, ps[j]? = some q := ⟨ps[j]'(by rw [HN.out]; omega), by rw [List.getElem?_eq_getElem]⟩
      obtain ⟨d0, d1⟩ := hcell j q hq
      have HP := Lib.hid hp; clear hp hcell
      have HQ := Lib.hid hq; clear hq
      have hbl : lb < wr.heap.size := World.block_lt_of_cell? wr _ c0
      have hik' : i ≤ n := by omega
      have HIK := Lib.hid hik; clear hik
      have HJ := Lib.hid hj
      go_wp2
      refine region_calm [.p 0, .p 1, .p 2, .p 3, .p 4, .l 5, .p 6, .p 7, .p 8, .p 9, .l 10, .p 11, .p 12, .h 13 false] f_mixed (by kernel_rfl) (by kernel_rfl) ?_
      repeat (first | (refine plan_p rfl (fun K hK => ?_); go_simp; refine hK _ ?_; clear hK K) | (refine plan_l rfl (fun K hK => ?_); go_simp; refine hK _ ?_; clear hK K))
      refine plan_c rfl rfl (fun K _ hK => ?_)
      go_wp2_with fail
      obtain ⟨L, bs', M, cs', hT, hS, hpm, hqm, hbs, hcs, hdj⟩ := HTr.out
      refine (Add_ok tb p.1 p.2 i L bs' _ (hT.ext (Ext.refl wr).drew) (fun q hq => ptsUp_id ps i q (hpm.subset hq))).mono ?_
      rintro e w5 ⟨L3, bs3, rfl, hT3, hp3, hb3, ht3⟩
      have hS3 : TreeOk w5 sb M cs' := (hS.ext (Ext.refl wr).drew).touch ht3 (fun k hk hk' => hdj k hk' hk)
      have hE5 : Ext w1 w5 := Touch.fresh (hEr.drew) ht3 hbs
      have hpm3 : L3.Perm (ptsUp ps (i + 1)) := by
        rw [ptsUp_succ, HP.out]
        exact hp3.trans ((hpm.cons _).trans (List.perm_append_singleton _ _).symm)
      have hb4 : ∀ k ∈ bs3, k ∈ bs' ∨ wr.heap.size ≤ k := hb3
      have hbs3 : ∀ k ∈ bs3, w1.heap.size ≤ k := fun k hk => (hb4 k hk).elim (hbs k) (fun h => Nat.le_trans hEr.size h)
      have hdj3 : ∀ k ∈ bs3, k ∉ cs' := fun k hk hk' => (hb4 k hk).elim (fun h => hdj k h hk') (fun h => by have := hS.lt k hk'; omega)
      have HT3 := Lib.hid hT3
      have HS3 := Lib.hid hS3
      have HP3 := Lib.hid hpm3
      have HB3 := Lib.hid hbs3
      have HD3 := Lib.hid hdj3
      have HQM := Lib.hid hqm
      have HCS := Lib.hid hcs
      obtain ⟨lb', off', hsv', hcell'⟩ := (HC.out.ext (hW1.trans hE5)) (by have := HN.out; omega)
      obtain ⟨rfl, rfl⟩ : lb = lb' ∧ off = off' := by simpa using hsv'
      obtain ⟨e0, e1⟩ := hcell' j q HQ.out
      clear hT hS hpm hqm hbs hcs hdj hT3 hp3 hb3 ht3 hS3 hpm3 hb4 hbs3 hdj3 HTr c0 c1 d0 d1 hsv' hcell' hbl
      have hbl : lb < w5.heap.size := World.block_lt_of_cell? w5 _ e0
      have hji : (n : Int) - 1 - (i : Int) = (j : Int) := by omega
      go_wp2_with fail
      refine plan_done ?_
      go_wp2
      have hjn : j < n := by omega
      clear hji hj hik'
      refine region_calm [.p 0, .p 1, .p 2, .p 3, .p 4, .l 5, .p 6, .p 7, .p 8, .p 9, .l 10, .p 11, .p 12, .h 13 false] f_mixed (by kernel_rfl) (by kernel_rfl) ?_
      repeat (first | (refine plan_p rfl (fun K hK => ?_); go_simp; refine hK _ ?_; clear hK K) | (refine plan_l rfl (fun K hK => ?_); go_simp; refine hK _ ?_; clear hK K))
      refine plan_c rfl rfl (fun K _ hK => ?_)
      go_wp2_with fail
      have hz5 := HIK.out
      refine (Add_ok sb q.1 q.2 j M cs' _ (HS3.out.ext (Ext.refl w5).drew) (fun q' hq' => ptsDn_id ps n i j HJ.out q' (HQM.out.subset hq'))).mono ?_
      rintro e w7 ⟨M7, cs7, rfl, hS7, hq7, hc7, ht7⟩
      have hc8 : ∀ k ∈ cs7, k ∈ cs' ∨ w5.heap.size ≤ k := hc7
      have hT7 : TreeOk w7 tb L3 bs3 := (HT3.out.ext (Ext.refl w5).drew).touch ht7 (fun k hk hk' => HD3.out k hk hk')
      have hE7 : Ext w1 w7 := Touch.fresh (hE5.drew) ht7 HCS.out
      have hqm7 : M7.Perm (ptsDn ps n (i + 1)) := by
        have hnj : n - 1 - i = j := by have := HJ.out; omega
        rw [ptsDn_succ, hnj, HQ.out]
        exact hq7.trans ((HQM.out.cons _).trans (List.perm_append_singleton _ _).symm)
      have hTT : TwoTrees w1.heap.size w7 tb sb (ptsUp ps (i + 1)) (ptsDn ps n (i + 1)) :=
        ⟨L3, bs3, M7, cs7, hT7, hS7, HP3.out, hqm7, HB3.out, fun k hk => (hc8 k hk).elim (HCS.out k) (fun h => Nat.le_trans hE5.size h),
          fun k hk hk' => (hc8 k hk').elim (HD3.out k hk) (fun h => by have := HT3.out.lt k hk; omega)⟩
      have HTT7 := Lib.hid hTT
      clear hTT hqm7 hT7 hc8 hS7 hq7 hc7 ht7 hz5 e0 e1 hjn
      go_wp2_with fail
      refine plan_done ?_
      go_wp2
      go_roundg (gk - 1)
      case measure => have := HIK.out; omega
      case rel => exact ⟨i + 1, by have := HIK.out; omega, by go_num, HTT7.out, hE7⟩
    · have hin : i = n := by omega
      subst hin
      obtain ⟨L, bs', M, cs', hT, hS, hpm, hqm, hbs, hcs, hdj⟩ := HTr.out
      have hML : M = L := srt_unique hS.srt hT.srt (hqm.trans ((ptsDn_perm ps i).trans hpm.symm))
      subst hML
      have hlen : M.length = i := by rw [hpm.length_eq, ptsUp_length]
      have HT := Lib.hid hT
      have HS := Lib.hid hS
      have HPM := Lib.hid hpm
      have HLEN := Lib.hid hlen
      have HSR := Lib.hid (hT.srt)
      clear hT hS hpm hqm hbs hcs hdj hlen hlt HTr HTT
      by_cases hat : a = 9223372036854775807
      · subst hat
        go_wp2_with fail
        refine (Len_ok tb M bs' _ HT.out).mono ?_
        rintro e w5 ⟨rfl, rfl⟩
        rw [HLEN.out]
        go_wp2
        go_ret
        exact ⟨rfl, hW1.trans hEr⟩
      · have hatb : (a == 9223372036854775807) = false := by simpa using hat
        obtain ⟨hab1, hab2⟩ := HAB.out
        go_wp2_with fail
        refine (Find_ok (-9223372036854775808) a (a + 1) tb M bs' _ HT.out (by rw [HLEN.out]; exact HSZ.out)).mono ?_
        rintro e w4 ⟨g1, cap1, rfl, hS1, hg1, hE4⟩
        have HS1 := Lib.hid hS1; clear hS1
        have HG1 := Lib.hid hg1; clear hg1
        go_wp2_with fail
        refine (Find_ok (-9223372036854775808) a (a + 1) sb M cs' _ (HS.out.ext hE4) (by rw [HLEN.out]; exact HSZ.out)).mono ?_
        rintro e w5 ⟨g2, cap2, rfl, hS2, hg2, hE5⟩
        have hfd := stab_found ps a M (by rw [HN.out]; exact HPM.out) HW.out
        have hidq := stab_id ps (-9223372036854775808) a (a + 1) M (by rw [HN.out]; exact HPM.out)
        have hsq : (inRange (-9223372036854775808) a (a + 1) M).Pairwise kLt := List.Pairwise.filter _ HSR.out
        have hle := inRange_le (-9223372036854775808) a (a + 1) M
        rw [HLEN.out] at hle
        generalize inRange (-9223372036854775808) a (a + 1) M = q1 at HS1 hS2 hfd hidq hsq hle ⊢
        rw [HN.out] at hidq
        have HS4 := Lib.hid (HS1.out.ext hE5); clear HS1
        have HS5 := Lib.hid hS2; clear hS2 hg2
        have HFD := Lib.hid hfd; clear hfd
        have HIQ := Lib.hid hidq; clear hidq
        have HSQ := Lib.hid hsq; clear hsq
        have hW5 : Ext w w5 := hW1.trans (hEr.trans (hE4.trans hE5))
        clear hE4 hE5 hEr
        clear hE4
        clear HT HS HSR HPM HLEN hik HG1
        go_wp2
        rw [fndA_zero q1 i]
        have HF0 : Hid ((w5.alloc (.cells (fndA q1 0 i) 4)).heap[w5.heap.size]? = some (.cells (fndA q1 0 i) 4 (0, 0))) := blk_new w5 _
        have HS6 := Lib.hid (HS4.out.ext ((Ext.refl w5).alloc (.cells (fndA q1 0 i) 4)))
        have HS7 := Lib.hid (HS5.out.ext ((Ext.refl w5).alloc (.cells (fndA q1 0 i) 4)))
        have hW6 : Ext w (w5.alloc (.cells (fndA q1 0 i) 4)) := hW5.alloc _
        have hfb : w5.heap.size < (w5.alloc (.cells (fndA q1 0 i) 4)).heap.size := by simp
        have HG : Hid ((∀ b, g1 = some b → b < w5.heap.size) ∧ (∀ b, g2 = some b → b < w5.heap.size)) := ⟨fun b hb => by subst hb; exact HS4.out.block_lt, fun b hb => by subst hb; exact HS5.out.block_lt⟩
        have hwb : w.heap.size ≤ w5.heap.size := hW5.size
        clear HS4 HS5 hW5
        generalize hfbe : w5.heap.size = fb at *
        generalize w5.alloc (.cells (fndA q1 0 i) 4) = w6 at *
        clear hfbe hmk
        go_loopg [81] q1.length (fun k v wr => ∃ j : Nat, j + k = q1.length ∧ v = .int .i64 j ∧ wr.heap[fb]? = some (.cells (fndA q1 j i) 4 (0, 0)) ∧ Touch (fun k => k = fb) w6 wr)
        case atStart => exact ⟨0, by omega, rfl, HF0.out, Touch.refl _ _⟩
        case round =>
          obtain ⟨j, hjk, hj, hF, hTr⟩ := hrel
          subst hj
          by_cases hlt : j < q1.length
          · obtain ⟨b1, hgb1⟩ := HS6.out.some_of_pos (by omega)
            obtain ⟨b2, hgb2⟩ := HS7.out.some_of_pos (by omega)
            have hlb1 : b1 < fb := HG.out.1 b1 hgb1
            have hlb2 : b2 < fb := HG.out.2 b2 hgb2
            have z1 := run_index_slv ei_point (cap := cap1) hgb1 hlt
            have z2 := run_index_slv ei_point (cap := cap2) hgb2 hlt
            obtain ⟨⟨px, py, pid⟩, hq⟩ : ∃ q, q1[j]? = some q := ⟨q1[j]'hlt, by rw [List.getElem?_eq_getElem]⟩
            obtain ⟨c, hcn, hpc⟩ := HIQ.out _ (List.mem_of_getElem? hq)
            simp only at hpc
            subst hpc
            obtain ⟨k0, k1, k2⟩ := flatP_get q1 j _ hq
            have HS6' := HS6.out
            have HS7' := HS7.out
            rw [hgb1] at HS6'
            rw [hgb2] at HS7'
            have hlr : w6.heap.size ≤ wr.heap.size := hTr.size
            have hr1 : b1 < wr.heap.size := by omega
            have hr2 : b2 < wr.heap.size := by omega
            have hr3 : fb < wr.heap.size := by omega
            have x0 := Touch.cell hTr (HS6'.cell k0) (by simp; omega)
            have x1 := Touch.cell hTr (HS6'.cell k1) (by simp; omega)
            have x2 := Touch.cell hTr (HS6'.cell k2) (by simp; omega)
            have y0 := Touch.cell hTr (HS7'.cell k0) (by simp; omega)
            have y1 := Touch.cell hTr (HS7'.cell k1) (by simp; omega)
            have y2 := Touch.cell hTr (HS7'.cell k2) (by simp; omega)
            have HQJ := Lib.hid hq; clear hq
            have HF := Lib.hid hF; clear hF
            clear k0 k1 k2 HS7' HS6'
            have HGB := Lib.hid (And.intro hgb1 hgb2); clear hgb1 hgb2
            have HJ := Lib.hid hjk; clear hjk
            simp only at x0 x1 x2 y0 y1 y2
            have hdc : decide (i ≤ c) = false := by simp; omega
            have hdj : decide (q1.length ≤ j) = false := by simp; omega
            by_cases hj0 : j = 0
            · have hjz : decide (0 < j) = false := by simp; omega
              clear hj0
              go_wp2
              refine region_calm [.p 0, .p 1, .p 2, .p 3, .p 4, .p 5, .p 6, .p 7, .l 8, .l 9, .p 10, .p 11, .p 12, .p 13, .l 14, .p 15, .p 16, .p 17, .p 18, .l 19, .p 20, .p 21, .p 22, .p 23, .p 24, .p 25, .p 26, .p 27, .p 28, .p 29, .p 30, .p 31, .p 32, .l 33, .p 34, .l 35, .p 36, .p 37, .p 38, .p 39, .p 40, .p 41, .p 42, .l 43, .p 44, .l 45, .p 46, .p 47, .p 48, .p 49, .p 50, .p 51, .p 52, .l 53, .p 54, .l 55, .p 56, .p 57, .p 58, .p 59, .p 60] f_mixed (by kernel_rfl) (by kernel_rfl) ?_
              repeat (first | (refine plan_p rfl (fun K hK => ?_); go_simp; refine hK _ ?_; clear hK K) | (refine plan_l rfl (fun K hK => ?_); go_simp; refine hK _ ?_; clear hK K))
              refine plan_done ?_
              clear hjz
              have fc := blk_cell HF.out (fndA_get q1 j i c hcn)
              have ff := blk_frozen HF.out c
              go_wp2
              go_roundg (gk - 1)
              case measure => have := HJ.out; omega
              case rel => exact ⟨j + 1, by have := HJ.out; omega, by go_num, by rw [← fndA_set q1 j i c _ _ HQJ.out]; exact blk_alloc (blk_set HF.out c _), ((hTr.setCell (p := ⟨fb, c, none⟩) (fun _ => rfl) _).alloc _).drew⟩
            · obtain ⟨j', hjj⟩ : ∃ j', j = j' + 1 := ⟨j - 1, by omega⟩
              have hjz : decide (0 < j) = true := by simp; omega
              have hjm : (j : Int) - 1 = (j' : Int) := by omega
              have hjw : IntKind.i64.wrap (j' : Int) = (j' : Int) := by rw [IntKind.wrap_i64]; omega
              have hlt' : j' < q1.length := by omega
              have zp := run_index_slv ei_point (cap := cap1) HGB.out.1 hlt'
              obtain ⟨⟨px', py', pid'⟩, hq'⟩ : ∃ q, q1[j']? = some q := ⟨q1[j']'hlt', by rw [List.getElem?_eq_getElem]⟩
              obtain ⟨c', hcn', hpc'⟩ := HIQ.out _ (List.mem_of_getElem? hq')
              simp only at hpc'
              subst hpc'
              have hk := prev_lt HSQ.out hq' (by rw [← hjj]; exact HQJ.out)
              obtain ⟨k0, -, k2⟩ := flatP_get q1 j' _ hq'
              have HS6' := HS6.out
              rw [HGB.out.1] at HS6'
              have v0 := Touch.cell hTr (HS6'.cell k0) (by simp; omega)
              have v2 := Touch.cell hTr (HS6'.cell k2) (by simp; omega)
              simp only at v0 v2
              clear k0 k2 HS6' hq' hlt' hjj hj0 hcn'
              by_cases hx : px' < px
              · have hxa : decide (px < px') = false := by simp; omega
                have hxb : (px' == px) = false := by simp; omega
                clear hk hx
                go_wp2
                refine region_calm [.p 0, .p 1, .p 2, .p 3, .p 4, .p 5, .p 6, .p 7, .l 8, .l 9, .p 10, .p 11, .p 12, .p 13, .l 14, .p 15, .p 16, .p 17, .p 18, .l 19, .p 20, .p 21, .p 22, .p 23, .p 24, .p 25, .p 26, .p 27, .p 28, .p 29, .p 30, .p 31, .p 32, .l 33, .p 34, .l 35, .p 36, .p 37, .p 38, .p 39, .p 40, .p 41, .p 42, .l 43, .p 44, .l 45, .p 46, .p 47, .p 48, .p 49, .p 50, .p 51, .p 52, .l 53, .p 54, .l 55, .p 56, .p 57, .p 58, .p 59, .p 60] f_mixed (by kernel_rfl) (by kernel_rfl) ?_
                repeat (first | (refine plan_p rfl (fun K hK => ?_); go_simp; refine hK _ ?_; clear hK K) | (refine plan_l rfl (fun K hK => ?_); go_simp; refine hK _ ?_; clear hK K))
                refine plan_done ?_
                clear hjz hjm hjw zp v0 v2 hxa hxb
                have fc := blk_cell HF.out (fndA_get q1 j i c hcn)
                have ff := blk_frozen HF.out c
                go_wp2
                go_roundg (gk - 1)
                case measure => have := HJ.out; omega
                case rel => exact ⟨j + 1, by have := HJ.out; omega, by go_num, by rw [← fndA_set q1 j i c _ _ HQJ.out]; exact blk_alloc (blk_set HF.out c _), ((hTr.setCell (p := ⟨fb, c, none⟩) (fun _ => rfl) _).alloc _).drew⟩
              · have hk2 : px' = px ∧ c' < c := by
                  rcases hk with h | ⟨h1, h2⟩
                  · exact absurd h hx
                  · simp only at h1 h2; exact ⟨h1, by omega⟩
                obtain ⟨rfl, hcc⟩ := hk2
                have hxc : decide (c ≤ c') = false := by simp; omega
                clear hk hx hcc
                go_wp2
                refine region_calm [.p 0, .p 1, .p 2, .p 3, .p 4, .p 5, .p 6, .p 7, .l 8, .l 9, .p 10, .p 11, .p 12, .p 13, .l 14, .p 15, .p 16, .p 17, .p 18, .l 19, .p 20, .p 21, .p 22, .p 23, .p 24, .p 25, .p 26, .p 27, .p 28, .p 29, .p 30, .p 31, .p 32, .l 33, .p 34, .l 35, .p 36, .p 37, .p 38, .p 39, .p 40, .p 41, .p 42, .l 43, .p 44, .l 45, .p 46, .p 47, .p 48, .p 49, .p 50, .p 51, .p 52, .l 53, .p 54, .l 55, .p 56, .p 57, .p 58, .p 59, .p 60] f_mixed (by kernel_rfl) (by kernel_rfl) ?_
                repeat (first | (refine plan_p rfl (fun K hK => ?_); go_simp; refine hK _ ?_; clear hK K) | (refine plan_l rfl (fun K hK => ?_); go_simp; refine hK _ ?_; clear hK K))
                refine plan_done ?_
                clear hjz hjm hjw zp v0 v2 hxc
                have fc := blk_cell HF.out (fndA_get q1 j i c hcn)
                have ff := blk_frozen HF.out c
                go_wp2
                go_roundg (gk - 1)
                case measure => have := HJ.out; omega
                case rel => exact ⟨j + 1, by have := HJ.out; omega, by go_num, by rw [← fndA_set q1 j i c _ _ HQJ.out]; exact blk_alloc (blk_set HF.out c _), ((hTr.setCell (p := ⟨fb, c, none⟩) (fun _ => rfl) _).alloc _).drew⟩
          · have hjq : j = q1.length := by omega
            subst hjq
            have hW7 : Ext w wr := Touch.fresh hW6 hTr (fun k hk => by subst hk; exact hwb)
            have HF := Lib.hid hF; clear hF hlt hjk
            clear hTr
            go_wp2
            go_loopg [154] i (fun k v ww => ∃ j : Nat, j + k = i ∧ v = .int .i64 j ∧ Ext wr ww)
            case atStart => exact ⟨0, by omega, rfl, Ext.refl _⟩
            case round =>
              obtain ⟨j, hjk, hj, hEx⟩ := hrel
              subst hj
              by_cases hlt : j < i
              · obtain ⟨lb, off, hsv, hcell⟩ := (HC.out.ext (hW7.trans hEx)) (by have := HN.out; omega)
                subst hsv
                obtain ⟨p, hp⟩ : ∃ p, ps[j]? = some p := ⟨ps[j]'(by rw [HN.out]; exact hlt), by rw [List.getElem?_eq_getElem]⟩
                obtain ⟨c0, c1⟩ := hcell j p hp
                have hv := HFD.out j p hp
                have hfw := Ext.block hEx HF.out
                have fc := blk_cell hfw (fndA_get q1 q1.length i j hlt)
                rw [List.take_length, hv] at fc
                clear hv hfw hcell hp
                have hl1 : lb < wr.heap.size := World.block_lt_of_cell? wr _ c0
                have hl2 : fb < wr.heap.size := World.block_lt_of_cell? wr _ fc
                have HJ := Lib.hid hjk; clear hjk
                by_cases h1 : p.1 ≤ a
                · by_cases h2 : a < p.2
                  · rw [decide_eq_true (show p.1 ≤ a ∧ a < p.2 from ⟨h1, h2⟩)] at fc
                    go_wp2
                    refine region_calm [.p 0, .p 1, .p 2, .l 3, .p 4, .l 5, .p 6, .p 7, .p 8, .p 9, .p 10, .l 11, .p 12, .p 13, .p 14] f_mixed (by kernel_rfl) (by kernel_rfl) ?_
                    repeat (first | (refine plan_p rfl (fun K hK => ?_); go_simp; refine hK _ ?_; clear hK K) | (refine plan_l rfl (fun K hK => ?_); go_simp; refine hK _ ?_; clear hK K))
                    refine plan_done ?_
                    go_wp2
                    go_roundg (gk - 1)
                    case measure => have := HJ.out; omega
                    case rel => exact ⟨j + 1, by have := HJ.out; omega, by go_num, (hEx.alloc _).drew⟩
                  · rw [decide_eq_false (show ¬ (p.1 ≤ a ∧ a < p.2) from fun h => h2 h.2)] at fc
                    go_wp2
                    refine region_calm [.p 0, .p 1, .p 2, .l 3, .p 4, .l 5, .p 6, .p 7, .p 8, .p 9, .p 10, .l 11, .p 12, .p 13, .p 14] f_mixed (by kernel_rfl) (by kernel_rfl) ?_
                    repeat (first | (refine plan_p rfl (fun K hK => ?_); go_simp; refine hK _ ?_; clear hK K) | (refine plan_l rfl (fun K hK => ?_); go_simp; refine hK _ ?_; clear hK K))
                    refine plan_done ?_
                    go_wp2
                    go_roundg (gk - 1)
                    case measure => have := HJ.out; omega
                    case rel => exact ⟨j + 1, by have := HJ.out; omega, by go_num, (hEx.alloc _).drew⟩
                · rw [decide_eq_false (show ¬ (p.1 ≤ a ∧ a < p.2) from fun h => h1 h.1)] at fc
                  have hd1 : decide (p.1 ≤ a) = false := decide_eq_false h1
                  go_wp2
                  refine region_calm [.p 0, .p 1, .p 2, .l 3, .p 4, .l 5, .p 6, .p 7, .p 8, .p 9, .p 10, .l 11, .p 12, .p 13, .p 14] f_mixed (by kernel_rfl) (by kernel_rfl) ?_
                  repeat (first | (refine plan_p rfl (fun K hK => ?_); go_simp; refine hK _ ?_; clear hK K) | (refine plan_l rfl (fun K hK => ?_); go_simp; refine hK _ ?_; clear hK K))
                  refine plan_done ?_
                  go_wp2
                  go_roundg (gk - 1)
                  case measure => have := HJ.out; omega
                  case rel => exact ⟨j + 1, by have := HJ.out; omega, by go_num, (hEx.alloc _).drew⟩
              · go_wp2
                go_ret
                exact ⟨rfl, hW7.trans hEx⟩
end Go.Proofs.Ytcildmdmgjehbaa
