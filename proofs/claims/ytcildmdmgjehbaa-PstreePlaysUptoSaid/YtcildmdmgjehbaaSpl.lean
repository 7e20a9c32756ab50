/- PstreeSplits: walked. -/
import Derived.Test.YtcildmdmgjehbaaPst7
namespace Go.Proofs.Ytcildmdmgjehbaa
open Go.RowKit

/-- The slice of periods that came in. -/
def Pers (w : World) (sv : Option Addr) (ps : List (Int × Int)) : Prop :=
  0 < ps.length → ∃ lb off, sv = some ⟨lb, off, none⟩ ∧ ∀ i p, ps[i]? = some p → w.cell? ⟨lb, off + i * 2, none⟩ = some (.int .i64 p.1) ∧ w.cell? ⟨lb, off + i * 2 + 1, none⟩ = some (.int .i64 p.2)
theorem Pers.ext {w w' : World} {sv : Option Addr} {ps : List (Int × Int)} (h : Pers w sv ps) (he : Ext w w') : Pers w' sv ps := fun hn => by
  obtain ⟨lb, off, h1, h2⟩ := h hn
  exact ⟨lb, off, h1, fun i p hp => ⟨Ext.cell he (h2 i p hp).1, Ext.cell he (h2 i p hp).2⟩⟩

/-- The first k periods as points. -/
def ptsUp (ps : List (Int × Int)) (k : Nat) : List Pt := (List.range k).map fun (i : Nat) => ((ps[i]?.getD (0, 0)).1, (ps[i]?.getD (0, 0)).2, (i : Int))
theorem ptsUp_succ (ps : List (Int × Int)) (k : Nat) : ptsUp ps (k + 1) = ptsUp ps k ++ [((ps[k]?.getD (0, 0)).1, (ps[k]?.getD (0, 0)).2, (k : Int))] := by
  simp [ptsUp, List.range_succ]
theorem ptsUp_id (ps : List (Int × Int)) (k : Nat) : ∀ q ∈ ptsUp ps k, q.2.2 ≠ (k : Int) := by
  intro q hq
  simp only [ptsUp, List.mem_map, List.mem_range] at hq
  obtain ⟨i, hi, rfl⟩ := hq
  simp only; omega
theorem ptsUp_length (ps : List (Int × Int)) (k : Nat) : (ptsUp ps k).length = k := by simp [ptsUp]

/-- A tree of the call's own that holds these points. -/
def TreeHas (B : Nat) (w : World) (tb : Nat) (ps : List Pt) : Prop := ∃ L bs, TreeOk w tb L bs ∧ L.Perm ps ∧ ∀ b ∈ bs, B ≤ b
theorem TreeHas.ext {B : Nat} {w w' : World} {tb : Nat} {ps : List Pt} (h : TreeHas B w tb ps) (he : Ext w w') : TreeHas B w' tb ps := by
  obtain ⟨L, bs, h1, h2, h3⟩ := h; exact ⟨L, bs, h1.ext he, h2, h3⟩

theorem flatP_get : ∀ (qs : List Pt) (k : Nat) (p : Pt), qs[k]? = some p → (flatP qs)[k * 3]? = some (.int .i64 p.1) ∧ (flatP qs)[k * 3 + 1]? = some (.int .i64 p.2.1) ∧ (flatP qs)[k * 3 + 2]? = some (.int .i64 p.2.2)
  | [], k, p, h => by simp at h
  | q :: qs, 0, p, h => by simp at h; subst h; simp [flatP]
  | q :: qs, k + 1, p, h => by
    have := flatP_get qs k p (by simpa using h)
    rw [show (k + 1) * 3 = k * 3 + 3 from by omega]
    simpa [flatP] using this

/-- After a fresh point was put in. -/
theorem TreeHas.added {B : Nat} {w w' : World} {tb : Nat} {ps L L' : List Pt} {bs bs' : List Nat} {p : Pt} (hT : TreeOk w' tb L' bs') (hp : L'.Perm (p :: L)) (hL : L.Perm ps) (hb : ∀ b ∈ bs, B ≤ b)
    (hb' : ∀ k ∈ bs', k ∈ bs ∨ w.heap.size ≤ k) (hB : B ≤ w.heap.size) : TreeHas B w' tb (ps ++ [p]) :=
  ⟨L', bs', hT, hp.trans ((hL.cons p).trans (List.perm_append_singleton _ _).symm), fun b hk => (hb' b hk).elim (hb b) (fun h => Nat.le_trans hB h)⟩

def SplInv (w0 : World) (tb n : Nat) (ps : List (Int × Int)) (k : Nat) (v : Value) (wr : World) : Prop :=
  ∃ i : Nat, i + k = n ∧ v = .int .i64 i ∧ TreeHas w0.heap.size wr tb (ptsUp ps i) ∧ Ext w0 wr

theorem inRange_split (low mid high least : Int) (h1 : low ≤ mid) (h2 : mid < high) : ∀ (L : List Pt), L.Pairwise kLt →
    inRange low high least L = inRange low mid least L ++ inRange (mid + 1) high least L
  | [], _ => rfl
  | q :: L, h => by
    rw [List.pairwise_cons] at h
    have ih := inRange_split low mid high least h1 h2 L h.2
    unfold inRange at *
    simp only [List.filter_cons, decide_eq_true_eq]
    by_cases hq : q.1 ≤ mid
    · rw [if_neg (show ¬ (mid + 1 ≤ q.1 ∧ q.1 ≤ high ∧ least ≤ q.2.1) by omega)]
      by_cases hr : low ≤ q.1 ∧ least ≤ q.2.1
      · rw [if_pos (by omega), if_pos (by omega), ih]; rfl
      · rw [if_neg (by omega), if_neg (by omega), ih]
    · rw [if_neg (show ¬ (low ≤ q.1 ∧ q.1 ≤ mid ∧ least ≤ q.2.1) by omega)]
      have he : L.filter (fun q => decide (low ≤ q.1 ∧ q.1 ≤ mid ∧ least ≤ q.2.1)) = [] := by
        rw [List.filter_eq_nil_iff]
        intro r hr
        have := h.1 r hr
        unfold kLt at this
        simp only [decide_eq_true_eq]
        omega
      rw [he, List.nil_append] at ih ⊢
      by_cases hr : q.1 ≤ high ∧ least ≤ q.2.1
      · rw [if_pos (by omega), if_pos (by omega), ih]
      · rw [if_neg (by omega), if_neg (by omega), ih]

theorem inRange_mono (low high l0 l1 : Int) (h : l0 ≤ l1) (L : List Pt) : (inRange low high l1 L).length ≤ (inRange low high l0 L).length := by
  have : inRange low high l1 L = (inRange low high l0 L).filter (fun q => decide (l1 ≤ q.2.1)) := by
    unfold inRange
    rw [List.filter_filter]
    congr 1
    funext q
    rw [Bool.eq_iff_iff, Bool.and_eq_true]
    simp only [decide_eq_true_eq]
    omega
  rw [this]
  exact List.length_filter_le _ _

theorem inRange_le (low high least : Int) (L : List Pt) : (inRange low high least L).length ≤ L.length := List.length_filter_le _ _

theorem flatP_one : ∀ (qs : List Pt), ∀ u ∈ flatP qs, u.oneCell' = true
  | [], u, h => by simp [flatP] at h
  | q :: qs, u, h => by
    simp only [flatP, List.mem_cons] at h
    rcases h with rfl | rfl | rfl | h
    · rfl
    · rfl
    · rfl
    · exact flatP_one qs u h

set_option maxHeartbeats 4000000 in
theorem splits_any (sv : Option Addr) (n cap : Nat) (ps : List (Int × Int)) (a0 a1 a2 l0 l1 : Int) (w : World) (hn : ps.length = n) (hc : Pers w sv ps) (hsz : n * 24 ≤ 140737488355328)
    (ha1 : -9223372036854775808 ≤ a1 ∧ a1 ≤ 9223372036854775807) (ha2 : a2 ≤ 9223372036854775807) :
    Calls Try.prog 4 #[.slice sv n cap, .agg #[.int .i64 a0, .int .i64 a1, .int .i64 a2], .agg #[.int .i64 l0, .int .i64 l1]] w
      (fun e w' => e = .returned (.bool true) ∧ Ext w w') := by
  have HN := Lib.hid hn; clear hn
  have HC := Lib.hid hc; clear hc
  have HSZ := Lib.hid hsz
  have HA1 := Lib.hid ha1; clear ha1
  have HA2 := Lib.hid ha2; clear ha2
  go_enter Try.func4, Try.ntmps4
  go_wp2_with fail
  refine (awake_any _).mono ?_
  rintro e w1 ⟨rfl, hE1⟩
  have HA := Lib.hid (Ext.block hE1 (blk_alloc (blk_new w (.cells #[.int .i64 a0, .int .i64 a1, .int .i64 a2] 37))))
  have HL := Lib.hid (Ext.block hE1 (blk_new (w.alloc (.cells #[.int .i64 a0, .int .i64 a1, .int .i64 a2] 37)) (.cells #[.int .i64 l0, .int .i64 l1] 38)))
  have hW1 : Ext w w1 := (((Ext.refl w).alloc _).alloc _).trans hE1
  clear hE1
  go_wp2_with fail
  refine (New_ok w1).mono ?_
  rintro e w2 ⟨tb, bs, rfl, hT2, hb2, hE2⟩
  have HT2 : Hid (TreeHas w1.heap.size w2 tb (ptsUp ps 0)) := ⟨[], bs, hT2, List.Perm.refl _, hb2⟩
  clear hT2 hb2
  go_wp2
  go_loopg [21] n (fun k v wr => SplInv w1 tb n ps k v wr)
  case atStart => exact ⟨0, by omega, rfl, HT2.out, hE2⟩
  case round =>
    obtain ⟨i, hik, rfl, hTr, hEr⟩ := hrel
    have HTr := Lib.hid hTr; clear hTr
    by_cases hlt : i < n
    · obtain ⟨lb, off, hsv, hcell⟩ := (HC.out.ext (hW1.trans hEr)) (by have := HN.out; omega)
      subst hsv
      obtain ⟨p, hp⟩ : ∃ p, ps[i]? = some p := ⟨ps[i]'(by rw [HN.out]; exact hlt), by rw [List.getElem?_eq_getElem]⟩
      obtain ⟨c0, c1⟩ := hcell i p hp
      have HP := Lib.hid hp; clear hp hcell
      have hbl : lb < wr.heap.size := World.block_lt_of_cell? wr _ c0
      have hik' : i ≤ n := by omega
      have HIK := Lib.hid hik; clear hik
      go_wp2_with fail
      obtain ⟨L, bs', hT, hpm, hbs⟩ := HTr.out
      refine (Add_ok tb p.1 p.2 i L bs' _ (hT.ext ((Ext.refl wr).alloc _)) (fun q hq => ptsUp_id ps i q (hpm.subset hq))).mono ?_
      rintro e w3 ⟨L3, bs3, rfl, hT3, hp3, hb3, ht3⟩
      have hinv : TreeHas w1.heap.size w3 tb (ptsUp ps (i + 1)) := by
        rw [ptsUp_succ, HP.out]
        exact TreeHas.added hT3 hp3 hpm hbs hb3 (by have := hEr.size; simp; omega)
      have hE3 : Ext w1 w3 := Touch.fresh (hEr.alloc _) ht3 hbs
      have HINV := Lib.hid hinv
      clear hinv hT hpm hbs hT3 hp3 hb3 ht3
      go_wp2
      go_roundg (gk - 1)
      case measure => have := HIK.out; omega
      case rel => exact ⟨i + 1, by have := HIK.out; omega, by go_num, HINV.out, hE3⟩
    · have hin : i = n := by omega
      subst hin
      obtain ⟨L, bs', hT, hpm, hbs⟩ := HTr.out
      have hlen : L.length = i := by rw [hpm.length_eq, ptsUp_length]
      have HT := Lib.hid hT
      have HLEN := Lib.hid hlen
      have hA2 := Ext.block hEr HA.out
      have hL2 := Ext.block hEr HL.out
      rw [World.size_alloc] at hL2
      obtain ⟨d0, d1, d2⟩ := blk3 hA2
      obtain ⟨e0, e1⟩ := blk2 hL2
      clear hT hpm hbs hlen hlt hA2 hL2
      by_cases h1 : a1 < a0
      · skip
        clear hik
        by_cases h4 : a2 ≤ a0
        · go_wp2
          refine region_calm [.p 0, .l 1, .p 2, .l 3, .p 4, .l 5, .p 6, .p 7, .p 8] f_mixed (by kernel_rfl) (by kernel_rfl) ?_
          repeat (first | (refine plan_p rfl (fun K hK => ?_); go_simp; refine hK _ ?_; clear hK K) | (refine plan_l rfl (fun K hK => ?_); go_simp; refine hK _ ?_; clear hK K))
          refine plan_done ?_
          go_wp2
          go_ret
          exact ⟨rfl, (hW1.trans hEr).drew⟩
        · go_wp2
          refine region_calm [.p 0, .l 1, .p 2, .l 3, .p 4, .l 5, .p 6, .p 7, .p 8] f_mixed (by kernel_rfl) (by kernel_rfl) ?_
          repeat (first | (refine plan_p rfl (fun K hK => ?_); go_simp; refine hK _ ?_; clear hK K) | (refine plan_l rfl (fun K hK => ?_); go_simp; refine hK _ ?_; clear hK K))
          refine plan_done ?_
          go_wp2_with fail
          refine (Find_ok a2 a0 l0 tb L bs' _ (HT.out.ext (Ext.refl wr).drew) (by rw [HLEN.out]; exact HSZ.out)).mono ?_
          rintro e w4 ⟨g, cap4, rfl, hS, hg, hE4⟩
          have hq : inRange a2 a0 l0 L = [] := by
            unfold inRange
            rw [List.filter_eq_nil_iff]
            intro q hq
            simp only [decide_eq_true_eq]
            omega
          simp only [hq] at *
          clear hS hg
          have hE5 : Ext wr w4 := (Ext.refl wr).drew.trans hE4
          clear hE4
          go_wp2
          go_ret
          exact ⟨rfl, (hW1.trans hEr).trans hE5⟩
      by_cases h2 : a2 ≤ a1
      · skip
        clear hik
        by_cases h4 : a2 ≤ a0
        · go_wp2
          refine region_calm [.p 0, .l 1, .p 2, .l 3, .p 4, .l 5, .p 6, .p 7, .p 8] f_mixed (by kernel_rfl) (by kernel_rfl) ?_
          repeat (first | (refine plan_p rfl (fun K hK => ?_); go_simp; refine hK _ ?_; clear hK K) | (refine plan_l rfl (fun K hK => ?_); go_simp; refine hK _ ?_; clear hK K))
          refine plan_done ?_
          go_wp2
          go_ret
          exact ⟨rfl, (hW1.trans hEr).drew⟩
        · go_wp2
          refine region_calm [.p 0, .l 1, .p 2, .l 3, .p 4, .l 5, .p 6, .p 7, .p 8] f_mixed (by kernel_rfl) (by kernel_rfl) ?_
          repeat (first | (refine plan_p rfl (fun K hK => ?_); go_simp; refine hK _ ?_; clear hK K) | (refine plan_l rfl (fun K hK => ?_); go_simp; refine hK _ ?_; clear hK K))
          refine plan_done ?_
          go_wp2_with fail
          refine (Find_ok a2 a0 l0 tb L bs' _ (HT.out.ext (Ext.refl wr).drew) (by rw [HLEN.out]; exact HSZ.out)).mono ?_
          rintro e w4 ⟨g, cap4, rfl, hS, hg, hE4⟩
          have hq : inRange a2 a0 l0 L = [] := by
            unfold inRange
            rw [List.filter_eq_nil_iff]
            intro q hq
            simp only [decide_eq_true_eq]
            omega
          simp only [hq] at *
          clear hS hg
          have hE5 : Ext wr w4 := (Ext.refl wr).drew.trans hE4
          clear hE4
          go_wp2
          go_ret
          exact ⟨rfl, (hW1.trans hEr).trans hE5⟩
      by_cases h3 : l1 < l0
      · skip
        clear hik
        by_cases h4 : a2 ≤ a0
        · go_wp2
          refine region_calm [.p 0, .l 1, .p 2, .l 3, .p 4, .l 5, .p 6, .p 7, .p 8] f_mixed (by kernel_rfl) (by kernel_rfl) ?_
          repeat (first | (refine plan_p rfl (fun K hK => ?_); go_simp; refine hK _ ?_; clear hK K) | (refine plan_l rfl (fun K hK => ?_); go_simp; refine hK _ ?_; clear hK K))
          refine plan_done ?_
          go_wp2
          go_ret
          exact ⟨rfl, (hW1.trans hEr).drew⟩
        · go_wp2
          refine region_calm [.p 0, .l 1, .p 2, .l 3, .p 4, .l 5, .p 6, .p 7, .p 8] f_mixed (by kernel_rfl) (by kernel_rfl) ?_
          repeat (first | (refine plan_p rfl (fun K hK => ?_); go_simp; refine hK _ ?_; clear hK K) | (refine plan_l rfl (fun K hK => ?_); go_simp; refine hK _ ?_; clear hK K))
          refine plan_done ?_
          go_wp2_with fail
          refine (Find_ok a2 a0 l0 tb L bs' _ (HT.out.ext (Ext.refl wr).drew) (by rw [HLEN.out]; exact HSZ.out)).mono ?_
          rintro e w4 ⟨g, cap4, rfl, hS, hg, hE4⟩
          have hq : inRange a2 a0 l0 L = [] := by
            unfold inRange
            rw [List.filter_eq_nil_iff]
            intro q hq
            simp only [decide_eq_true_eq]
            omega
          simp only [hq] at *
          clear hS hg
          have hE5 : Ext wr w4 := (Ext.refl wr).drew.trans hE4
          clear hE4
          go_wp2
          go_ret
          exact ⟨rfl, (hW1.trans hEr).trans hE5⟩
      have hb1 := HA1.out
      have hb2 := HA2.out
      obtain ⟨hb3, hb4⟩ := hb1
      clear hik
      have hsrt : L.Pairwise kLt := HT.out.srt
      have hsp := inRange_split a0 a1 a2 l0 (by omega) (by omega) L hsrt
      have hmo := inRange_mono a0 a2 l0 l1 (by omega) L
      have hle := inRange_le a0 a2 l0 L
      have HSP := Lib.hid hsp; clear hsp hsrt
      have HMO := Lib.hid hmo; clear hmo
      have HLE := Lib.hid hle; clear hle
      go_wp2
      refine region_calm [.p 0, .l 1, .p 2, .l 3, .p 4, .l 5, .p 6, .p 7, .p 8] f_mixed (by kernel_rfl) (by kernel_rfl) ?_
      repeat (first | (refine plan_p rfl (fun K hK => ?_); go_simp; refine hK _ ?_; clear hK K) | (refine plan_l rfl (fun K hK => ?_); go_simp; refine hK _ ?_; clear hK K))
      refine plan_done ?_
      go_wp2_with fail
      refine (Find_ok a0 a2 l0 tb L bs' _ (HT.out.ext (Ext.refl wr).drew) (by rw [HLEN.out]; exact HSZ.out)).mono ?_
      rintro e w4 ⟨g1, cap1, rfl, hS1, hg1, hE4⟩
      have hE5 : Ext wr w4 := (Ext.refl wr).drew.trans hE4
      clear hg1 hE4 d0 d1 d2
      have f0 := Ext.cell hE5 e0
      have f1 := Ext.cell hE5 e1
      generalize hq1 : inRange a0 a2 l0 L = q1 at hS1 ⊢
      have HQ1 := Lib.hid hq1; clear hq1
      have HS1 := Lib.hid hS1; clear hS1 e0 e1
      go_wp2
      refine region_calm [.p 0, .p 1, .p 2, .p 3, .l 4, .p 6, .p 7, .p 8, .p 9, .p 10, .l 11, .h 5 true, .h 12 false, .h 13 false, .p 14] f_mixed (by kernel_rfl) (by kernel_rfl) ?_
      repeat (first | (refine plan_p rfl (fun K hK => ?_); go_simp; refine hK _ ?_; clear hK K) | (refine plan_l rfl (fun K hK => ?_); go_simp; refine hK _ ?_; clear hK K))
      refine plan_ct rfl rfl (fun K _ hK => ?_)
      go_wp2_with fail
      refine (Find_ok a0 a1 l0 tb L bs' _ (HT.out.ext hE5.drew) (by rw [HLEN.out]; exact HSZ.out)).mono ?_
      rintro e w6 ⟨g2, cap2, rfl, hS2, hg2, hE6⟩
      generalize hq2 : inRange a0 a1 l0 L = q2 at hS2 ⊢
      have HQ2 := Lib.hid hq2; clear hq2
      have HS2 := Lib.hid hS2; clear hS2
      have HG2 := Lib.hid hg2; clear hg2
      go_wp2_with fail
      refine hK _ _ (hE6) ?_; clear hK K
      have hE7 : Ext wr w6 := hE5.drew.trans hE6
      refine plan_c rfl rfl (fun K _ hK => ?_)
      go_wp2_with fail
      refine (Find_ok (a1 + 1) a2 l0 tb L bs' _ (HT.out.ext hE7) (by rw [HLEN.out]; exact HSZ.out)).mono ?_
      rintro e w8 ⟨g3, cap3, rfl, hS3, hg3, hE8⟩
      generalize hq3 : inRange (a1 + 1) a2 l0 L = q3 at hS3 ⊢
      have HQ3 := Lib.hid hq3; clear hq3
      have HS3 := Lib.hid hS3; clear hS3 hg3
      have hl23 : q1.length = q2.length + q3.length := by have := HSP.out; rw [HQ1.out, HQ2.out, HQ3.out] at this; rw [this, List.length_append]
      have HL23 := Lib.hid hl23; clear hl23
      go_wp2_with fail
      refine plan_c rfl rfl (fun K _ hK => ?_)
      refine app_sl ei_point rfl (.tmp 80) (.tmp 87) rfl (by rfl) (HS2.out.ext hE8) (by rfl) HS3.out (flatP_one q3) ?_ ?_
      · have := HLE.out; have := HLEN.out; have := HSZ.out; have := HL23.out; have := congrArg List.length HQ1.out; omega
      intro g4 cap4 w9 hS4 ht9 hg4
      have hE9 : Ext w4 w9 := by
        refine Touch.fresh (a := w4) (b := w8) ((Ext.refl w4).drew.trans (hE6.trans hE8)) ht9 (fun k hk => ?_)
        have := HG2.out k hk
        exact this
      rw [← flatP_append] at hS4
      have hq4 : q2 ++ q3 = q1 := by have := HSP.out; rw [HQ1.out, HQ2.out, HQ3.out] at this; exact this.symm
      rw [hq4] at hS4
      have HS4 := Lib.hid hS4; clear hS4 ht9 hg4 hq4
      have hE10 : Ext wr w9 := hE5.trans hE9
      have e1 := Ext.cell hE9 f1
      clear f0 f1
      rw [← HL23.out]
      go_wp2
      repeat (first | (refine plan_p rfl (fun K hK => ?_); go_simp; refine hK _ ?_; clear hK K) | (refine plan_l rfl (fun K hK => ?_); go_simp; refine hK _ ?_; clear hK K))
      refine plan_done ?_
      go_wp2_with fail
      refine (Find_ok a0 a2 l1 tb L bs' _ (HT.out.ext hE10) (by rw [HLEN.out]; exact HSZ.out)).mono ?_
      rintro e w11 ⟨g5, cap5, rfl, hS5, hg5, hE11⟩
      have hmo' : (inRange a0 a2 l1 L).length ≤ q1.length := by rw [← HQ1.out]; exact HMO.out
      clear hS5 hg5 e1
      generalize (inRange a0 a2 l1 L).length = m5 at hmo' ⊢
      have hS4 : Sl w9 31 3 g4 q1.length cap4 (flatP q1) := by rw [HL23.out]; exact HS4.out
      have HS5 := Lib.hid (hS4.ext hE11)
      have HS6 := Lib.hid ((HS1.out.ext hE9).ext hE11)
      have hEw : Ext w w11 := hW1.trans (hEr.trans (hE10.trans hE11))
      clear hS4 hE5 hE6 hE7 hE8 hE9 hE10 hE11 hEr
      have hdec : decide (q1.length < m5) = false := by simp; omega
      have hmax : q1.length ≤ 1000000000000000 := by have := HLE.out; have := HLEN.out; have := HSZ.out; have := congrArg List.length HQ1.out; omega
      go_wp2
      go_loopg [108] q1.length (fun k v wr => ∃ j : Nat, j + k = q1.length ∧ v = .int .i64 j ∧ Ext w11 wr)
      case atStart => exact ⟨0, by omega, rfl, Ext.refl _⟩
      case round =>
        rename_i wo _ _ _
        obtain ⟨j, hjk, hj, hEx⟩ := hrel
        subst hj
        by_cases hlt : j < q1.length
        · obtain ⟨b1, hgb1⟩ := HS6.out.some_of_pos (by omega)
          obtain ⟨b4, hgb4⟩ := HS5.out.some_of_pos (by omega)
          have z1 := run_index_slv ei_point (cap := cap1) hgb1 hlt
          have z4 := run_index_slv ei_point (cap := cap4) hgb4 hlt
          obtain ⟨q, hq⟩ : ∃ q, q1[j]? = some q := ⟨q1[j]'hlt, by rw [List.getElem?_eq_getElem]⟩
          obtain ⟨k0, k1, k2⟩ := flatP_get q1 j q hq
          have HS5' := HS5.out
          have HS6' := HS6.out
          rw [hgb1] at HS6'
          rw [hgb4] at HS5'
          have x0 := Ext.cell hEx (HS6'.cell k0)
          have x1 := Ext.cell hEx (HS6'.cell k1)
          have x2 := Ext.cell hEx (HS6'.cell k2)
          have y0 := Ext.cell hEx (HS5'.cell k0)
          have y1 := Ext.cell hEx (HS5'.cell k1)
          have y2 := Ext.cell hEx (HS5'.cell k2)
          clear k0 k1 k2 hq hgb1 hgb4 HS5' HS6'
          have HJ := Lib.hid hjk; clear hjk
          go_wp2
          refine region_calm [.p 0, .p 1, .p 2, .l 3, .p 4, .p 5, .p 6, .l 7, .p 8] f_mixed (by kernel_rfl) (by kernel_rfl) ?_
          repeat (first | (refine plan_p rfl (fun K hK => ?_); go_simp; refine hK _ ?_; clear hK K) | (refine plan_l rfl (fun K hK => ?_); go_simp; refine hK _ ?_; clear hK K))
          refine plan_done ?_
          go_wp2
          go_roundg (gk - 1)
          case measure => have := HJ.out; omega
          case rel => exact ⟨j + 1, by have := HJ.out; omega, by go_num, hEx.drew⟩
        · go_wp2
          go_ret
          exact ⟨rfl, hEw.trans hEx⟩

end Go.Proofs.Ytcildmdmgjehbaa
