/- PstreeDrains: walked. -/
import Derived.Test.YtcildmdmgjehbaaSpl
namespace Go.Proofs.Ytcildmdmgjehbaa
open Go.RowKit

/-- After j points were taken: m are left, none later than v. -/
def DrnInv (w1 : World) (tb n : Nat) (ps : List (Int × Int)) (m : Nat) (v7 v6 : Value) (wr : World) : Prop :=
  ∃ (lv : Int) (L : List Pt) (bs : List Nat), m ≤ n ∧ v7 = .int .i64 (m : Int) ∧ v6 = .int .i64 lv ∧ L.length = m ∧ TreeOk wr tb L bs ∧ (∀ b ∈ bs, w1.heap.size ≤ b) ∧
    (∀ q ∈ L, q.2.1 ≤ lv) ∧ (∀ q ∈ L, q ∈ ptsUp ps n) ∧ Ext w1 wr

theorem ptsUp_mem (ps : List (Int × Int)) (n : Nat) (q : Pt) (h : q ∈ ptsUp ps n) (hn : ps.length = n) : ∃ (c : Nat) (p : Int × Int), c < n ∧ ps[c]? = some p ∧ q = (p.1, p.2, (c : Int)) := by
  simp only [ptsUp, List.mem_map, List.mem_range] at h
  obtain ⟨i, hi, rfl⟩ := h
  refine ⟨i, ps[i]'(by omega), hi, by rw [List.getElem?_eq_getElem], ?_⟩
  simp [List.getElem?_eq_getElem (show i < ps.length by omega)]

set_option maxRecDepth 100000 in
set_option maxHeartbeats 40000000 in
theorem drains_any (sv : Option Addr) (n cap : Nat) (ps : List (Int × Int)) (w : World) (hn : ps.length = n) (hc : Pers w sv ps) (hsz : n * 24 ≤ 140737488355328) (hw : ∀ p ∈ ps, p.2 ≤ 9223372036854775807) :
    Calls Try.prog 6 #[.slice sv n cap] w
      (fun e w' => e = .returned (.bool true) ∧ Ext w w') := by
  have HN := Lib.hid hn; clear hn
  have HC := Lib.hid hc; clear hc
  have HSZ := Lib.hid hsz
  have HW := Lib.hid hw; clear hw
  go_enter Try.func6, Try.ntmps6
  go_wp2_with fail
  refine (awake_any _).mono ?_
  rintro e w1 ⟨rfl, hW1⟩
  go_wp2_with fail
  refine (New_ok w1).mono ?_
  rintro e w2 ⟨tb, bs, rfl, hT2, hb2, hE2⟩
  have HT2 : Hid (TreeHas w1.heap.size w2 tb (ptsUp ps 0)) := ⟨[], bs, hT2, List.Perm.refl _, hb2⟩
  clear hT2 hb2
  go_wp2
  go_loopg [17] n (fun k v wr => SplInv w1 tb n ps k v wr)
  case atStart => exact ⟨0, by omega, rfl, HT2.out, hE2⟩
  case round =>
    obtain ⟨i, hik, rfl, hTr, hEr⟩ := hrel
    have HTr := Lib.hid hTr; clear hTr
    by_cases hlt : i < n
    · obtain ⟨lb, off, hsv, hcell⟩ := (HC.out.ext (hW1.trans hEr)) (by have := HN.out; omega)
      subst hsv
      obtain ⟨p, hp⟩ : ∃ p, ps[i]? = some p := ⟨ps[i]'(by rw [HN.out]; exact hlt), by rw [List.getElem?_eq_getElem]⟩
      obtain ⟨c0, c1⟩ := hcell i p hp
      have HP := Lib.hid hp; clear hp hcell
      have hbl : lb < wr.heap.size := World.block_lt_of_cell? wr _ c0
      have hik' : i ≤ n := by omega
      have HIK := Lib.hid hik; clear hik
      go_wp2_with fail
      obtain ⟨L, bs', hT, hpm, hbs⟩ := HTr.out
      refine (Add_ok tb p.1 p.2 i L bs' _ (hT.ext ((Ext.refl wr).alloc _)) (fun q hq => ptsUp_id ps i q (hpm.subset hq))).mono ?_
      rintro e w3 ⟨L3, bs3, rfl, hT3, hp3, hb3, ht3⟩
      have hinv : TreeHas w1.heap.size w3 tb (ptsUp ps (i + 1)) := by
        rw [ptsUp_succ, HP.out]
        exact TreeHas.added hT3 hp3 hpm hbs hb3 (by have := hEr.size; simp; omega)
      have hE3 : Ext w1 w3 := Touch.fresh (hEr.alloc _) ht3 hbs
      have HINV := Lib.hid hinv
      have HT3 := Lib.hid hT3
      have hdup : ∃ q ∈ L3, q.2.2 = (i : Int) := ⟨(p.1, p.2, (i : Int)), hp3.symm.subset (by simp), rfl⟩
      have HDUP := Lib.hid hdup
      clear hinv hT hpm hbs hT3 hp3 hb3 ht3 hdup
      go_wp2_with fail
      refine (Add_dup tb 0 0 i L3 bs3 w3 HT3.out HDUP.out).mono ?_
      rintro e w4 ⟨rfl, hE4⟩
      have HINV4 := Lib.hid (HINV.out.ext hE4)
      have hE5 : Ext w1 w4 := hE3.trans hE4
      clear hE3 hE4
      go_wp2
      go_roundg (gk - 1)
      case measure => have := HIK.out; omega
      case rel => exact ⟨i + 1, by have := HIK.out; omega, by go_num, HINV4.out, hE5⟩
    · have hin : i = n := by omega
      subst hin
      obtain ⟨L, bs', hT, hpm, hbs⟩ := HTr.out
      have hlen : L.length = i := by rw [hpm.length_eq, ptsUp_length]
      have HI : Hid (DrnInv w1 tb i ps i (.int .i64 (i : Int)) (.int .i64 9223372036854775807) wr) := by
        refine ⟨9223372036854775807, L, bs', Nat.le_refl _, rfl, rfl, hlen, hT, hbs, fun q hq => ?_, fun q hq => hpm.subset hq, hEr⟩
        obtain ⟨c, p, hcn, hp, rfl⟩ := ptsUp_mem ps i q (hpm.subset hq) HN.out
        exact HW.out p (List.mem_of_getElem? hp)
      clear hT hpm hbs hlen hlt hik hEr HTr hE2 HT2
      go_wp2
      go_loopg [7, 6] i (fun k v7 v6 wr => DrnInv w1 tb i ps k v7 v6 wr)
      case atStart => exact HI.out
      case round =>
        obtain ⟨lv, L, bs, hgn, rfl, rfl, hL, hT, hbs, hlv, hmem, hEr⟩ := hrel
        have HT := Lib.hid hT; clear hT
        have HBS := Lib.hid hbs; clear hbs
        have HLV := Lib.hid hlv; clear hlv
        have HMEM := Lib.hid hmem; clear hmem
        have HL := Lib.hid hL; clear hL
        by_cases hlt : 0 < gk
        · obtain ⟨p, hpL, htop, hcall⟩ := Top_ok tb L bs wr HT.out (by intro h; have := HL.out; rw [h] at this; simp at this; omega)
          obtain ⟨c, pp, hcn, hpp, rfl⟩ := ptsUp_mem ps i p (HMEM.out p hpL) HN.out
          obtain ⟨lb, off, hsv, hcell⟩ := (HC.out.ext (hW1.trans hEr)) (by have := HN.out; omega)
          subst hsv
          obtain ⟨-, c1⟩ := hcell c pp hpp
          have HPP := Lib.hid hpp; clear hpp hcell
          have HPL := Lib.hid hpL; clear hpL
          have HTOP := Lib.hid htop; clear htop
          have hyl : pp.2 ≤ lv := HLV.out _ HPL.out
          go_wp2_with fail
          refine hcall.mono ?_
          rintro e w5 ⟨rfl, hE5⟩
          clear hcall
          have d1 := Ext.cell hE5 c1
          have hlb : lb < w5.heap.size := World.block_lt_of_cell? w5 _ d1
          have hy2 : decide (lv < pp.2) = false := by simp; omega
          have hc2 : decide (i ≤ c) = false := by simp; omega
          have hmz : (gk : Int) - 1 = ((gk - 1 : Nat) : Int) := by omega
          clear c1 hyl
          have HT5 := Lib.hid (HT.out.ext hE5)
          go_wp2
          refine region_calm [.p 0, .p 1, .p 2, .p 3, .l 4, .p 5, .p 6, .p 7, .p 8, .p 9, .l 10, .p 11, .p 12, .p 13, .p 14, .l 15, .p 16, .p 17, .p 18, .p 19, .p 20, .p 21, .p 22, .l 23, .p 24, .p 25, .l 26, .p 27, .l 28, .p 29, .p 30, .p 31, .p 32, .p 33, .l 34, .h 35 false, .p 36, .p 37, .p 38, .p 39, .p 40, .l 41, .h 42 false, .p 43, .p 44, .p 45, .p 46, .p 48, .p 49, .h 47 false, .p 50, .p 51] f_mixed (by kernel_rfl) (by kernel_rfl) ?_
          repeat (first | (refine plan_p rfl (fun K hK => ?_); go_simp; refine hK _ ?_; clear hK K) | (refine plan_l rfl (fun K hK => ?_); go_simp; refine hK _ ?_; clear hK K))
          refine plan_h rfl (fun K hK => ?_)
          go_wp2_with fail
          have hE6 : Ext w1 w5 := hEr.trans hE5
          have hbs6 := HBS.out
          have hd8 : (w5.alloc (.cells #[.int .i64 pp.1, .int .i64 pp.2, .int .i64 c] 31)).drew.heap[w5.heap.size]? = some (.cells #[.int .i64 pp.1, .int .i64 pp.2, .int .i64 c] 31 (0, 0)) := blk_new w5 _
          refine (Cut_ok tb (pp.1, pp.2, (c : Int)) L bs _ (HT5.out.ext (((Ext.refl w5).alloc _).drew)) HPL.out).mono ?_
          rintro e w7 ⟨L7, bs7, rfl, hT7, hp7, hsub7, hb7, ht7⟩
          have hn8 : ∀ k ∈ bs, k ≠ w5.heap.size := fun k hk => by have := HT5.out.lt k hk; omega
          have hd9 := ht7.old hd8 (fun hk => hn8 _ hk rfl)
          have hE7 : Ext w1 w7 := Touch.fresh ((hE6.alloc _).drew) ht7 hbs6
          have hid7 : ∀ q ∈ L7, q.2.2 ≠ (c : Int) := fun q hq he => by
            have h1 := HT5.out.ids
            have h2 := (hp7.map (fun q : Pt => q.2.2)).nodup_iff.1 h1
            simp only [List.map_cons, List.nodup_cons, List.mem_map, not_exists, not_and] at h2
            exact h2.1 q hq he
          have hl7 : L7.length = gk - 1 := by have := hp7.length_eq; have := HL.out; simp at *; omega
          have HT7 := Lib.hid hT7
          have HS7 := Lib.hid hsub7
          have HB7 := Lib.hid (show ∀ b ∈ bs7, w1.heap.size ≤ b from fun b hb => hbs6 b (hb7 b hb))
          have HID7 := Lib.hid hid7
          have HL7 := Lib.hid hl7
          have HD9 := Lib.hid hd9
          obtain ⟨g0, g1, g2⟩ := blk3 hd9
          have hlt9 : w5.heap.size < w7.heap.size := blk_lt hd9
          generalize hb9 : w5.heap.size = b9 at *
          clear hT7 hp7 hsub7 hb7 ht7 hn8 hd9 hid7 hl7 hbs6 hd8 hE6 d1 hlb hE5 HT5 hb9
          go_wp2
          repeat (first | (refine plan_p rfl (fun K hK => ?_); go_simp; refine hK _ ?_; clear hK K) | (refine plan_l rfl (fun K hK => ?_); go_simp; refine hK _ ?_; clear hK K))
          refine plan_h rfl (fun K hK => ?_)
          go_wp2_with fail
          refine (Cut_no tb c L7 bs7 w7 HT7.out HID7.out).mono ?_
          rintro e w8 ⟨rfl, hE8⟩
          have hE9 : Ext w1 w8 := hE7.trans hE8
          have f0 := Ext.cell hE8 g0
          have f1 := Ext.cell hE8 g1
          have f2 := Ext.cell hE8 g2
          have HT8 := Lib.hid (HT7.out.ext hE8)
          clear g0 g1 g2 hE7 hE8 hlt9
          go_wp2
          repeat (first | (refine plan_p rfl (fun K hK => ?_); go_simp; refine hK _ ?_; clear hK K) | (refine plan_l rfl (fun K hK => ?_); go_simp; refine hK _ ?_; clear hK K))
          refine plan_h rfl (fun K hK => ?_)
          go_wp2_with fail
          refine (Len_ok tb L7 bs7 w8 HT8.out).mono ?_
          rintro e w9 ⟨rfl, rfl⟩
          rw [HL7.out]
          go_wp2
          repeat (first | (refine plan_p rfl (fun K hK => ?_); go_simp; refine hK _ ?_; clear hK K) | (refine plan_l rfl (fun K hK => ?_); go_simp; refine hK _ ?_; clear hK K))
          refine plan_done ?_
          go_wp2
          go_roundg (gk - 1)
          case measure => omega
          case rel =>
            refine ⟨pp.2, L7, bs7, by omega, by rw [← hmz], rfl, HL7.out, HT8.out, HB7.out, fun q hq => ?_, fun q hq => HMEM.out q (HS7.out.subset hq), hE9⟩
            have h1 := HTOP.out q (HS7.out.subset hq)
            rcases h1 with rfl | h1 | ⟨h1, -⟩
            · exact Int.le_refl _
            · simp only at h1; omega
            · simp only at h1; omega
        · have hg0 : gk = 0 := by omega
          subst hg0
          have hLn : L = [] := List.length_eq_zero_iff.1 HL.out
          subst hLn
          go_wp2_with fail
          refine (Top_none tb bs wr HT.out).mono ?_
          rintro e w5 ⟨rfl, hE5⟩
          have hE6 : Ext w w5 := hW1.trans (hEr.trans hE5)
          have HT6 := Lib.hid (HT.out.ext (hE5.alloc (.cells #[.int .i64 0, .int .i64 0, .int .i64 0] 31)))
          clear hE5
          go_wp2_with fail
          refine (Find_ok (-9223372036854775808) 9223372036854775807 (-9223372036854775808) tb [] bs _ HT6.out (by simp)).mono ?_
          rintro e w7 ⟨g, cap7, rfl, hS, hg, hE7⟩
          have hz : (inRange (-9223372036854775808) 9223372036854775807 (-9223372036854775808) []).length = 0 := rfl
          rw [hz]
          clear hS hg
          go_wp2
          go_ret
          exact ⟨rfl, (hE6.alloc _).trans hE7⟩
end Go.Proofs.Ytcildmdmgjehbaa
