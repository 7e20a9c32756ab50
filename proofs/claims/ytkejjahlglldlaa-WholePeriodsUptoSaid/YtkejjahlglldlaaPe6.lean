/- period.Union: walked. -/
import Derived.Test.YtkejjahlglldlaaPe5
namespace Go.Proofs.Ytkejjahlglldlaa
open Go.RowKit

theorem PSl.last {w : World} {b m cap : Nat} {init : List Per} {l : Per} (h : PSl w (some b) (m + 1) cap (init ++ [l])) (v : Int) : PSl (w.setCell ⟨b, m * 2 + 1, none⟩ (.int .i64 v)) (some b) (m + 1) cap (init ++ [(l.1, v)]) := by
  obtain ⟨cur, hb, hs, hc⟩ := h.raw
  have hcnt := h.count
  have hle := h.le
  have hi : init.length = m := by simpa using hcnt
  refine Sl.of_cells h (Nat.le_refl _) (blk_set hb (m * 2 + 1) (.int .i64 v)) (by simp [hs]) (by rw [flatQ_len]; simp [hi]) ?_
  intro j u hu
  rw [flatQ_append] at hu hc
  have hfl := flatQ_len init
  rcases Nat.lt_or_ge j (m * 2 + 1) with hj | hj
  · rw [Array.getElem?_setIfInBounds_ne (by omega)]
    refine hc j u ?_
    rcases Nat.lt_or_ge j (m * 2) with hj2 | hj2
    · rw [List.getElem?_append_left (by omega)] at hu ⊢
      exact hu
    · have : j = m * 2 := by omega
      subst this
      rw [List.getElem?_append_right (by omega)] at hu ⊢
      rw [hfl, hi, Nat.sub_self] at hu ⊢
      exact hu
  · have hj2 : j < (flatQ init ++ flatQ [(l.1, v)]).length := (List.getElem?_eq_some_iff.1 hu).1
    rw [List.length_append, hfl, hi] at hj2
    simp [flatQ] at hj2
    have : j = m * 2 + 1 := by omega
    subst this
    rw [List.getElem?_append_right (by omega), hfl, hi, show m * 2 + 1 - m * 2 = 1 by omega] at hu
    simp [flatQ] at hu
    rw [Array.getElem?_setIfInBounds_self_of_lt (by omega), ← hu]
/-- The union that a call gives. -/
def UniPost (ps : List Per) (w : World) (e : Ending) (w' : World) : Prop :=
  ∃ g m cap' out, e = .returned (slv g m cap') ∧ PSl w' g m cap' out ∧ IsUni ps out ∧ m ≤ ps.length ∧ (∀ b, g = some b → w.heap.size ≤ b) ∧ Ext w w'
def UniInv (W : World) (qs : List Per) (n k : Nat) (v4 v15 : Value) (wr : World) : Prop :=
  ∃ (i m : Nat) (g : Option Nat) (cap : Nat) (out : List Per), i + k = n ∧ v15 = .int .i64 (i : Int) ∧ v4 = slv g m cap ∧ PSl wr g m cap out ∧ m ≤ i ∧ UniSo qs i out ∧ (∀ b, g = some b → W.heap.size ≤ b) ∧ Ext W wr
set_option maxRecDepth 100000 in
set_option maxHeartbeats 16000000 in
theorem Union_ok (sv : Option Addr) (n cap : Nat) (ps : List Per) (w : World) (hn : ps.length = n) (hp : Pers w sv ps) (hnil : sv = none → n = 0) (hsz : n ≤ 2199023255552) :
    Calls Try.prog 26 #[.slice sv n cap] w (UniPost ps w) := by
  go_enter Try.func26, Try.ntmps26
  go_wp2_with fail
  refine (Clone_ok sv n cap ps w hn hp hnil hsz).mono ?_
  rintro e w1 ⟨g1, cap1, rfl, hS1, hg1, hE1⟩
  have HN := Lib.hid hn
  clear hp hnil hn
  have HG1 := Lib.hid hg1; clear hg1
  have HE1 := Lib.hid hE1; clear hE1
  have HS1 := Lib.hid hS1; clear hS1
  go_wp2_with fail
  refine (DeleteFunc_ok g1 n cap1 ps w1 HS1.out hsz).mono ?_
  rintro e w2 ⟨cap2, rfl, hS2, hT2⟩
  have hlen2 : (ps.filter fun q => decide (okP q)).length ≤ n := by rw [← HN.out]; exact List.length_filter_le _ _
  have HE2 : Hid (Ext w w2) := Touch.freshX HE1.out hT2 (fun k hk => HG1.out k hk)
  have HOK : Hid ((ps.filter fun q => decide (okP q)) = okL ps) := rfl
  generalize hnn : (ps.filter fun q => decide (okP q)).length = nn at hS2 hlen2 ⊢
  have HS2 := Lib.hid hS2; clear hS2 hT2
  go_wp2_with fail
  refine (sortP_ok g1 nn cap2 _ w2 HS2.out (by omega)).mono ?_
  rintro e w3 ⟨rfl, qs, hperm, hsort, hS3, hT3⟩
  have HE3 : Hid (Ext w w3) := Touch.freshX HE2.out hT3 (fun k hk => HG1.out k hk)
  have HPERM : Hid (qs.Perm (okL ps)) := hperm
  have HSORT := Lib.hid hsort
  have HS3 := Lib.hid hS3
  have HQL : Hid (qs.length = nn) := hS3.count
  clear hperm hsort hS3 hT3 HE2 HS2 HS1 HE1 hnn
  have HALL : Hid (∀ q ∈ qs, okP q) := fun q hq => (mem_okL.1 (HPERM.out.mem_iff.1 hq)).2
  go_wp2
  go_loopg [4, 15] nn (fun k v4 v15 wr => UniInv w3 qs nn k v4 v15 wr)
  case atStart => exact ⟨0, 0, none, 0, [], by omega, rfl, rfl, Sl.nil _ _ _, by omega, UniSo.start qs, by simp, Ext.refl _⟩
  case round =>
    obtain ⟨i, m, g, cap', out, hik, rfl, rfl, hO, hmi, hU, hg, hE⟩ := hrel
    have HIK := Lib.hid hik; clear hik
    have HO := Lib.hid hO; clear hO
    have HU := Lib.hid hU; clear hU
    have HG := Lib.hid hg; clear hg
    have HE := Lib.hid hE; clear hE
    by_cases hlt : i < nn
    · obtain ⟨b1, hb1⟩ := HS3.out.some_of_pos (by omega)
      have hS := HS3.out.ext HE.out
      rw [hb1] at hS
      have hlb1 := hS.block_lt
      obtain ⟨⟨pa, pb⟩, hq⟩ : ∃ q, qs[i]? = some q := ⟨qs[i]'(by rw [HQL.out]; exact hlt), by rw [List.getElem?_eq_getElem]⟩
      have c0 := hS.cell (flatQ_get qs i _ hq).1
      have c1 := hS.cell (flatQ_get qs i _ hq).2
      simp only at c0 c1
      have z1 := fun u => run_index_slv ei_per (cap := cap2) hb1 hlt u
      have hok := HALL.out _ (List.mem_of_getElem? hq)
      have HOKP := Lib.hid hok
      have HQ := Lib.hid hq
      clear hS hok hq hb1
      rcases List.eq_nil_or_concat out with rfl | ⟨init, ⟨la, lb⟩, rfl⟩
      · have hm0 : m = 0 := by have := HO.out.count; simpa using this.symm
        subst hm0
        have HU2 := Lib.hid (HU.out.more HSORT.out HQ.out HOKP.out (by simp))
        go_wp2
        refine region_calm [.p 0, .p 1, .p 2, .p 3, .l 4, .p 5, .p 6, .p 7, .p 8, .p 9, .l 10, .p 11, .p 12] f_mixed (by kernel_rfl) (by kernel_rfl) ?_
        repeat (first | (refine plan_p rfl (fun K hK => ?_); go_simp; refine hK _ ?_; clear hK K) | (refine plan_l rfl (fun K hK => ?_); go_simp; refine hK _ ?_; clear hK K))
        refine plan_done ?_
        go_wp2_with (at_builtin; refine (fun (h : True → _) => h trivial) ?_)
        intro _
        refine app_lit ei_per rfl (.tmp 48) (.tmp 50) rfl (g := g) (n := 0) (cap := cap') (b := wr.heap.size + 1) (by rfl) (HO.out.ext (((Ext.refl wr).alloc _).drew.alloc _)) (by rfl) rfl (blk_new_at _ (by simp)) (by simp [Value.oneCell']) (by omega) (by omega) ?_
        intro g5 cap5 w5 hS5 hT5 hat5
        have hO5 : PSl w5 (some g5) (0 + 1) cap5 (([] : List Per) ++ [(pa, pb)]) := by
          show Sl _ _ _ _ _ _ _
          rw [flatQ_append]
          exact hS5
        have HO5 := Lib.hid hO5
        have HG5 : Hid (∀ b, some g5 = some b → w3.heap.size ≤ b) := by
          intro k hk
          cases hk
          rcases hat5 with h | h
          · exact HG.out _ h
          · have := HE.out.size; simp at h; omega
        have HE5 : Hid (Ext w3 w5) := Touch.freshX (((HE.out.alloc _).drew).alloc _) hT5 (fun k hk => HG.out k hk)
        clear hS5 hT5 hat5 hO5
        go_wp2
        go_roundg (gk - 1)
        case measure => have := HIK.out; omega
        case rel => exact ⟨i + 1, 0 + 1, some g5, cap5, ([] : List Per) ++ [(pa, pb)], by have := HIK.out; omega, by go_num, rfl, HO5.out, by omega, HU2.out, HG5.out, HE5.out⟩
      · rw [List.concat_eq_append] at HO HU
        obtain ⟨m, rfl⟩ : ∃ m', m = m' + 1 := ⟨m - 1, by have := HO.out.count; simp at this; omega⟩
        obtain ⟨b, hb⟩ := HO.out.some_of_pos (by omega)
        subst hb
        have hil : init.length = m := by have := HO.out.count; simpa using this
        have hgl := flatQ_get (init ++ [(la, lb)]) m (la, lb) (by rw [← hil]; simp)
        have d1 := HO.out.cell hgl.2
        simp only at d1
        obtain ⟨craw, hraw, hrs, hrc⟩ := HO.out.raw
        have f1 := blk_frozen hraw (m * 2 + 1)
        have hbl := HO.out.block_lt
        have z2 := fun u => run_index_slv ei_per (g := some b) (cap := cap') rfl (show m < m + 1 by omega) u
        have hwm : IntKind.i64.wrap (m : Int) = (m : Int) := by rw [IntKind.wrap_i64]; omega
        clear hraw hrs hrc hgl hil
        by_cases hin : pa ≤ lb
        · have HU2 : Hid (UniSo qs (i + 1) (init ++ [(la, max lb pb)])) := HU.out.wide HQ.out HOKP.out hin
          go_wp2
          refine region_calm [.p 0, .p 1, .p 2, .p 3, .l 4, .p 5, .p 6, .p 7, .p 8, .p 9, .l 10, .p 11, .p 12] f_mixed (by kernel_rfl) (by kernel_rfl) ?_
          repeat (first | (refine plan_p rfl (fun K hK => ?_); go_simp; refine hK _ ?_; clear hK K) | (refine plan_l rfl (fun K hK => ?_); go_simp; refine hK _ ?_; clear hK K))
          refine plan_done ?_
          go_wp2
          refine region_calm [.p 0, .p 1, .p 2, .p 3, .p 4, .p 5, .p 6, .p 7, .l 8, .p 9, .l 10, .p 11, .p 12, .p 13, .h 14 false] f_mixed (by kernel_rfl) (by kernel_rfl) ?_
          repeat (first | (refine plan_p rfl (fun K hK => ?_); go_simp; refine hK _ ?_; clear hK K) | (refine plan_l rfl (fun K hK => ?_); go_simp; refine hK _ ?_; clear hK K))
          refine plan_c rfl rfl (fun K _ hK => ?_)
          go_wp2
          refine plan_done ?_
          go_wp2
          go_roundg (gk - 1)
          case measure => have := HIK.out; omega
          case rel =>
            refine ⟨i + 1, m + 1, some b, cap', init ++ [(la, max lb pb)], by have := HIK.out; omega, by go_num, rfl, ?_, by omega, HU2.out, HG.out, ?_⟩
            · exact (PSl.last HO.out (max lb pb)).ext ((((Ext.refl _).alloc _).drew).drew)
            · have hE1 : Ext w3 (wr.setCell ⟨b, m * 2 + 1, none⟩ (.int .i64 (max lb pb))) := Below.setCell (p := ⟨b, m * 2 + 1, none⟩) HE.out (HG.out b rfl) _
              exact ((Ext.alloc hE1 _).drew).drew
        · have HU2 : Hid (UniSo qs (i + 1) (init ++ [(la, lb)] ++ [(pa, pb)])) := HU.out.more HSORT.out HQ.out HOKP.out (fun l hl => by simp at hl; subst hl; simp only; omega)
          go_wp2
          refine region_calm [.p 0, .p 1, .p 2, .p 3, .l 4, .p 5, .p 6, .p 7, .p 8, .p 9, .l 10, .p 11, .p 12] f_mixed (by kernel_rfl) (by kernel_rfl) ?_
          repeat (first | (refine plan_p rfl (fun K hK => ?_); go_simp; refine hK _ ?_; clear hK K) | (refine plan_l rfl (fun K hK => ?_); go_simp; refine hK _ ?_; clear hK K))
          refine plan_done ?_
          go_wp2_with (at_builtin; refine (fun (h : True → _) => h trivial) ?_)
          intro _
          refine app_lit ei_per rfl (.tmp 48) (.tmp 50) rfl (g := (some b)) (n := (m + 1)) (cap := cap') (b := wr.heap.size + 1) (by rfl) (HO.out.ext (((Ext.refl wr).alloc _).drew.alloc _)) (by rfl) rfl (blk_new_at _ (by simp)) (by simp [Value.oneCell']) (by omega) (by omega) ?_
          intro g5 cap5 w5 hS5 hT5 hat5
          have hO5 : PSl w5 (some g5) ((m + 1) + 1) cap5 ((init ++ [(la, lb)]) ++ [(pa, pb)]) := by
            show Sl _ _ _ _ _ _ _
            rw [flatQ_append]
            exact hS5
          have HO5 := Lib.hid hO5
          have HG5 : Hid (∀ b, some g5 = some b → w3.heap.size ≤ b) := by
            intro k hk
            cases hk
            rcases hat5 with h | h
            · exact HG.out _ h
            · have := HE.out.size; simp at h; omega
          have HE5 : Hid (Ext w3 w5) := Touch.freshX (((HE.out.alloc _).drew).alloc _) hT5 (fun k hk => HG.out k hk)
          clear hS5 hT5 hat5 hO5
          go_wp2
          go_roundg (gk - 1)
          case measure => have := HIK.out; omega
          case rel => exact ⟨i + 1, (m + 1) + 1, some g5, cap5, (init ++ [(la, lb)]) ++ [(pa, pb)], by have := HIK.out; omega, by go_num, rfl, HO5.out, by omega, HU2.out, HG5.out, HE5.out⟩
    · have hin : i = nn := by have := HIK.out; omega
      have HFIN : Hid (IsUni ps out) := by
        refine ⟨HU.out.can, fun t => ?_⟩
        rw [HU.out.pts t, hin, List.take_of_length_le (by rw [HQL.out]; exact Nat.le_refl _)]
        exact pts_perm HPERM.out t
      have HSZ : Hid (w.heap.size ≤ w3.heap.size) := HE3.out.size
      clear hin
      go_wp2
      go_ret
      exact ⟨g, m, cap', out, rfl, HO.out, HFIN.out, by have := HIK.out; rw [HN.out]; omega, fun b hb => by have := HG.out b hb; have := HSZ.out; omega, HE3.out.trans HE.out⟩
end Go.Proofs.Ytkejjahlglldlaa
