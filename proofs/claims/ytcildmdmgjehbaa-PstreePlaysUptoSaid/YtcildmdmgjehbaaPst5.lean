/- pstree.Cut: walked. -/
import Derived.Test.YtcildmdmgjehbaaPst4
namespace Go.Proofs.Ytcildmdmgjehbaa
open Go.RowKit

/-- A point taken out. -/
def pcut (px py pid : Int) : PT → PT
  | .nil => .nil
  | .node x y i l r =>
    if x = px ∧ y = py ∧ i = pid then pjoin l r
    else if aheadI px pid x i < 0 then .node x y i (pcut px py pid l) r else .node x y i l (pcut px py pid r)
/-- The way down to a point ends at it. -/
def pway (px py pid : Int) : PT → Prop
  | .nil => False
  | .node x y i l r => (x = px ∧ y = py ∧ i = pid) ∨ (if aheadI px pid x i < 0 then pway px py pid l else pway px py pid r)

set_option maxHeartbeats 1000000 in
theorem Cut_none (tb : Nat) (id : Int) (t : PT) (M : List (Int × Int × Int)) (bs : List Nat) (w : World) (h : TreeRep w tb t M bs) (hl : lookP id M 0 = none) :
    Calls Try.prog 15 #[.pointer (some ⟨tb, 0, none⟩), .int .i64 id] w (fun e w' => e = .returned (.int .i64 4) ∧ Ext w w') := by
  obtain ⟨v, m, bn, h1, h2, h3, h4, h5⟩ := h
  obtain ⟨c0, c1⟩ := blk2 h1
  have htb := blk_lt h1
  have hlk : (Instr.lookup 52 (.map (some m)) (.int .i64 id) true).run Try.prog w = .ok (.tuple #[pt 0 0 0, .bool false]) w := by
    rw [map_look point_map point_key point_zero h3 id, lookI_mp, hl]; rfl
  clear h1 hl h2 h3 h4 h5
  go_enter Try.func15, Try.ntmps15
  go_wp2
  go_ret
  refine ⟨rfl, ?_⟩
  repeat (first | exact Ext.refl _ | refine Ext.alloc ?_ _ | refine Ext.drew ?_)

def CutPost (tb : Nat) (px py pid : Int) (t : PT) (M : List (Int × Int × Int)) (bs : List Nat) (w : World) (e : Ending) (w' : World) : Prop :=
  ∃ bs', e = .returned (.int .i64 0) ∧ TreeRep w' tb (pcut px py pid t) M bs' ∧ (∀ k ∈ bs', k ∈ bs) ∧ Touch (fun k => k ∈ bs) w w'

def CutInv (px py pid : Int) (T : PT) (tb m : Nat) (bn : List Nat) (W0 : World) (k : Nat) (v7 : Value) (wr : World) : Prop :=
  ∃ c ab ao sub v bc bt, v7 = .pointer (some ⟨ab, ao, none⟩) ∧ HoleRep wr tb m c ab ao bc ∧ wr.cell? ⟨ab, ao, none⟩ = some (ptr v) ∧ NodeRep wr sub v bt ∧ (tb :: (bc ++ bt)).Nodup ∧
    (bc ++ bt).Perm bn ∧ pcut px py pid T = fill c (pcut px py pid sub) ∧ sub.count ≤ k ∧ Ext W0 wr ∧ pway px py pid sub

theorem CutInv_left {px py pid : Int} {T : PT} {tb m : Nat} {bn : List Nat} {W0 wr W7 : World} {c : PC} {ab ao b : Nat} {bc bt bl br : List Nat} {x y i : Int} {l r : PT} {vl vr : Option Nat}
    (hh : HoleRep wr tb m c ab ao bc) (hnd : (tb :: (bc ++ bt)).Nodup) (hperm : (bc ++ bt).Perm bn) (heq : pcut px py pid T = fill c (pcut px py pid (.node x y i l r)))
    (hnl : NodeRep wr l vl bl) (hnr : NodeRep wr r vr br) (hbt : bt = b :: (bl ++ br)) (hE0 : Ext W0 wr) (hE : Ext wr W7)
    (hb : W7.heap[b]? = some (.cells #[.int .i64 x, .int .i64 y, .int .i64 i, ptr vl, ptr vr] 60 (0, 0)))
    (hc : W7.cell? ⟨ab, ao, none⟩ = some (ptr (some b))) (hab : ¬ (x = px ∧ y = py ∧ i = pid)) (hlt : aheadI px pid x i < 0) (hway : pway px py pid (.node x y i l r)) :
    CutInv px py pid T tb m bn W0 l.count (.pointer (some ⟨b, 3, none⟩)) W7 := by
  subst hbt
  have hp : (b :: (br ++ bc) ++ bl).Perm (bc ++ b :: (bl ++ br)) := by
    refine List.Perm.trans ?_ List.perm_middle.symm
    exact perm3 (fun a => by simp only [List.cons_append, List.count_cons, List.count_append]; omega)
  refine ⟨.left x y i c r, b, 3, l, vl, b :: (br ++ bc), bl, rfl, ⟨rfl, _, vr, br, ab, ao, bc, hb, hnr.ext hE, hh.ext hE, hc, rfl⟩, (blk5 hb).2.2.2.1, hnl.ext hE, ?_, hp.trans hperm, ?_, Nat.le_refl _, hE0.trans hE, ?_⟩
  · exact (hp.cons tb).nodup_iff.2 hnd
  · rw [heq, pcut, if_neg hab, if_pos hlt]; rfl
  · have := hway.resolve_left hab; rw [if_pos hlt] at this; exact this
theorem CutInv_right {px py pid : Int} {T : PT} {tb m : Nat} {bn : List Nat} {W0 wr W7 : World} {c : PC} {ab ao b : Nat} {bc bt bl br : List Nat} {x y i : Int} {l r : PT} {vl vr : Option Nat}
    (hh : HoleRep wr tb m c ab ao bc) (hnd : (tb :: (bc ++ bt)).Nodup) (hperm : (bc ++ bt).Perm bn) (heq : pcut px py pid T = fill c (pcut px py pid (.node x y i l r)))
    (hnl : NodeRep wr l vl bl) (hnr : NodeRep wr r vr br) (hbt : bt = b :: (bl ++ br)) (hE0 : Ext W0 wr) (hE : Ext wr W7)
    (hb : W7.heap[b]? = some (.cells #[.int .i64 x, .int .i64 y, .int .i64 i, ptr vl, ptr vr] 60 (0, 0)))
    (hc : W7.cell? ⟨ab, ao, none⟩ = some (ptr (some b))) (hab : ¬ (x = px ∧ y = py ∧ i = pid)) (hlt : ¬ aheadI px pid x i < 0) (hway : pway px py pid (.node x y i l r)) :
    CutInv px py pid T tb m bn W0 r.count (.pointer (some ⟨b, 4, none⟩)) W7 := by
  subst hbt
  have hp : (b :: (bl ++ bc) ++ br).Perm (bc ++ b :: (bl ++ br)) := by
    refine List.Perm.trans ?_ List.perm_middle.symm
    exact perm3 (fun a => by simp only [List.cons_append, List.count_cons, List.count_append]; omega)
  refine ⟨.right x y i l c, b, 4, r, vr, b :: (bl ++ bc), br, rfl, ⟨rfl, _, vl, bl, ab, ao, bc, hb, hnl.ext hE, hh.ext hE, hc, rfl⟩, (blk5 hb).2.2.2.2, hnr.ext hE, ?_, hp.trans hperm, ?_, Nat.le_refl _, hE0.trans hE, ?_⟩
  · exact (hp.cons tb).nodup_iff.2 hnd
  · rw [heq, pcut, if_neg hab, if_neg hlt]; rfl
  · have := hway.resolve_left hab; rw [if_neg hlt] at this; exact this

theorem Cut_close {w W5 : World} {tb m : Nat} {px py pid : Int} {t t' : PT} {M : List (Int × Int × Int)} {bs bn bc bt bs3 : List Nat} {c : PC} {ab ao : Nat} {v0 v3 : Option Nat} {e : Ending}
    (he : e = .returned (.int .i64 0)) (hbs : bs = tb :: m :: bn) (hnd0 : bs.Nodup)
    (hh : HoleRep W5 tb m c ab ao bc) (hcell : W5.cell? ⟨ab, ao, none⟩ = some (ptr v0)) (hnd : (tb :: (bc ++ bt)).Nodup) (hperm : (bc ++ bt).Perm bn)
    {b : Nat} (hp3 : (b :: bs3).Perm bt) (hr3 : NodeRep W5 t' v3 bs3) (hM : MapI W5 m (mp M)) (hT : Touch (fun k => k ∈ bs) w W5)
    (heq : pcut px py pid t = fill c t') :
    CutPost tb px py pid t M bs w e (W5.setCell ⟨ab, ao, none⟩ (ptr v3)) := by
  subst hbs
  have hmn : m ≠ tb ∧ m ∉ bn := by simp at hnd0; exact ⟨fun h => hnd0.1.1 h.symm, hnd0.2.1⟩
  have hab : ab = tb ∨ ab ∈ bc := hh.mem
  have habn : ab ∈ tb :: m :: bn := by
    rcases hab with h | h
    · simp [h]
    · simp [hperm.subset (List.mem_append_left _ h)]
  have hnd2 : (tb :: (bc ++ bs3)).Nodup := by
    have hq : (tb :: (bc ++ (b :: bs3))).Nodup := ((List.Perm.append_left bc hp3).cons tb).nodup_iff.2 hnd
    have hq2 : (b :: tb :: (bc ++ bs3)).Nodup := (List.Perm.swap _ _ _).nodup_iff.1 ((List.Perm.cons tb List.perm_middle).nodup_iff.1 hq)
    exact (List.nodup_cons.1 hq2).2
  obtain ⟨vr, bn', g1, g2, g3⟩ := refill (v := v3) hh hcell hr3 hnd2
  have hin : ∀ k ∈ bn', k ∈ bn := fun k hk => by
    rcases List.mem_append.1 (g3.subset hk) with h | h
    · exact hperm.subset (List.mem_append_left _ h)
    · exact hperm.subset (List.mem_append_right _ (hp3.subset (by simp [h])))
  refine ⟨tb :: m :: bn', he, ?_, ?_, ?_⟩
  · rw [heq]
    refine TreeRep.of g1 g2 ?_ ?_
    · refine hM.congr (Below.heap_setCell _ _ _ _ ?_)
      show m ≠ ab
      rintro rfl
      rcases hab with h | h
      · exact hmn.1 h
      · exact hmn.2 (hperm.subset (List.mem_append_left _ h))
    · refine (List.Perm.cons tb (List.Perm.cons m g3)).nodup_iff.2 ?_
      refine (List.Perm.swap _ _ _).nodup_iff.1 ?_
      refine List.nodup_cons.2 ⟨?_, hnd2⟩
      intro h
      rcases List.mem_cons.1 h with h | h
      · exact hmn.1 h
      · exact hmn.2 (hin m (g3.symm.subset h))
  · intro k hk
    rcases List.mem_cons.1 hk with rfl | hk
    · simp
    · rcases List.mem_cons.1 hk with rfl | hk
      · simp
      · simp [hin k hk]
  · exact hT.setCell (fun _ => habn) _

set_option maxHeartbeats 2000000 in
theorem Cut_some (tb : Nat) (id px py pid : Int) (t : PT) (M : List (Int × Int × Int)) (bs : List Nat) (w : World) (h : TreeRep w tb t M bs) {j : Nat} (hl : lookP id M 0 = some (j, px, py, pid)) (hw : pway px py pid t) :
    Calls Try.prog 15 #[.pointer (some ⟨tb, 0, none⟩), .int .i64 id] w (CutPost tb px py pid t (M.eraseIdx j) bs w) := by
  obtain ⟨v, m, bn, h1, h2, h3, h4, h5⟩ := h
  have H1 := Lib.hid h1
  have H2 := Lib.hid h2
  have H3 := Lib.hid h3
  have H4 := Lib.hid h4
  have H5 := Lib.hid h5
  have HL := Lib.hid hl
  have HW := Lib.hid hw
  obtain ⟨c0, c1⟩ := blk2 h1
  have htb := blk_lt h1
  have hlk : (Instr.lookup 52 (.map (some m)) (.int .i64 id) true).run Try.prog w = .ok (.tuple #[pt px py pid, .bool true]) w := by
    rw [map_look point_map point_key point_zero h3 id, lookI_mp, hl]; rfl
  obtain ⟨W2, hdel, hM2, hT2⟩ := map_del (w := w.alloc (.cells #[.int .i64 px, .int .i64 py, .int .i64 pid] 31)) point_map point_key (h3.ext ((Ext.refl w).alloc _)) id (by rw [lookI_mp, hl]; rfl) (K' := 2) (ty := 0)
  rw [mp_erase] at hM2
  have htm : tb ≠ m := by rw [h4] at h5; simp at h5; exact h5.1.1
  have hmb : m ∉ bn := by rw [h4] at h5; simp at h5; exact h5.2.1
  have hml : m < w.heap.size := h3.lt
  have hE1 : Ext w (w.alloc (.cells #[.int .i64 px, .int .i64 py, .int .i64 pid] 31)) := (Ext.refl w).alloc _
  have hTA : TreeAt W2 tb v m := hT2.old (Ext.block hE1 h1) htm
  have hN2 : NodeRep W2 t v bn := (h2.ext hE1).touch hT2 (fun b hb e => hmb (e ▸ hb))
  have hp2 := hT2.old (blk_new w _) (by omega)
  have hinv : CutInv px py pid t tb m bn W2 t.count (.pointer (some ⟨tb, 0, none⟩)) W2 :=
    ⟨.top, tb, 0, t, v, [], bn, rfl, ⟨rfl, rfl, rfl, _, hTA⟩, (blk2 hTA).1, hN2, by rw [h4] at h5; simp at h5; simp [h5.1.2, h5.2.2], List.Perm.refl _, rfl, Nat.le_refl _, Ext.refl _, hw⟩
  obtain ⟨e0, e1⟩ := blk2 hTA
  have HM2 := Lib.hid hM2
  have HT2 := Lib.hid hT2
  have HP2 := Lib.hid hp2
  have HINV := Lib.hid hinv
  clear h1 hl h2 h3 h4 h5 hw hM2 hT2 hp2 hinv hN2 hTA hmb hml hE1
  go_enter Try.func15, Try.ntmps15
  go_wp2
  clear c0 c1 e0 e1 hlk hdel
  go_loopg [7] t.count (fun k v7 wr => CutInv px py pid t tb m bn W2 k v7 wr)
  case atStart => exact HINV.out
  case round =>
    obtain ⟨c, ab, ao, sub, v', bc, bt, rfl, hh, hcell, hn, hnd, hperm, heq, hcnt, hEr, hway⟩ := hrel
    cases sub with
    | nil => exact hway.elim
    | node x y i l r =>
      have HH := Lib.hid hh; clear hh
      have HND := Lib.hid hnd; clear hnd
      have HPERM := Lib.hid hperm; clear hperm
      have HEQ := Lib.hid heq; clear heq
      have HN := Lib.hid hn
      have HWAY := Lib.hid hway; clear hway
      have hpr := Ext.block hEr HP2.out
      obtain ⟨p0, p1, p2⟩ := blk3 hpr
      obtain ⟨b, vl, vr, bl, br, hv', hb, hnl, hnr, hbt'⟩ := hn
      subst hv'
      have HC := Lib.hid hcell
      have HBT' := Lib.hid hbt'; clear hbt'
      obtain ⟨d0, d1, d2, d3, d4⟩ := blk5 hb
      change wr.cell? ⟨ab, ao, none⟩ = some (.pointer (some ⟨b, 0, none⟩)) at hcell
      by_cases heqp : x = px ∧ y = py ∧ i = pid
      · have HEQP := Lib.hid heqp
        obtain ⟨e1, e2, e3⟩ := heqp
        have q1 : (x == px) = true := by simpa using e1
        have q2 : (y == py) = true := by simpa using e2
        have q3 : (i == pid) = true := by simpa using e3
        clear e1 e2 e3
        go_wp2
        refine region_calm [.p 0, .p 1, .l 2, .p 3, .p 4, .l 5, .l 6, .p 7] f_mixed (by kernel_rfl) (by kernel_rfl) ?_
        repeat (first | (refine plan_p rfl (fun K hK => ?_); go_simp; refine hK _ ?_; clear hK K) | (refine plan_l rfl (fun K hK => ?_); go_simp; refine hK _ ?_; clear hK K))
        refine plan_done ?_
        go_wp2
        have hE4 : Ext wr wr.drew := (Ext.refl wr).drew
        refine region_calm [.p 0, .p 1, .p 2, .l 3, .p 4, .p 5, .l 6, .p 7, .p 8, .l 9, .p 10, .p 11, .l 12, .h 13 false, .p 14, .h 15 false] f_mixed (by kernel_rfl) (by kernel_rfl) ?_
        repeat (first | (refine plan_p rfl (fun K hK => ?_); go_simp; refine hK _ ?_; clear hK K) | (refine plan_l rfl (fun K hK => ?_); go_simp; refine hK _ ?_; clear hK K))
        refine plan_c rfl rfl (fun K _ hK => ?_)
        go_wp2_with fail
        have hnd4 := HND.out
        rw [HBT'.out] at hnd4
        have hnd5 := hnd4
        simp only [List.nodup_cons, List.mem_cons, List.mem_append, not_or, List.nodup_append] at hnd4
        refine (join_any l vl bl r vr br wr.drew.drew (hnl.ext hE4.drew) (hnr.ext hE4.drew) (List.nodup_append.2 ⟨hnd4.2.2.1.2.1, hnd4.2.2.1.2.2.1, hnd4.2.2.1.2.2.2⟩)).mono ?_
        rintro e W5 ⟨v3, bs3, rfl, hr3, hperm3, ht5⟩
        have habt : ab ∉ b :: (bl ++ br) := by
          have := HH.out.mem
          intro h
          rcases this with h' | h'
          · subst h'; rcases List.mem_cons.1 h with h | h
            · exact hnd4.1.2.1 h
            · rcases List.mem_append.1 h with h | h
              · exact hnd4.1.2.2.1 h
              · exact hnd4.1.2.2.2 h
          · exact hnd4.2.2.2 ab h' ab (by simpa using h) rfl
        have hoff : ∀ k, (k = tb ∨ k ∈ bc) → ¬ (k ∈ bl ∨ k ∈ br) := by
          rintro k (rfl | hk) hk'
          · rcases hk' with h | h
            · exact hnd4.1.2.2.1 h
            · exact hnd4.1.2.2.2 h
          · exact hnd4.2.2.2 k hk k (.inr hk') rfl
        have hh5 : HoleRep W5 tb m c ab ao bc := (HH.out.ext hE4.drew).touch ht5 hoff
        have hc5 := ht5.cell (show wr.drew.drew.cell? ⟨ab, ao, none⟩ = _ from HC.out) (hoff ab HH.out.mem)
        have hz5 := hh5.frozen
        have HH5 := Lib.hid hh5; clear hh5
        have HT5 := Lib.hid ht5; clear ht5
        have HOFF := Lib.hid hoff; clear hoff
        have HND4 := Lib.hid hnd4; clear hnd4
        have HND5 := Lib.hid hnd5; clear hnd5
        have HABT := Lib.hid habt; clear habt
        clear d0 d1 d2 d3 d4 hcell p0 p1 p2 hb hpr
        change W5.cell? ⟨ab, ao, none⟩ = some (.pointer (some ⟨b, 0, none⟩)) at hc5
        go_wp2
        repeat (first | (refine plan_p rfl (fun K hK => ?_); go_simp; refine hK _ ?_; clear hK K) | (refine plan_l rfl (fun K hK => ?_); go_simp; refine hK _ ?_; clear hK K))
        refine plan_c rfl rfl (fun K _ hK => ?_)
        go_wp2
        refine plan_done ?_
        go_wp2
        go_ret
        have hm5 : m ∉ bt := fun h => by have := H5.out; rw [H4.out] at this; simp at this; exact this.2.1 (HPERM.out.subset (List.mem_append_right _ h))
        have hTW : Touch (fun k => k ∈ bs) w W5 := by
          refine Touch.trans' (((Ext.refl w).alloc (.cells #[.int .i64 px, .int .i64 py, .int .i64 pid] 31)).touch _) ((HT2.out.mono (S' := fun k => k ∈ bs) (fun k _ e => by rw [H4.out, e]; simp)).trans' ?_ (fun _ _ h => h)) (fun _ _ h => h)
          refine ((hEr.trans hE4.drew).touch _).trans' HT5.out (fun k _ hk => ?_)
          rw [H4.out]
          have : k ∈ bn := HPERM.out.subset (List.mem_append_right _ (by rw [HBT'.out]; simp [hk]))
          simp [this]
        have heq2 : pcut px py pid t = fill c (pjoin l r) := by
          rw [HEQ.out, pcut, if_pos HEQP.out]
        refine Cut_close rfl H4.out H5.out HH5.out (show W5.cell? ⟨ab, ao, none⟩ = some (ptr (some b)) from hc5) HND.out HPERM.out (b := b) ?_ hr3 ?_ hTW heq2
        · rw [HBT'.out]; exact hperm3.cons b
        · exact ((HM2.out.ext hEr).ext hE4.drew).touch HT5.out (fun h => hm5 (by rw [HBT'.out]; simp [h]))
      · have hne : (x == px) = false ∨ ((x == px) = true ∧ (y == py) = false) ∨ ((x == px) = true ∧ (y == py) = true ∧ (i == pid) = false) := by
          by_cases h1 : x = px
          · by_cases h2 : y = py
            · have h3 : i ≠ pid := fun h3 => heqp ⟨h1, h2, h3⟩
              exact .inr (.inr ⟨by simpa using h1, by simpa using h2, by simpa using h3⟩)
            · exact .inr (.inl ⟨by simpa using h1, by simpa using h2⟩)
          · exact .inl (by simpa using h1)
        have HEQP := Lib.hid heqp; clear heqp
        rcases hne with q1 | ⟨q1, q2⟩ | ⟨q1, q2, q3⟩
        all_goals
          go_wp2
          refine region_calm [.p 0, .p 1, .l 2, .p 3, .p 4, .l 5, .l 6, .p 7] f_mixed (by kernel_rfl) (by kernel_rfl) ?_
          repeat (first | (refine plan_p rfl (fun K hK => ?_); go_simp; refine hK _ ?_; clear hK K) | (refine plan_l rfl (fun K hK => ?_); go_simp; refine hK _ ?_; clear hK K))
          refine plan_done ?_
          go_wp2
          have hW6 : Ext wr wr.drew := (Ext.refl wr).drew
          refine region_calm [.l 0, .p 1, .p 2, .l 3, .p 4, .p 5, .l 6, .h 7 false, .p 8] f_mixed (by kernel_rfl) (by kernel_rfl) ?_
          repeat (first | (refine plan_p rfl (fun K hK => ?_); go_simp; refine hK _ ?_; clear hK K) | (refine plan_l rfl (fun K hK => ?_); go_simp; refine hK _ ?_; clear hK K))
          refine plan_c rfl rfl (fun K _ hK => ?_)
          go_wp2_with fail
          refine (ahead_any _ _ _ _ _ _ _).mono ?_
          rintro e W7 ⟨rfl, hE7⟩
          have hW7 : Ext wr W7 := hW6.drew.trans hE7
          have hb7 := Ext.block hE7 (show wr.drew.drew.heap[b]? = _ from hb)
          have hcell7 := Ext.cell hE7 (show wr.drew.drew.cell? ⟨ab, ao, none⟩ = _ from hcell)
          clear d0 d1 d2 d3 d4 hb p0 p1 p2 hpr hcell hE7
          obtain ⟨d0, d1, d2, d3, d4⟩ := blk5 hb7
          have HB7 := Lib.hid hb7; clear hb7
          have HW7 := Lib.hid hW7
          clear hW6 hW7
          by_cases hlt : aheadI px pid x i < 0
          · go_wp2
            repeat (first | (refine plan_p rfl (fun K hK => ?_); go_simp; refine hK _ ?_; clear hK K) | (refine plan_l rfl (fun K hK => ?_); go_simp; refine hK _ ?_; clear hK K))
            refine plan_done ?_
            go_wp2
            go_roundg l.count
            case measure => simp only [PT.count] at hcnt; omega
            case rel => exact CutInv_left HH.out HND.out HPERM.out HEQ.out hnl hnr HBT'.out hEr HW7.out HB7.out hcell7 HEQP.out hlt HWAY.out
          · go_wp2
            repeat (first | (refine plan_p rfl (fun K hK => ?_); go_simp; refine hK _ ?_; clear hK K) | (refine plan_l rfl (fun K hK => ?_); go_simp; refine hK _ ?_; clear hK K))
            refine plan_done ?_
            go_wp2
            go_roundg r.count
            case measure => simp only [PT.count] at hcnt; omega
            case rel => exact CutInv_right HH.out HND.out HPERM.out HEQ.out hnl hnr HBT'.out hEr HW7.out HB7.out hcell7 HEQP.out (by omega) HWAY.out

end Go.Proofs.Ytcildmdmgjehbaa
