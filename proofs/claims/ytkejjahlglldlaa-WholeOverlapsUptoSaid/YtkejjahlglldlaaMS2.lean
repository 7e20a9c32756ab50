/- pstree.Cut: walked. The plain law of the tree of points: what padd, pcut, pfind, ptop do to the list of points. No program is named here. The tree of points, seen as its sorted list: contracts for the laws. -/
import Derived.Test.YtkejjahlglldlaaMPs4
namespace Go.Proofs.Ytkejjahlglldlaa.Ps
open Go.RowKit

/-- A point taken out. -/
def pcut (px py pid : Int) : PT → PT
  | .nil => .nil
  | .node x y i l r =>
    if x = px ∧ y = py ∧ i = pid then pjoin l r
    else if aheadI px pid x i < 0 then .node x y i (pcut px py pid l) r else .node x y i l (pcut px py pid r)
/-- The way down to a point ends at it. -/
def pway (px py pid : Int) : PT → Prop
  | .nil => False
  | .node x y i l r => (x = px ∧ y = py ∧ i = pid) ∨ (if aheadI px pid x i < 0 then pway px py pid l else pway px py pid r)

set_option maxHeartbeats 1000000 in
theorem Cut_none (tb : Nat) (id : Int) (t : PT) (M : List (Int × Int × Int)) (bs : List Nat) (w : World) (h : TreeRep w tb t M bs) (hl : lookP id M 0 = none) :
    Calls Try.prog 20 #[.pointer (some ⟨tb, 0, none⟩), .int .i64 id] w (fun e w' => e = .returned (.int .i64 4) ∧ Ext w w') := by
  obtain ⟨v, m, bn, h1, h2, h3, h4, h5⟩ := h
  obtain ⟨c0, c1⟩ := blk2 h1
  have htb := blk_lt h1
  have hlk : (Instr.lookup 114 (.map (some m)) (.int .i64 id) true).run Try.prog w = .ok (.tuple #[pt 0 0 0, .bool false]) w := by
    rw [map_look point_map point_key point_zero h3 id, lookI_mp, hl]; rfl
  clear h1 hl h2 h3 h4 h5
  go_enter Try.func20, Try.ntmps20
  go_wp2
  go_ret
  refine ⟨rfl, ?_⟩
  repeat (first | exact Ext.refl _ | refine Ext.alloc ?_ _ | refine Ext.drew ?_)

def CutPost (tb : Nat) (px py pid : Int) (t : PT) (M : List (Int × Int × Int)) (bs : List Nat) (w : World) (e : Ending) (w' : World) : Prop :=
  ∃ bs', e = .returned (.int .i64 0) ∧ TreeRep w' tb (pcut px py pid t) M bs' ∧ (∀ k ∈ bs', k ∈ bs) ∧ Touch (fun k => k ∈ bs) w w'

def CutInv (px py pid : Int) (T : PT) (tb m : Nat) (bn : List Nat) (W0 : World) (k : Nat) (v7 : Value) (wr : World) : Prop :=
  ∃ c ab ao sub v bc bt, v7 = .pointer (some ⟨ab, ao, none⟩) ∧ HoleRep wr tb m c ab ao bc ∧ wr.cell? ⟨ab, ao, none⟩ = some (ptr v) ∧ NodeRep wr sub v bt ∧ (tb :: (bc ++ bt)).Nodup ∧
    (bc ++ bt).Perm bn ∧ pcut px py pid T = fill c (pcut px py pid sub) ∧ sub.count ≤ k ∧ Ext W0 wr ∧ pway px py pid sub

theorem CutInv_left {px py pid : Int} {T : PT} {tb m : Nat} {bn : List Nat} {W0 wr W7 : World} {c : PC} {ab ao b : Nat} {bc bt bl br : List Nat} {x y i : Int} {l r : PT} {vl vr : Option Nat}
    (hh : HoleRep wr tb m c ab ao bc) (hnd : (tb :: (bc ++ bt)).Nodup) (hperm : (bc ++ bt).Perm bn) (heq : pcut px py pid T = fill c (pcut px py pid (.node x y i l r)))
    (hnl : NodeRep wr l vl bl) (hnr : NodeRep wr r vr br) (hbt : bt = b :: (bl ++ br)) (hE0 : Ext W0 wr) (hE : Ext wr W7)
    (hb : W7.heap[b]? = some (.cells #[.int .i64 x, .int .i64 y, .int .i64 i, ptr vl, ptr vr] 126 (0, 0)))
    (hc : W7.cell? ⟨ab, ao, none⟩ = some (ptr (some b))) (hab : ¬ (x = px ∧ y = py ∧ i = pid)) (hlt : aheadI px pid x i < 0) (hway : pway px py pid (.node x y i l r)) :
    CutInv px py pid T tb m bn W0 l.count (.pointer (some ⟨b, 3, none⟩)) W7 := by
  subst hbt
  have hp : (b :: (br ++ bc) ++ bl).Perm (bc ++ b :: (bl ++ br)) := by
    refine List.Perm.trans ?_ List.perm_middle.symm
    exact perm3 (fun a => by simp only [List.cons_append, List.count_cons, List.count_append]; omega)
  refine ⟨.left x y i c r, b, 3, l, vl, b :: (br ++ bc), bl, rfl, ⟨rfl, _, vr, br, ab, ao, bc, hb, hnr.ext hE, hh.ext hE, hc, rfl⟩, (blk5 hb).2.2.2.1, hnl.ext hE, ?_, hp.trans hperm, ?_, Nat.le_refl _, hE0.trans hE, ?_⟩
  · exact (hp.cons tb).nodup_iff.2 hnd
  · rw [heq, pcut, if_neg hab, if_pos hlt]; rfl
  · have := hway.resolve_left hab; rw [if_pos hlt] at this; exact this
theorem CutInv_right {px py pid : Int} {T : PT} {tb m : Nat} {bn : List Nat} {W0 wr W7 : World} {c : PC} {ab ao b : Nat} {bc bt bl br : List Nat} {x y i : Int} {l r : PT} {vl vr : Option Nat}
    (hh : HoleRep wr tb m c ab ao bc) (hnd : (tb :: (bc ++ bt)).Nodup) (hperm : (bc ++ bt).Perm bn) (heq : pcut px py pid T = fill c (pcut px py pid (.node x y i l r)))
    (hnl : NodeRep wr l vl bl) (hnr : NodeRep wr r vr br) (hbt : bt = b :: (bl ++ br)) (hE0 : Ext W0 wr) (hE : Ext wr W7)
    (hb : W7.heap[b]? = some (.cells #[.int .i64 x, .int .i64 y, .int .i64 i, ptr vl, ptr vr] 126 (0, 0)))
    (hc : W7.cell? ⟨ab, ao, none⟩ = some (ptr (some b))) (hab : ¬ (x = px ∧ y = py ∧ i = pid)) (hlt : ¬ aheadI px pid x i < 0) (hway : pway px py pid (.node x y i l r)) :
    CutInv px py pid T tb m bn W0 r.count (.pointer (some ⟨b, 4, none⟩)) W7 := by
  subst hbt
  have hp : (b :: (bl ++ bc) ++ br).Perm (bc ++ b :: (bl ++ br)) := by
    refine List.Perm.trans ?_ List.perm_middle.symm
    exact perm3 (fun a => by simp only [List.cons_append, List.count_cons, List.count_append]; omega)
  refine ⟨.right x y i l c, b, 4, r, vr, b :: (bl ++ bc), br, rfl, ⟨rfl, _, vl, bl, ab, ao, bc, hb, hnl.ext hE, hh.ext hE, hc, rfl⟩, (blk5 hb).2.2.2.2, hnr.ext hE, ?_, hp.trans hperm, ?_, Nat.le_refl _, hE0.trans hE, ?_⟩
  · exact (hp.cons tb).nodup_iff.2 hnd
  · rw [heq, pcut, if_neg hab, if_neg hlt]; rfl
  · have := hway.resolve_left hab; rw [if_neg hlt] at this; exact this

theorem Cut_close {w W5 : World} {tb m : Nat} {px py pid : Int} {t t' : PT} {M : List (Int × Int × Int)} {bs bn bc bt bs3 : List Nat} {c : PC} {ab ao : Nat} {v0 v3 : Option Nat} {e : Ending}
    (he : e = .returned (.int .i64 0)) (hbs : bs = tb :: m :: bn) (hnd0 : bs.Nodup)
    (hh : HoleRep W5 tb m c ab ao bc) (hcell : W5.cell? ⟨ab, ao, none⟩ = some (ptr v0)) (hnd : (tb :: (bc ++ bt)).Nodup) (hperm : (bc ++ bt).Perm bn)
    {b : Nat} (hp3 : (b :: bs3).Perm bt) (hr3 : NodeRep W5 t' v3 bs3) (hM : MapI W5 m (mp M)) (hT : Touch (fun k => k ∈ bs) w W5)
    (heq : pcut px py pid t = fill c t') :
    CutPost tb px py pid t M bs w e (W5.setCell ⟨ab, ao, none⟩ (ptr v3)) := by
  subst hbs
  have hmn : m ≠ tb ∧ m ∉ bn := by simp at hnd0; exact ⟨fun h => hnd0.1.1 h.symm, hnd0.2.1⟩
  have hab : ab = tb ∨ ab ∈ bc := hh.mem
  have habn : ab ∈ tb :: m :: bn := by
    rcases hab with h | h
    · simp [h]
    · simp [hperm.subset (List.mem_append_left _ h)]
  have hnd2 : (tb :: (bc ++ bs3)).Nodup := by
    have hq : (tb :: (bc ++ (b :: bs3))).Nodup := ((List.Perm.append_left bc hp3).cons tb).nodup_iff.2 hnd
    have hq2 : (b :: tb :: (bc ++ bs3)).Nodup := (List.Perm.swap _ _ _).nodup_iff.1 ((List.Perm.cons tb List.perm_middle).nodup_iff.1 hq)
    exact (List.nodup_cons.1 hq2).2
  obtain ⟨vr, bn', g1, g2, g3⟩ := refill (v := v3) hh hcell hr3 hnd2
  have hin : ∀ k ∈ bn', k ∈ bn := fun k hk => by
    rcases List.mem_append.1 (g3.subset hk) with h | h
    · exact hperm.subset (List.mem_append_left _ h)
    · exact hperm.subset (List.mem_append_right _ (hp3.subset (by simp [h])))
  refine ⟨tb :: m :: bn', he, ?_, ?_, ?_⟩
  · rw [heq]
    refine TreeRep.of g1 g2 ?_ ?_
    · refine hM.congr (Below.heap_setCell _ _ _ _ ?_)
      show m ≠ ab
      rintro rfl
      rcases hab with h | h
      · exact hmn.1 h
      · exact hmn.2 (hperm.subset (List.mem_append_left _ h))
    · refine (List.Perm.cons tb (List.Perm.cons m g3)).nodup_iff.2 ?_
      refine (List.Perm.swap _ _ _).nodup_iff.1 ?_
      refine List.nodup_cons.2 ⟨?_, hnd2⟩
      intro h
      rcases List.mem_cons.1 h with h | h
      · exact hmn.1 h
      · exact hmn.2 (hin m (g3.symm.subset h))
  · intro k hk
    rcases List.mem_cons.1 hk with rfl | hk
    · simp
    · rcases List.mem_cons.1 hk with rfl | hk
      · simp
      · simp [hin k hk]
  · exact hT.setCell (fun _ => habn) _

set_option maxHeartbeats 2000000 in
theorem Cut_some (tb : Nat) (id px py pid : Int) (t : PT) (M : List (Int × Int × Int)) (bs : List Nat) (w : World) (h : TreeRep w tb t M bs) {j : Nat} (hl : lookP id M 0 = some (j, px, py, pid)) (hw : pway px py pid t) :
    Calls Try.prog 20 #[.pointer (some ⟨tb, 0, none⟩), .int .i64 id] w (CutPost tb px py pid t (M.eraseIdx j) bs w) := by
  obtain ⟨v, m, bn, h1, h2, h3, h4, h5⟩ := h
  have H1 := Lib.hid h1
  have H2 := Lib.hid h2
  have H3 := Lib.hid h3
  have H4 := Lib.hid h4
  have H5 := Lib.hid h5
  have HL := Lib.hid hl
  have HW := Lib.hid hw
  obtain ⟨c0, c1⟩ := blk2 h1
  have htb := blk_lt h1
  have hlk : (Instr.lookup 114 (.map (some m)) (.int .i64 id) true).run Try.prog w = .ok (.tuple #[pt px py pid, .bool true]) w := by
    rw [map_look point_map point_key point_zero h3 id, lookI_mp, hl]; rfl
  obtain ⟨W2, hdel, hM2, hT2⟩ := map_del (w := w.alloc (.cells #[.int .i64 px, .int .i64 py, .int .i64 pid] 55)) point_map point_key (h3.ext ((Ext.refl w).alloc _)) id (by rw [lookI_mp, hl]; rfl) (K' := 2) (ty := 0)
  rw [mp_erase] at hM2
  have htm : tb ≠ m := by rw [h4] at h5; simp at h5; exact h5.1.1
  have hmb : m ∉ bn := by rw [h4] at h5; simp at h5; exact h5.2.1
  have hml : m < w.heap.size := h3.lt
  have hE1 : Ext w (w.alloc (.cells #[.int .i64 px, .int .i64 py, .int .i64 pid] 55)) := (Ext.refl w).alloc _
  have hTA : TreeAt W2 tb v m := hT2.old (Ext.block hE1 h1) htm
  have hN2 : NodeRep W2 t v bn := (h2.ext hE1).touch hT2 (fun b hb e => hmb (e ▸ hb))
  have hp2 := hT2.old (blk_new w _) (by omega)
  have hinv : CutInv px py pid t tb m bn W2 t.count (.pointer (some ⟨tb, 0, none⟩)) W2 :=
    ⟨.top, tb, 0, t, v, [], bn, rfl, ⟨rfl, rfl, rfl, _, hTA⟩, (blk2 hTA).1, hN2, by rw [h4] at h5; simp at h5; simp [h5.1.2, h5.2.2], List.Perm.refl _, rfl, Nat.le_refl _, Ext.refl _, hw⟩
  obtain ⟨e0, e1⟩ := blk2 hTA
  have HM2 := Lib.hid hM2
  have HT2 := Lib.hid hT2
  have HP2 := Lib.hid hp2
  have HINV := Lib.hid hinv
  clear h1 hl h2 h3 h4 h5 hw hM2 hT2 hp2 hinv hN2 hTA hmb hml hE1
  go_enter Try.func20, Try.ntmps20
  go_wp2
  clear c0 c1 e0 e1 hlk hdel
  go_loopg [7] t.count (fun k v7 wr => CutInv px py pid t tb m bn W2 k v7 wr)
  case atStart => exact HINV.out
  case round =>
    obtain ⟨c, ab, ao, sub, v', bc, bt, rfl, hh, hcell, hn, hnd, hperm, heq, hcnt, hEr, hway⟩ := hrel
    cases sub with
    | nil => exact hway.elim
    | node x y i l r =>
      have HH := Lib.hid hh; clear hh
      have HND := Lib.hid hnd; clear hnd
      have HPERM := Lib.hid hperm; clear hperm
      have HEQ := Lib.hid heq; clear heq
      have HN := Lib.hid hn
      have HWAY := Lib.hid hway; clear hway
      have hpr := Ext.block hEr HP2.out
      obtain ⟨p0, p1, p2⟩ := blk3 hpr
      obtain ⟨b, vl, vr, bl, br, hv', hb, hnl, hnr, hbt'⟩ := hn
      subst hv'
      have HC := Lib.hid hcell
      have HBT' := Lib.hid hbt'; clear hbt'
      obtain ⟨d0, d1, d2, d3, d4⟩ := blk5 hb
      change wr.cell? ⟨ab, ao, none⟩ = some (.pointer (some ⟨b, 0, none⟩)) at hcell
      by_cases heqp : x = px ∧ y = py ∧ i = pid
      · have HEQP := Lib.hid heqp
        obtain ⟨e1, e2, e3⟩ := heqp
        have q1 : (x == px) = true := by simpa using e1
        have q2 : (y == py) = true := by simpa using e2
        have q3 : (i == pid) = true := by simpa using e3
        clear e1 e2 e3
        go_wp2
        refine region_calm [.p 0, .p 1, .l 2, .p 3, .p 4, .l 5, .l 6, .p 7] f_mixed (by kernel_rfl) (by kernel_rfl) ?_
        repeat (first | (refine plan_p rfl (fun K hK => ?_); go_simp; refine hK _ ?_; clear hK K) | (refine plan_l rfl (fun K hK => ?_); go_simp; refine hK _ ?_; clear hK K))
        refine plan_done ?_
        go_wp2
        have hE4 : Ext wr wr.drew := (Ext.refl wr).drew
        refine region_calm [.p 0, .p 1, .p 2, .l 3, .p 4, .p 5, .l 6, .p 7, .p 8, .l 9, .p 10, .p 11, .l 12, .h 13 false, .p 14, .h 15 false] f_mixed (by kernel_rfl) (by kernel_rfl) ?_
        repeat (first | (refine plan_p rfl (fun K hK => ?_); go_simp; refine hK _ ?_; clear hK K) | (refine plan_l rfl (fun K hK => ?_); go_simp; refine hK _ ?_; clear hK K))
        refine plan_c rfl rfl (fun K _ hK => ?_)
        go_wp2_with fail
        have hnd4 := HND.out
        rw [HBT'.out] at hnd4
        have hnd5 := hnd4
        simp only [List.nodup_cons, List.mem_cons, List.mem_append, not_or, List.nodup_append] at hnd4
        refine (join_any l vl bl r vr br wr.drew.drew (hnl.ext hE4.drew) (hnr.ext hE4.drew) (List.nodup_append.2 ⟨hnd4.2.2.1.2.1, hnd4.2.2.1.2.2.1, hnd4.2.2.1.2.2.2⟩)).mono ?_
        rintro e W5 ⟨v3, bs3, rfl, hr3, hperm3, ht5⟩
        have habt : ab ∉ b :: (bl ++ br) := by
          have := HH.out.mem
          intro h
          rcases this with h' | h'
          · subst h'; rcases List.mem_cons.1 h with h | h
            · exact hnd4.1.2.1 h
            · rcases List.mem_append.1 h with h | h
              · exact hnd4.1.2.2.1 h
              · exact hnd4.1.2.2.2 h
          · exact hnd4.2.2.2 ab h' ab (by simpa using h) rfl
        have hoff : ∀ k, (k = tb ∨ k ∈ bc) → ¬ (k ∈ bl ∨ k ∈ br) := by
          rintro k (rfl | hk) hk'
          · rcases hk' with h | h
            · exact hnd4.1.2.2.1 h
            · exact hnd4.1.2.2.2 h
          · exact hnd4.2.2.2 k hk k (.inr hk') rfl
        have hh5 : HoleRep W5 tb m c ab ao bc := (HH.out.ext hE4.drew).touch ht5 hoff
        have hc5 := ht5.cell (show wr.drew.drew.cell? ⟨ab, ao, none⟩ = _ from HC.out) (hoff ab HH.out.mem)
        have hz5 := hh5.frozen
        have HH5 := Lib.hid hh5; clear hh5
        have HT5 := Lib.hid ht5; clear ht5
        have HOFF := Lib.hid hoff; clear hoff
        have HND4 := Lib.hid hnd4; clear hnd4
        have HND5 := Lib.hid hnd5; clear hnd5
        have HABT := Lib.hid habt; clear habt
        clear d0 d1 d2 d3 d4 hcell p0 p1 p2 hb hpr
        change W5.cell? ⟨ab, ao, none⟩ = some (.pointer (some ⟨b, 0, none⟩)) at hc5
        go_wp2
        repeat (first | (refine plan_p rfl (fun K hK => ?_); go_simp; refine hK _ ?_; clear hK K) | (refine plan_l rfl (fun K hK => ?_); go_simp; refine hK _ ?_; clear hK K))
        refine plan_c rfl rfl (fun K _ hK => ?_)
        go_wp2
        refine plan_done ?_
        go_wp2
        go_ret
        have hm5 : m ∉ bt := fun h => by have := H5.out; rw [H4.out] at this; simp at this; exact this.2.1 (HPERM.out.subset (List.mem_append_right _ h))
        have hTW : Touch (fun k => k ∈ bs) w W5 := by
          refine Touch.trans' (((Ext.refl w).alloc (.cells #[.int .i64 px, .int .i64 py, .int .i64 pid] 55)).touch _) ((HT2.out.mono (S' := fun k => k ∈ bs) (fun k _ e => by rw [H4.out, e]; simp)).trans' ?_ (fun _ _ h => h)) (fun _ _ h => h)
          refine ((hEr.trans hE4.drew).touch _).trans' HT5.out (fun k _ hk => ?_)
          rw [H4.out]
          have : k ∈ bn := HPERM.out.subset (List.mem_append_right _ (by rw [HBT'.out]; simp [hk]))
          simp [this]
        have heq2 : pcut px py pid t = fill c (pjoin l r) := by
          rw [HEQ.out, pcut, if_pos HEQP.out]
        refine Cut_close rfl H4.out H5.out HH5.out (show W5.cell? ⟨ab, ao, none⟩ = some (ptr (some b)) from hc5) HND.out HPERM.out (b := b) ?_ hr3 ?_ hTW heq2
        · rw [HBT'.out]; exact hperm3.cons b
        · exact ((HM2.out.ext hEr).ext hE4.drew).touch HT5.out (fun h => hm5 (by rw [HBT'.out]; simp [h]))
      · have hne : (x == px) = false ∨ ((x == px) = true ∧ (y == py) = false) ∨ ((x == px) = true ∧ (y == py) = true ∧ (i == pid) = false) := by
          by_cases h1 : x = px
          · by_cases h2 : y = py
            · have h3 : i ≠ pid := fun h3 => heqp ⟨h1, h2, h3⟩
              exact .inr (.inr ⟨by simpa using h1, by simpa using h2, by simpa using h3⟩)
            · exact .inr (.inl ⟨by simpa using h1, by simpa using h2⟩)
          · exact .inl (by simpa using h1)
        have HEQP := Lib.hid heqp; clear heqp
        rcases hne with q1 | ⟨q1, q2⟩ | ⟨q1, q2, q3⟩
        all_goals
          go_wp2
          refine region_calm [.p 0, .p 1, .l 2, .p 3, .p 4, .l 5, .l 6, .p 7] f_mixed (by kernel_rfl) (by kernel_rfl) ?_
          repeat (first | (refine plan_p rfl (fun K hK => ?_); go_simp; refine hK _ ?_; clear hK K) | (refine plan_l rfl (fun K hK => ?_); go_simp; refine hK _ ?_; clear hK K))
          refine plan_done ?_
          go_wp2
          have hW6 : Ext wr wr.drew := (Ext.refl wr).drew
          refine region_calm [.l 0, .p 1, .p 2, .l 3, .p 4, .p 5, .l 6, .h 7 false, .p 8] f_mixed (by kernel_rfl) (by kernel_rfl) ?_
          repeat (first | (refine plan_p rfl (fun K hK => ?_); go_simp; refine hK _ ?_; clear hK K) | (refine plan_l rfl (fun K hK => ?_); go_simp; refine hK _ ?_; clear hK K))
          refine plan_c rfl rfl (fun K _ hK => ?_)
          go_wp2_with fail
          refine (ahead_any _ _ _ _ _ _ _).mono ?_
          rintro e W7 ⟨rfl, hE7⟩
          have hW7 : Ext wr W7 := hW6.drew.trans hE7
          have hb7 := Ext.block hE7 (show wr.drew.drew.heap[b]? = _ from hb)
          have hcell7 := Ext.cell hE7 (show wr.drew.drew.cell? ⟨ab, ao, none⟩ = _ from hcell)
          clear d0 d1 d2 d3 d4 hb p0 p1 p2 hpr hcell hE7
          obtain ⟨d0, d1, d2, d3, d4⟩ := blk5 hb7
          have HB7 := Lib.hid hb7; clear hb7
          have HW7 := Lib.hid hW7
          clear hW6 hW7
          by_cases hlt : aheadI px pid x i < 0
          · go_wp2
            repeat (first | (refine plan_p rfl (fun K hK => ?_); go_simp; refine hK _ ?_; clear hK K) | (refine plan_l rfl (fun K hK => ?_); go_simp; refine hK _ ?_; clear hK K))
            refine plan_done ?_
            go_wp2
            go_roundg l.count
            case measure => simp only [PT.count] at hcnt; omega
            case rel => exact CutInv_left HH.out HND.out HPERM.out HEQ.out hnl hnr HBT'.out hEr HW7.out HB7.out hcell7 HEQP.out hlt HWAY.out
          · go_wp2
            repeat (first | (refine plan_p rfl (fun K hK => ?_); go_simp; refine hK _ ?_; clear hK K) | (refine plan_l rfl (fun K hK => ?_); go_simp; refine hK _ ?_; clear hK K))
            refine plan_done ?_
            go_wp2
            go_roundg r.count
            case measure => simp only [PT.count] at hcnt; omega
            case rel => exact CutInv_right HH.out HND.out HPERM.out HEQ.out hnl hnr HBT'.out hEr HW7.out HB7.out hcell7 HEQP.out (by omega) HWAY.out

end Go.Proofs.Ytkejjahlglldlaa.Ps
namespace Go.Proofs.Ytkejjahlglldlaa.Ps

abbrev Pt := Int × Int × Int
def kLt (p q : Pt) : Prop := p.1 < q.1 ∨ (p.1 = q.1 ∧ p.2.2 < q.2.2)
def kAb (p q : Pt) : Prop := q.2.1 < p.2.1 ∨ (p.2.1 = q.2.1 ∧ kLt p q)

theorem ahead_iff (x1 i1 x2 i2 : Int) : aheadI x1 i1 x2 i2 < 0 ↔ x1 < x2 ∨ (x1 = x2 ∧ i1 < i2) := by
  simp only [aheadI, orL, cmpI]
  repeat' split
  all_goals omega
theorem ahead_pos (x1 i1 x2 i2 : Int) : 0 < aheadI x1 i1 x2 i2 ↔ x2 < x1 ∨ (x1 = x2 ∧ i2 < i1) := by
  simp only [aheadI, orL, cmpI]
  repeat' split
  all_goals omega
theorem above_iff (x1 y1 i1 x2 y2 i2 : Int) : aboveB x1 y1 i1 x2 y2 i2 = true ↔ y2 < y1 ∨ (y1 = y2 ∧ (x1 < x2 ∨ (x1 = x2 ∧ i1 < i2))) := by
  have h1 := ahead_iff x1 i1 x2 i2
  simp only [aboveB, decide_eq_true_eq]
  generalize aheadI x1 i1 x2 i2 = c at *
  simp only [orL, cmpI]
  repeat' split
  all_goals omega

def PT.toL : PT → List Pt
  | .nil => []
  | .node x y i l r => l.toL ++ (x, y, i) :: r.toL

theorem count_toL : ∀ t : PT, t.count = t.toL.length
  | .nil => rfl
  | .node x y i l r => by simp [PT.count, PT.toL, count_toL l, count_toL r]; omega

def Srt (t : PT) : Prop := t.toL.Pairwise kLt
def Hp : PT → Prop
  | .nil => True
  | .node x y i l r => (∀ q ∈ l.toL, kAb (x, y, i) q) ∧ (∀ q ∈ r.toL, kAb (x, y, i) q) ∧ Hp l ∧ Hp r

theorem srt_node {x y i : Int} {l r : PT} : Srt (.node x y i l r) ↔ Srt l ∧ Srt r ∧ (∀ q ∈ l.toL, kLt q (x, y, i)) ∧ (∀ q ∈ r.toL, kLt (x, y, i) q) ∧ ∀ p ∈ l.toL, ∀ q ∈ r.toL, kLt p q := by
  unfold Srt
  simp only [PT.toL, List.pairwise_append, List.pairwise_cons]
  constructor
  · rintro ⟨h1, ⟨h2, h3⟩, h4⟩
    exact ⟨h1, h3, fun q hq => h4 q hq _ (by simp), h2, fun p hp q hq => h4 p hp q (by simp [hq])⟩
  · rintro ⟨h1, h2, h3, h4, h5⟩
    refine ⟨h1, ⟨h4, h2⟩, fun p hp q hq => ?_⟩
    rcases List.mem_cons.1 hq with rfl | hq
    · exact h3 p hp
    · exact h5 p hp q hq

theorem psplit_toL (px pid : Int) : ∀ t : PT, (psplit px pid t).1.toL ++ (psplit px pid t).2.toL = t.toL
  | .nil => rfl
  | .node x y i l r => by
    unfold psplit
    split
    · have := psplit_toL px pid r
      simp only [PT.toL, List.append_assoc, List.cons_append, this]
    · have := psplit_toL px pid l
      simp only [PT.toL, ← List.append_assoc, this]

theorem psplit_key (px py pid : Int) : ∀ t : PT, Srt t → (∀ q ∈ (psplit px pid t).1.toL, kLt q (px, py, pid)) ∧ (∀ q ∈ (psplit px pid t).2.toL, ¬ kLt q (px, py, pid))
  | .nil, _ => by simp [psplit, PT.toL]
  | .node x y i l r, h => by
    obtain ⟨h1, h2, h3, h4, h5⟩ := srt_node.1 h
    have hl := psplit_key px py pid l h1
    have hr := psplit_key px py pid r h2
    have ha := ahead_iff x i px pid
    unfold psplit
    split
    · rename_i hlt
      have hk := ha.1 hlt
      refine ⟨fun q hq => ?_, hr.2⟩
      simp only [PT.toL, List.mem_append, List.mem_cons] at hq
      rcases hq with hq | rfl | hq
      · have := h3 q hq; unfold kLt at *; simp only at *; omega
      · exact hk
      · exact hr.1 q hq
    · rename_i hlt
      have hk := fun h => hlt (ha.2 h)
      refine ⟨hl.1, fun q hq => ?_⟩
      simp only [PT.toL, List.mem_append, List.mem_cons] at hq
      rcases hq with hq | rfl | hq
      · exact hl.2 q hq
      · exact hk
      · have := h4 q hq; unfold kLt at *; simp only at *; omega

theorem psplit_srt (px pid : Int) (t : PT) (h : Srt t) : Srt (psplit px pid t).1 ∧ Srt (psplit px pid t).2 := by
  have h1 := psplit_toL px pid t
  unfold Srt at *
  rw [← h1, List.pairwise_append] at h
  exact ⟨h.1, h.2.1⟩

theorem psplit_hp (px pid : Int) : ∀ t : PT, Hp t → Hp (psplit px pid t).1 ∧ Hp (psplit px pid t).2
  | .nil, _ => by simp [psplit, Hp]
  | .node x y i l r, h => by
    obtain ⟨h1, h2, h3, h4⟩ := h
    have hl := psplit_hp px pid l h3
    have hr := psplit_hp px pid r h4
    unfold psplit
    split
    · have ht := psplit_toL px pid r
      exact ⟨⟨h1, fun q hq => h2 q (by rw [← ht]; simp [hq]), h3, hr.1⟩, hr.2⟩
    · have ht := psplit_toL px pid l
      exact ⟨hl.1, ⟨fun q hq => h1 q (by rw [← ht]; simp [hq]), h2, hl.2, h4⟩⟩

theorem padd_perm (px py pid : Int) : ∀ t : PT, (padd px py pid t).toL.Perm ((px, py, pid) :: t.toL)
  | .nil => List.Perm.refl _
  | .node x y i l r => by
    unfold padd
    split
    · split
      · simp only [PT.toL]
        exact ((padd_perm px py pid l).append_right _)
      · simp only [PT.toL]
        refine (List.Perm.append_left _ ((padd_perm px py pid r).cons _)).trans ?_
        refine (List.Perm.append_left _ (List.Perm.swap _ _ _)).trans ?_
        exact List.perm_middle
    · have := psplit_toL px pid (.node x y i l r)
      show ((psplit px pid (.node x y i l r)).1.toL ++ (px, py, pid) :: (psplit px pid (.node x y i l r)).2.toL).Perm _
      rw [← this]
      exact List.perm_middle

def noKey (px pid : Int) (L : List Pt) : Prop := ∀ q ∈ L, ¬ (q.1 = px ∧ q.2.2 = pid)

theorem padd_srt (px py pid : Int) : ∀ t : PT, Srt t → noKey px pid t.toL → Srt (padd px py pid t)
  | .nil, _, _ => by simp [padd, Srt, PT.toL]
  | .node x y i l r, h, hk => by
    obtain ⟨h1, h2, h3, h4, h5⟩ := srt_node.1 h
    have hkl : noKey px pid l.toL := fun q hq => hk q (by simp [PT.toL, hq])
    have hkr : noKey px pid r.toL := fun q hq => hk q (by simp [PT.toL, hq])
    have hkn := hk (x, y, i) (by simp [PT.toL])
    have ha := ahead_iff px pid x i
    unfold padd
    split
    · split
      · rename_i hlt
        have hlt' := ha.1 hlt
        have hm := padd_perm px py pid l
        refine srt_node.2 ⟨padd_srt px py pid l h1 hkl, h2, fun q hq => ?_, h4, fun p hp q hq => ?_⟩
        · rcases List.mem_cons.1 (hm.subset hq) with rfl | hq
          · exact hlt'
          · exact h3 q hq
        · rcases List.mem_cons.1 (hm.subset hp) with rfl | hp
          · have := h4 q hq; unfold kLt at *; simp only at *; omega
          · exact h5 p hp q hq
      · rename_i hlt
        have hlt' := fun h => hlt (ha.2 h)
        have hm := padd_perm px py pid r
        refine srt_node.2 ⟨h1, padd_srt px py pid r h2 hkr, h3, fun q hq => ?_, fun p hp q hq => ?_⟩
        · rcases List.mem_cons.1 (hm.subset hq) with rfl | hq
          · unfold kLt; simp only at *; omega
          · exact h4 q hq
        · rcases List.mem_cons.1 (hm.subset hq) with rfl | hq
          · have := h3 p hp; unfold kLt at *; simp only at *; omega
          · exact h5 p hp q hq
    · have hs := psplit_srt px pid _ h
      have hq := psplit_key px py pid _ h
      have ht := psplit_toL px pid (.node x y i l r)
      refine srt_node.2 ⟨hs.1, hs.2, hq.1, fun q hq' => ?_, fun p hp q hq' => ?_⟩
      · have h1 := hq.2 q hq'
        have h2 := hk q (by rw [← ht]; simp [hq'])
        unfold kLt at *; simp only at *; omega
      · have h1 := hq.1 p hp
        have h2 := hq.2 q hq'
        unfold kLt at *; simp only at *; omega

theorem padd_hp (px py pid : Int) : ∀ t : PT, Hp t → noKey px pid t.toL → Hp (padd px py pid t)
  | .nil, _, _ => by simp [padd, Hp, PT.toL]
  | .node x y i l r, h, hk => by
    obtain ⟨h1, h2, h3, h4⟩ := h
    have hkl : noKey px pid l.toL := fun q hq => hk q (by simp [PT.toL, hq])
    have hkr : noKey px pid r.toL := fun q hq => hk q (by simp [PT.toL, hq])
    have hkn := hk (x, y, i) (by simp [PT.toL])
    have ha := above_iff x y i px py pid
    unfold padd
    split
    · rename_i hab
      have hab' := ha.1 hab
      split
      · refine ⟨fun q hq => ?_, h2, padd_hp px py pid l h3 hkl, h4⟩
        rcases List.mem_cons.1 ((padd_perm px py pid l).subset hq) with rfl | hq
        · exact hab'
        · exact h1 q hq
      · refine ⟨h1, fun q hq => ?_, h3, padd_hp px py pid r h4 hkr⟩
        rcases List.mem_cons.1 ((padd_perm px py pid r).subset hq) with rfl | hq
        · exact hab'
        · exact h2 q hq
    · rename_i hab
      have hab' := mt ha.2 hab
      have ht := psplit_toL px pid (.node x y i l r)
      have hs := psplit_hp px pid (.node x y i l r) ⟨h1, h2, h3, h4⟩
      have hall : ∀ q ∈ (PT.node x y i l r).toL, kAb (px, py, pid) q := by
        intro q hq
        have h0 : kAb (px, py, pid) (x, y, i) := by unfold kAb kLt; simp only at *; omega
        simp only [PT.toL, List.mem_append, List.mem_cons] at hq
        rcases hq with hq | rfl | hq
        · have := h1 q hq; unfold kAb kLt at *; simp only at *; omega
        · exact h0
        · have := h2 q hq; unfold kAb kLt at *; simp only at *; omega
      exact ⟨fun q hq => hall q (by rw [← ht]; simp [hq]), fun q hq => hall q (by rw [← ht]; simp [hq]), hs.1, hs.2⟩

theorem pfind_eq (low high least : Int) : ∀ t : PT, Srt t → Hp t → pfind low high least t = t.toL.filter (fun q => decide (low ≤ q.1 ∧ q.1 ≤ high ∧ least ≤ q.2.1))
  | .nil, _, _ => rfl
  | .node x y i l r, h, hh => by
    obtain ⟨h1, h2, h3, h4, h5⟩ := srt_node.1 h
    obtain ⟨g1, g2, g3, g4⟩ := hh
    have il := pfind_eq low high least l h1 g3
    have ir := pfind_eq low high least r h2 g4
    unfold pfind
    simp only [PT.toL, List.filter_append, List.filter_cons]
    split
    · rename_i hy
      have e1 : l.toL.filter (fun q => decide (low ≤ q.1 ∧ q.1 ≤ high ∧ least ≤ q.2.1)) = [] := by
        rw [List.filter_eq_nil_iff]; intro q hq; have := g1 q hq; unfold kAb at this; simp only [decide_eq_true_eq]; simp only at this; omega
      have e2 : r.toL.filter (fun q => decide (low ≤ q.1 ∧ q.1 ≤ high ∧ least ≤ q.2.1)) = [] := by
        rw [List.filter_eq_nil_iff]; intro q hq; have := g2 q hq; unfold kAb at this; simp only [decide_eq_true_eq]; simp only at this; omega
      rw [e1, e2, if_neg (by simp only [decide_eq_true_eq]; omega)]
      rfl
    · rename_i hy
      have e1 : (if low ≤ x then pfind low high least l else []) = l.toL.filter (fun q => decide (low ≤ q.1 ∧ q.1 ≤ high ∧ least ≤ q.2.1)) := by
        split
        · exact il
        · symm; rw [List.filter_eq_nil_iff]; intro q hq; have := h3 q hq; unfold kLt at this; simp only [decide_eq_true_eq]; simp only at this; omega
      have e2 : (if x ≤ high then pfind low high least r else []) = r.toL.filter (fun q => decide (low ≤ q.1 ∧ q.1 ≤ high ∧ least ≤ q.2.1)) := by
        split
        · exact ir
        · symm; rw [List.filter_eq_nil_iff]; intro q hq; have := h4 q hq; unfold kLt at this; simp only [decide_eq_true_eq]; simp only at this; omega
      rw [e1, e2, List.append_assoc]
      congr 1
      by_cases hx : low ≤ x ∧ x ≤ high
      · rw [if_pos hx, if_pos (by simp only [decide_eq_true_eq]; omega)]; rfl
      · rw [if_neg hx, if_neg (by simp only [decide_eq_true_eq]; omega)]; rfl

/-- Two sorted lists of the same points are one. -/
theorem srt_unique : ∀ {L M : List Pt}, L.Pairwise kLt → M.Pairwise kLt → L.Perm M → L = M
  | [], M, _, _, h => (List.nil_perm.1 h).symm
  | a :: L, [], _, _, h => by simp at h
  | a :: L, b :: M, hL, hM, h => by
    rw [List.pairwise_cons] at hL hM
    have hab : a = b := by
      rcases List.mem_cons.1 (h.subset (List.mem_cons_self ..)) with h1 | h1
      · exact h1
      · rcases List.mem_cons.1 (h.symm.subset (List.mem_cons_self ..)) with h2 | h2
        · exact h2.symm
        · have k1 := hM.1 a h1
          have k2 := hL.1 b h2
          unfold kLt at k1 k2; omega
    subst hab
    rw [srt_unique hL.2 hM.2 ((List.perm_cons a).1 h)]

theorem pjoinIn_toL (jr : PT → PT) (x y i : Int) (l r : PT) (hj : ∀ b, (jr b).toL = r.toL ++ b.toL) : ∀ b : PT, (pjoinIn jr x y i l r b).toL = (PT.node x y i l r).toL ++ b.toL
  | .nil => by simp [pjoinIn, PT.toL]
  | .node x' y' i' l' r' => by
    unfold pjoinIn
    split
    · simp only [PT.toL, hj]; simp
    · simp only [PT.toL, pjoinIn_toL jr x y i l r hj l']; simp
theorem pjoin_toL : ∀ a b : PT, (pjoin a b).toL = a.toL ++ b.toL
  | .nil, b => by simp [pjoin, PT.toL]
  | .node x y i l r, b => pjoinIn_toL _ x y i l r (pjoin_toL r) b

theorem pjoinIn_hp (jr : PT → PT) (x y i : Int) (l r : PT) (hj : ∀ b, (jr b).toL = r.toL ++ b.toL) (hjh : ∀ b, Hp b → (∀ p ∈ r.toL, ∀ q ∈ b.toL, kLt p q) → Hp (jr b)) (hn : Hp (.node x y i l r)) :
    ∀ b : PT, Hp b → (∀ p ∈ (PT.node x y i l r).toL, ∀ q ∈ b.toL, kLt p q) → Hp (pjoinIn jr x y i l r b)
  | .nil, _, _ => hn
  | .node x' y' i' l' r', hb, hk => by
    obtain ⟨h1, h2, h3, h4⟩ := hn
    obtain ⟨g1, g2, g3, g4⟩ := hb
    have ha := above_iff x y i x' y' i'
    have h0 := hk (x, y, i) (by simp [PT.toL]) (x', y', i') (by simp [PT.toL])
    unfold pjoinIn
    split
    · rename_i hab
      have hab' := ha.1 hab
      refine ⟨h1, fun q hq => ?_, h3, hjh _ ⟨g1, g2, g3, g4⟩ fun p hp q hq => hk p (by simp [PT.toL, hp]) q hq⟩
      rw [hj] at hq
      simp only [PT.toL, List.mem_append, List.mem_cons] at hq
      rcases hq with hq | hq | rfl | hq
      · exact h2 q hq
      · have := g1 q hq; unfold kAb kLt at *; simp only at *; omega
      · exact hab'
      · have := g2 q hq; unfold kAb kLt at *; simp only at *; omega
    · rename_i hab
      have hab' := mt ha.2 hab
      have h00 : kAb (x', y', i') (x, y, i) := by unfold kAb kLt at *; simp only at *; omega
      refine ⟨fun q hq => ?_, g2, pjoinIn_hp jr x y i l r hj hjh ⟨h1, h2, h3, h4⟩ l' g3 fun p hp q hq => hk p hp q (by simp [PT.toL, hq]), g4⟩
      rw [pjoinIn_toL jr x y i l r hj] at hq
      simp only [PT.toL, List.mem_append, List.mem_cons] at hq
      rcases hq with (hq | rfl | hq) | hq
      · have := h1 q hq; unfold kAb kLt at *; simp only at *; omega
      · exact h00
      · have := h2 q hq; unfold kAb kLt at *; simp only at *; omega
      · exact g1 q hq
theorem pjoin_hp : ∀ a b : PT, Hp a → Hp b → (∀ p ∈ a.toL, ∀ q ∈ b.toL, kLt p q) → Hp (pjoin a b)
  | .nil, b, _, hb, _ => hb
  | .node x y i l r, b, ha, hb, hk =>
    pjoinIn_hp _ x y i l r (pjoin_toL r) (fun b' hb' hk' => pjoin_hp r b' ha.2.2.2 hb' hk') ha b hb hk

/-- In a sorted tree the way down to a point of it ends at it; taking it out takes just it out. -/
theorem pcut_way (px py pid : Int) : ∀ t : PT, Srt t → (px, py, pid) ∈ t.toL → pway px py pid t
  | .nil, _, h => by simp [PT.toL] at h
  | .node x y i l r, hs, h => by
    obtain ⟨h1, h2, h3, h4, h5⟩ := srt_node.1 hs
    have ha := ahead_iff px pid x i
    simp only [PT.toL, List.mem_append, List.mem_cons] at h
    unfold pway
    rcases h with h | h | h
    · refine .inr ?_
      rw [if_pos (ha.2 (h3 _ h))]
      exact pcut_way px py pid l h1 h
    · simp only [Prod.mk.injEq] at h; exact .inl ⟨h.1.symm, h.2.1.symm, h.2.2.symm⟩
    · refine .inr ?_
      rw [if_neg (fun hlt => by have k1 := ha.1 hlt; have k2 := h4 _ h; unfold kLt at k2; simp only at k2; omega)]
      exact pcut_way px py pid r h2 h

theorem pcut_perm (px py pid : Int) : ∀ t : PT, pway px py pid t → t.toL.Perm ((px, py, pid) :: (pcut px py pid t).toL)
  | .nil, h => h.elim
  | .node x y i l r, h => by
    unfold pcut
    split
    · rename_i he
      obtain ⟨rfl, rfl, rfl⟩ := he
      rw [pjoin_toL]
      exact List.perm_middle
    · rename_i he
      have h' := h.resolve_left he
      split
      · rename_i hlt
        rw [if_pos hlt] at h'
        simp only [PT.toL]
        exact (pcut_perm px py pid l h').append_right _
      · rename_i hlt
        rw [if_neg hlt] at h'
        simp only [PT.toL]
        refine (List.Perm.append_left _ ((pcut_perm px py pid r h').cons _)).trans ?_
        refine (List.Perm.append_left _ (List.Perm.swap _ _ _)).trans ?_
        exact List.perm_middle

theorem pcut_sub (px py pid : Int) : ∀ t : PT, (pcut px py pid t).toL.Sublist t.toL
  | .nil => List.Sublist.refl _
  | .node x y i l r => by
    unfold pcut
    split
    · rw [pjoin_toL]
      exact List.Sublist.append_left (List.sublist_cons_self _ _) _
    · split
      · exact (pcut_sub px py pid l).append_right _
      · exact List.Sublist.append_left ((pcut_sub px py pid r).cons_cons _) _

theorem pcut_srt (px py pid : Int) (t : PT) (h : Srt t) : Srt (pcut px py pid t) := List.Pairwise.sublist (pcut_sub px py pid t) h

theorem pcut_hp (px py pid : Int) : ∀ t : PT, Srt t → Hp t → Hp (pcut px py pid t)
  | .nil, _, _ => trivial
  | .node x y i l r, hs, h => by
    obtain ⟨h1, h2, h3, h4⟩ := h
    obtain ⟨s1, s2, s3, s4, s5⟩ := srt_node.1 hs
    unfold pcut
    split
    · exact pjoin_hp l r h3 h4 s5
    · split
      · exact ⟨fun q hq => h1 q ((pcut_sub px py pid l).subset hq), h2, pcut_hp px py pid l s1 h3, h4⟩
      · exact ⟨h1, fun q hq => h2 q ((pcut_sub px py pid r).subset hq), h3, pcut_hp px py pid r s2 h4⟩
end Go.Proofs.Ytkejjahlglldlaa.Ps
namespace Go.Proofs.Ytkejjahlglldlaa.Ps
open Go.RowKit

/-- The tree object tb holds the points L, in order; bs: its blocks. -/
def TreeOk (w : World) (tb : Nat) (L : List Pt) (bs : List Nat) : Prop :=
  ∃ t M, TreeRep w tb t M bs ∧ t.toL = L ∧ Srt t ∧ Hp t ∧ L.Perm M ∧ (L.map (fun q => q.2.2)).Nodup

theorem TreeOk.ext {w w' : World} {tb : Nat} {L : List Pt} {bs : List Nat} (h : TreeOk w tb L bs) (he : Ext w w') : TreeOk w' tb L bs := by
  obtain ⟨t, M, h1, h2⟩ := h; exact ⟨t, M, h1.ext he, h2⟩
theorem TreeOk.touch {S : Nat → Prop} {w w' : World} {tb : Nat} {L : List Pt} {bs : List Nat} (h : TreeOk w tb L bs) (he : Touch S w w') (hn : ∀ k ∈ bs, ¬ S k) : TreeOk w' tb L bs := by
  obtain ⟨t, M, h1, h2⟩ := h; exact ⟨t, M, h1.touch he hn, h2⟩
theorem TreeOk.lt {w : World} {tb : Nat} {L : List Pt} {bs : List Nat} (h : TreeOk w tb L bs) : ∀ k ∈ bs, k < w.heap.size := by
  obtain ⟨t, M, h1, h2⟩ := h; exact h1.lt
theorem TreeOk.srt {w : World} {tb : Nat} {L : List Pt} {bs : List Nat} (h : TreeOk w tb L bs) : L.Pairwise kLt := by
  obtain ⟨t, M, h1, rfl, h2, _⟩ := h; exact h2
theorem TreeOk.ids {w : World} {tb : Nat} {L : List Pt} {bs : List Nat} (h : TreeOk w tb L bs) : (L.map (fun q => q.2.2)).Nodup := by
  obtain ⟨t, M, h1, _, _, _, _, h2⟩ := h; exact h2

theorem lookP_none {id : Int} : ∀ {M : List Pt} {i : Nat}, (∀ q ∈ M, q.2.2 ≠ id) → lookP id M i = none
  | [], _, _ => rfl
  | q :: M, i, h => by
    have hne : ¬ id = q.2.2 := fun e => h q (List.mem_cons_self ..) e.symm
    rw [lookP, if_neg hne]
    exact lookP_none (M := M) fun q' hq => h q' (List.mem_cons_of_mem _ hq)
theorem lookP_of_none {id : Int} : ∀ {M : List Pt} {i : Nat}, lookP id M i = none → ∀ q ∈ M, q.2.2 ≠ id
  | [], _, _, q, hq => by simp at hq
  | q :: M, i, h, q', hq => by
    simp only [lookP] at h
    split at h
    · simp at h
    · rename_i hne
      rcases List.mem_cons.1 hq with rfl | hq
      · exact fun e => hne e.symm
      · exact lookP_of_none h q' hq
theorem lookP_some {id : Int} : ∀ {M : List Pt} {i : Nat} {j : Nat} {q : Pt}, lookP id M i = some (j, q) → q ∈ M ∧ q.2.2 = id ∧ i ≤ j ∧ M.Perm (q :: M.eraseIdx (j - i))
  | [], _, _, _, h => by simp [lookP] at h
  | p :: M, i, j, q, h => by
    simp only [lookP] at h
    split at h
    · rename_i he
      simp only [Option.some.injEq, Prod.mk.injEq] at h
      obtain ⟨rfl, rfl⟩ := h
      exact ⟨by simp, he.symm, Nat.le_refl _, by simp⟩
    · obtain ⟨h1, h2, h3, h4⟩ := lookP_some h
      refine ⟨by simp [h1], h2, by omega, ?_⟩
      rw [show j - i = (j - (i + 1)) + 1 from by omega, List.eraseIdx_cons_succ]
      exact (h4.cons p).trans (List.Perm.swap _ _ _)

theorem unique_id {L : List Pt} (h : (L.map (fun q => q.2.2)).Nodup) {p q : Pt} (hp : p ∈ L) (hq : q ∈ L) (he : p.2.2 = q.2.2) : p = q := by
  induction L with
  | nil => simp at hp
  | cons a L ih =>
    simp only [List.map_cons, List.nodup_cons, List.mem_map, not_exists, not_and] at h
    rcases List.mem_cons.1 hp with h1 | h1 <;> rcases List.mem_cons.1 hq with h2 | h2
    · rw [h1, h2]
    · exact absurd (h1 ▸ he).symm (h.1 q h2)
    · exact absurd (h2 ▸ he) (h.1 p h1)
    · exact ih h.2 h1 h2

def NewOk (w : World) (e : Ending) (w' : World) : Prop := ∃ tb bs, e = .returned (.pointer (some ⟨tb, 0, none⟩)) ∧ TreeOk w' tb [] bs ∧ (∀ k ∈ bs, w.heap.size ≤ k) ∧ Ext w w'
theorem New_ok (w : World) : Calls Try.prog 15 #[] w (NewOk w) :=
  (New_any w).mono fun e w' ⟨tb, bs, h1, h2, h3, h4⟩ => ⟨tb, bs, h1, ⟨.nil, [], h2, rfl, by simp [Srt, PT.toL], trivial, List.Perm.refl _, by simp⟩, h3, h4⟩

def AddOk (tb : Nat) (p : Pt) (L : List Pt) (bs : List Nat) (w : World) (e : Ending) (w' : World) : Prop :=
  ∃ L' bs', e = .returned (.int .i64 0) ∧ TreeOk w' tb L' bs' ∧ L'.Perm (p :: L) ∧ (∀ k ∈ bs', k ∈ bs ∨ w.heap.size ≤ k) ∧ Touch (fun k => k ∈ bs) w w'
theorem Add_ok (tb : Nat) (px py pid : Int) (L : List Pt) (bs : List Nat) (w : World) (h : TreeOk w tb L bs) (hid : ∀ q ∈ L, q.2.2 ≠ pid) :
    Calls Try.prog 18 #[.pointer (some ⟨tb, 0, none⟩), pt px py pid] w (AddOk tb (px, py, pid) L bs w) := by
  obtain ⟨t, M, h1, rfl, h3, h4, h5, h6⟩ := h
  refine (Add_new tb px py pid t M bs w h1 (lookP_none fun q hq => hid q (h5.symm.subset hq))).mono ?_
  rintro e w' ⟨bs', g1, g2, g3, g4⟩
  have hk : noKey px pid t.toL := fun q hq => fun e => hid q hq e.2
  have hp := padd_perm px py pid t
  refine ⟨(padd px py pid t).toL, bs', g1, ⟨padd px py pid t, _, g2, rfl, padd_srt px py pid t h3 hk, padd_hp px py pid t h4 hk, ?_, ?_⟩, hp, g3, g4⟩
  · exact hp.trans ((List.Perm.cons _ h5).trans (List.perm_append_singleton _ _).symm)
  · refine (hp.map _).nodup_iff.2 ?_
    simp only [List.map_cons, List.nodup_cons, List.mem_map, not_exists, not_and]
    exact ⟨hid, h6⟩
theorem Add_dup (tb : Nat) (px py pid : Int) (L : List Pt) (bs : List Nat) (w : World) (h : TreeOk w tb L bs) (hid : ∃ q ∈ L, q.2.2 = pid) :
    Calls Try.prog 18 #[.pointer (some ⟨tb, 0, none⟩), pt px py pid] w (fun e w' => e = .returned (.int .i64 90) ∧ Ext w w') := by
  obtain ⟨t, M, h1, rfl, h3, h4, h5, h6⟩ := h
  cases hl : lookP pid M 0 with
  | none =>
    obtain ⟨q, hq, he⟩ := hid
    exact absurd he (lookP_of_none hl q (h5.subset hq))
  | some jq => obtain ⟨j, q⟩ := jq; exact Add_there tb px py pid t M bs w h1 hl

def CutOk (tb : Nat) (p : Pt) (L : List Pt) (bs : List Nat) (w : World) (e : Ending) (w' : World) : Prop :=
  ∃ L' bs', e = .returned (.int .i64 0) ∧ TreeOk w' tb L' bs' ∧ L.Perm (p :: L') ∧ L'.Sublist L ∧ (∀ k ∈ bs', k ∈ bs) ∧ Touch (fun k => k ∈ bs) w w'
theorem Cut_ok (tb : Nat) (p : Pt) (L : List Pt) (bs : List Nat) (w : World) (h : TreeOk w tb L bs) (hp : p ∈ L) :
    Calls Try.prog 20 #[.pointer (some ⟨tb, 0, none⟩), .int .i64 p.2.2] w (CutOk tb p L bs w) := by
  obtain ⟨t, M, h1, rfl, h3, h4, h5, h6⟩ := h
  cases hl : lookP p.2.2 M 0 with
  | none => exact absurd rfl (lookP_of_none hl p (h5.subset hp))
  | some jq =>
    obtain ⟨j, q⟩ := jq
    obtain ⟨g1, g2, g3, g4⟩ := lookP_some hl
    have hqp : q = p := unique_id h6 (h5.symm.subset g1) hp g2
    subst hqp
    obtain ⟨px, py, pid⟩ := q
    have hway := pcut_way px py pid t h3 hp
    refine (Cut_some tb pid px py pid t M bs w h1 hl hway).mono ?_
    rintro e w' ⟨bs', k1, k2, k3, k4⟩
    have hperm := pcut_perm px py pid t hway
    have hsub := pcut_sub px py pid t
    refine ⟨(pcut px py pid t).toL, bs', k1, ⟨pcut px py pid t, _, k2, rfl, pcut_srt px py pid t h3, pcut_hp px py pid t h3 h4, ?_, ?_⟩, hperm, hsub, k3, k4⟩
    · refine (List.perm_cons (px, py, pid)).1 ?_
      exact hperm.symm.trans (h5.trans g4)
    · exact (hsub.map _).nodup h6
theorem Cut_no (tb : Nat) (id : Int) (L : List Pt) (bs : List Nat) (w : World) (h : TreeOk w tb L bs) (hid : ∀ q ∈ L, q.2.2 ≠ id) :
    Calls Try.prog 20 #[.pointer (some ⟨tb, 0, none⟩), .int .i64 id] w (fun e w' => e = .returned (.int .i64 4) ∧ Ext w w') := by
  obtain ⟨t, M, h1, rfl, h3, h4, h5, h6⟩ := h
  exact Cut_none tb id t M bs w h1 (lookP_none fun q hq => hid q (h5.symm.subset hq))

def inRange (low high least : Int) (L : List Pt) : List Pt := L.filter fun q => decide (low ≤ q.1 ∧ q.1 ≤ high ∧ least ≤ q.2.1)
theorem Find_ok (low high least : Int) (tb : Nat) (L : List Pt) (bs : List Nat) (w : World) (h : TreeOk w tb L bs) (hsz : L.length * 24 ≤ 140737488355328) :
    Calls Try.prog 22 #[.pointer (some ⟨tb, 0, none⟩), .int .i64 low, .int .i64 high, .int .i64 least] w (PointsPost (inRange low high least L) w) := by
  obtain ⟨t, M, ⟨v, m, bn, g1, g2, g3, _⟩, rfl, h3, h4, h5, h6⟩ := h
  have := Find_any low high least t v bn tb m w g1 g2 (by rw [count_toL]; exact hsz)
  rw [pfind_eq low high least t h3 h4] at this
  exact this

end Go.Proofs.Ytkejjahlglldlaa.Ps
