/- pstree.split, join: walked. -/
import Derived.Test.YtcildmdmgjehbaaPst1
import Derived.Test.YtcildmdmgjehbaaSlc
namespace Go.Proofs.Ytcildmdmgjehbaa
open Go.RowKit

/-- A tree of points. -/
inductive PT where
  | nil
  | node (x y i : Int) (l r : PT)

/-- In W the pointer v leads to the tree; bs: its blocks. -/
def NodeRep (W : World) : PT → Option Nat → List Nat → Prop
  | .nil, v, bs => v = none ∧ bs = []
  | .node x y i l r, v, bs => ∃ b vl vr bl br, v = some b ∧ W.heap[b]? = some (.cells #[.int .i64 x, .int .i64 y, .int .i64 i, ptr vl, ptr vr] 60 (0, 0)) ∧
      NodeRep W l vl bl ∧ NodeRep W r vr br ∧ bs = b :: (bl ++ br)

theorem NodeRep.congr {W W' : World} : ∀ {t : PT} {v : Option Nat} {bs : List Nat}, NodeRep W t v bs → (∀ b, b ∈ bs → W'.heap[b]? = W.heap[b]?) → NodeRep W' t v bs
  | .nil, _, _, h, _ => h
  | .node x y i l r, v, bs, ⟨b, vl, vr, bl, br, hv, hb, hl, hr, hbs⟩, hc =>
    ⟨b, vl, vr, bl, br, hv, by rw [hc b (by simp [hbs])]; exact hb, hl.congr (fun k hk => hc k (by simp [hbs, hk])), hr.congr (fun k hk => hc k (by simp [hbs, hk])), hbs⟩
theorem NodeRep.lt {W : World} : ∀ {t : PT} {v : Option Nat} {bs : List Nat}, NodeRep W t v bs → ∀ b ∈ bs, b < W.heap.size
  | .nil, _, _, ⟨_, rfl⟩, b, hb => by simp at hb
  | .node x y i l r, v, bs, ⟨b, vl, vr, bl, br, hv, hb, hl, hr, hbs⟩, k, hk => by
    subst hbs
    rcases List.mem_cons.1 hk with rfl | hk
    · exact blk_lt hb
    · rcases List.mem_append.1 hk with hk | hk
      · exact hl.lt k hk
      · exact hr.lt k hk
theorem NodeRep.touch {W W' : World} {S : Nat → Prop} {t : PT} {v : Option Nat} {bs : List Nat} (h : NodeRep W t v bs) (ht : Touch S W W') (hn : ∀ b ∈ bs, ¬ S b) : NodeRep W' t v bs :=
  h.congr fun b hb => ht.block b (h.lt b hb) (hn b hb)
theorem NodeRep.ext {W W' : World} {t : PT} {v : Option Nat} {bs : List Nat} (h : NodeRep W t v bs) (ht : Ext W W') : NodeRep W' t v bs :=
  h.congr fun b hb => Below.block ht b (h.lt b hb)

def psplit (px pid : Int) : PT → PT × PT
  | .nil => (.nil, .nil)
  | .node x y i l r =>
    if aheadI x i px pid < 0 then (.node x y i l (psplit px pid r).1, (psplit px pid r).2)
    else ((psplit px pid l).1, .node x y i (psplit px pid l).2 r)

/-- Joining a node's tree (its right side joined by jr) with another. -/
def pjoinIn (jr : PT → PT) (x y i : Int) (l r : PT) : PT → PT
  | .nil => .node x y i l r
  | .node x' y' i' l' r' =>
    if aboveB x y i x' y' i' then .node x y i l (jr (.node x' y' i' l' r'))
    else .node x' y' i' (pjoinIn jr x y i l r l') r'

def pjoin : PT → PT → PT
  | .nil => fun b => b
  | .node x y i l r => pjoinIn (pjoin r) x y i l r

def SplitPost (t : PT) (px pid : Int) (bs : List Nat) (w : World) (e : Ending) (w' : World) : Prop :=
  ∃ v1 v2 b1 b2, e = .returned (.tuple #[ptr v1, ptr v2]) ∧ NodeRep w' (psplit px pid t).1 v1 b1 ∧ NodeRep w' (psplit px pid t).2 v2 b2 ∧ (b1 ++ b2).Perm bs ∧ Touch (fun k => k ∈ bs) w w'

/-- A store of a pointer into a node's left or right cell. -/
theorem NodeRep.store {W : World} {x y i : Int} {vl vr v' : Option Nat} {b : Nat} (hb : W.heap[b]? = some (.cells #[.int .i64 x, .int .i64 y, .int .i64 i, ptr vl, ptr vr] 60 (0, 0)))
    {k : Nat} {vl' vr' : Option Nat} (hk : (#[.int .i64 x, .int .i64 y, .int .i64 i, ptr vl, ptr vr] : Array Value).setIfInBounds k (ptr v') = #[.int .i64 x, .int .i64 y, .int .i64 i, ptr vl', ptr vr'])
    {l r : PT} {bl br : List Nat} (hl : NodeRep W l vl' bl) (hr : NodeRep W r vr' br) (hnl : b ∉ bl) (hnr : b ∉ br) :
    NodeRep (W.setCell ⟨b, k, none⟩ (ptr v')) (.node x y i l r) (some b) (b :: (bl ++ br)) := by
  refine ⟨b, vl', vr', bl, br, rfl, ?_, ?_, ?_, rfl⟩
  · rw [blk_set hb, hk]
  · exact hl.congr fun q hq => Below.heap_setCell _ _ _ _ (fun e => hnl ((show q = b from e) ▸ hq))
  · exact hr.congr fun q hq => Below.heap_setCell _ _ _ _ (fun e => hnr ((show q = b from e) ▸ hq))

theorem NodeRep.setCell_off {W : World} {t : PT} {v : Option Nat} {bs : List Nat} (h : NodeRep W t v bs) {p : Addr} (hn : p.block ∉ bs) (u : Value) : NodeRep (W.setCell p u) t v bs :=
  h.congr fun q hq => Below.heap_setCell _ _ _ _ (fun e => hn (e ▸ hq))

theorem split_close_right {x y i px pid : Int} {l r : PT} {b : Nat} {bl br b1 b2 : List Nat} {vl vr v1 v2 : Option Nat} {w W W3 : World} {e : Ending}
    (he : e = .returned (.tuple #[ptr (some b), ptr v2]))
    (hlt : aheadI x i px pid < 0) (hl : NodeRep w l vl bl) (hE : Ext w W) (hnb : b ∉ bl ∧ b ∉ br) (hd : ∀ a, a ∈ bl → ∀ c, c ∈ br → a ≠ c) (hlb : ∀ k ∈ br, k < w.heap.size)
    (hr1 : NodeRep W3 (psplit px pid r).1 v1 b1) (hr2 : NodeRep W3 (psplit px pid r).2 v2 b2) (hperm : (b1 ++ b2).Perm br) (ht : Touch (fun k => k ∈ br) W W3)
    (hb3 : W3.heap[b]? = some (.cells #[.int .i64 x, .int .i64 y, .int .i64 i, ptr vl, ptr vr] 60 (0, 0))) :
    SplitPost (.node x y i l r) px pid (b :: (bl ++ br)) w e (W3.setCell ⟨b, 4, none⟩ (ptr v1)) := by
  have hl3 : NodeRep W3 l vl bl := (hl.ext hE).touch ht fun k hk hk' => hd k hk k hk' rfl
  have hn1 : b ∉ b1 ∧ b ∉ b2 := by
    constructor
    · exact fun h => hnb.2 (hperm.subset (List.mem_append_left _ h))
    · exact fun h => hnb.2 (hperm.subset (List.mem_append_right _ h))
  refine ⟨some b, v2, b :: (bl ++ b1), b2, he, ?_, ?_, ?_, ?_⟩
  · simp only [psplit, if_pos hlt]
    exact NodeRep.store hb3 (by simp) hl3 hr1 hnb.1 hn1.1
  · simp only [psplit, if_pos hlt]
    exact hr2.setCell_off hn1.2 _
  · simp only [List.cons_append, List.append_assoc]
    exact (List.Perm.append_left bl hperm).cons b
  · refine Touch.setCell ?_ (fun _ => by simp) _
    exact (hE.touch _).trans' ht fun k _ hk => by simp [hk]

theorem split_close_left {x y i px pid : Int} {l r : PT} {b : Nat} {bl br b1 b2 : List Nat} {vl vr v1 v2 : Option Nat} {w W W3 : World} {e : Ending}
    (he : e = .returned (.tuple #[ptr v1, ptr (some b)]))
    (hlt : ¬ aheadI x i px pid < 0) (hr : NodeRep w r vr br) (hE : Ext w W) (hnb : b ∉ bl ∧ b ∉ br) (hd : ∀ a, a ∈ bl → ∀ c, c ∈ br → a ≠ c)
    (hr1 : NodeRep W3 (psplit px pid l).1 v1 b1) (hr2 : NodeRep W3 (psplit px pid l).2 v2 b2) (hperm : (b1 ++ b2).Perm bl) (ht : Touch (fun k => k ∈ bl) W W3)
    (hb3 : W3.heap[b]? = some (.cells #[.int .i64 x, .int .i64 y, .int .i64 i, ptr vl, ptr vr] 60 (0, 0))) :
    SplitPost (.node x y i l r) px pid (b :: (bl ++ br)) w e (W3.setCell ⟨b, 3, none⟩ (ptr v2)) := by
  have hr3 : NodeRep W3 r vr br := (hr.ext hE).touch ht fun k hk hk' => hd k hk' k hk rfl
  have hn1 : b ∉ b1 ∧ b ∉ b2 := by
    constructor
    · exact fun h => hnb.1 (hperm.subset (List.mem_append_left _ h))
    · exact fun h => hnb.1 (hperm.subset (List.mem_append_right _ h))
  refine ⟨v1, some b, b1, b :: (b2 ++ br), he, ?_, ?_, ?_, ?_⟩
  · simp only [psplit, if_neg hlt]
    exact hr1.setCell_off hn1.1 _
  · simp only [psplit, if_neg hlt]
    exact NodeRep.store hb3 (by simp) hr2 hr3 hn1.2 hnb.2
  · refine List.perm_middle.trans (List.Perm.cons b ?_)
    rw [← List.append_assoc]
    exact hperm.append_right br
  · refine Touch.setCell ?_ (fun _ => by simp) _
    exact (hE.touch _).trans' ht fun k _ hk => by simp [hk]

set_option maxHeartbeats 1000000 in
theorem split_any (px py pid : Int) : ∀ (t : PT) (v : Option Nat) (bs : List Nat) (w : World), NodeRep w t v bs → bs.Nodup →
    Calls Try.prog 18 #[ptr v, pt px py pid] w (SplitPost t px pid bs w) := by
  intro t
  induction t with
  | nil =>
    intro v bs w ⟨hv, hbs⟩ _
    subst hv hbs
    show Calls _ _ #[.pointer none, _] _ _
    go_enter Try.func18, Try.ntmps18
    go_wp2
    go_ret2
    exact ⟨none, none, [], [], rfl, ⟨rfl, rfl⟩, ⟨rfl, rfl⟩, List.Perm.refl _, (Touch.refl _ _).alloc _⟩
  | node x y i l r ihl ihr =>
    intro v bs w ⟨b, vl, vr, bl, br, hv, hb, hl, hr, hbs⟩ hnd
    subst hv hbs
    show Calls _ _ #[.pointer (some ⟨b, 0, none⟩), _] _ _
    have hnb : b ∉ bl ∧ b ∉ br := by have := (List.nodup_cons.1 hnd).1; simpa using this
    have hnd2 := List.nodup_append.1 (List.nodup_cons.1 hnd).2
    go_enter Try.func18, Try.ntmps18
    have HNb := Lib.hid hnb; clear hnb
    have HNd2 := Lib.hid hnd2; clear hnd2
    have HNd := Lib.hid hnd; clear hnd
    have HB := Lib.hid hb; clear hb
    go_wp2
    refine wp_at (fun W => Ext w W ∧ W.heap[b]? = some (.cells #[.int .i64 x, .int .i64 y, .int .i64 i, ptr vl, ptr vr] 60 (0, 0)) ∧
      W.heap[w.heap.size]? = some (.cells #[.int .i64 px, .int .i64 py, .int .i64 pid] 31 (0, 0))) ⟨(Ext.refl _).alloc _, blk_alloc HB.out, blk_new _ _⟩ ?_
    rintro W ⟨hE, hb, hp⟩
    obtain ⟨c0, c1, c2, c3, c4⟩ := blk5 hb
    obtain ⟨p0, p1, p2⟩ := blk3 hp
    refine region_calm [.p 0, .p 1, .p 2, .l 3, .l 4, .h 5 false, .p 6, .p 7] f_mixed (by kernel_rfl) (by kernel_rfl) ?_
    repeat (first | (refine plan_p rfl (fun K hK => ?_); go_simp; refine hK _ ?_; clear hK K) | (refine plan_l rfl (fun K hK => ?_); go_simp; refine hK _ ?_; clear hK K))
    refine plan_c rfl rfl (fun K _ hK => ?_)
    go_wp2_with fail
    refine (ahead_any _ _ _ _ _ _ _).mono ?_
    rintro e W2 ⟨rfl, hE2⟩
    by_cases hlt : aheadI x i px pid < 0
    · go_wp2
      repeat (first | (refine plan_p rfl (fun K hK => ?_); go_simp; refine hK _ ?_; clear hK K) | (refine plan_l rfl (fun K hK => ?_); go_simp; refine hK _ ?_; clear hK K))
      refine plan_done ?_
      go_wp2
      have hE3 : Ext w W2 := hE.drew.trans hE2
      have hb2 := Ext.block hE3 HB.out
      have hp2 := Ext.block hE2 (show W.drew.heap[w.heap.size]? = _ from hp)
      clear c0 c1 c2 c3 c4 p0 p1 p2 hb hp
      obtain ⟨c0, c1, c2, c3, c4⟩ := blk5 hb2
      obtain ⟨p0, p1, p2⟩ := blk3 hp2
      refine region_calm [.p 0, .p 1, .p 2, .p 3, .l 4, .l 5, .h 6 false, .p 7, .p 8, .p 9, .p 10, .p 11, .h 12 false, .p 13] f_mixed (by kernel_rfl) (by kernel_rfl) ?_
      repeat (first | (refine plan_p rfl (fun K hK => ?_); go_simp; refine hK _ ?_; clear hK K) | (refine plan_l rfl (fun K hK => ?_); go_simp; refine hK _ ?_; clear hK K))
      refine plan_c rfl rfl (fun K _ hK => ?_)
      go_wp2_with fail
      refine (ihr vr br W2.drew (hr.ext hE3.drew) HNd2.out.2.1).mono ?_
      rintro e W3 ⟨v1, v2, b1, b2, rfl, hr1, hr2, hperm, ht⟩
      have hb3 := ht.old (show W2.drew.heap[b]? = _ from hb2) HNb.out.2
      have hz := blk_frozen hb3 4
      clear c0 c1 c2 c3 c4 hb2
      obtain ⟨c0, c1, c2, c3, c4⟩ := blk5 hb3
      go_wp2
      repeat (first | (refine plan_p rfl (fun K hK => ?_); go_simp; refine hK _ ?_; clear hK K) | (refine plan_l rfl (fun K hK => ?_); go_simp; refine hK _ ?_; clear hK K))
      refine plan_c rfl rfl (fun K _ hK => ?_)
      go_wp2
      repeat (first | (refine plan_p rfl (fun K hK => ?_); go_simp; refine hK _ ?_; clear hK K) | (refine plan_l rfl (fun K hK => ?_); go_simp; refine hK _ ?_; clear hK K))
      refine plan_done ?_
      go_wp2
      go_ret2
      exact split_close_right rfl hlt hl hE3.drew HNb.out HNd2.out.2.2 (fun k hk => hr.lt k hk) hr1 hr2 hperm ht hb3
    · go_wp2
      repeat (first | (refine plan_p rfl (fun K hK => ?_); go_simp; refine hK _ ?_; clear hK K) | (refine plan_l rfl (fun K hK => ?_); go_simp; refine hK _ ?_; clear hK K))
      refine plan_done ?_
      go_wp2
      have hE3 : Ext w W2 := hE.drew.trans hE2
      have hb2 := Ext.block hE3 HB.out
      have hp2 := Ext.block hE2 (show W.drew.heap[w.heap.size]? = _ from hp)
      clear c0 c1 c2 c3 c4 p0 p1 p2 hb hp
      obtain ⟨c0, c1, c2, c3, c4⟩ := blk5 hb2
      obtain ⟨p0, p1, p2⟩ := blk3 hp2
      refine region_calm [.p 0, .p 1, .p 2, .p 3, .l 4, .l 5, .h 6 false, .p 7, .p 8, .p 9, .p 10, .p 11, .p 12, .h 13 false] f_mixed (by kernel_rfl) (by kernel_rfl) ?_
      repeat (first | (refine plan_p rfl (fun K hK => ?_); go_simp; refine hK _ ?_; clear hK K) | (refine plan_l rfl (fun K hK => ?_); go_simp; refine hK _ ?_; clear hK K))
      refine plan_c rfl rfl (fun K _ hK => ?_)
      go_wp2_with fail
      refine (ihl vl bl W2.drew (hl.ext hE3.drew) HNd2.out.1).mono ?_
      rintro e W3 ⟨v1, v2, b1, b2, rfl, hr1, hr2, hperm, ht⟩
      have hb3 := ht.old (show W2.drew.heap[b]? = _ from hb2) HNb.out.1
      have hz := blk_frozen hb3 3
      clear c0 c1 c2 c3 c4 hb2
      obtain ⟨c0, c1, c2, c3, c4⟩ := blk5 hb3
      go_wp2
      repeat (first | (refine plan_p rfl (fun K hK => ?_); go_simp; refine hK _ ?_; clear hK K) | (refine plan_l rfl (fun K hK => ?_); go_simp; refine hK _ ?_; clear hK K))
      refine plan_c rfl rfl (fun K _ hK => ?_)
      go_wp2
      refine plan_done ?_
      go_wp2
      go_ret2
      exact split_close_left rfl (by omega) hr hE3.drew HNb.out HNd2.out.2.2 hr1 hr2 hperm ht hb3

def JoinPost (a b : PT) (ba bb : List Nat) (w : World) (e : Ending) (w' : World) : Prop :=
  ∃ v bs, e = .returned (ptr v) ∧ NodeRep w' (pjoin a b) v bs ∧ bs.Perm (ba ++ bb) ∧ Touch (fun k => k ∈ ba ∨ k ∈ bb) w w'

theorem nodup3 {α : Type} {b : α} {bl br bb : List α} (h : (b :: (bl ++ br) ++ bb).Nodup) :
    (b ∉ bl ∧ b ∉ br ∧ b ∉ bb) ∧ bl.Nodup ∧ br.Nodup ∧ bb.Nodup ∧ (∀ k ∈ bl, k ∉ br) ∧ (∀ k ∈ bl, k ∉ bb) ∧ (∀ k ∈ br, k ∉ bb) := by
  simp only [List.cons_append, List.append_assoc, List.nodup_cons, List.mem_append, not_or, List.nodup_append] at h
  obtain ⟨⟨h1, h2, h3⟩, h4, ⟨h5, h6, h7⟩, h8⟩ := h
  exact ⟨⟨h1, h2, h3⟩, h4, h5, h6, fun k hk hk' => h8 k hk k (.inl hk') rfl, fun k hk hk' => h8 k hk k (.inr hk') rfl, fun k hk hk' => h7 k hk k hk' rfl⟩

theorem join_close_right {x y i x' y' i' : Int} {l r l' r' : PT} {b : Nat} {bl br bb bs : List Nat} {vl vr v : Option Nat} {w W W3 : World} {e : Ending}
    (he : e = .returned (ptr (some b)))
    (hlt : aboveB x y i x' y' i' = true) (hl : NodeRep w l vl bl) (hE : Ext w W) (hd : (b :: (bl ++ br) ++ bb).Nodup)
    (hr1 : NodeRep W3 (pjoin r (.node x' y' i' l' r')) v bs) (hperm : bs.Perm (br ++ bb)) (ht : Touch (fun k => k ∈ br ∨ k ∈ bb) W W3)
    (hb3 : W3.heap[b]? = some (.cells #[.int .i64 x, .int .i64 y, .int .i64 i, ptr vl, ptr vr] 60 (0, 0))) :
    JoinPost (.node x y i l r) (.node x' y' i' l' r') (b :: (bl ++ br)) bb w e (W3.setCell ⟨b, 4, none⟩ (ptr v)) := by
  obtain ⟨⟨h1, h2, h3⟩, h4, h5, h6, h7, h8, h9⟩ := nodup3 hd
  have hl3 : NodeRep W3 l vl bl := (hl.ext hE).touch ht fun k hk hk' => hk'.elim (h7 k hk) (h8 k hk)
  have hn : b ∉ bs := fun h => by
    rcases List.mem_append.1 (hperm.subset h) with h | h
    · exact h2 h
    · exact h3 h
  refine ⟨some b, b :: (bl ++ bs), he, ?_, ?_, ?_⟩
  · simp only [pjoin, pjoinIn, if_pos hlt]
    exact NodeRep.store hb3 (by simp) hl3 hr1 h1 hn
  · simp only [List.cons_append, List.append_assoc]
    exact (List.Perm.append_left bl hperm).cons b
  · refine Touch.setCell ?_ (fun _ => by simp) _
    exact (hE.touch _).trans' ht fun k _ hk => by rcases hk with hk | hk <;> simp [hk]

theorem join_close_left {x y i x' y' i' : Int} {l r l' r' : PT} {b : Nat} {bl br ba bs : List Nat} {vl vr v : Option Nat} {w W W3 : World} {e : Ending}
    (he : e = .returned (ptr (some b)))
    (hlt : aboveB x y i x' y' i' = false) (hr : NodeRep w r' vr br) (hE : Ext w W) (hd : (b :: (bl ++ br) ++ ba).Nodup)
    (hr1 : NodeRep W3 (pjoin (.node x y i l r) l') v bs) (hperm : bs.Perm (ba ++ bl)) (ht : Touch (fun k => k ∈ ba ∨ k ∈ bl) W W3)
    (hb3 : W3.heap[b]? = some (.cells #[.int .i64 x', .int .i64 y', .int .i64 i', ptr vl, ptr vr] 60 (0, 0))) :
    JoinPost (.node x y i l r) (.node x' y' i' l' r') ba (b :: (bl ++ br)) w e (W3.setCell ⟨b, 3, none⟩ (ptr v)) := by
  obtain ⟨⟨h1, h2, h3⟩, h4, h5, h6, h7, h8, h9⟩ := nodup3 hd
  have hr3 : NodeRep W3 r' vr br := (hr.ext hE).touch ht fun k hk hk' => hk'.elim (h9 k hk) (fun h => h7 k h hk)
  have hn : b ∉ bs := fun h => by
    rcases List.mem_append.1 (hperm.subset h) with h | h
    · exact h3 h
    · exact h1 h
  refine ⟨some b, b :: (bs ++ br), he, ?_, ?_, ?_⟩
  · simp only [pjoin, pjoinIn, hlt, Bool.false_eq_true, if_false]
    exact NodeRep.store hb3 (by simp) hr1 hr3 hn h2
  · refine List.Perm.trans (List.Perm.cons b (hperm.append_right br)) ?_
    rw [List.append_assoc]
    exact List.perm_middle.symm
  · refine Touch.setCell ?_ (fun _ => by simp) _
    exact (hE.touch _).trans' ht fun k _ hk => by rcases hk with hk | hk <;> simp [hk]

set_option maxHeartbeats 1000000 in
theorem join_any : ∀ (a : PT) (v : Option Nat) (ba : List Nat) (b : PT) (v' : Option Nat) (bb : List Nat) (w : World), NodeRep w a v ba → NodeRep w b v' bb → (ba ++ bb).Nodup →
    Calls Try.prog 24 #[ptr v, ptr v'] w (JoinPost a b ba bb w) := by
  intro a
  induction a with
  | nil =>
    intro v ba b v' bb w ⟨hv, hba⟩ hb _
    subst hv hba
    show Calls _ _ #[.pointer none, _] _ _
    go_enter Try.func24, Try.ntmps24
    go_wp2
    go_ret
    exact ⟨v', bb, rfl, hb, List.Perm.refl _, Touch.refl _ _⟩
  | node x y i l r ihl ihr =>
    intro v ba b
    induction b with
    | nil =>
      intro v' bb w ha ⟨hv, hbb⟩ _
      subst hv hbb
      have ha' := ha
      obtain ⟨b, vl, vr, bl, br, hv, hb, hl, hr, hbs⟩ := ha
      subst hv
      show Calls _ _ #[.pointer (some ⟨b, 0, none⟩), .pointer none] _ _
      clear hb hl hr hbs
      go_enter Try.func24, Try.ntmps24
      go_wp2
      go_ret
      exact ⟨some b, ba, rfl, ha', by simp, Touch.refl _ _⟩
    | node x' y' i' l' r' ihl' ihr' =>
      intro v' bb w ha hb hnd
      have ha0 := Lib.hid ha
      have hb0 := Lib.hid hb
      obtain ⟨b, vl, vr, bl, br, hv, hbl, hl, hr, hbs⟩ := ha
      obtain ⟨b', vl', vr', bl', br', hv', hbl', hl', hr', hbs'⟩ := hb
      have HBS := Lib.hid hbs; clear hbs
      have HBS' := Lib.hid hbs'; clear hbs'
      subst hv hv'
      have HND := Lib.hid hnd; clear hnd
      have HB := Lib.hid hbl
      have HB' := Lib.hid hbl'
      show Calls _ _ #[.pointer (some ⟨b, 0, none⟩), .pointer (some ⟨b', 0, none⟩)] _ _
      obtain ⟨c0, c1, c2, c3, c4⟩ := blk5 hbl
      obtain ⟨d0, d1, d2, d3, d4⟩ := blk5 hbl'
      clear hbl hbl'
      go_enter Try.func24, Try.ntmps24
      go_wp2
      refine region_calm [.p 0, .p 1, .p 2, .l 3, .p 4, .p 5, .p 6, .l 7, .h 8 false, .p 9] f_mixed (by kernel_rfl) (by kernel_rfl) ?_
      repeat (first | (refine plan_p rfl (fun K hK => ?_); go_simp; refine hK _ ?_; clear hK K) | (refine plan_l rfl (fun K hK => ?_); go_simp; refine hK _ ?_; clear hK K))
      refine plan_c rfl rfl (fun K _ hK => ?_)
      go_wp2_with fail
      refine (above_any _ _ _ _ _ _ _).mono ?_
      rintro e W2 ⟨rfl, hE2⟩
      have hE3 : Ext w W2 := (Ext.refl w).drew.trans hE2
      have hb2 := Ext.block hE3 HB.out
      have hb2' := Ext.block hE3 HB'.out
      clear c0 c1 c2 c3 c4 d0 d1 d2 d3 d4
      cases hab : aboveB x y i x' y' i'
      · have hnd2 : (b' :: (bl' ++ br') ++ ba).Nodup := by
          have := HND.out
          rw [HBS'.out] at this
          exact (List.perm_append_comm.nodup_iff).1 this
        have hN := nodup3 hnd2
        have HN := Lib.hid hN; clear hN
        obtain ⟨d0, d1, d2, d3, d4⟩ := blk5 hb2'
        have HND2 := Lib.hid hnd2; clear hnd2
        have HAB := Lib.hid hab; clear hab
        clear hb2
        go_wp2
        repeat (first | (refine plan_p rfl (fun K hK => ?_); go_simp; refine hK _ ?_; clear hK K) | (refine plan_l rfl (fun K hK => ?_); go_simp; refine hK _ ?_; clear hK K))
        refine plan_done ?_
        go_wp2_with fail
        refine (ihl' vl' bl' W2 (ha0.out.ext hE3) (hl'.ext hE3) ?_).mono ?_
        · have := HND2.out
          have h2 := HN.out
          refine List.nodup_append.2 ⟨h2.2.2.2.1, h2.2.1, fun k hk c hc e => h2.2.2.2.2.2.1 c hc (e ▸ hk)⟩
        rintro e W3 ⟨v3, bs3, rfl, hr3, hperm, ht⟩
        have hb3 := ht.old hb2' (by rintro (h | h); exact HN.out.1.2.2 h; exact HN.out.1.1 h)
        have hz := blk_frozen hb3 3
        clear d0 d1 d2 d3 d4 hb2'
        obtain ⟨d0, d1, d2, d3, d4⟩ := blk5 hb3
        go_wp2
        go_ret
        rw [HBS'.out]
        exact join_close_left rfl HAB.out hr' hE3 HND2.out hr3 hperm ht hb3
      · have hnd2 : (b :: (bl ++ br) ++ bb).Nodup := by
          have := HND.out
          rw [HBS.out] at this
          exact this
        have hN := nodup3 hnd2
        have HN := Lib.hid hN; clear hN
        obtain ⟨d0, d1, d2, d3, d4⟩ := blk5 hb2
        have HND2 := Lib.hid hnd2; clear hnd2
        have HAB := Lib.hid hab; clear hab
        clear hb2'
        go_wp2
        repeat (first | (refine plan_p rfl (fun K hK => ?_); go_simp; refine hK _ ?_; clear hK K) | (refine plan_l rfl (fun K hK => ?_); go_simp; refine hK _ ?_; clear hK K))
        refine plan_done ?_
        go_wp2_with fail
        refine (ihr vr br (.node x' y' i' l' r') (some b') bb W2 (hr.ext hE3) (hb0.out.ext hE3) ?_).mono ?_
        · have h2 := HN.out
          refine List.nodup_append.2 ⟨h2.2.2.1, h2.2.2.2.1, fun k hk c hc e => h2.2.2.2.2.2.2 k hk (e ▸ hc)⟩
        rintro e W3 ⟨v3, bs3, rfl, hr3, hperm, ht⟩
        have hb3 := ht.old hb2 (by rintro (h | h); exact HN.out.1.2.1 h; exact HN.out.1.2.2 h)
        have hz := blk_frozen hb3 4
        clear d0 d1 d2 d3 d4 hb2
        obtain ⟨d0, d1, d2, d3, d4⟩ := blk5 hb3
        go_wp2
        go_ret
        rw [HBS.out]
        exact join_close_right rfl HAB.out hl hE3 HND2.out hr3 hperm ht hb3

end Go.Proofs.Ytcildmdmgjehbaa
