/- cmp.Compare and cmp.Or at integers. pstree.ahead, above: walked. pstree.split, join: walked. pstree.find, Find: walked. -/
import Derived.Test.YtkejjahlglldlaaProg
import Derived.Test.YtkejjahlglldlaaMA
import Derived.WalkSpells
import Derived.WalkLawsBesides
import Derived.Lib.Hide
namespace Go.Proofs.Ytkejjahlglldlaa.Ps
open Go.RowKit
theorem f_mixed : Try.prog.follows .mixedOrders = true := by kernel_rfl
set_option maxHeartbeats 400000 in
theorem isNaN_any (a : Int) (w : World) :
    Calls Try.prog 87 #[.int .i64 a] w fun e w' => e = .returned (.bool false) ∧ w = w' := by
  go_enter Try.func87, Try.ntmps87
  go_wp2
  go_ret
  exact ⟨by simp, rfl⟩
def cmpI (a b : Int) : Int := if a < b then -1 else if b < a then 1 else 0
set_option maxHeartbeats 400000 in
theorem compare_any (a b : Int) (w : World) :
    Calls Try.prog 48 #[.int .i64 a, .int .i64 b] w fun e w' => e = .returned (.int .i64 (cmpI a b)) ∧ w = w' := by
  go_enter Try.func48, Try.ntmps48
  go_wp2_with (go_at_call 87; refine (isNaN_any _ _).mono ?_; rintro e w' ⟨rfl, rfl⟩)
  all_goals (go_ret; refine ⟨?_, rfl⟩; simp [cmpI, *])
  rw [if_neg (by omega), if_neg (by omega)]
/-- The first number that is not 0. -/
def orL : List Int → Int
  | [] => 0
  | x :: xs => if x = 0 then orL xs else x
theorem orL_zero : ∀ (xs : List Int), (∀ j, j < xs.length → xs[j]?.getD 0 = 0) → orL xs = 0
  | [], _ => rfl
  | x :: xs, h => by
    have h0 : x = 0 := by simpa using h 0 (by simp)
    simp only [orL, h0, if_true]
    exact orL_zero xs fun j hj => by simpa using h (j + 1) (by simp; omega)
theorem orL_at : ∀ (xs : List Int) (k : Nat), k < xs.length → (∀ j, j < k → xs[j]?.getD 0 = 0) → xs[k]?.getD 0 ≠ 0 → orL xs = xs[k]?.getD 0
  | [], k, hk, _, _ => by simp at hk
  | x :: xs, 0, _, _, h => by simp at h; simp [orL, h]
  | x :: xs, k + 1, hk, hz, h => by
    have h0 : x = 0 := by simpa using hz 0 (by omega)
    simp only [orL, h0, if_true]
    rw [orL_at xs k (by simpa using hk) (fun j hj => by simpa using hz (j + 1) (by omega)) (by simpa using h)]
    simp
set_option maxHeartbeats 400000 in
theorem or_any (p : Nat) (xs : List Int) (n : Nat) (w : World) (hn : n = xs.length) (hm : n ≤ 1000) (hc : ∀ j, j < n → w.cell? ⟨p, j, none⟩ = some (.int .i64 (xs[j]?.getD 0))) :
    Calls Try.prog 46 #[.slice (some ⟨p, 0, none⟩) n n] w fun e w' => e = .returned (.int .i64 (orL xs)) ∧ w = w' := by
  have Hn : Hid (n = xs.length) := hn
  clear hn
  have Hc : Hid (∀ j, j < n → w.cell? ⟨p, j, none⟩ = some (.int .i64 (xs[j]?.getD 0))) := hc
  clear hc
  go_enter Try.func46, Try.ntmps46
  go_wp2
  go_loop [8] (fun i => ∃ k : Nat, k ≤ n ∧ i = .int .i64 k ∧ Hid (∀ j, j < k → xs[j]?.getD 0 = 0)) (fun i => n - (intOf i).toNat)
  case atStart => exact ⟨0, Nat.zero_le _, rfl, fun j hj => by omega⟩
  case round =>
    obtain ⟨k, hk, rfl, hz⟩ := hrel
    by_cases hlt : k < n
    · have hcell := Hc.out k hlt
      by_cases h0 : xs[k]?.getD 0 = 0
      · rw [h0] at hcell
        go_wp2
        go_round
        case rel => exact ⟨k + 1, by omega, by go_num, fun j hj => by
          by_cases h : j = k
          · subst h; exact h0
          · exact hz.out j (by omega)⟩
        case measure => simp [intOf]; omega
      · have h0' : (xs[k]?.getD 0 == 0) = false := by simpa using h0
        have h0'' : (xs[k]?.getD 0 != 0) = true := by simpa using h0
        generalize hx : xs[k]?.getD 0 = x at *
        have Hx := Lib.hid hx; clear hx
        go_wp2
        go_ret
        refine ⟨?_, rfl⟩
        rw [orL_at xs k (by rw [← Hn.out]; exact hlt) hz.out (by rw [Hx.out]; exact h0), Hx.out]
        rfl
    · go_wp2
      go_ret
      refine ⟨?_, rfl⟩
      rw [orL_zero xs (fun j hj => hz.out j (by have := Hn.out; omega))]
      rfl
end Go.Proofs.Ytkejjahlglldlaa.Ps
namespace Go.Proofs.Ytkejjahlglldlaa.Ps
open Go.RowKit

abbrev pt (x y i : Int) : Value := .agg #[.int .i64 x, .int .i64 y, .int .i64 i]
def aheadI (x1 i1 x2 i2 : Int) : Int := orL [cmpI x1 x2, cmpI i1 i2]
def aboveB (x1 y1 i1 x2 y2 i2 : Int) : Bool := decide (orL [cmpI y2 y1, aheadI x1 i1 x2 i2] < 0)

set_option maxHeartbeats 400000 in
theorem ahead_any (x1 y1 i1 x2 y2 i2 : Int) (w : World) :
    Calls Try.prog 54 #[pt x1 y1 i1, pt x2 y2 i2] w
     fun e w' => e = .returned (.int .i64 (aheadI x1 i1 x2 i2)) ∧ Ext w w' := by
  go_enter Try.func54, Try.ntmps54
  go_wp2
  refine region_calm [.p 0, .l 1, .p 2, .l 3, .p 5, .l 6, .p 7, .l 8, .h 4 true, .h 9 false, .h 10 false, .h 11 false, .p 12] f_mixed (by kernel_rfl) (by kernel_rfl) ?_
  repeat (first | (refine plan_p rfl (fun K hK => ?_); go_simp; refine hK _ ?_; clear hK K) | (refine plan_l rfl (fun K hK => ?_); go_simp; refine hK _ ?_; clear hK K))
  refine plan_ct rfl rfl (fun K _ hK => ?_)
  go_wp2_with (go_at_call 48; refine (compare_any _ _ _).mono ?_; rintro e w' ⟨rfl, rfl⟩)
  refine hK _ _ (Ext.refl _) ?_; clear hK K
  refine plan_c rfl rfl (fun K _ hK => ?_)
  go_wp2_with (go_at_call 48; refine (compare_any _ _ _).mono ?_; rintro e w' ⟨rfl, rfl⟩)
  refine plan_c rfl rfl (fun K _ hK => ?_)
  go_wp2
  refine plan_c rfl rfl (fun K _ hK => ?_)
  go_wp2_with fail
  refine (or_any _ [cmpI x1 x2, cmpI i1 i2] 2 _ rfl (by omega) ?_).mono ?_
  · intro j hj
    obtain rfl | rfl : j = 0 ∨ j = 1 := by omega
    all_goals go_simp
  rintro e w' ⟨rfl, rfl⟩
  go_wp2
  repeat (first | (refine plan_p rfl (fun K hK => ?_); go_simp; refine hK _ ?_; clear hK K) | (refine plan_l rfl (fun K hK => ?_); go_simp; refine hK _ ?_; clear hK K))
  refine plan_done ?_
  go_wp2
  go_ret
  refine ⟨rfl, ?_⟩
  repeat (first | exact Ext.refl _ | refine Ext.alloc ?_ _ | refine Ext.drew ?_)

set_option maxHeartbeats 400000 in
theorem above_any (x1 y1 i1 x2 y2 i2 : Int) (w : World) :
    Calls Try.prog 53 #[pt x1 y1 i1, pt x2 y2 i2] w
     fun e w' => e = .returned (.bool (aboveB x1 y1 i1 x2 y2 i2)) ∧ Ext w w' := by
  go_enter Try.func53, Try.ntmps53
  go_wp2
  refine region_calm [.p 0, .l 1, .p 2, .l 3, .l 5, .l 6, .h 4 true, .h 7 false, .h 8 false, .h 9 false, .p 10, .p 11] f_mixed (by kernel_rfl) (by kernel_rfl) ?_
  repeat (first | (refine plan_p rfl (fun K hK => ?_); go_simp; refine hK _ ?_; clear hK K) | (refine plan_l rfl (fun K hK => ?_); go_simp; refine hK _ ?_; clear hK K))
  refine plan_ct rfl rfl (fun K _ hK => ?_)
  go_wp2_with (go_at_call 48; refine (compare_any _ _ _).mono ?_; rintro e w' ⟨rfl, rfl⟩)
  refine hK _ _ (Ext.refl _) ?_; clear hK K
  refine plan_at (fun W => Ext w W) (by repeat (first | exact Ext.refl _ | refine Ext.alloc ?_ _ | refine Ext.drew ?_)) ?_
  intro W hE
  refine plan_c rfl rfl (fun K _ hK => ?_)
  go_wp2_with (go_at_call 54; refine (ahead_any _ _ _ _ _ _ _).mono ?_; rintro e w' ⟨rfl, hE2⟩)
  replace hE := hE.trans hE2
  clear hE2
  refine plan_c rfl rfl (fun K _ hK => ?_)
  go_wp2
  refine plan_c rfl rfl (fun K _ hK => ?_)
  go_wp2_with fail
  refine (or_any _ [cmpI y2 y1, aheadI x1 i1 x2 i2] 2 _ rfl (by omega) ?_).mono ?_
  · intro j hj
    obtain rfl | rfl : j = 0 ∨ j = 1 := by omega
    all_goals go_simp
  rintro e w' ⟨rfl, rfl⟩
  go_wp2
  repeat (first | (refine plan_p rfl (fun K hK => ?_); go_simp; refine hK _ ?_; clear hK K) | (refine plan_l rfl (fun K hK => ?_); go_simp; refine hK _ ?_; clear hK K))
  refine plan_done ?_
  go_wp2
  go_ret
  refine ⟨rfl, ?_⟩
  repeat (first | exact hE | refine Ext.alloc ?_ _ | refine Ext.drew ?_)
end Go.Proofs.Ytkejjahlglldlaa.Ps
namespace Go.Proofs.Ytkejjahlglldlaa.Ps
open Go.RowKit

/-- A tree of points. -/
inductive PT where
  | nil
  | node (x y i : Int) (l r : PT)

/-- In W the pointer v leads to the tree; bs: its blocks. -/
def NodeRep (W : World) : PT → Option Nat → List Nat → Prop
  | .nil, v, bs => v = none ∧ bs = []
  | .node x y i l r, v, bs => ∃ b vl vr bl br, v = some b ∧ W.heap[b]? = some (.cells #[.int .i64 x, .int .i64 y, .int .i64 i, ptr vl, ptr vr] 126 (0, 0)) ∧
      NodeRep W l vl bl ∧ NodeRep W r vr br ∧ bs = b :: (bl ++ br)

theorem NodeRep.congr {W W' : World} : ∀ {t : PT} {v : Option Nat} {bs : List Nat}, NodeRep W t v bs → (∀ b, b ∈ bs → W'.heap[b]? = W.heap[b]?) → NodeRep W' t v bs
  | .nil, _, _, h, _ => h
  | .node x y i l r, v, bs, ⟨b, vl, vr, bl, br, hv, hb, hl, hr, hbs⟩, hc =>
    ⟨b, vl, vr, bl, br, hv, by rw [hc b (by simp [hbs])]; exact hb, hl.congr (fun k hk => hc k (by simp [hbs, hk])), hr.congr (fun k hk => hc k (by simp [hbs, hk])), hbs⟩
theorem NodeRep.lt {W : World} : ∀ {t : PT} {v : Option Nat} {bs : List Nat}, NodeRep W t v bs → ∀ b ∈ bs, b < W.heap.size
  | .nil, _, _, ⟨_, rfl⟩, b, hb => by simp at hb
  | .node x y i l r, v, bs, ⟨b, vl, vr, bl, br, hv, hb, hl, hr, hbs⟩, k, hk => by
    subst hbs
    rcases List.mem_cons.1 hk with rfl | hk
    · exact blk_lt hb
    · rcases List.mem_append.1 hk with hk | hk
      · exact hl.lt k hk
      · exact hr.lt k hk
theorem NodeRep.touch {W W' : World} {S : Nat → Prop} {t : PT} {v : Option Nat} {bs : List Nat} (h : NodeRep W t v bs) (ht : Touch S W W') (hn : ∀ b ∈ bs, ¬ S b) : NodeRep W' t v bs :=
  h.congr fun b hb => ht.block b (h.lt b hb) (hn b hb)
theorem NodeRep.ext {W W' : World} {t : PT} {v : Option Nat} {bs : List Nat} (h : NodeRep W t v bs) (ht : Ext W W') : NodeRep W' t v bs :=
  h.congr fun b hb => Below.block ht b (h.lt b hb)

def psplit (px pid : Int) : PT → PT × PT
  | .nil => (.nil, .nil)
  | .node x y i l r =>
    if aheadI x i px pid < 0 then (.node x y i l (psplit px pid r).1, (psplit px pid r).2)
    else ((psplit px pid l).1, .node x y i (psplit px pid l).2 r)

/-- Joining a node's tree (its right side joined by jr) with another. -/
def pjoinIn (jr : PT → PT) (x y i : Int) (l r : PT) : PT → PT
  | .nil => .node x y i l r
  | .node x' y' i' l' r' =>
    if aboveB x y i x' y' i' then .node x y i l (jr (.node x' y' i' l' r'))
    else .node x' y' i' (pjoinIn jr x y i l r l') r'

def pjoin : PT → PT → PT
  | .nil => fun b => b
  | .node x y i l r => pjoinIn (pjoin r) x y i l r

def SplitPost (t : PT) (px pid : Int) (bs : List Nat) (w : World) (e : Ending) (w' : World) : Prop :=
  ∃ v1 v2 b1 b2, e = .returned (.tuple #[ptr v1, ptr v2]) ∧ NodeRep w' (psplit px pid t).1 v1 b1 ∧ NodeRep w' (psplit px pid t).2 v2 b2 ∧ (b1 ++ b2).Perm bs ∧ Touch (fun k => k ∈ bs) w w'

/-- A store of a pointer into a node's left or right cell. -/
theorem NodeRep.store {W : World} {x y i : Int} {vl vr v' : Option Nat} {b : Nat} (hb : W.heap[b]? = some (.cells #[.int .i64 x, .int .i64 y, .int .i64 i, ptr vl, ptr vr] 126 (0, 0)))
    {k : Nat} {vl' vr' : Option Nat} (hk : (#[.int .i64 x, .int .i64 y, .int .i64 i, ptr vl, ptr vr] : Array Value).setIfInBounds k (ptr v') = #[.int .i64 x, .int .i64 y, .int .i64 i, ptr vl', ptr vr'])
    {l r : PT} {bl br : List Nat} (hl : NodeRep W l vl' bl) (hr : NodeRep W r vr' br) (hnl : b ∉ bl) (hnr : b ∉ br) :
    NodeRep (W.setCell ⟨b, k, none⟩ (ptr v')) (.node x y i l r) (some b) (b :: (bl ++ br)) := by
  refine ⟨b, vl', vr', bl, br, rfl, ?_, ?_, ?_, rfl⟩
  · rw [blk_set hb, hk]
  · exact hl.congr fun q hq => Below.heap_setCell _ _ _ _ (fun e => hnl ((show q = b from e) ▸ hq))
  · exact hr.congr fun q hq => Below.heap_setCell _ _ _ _ (fun e => hnr ((show q = b from e) ▸ hq))

theorem NodeRep.setCell_off {W : World} {t : PT} {v : Option Nat} {bs : List Nat} (h : NodeRep W t v bs) {p : Addr} (hn : p.block ∉ bs) (u : Value) : NodeRep (W.setCell p u) t v bs :=
  h.congr fun q hq => Below.heap_setCell _ _ _ _ (fun e => hn (e ▸ hq))

theorem split_close_right {x y i px pid : Int} {l r : PT} {b : Nat} {bl br b1 b2 : List Nat} {vl vr v1 v2 : Option Nat} {w W W3 : World} {e : Ending}
    (he : e = .returned (.tuple #[ptr (some b), ptr v2]))
    (hlt : aheadI x i px pid < 0) (hl : NodeRep w l vl bl) (hE : Ext w W) (hnb : b ∉ bl ∧ b ∉ br) (hd : ∀ a, a ∈ bl → ∀ c, c ∈ br → a ≠ c) (hlb : ∀ k ∈ br, k < w.heap.size)
    (hr1 : NodeRep W3 (psplit px pid r).1 v1 b1) (hr2 : NodeRep W3 (psplit px pid r).2 v2 b2) (hperm : (b1 ++ b2).Perm br) (ht : Touch (fun k => k ∈ br) W W3)
    (hb3 : W3.heap[b]? = some (.cells #[.int .i64 x, .int .i64 y, .int .i64 i, ptr vl, ptr vr] 126 (0, 0))) :
    SplitPost (.node x y i l r) px pid (b :: (bl ++ br)) w e (W3.setCell ⟨b, 4, none⟩ (ptr v1)) := by
  have hl3 : NodeRep W3 l vl bl := (hl.ext hE).touch ht fun k hk hk' => hd k hk k hk' rfl
  have hn1 : b ∉ b1 ∧ b ∉ b2 := by
    constructor
    · exact fun h => hnb.2 (hperm.subset (List.mem_append_left _ h))
    · exact fun h => hnb.2 (hperm.subset (List.mem_append_right _ h))
  refine ⟨some b, v2, b :: (bl ++ b1), b2, he, ?_, ?_, ?_, ?_⟩
  · simp only [psplit, if_pos hlt]
    exact NodeRep.store hb3 (by simp) hl3 hr1 hnb.1 hn1.1
  · simp only [psplit, if_pos hlt]
    exact hr2.setCell_off hn1.2 _
  · simp only [List.cons_append, List.append_assoc]
    exact (List.Perm.append_left bl hperm).cons b
  · refine Touch.setCell ?_ (fun _ => by simp) _
    exact (hE.touch _).trans' ht fun k _ hk => by simp [hk]

theorem split_close_left {x y i px pid : Int} {l r : PT} {b : Nat} {bl br b1 b2 : List Nat} {vl vr v1 v2 : Option Nat} {w W W3 : World} {e : Ending}
    (he : e = .returned (.tuple #[ptr v1, ptr (some b)]))
    (hlt : ¬ aheadI x i px pid < 0) (hr : NodeRep w r vr br) (hE : Ext w W) (hnb : b ∉ bl ∧ b ∉ br) (hd : ∀ a, a ∈ bl → ∀ c, c ∈ br → a ≠ c)
    (hr1 : NodeRep W3 (psplit px pid l).1 v1 b1) (hr2 : NodeRep W3 (psplit px pid l).2 v2 b2) (hperm : (b1 ++ b2).Perm bl) (ht : Touch (fun k => k ∈ bl) W W3)
    (hb3 : W3.heap[b]? = some (.cells #[.int .i64 x, .int .i64 y, .int .i64 i, ptr vl, ptr vr] 126 (0, 0))) :
    SplitPost (.node x y i l r) px pid (b :: (bl ++ br)) w e (W3.setCell ⟨b, 3, none⟩ (ptr v2)) := by
  have hr3 : NodeRep W3 r vr br := (hr.ext hE).touch ht fun k hk hk' => hd k hk' k hk rfl
  have hn1 : b ∉ b1 ∧ b ∉ b2 := by
    constructor
    · exact fun h => hnb.1 (hperm.subset (List.mem_append_left _ h))
    · exact fun h => hnb.1 (hperm.subset (List.mem_append_right _ h))
  refine ⟨v1, some b, b1, b :: (b2 ++ br), he, ?_, ?_, ?_, ?_⟩
  · simp only [psplit, if_neg hlt]
    exact hr1.setCell_off hn1.1 _
  · simp only [psplit, if_neg hlt]
    exact NodeRep.store hb3 (by simp) hr2 hr3 hn1.2 hnb.2
  · refine List.perm_middle.trans (List.Perm.cons b ?_)
    rw [← List.append_assoc]
    exact hperm.append_right br
  · refine Touch.setCell ?_ (fun _ => by simp) _
    exact (hE.touch _).trans' ht fun k _ hk => by simp [hk]

set_option maxHeartbeats 1000000 in
theorem split_any (px py pid : Int) : ∀ (t : PT) (v : Option Nat) (bs : List Nat) (w : World), NodeRep w t v bs → bs.Nodup →
    Calls Try.prog 55 #[ptr v, pt px py pid] w (SplitPost t px pid bs w) := by
  intro t
  induction t with
  | nil =>
    intro v bs w ⟨hv, hbs⟩ _
    subst hv hbs
    show Calls _ _ #[.pointer none, _] _ _
    go_enter Try.func55, Try.ntmps55
    go_wp2
    go_ret2
    exact ⟨none, none, [], [], rfl, ⟨rfl, rfl⟩, ⟨rfl, rfl⟩, List.Perm.refl _, (Touch.refl _ _).alloc _⟩
  | node x y i l r ihl ihr =>
    intro v bs w ⟨b, vl, vr, bl, br, hv, hb, hl, hr, hbs⟩ hnd
    subst hv hbs
    show Calls _ _ #[.pointer (some ⟨b, 0, none⟩), _] _ _
    have hnb : b ∉ bl ∧ b ∉ br := by have := (List.nodup_cons.1 hnd).1; simpa using this
    have hnd2 := List.nodup_append.1 (List.nodup_cons.1 hnd).2
    go_enter Try.func55, Try.ntmps55
    have HNb := Lib.hid hnb; clear hnb
    have HNd2 := Lib.hid hnd2; clear hnd2
    have HNd := Lib.hid hnd; clear hnd
    have HB := Lib.hid hb; clear hb
    go_wp2
    refine wp_at (fun W => Ext w W ∧ W.heap[b]? = some (.cells #[.int .i64 x, .int .i64 y, .int .i64 i, ptr vl, ptr vr] 126 (0, 0)) ∧
      W.heap[w.heap.size]? = some (.cells #[.int .i64 px, .int .i64 py, .int .i64 pid] 55 (0, 0))) ⟨(Ext.refl _).alloc _, blk_alloc HB.out, blk_new _ _⟩ ?_
    rintro W ⟨hE, hb, hp⟩
    obtain ⟨c0, c1, c2, c3, c4⟩ := blk5 hb
    obtain ⟨p0, p1, p2⟩ := blk3 hp
    refine region_calm [.p 0, .p 1, .p 2, .l 3, .l 4, .h 5 false, .p 6, .p 7] f_mixed (by kernel_rfl) (by kernel_rfl) ?_
    repeat (first | (refine plan_p rfl (fun K hK => ?_); go_simp; refine hK _ ?_; clear hK K) | (refine plan_l rfl (fun K hK => ?_); go_simp; refine hK _ ?_; clear hK K))
    refine plan_c rfl rfl (fun K _ hK => ?_)
    go_wp2_with fail
    refine (ahead_any _ _ _ _ _ _ _).mono ?_
    rintro e W2 ⟨rfl, hE2⟩
    by_cases hlt : aheadI x i px pid < 0
    · go_wp2
      repeat (first | (refine plan_p rfl (fun K hK => ?_); go_simp; refine hK _ ?_; clear hK K) | (refine plan_l rfl (fun K hK => ?_); go_simp; refine hK _ ?_; clear hK K))
      refine plan_done ?_
      go_wp2
      have hE3 : Ext w W2 := hE.drew.trans hE2
      have hb2 := Ext.block hE3 HB.out
      have hp2 := Ext.block hE2 (show W.drew.heap[w.heap.size]? = _ from hp)
      clear c0 c1 c2 c3 c4 p0 p1 p2 hb hp
      obtain ⟨c0, c1, c2, c3, c4⟩ := blk5 hb2
      obtain ⟨p0, p1, p2⟩ := blk3 hp2
      refine region_calm [.p 0, .p 1, .p 2, .p 3, .l 4, .l 5, .h 6 false, .p 7, .p 8, .p 9, .p 10, .p 11, .h 12 false, .p 13] f_mixed (by kernel_rfl) (by kernel_rfl) ?_
      repeat (first | (refine plan_p rfl (fun K hK => ?_); go_simp; refine hK _ ?_; clear hK K) | (refine plan_l rfl (fun K hK => ?_); go_simp; refine hK _ ?_; clear hK K))
      refine plan_c rfl rfl (fun K _ hK => ?_)
      go_wp2_with fail
      refine (ihr vr br W2.drew (hr.ext hE3.drew) HNd2.out.2.1).mono ?_
      rintro e W3 ⟨v1, v2, b1, b2, rfl, hr1, hr2, hperm, ht⟩
      have hb3 := ht.old (show W2.drew.heap[b]? = _ from hb2) HNb.out.2
      have hz := blk_frozen hb3 4
      clear c0 c1 c2 c3 c4 hb2
      obtain ⟨c0, c1, c2, c3, c4⟩ := blk5 hb3
      go_wp2
      repeat (first | (refine plan_p rfl (fun K hK => ?_); go_simp; refine hK _ ?_; clear hK K) | (refine plan_l rfl (fun K hK => ?_); go_simp; refine hK _ ?_; clear hK K))
      refine plan_c rfl rfl (fun K _ hK => ?_)
      go_wp2
      repeat (first | (refine plan_p rfl (fun K hK => ?_); go_simp; refine hK _ ?_; clear hK K) | (refine plan_l rfl (fun K hK => ?_); go_simp; refine hK _ ?_; clear hK K))
      refine plan_done ?_
      go_wp2
      go_ret2
      exact split_close_right rfl hlt hl hE3.drew HNb.out HNd2.out.2.2 (fun k hk => hr.lt k hk) hr1 hr2 hperm ht hb3
    · go_wp2
      repeat (first | (refine plan_p rfl (fun K hK => ?_); go_simp; refine hK _ ?_; clear hK K) | (refine plan_l rfl (fun K hK => ?_); go_simp; refine hK _ ?_; clear hK K))
      refine plan_done ?_
      go_wp2
      have hE3 : Ext w W2 := hE.drew.trans hE2
      have hb2 := Ext.block hE3 HB.out
      have hp2 := Ext.block hE2 (show W.drew.heap[w.heap.size]? = _ from hp)
      clear c0 c1 c2 c3 c4 p0 p1 p2 hb hp
      obtain ⟨c0, c1, c2, c3, c4⟩ := blk5 hb2
      obtain ⟨p0, p1, p2⟩ := blk3 hp2
      refine region_calm [.p 0, .p 1, .p 2, .p 3, .l 4, .l 5, .h 6 false, .p 7, .p 8, .p 9, .p 10, .p 11, .p 12, .h 13 false] f_mixed (by kernel_rfl) (by kernel_rfl) ?_
      repeat (first | (refine plan_p rfl (fun K hK => ?_); go_simp; refine hK _ ?_; clear hK K) | (refine plan_l rfl (fun K hK => ?_); go_simp; refine hK _ ?_; clear hK K))
      refine plan_c rfl rfl (fun K _ hK => ?_)
      go_wp2_with fail
      refine (ihl vl bl W2.drew (hl.ext hE3.drew) HNd2.out.1).mono ?_
      rintro e W3 ⟨v1, v2, b1, b2, rfl, hr1, hr2, hperm, ht⟩
      have hb3 := ht.old (show W2.drew.heap[b]? = _ from hb2) HNb.out.1
      have hz := blk_frozen hb3 3
      clear c0 c1 c2 c3 c4 hb2
      obtain ⟨c0, c1, c2, c3, c4⟩ := blk5 hb3
      go_wp2
      repeat (first | (refine plan_p rfl (fun K hK => ?_); go_simp; refine hK _ ?_; clear hK K) | (refine plan_l rfl (fun K hK => ?_); go_simp; refine hK _ ?_; clear hK K))
      refine plan_c rfl rfl (fun K _ hK => ?_)
      go_wp2
      refine plan_done ?_
      go_wp2
      go_ret2
      exact split_close_left rfl (by omega) hr hE3.drew HNb.out HNd2.out.2.2 hr1 hr2 hperm ht hb3

def JoinPost (a b : PT) (ba bb : List Nat) (w : World) (e : Ending) (w' : World) : Prop :=
  ∃ v bs, e = .returned (ptr v) ∧ NodeRep w' (pjoin a b) v bs ∧ bs.Perm (ba ++ bb) ∧ Touch (fun k => k ∈ ba ∨ k ∈ bb) w w'

theorem nodup3 {α : Type} {b : α} {bl br bb : List α} (h : (b :: (bl ++ br) ++ bb).Nodup) :
    (b ∉ bl ∧ b ∉ br ∧ b ∉ bb) ∧ bl.Nodup ∧ br.Nodup ∧ bb.Nodup ∧ (∀ k ∈ bl, k ∉ br) ∧ (∀ k ∈ bl, k ∉ bb) ∧ (∀ k ∈ br, k ∉ bb) := by
  simp only [List.cons_append, List.append_assoc, List.nodup_cons, List.mem_append, not_or, List.nodup_append] at h
  obtain ⟨⟨h1, h2, h3⟩, h4, ⟨h5, h6, h7⟩, h8⟩ := h
  exact ⟨⟨h1, h2, h3⟩, h4, h5, h6, fun k hk hk' => h8 k hk k (.inl hk') rfl, fun k hk hk' => h8 k hk k (.inr hk') rfl, fun k hk hk' => h7 k hk k hk' rfl⟩

theorem join_close_right {x y i x' y' i' : Int} {l r l' r' : PT} {b : Nat} {bl br bb bs : List Nat} {vl vr v : Option Nat} {w W W3 : World} {e : Ending}
    (he : e = .returned (ptr (some b)))
    (hlt : aboveB x y i x' y' i' = true) (hl : NodeRep w l vl bl) (hE : Ext w W) (hd : (b :: (bl ++ br) ++ bb).Nodup)
    (hr1 : NodeRep W3 (pjoin r (.node x' y' i' l' r')) v bs) (hperm : bs.Perm (br ++ bb)) (ht : Touch (fun k => k ∈ br ∨ k ∈ bb) W W3)
    (hb3 : W3.heap[b]? = some (.cells #[.int .i64 x, .int .i64 y, .int .i64 i, ptr vl, ptr vr] 126 (0, 0))) :
    JoinPost (.node x y i l r) (.node x' y' i' l' r') (b :: (bl ++ br)) bb w e (W3.setCell ⟨b, 4, none⟩ (ptr v)) := by
  obtain ⟨⟨h1, h2, h3⟩, h4, h5, h6, h7, h8, h9⟩ := nodup3 hd
  have hl3 : NodeRep W3 l vl bl := (hl.ext hE).touch ht fun k hk hk' => hk'.elim (h7 k hk) (h8 k hk)
  have hn : b ∉ bs := fun h => by
    rcases List.mem_append.1 (hperm.subset h) with h | h
    · exact h2 h
    · exact h3 h
  refine ⟨some b, b :: (bl ++ bs), he, ?_, ?_, ?_⟩
  · simp only [pjoin, pjoinIn, if_pos hlt]
    exact NodeRep.store hb3 (by simp) hl3 hr1 h1 hn
  · simp only [List.cons_append, List.append_assoc]
    exact (List.Perm.append_left bl hperm).cons b
  · refine Touch.setCell ?_ (fun _ => by simp) _
    exact (hE.touch _).trans' ht fun k _ hk => by rcases hk with hk | hk <;> simp [hk]

theorem join_close_left {x y i x' y' i' : Int} {l r l' r' : PT} {b : Nat} {bl br ba bs : List Nat} {vl vr v : Option Nat} {w W W3 : World} {e : Ending}
    (he : e = .returned (ptr (some b)))
    (hlt : aboveB x y i x' y' i' = false) (hr : NodeRep w r' vr br) (hE : Ext w W) (hd : (b :: (bl ++ br) ++ ba).Nodup)
    (hr1 : NodeRep W3 (pjoin (.node x y i l r) l') v bs) (hperm : bs.Perm (ba ++ bl)) (ht : Touch (fun k => k ∈ ba ∨ k ∈ bl) W W3)
    (hb3 : W3.heap[b]? = some (.cells #[.int .i64 x', .int .i64 y', .int .i64 i', ptr vl, ptr vr] 126 (0, 0))) :
    JoinPost (.node x y i l r) (.node x' y' i' l' r') ba (b :: (bl ++ br)) w e (W3.setCell ⟨b, 3, none⟩ (ptr v)) := by
  obtain ⟨⟨h1, h2, h3⟩, h4, h5, h6, h7, h8, h9⟩ := nodup3 hd
  have hr3 : NodeRep W3 r' vr br := (hr.ext hE).touch ht fun k hk hk' => hk'.elim (h9 k hk) (fun h => h7 k h hk)
  have hn : b ∉ bs := fun h => by
    rcases List.mem_append.1 (hperm.subset h) with h | h
    · exact h3 h
    · exact h1 h
  refine ⟨some b, b :: (bs ++ br), he, ?_, ?_, ?_⟩
  · simp only [pjoin, pjoinIn, hlt, Bool.false_eq_true, if_false]
    exact NodeRep.store hb3 (by simp) hr1 hr3 hn h2
  · refine List.Perm.trans (List.Perm.cons b (hperm.append_right br)) ?_
    rw [List.append_assoc]
    exact List.perm_middle.symm
  · refine Touch.setCell ?_ (fun _ => by simp) _
    exact (hE.touch _).trans' ht fun k _ hk => by rcases hk with hk | hk <;> simp [hk]

set_option maxHeartbeats 1000000 in
theorem join_any : ∀ (a : PT) (v : Option Nat) (ba : List Nat) (b : PT) (v' : Option Nat) (bb : List Nat) (w : World), NodeRep w a v ba → NodeRep w b v' bb → (ba ++ bb).Nodup →
    Calls Try.prog 56 #[ptr v, ptr v'] w (JoinPost a b ba bb w) := by
  intro a
  induction a with
  | nil =>
    intro v ba b v' bb w ⟨hv, hba⟩ hb _
    subst hv hba
    show Calls _ _ #[.pointer none, _] _ _
    go_enter Try.func56, Try.ntmps56
    go_wp2
    go_ret
    exact ⟨v', bb, rfl, hb, List.Perm.refl _, Touch.refl _ _⟩
  | node x y i l r ihl ihr =>
    intro v ba b
    induction b with
    | nil =>
      intro v' bb w ha ⟨hv, hbb⟩ _
      subst hv hbb
      have ha' := ha
      obtain ⟨b, vl, vr, bl, br, hv, hb, hl, hr, hbs⟩ := ha
      subst hv
      show Calls _ _ #[.pointer (some ⟨b, 0, none⟩), .pointer none] _ _
      clear hb hl hr hbs
      go_enter Try.func56, Try.ntmps56
      go_wp2
      go_ret
      exact ⟨some b, ba, rfl, ha', by simp, Touch.refl _ _⟩
    | node x' y' i' l' r' ihl' ihr' =>
      intro v' bb w ha hb hnd
      have ha0 := Lib.hid ha
      have hb0 := Lib.hid hb
      obtain ⟨b, vl, vr, bl, br, hv, hbl, hl, hr, hbs⟩ := ha
      obtain ⟨b', vl', vr', bl', br', hv', hbl', hl', hr', hbs'⟩ := hb
      have HBS := Lib.hid hbs; clear hbs
      have HBS' := Lib.hid hbs'; clear hbs'
      subst hv hv'
      have HND := Lib.hid hnd; clear hnd
      have HB := Lib.hid hbl
      have HB' := Lib.hid hbl'
      show Calls _ _ #[.pointer (some ⟨b, 0, none⟩), .pointer (some ⟨b', 0, none⟩)] _ _
      obtain ⟨c0, c1, c2, c3, c4⟩ := blk5 hbl
      obtain ⟨d0, d1, d2, d3, d4⟩ := blk5 hbl'
      clear hbl hbl'
      go_enter Try.func56, Try.ntmps56
      go_wp2
      refine region_calm [.p 0, .p 1, .p 2, .l 3, .p 4, .p 5, .p 6, .l 7, .h 8 false, .p 9] f_mixed (by kernel_rfl) (by kernel_rfl) ?_
      repeat (first | (refine plan_p rfl (fun K hK => ?_); go_simp; refine hK _ ?_; clear hK K) | (refine plan_l rfl (fun K hK => ?_); go_simp; refine hK _ ?_; clear hK K))
      refine plan_c rfl rfl (fun K _ hK => ?_)
      go_wp2_with fail
      refine (above_any _ _ _ _ _ _ _).mono ?_
      rintro e W2 ⟨rfl, hE2⟩
      have hE3 : Ext w W2 := (Ext.refl w).drew.trans hE2
      have hb2 := Ext.block hE3 HB.out
      have hb2' := Ext.block hE3 HB'.out
      clear c0 c1 c2 c3 c4 d0 d1 d2 d3 d4
      cases hab : aboveB x y i x' y' i'
      · have hnd2 : (b' :: (bl' ++ br') ++ ba).Nodup := by
          have := HND.out
          rw [HBS'.out] at this
          exact (List.perm_append_comm.nodup_iff).1 this
        have hN := nodup3 hnd2
        have HN := Lib.hid hN; clear hN
        obtain ⟨d0, d1, d2, d3, d4⟩ := blk5 hb2'
        have HND2 := Lib.hid hnd2; clear hnd2
        have HAB := Lib.hid hab; clear hab
        clear hb2
        go_wp2
        repeat (first | (refine plan_p rfl (fun K hK => ?_); go_simp; refine hK _ ?_; clear hK K) | (refine plan_l rfl (fun K hK => ?_); go_simp; refine hK _ ?_; clear hK K))
        refine plan_done ?_
        go_wp2_with fail
        refine (ihl' vl' bl' W2 (ha0.out.ext hE3) (hl'.ext hE3) ?_).mono ?_
        · have := HND2.out
          have h2 := HN.out
          refine List.nodup_append.2 ⟨h2.2.2.2.1, h2.2.1, fun k hk c hc e => h2.2.2.2.2.2.1 c hc (e ▸ hk)⟩
        rintro e W3 ⟨v3, bs3, rfl, hr3, hperm, ht⟩
        have hb3 := ht.old hb2' (by rintro (h | h); exact HN.out.1.2.2 h; exact HN.out.1.1 h)
        have hz := blk_frozen hb3 3
        clear d0 d1 d2 d3 d4 hb2'
        obtain ⟨d0, d1, d2, d3, d4⟩ := blk5 hb3
        go_wp2
        go_ret
        rw [HBS'.out]
        exact join_close_left rfl HAB.out hr' hE3 HND2.out hr3 hperm ht hb3
      · have hnd2 : (b :: (bl ++ br) ++ bb).Nodup := by
          have := HND.out
          rw [HBS.out] at this
          exact this
        have hN := nodup3 hnd2
        have HN := Lib.hid hN; clear hN
        obtain ⟨d0, d1, d2, d3, d4⟩ := blk5 hb2
        have HND2 := Lib.hid hnd2; clear hnd2
        have HAB := Lib.hid hab; clear hab
        clear hb2'
        go_wp2
        repeat (first | (refine plan_p rfl (fun K hK => ?_); go_simp; refine hK _ ?_; clear hK K) | (refine plan_l rfl (fun K hK => ?_); go_simp; refine hK _ ?_; clear hK K))
        refine plan_done ?_
        go_wp2_with fail
        refine (ihr vr br (.node x' y' i' l' r') (some b') bb W2 (hr.ext hE3) (hb0.out.ext hE3) ?_).mono ?_
        · have h2 := HN.out
          refine List.nodup_append.2 ⟨h2.2.2.1, h2.2.2.2.1, fun k hk c hc e => h2.2.2.2.2.2.2 k hk (e ▸ hc)⟩
        rintro e W3 ⟨v3, bs3, rfl, hr3, hperm, ht⟩
        have hb3 := ht.old hb2 (by rintro (h | h); exact HN.out.1.2.1 h; exact HN.out.1.2.2 h)
        have hz := blk_frozen hb3 4
        clear d0 d1 d2 d3 d4 hb2
        obtain ⟨d0, d1, d2, d3, d4⟩ := blk5 hb3
        go_wp2
        go_ret
        rw [HBS.out]
        exact join_close_right rfl HAB.out hl hE3 HND2.out hr3 hperm ht hb3

end Go.Proofs.Ytkejjahlglldlaa.Ps
namespace Go.Proofs.Ytkejjahlglldlaa.Ps
open Go.RowKit

theorem ei_point : EI Try.prog 60 55 3 24 :=
  ⟨Try.underlying60, by
    obtain ⟨i, h1, h2, h3, h4⟩ := info_parts (P := Try.prog) (e := 55) (z := .agg #[.int .i64 0, .int .i64 0, .int .i64 0]) (size := 3) (bytes := 24) (by kernel_rfl)
    exact ⟨i, _, h1, h2, h3, h4, rfl⟩, by omega, by omega⟩

/-- The cells of points. -/
def flatP : List (Int × Int × Int) → List Value
  | [] => []
  | p :: ps => .int .i64 p.1 :: .int .i64 p.2.1 :: .int .i64 p.2.2 :: flatP ps
theorem flatP_append : ∀ (ps qs : List (Int × Int × Int)), flatP (ps ++ qs) = flatP ps ++ flatP qs
  | [], _ => rfl
  | p :: ps, qs => by simp [flatP, flatP_append ps qs]
theorem flatP_length : ∀ (ps : List (Int × Int × Int)), (flatP ps).length = ps.length * 3
  | [] => rfl
  | p :: ps => by simp [flatP, flatP_length ps]; omega

def PT.count : PT → Nat
  | .nil => 0
  | .node _ _ _ l r => l.count + 1 + r.count

def pfind (low high least : Int) : PT → List (Int × Int × Int)
  | .nil => []
  | .node x y i l r => if y < least then [] else
    (if low ≤ x then pfind low high least l else []) ++ (if low ≤ x ∧ x ≤ high then [(x, y, i)] else []) ++ (if x ≤ high then pfind low high least r else [])

theorem pfind_length (low high least : Int) : ∀ t : PT, (pfind low high least t).length ≤ t.count
  | .nil => Nat.le_refl _
  | .node x y i l r => by
    have h1 := pfind_length low high least l
    have h2 := pfind_length low high least r
    unfold pfind PT.count
    split
    · simp
    · simp only [List.length_append]
      have h3 : (if low ≤ x then pfind low high least l else []).length ≤ l.count := by split; exact h1; simp
      have h4 : (if x ≤ high then pfind low high least r else []).length ≤ r.count := by split; exact h2; simp
      have h5 : (if low ≤ x ∧ x ≤ high then [(x, y, i)] else []).length ≤ 1 := by split <;> simp
      omega

/-- The slice variable at block o holds the points qs. -/
def OutIs (w : World) (o : Nat) (qs : List (Int × Int × Int)) : Prop :=
  ∃ g cap, w.heap[o]? = some (.cells #[slv g qs.length cap] 60 (0, 0)) ∧ Sl w 55 3 g qs.length cap (flatP qs) ∧ ∀ b, g = some b → o < b
def FindPost (o : Nat) (qs : List (Int × Int × Int)) (w : World) (e : Ending) (w' : World) : Prop :=
  e = .returned (.tuple #[]) ∧ OutIs w' o qs ∧ Below o w w'

theorem NodeRep.below {W W' : World} {o : Nat} {t : PT} {v : Option Nat} {bs : List Nat} (h : NodeRep W t v bs) (hb : ∀ b ∈ bs, b < o) (ht : Below o W W') : NodeRep W' t v bs :=
  h.congr fun b hm => Below.block ht b (hb b hm)

set_option maxHeartbeats 1000000 in
theorem find_any (low high least : Int) : ∀ (t : PT) (v : Option Nat) (bs : List Nat) (w : World) (o : Nat) (ps : List (Int × Int × Int)), NodeRep w t v bs → (∀ b ∈ bs, b < o) → OutIs w o ps →
    (ps.length + t.count) * 24 ≤ 140737488355328 →
    Calls Try.prog 60 #[ptr v, .int .i64 low, .int .i64 high, .int .i64 least, .pointer (some ⟨o, 0, none⟩)] w (FindPost o (ps ++ pfind low high least t) w) := by
  intro t
  induction t with
  | nil =>
    intro v bs w o ps ⟨hv, hbs⟩ _ ho _
    subst hv hbs
    show Calls _ _ #[.pointer none, _, _, _, _] _ _
    have HO := Lib.hid ho; clear ho
    go_enter Try.func60, Try.ntmps60
    go_wp2
    (try simp only [Exit.inBlock, Exit.then]); refine bodyPost_ret (results_none rfl _ _ _) rfl ?_
    exact ⟨rfl, by simpa [pfind] using HO.out, Below.refl _ _⟩
  | node x y i l r ihl ihr =>
    intro v bs w o ps ⟨b, vl, vr, bl, br, hv, hb, hl, hr, hbs⟩ hlt ho hsz
    subst hv
    show Calls _ _ #[.pointer (some ⟨b, 0, none⟩), _, _, _, _] _ _
    have IHL := Lib.hid ihl; clear ihl
    have IHR := Lib.hid ihr; clear ihr
    have HB := Lib.hid hb
    have HO := Lib.hid ho; clear ho
    have hbo : b < o := hlt b (by simp [hbs])
    have HL : Hid (∀ b ∈ bl, b < o) := fun k hk => hlt k (by simp [hbs, hk])
    have HR : Hid (∀ b ∈ br, b < o) := fun k hk => hlt k (by simp [hbs, hk])
    clear hlt hbs
    have HSZ := Lib.hid hsz; clear hsz
    have hcl := pfind_length low high least l
    have HC := Lib.hid hcl; clear hcl
    obtain ⟨c0, c1, c2, c3, c4⟩ := blk5 hb
    clear hb
    by_cases h1 : y < least
    · go_enter Try.func60, Try.ntmps60
      go_wp2
      (try simp only [Exit.inBlock, Exit.then]); refine bodyPost_ret (results_none rfl _ _ _) rfl ?_
      refine ⟨rfl, ?_, Below.refl _ _⟩
      have : pfind low high least (.node x y i l r) = [] := by simp [pfind, h1]
      rw [this, List.append_nil]
      exact HO.out
    by_cases h2 : low ≤ x
    · by_cases h3 : x ≤ high
      · have he : pfind low high least (.node x y i l r) = pfind low high least l ++ ([(x, y, i)] ++ pfind low high least r) := by simp [pfind, h1, h2, h3]
        have HE := Lib.hid he; clear he
        go_enter Try.func60, Try.ntmps60
        go_wp2_with fail
        refine (IHL.out vl bl w o ps hl HL.out HO.out (by have := HSZ.out; simp only [PT.count] at this; omega)).mono ?_
        rintro e w1 ⟨rfl, ⟨g1, cap1, ho1, hS1, hg1⟩, hB1⟩
        have hb1 : w1.heap[b]? = _ := (Below.block hB1 b hbo).trans HB.out
        clear c0 c1 c2 c3 c4
        obtain ⟨c0, c1, c2, c3, c4⟩ := blk5 hb1
        have d0 := blk1 ho1
        have HS1 := Lib.hid hS1; clear hS1
        have HG1 := Lib.hid hg1; clear hg1
        generalize hqs : ps ++ pfind low high least l = qs at *
        have HQ := Lib.hid hqs; clear hqs
        go_wp2
        refine region_calm [.p 0, .p 1, .p 2, .l 3, .p 4, .p 5, .p 6, .l 7, .h 8 true, .h 9 false, .p 10, .h 11 false] f_mixed (by kernel_rfl) (by kernel_rfl) ?_
        repeat (first | (refine plan_p rfl (fun K hK => ?_); go_simp; refine hK _ ?_; clear hK K) | (refine plan_l rfl (fun K hK => ?_); go_simp; refine hK _ ?_; clear hK K))
        refine plan_ct rfl rfl (fun K _ hK => ?_)
        go_wp2
        refine hK _ _ ((Ext.refl w1.drew).alloc _) ?_; clear hK K
        refine plan_c rfl rfl (fun K _ hK => ?_)
        refine app_lit ei_point rfl (.tmp 56) (.tmp 61) rfl (g := g1) (n := qs.length) (cap := cap1) (by rfl) (HS1.out.ext ((Ext.refl w1).alloc _).drew) (by rfl) rfl (blk_new w1 _) (by simp [Value.oneCell']) (by omega)
          (by have h1 := HSZ.out; have h2 := HC.out; have h3 := congrArg List.length HQ.out; simp only [PT.count, List.length_append] at h1 h3; omega) ?_
        intro g2 cap2 w2 hS2 hT2 hat2
        have HS2 := Lib.hid hS2; clear hS2
        have hTo : Below o w w2 := by
          exact hB1.trans (((Below.refl o w1).alloc (by have := blk_lt ho1; omega) (.cells #[.int .i64 x, .int .i64 y, .int .i64 i] 55)).drew.trans
            (hT2.below (by have := blk_lt ho1; simp; omega) (fun k hk => by have := HG1.out k hk; omega)))
        have ho2 : w2.heap[o]? = _ := hT2.old (show ((w1.alloc (.cells #[.int .i64 x, .int .i64 y, .int .i64 i] 55)).drew).heap[o]? = _ from blk_alloc ho1) (fun hk => by have := HG1.out o hk; omega)
        have hlt2 : o < g2 := by
          rcases hat2 with h | h
          · exact HG1.out g2 h
          · have := blk_lt ho1; simp at h; omega
        clear hat2
        have HT2 := Lib.hid hT2; clear hT2
        have HTo := Lib.hid hTo; clear hTo
        clear d0
        have d0 := blk1 ho2
        have hz := blk_frozen ho2 0
        go_wp2
        repeat (first | (refine plan_p rfl (fun K hK => ?_); go_simp; refine hK _ ?_; clear hK K) | (refine plan_l rfl (fun K hK => ?_); go_simp; refine hK _ ?_; clear hK K))
        refine plan_c rfl rfl (fun K _ hK => ?_)
        go_wp2
        refine plan_at (fun W => Below o w W ∧ OutIs W o (qs ++ [(x, y, i)])) ⟨HTo.out.setCell (p := ⟨o, 0, none⟩) (by simp) _, some g2, cap2, ?_, ?_, ?_⟩ ?_
        · rw [blk_set ho2]; simp [adr]
        · rw [flatP_append, List.length_append]
          exact HS2.out.congr fun k hk => Below.heap_setCell _ _ _ _ (by cases hk; simp; omega)
        · intro k hk; cases hk; exact hlt2
        rintro W3 ⟨hB3, hO3⟩
        clear c0 c1 c2 c3 c4 d0 hz ho2 hlt2
        have hb3 : W3.heap[b]? = _ := (Below.block hB3 b hbo).trans HB.out
        obtain ⟨c0, c1, c2, c3, c4⟩ := blk5 hb3
        have HO3 := Lib.hid hO3; clear hO3
        refine plan_done ?_
        go_wp2_with fail
        refine (IHR.out vr br W3 o (qs ++ [(x, y, i)]) (hr.below HR.out hB3) HR.out HO3.out (by have h1 := HSZ.out; have h2 := HC.out; have h3 := congrArg List.length HQ.out; simp only [PT.count, List.length_append, List.length_cons, List.length_nil] at h1 h3 ⊢; omega)).mono ?_
        rintro e w4 ⟨rfl, hO4, hB4⟩
        have HO4 := Lib.hid hO4; clear hO4
        go_wp2
        go_end0
        refine ⟨rfl, ?_, hB3.trans hB4⟩
        rw [HE.out, ← List.append_assoc, HQ.out, ← List.append_assoc]
        exact HO4.out
      · have he : pfind low high least (.node x y i l r) = pfind low high least l := by simp [pfind, h1, h2, h3]
        have HE := Lib.hid he; clear he
        go_enter Try.func60, Try.ntmps60
        go_wp2_with fail
        refine (IHL.out vl bl w o ps hl HL.out HO.out (by have := HSZ.out; simp only [PT.count] at this; omega)).mono ?_
        rintro e w1 ⟨rfl, hO1, hB1⟩
        have hb1 : w1.heap[b]? = _ := (Below.block hB1 b hbo).trans HB.out
        clear c0 c1 c2 c3 c4
        obtain ⟨c0, c1, c2, c3, c4⟩ := blk5 hb1
        have HO1 := Lib.hid hO1; clear hO1
        go_wp2
        go_end0
        refine ⟨rfl, ?_, hB1⟩
        rw [HE.out]
        exact HO1.out
    · by_cases h3 : x ≤ high
      · have he : pfind low high least (.node x y i l r) = pfind low high least r := by simp [pfind, h1, h2, h3]
        have HE := Lib.hid he; clear he
        go_enter Try.func60, Try.ntmps60
        go_wp2_with fail
        refine (IHR.out vr br w o ps hr HR.out HO.out (by have := HSZ.out; simp only [PT.count] at this; omega)).mono ?_
        rintro e w1 ⟨rfl, hO1, hB1⟩
        have HO1 := Lib.hid hO1; clear hO1
        go_wp2
        go_end0
        refine ⟨rfl, ?_, hB1⟩
        rw [HE.out]
        exact HO1.out
      · have he : pfind low high least (.node x y i l r) = [] := by simp [pfind, h1, h2, h3]
        have HE := Lib.hid he; clear he
        go_enter Try.func60, Try.ntmps60
        go_wp2
        go_end0
        refine ⟨rfl, ?_, Below.refl _ _⟩
        rw [HE.out, List.append_nil]
        exact HO.out

/-- The fields of a tree: its root, its map. -/
def TreeAt (w : World) (tb : Nat) (v : Option Nat) (m : Nat) : Prop :=
  w.heap[tb]? = some (.cells #[ptr v, .map (some m)] 117 (0, 0))

/-- A new slice of points. -/
def PointsPost (qs : List (Int × Int × Int)) (w : World) (e : Ending) (w' : World) : Prop :=
  ∃ g cap, e = .returned (slv g qs.length cap) ∧ Sl w' 55 3 g qs.length cap (flatP qs) ∧ (∀ b, g = some b → w.heap.size ≤ b) ∧ Ext w w'

set_option maxHeartbeats 1000000 in
theorem Find_any (low high least : Int) (t : PT) (v : Option Nat) (bs : List Nat) (tb m : Nat) (w : World) (ht : TreeAt w tb v m) (hr : NodeRep w t v bs) (hsz : t.count * 24 ≤ 140737488355328) :
    Calls Try.prog 22 #[.pointer (some ⟨tb, 0, none⟩), .int .i64 low, .int .i64 high, .int .i64 least] w (PointsPost (pfind low high least t) w) := by
  have HT := Lib.hid ht
  have HSZ := Lib.hid hsz; clear hsz
  obtain ⟨c0, c1⟩ := blk2 ht
  have htb := blk_lt ht
  clear ht
  go_enter Try.func22, Try.ntmps22
  go_wp2_with fail
  refine (find_any low high least t v bs _ w.heap.size [] (hr.ext ((Ext.refl w).alloc _)) hr.lt ⟨none, 0, blk_new _ _, Sl.nil _ _ _, fun b h => by cases h⟩ (by simpa using HSZ.out)).mono ?_
  rintro e w1 ⟨rfl, ⟨g, cap, ho, hS, hg⟩, hB⟩
  have d0 := blk1 ho
  simp only [List.nil_append] at hS d0 ho
  have HS := Lib.hid hS; clear hS
  have HG := Lib.hid hg; clear hg
  clear c0 c1 ho
  go_wp2
  go_ret
  exact ⟨g, cap, rfl, HS.out, fun b hb => by have := HG.out b hb; omega, ((Ext.refl w).alloc _).trans' hB⟩

end Go.Proofs.Ytkejjahlglldlaa.Ps
