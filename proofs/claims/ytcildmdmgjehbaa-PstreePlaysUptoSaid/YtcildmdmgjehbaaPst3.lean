/- pstree.find, Find: walked. -/
import Derived.Test.YtcildmdmgjehbaaPst2
namespace Go.Proofs.Ytcildmdmgjehbaa
open Go.RowKit

theorem ei_point : EI Try.prog 33 31 3 24 :=
  ⟨Try.underlying33, by
    obtain ⟨i, h1, h2, h3, h4⟩ := info_parts (P := Try.prog) (e := 31) (z := .agg #[.int .i64 0, .int .i64 0, .int .i64 0]) (size := 3) (bytes := 24) (by kernel_rfl)
    exact ⟨i, _, h1, h2, h3, h4, rfl⟩, by omega, by omega⟩

/-- The cells of points. -/
def flatP : List (Int × Int × Int) → List Value
  | [] => []
  | p :: ps => .int .i64 p.1 :: .int .i64 p.2.1 :: .int .i64 p.2.2 :: flatP ps
theorem flatP_append : ∀ (ps qs : List (Int × Int × Int)), flatP (ps ++ qs) = flatP ps ++ flatP qs
  | [], _ => rfl
  | p :: ps, qs => by simp [flatP, flatP_append ps qs]
theorem flatP_length : ∀ (ps : List (Int × Int × Int)), (flatP ps).length = ps.length * 3
  | [] => rfl
  | p :: ps => by simp [flatP, flatP_length ps]; omega

def PT.count : PT → Nat
  | .nil => 0
  | .node _ _ _ l r => l.count + 1 + r.count

def pfind (low high least : Int) : PT → List (Int × Int × Int)
  | .nil => []
  | .node x y i l r => if y < least then [] else
    (if low ≤ x then pfind low high least l else []) ++ (if low ≤ x ∧ x ≤ high then [(x, y, i)] else []) ++ (if x ≤ high then pfind low high least r else [])

theorem pfind_length (low high least : Int) : ∀ t : PT, (pfind low high least t).length ≤ t.count
  | .nil => Nat.le_refl _
  | .node x y i l r => by
    have h1 := pfind_length low high least l
    have h2 := pfind_length low high least r
    unfold pfind PT.count
    split
    · simp
    · simp only [List.length_append]
      have h3 : (if low ≤ x then pfind low high least l else []).length ≤ l.count := by split; exact h1; simp
      have h4 : (if x ≤ high then pfind low high least r else []).length ≤ r.count := by split; exact h2; simp
      have h5 : (if low ≤ x ∧ x ≤ high then [(x, y, i)] else []).length ≤ 1 := by split <;> simp
      omega

/-- The slice variable at block o holds the points qs. -/
def OutIs (w : World) (o : Nat) (qs : List (Int × Int × Int)) : Prop :=
  ∃ g cap, w.heap[o]? = some (.cells #[slv g qs.length cap] 33 (0, 0)) ∧ Sl w 31 3 g qs.length cap (flatP qs) ∧ ∀ b, g = some b → o < b
def FindPost (o : Nat) (qs : List (Int × Int × Int)) (w : World) (e : Ending) (w' : World) : Prop :=
  e = .returned (.tuple #[]) ∧ OutIs w' o qs ∧ Below o w w'

theorem NodeRep.below {W W' : World} {o : Nat} {t : PT} {v : Option Nat} {bs : List Nat} (h : NodeRep W t v bs) (hb : ∀ b ∈ bs, b < o) (ht : Below o W W') : NodeRep W' t v bs :=
  h.congr fun b hm => Below.block ht b (hb b hm)

set_option maxHeartbeats 1000000 in
theorem find_any (low high least : Int) : ∀ (t : PT) (v : Option Nat) (bs : List Nat) (w : World) (o : Nat) (ps : List (Int × Int × Int)), NodeRep w t v bs → (∀ b ∈ bs, b < o) → OutIs w o ps →
    (ps.length + t.count) * 24 ≤ 140737488355328 →
    Calls Try.prog 19 #[ptr v, .int .i64 low, .int .i64 high, .int .i64 least, .pointer (some ⟨o, 0, none⟩)] w (FindPost o (ps ++ pfind low high least t) w) := by
  intro t
  induction t with
  | nil =>
    intro v bs w o ps ⟨hv, hbs⟩ _ ho _
    subst hv hbs
    show Calls _ _ #[.pointer none, _, _, _, _] _ _
    have HO := Lib.hid ho; clear ho
    go_enter Try.func19, Try.ntmps19
    go_wp2
    (try simp only [Exit.inBlock, Exit.then]); refine bodyPost_ret (results_none rfl _ _ _) rfl ?_
    exact ⟨rfl, by simpa [pfind] using HO.out, Below.refl _ _⟩
  | node x y i l r ihl ihr =>
    intro v bs w o ps ⟨b, vl, vr, bl, br, hv, hb, hl, hr, hbs⟩ hlt ho hsz
    subst hv
    show Calls _ _ #[.pointer (some ⟨b, 0, none⟩), _, _, _, _] _ _
    have IHL := Lib.hid ihl; clear ihl
    have IHR := Lib.hid ihr; clear ihr
    have HB := Lib.hid hb
    have HO := Lib.hid ho; clear ho
    have hbo : b < o := hlt b (by simp [hbs])
    have HL : Hid (∀ b ∈ bl, b < o) := fun k hk => hlt k (by simp [hbs, hk])
    have HR : Hid (∀ b ∈ br, b < o) := fun k hk => hlt k (by simp [hbs, hk])
    clear hlt hbs
    have HSZ := Lib.hid hsz; clear hsz
    have hcl := pfind_length low high least l
    have HC := Lib.hid hcl; clear hcl
    obtain ⟨c0, c1, c2, c3, c4⟩ := blk5 hb
    clear hb
    by_cases h1 : y < least
    · go_enter Try.func19, Try.ntmps19
      go_wp2
      (try simp only [Exit.inBlock, Exit.then]); refine bodyPost_ret (results_none rfl _ _ _) rfl ?_
      refine ⟨rfl, ?_, Below.refl _ _⟩
      have : pfind low high least (.node x y i l r) = [] := by simp [pfind, h1]
      rw [this, List.append_nil]
      exact HO.out
    by_cases h2 : low ≤ x
    · by_cases h3 : x ≤ high
      · have he : pfind low high least (.node x y i l r) = pfind low high least l ++ ([(x, y, i)] ++ pfind low high least r) := by simp [pfind, h1, h2, h3]
        have HE := Lib.hid he; clear he
        go_enter Try.func19, Try.ntmps19
        go_wp2_with fail
        refine (IHL.out vl bl w o ps hl HL.out HO.out (by have := HSZ.out; simp only [PT.count] at this; omega)).mono ?_
        rintro e w1 ⟨rfl, ⟨g1, cap1, ho1, hS1, hg1⟩, hB1⟩
        have hb1 : w1.heap[b]? = _ := (Below.block hB1 b hbo).trans HB.out
        clear c0 c1 c2 c3 c4
        obtain ⟨c0, c1, c2, c3, c4⟩ := blk5 hb1
        have d0 := blk1 ho1
        have HS1 := Lib.hid hS1; clear hS1
        have HG1 := Lib.hid hg1; clear hg1
        generalize hqs : ps ++ pfind low high least l = qs at *
        have HQ := Lib.hid hqs; clear hqs
        go_wp2
        refine region_calm [.p 0, .p 1, .p 2, .l 3, .p 4, .p 5, .p 6, .l 7, .h 8 true, .h 9 false, .p 10, .h 11 false] f_mixed (by kernel_rfl) (by kernel_rfl) ?_
        repeat (first | (refine plan_p rfl (fun K hK => ?_); go_simp; refine hK _ ?_; clear hK K) | (refine plan_l rfl (fun K hK => ?_); go_simp; refine hK _ ?_; clear hK K))
        refine plan_ct rfl rfl (fun K _ hK => ?_)
        go_wp2
        refine hK _ _ ((Ext.refl w1.drew).alloc _) ?_; clear hK K
        refine plan_c rfl rfl (fun K _ hK => ?_)
        refine app_lit ei_point rfl (.tmp 56) (.tmp 61) rfl (g := g1) (n := qs.length) (cap := cap1) (by rfl) (HS1.out.ext ((Ext.refl w1).alloc _).drew) (by rfl) rfl (blk_new w1 _) (by simp [Value.oneCell']) (by omega)
          (by have h1 := HSZ.out; have h2 := HC.out; have h3 := congrArg List.length HQ.out; simp only [PT.count, List.length_append] at h1 h3; omega) ?_
        intro g2 cap2 w2 hS2 hT2 hat2
        have HS2 := Lib.hid hS2; clear hS2
        have hTo : Below o w w2 := by
          exact hB1.trans (((Below.refl o w1).alloc (by have := blk_lt ho1; omega) (.cells #[.int .i64 x, .int .i64 y, .int .i64 i] 31)).drew.trans
            (hT2.below (by have := blk_lt ho1; simp; omega) (fun k hk => by have := HG1.out k hk; omega)))
        have ho2 : w2.heap[o]? = _ := hT2.old (show ((w1.alloc (.cells #[.int .i64 x, .int .i64 y, .int .i64 i] 31)).drew).heap[o]? = _ from blk_alloc ho1) (fun hk => by have := HG1.out o hk; omega)
        have hlt2 : o < g2 := by
          rcases hat2 with h | h
          · exact HG1.out g2 h
          · have := blk_lt ho1; simp at h; omega
        clear hat2
        have HT2 := Lib.hid hT2; clear hT2
        have HTo := Lib.hid hTo; clear hTo
        clear d0
        have d0 := blk1 ho2
        have hz := blk_frozen ho2 0
        go_wp2
        repeat (first | (refine plan_p rfl (fun K hK => ?_); go_simp; refine hK _ ?_; clear hK K) | (refine plan_l rfl (fun K hK => ?_); go_simp; refine hK _ ?_; clear hK K))
        refine plan_c rfl rfl (fun K _ hK => ?_)
        go_wp2
        refine plan_at (fun W => Below o w W ∧ OutIs W o (qs ++ [(x, y, i)])) ⟨HTo.out.setCell (p := ⟨o, 0, none⟩) (by simp) _, some g2, cap2, ?_, ?_, ?_⟩ ?_
        · rw [blk_set ho2]; simp [adr]
        · rw [flatP_append, List.length_append]
          exact HS2.out.congr fun k hk => Below.heap_setCell _ _ _ _ (by cases hk; simp; omega)
        · intro k hk; cases hk; exact hlt2
        rintro W3 ⟨hB3, hO3⟩
        clear c0 c1 c2 c3 c4 d0 hz ho2 hlt2
        have hb3 : W3.heap[b]? = _ := (Below.block hB3 b hbo).trans HB.out
        obtain ⟨c0, c1, c2, c3, c4⟩ := blk5 hb3
        have HO3 := Lib.hid hO3; clear hO3
        refine plan_done ?_
        go_wp2_with fail
        refine (IHR.out vr br W3 o (qs ++ [(x, y, i)]) (hr.below HR.out hB3) HR.out HO3.out (by have h1 := HSZ.out; have h2 := HC.out; have h3 := congrArg List.length HQ.out; simp only [PT.count, List.length_append, List.length_cons, List.length_nil] at h1 h3 ⊢; omega)).mono ?_
        rintro e w4 ⟨rfl, hO4, hB4⟩
        have HO4 := Lib.hid hO4; clear hO4
        go_wp2
        go_end0
        refine ⟨rfl, ?_, hB3.trans hB4⟩
        rw [HE.out, ← List.append_assoc, HQ.out, ← List.append_assoc]
        exact HO4.out
      · have he : pfind low high least (.node x y i l r) = pfind low high least l := by simp [pfind, h1, h2, h3]
        have HE := Lib.hid he; clear he
        go_enter Try.func19, Try.ntmps19
        go_wp2_with fail
        refine (IHL.out vl bl w o ps hl HL.out HO.out (by have := HSZ.out; simp only [PT.count] at this; omega)).mono ?_
        rintro e w1 ⟨rfl, hO1, hB1⟩
        have hb1 : w1.heap[b]? = _ := (Below.block hB1 b hbo).trans HB.out
        clear c0 c1 c2 c3 c4
        obtain ⟨c0, c1, c2, c3, c4⟩ := blk5 hb1
        have HO1 := Lib.hid hO1; clear hO1
        go_wp2
        go_end0
        refine ⟨rfl, ?_, hB1⟩
        rw [HE.out]
        exact HO1.out
    · by_cases h3 : x ≤ high
      · have he : pfind low high least (.node x y i l r) = pfind low high least r := by simp [pfind, h1, h2, h3]
        have HE := Lib.hid he; clear he
        go_enter Try.func19, Try.ntmps19
        go_wp2_with fail
        refine (IHR.out vr br w o ps hr HR.out HO.out (by have := HSZ.out; simp only [PT.count] at this; omega)).mono ?_
        rintro e w1 ⟨rfl, hO1, hB1⟩
        have HO1 := Lib.hid hO1; clear hO1
        go_wp2
        go_end0
        refine ⟨rfl, ?_, hB1⟩
        rw [HE.out]
        exact HO1.out
      · have he : pfind low high least (.node x y i l r) = [] := by simp [pfind, h1, h2, h3]
        have HE := Lib.hid he; clear he
        go_enter Try.func19, Try.ntmps19
        go_wp2
        go_end0
        refine ⟨rfl, ?_, Below.refl _ _⟩
        rw [HE.out, List.append_nil]
        exact HO.out

/-- The fields of a tree: its root, its map. -/
def TreeAt (w : World) (tb : Nat) (v : Option Nat) (m : Nat) : Prop :=
  w.heap[tb]? = some (.cells #[ptr v, .map (some m)] 55 (0, 0))

/-- A new slice of points. -/
def PointsPost (qs : List (Int × Int × Int)) (w : World) (e : Ending) (w' : World) : Prop :=
  ∃ g cap, e = .returned (slv g qs.length cap) ∧ Sl w' 31 3 g qs.length cap (flatP qs) ∧ (∀ b, g = some b → w.heap.size ≤ b) ∧ Ext w w'

set_option maxHeartbeats 1000000 in
theorem Find_any (low high least : Int) (t : PT) (v : Option Nat) (bs : List Nat) (tb m : Nat) (w : World) (ht : TreeAt w tb v m) (hr : NodeRep w t v bs) (hsz : t.count * 24 ≤ 140737488355328) :
    Calls Try.prog 11 #[.pointer (some ⟨tb, 0, none⟩), .int .i64 low, .int .i64 high, .int .i64 least] w (PointsPost (pfind low high least t) w) := by
  have HT := Lib.hid ht
  have HSZ := Lib.hid hsz; clear hsz
  obtain ⟨c0, c1⟩ := blk2 ht
  have htb := blk_lt ht
  clear ht
  go_enter Try.func11, Try.ntmps11
  go_wp2_with fail
  refine (find_any low high least t v bs _ w.heap.size [] (hr.ext ((Ext.refl w).alloc _)) hr.lt ⟨none, 0, blk_new _ _, Sl.nil _ _ _, fun b h => by cases h⟩ (by simpa using HSZ.out)).mono ?_
  rintro e w1 ⟨rfl, ⟨g, cap, ho, hS, hg⟩, hB⟩
  have d0 := blk1 ho
  simp only [List.nil_append] at hS d0 ho
  have HS := Lib.hid hS; clear hS
  have HG := Lib.hid hg; clear hg
  clear c0 c1 ho
  go_wp2
  go_ret
  exact ⟨g, cap, rfl, HS.out, fun b hb => by have := HG.out b hb; omega, ((Ext.refl w).alloc _).trans' hB⟩

end Go.Proofs.Ytcildmdmgjehbaa
