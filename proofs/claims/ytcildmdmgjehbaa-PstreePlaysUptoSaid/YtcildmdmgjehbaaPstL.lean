/- The plain law of the tree of points: what padd, pcut, pfind, ptop do to the list of points. No program is named here. -/
import Derived.Test.YtcildmdmgjehbaaPst5
namespace Go.Proofs.Ytcildmdmgjehbaa

abbrev Pt := Int × Int × Int
def kLt (p q : Pt) : Prop := p.1 < q.1 ∨ (p.1 = q.1 ∧ p.2.2 < q.2.2)
def kAb (p q : Pt) : Prop := q.2.1 < p.2.1 ∨ (p.2.1 = q.2.1 ∧ kLt p q)

theorem ahead_iff (x1 i1 x2 i2 : Int) : aheadI x1 i1 x2 i2 < 0 ↔ x1 < x2 ∨ (x1 = x2 ∧ i1 < i2) := by
  simp only [aheadI, orL, cmpI]
  repeat' split
  all_goals omega
theorem ahead_pos (x1 i1 x2 i2 : Int) : 0 < aheadI x1 i1 x2 i2 ↔ x2 < x1 ∨ (x1 = x2 ∧ i2 < i1) := by
  simp only [aheadI, orL, cmpI]
  repeat' split
  all_goals omega
theorem above_iff (x1 y1 i1 x2 y2 i2 : Int) : aboveB x1 y1 i1 x2 y2 i2 = true ↔ y2 < y1 ∨ (y1 = y2 ∧ (x1 < x2 ∨ (x1 = x2 ∧ i1 < i2))) := by
  have h1 := ahead_iff x1 i1 x2 i2
  simp only [aboveB, decide_eq_true_eq]
  generalize aheadI x1 i1 x2 i2 = c at *
  simp only [orL, cmpI]
  repeat' split
  all_goals omega

def PT.toL : PT → List Pt
  | .nil => []
  | .node x y i l r => l.toL ++ (x, y, i) :: r.toL

theorem count_toL : ∀ t : PT, t.count = t.toL.length
  | .nil => rfl
  | .node x y i l r => by simp [PT.count, PT.toL, count_toL l, count_toL r]; omega

def Srt (t : PT) : Prop := t.toL.Pairwise kLt
def Hp : PT → Prop
  | .nil => True
  | .node x y i l r => (∀ q ∈ l.toL, kAb (x, y, i) q) ∧ (∀ q ∈ r.toL, kAb (x, y, i) q) ∧ Hp l ∧ Hp r

theorem srt_node {x y i : Int} {l r : PT} : Srt (.node x y i l r) ↔ Srt l ∧ Srt r ∧ (∀ q ∈ l.toL, kLt q (x, y, i)) ∧ (∀ q ∈ r.toL, kLt (x, y, i) q) ∧ ∀ p ∈ l.toL, ∀ q ∈ r.toL, kLt p q := by
  unfold Srt
  simp only [PT.toL, List.pairwise_append, List.pairwise_cons]
  constructor
  · rintro ⟨h1, ⟨h2, h3⟩, h4⟩
    exact ⟨h1, h3, fun q hq => h4 q hq _ (by simp), h2, fun p hp q hq => h4 p hp q (by simp [hq])⟩
  · rintro ⟨h1, h2, h3, h4, h5⟩
    refine ⟨h1, ⟨h4, h2⟩, fun p hp q hq => ?_⟩
    rcases List.mem_cons.1 hq with rfl | hq
    · exact h3 p hp
    · exact h5 p hp q hq

theorem psplit_toL (px pid : Int) : ∀ t : PT, (psplit px pid t).1.toL ++ (psplit px pid t).2.toL = t.toL
  | .nil => rfl
  | .node x y i l r => by
    unfold psplit
    split
    · have := psplit_toL px pid r
      simp only [PT.toL, List.append_assoc, List.cons_append, this]
    · have := psplit_toL px pid l
      simp only [PT.toL, ← List.append_assoc, this]

theorem psplit_key (px py pid : Int) : ∀ t : PT, Srt t → (∀ q ∈ (psplit px pid t).1.toL, kLt q (px, py, pid)) ∧ (∀ q ∈ (psplit px pid t).2.toL, ¬ kLt q (px, py, pid))
  | .nil, _ => by simp [psplit, PT.toL]
  | .node x y i l r, h => by
    obtain ⟨h1, h2, h3, h4, h5⟩ := srt_node.1 h
    have hl := psplit_key px py pid l h1
    have hr := psplit_key px py pid r h2
    have ha := ahead_iff x i px pid
    unfold psplit
    split
    · rename_i hlt
      have hk := ha.1 hlt
      refine ⟨fun q hq => ?_, hr.2⟩
      simp only [PT.toL, List.mem_append, List.mem_cons] at hq
      rcases hq with hq | rfl | hq
      · have := h3 q hq; unfold kLt at *; simp only at *; omega
      · exact hk
      · exact hr.1 q hq
    · rename_i hlt
      have hk := fun h => hlt (ha.2 h)
      refine ⟨hl.1, fun q hq => ?_⟩
      simp only [PT.toL, List.mem_append, List.mem_cons] at hq
      rcases hq with hq | rfl | hq
      · exact hl.2 q hq
      · exact hk
      · have := h4 q hq; unfold kLt at *; simp only at *; omega

theorem psplit_srt (px pid : Int) (t : PT) (h : Srt t) : Srt (psplit px pid t).1 ∧ Srt (psplit px pid t).2 := by
  have h1 := psplit_toL px pid t
  unfold Srt at *
  rw [← h1, List.pairwise_append] at h
  exact ⟨h.1, h.2.1⟩

theorem psplit_hp (px pid : Int) : ∀ t : PT, Hp t → Hp (psplit px pid t).1 ∧ Hp (psplit px pid t).2
  | .nil, _ => by simp [psplit, Hp]
  | .node x y i l r, h => by
    obtain ⟨h1, h2, h3, h4⟩ := h
    have hl := psplit_hp px pid l h3
    have hr := psplit_hp px pid r h4
    unfold psplit
    split
    · have ht := psplit_toL px pid r
      exact ⟨⟨h1, fun q hq => h2 q (by rw [← ht]; simp [hq]), h3, hr.1⟩, hr.2⟩
    · have ht := psplit_toL px pid l
      exact ⟨hl.1, ⟨fun q hq => h1 q (by rw [← ht]; simp [hq]), h2, hl.2, h4⟩⟩

theorem padd_perm (px py pid : Int) : ∀ t : PT, (padd px py pid t).toL.Perm ((px, py, pid) :: t.toL)
  | .nil => List.Perm.refl _
  | .node x y i l r => by
    unfold padd
    split
    · split
      · simp only [PT.toL]
        exact ((padd_perm px py pid l).append_right _)
      · simp only [PT.toL]
        refine (List.Perm.append_left _ ((padd_perm px py pid r).cons _)).trans ?_
        refine (List.Perm.append_left _ (List.Perm.swap _ _ _)).trans ?_
        exact List.perm_middle
    · have := psplit_toL px pid (.node x y i l r)
      show ((psplit px pid (.node x y i l r)).1.toL ++ (px, py, pid) :: (psplit px pid (.node x y i l r)).2.toL).Perm _
      rw [← this]
      exact List.perm_middle

def noKey (px pid : Int) (L : List Pt) : Prop := ∀ q ∈ L, ¬ (q.1 = px ∧ q.2.2 = pid)

theorem padd_srt (px py pid : Int) : ∀ t : PT, Srt t → noKey px pid t.toL → Srt (padd px py pid t)
  | .nil, _, _ => by simp [padd, Srt, PT.toL]
  | .node x y i l r, h, hk => by
    obtain ⟨h1, h2, h3, h4, h5⟩ := srt_node.1 h
    have hkl : noKey px pid l.toL := fun q hq => hk q (by simp [PT.toL, hq])
    have hkr : noKey px pid r.toL := fun q hq => hk q (by simp [PT.toL, hq])
    have hkn := hk (x, y, i) (by simp [PT.toL])
    have ha := ahead_iff px pid x i
    unfold padd
    split
    · split
      · rename_i hlt
        have hlt' := ha.1 hlt
        have hm := padd_perm px py pid l
        refine srt_node.2 ⟨padd_srt px py pid l h1 hkl, h2, fun q hq => ?_, h4, fun p hp q hq => ?_⟩
        · rcases List.mem_cons.1 (hm.subset hq) with rfl | hq
          · exact hlt'
          · exact h3 q hq
        · rcases List.mem_cons.1 (hm.subset hp) with rfl | hp
          · have := h4 q hq; unfold kLt at *; simp only at *; omega
          · exact h5 p hp q hq
      · rename_i hlt
        have hlt' := fun h => hlt (ha.2 h)
        have hm := padd_perm px py pid r
        refine srt_node.2 ⟨h1, padd_srt px py pid r h2 hkr, h3, fun q hq => ?_, fun p hp q hq => ?_⟩
        · rcases List.mem_cons.1 (hm.subset hq) with rfl | hq
          · unfold kLt; simp only at *; omega
          · exact h4 q hq
        · rcases List.mem_cons.1 (hm.subset hq) with rfl | hq
          · have := h3 p hp; unfold kLt at *; simp only at *; omega
          · exact h5 p hp q hq
    · have hs := psplit_srt px pid _ h
      have hq := psplit_key px py pid _ h
      have ht := psplit_toL px pid (.node x y i l r)
      refine srt_node.2 ⟨hs.1, hs.2, hq.1, fun q hq' => ?_, fun p hp q hq' => ?_⟩
      · have h1 := hq.2 q hq'
        have h2 := hk q (by rw [← ht]; simp [hq'])
        unfold kLt at *; simp only at *; omega
      · have h1 := hq.1 p hp
        have h2 := hq.2 q hq'
        unfold kLt at *; simp only at *; omega

theorem padd_hp (px py pid : Int) : ∀ t : PT, Hp t → noKey px pid t.toL → Hp (padd px py pid t)
  | .nil, _, _ => by simp [padd, Hp, PT.toL]
  | .node x y i l r, h, hk => by
    obtain ⟨h1, h2, h3, h4⟩ := h
    have hkl : noKey px pid l.toL := fun q hq => hk q (by simp [PT.toL, hq])
    have hkr : noKey px pid r.toL := fun q hq => hk q (by simp [PT.toL, hq])
    have hkn := hk (x, y, i) (by simp [PT.toL])
    have ha := above_iff x y i px py pid
    unfold padd
    split
    · rename_i hab
      have hab' := ha.1 hab
      split
      · refine ⟨fun q hq => ?_, h2, padd_hp px py pid l h3 hkl, h4⟩
        rcases List.mem_cons.1 ((padd_perm px py pid l).subset hq) with rfl | hq
        · exact hab'
        · exact h1 q hq
      · refine ⟨h1, fun q hq => ?_, h3, padd_hp px py pid r h4 hkr⟩
        rcases List.mem_cons.1 ((padd_perm px py pid r).subset hq) with rfl | hq
        · exact hab'
        · exact h2 q hq
    · rename_i hab
      have hab' := mt ha.2 hab
      have ht := psplit_toL px pid (.node x y i l r)
      have hs := psplit_hp px pid (.node x y i l r) ⟨h1, h2, h3, h4⟩
      have hall : ∀ q ∈ (PT.node x y i l r).toL, kAb (px, py, pid) q := by
        intro q hq
        have h0 : kAb (px, py, pid) (x, y, i) := by unfold kAb kLt; simp only at *; omega
        simp only [PT.toL, List.mem_append, List.mem_cons] at hq
        rcases hq with hq | rfl | hq
        · have := h1 q hq; unfold kAb kLt at *; simp only at *; omega
        · exact h0
        · have := h2 q hq; unfold kAb kLt at *; simp only at *; omega
      exact ⟨fun q hq => hall q (by rw [← ht]; simp [hq]), fun q hq => hall q (by rw [← ht]; simp [hq]), hs.1, hs.2⟩

theorem pfind_eq (low high least : Int) : ∀ t : PT, Srt t → Hp t → pfind low high least t = t.toL.filter (fun q => decide (low ≤ q.1 ∧ q.1 ≤ high ∧ least ≤ q.2.1))
  | .nil, _, _ => rfl
  | .node x y i l r, h, hh => by
    obtain ⟨h1, h2, h3, h4, h5⟩ := srt_node.1 h
    obtain ⟨g1, g2, g3, g4⟩ := hh
    have il := pfind_eq low high least l h1 g3
    have ir := pfind_eq low high least r h2 g4
    unfold pfind
    simp only [PT.toL, List.filter_append, List.filter_cons]
    split
    · rename_i hy
      have e1 : l.toL.filter (fun q => decide (low ≤ q.1 ∧ q.1 ≤ high ∧ least ≤ q.2.1)) = [] := by
        rw [List.filter_eq_nil_iff]; intro q hq; have := g1 q hq; unfold kAb at this; simp only [decide_eq_true_eq]; simp only at this; omega
      have e2 : r.toL.filter (fun q => decide (low ≤ q.1 ∧ q.1 ≤ high ∧ least ≤ q.2.1)) = [] := by
        rw [List.filter_eq_nil_iff]; intro q hq; have := g2 q hq; unfold kAb at this; simp only [decide_eq_true_eq]; simp only at this; omega
      rw [e1, e2, if_neg (by simp only [decide_eq_true_eq]; omega)]
      rfl
    · rename_i hy
      have e1 : (if low ≤ x then pfind low high least l else []) = l.toL.filter (fun q => decide (low ≤ q.1 ∧ q.1 ≤ high ∧ least ≤ q.2.1)) := by
        split
        · exact il
        · symm; rw [List.filter_eq_nil_iff]; intro q hq; have := h3 q hq; unfold kLt at this; simp only [decide_eq_true_eq]; simp only at this; omega
      have e2 : (if x ≤ high then pfind low high least r else []) = r.toL.filter (fun q => decide (low ≤ q.1 ∧ q.1 ≤ high ∧ least ≤ q.2.1)) := by
        split
        · exact ir
        · symm; rw [List.filter_eq_nil_iff]; intro q hq; have := h4 q hq; unfold kLt at this; simp only [decide_eq_true_eq]; simp only at this; omega
      rw [e1, e2, List.append_assoc]
      congr 1
      by_cases hx : low ≤ x ∧ x ≤ high
      · rw [if_pos hx, if_pos (by simp only [decide_eq_true_eq]; omega)]; rfl
      · rw [if_neg hx, if_neg (by simp only [decide_eq_true_eq]; omega)]; rfl

/-- Two sorted lists of the same points are one. -/
theorem srt_unique : ∀ {L M : List Pt}, L.Pairwise kLt → M.Pairwise kLt → L.Perm M → L = M
  | [], M, _, _, h => (List.nil_perm.1 h).symm
  | a :: L, [], _, _, h => by simp at h
  | a :: L, b :: M, hL, hM, h => by
    rw [List.pairwise_cons] at hL hM
    have hab : a = b := by
      rcases List.mem_cons.1 (h.subset (List.mem_cons_self ..)) with h1 | h1
      · exact h1
      · rcases List.mem_cons.1 (h.symm.subset (List.mem_cons_self ..)) with h2 | h2
        · exact h2.symm
        · have k1 := hM.1 a h1
          have k2 := hL.1 b h2
          unfold kLt at k1 k2; omega
    subst hab
    rw [srt_unique hL.2 hM.2 ((List.perm_cons a).1 h)]

theorem pjoinIn_toL (jr : PT → PT) (x y i : Int) (l r : PT) (hj : ∀ b, (jr b).toL = r.toL ++ b.toL) : ∀ b : PT, (pjoinIn jr x y i l r b).toL = (PT.node x y i l r).toL ++ b.toL
  | .nil => by simp [pjoinIn, PT.toL]
  | .node x' y' i' l' r' => by
    unfold pjoinIn
    split
    · simp only [PT.toL, hj]; simp
    · simp only [PT.toL, pjoinIn_toL jr x y i l r hj l']; simp
theorem pjoin_toL : ∀ a b : PT, (pjoin a b).toL = a.toL ++ b.toL
  | .nil, b => by simp [pjoin, PT.toL]
  | .node x y i l r, b => pjoinIn_toL _ x y i l r (pjoin_toL r) b

theorem pjoinIn_hp (jr : PT → PT) (x y i : Int) (l r : PT) (hj : ∀ b, (jr b).toL = r.toL ++ b.toL) (hjh : ∀ b, Hp b → (∀ p ∈ r.toL, ∀ q ∈ b.toL, kLt p q) → Hp (jr b)) (hn : Hp (.node x y i l r)) :
    ∀ b : PT, Hp b → (∀ p ∈ (PT.node x y i l r).toL, ∀ q ∈ b.toL, kLt p q) → Hp (pjoinIn jr x y i l r b)
  | .nil, _, _ => hn
  | .node x' y' i' l' r', hb, hk => by
    obtain ⟨h1, h2, h3, h4⟩ := hn
    obtain ⟨g1, g2, g3, g4⟩ := hb
    have ha := above_iff x y i x' y' i'
    have h0 := hk (x, y, i) (by simp [PT.toL]) (x', y', i') (by simp [PT.toL])
    unfold pjoinIn
    split
    · rename_i hab
      have hab' := ha.1 hab
      refine ⟨h1, fun q hq => ?_, h3, hjh _ ⟨g1, g2, g3, g4⟩ fun p hp q hq => hk p (by simp [PT.toL, hp]) q hq⟩
      rw [hj] at hq
      simp only [PT.toL, List.mem_append, List.mem_cons] at hq
      rcases hq with hq | hq | rfl | hq
      · exact h2 q hq
      · have := g1 q hq; unfold kAb kLt at *; simp only at *; omega
      · exact hab'
      · have := g2 q hq; unfold kAb kLt at *; simp only at *; omega
    · rename_i hab
      have hab' := mt ha.2 hab
      have h00 : kAb (x', y', i') (x, y, i) := by unfold kAb kLt at *; simp only at *; omega
      refine ⟨fun q hq => ?_, g2, pjoinIn_hp jr x y i l r hj hjh ⟨h1, h2, h3, h4⟩ l' g3 fun p hp q hq => hk p hp q (by simp [PT.toL, hq]), g4⟩
      rw [pjoinIn_toL jr x y i l r hj] at hq
      simp only [PT.toL, List.mem_append, List.mem_cons] at hq
      rcases hq with (hq | rfl | hq) | hq
      · have := h1 q hq; unfold kAb kLt at *; simp only at *; omega
      · exact h00
      · have := h2 q hq; unfold kAb kLt at *; simp only at *; omega
      · exact g1 q hq
theorem pjoin_hp : ∀ a b : PT, Hp a → Hp b → (∀ p ∈ a.toL, ∀ q ∈ b.toL, kLt p q) → Hp (pjoin a b)
  | .nil, b, _, hb, _ => hb
  | .node x y i l r, b, ha, hb, hk =>
    pjoinIn_hp _ x y i l r (pjoin_toL r) (fun b' hb' hk' => pjoin_hp r b' ha.2.2.2 hb' hk') ha b hb hk

/-- In a sorted tree the way down to a point of it ends at it; taking it out takes just it out. -/
theorem pcut_way (px py pid : Int) : ∀ t : PT, Srt t → (px, py, pid) ∈ t.toL → pway px py pid t
  | .nil, _, h => by simp [PT.toL] at h
  | .node x y i l r, hs, h => by
    obtain ⟨h1, h2, h3, h4, h5⟩ := srt_node.1 hs
    have ha := ahead_iff px pid x i
    simp only [PT.toL, List.mem_append, List.mem_cons] at h
    unfold pway
    rcases h with h | h | h
    · refine .inr ?_
      rw [if_pos (ha.2 (h3 _ h))]
      exact pcut_way px py pid l h1 h
    · simp only [Prod.mk.injEq] at h; exact .inl ⟨h.1.symm, h.2.1.symm, h.2.2.symm⟩
    · refine .inr ?_
      rw [if_neg (fun hlt => by have k1 := ha.1 hlt; have k2 := h4 _ h; unfold kLt at k2; simp only at k2; omega)]
      exact pcut_way px py pid r h2 h

theorem pcut_perm (px py pid : Int) : ∀ t : PT, pway px py pid t → t.toL.Perm ((px, py, pid) :: (pcut px py pid t).toL)
  | .nil, h => h.elim
  | .node x y i l r, h => by
    unfold pcut
    split
    · rename_i he
      obtain ⟨rfl, rfl, rfl⟩ := he
      rw [pjoin_toL]
      exact List.perm_middle
    · rename_i he
      have h' := h.resolve_left he
      split
      · rename_i hlt
        rw [if_pos hlt] at h'
        simp only [PT.toL]
        exact (pcut_perm px py pid l h').append_right _
      · rename_i hlt
        rw [if_neg hlt] at h'
        simp only [PT.toL]
        refine (List.Perm.append_left _ ((pcut_perm px py pid r h').cons _)).trans ?_
        refine (List.Perm.append_left _ (List.Perm.swap _ _ _)).trans ?_
        exact List.perm_middle

theorem pcut_sub (px py pid : Int) : ∀ t : PT, (pcut px py pid t).toL.Sublist t.toL
  | .nil => List.Sublist.refl _
  | .node x y i l r => by
    unfold pcut
    split
    · rw [pjoin_toL]
      exact List.Sublist.append_left (List.sublist_cons_self _ _) _
    · split
      · exact (pcut_sub px py pid l).append_right _
      · exact List.Sublist.append_left ((pcut_sub px py pid r).cons_cons _) _

theorem pcut_srt (px py pid : Int) (t : PT) (h : Srt t) : Srt (pcut px py pid t) := List.Pairwise.sublist (pcut_sub px py pid t) h

theorem pcut_hp (px py pid : Int) : ∀ t : PT, Srt t → Hp t → Hp (pcut px py pid t)
  | .nil, _, _ => trivial
  | .node x y i l r, hs, h => by
    obtain ⟨h1, h2, h3, h4⟩ := h
    obtain ⟨s1, s2, s3, s4, s5⟩ := srt_node.1 hs
    unfold pcut
    split
    · exact pjoin_hp l r h3 h4 s5
    · split
      · exact ⟨fun q hq => h1 q ((pcut_sub px py pid l).subset hq), h2, pcut_hp px py pid l s1 h3, h4⟩
      · exact ⟨h1, fun q hq => h2 q ((pcut_sub px py pid r).subset hq), h3, pcut_hp px py pid r s2 h4⟩
end Go.Proofs.Ytcildmdmgjehbaa
