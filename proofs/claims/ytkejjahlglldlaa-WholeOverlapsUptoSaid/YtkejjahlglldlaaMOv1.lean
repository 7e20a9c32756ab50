/- The two trees side by side: what holds between them. No program is walked here. -/
import Derived.Test.YtkejjahlglldlaaMR
import Derived.Test.YtkejjahlglldlaaMS2
namespace Go.Proofs.Ytkejjahlglldlaa
open Go.RowKit Go.Lib

def ptOf (r : Row) : Ps.Pt := (r.2.1, r.2.2, r.1)
/-- The interval tree at t and the tree of points at tb hold the same rows. -/
structure MS (w W : World) (t : Nat) (bs : List Nat) (tb : Nat) (bs2 : List Nat) (rs : List Row) (Lp : List Ps.Pt) : Prop where
  ri : RiOk W t rs bs
  ps : Ps.TreeOk W tb Lp bs2
  dj : ∀ x ∈ bs, x ∉ bs2
  n1 : ∀ x ∈ bs, w.heap.size ≤ x
  n2 : ∀ x ∈ bs2, w.heap.size ≤ x
  ext : Ext w W
  eq : ∀ q, q ∈ Lp ↔ ∃ r ∈ rs, q = ptOf r
  len : Lp.length = rs.length
section
variable {w W : World} {t : Nat} {bs : List Nat} {tb : Nat} {bs2 : List Nat} {rs : List Row} {Lp : List Ps.Pt}
theorem MS.go (h : MS w W t bs tb bs2 rs Lp) {W' : World} (hE : Ext W W') : MS w W' t bs tb bs2 rs Lp := ⟨h.ri.ext hE, h.ps.ext hE, h.dj, h.n1, h.n2, h.ext.trans hE, h.eq, h.len⟩
/-- A block apart is written. -/
theorem MS.aside (h : MS w W t bs tb bs2 rs Lp) {W' : World} {b : Nat} (hT : Touch (fun k => k = b) W W') (h1 : b ∉ bs) (h2 : b ∉ bs2) (h3 : w.heap.size ≤ b) : MS w W' t bs tb bs2 rs Lp :=
  ⟨h.ri.touch hT (fun x hx e => h1 (e ▸ hx)), h.ps.touch hT (fun x hx e => h2 (e ▸ hx)), h.dj, h.n1, h.n2, Touch.ext (S := fun k => k = b) ((h.ext.touch _).trans' hT (fun _ _ e => e)) (fun i hi e => by omega), h.eq, h.len⟩
/-- The interval tree has turned. -/
theorem MS.left (h : MS w W t bs tb bs2 rs Lp) {W' : World} {rs' : List Row} {bs' : List Nat} (hr : RiOk W' t rs' bs') (hs : ∀ x ∈ bs', x ∈ bs ∨ W.heap.size ≤ x) (hT : Touch (fun k => k ∈ bs) W W') :
    Ps.TreeOk W' tb Lp bs2 ∧ (∀ x ∈ bs', x ∉ bs2) ∧ (∀ x ∈ bs', w.heap.size ≤ x) ∧ Ext w W' := by
  have hz := h.ext.size
  refine ⟨h.ps.touch hT (fun x hx e => h.dj x e hx), fun x hx e => ?_, fun x hx => ?_, Touch.ext ((h.ext.touch _).trans' hT (fun _ _ e => e)) (fun i hi e => by have := h.n1 i e; omega)⟩
  · rcases hs x hx with h1 | h1
    · exact h.dj x h1 e
    · have := h.ps.lt x e; omega
  · rcases hs x hx with h1 | h1
    · exact h.n1 x h1
    · omega
/-- A row is put to both. -/
theorem MS.put (h : MS w W t bs tb bs2 rs Lp) {W1 W2 : World} {r : Row} {bs' bs2' : List Nat} {Lp' : List Ps.Pt} (hr : RiOk W1 t (rs ++ [r]) bs') (hs : ∀ x ∈ bs', x ∈ bs ∨ W.heap.size ≤ x) (hT : Touch (fun k => k ∈ bs) W W1)
    (hp : Ps.TreeOk W2 tb Lp' bs2') (hpm : Lp'.Perm (ptOf r :: Lp)) (hs2 : ∀ x ∈ bs2', x ∈ bs2 ∨ W1.heap.size ≤ x) (hT2 : Touch (fun k => k ∈ bs2) W1 W2) : MS w W2 t bs' tb bs2' (rs ++ [r]) Lp' := by
  obtain ⟨a1, a2, a3, a4⟩ := h.left hr hs hT
  have hz := h.ext.size
  have hz1 := hT.size
  refine ⟨hr.touch hT2 (fun x hx e => a2 x hx e), hp, fun x hx e => ?_, a3, fun x hx => ?_, Touch.ext ((a4.touch _).trans' hT2 (fun _ _ e => e)) (fun i hi e => by have := h.n2 i e; omega), fun q => ?_, ?_⟩
  · rcases hs2 x e with h1 | h1
    · exact a2 x hx h1
    · have := hr.lt x hx; omega
  · rcases hs2 x hx with h1 | h1
    · exact h.n2 x h1
    · omega
  · rw [hpm.mem_iff, List.mem_cons, h.eq]
    constructor
    · rintro (h1 | ⟨s, h1, h2⟩)
      · exact ⟨r, by simp, h1⟩
      · exact ⟨s, by simp [h1], h2⟩
    · rintro ⟨s, h1, h2⟩
      rcases List.mem_append.1 h1 with h1 | h1
      · exact .inr ⟨s, h1, h2⟩
      · simp at h1; subst h1; exact .inl h2
  · rw [hpm.length_eq, List.length_cons, h.len]; simp
theorem mem_erase {j : Nat} {r : Row} (hnd : (rs.map Prod.fst).Nodup) (hj : rs[j]? = some r) (s : Row) : s ∈ rs.eraseIdx j ↔ s ∈ rs ∧ s.1 ≠ r.1 := by
  have e1 := list_at hj
  have e2 : rs.eraseIdx j = rs.take j ++ rs.drop (j + 1) := List.eraseIdx_eq_take_drop_succ ..
  rw [e2]
  rw [e1, List.map_append, List.map_cons] at hnd
  obtain ⟨n1, n2, n3⟩ := List.nodup_append.1 hnd
  obtain ⟨n4, n5⟩ := List.nodup_cons.1 n2
  constructor
  · intro hs
    rcases List.mem_append.1 hs with hs | hs
    · refine ⟨List.mem_of_mem_take hs, fun e => ?_⟩
      exact n3 s.1 (List.mem_map.2 ⟨s, hs, rfl⟩) r.1 (by simp) e
    · exact ⟨List.mem_of_mem_drop hs, fun e => n4 (List.mem_map.2 ⟨s, hs, e⟩)⟩
  · rintro ⟨h1, h2⟩
    rw [e1] at h1
    rcases List.mem_append.1 h1 with h1 | h1
    · exact List.mem_append_left _ h1
    · rcases List.mem_cons.1 h1 with rfl | h1
      · exact absurd rfl h2
      · exact List.mem_append_right _ h1
/-- A row is taken out of both. -/
theorem MS.cut (h : MS w W t bs tb bs2 rs Lp) {W1 W2 : World} {j : Nat} {r : Row} {bs' bs2' : List Nat} {Lp' : List Ps.Pt} (hj : rs[j]? = some r) (hr : RiOk W1 t (rs.eraseIdx j) bs') (hs : ∀ x ∈ bs', x ∈ bs ∨ W.heap.size ≤ x) (hT : Touch (fun k => k ∈ bs) W W1)
    (hp : Ps.TreeOk W2 tb Lp' bs2') (hpm : Lp.Perm (ptOf r :: Lp')) (hs2 : ∀ x ∈ bs2', x ∈ bs2) (hT2 : Touch (fun k => k ∈ bs2) W1 W2) : MS w W2 t bs' tb bs2' (rs.eraseIdx j) Lp' := by
  obtain ⟨a1, a2, a3, a4⟩ := h.left hr hs hT
  have hids := h.ri.ids
  have hpid := h.ps.ids
  have hjl := (List.getElem?_eq_some_iff.1 hj).1
  refine ⟨hr.touch hT2 (fun x hx e => a2 x hx e), hp, fun x hx e => a2 x hx (hs2 x e), a3, fun x hx => h.n2 x (hs2 x hx), Touch.ext ((a4.touch _).trans' hT2 (fun _ _ e => e)) (fun i hi e => by have := h.n2 i e; omega), fun q => ?_, ?_⟩
  · have hpm2 := (hpm.map (fun q : Ps.Pt => q.2.2)).nodup_iff.1 hpid
    rw [List.map_cons] at hpm2
    obtain ⟨n1, n2⟩ := List.nodup_cons.1 hpm2
    constructor
    · intro hq
      obtain ⟨s, h1, h2⟩ := (h.eq q).1 (hpm.symm.subset (List.mem_cons_of_mem _ hq))
      refine ⟨s, (mem_erase hids hj s).2 ⟨h1, fun e => n1 (List.mem_map.2 ⟨q, hq, ?_⟩)⟩, h2⟩
      rw [h2]; exact e
    · rintro ⟨s, h1, h2⟩
      obtain ⟨h3, h4⟩ := (mem_erase hids hj s).1 h1
      have h5 := hpm.subset ((h.eq q).2 ⟨s, h3, h2⟩)
      rcases List.mem_cons.1 h5 with h5 | h5
      · rw [h5] at h2
        exact absurd (congrArg (fun z : Ps.Pt => z.2.2) h2).symm h4
      · exact h5
  · have h6 := hpm.length_eq
    have h7 := h.len
    rw [List.length_cons] at h6
    rw [List.length_eraseIdx_of_lt hjl]
    omega
/-- Among the points are as many as there are numbers. -/
theorem MS.count (h : MS w W t bs tb bs2 rs Lp) {F T : Nat} {ids : List Int} (hp : ids.Pairwise fun a b => a < b) (hm : ∀ i, i ∈ ids ↔ ∃ r ∈ rs, r.1 = i ∧ ov r.2 ((F : Int), (T : Int))) :
    (Ps.inRange 0 ((T : Int) - 1) ((F : Int) + 1) Lp).length = ids.length := by
  have h1 : ((Ps.inRange 0 ((T : Int) - 1) ((F : Int) + 1) Lp).map fun q : Ps.Pt => q.2.2).Nodup := h.ps.ids.sublist (List.filter_sublist.map _)
  have h2 : ids.Nodup := hp.imp (fun hlt e => by subst e; exact absurd hlt (by omega))
  have h3 : ((Ps.inRange 0 ((T : Int) - 1) ((F : Int) + 1) Lp).map fun q : Ps.Pt => q.2.2).Perm ids := by
    refine (List.perm_ext_iff_of_nodup h1 h2).2 fun i => ?_
    rw [hm, List.mem_map]
    unfold Ps.inRange
    constructor
    · rintro ⟨q, hq, rfl⟩
      obtain ⟨hq1, hq2⟩ := List.mem_filter.1 hq
      obtain ⟨r, hr, rfl⟩ := (h.eq q).1 hq1
      have := of_decide_eq_true hq2
      refine ⟨r, hr, rfl, ?_⟩
      unfold ptOf at this
      exact ⟨by show r.2.1 < (T : Int); simp only at this; omega, by show (F : Int) < r.2.2; simp only at this; omega⟩
    · rintro ⟨r, hr, rfl, o1, o2⟩
      have o1 : r.2.1 < (T : Int) := o1
      have o2 : (F : Int) < r.2.2 := o2
      have h0 := (h.ri.ok r hr).1.1
      refine ⟨ptOf r, List.mem_filter.2 ⟨(h.eq _).2 ⟨r, hr, rfl⟩, decide_eq_true ?_⟩, rfl⟩
      unfold ptOf
      simp only
      omega
  have := h3.length_eq
  rwa [List.length_map] at this
end
end Go.Proofs.Ytkejjahlglldlaa
