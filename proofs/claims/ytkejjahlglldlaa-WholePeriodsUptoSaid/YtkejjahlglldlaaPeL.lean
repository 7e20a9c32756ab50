/- Periods side by side: plain law. No program is named here. -/
import Derived.Test.YtkejjahlglldlaaPe1
namespace Go.Proofs.Ytkejjahlglldlaa

/-- The instants that a list of periods has. -/
def Pts (l : List Per) (t : Int) : Prop := ∃ q ∈ l, q.1 ≤ t ∧ t < q.2
theorem pts_nil (t : Int) : ¬ Pts [] t := by rintro ⟨q, h, _⟩; simp at h
theorem pts_cons {q : Per} {l : List Per} {t : Int} : Pts (q :: l) t ↔ (q.1 ≤ t ∧ t < q.2) ∨ Pts l t := by
  constructor
  · rintro ⟨r, h, h2⟩
    rcases List.mem_cons.1 h with rfl | h
    · exact .inl h2
    · exact .inr ⟨r, h, h2⟩
  · rintro (h | ⟨r, h, h2⟩)
    · exact ⟨q, List.mem_cons_self .., h⟩
    · exact ⟨r, List.mem_cons_of_mem _ h, h2⟩
theorem pts_append {a b : List Per} {t : Int} : Pts (a ++ b) t ↔ Pts a t ∨ Pts b t := by
  constructor
  · rintro ⟨r, h, h2⟩
    rcases List.mem_append.1 h with h | h
    · exact .inl ⟨r, h, h2⟩
    · exact .inr ⟨r, h, h2⟩
  · rintro (⟨r, h, h2⟩ | ⟨r, h, h2⟩)
    · exact ⟨r, List.mem_append_left _ h, h2⟩
    · exact ⟨r, List.mem_append_right _ h, h2⟩
theorem pts_perm {a b : List Per} (h : a.Perm b) (t : Int) : Pts a t ↔ Pts b t :=
  ⟨fun ⟨q, h1, h2⟩ => ⟨q, h.mem_iff.1 h1, h2⟩, fun ⟨q, h1, h2⟩ => ⟨q, h.mem_iff.2 h1, h2⟩⟩
/-- Those that are periods. -/
def okL (l : List Per) : List Per := l.filter fun q => decide (okP q)
theorem mem_okL {l : List Per} {q : Per} : q ∈ okL l ↔ q ∈ l ∧ okP q := by simp [okL]
/-- Apart, in order, none touching the next. -/
structure Canon (l : List Per) : Prop where
  ok : ∀ q ∈ l, okP q
  apart : l.Pairwise fun a b => a.2 < b.1
theorem Canon.nil : Canon [] := ⟨by simp, List.Pairwise.nil⟩
theorem Canon.tail {q : Per} {l : List Per} (h : Canon (q :: l)) : Canon l := ⟨fun r hr => h.ok r (List.mem_cons_of_mem _ hr), (List.pairwise_cons.1 h.apart).2⟩
theorem Canon.head {q : Per} {l : List Per} (h : Canon (q :: l)) {t : Int} (ht : Pts l t) : q.2 < t := by
  obtain ⟨r, hr, h1, h2⟩ := ht
  have := (List.pairwise_cons.1 h.apart).1 r hr
  omega
theorem canon_unique : ∀ {a b : List Per}, Canon a → Canon b → (∀ t, Pts a t ↔ Pts b t) → a = b
  | [], [], _, _, _ => rfl
  | [], q :: b, _, hb, h => by
    have := hb.ok q (List.mem_cons_self ..)
    exact absurd ((h q.1).2 (pts_cons.2 (.inl ⟨Int.le_refl _, this.2.1⟩))) (pts_nil _)
  | q :: a, [], ha, _, h => by
    have := ha.ok q (List.mem_cons_self ..)
    exact absurd ((h q.1).1 (pts_cons.2 (.inl ⟨Int.le_refl _, this.2.1⟩))) (pts_nil _)
  | q :: a, r :: b, ha, hb, h => by
    have hq := ha.ok q (List.mem_cons_self ..)
    have hr := hb.ok r (List.mem_cons_self ..)
    have e1 : r.1 ≤ q.1 := by
      rcases pts_cons.1 ((h q.1).1 (pts_cons.2 (.inl ⟨Int.le_refl _, hq.2.1⟩))) with h1 | h1
      · exact h1.1
      · have := hb.head h1; have := hr.2.1; omega
    have e2 : q.1 ≤ r.1 := by
      rcases pts_cons.1 ((h r.1).2 (pts_cons.2 (.inl ⟨Int.le_refl _, hr.2.1⟩))) with h1 | h1
      · exact h1.1
      · have := ha.head h1; have := hq.2.1; omega
    have e3 : r.2 ≤ q.2 := by
      apply Int.not_lt.1
      intro hlt
      have := hq.2.1
      rcases pts_cons.1 ((h q.2).2 (pts_cons.2 (.inl ⟨by omega, hlt⟩))) with h1 | h1
      · omega
      · have := ha.head h1; omega
    have e4 : q.2 ≤ r.2 := by
      apply Int.not_lt.1
      intro hlt
      have := hr.2.1
      rcases pts_cons.1 ((h r.2).1 (pts_cons.2 (.inl ⟨by omega, hlt⟩))) with h1 | h1
      · omega
      · have := hb.head h1; omega
    have e : q = r := Prod.ext (by omega) (by omega)
    subst e
    have : a = b := by
      refine canon_unique ha.tail hb.tail fun t => ?_
      constructor
      · intro ht
        have hlt := ha.head ht
        rcases pts_cons.1 ((h t).1 (pts_cons.2 (.inr ht))) with h1 | h1
        · omega
        · exact h1
      · intro ht
        have hlt := hb.head ht
        rcases pts_cons.1 ((h t).2 (pts_cons.2 (.inr ht))) with h1 | h1
        · omega
        · exact h1
    rw [this]

/-- The union so far: of qs, sorted by their beginnings, those ahead of i. -/
structure UniSo (qs : List Per) (i : Nat) (out : List Per) : Prop where
  can : Canon out
  pts : ∀ t, Pts out t ↔ Pts (qs.take i) t
  ahead : ∀ o ∈ out, ∀ r ∈ qs.drop i, o.1 ≤ r.1
theorem UniSo.start (qs : List Per) : UniSo qs 0 [] := ⟨Canon.nil, fun t => by simp, by simp⟩
theorem pts_take {qs : List Per} {i : Nat} {p : Per} (hp : qs[i]? = some p) (t : Int) : Pts (qs.take (i + 1)) t ↔ Pts (qs.take i) t ∨ (p.1 ≤ t ∧ t < p.2) := by
  rw [List.take_add_one, hp, pts_append]
  simp only [Option.toList_some, pts_cons]
  constructor
  · rintro (h | h | h)
    · exact .inl h
    · exact .inr h
    · exact absurd h (pts_nil _)
  · rintro (h | h)
    · exact .inl h
    · exact .inr (.inl h)
theorem drop_more {qs : List Per} {i : Nat} {r : Per} (h : r ∈ qs.drop (i + 1)) : r ∈ qs.drop i := by
  have : qs.drop (i + 1) = (qs.drop i).drop 1 := by rw [List.drop_drop]
  rw [this] at h
  exact List.mem_of_mem_drop h
theorem drop_here {qs : List Per} {i : Nat} {p : Per} (hp : qs[i]? = some p) : p ∈ qs.drop i := by
  obtain ⟨hl, rfl⟩ := List.getElem?_eq_some_iff.1 hp
  rw [List.drop_eq_getElem_cons hl]
  exact List.mem_cons_self ..
theorem sorted_drop {qs : List Per} (hs : qs.Pairwise fun a b => a.1 ≤ b.1) {i : Nat} {p r : Per} (hp : qs[i]? = some p) (hr : r ∈ qs.drop (i + 1)) : p.1 ≤ r.1 := by
  obtain ⟨hl, rfl⟩ := List.getElem?_eq_some_iff.1 hp
  have h1 : (qs.drop i).Pairwise fun a b => a.1 ≤ b.1 := hs.sublist (List.drop_sublist _ _)
  rw [List.drop_eq_getElem_cons hl] at h1
  exact (List.pairwise_cons.1 h1).1 r hr
/-- One more, behind a gap or as the first. -/
theorem UniSo.more {qs out : List Per} {i : Nat} {p : Per} (h : UniSo qs i out) (hs : qs.Pairwise fun a b => a.1 ≤ b.1) (hp : qs[i]? = some p) (hok : okP p) (hgap : ∀ l, out.getLast? = some l → l.2 < p.1) : UniSo qs (i + 1) (out ++ [p]) := by
  refine ⟨⟨fun q hq => ?_, ?_⟩, fun t => ?_, fun o ho r hr => ?_⟩
  · rcases List.mem_append.1 hq with hq | hq
    · exact h.can.ok q hq
    · rw [List.mem_singleton.1 hq]; exact hok
  · refine List.pairwise_append.2 ⟨h.can.apart, by simp, fun a ha b hb => ?_⟩
    rw [List.mem_singleton.1 hb]
    rcases List.eq_nil_or_concat out with rfl | ⟨init, l, rfl⟩
    · simp at ha
    · have hl := hgap l (by simp)
      simp only [List.concat_eq_append] at *
      rcases List.mem_append.1 ha with ha | ha
      · have h1 := (List.pairwise_append.1 h.can.apart).2.2 a ha l (by simp)
        have h2 := h.can.ok l (by simp)
        have := h2.2.1
        omega
      · rw [List.mem_singleton.1 ha]; exact hl
  · rw [pts_append, h.pts t, pts_take hp]
    simp only [pts_cons]
    constructor
    · rintro (h | h | h)
      · exact .inl h
      · exact .inr h
      · exact absurd h (pts_nil _)
    · rintro (h | h)
      · exact .inl h
      · exact .inr (.inl h)
  · rcases List.mem_append.1 ho with ho | ho
    · exact h.ahead o ho r (drop_more hr)
    · rw [List.mem_singleton.1 ho]; exact sorted_drop hs hp hr
/-- One more that begins within the last. -/
theorem UniSo.wide {qs init : List Per} {i : Nat} {p l : Per} (h : UniSo qs i (init ++ [l])) (hp : qs[i]? = some p) (hok : okP p) (hin : p.1 ≤ l.2) : UniSo qs (i + 1) (init ++ [(l.1, max l.2 p.2)]) := by
  have hl := h.can.ok l (by simp)
  have ha := h.ahead l (by simp) p (drop_here hp)
  refine ⟨⟨fun q hq => ?_, ?_⟩, fun t => ?_, fun o ho r hr => ?_⟩
  · rcases List.mem_append.1 hq with hq | hq
    · exact h.can.ok q (List.mem_append_left _ hq)
    · rw [List.mem_singleton.1 hq]
      obtain ⟨h1, h2, h3⟩ := hl
      obtain ⟨k1, k2, k3⟩ := hok
      exact ⟨h1, by simp only; omega, by simp only; omega⟩
  · have h1 := List.pairwise_append.1 h.can.apart
    refine List.pairwise_append.2 ⟨h1.1, by simp, fun a hA b hb => ?_⟩
    rw [List.mem_singleton.1 hb]
    exact h1.2.2 a hA l (by simp)
  · have h1 := h.pts t
    rw [pts_take hp, ← h1, pts_append, pts_append]
    simp only [pts_cons]
    have := hok.2.1
    constructor
    · rintro (h | h | h)
      · exact .inl (.inl h)
      · by_cases hlt : t < l.2
        · exact .inl (.inr (.inl ⟨h.1, hlt⟩))
        · right; omega
      · exact absurd h (pts_nil _)
    · rintro ((h | h | h) | h)
      · exact .inl h
      · right; left; first | omega | (simp only; omega)
      · exact absurd h (pts_nil _)
      · right; left; first | omega | (simp only; omega)
  · rcases List.mem_append.1 ho with ho | ho
    · exact h.ahead o (List.mem_append_left _ ho) r (drop_more hr)
    · rw [List.mem_singleton.1 ho]; exact h.ahead l (by simp) r (drop_more hr)

/-- A union of periods: apart, in order, the instants of those that are periods. -/
structure IsUni (l out : List Per) : Prop where
  can : Canon out
  pts : ∀ t, Pts out t ↔ Pts (okL l) t
theorem IsUni.eq {l l' a b : List Per} (h : IsUni l a) (k : IsUni l' b) (e : ∀ t, Pts (okL l) t ↔ Pts (okL l') t) : a = b := canon_unique h.can k.can fun t => (h.pts t).trans ((e t).trans (k.pts t).symm)
theorem okL_ok {l : List Per} (h : ∀ q ∈ l, okP q) : okL l = l := List.filter_eq_self.2 (fun q hq => by simpa using h q hq)
end Go.Proofs.Ytkejjahlglldlaa
