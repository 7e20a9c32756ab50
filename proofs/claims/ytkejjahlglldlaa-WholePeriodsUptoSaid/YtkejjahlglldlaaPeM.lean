/- Steps and layers of periods: plain law. No program is named here. -/
import Derived.Test.YtkejjahlglldlaaPeL
import Derived.Test.YtkejjahlglldlaaPe7
namespace Go.Proofs.Ytkejjahlglldlaa

abbrev Stp := Per × Int
/-- How many have an instant. -/
def cntP (l : List Per) (t : Int) : Nat := (l.filter fun q => has q t).length
theorem has_iff (q : Per) (t : Int) : has q t = true ↔ q.1 ≤ t ∧ t < q.2 := by simp [has]
theorem cntP_pos {l : List Per} {t : Int} : 0 < cntP l t ↔ Pts l t := by
  unfold cntP
  rw [List.length_pos_iff_exists_mem]
  constructor
  · rintro ⟨q, h⟩; rw [List.mem_filter, has_iff] at h; exact ⟨q, h.1, h.2⟩
  · rintro ⟨q, h, k⟩; exact ⟨q, List.mem_filter.2 ⟨h, (has_iff _ _).2 k⟩⟩
theorem cntP_le (l : List Per) (t : Int) : cntP l t ≤ l.length := List.length_filter_le _ _
theorem cntP_take {l : List Per} {i : Nat} {q : Per} (h : l[i]? = some q) (t : Int) : cntP (l.take (i + 1)) t = cntP (l.take i) t + (if has q t then 1 else 0) := by
  unfold cntP
  rw [List.take_add_one, h, List.filter_append, List.length_append]
  by_cases k : has q t <;> simp [k]

/-- The ends of periods. -/
def endsL (l : List Per) : List Int := (okL l).flatMap fun q => [q.1, q.2]
theorem mem_endsL {l : List Per} {x : Int} : x ∈ endsL l ↔ ∃ q ∈ l, okP q ∧ (x = q.1 ∨ x = q.2) := by
  simp only [endsL, List.mem_flatMap, mem_okL]
  constructor
  · rintro ⟨q, ⟨h1, h2⟩, h3⟩; simp at h3; exact ⟨q, h1, h2, h3⟩
  · rintro ⟨q, h1, h2, h3⟩; exact ⟨q, ⟨h1, h2⟩, by simpa using h3⟩
/-- The edges: rising, the ends of the periods. -/
structure IsEdges (l : List Per) (es : List Int) : Prop where
  up : es.Pairwise fun a b => a < b
  mem : ∀ x, x ∈ es ↔ x ∈ endsL l
/-- The steps between the edges. -/
structure IsSteps (plus minus : List Per) (es : List Int) (st : List Stp) : Prop where
  len : st.length = es.length - 1
  at' : ∀ (i : Nat) (a b : Int), es[i]? = some a → es[i + 1]? = some b → st[i]? = some ((a, b), (cntP plus a : Int) - (cntP minus a : Int))
theorem cnt_const {l : List Per} {a t : Int} (hat : a ≤ t) (h : ∀ q ∈ l, ∀ x, (x = q.1 ∨ x = q.2) → x ≤ a ∨ t < x) : cntP l a = cntP l t := by
  unfold cntP
  congr 1
  apply List.filter_congr
  intro q hq
  have h1 := h q hq q.1 (.inl rfl)
  have h2 := h q hq q.2 (.inr rfl)
  rw [Bool.eq_iff_iff, has_iff, has_iff]
  omega
theorem up_get {es : List Int} (h : es.Pairwise fun a b => a < b) {i j : Nat} {a b : Int} (hi : es[i]? = some a) (hj : es[j]? = some b) (hij : i < j) : a < b := by
  obtain ⟨h1, rfl⟩ := List.getElem?_eq_some_iff.1 hi
  obtain ⟨h2, rfl⟩ := List.getElem?_eq_some_iff.1 hj
  exact List.pairwise_iff_getElem.1 h i j h1 h2 hij
/-- No edge lies between two that are neighbours. -/
theorem up_gap {es : List Int} (h : es.Pairwise fun a b => a < b) {i : Nat} {a b x : Int} (hi : es[i]? = some a) (hj : es[i + 1]? = some b) (hx : x ∈ es) : x ≤ a ∨ b ≤ x := by
  obtain ⟨j, hjx⟩ := List.getElem?_of_mem hx
  rcases Nat.lt_trichotomy j i with k | k | k
  · have := up_get h hjx hi k; omega
  · subst k; rw [hi] at hjx; cases hjx; exact .inl (Int.le_refl _)
  · rcases Nat.lt_or_ge (i + 1) j with k2 | k2
    · have := up_get h hj hjx k2; omega
    · have : j = i + 1 := by omega
      subst this; rw [hj] at hjx; cases hjx; exact .inr (Int.le_refl _)
/-- An instant between the first and the last edge lies in a step. -/
theorem up_find : ∀ (es : List Int) (t x y : Int), x ∈ es → x ≤ t → y ∈ es → t < y → (es.Pairwise fun a b => a < b) → ∃ i a b, es[i]? = some a ∧ es[i + 1]? = some b ∧ a ≤ t ∧ t < b
  | [], t, x, y, hx, _, _, _, _ => by simp at hx
  | [e], t, x, y, hx, h1, hy, h2, _ => by simp at hx hy; omega
  | e :: f :: es, t, x, y, hx, h1, hy, h2, hp => by
    have hp' := List.pairwise_cons.1 hp
    by_cases k : t < f
    · refine ⟨0, e, f, rfl, rfl, ?_, k⟩
      rcases List.mem_cons.1 hx with rfl | hx
      · exact h1
      · have := hp'.1 x hx; omega
    · have hf : f ∈ f :: es := List.mem_cons_self ..
      have hy' : y ∈ f :: es := by
        rcases List.mem_cons.1 hy with rfl | hy
        · have := hp'.1 f hf; omega
        · exact hy
      obtain ⟨i, a, b, k1, k2, k3, k4⟩ := up_find (f :: es) t f y hf (by omega) hy' h2 hp'.2
      exact ⟨i + 1, a, b, by simpa using k1, by simpa using k2, k3, k4⟩

section
variable {plus minus : List Per} {es : List Int} {st : List Stp}
theorem IsSteps.get (hs : IsSteps plus minus es st) {s : Stp} (h : s ∈ st) : ∃ (i : Nat) (a b : Int), es[i]? = some a ∧ es[i + 1]? = some b ∧ s = ((a, b), (cntP plus a : Int) - (cntP minus a : Int)) := by
  obtain ⟨i, hi⟩ := List.getElem?_of_mem h
  have hl : i < st.length := (List.getElem?_eq_some_iff.1 hi).1
  have h1 : i < es.length := by have := hs.len; omega
  have h2 : i + 1 < es.length := by have := hs.len; omega
  have k1 := List.getElem?_eq_getElem h1
  have k2 := List.getElem?_eq_getElem h2
  have := hs.at' i _ _ k1 k2
  rw [hi] at this
  exact ⟨i, _, _, k1, k2, Option.some.inj this⟩
theorem IsSteps.ok (hs : IsSteps plus minus es st) (he : IsEdges (plus ++ minus) es) : ∀ s ∈ st, okP s.1 := by
  intro s h
  obtain ⟨i, a, b, h1, h2, rfl⟩ := hs.get h
  have hab := up_get he.up h1 h2 (by omega)
  obtain ⟨q, _, hq, k1⟩ := mem_endsL.1 ((he.mem a).1 (List.mem_of_getElem? h1))
  obtain ⟨r, _, hr, k2⟩ := mem_endsL.1 ((he.mem b).1 (List.mem_of_getElem? h2))
  obtain ⟨q1, q2, q3⟩ := hq
  obtain ⟨r1, r2, r3⟩ := hr
  refine ⟨?_, hab, ?_⟩
  · simp only; rcases k1 with rfl | rfl <;> omega
  · simp only; rcases k2 with rfl | rfl <;> omega
theorem IsSteps.cnt (hs : IsSteps plus minus es st) (he : IsEdges (plus ++ minus) es) (hp : ∀ q ∈ plus, okP q) (hm : ∀ q ∈ minus, okP q) {s : Stp} (h : s ∈ st) {t : Int} (h1 : s.1.1 ≤ t) (h2 : t < s.1.2) : s.2 = (cntP plus t : Int) - (cntP minus t : Int) := by
  obtain ⟨i, a, b, e1, e2, rfl⟩ := hs.get h
  simp only at h1 h2 ⊢
  have key : ∀ l, (∀ q ∈ l, q ∈ plus ++ minus ∧ okP q) → cntP l a = cntP l t := fun l hl => cnt_const h1 fun q hq x hx => by
    have := up_gap he.up e1 e2 ((he.mem x).2 (mem_endsL.2 ⟨q, (hl q hq).1, (hl q hq).2, hx⟩))
    omega
  rw [key plus fun q hq => ⟨List.mem_append_left _ hq, hp q hq⟩, key minus fun q hq => ⟨List.mem_append_right _ hq, hm q hq⟩]
theorem IsSteps.find (hs : IsSteps plus minus es st) (he : IsEdges (plus ++ minus) es) (hp : ∀ q ∈ plus, okP q) {t : Int} (h : Pts plus t) : ∃ s ∈ st, s.1.1 ≤ t ∧ t < s.1.2 := by
  obtain ⟨q, hq, h1, h2⟩ := h
  have m1 := (he.mem q.1).2 (mem_endsL.2 ⟨q, List.mem_append_left _ hq, hp q hq, .inl rfl⟩)
  have m2 := (he.mem q.2).2 (mem_endsL.2 ⟨q, List.mem_append_left _ hq, hp q hq, .inr rfl⟩)
  obtain ⟨i, a, b, e1, e2, k1, k2⟩ := up_find es t q.1 q.2 m1 h1 m2 h2 he.up
  exact ⟨_, List.mem_of_getElem? (hs.at' i a b e1 e2), k1, k2⟩
end

/-- Where there are k or more. -/
def hereL (st : List Stp) (k : Nat) : List Per := (st.filter fun s => decide ((k : Int) ≤ s.2)).map (·.1)
theorem mem_hereL {st : List Stp} {k : Nat} {q : Per} : q ∈ hereL st k ↔ ∃ n, (q, n) ∈ st ∧ (k : Int) ≤ n := by
  simp only [hereL, List.mem_map, List.mem_filter]
  constructor
  · rintro ⟨⟨a, n⟩, ⟨h1, h2⟩, rfl⟩; exact ⟨n, h1, by simpa using h2⟩
  · rintro ⟨n, h1, h2⟩; exact ⟨(q, n), ⟨h1, by simpa using h2⟩, rfl⟩
inductive LayF (st : List Stp) : Nat → List Per → Prop
  | done (k : Nat) (h : hereL st k = []) : LayF st k []
  | more (k : Nat) (u out : List Per) (h : hereL st k ≠ []) (hu : IsUni (hereL st k) u) (hr : LayF st (k + 1) out) : LayF st k (u ++ out)
theorem okL_here {st : List Stp} (h : ∀ s ∈ st, okP s.1) (k : Nat) : okL (hereL st k) = hereL st k := okL_ok fun q hq => by
  obtain ⟨n, hn, _⟩ := mem_hereL.1 hq
  exact h _ hn
theorem LayF.ok {st : List Stp} {k : Nat} {out : List Per} (h : LayF st k out) : ∀ q ∈ out, okP q := by
  induction h with
  | done k h => simp
  | more k u out h hu hr ih =>
    intro q hq
    rcases List.mem_append.1 hq with hq | hq
    · exact hu.can.ok q hq
    · exact ih q hq
theorem LayF.pts {st : List Stp} (ho : ∀ s ∈ st, okP s.1) {k : Nat} {out : List Per} (h : LayF st k out) (t : Int) : Pts out t ↔ Pts (hereL st k) t := by
  induction h with
  | done k h => rw [h]
  | more k u out h hu hr ih =>
    rw [pts_append, ih, hu.pts t, okL_here ho]
    constructor
    · rintro (h | ⟨q, hq, h1⟩)
      · exact h
      · obtain ⟨n, hn, hk⟩ := mem_hereL.1 hq
        exact ⟨q, mem_hereL.2 ⟨n, hn, by omega⟩, h1⟩
    · exact .inl
theorem LayF.one {st : List Stp} (hn : ∀ s ∈ st, s.2 ≤ 1) {out : List Per} (h : LayF st 1 out) : IsUni (hereL st 1) out := by
  cases h with
  | done _ h => rw [h]; exact ⟨Canon.nil, fun t => by simp [okL]⟩
  | more _ u out h hu hr =>
    cases hr with
    | done _ h => rw [List.append_nil]; exact hu
    | more _ u2 out2 h2 _ _ =>
      exfalso
      obtain ⟨q, hq⟩ := List.exists_mem_of_ne_nil _ h2
      obtain ⟨n, hn2, hk⟩ := mem_hereL.1 hq
      have := hn _ hn2
      simp only at this
      omega

/-- The instants of the layers: where more are told than taken off. -/
theorem steps_pts {plus minus : List Per} {es : List Int} {st : List Stp} (hs : IsSteps plus minus es st) (he : IsEdges (plus ++ minus) es) (hp : ∀ q ∈ plus, okP q) (hm : ∀ q ∈ minus, okP q) (t : Int) : Pts (hereL st 1) t ↔ cntP minus t < cntP plus t := by
  constructor
  · rintro ⟨q, hq, h1, h2⟩
    obtain ⟨n, hn, hk⟩ := mem_hereL.1 hq
    have := hs.cnt he hp hm hn h1 h2
    simp only at this
    omega
  · intro h
    obtain ⟨⟨q, n⟩, hsm, h1, h2⟩ := hs.find he hp (cntP_pos.1 (by omega : 0 < cntP plus t))
    have := hs.cnt he hp hm hsm h1 h2
    simp only at this
    exact ⟨q, mem_hereL.2 ⟨n, hsm, by omega⟩, h1, h2⟩
theorem lay_plus {plus : List Per} {es : List Int} {st : List Stp} {out : List Per} (hs : IsSteps plus [] es st) (he : IsEdges (plus ++ []) es) (hp : ∀ q ∈ plus, okP q) (h : LayF st 1 out) (t : Int) : Pts out t ↔ Pts plus t := by
  rw [h.pts (hs.ok he), steps_pts hs he hp (by simp)]
  rw [← cntP_pos]
  simp [cntP]

/-! ### Sorted by both ends -/
def leP (a b : Per) : Prop := a.1 < b.1 ∨ a.1 = b.1 ∧ a.2 ≤ b.2
theorem canon_sorted {u out : List Per} (hu : Canon u) (hp : out.Perm u) (hs : out.Pairwise leP) : out = u := by
  have hok : ∀ q ∈ out, okP q := fun q hq => hu.ok q (hp.mem_iff.1 hq)
  refine canon_unique ⟨hok, ?_⟩ hu (pts_perm hp)
  have h1 : u.Pairwise fun a b => a.2 < b.1 ∨ b.2 < a.1 := hu.apart.imp fun h => .inl h
  have h2 := (hp.pairwise_iff (R := fun a b : Per => a.2 < b.1 ∨ b.2 < a.1) (fun h => h.symm)).2 h1
  have h3 := List.pairwise_iff_getElem.1 h2
  have h4 := List.pairwise_iff_getElem.1 hs
  refine List.pairwise_iff_getElem.2 fun i j hi hj hij => ?_
  have k1 := hok _ (List.getElem_mem hi)
  have k2 := hok _ (List.getElem_mem hj)
  have k3 := h3 i j hi hj hij
  have k4 := h4 i j hi hj hij
  obtain ⟨a1, a2, a3⟩ := k1
  obtain ⟨b1, b2, b3⟩ := k2
  unfold leP at k4
  omega

/-- What is left of one period. -/
theorem except_min {p : Per} {ps plus minus : List Per} {es : List Int} {st : List Stp} {u out : List Per} (hp : okP p) (hplus : plus.Perm (okL [p])) (hminus : minus.Perm (okL ps)) (hs : IsSteps plus minus es st) (he : IsEdges (plus ++ minus) es) (hl : LayF st 1 u) (ho : out.Perm u) (hsort : out.Pairwise leP) : IsMin p ps out := by
  have hpl : plus = [p] := by
    rw [show okL [p] = [p] from okL_ok (by simpa using hp)] at hplus
    exact List.perm_singleton.1 hplus
  subst hpl
  have hm : ∀ q ∈ minus, okP q := fun q hq => (mem_okL.1 (hminus.mem_iff.1 hq)).2
  have hp1 : ∀ q ∈ [p], okP q := by simpa using hp
  have hn : ∀ s ∈ st, s.2 ≤ 1 := by
    intro s h
    obtain ⟨i, a, b, _, _, rfl⟩ := hs.get h
    have := cntP_le [p] a
    simp only [List.length_singleton] at this
    simp only
    omega
  have hu := hl.one hn
  have := canon_sorted hu.can ho hsort
  subst this
  refine ⟨hu.can, fun t => ?_⟩
  rw [hu.pts t, okL_here (hs.ok he), steps_pts hs he hp1 hm, ← pts_perm hminus t, ← cntP_pos]
  have hc : cntP [p] t = if p.1 ≤ t ∧ t < p.2 then 1 else 0 := by
    unfold cntP
    by_cases k : has p t = true
    · rw [if_pos ((has_iff _ _).1 k)]; simp [k]
    · rw [if_neg (fun h => k ((has_iff _ _).2 h))]; simp [k]
  rw [hc]
  split <;> omega
theorem IsMin.eq {p : Per} {ps a b : List Per} (h : IsMin p ps a) (k : IsMin p ps b) : a = b := canon_unique h.can k.can fun t => (h.pts t).trans (k.pts t).symm
theorem min_eq {p : Per} {ps a b : List Per} (h : if okP p then IsMin p ps a else a = []) (k : if okP p then IsMin p ps b else b = []) : a = b := by
  by_cases hp : okP p
  · rw [if_pos hp] at h k; exact h.eq k
  · rw [if_neg hp] at h k; rw [h, k]
/-- Clipped. -/
def clipL (ps : List Per) (p : Per) : List Per := (ps.filter fun q => decide (both q p)).map fun q => meetP q p
theorem clip_third {p : Per} {ps left x nrm c1 c2 : List Per} (hl : if okP p then IsMin p ps left else left = []) (hx : if okP p then IsMin p left x else x = []) (hn : ∀ t, Pts nrm t ↔ Pts (okL (clipL ps p)) t) (hok : ∀ q ∈ nrm, okP q) (h1 : IsUni nrm c1) (h2 : IsUni x c2) : c1 = c2 := by
  refine h1.eq h2 fun t => ?_
  rw [okL_ok hok, hn t]
  by_cases hp : okP p
  · rw [if_pos hp] at hl hx
    rw [okL_ok hx.can.ok, hx.pts t, okL_ok hl.can.ok, hl.pts t]
    constructor
    · rintro ⟨r, hr, k1, k2⟩
      obtain ⟨hr, _⟩ := mem_okL.1 hr
      simp only [clipL, List.mem_map, List.mem_filter] at hr
      obtain ⟨q, ⟨hq, hb⟩, rfl⟩ := hr
      have hb' : both q p := by simpa using hb
      simp only [meetP] at k1 k2
      refine ⟨by omega, by omega, fun ⟨_, _, k⟩ => k ⟨q, mem_okL.2 ⟨hq, hb'.1⟩, by omega, by omega⟩⟩
    · rintro ⟨k1, k2, k3⟩
      have k4 : Pts (okL ps) t := Classical.byContradiction fun k4 => k3 ⟨k1, k2, k4⟩
      obtain ⟨q, hq, k5, k6⟩ := k4
      obtain ⟨hq, ho⟩ := mem_okL.1 hq
      have hm : okP (meetP q p) := by
        obtain ⟨a1, a2, a3⟩ := hp
        obtain ⟨b1, b2, b3⟩ := ho
        refine ⟨?_, ?_, ?_⟩ <;> simp only [meetP] <;> omega
      have hb : both q p := ⟨ho, hp, hm⟩
      refine ⟨meetP q p, mem_okL.2 ⟨?_, hm⟩, ?_, ?_⟩
      · simp only [clipL, List.mem_map, List.mem_filter]
        exact ⟨q, ⟨hq, by simpa using hb⟩, rfl⟩
      · simp only [meetP]; omega
      · simp only [meetP]; omega
  · rw [if_neg hp] at hl hx
    subst hx
    constructor
    · rintro ⟨r, hr, _, _⟩
      obtain ⟨hr, _⟩ := mem_okL.1 hr
      simp only [clipL, List.mem_map, List.mem_filter] at hr
      obtain ⟨q, ⟨hq, hb⟩, rfl⟩ := hr
      have hb' : both q p := by simpa using hb
      exact absurd hb'.2.1 hp
    · intro h; exact absurd h (by rw [show okL [] = [] from rfl]; exact pts_nil t)
end Go.Proofs.Ytkejjahlglldlaa
