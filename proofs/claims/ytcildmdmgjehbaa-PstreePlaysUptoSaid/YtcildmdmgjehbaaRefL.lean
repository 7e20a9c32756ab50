/- The document's answers of layer 11: plain law. No program is named here. -/
import Derived.Test.YtcildmdmgjehbaaPstL
namespace Go.Proofs.Ytcildmdmgjehbaa

/-- Put in before the first that is behind. -/
def insStep (p : Pt) (s : List Pt × Bool) (x : Pt) : List Pt × Bool :=
  if s.2 = false ∧ (p.1 < x.1 ∨ (p.1 = x.1 ∧ p.2.2 < x.2.2)) then (s.1 ++ [p] ++ [x], true) else (s.1 ++ [x], s.2)
def insEnd (p : Pt) (s : List Pt × Bool) : List Pt := if s.2 then s.1 else s.1 ++ [p]
def insUp (p : Pt) (L : List Pt) (k : Nat) : List Pt × Bool := (L.take k).foldl (insStep p) ([], false)

theorem insUp_succ (p : Pt) (L : List Pt) (k : Nat) (x : Pt) (h : L[k]? = some x) : insUp p L (k + 1) = insStep p (insUp p L k) x := by
  simp [insUp, List.take_add_one, h, List.foldl_append]
theorem insUp_len (p : Pt) (L : List Pt) : ∀ k, (insUp p L k).1.length ≤ k + 1 ∧ ((insUp p L k).2 = false → (insUp p L k).1.length ≤ k)
  | 0 => by simp [insUp]
  | k + 1 => by
    have ih := insUp_len p L k
    cases h : L[k]? with
    | none =>
      have : insUp p L (k + 1) = insUp p L k := by simp [insUp, List.take_add_one, h]
      rw [this]
      exact ⟨by omega, fun h => by have := ih.2 h; omega⟩
    | some x =>
      rw [insUp_succ p L k x h]
      unfold insStep
      split
      · rename_i h1
        have := ih.2 h1.1
        simp; omega
      · refine ⟨by simp; omega, fun h2 => ?_⟩
        have := ih.2 h2
        simp; omega

/-- in order -/
def insSorted (p : Pt) : List Pt → List Pt
  | [] => [p]
  | x :: L => if p.1 < x.1 ∨ (p.1 = x.1 ∧ p.2.2 < x.2.2) then p :: x :: L else x :: insSorted p L
theorem ins_done (p : Pt) : ∀ (L o : List Pt), L.foldl (insStep p) (o, true) = (o ++ L, true)
  | [], o => by simp
  | x :: L, o => by
    rw [List.foldl_cons]
    have : insStep p (o, true) x = (o ++ [x], true) := by simp [insStep]
    rw [this, ins_done p L]
    simp
theorem ins_eq (p : Pt) : ∀ (L o : List Pt), insEnd p (L.foldl (insStep p) (o, false)) = o ++ insSorted p L
  | [], o => by simp [insEnd, insSorted]
  | x :: L, o => by
    rw [List.foldl_cons]
    by_cases h : p.1 < x.1 ∨ (p.1 = x.1 ∧ p.2.2 < x.2.2)
    · have : insStep p (o, false) x = (o ++ [p] ++ [x], true) := by simp [insStep, h]
      rw [this, ins_done, insSorted, if_pos h]
      simp [insEnd]
    · have : insStep p (o, false) x = (o ++ [x], false) := by simp [insStep, h]
      rw [this, ins_eq p L, insSorted, if_neg h]
      simp
theorem insSorted_perm (p : Pt) : ∀ L : List Pt, (insSorted p L).Perm (p :: L)
  | [] => by simp [insSorted]
  | x :: L => by
    rw [insSorted]
    split
    · exact List.Perm.refl _
    · exact ((insSorted_perm p L).cons x).trans (List.Perm.swap p x L)
theorem insSorted_srt (p : Pt) : ∀ L : List Pt, L.Pairwise kLt → (∀ q ∈ L, q.2.2 ≠ p.2.2) → (insSorted p L).Pairwise kLt
  | [], _, _ => by simp [insSorted]
  | x :: L, h, hid => by
    rw [List.pairwise_cons] at h
    rw [insSorted]
    split
    · rename_i hlt
      rw [List.pairwise_cons, List.pairwise_cons]
      refine ⟨fun q hq => ?_, h⟩
      rcases List.mem_cons.1 hq with rfl | hq
      · exact hlt
      · have := h.1 q hq
        unfold kLt at *
        omega
    · rename_i hlt
      rw [List.pairwise_cons]
      refine ⟨fun q hq => ?_, insSorted_srt p L h.2 (fun q hq => hid q (List.mem_cons_of_mem _ hq))⟩
      rcases List.mem_cons.1 ((insSorted_perm p L).subset hq) with rfl | hq
      · have := hid x (by simp)
        unfold kLt
        omega
      · exact h.1 q hq
theorem insAll (p : Pt) (L : List Pt) : insEnd p (insUp p L L.length) = insSorted p L := by
  rw [insUp, List.take_length, ins_eq]
  rfl

/-- The greatest so far. -/
def topUp (L : List Pt) (k : Nat) : Pt := (L.take k).foldl (fun b x => if b.2.1 < x.2.1 then x else b) (L.headD (0, 0, 0))
theorem topUp_succ (L : List Pt) (k : Nat) (x : Pt) (h : L[k]? = some x) : topUp L (k + 1) = if (topUp L k).2.1 < x.2.1 then x else topUp L k := by
  simp [topUp, List.take_add_one, h, List.foldl_append]
theorem topUp_one (x : Pt) (L : List Pt) : topUp (x :: L) 1 = x := by simp [topUp]
theorem topUp_max (L : List Pt) (hs : L.Pairwise kLt) : ∀ k, 0 < k → k ≤ L.length → topUp L k ∈ L.take k ∧ ∀ q ∈ L.take k, q = topUp L k ∨ kAb (topUp L k) q := by
  intro k
  induction k with
  | zero => intro h; omega
  | succ k ih =>
    intro _ hk
    obtain ⟨x, hx⟩ : ∃ x, L[k]? = some x := ⟨L[k]'(by omega), by rw [List.getElem?_eq_getElem]⟩
    by_cases h0 : k = 0
    · subst h0
      match L, hx with
      | y :: M, hx =>
        simp at hx; subst hx
        rw [topUp_one]
        simp
    · obtain ⟨h1, h2⟩ := ih (by omega) (by omega)
      have hb : kLt (topUp L k) x := by
        obtain ⟨i, hi, he⟩ := List.getElem_of_mem h1
        have hi' : i < k := by simp at hi; omega
        obtain ⟨hkl, rfl⟩ := List.getElem?_eq_some_iff.1 hx
        rw [List.getElem_take] at he
        rw [← he]
        exact List.pairwise_iff_getElem.1 hs i k _ hkl hi'
      rw [topUp_succ L k x hx, List.take_add_one, hx]
      simp only [Option.toList_some, List.mem_append, List.mem_singleton]
      by_cases hlt : (topUp L k).2.1 < x.2.1
      · rw [if_pos hlt]
        refine ⟨.inr rfl, fun q hq => ?_⟩
        rcases hq with hq | rfl
        · rcases h2 q hq with rfl | h
          · exact .inr (.inl hlt)
          · right
            unfold kAb at *
            omega
        · exact .inl rfl
      · rw [if_neg hlt]
        refine ⟨.inl h1, fun q hq => ?_⟩
        rcases hq with hq | rfl
        · exact h2 q hq
        · right
          unfold kAb
          by_cases he : q.2.1 < (topUp L k).2.1
          · exact .inl he
          · exact .inr ⟨by omega, hb⟩
theorem topUp_eq (L : List Pt) (hs : L.Pairwise kLt) (hne : L ≠ []) (p : Pt) (hp : p ∈ L) (hm : ∀ q ∈ L, q = p ∨ kAb p q) : topUp L L.length = p := by
  obtain ⟨h1, h2⟩ := topUp_max L hs L.length (List.length_pos_iff.2 hne) (Nat.le_refl _)
  rw [List.take_length] at h1 h2
  rcases hm _ h1 with h | h
  · exact h
  · rcases h2 p hp with h' | h'
    · exact h'.symm
    · unfold kAb kLt at *
      omega
end Go.Proofs.Ytcildmdmgjehbaa
