/- Signs by their list; quotes doubled by strings.ReplaceAll's plain function; capitals: plain law. No program is named here. -/
import Derived.Test.YtaiedccjaahmgaaDoorLexM
import Derived.Lib.Replace
import Derived.Lib.Strings
import Derived.Lib.Case
namespace Go.Proofs.YtaiedccjaahmgaaDoor

/-- The signs, the longer ones first. -/
def signL : List (List UInt8) := [[60, 62], [60, 61], [62, 61], [40], [41], [44], [59], [46], [61], [60], [62], [43], [45], [42]]
theorem sgn_find (x : UInt8) (r : List UInt8) : sgn x r = signL.find? (fun s => Lib.hasPrefix (x :: r) s) := by
  have h1 : ∀ y : UInt8, Lib.hasPrefix (x :: r) [y] = (y == x) := fun y => by simp [Lib.hasPrefix, List.isPrefixOf]
  cases r with
  | nil =>
    have h2 : ∀ y z : UInt8, Lib.hasPrefix [x] [y, z] = false := fun y z => by simp [Lib.hasPrefix, List.isPrefixOf]
    simp only [signL, List.find?, h1, h2, sgn, sgnOne]
    by_cases hm : x ∈ ([40, 41, 44, 59, 46, 61, 60, 62, 43, 45, 42] : List UInt8)
    · rw [if_pos hm]
      simp only [List.mem_cons, List.not_mem_nil, or_false] at hm
      rcases hm with rfl | rfl | rfl | rfl | rfl | rfl | rfl | rfl | rfl | rfl | rfl <;> rfl
    · rw [if_neg hm]
      simp only [List.mem_cons, List.not_mem_nil, or_false, not_or] at hm
      simp only [fun y : UInt8 => show (y == x) = decide (y = x) from rfl, eq_comm (b := x), hm, decide_false]
  | cons z r =>
    have h2 : ∀ y u : UInt8, Lib.hasPrefix (x :: z :: r) [y, u] = (y == x && u == z) := fun y u => by simp [Lib.hasPrefix, List.isPrefixOf]
    simp only [signL, List.find?, h1, h2, sgn, sgnOne]
    by_cases hc : (x = 60 ∧ (z = 62 ∨ z = 61)) ∨ (x = 62 ∧ z = 61)
    · rw [if_pos hc]
      rcases hc with ⟨rfl, rfl | rfl⟩ | ⟨rfl, rfl⟩ <;> rfl
    · rw [if_neg hc]
      have e1 : ((60 : UInt8) == x && (62 : UInt8) == z) = false := by
        rw [Bool.and_eq_false_iff]; simp only [beq_eq_false_iff_ne, ne_eq]
        by_cases h : (60 : UInt8) = x
        · right; intro h'; exact hc (.inl ⟨h.symm, .inl h'.symm⟩)
        · exact .inl h
      have e2 : ((60 : UInt8) == x && (61 : UInt8) == z) = false := by
        rw [Bool.and_eq_false_iff]; simp only [beq_eq_false_iff_ne, ne_eq]
        by_cases h : (60 : UInt8) = x
        · right; intro h'; exact hc (.inl ⟨h.symm, .inr h'.symm⟩)
        · exact .inl h
      have e3 : ((62 : UInt8) == x && (61 : UInt8) == z) = false := by
        rw [Bool.and_eq_false_iff]; simp only [beq_eq_false_iff_ne, ne_eq]
        by_cases h : (62 : UInt8) = x
        · right; intro h'; exact hc (.inr ⟨h.symm, h'.symm⟩)
        · exact .inl h
      rw [e1, e2, e3]
      by_cases hm : x ∈ ([40, 41, 44, 59, 46, 61, 60, 62, 43, 45, 42] : List UInt8)
      · rw [if_pos hm]
        simp only [List.mem_cons, List.not_mem_nil, or_false] at hm
        rcases hm with rfl | rfl | rfl | rfl | rfl | rfl | rfl | rfl | rfl | rfl | rfl <;> rfl
      · rw [if_neg hm]
        simp only [List.mem_cons, List.not_mem_nil, or_false, not_or] at hm
        simp only [fun y : UInt8 => show (y == x) = decide (y = x) from rfl, eq_comm (b := x), hm, decide_false]

/-- Capitals as strings.ToUpper makes them. -/
theorem up_eq (x : UInt8) : Lib.upperB x = up x := by
  have hd : ∀ n : Fin 256, Lib.upperB (UInt8.ofNat n.val) = up (UInt8.ofNat n.val) := by decide +kernel
  have := hd ⟨x.toNat, x.toNat_lt⟩
  simpa using this
theorem toUpper_eq (l : List UInt8) : Lib.toUpperA l = l.map up := by
  unfold Lib.toUpperA
  exact List.map_congr_left fun x _ => up_eq x

theorem dbl_append (a b : List UInt8) : dbl (a ++ b) = dbl a ++ dbl b := by simp [dbl]
theorem dbl_none : ∀ {l : List UInt8}, (39 : UInt8) ∉ l → dbl l = l
  | [], _ => rfl
  | x :: r, h => by
    simp only [List.mem_cons, not_or] at h
    rw [dbl_cons, if_neg (fun e => h.1 e.symm), dbl_none h.2]; rfl
theorem index_at {c : UInt8} : ∀ (a b : List UInt8), c ∉ a → Lib.index (a ++ c :: b) [c] = (a.length : Nat)
  | [], b, _ => by simp [Lib.index_one, Lib.indexByte]
  | x :: a, b, h => by
    simp only [List.mem_cons, not_or] at h
    have ih := index_at a b h.2
    rw [Lib.index_one] at ih ⊢
    have hx : (x == c) = false := by simpa using fun e => h.1 e.symm
    simp [Lib.indexByte, hx, ih]
theorem split_first {c : UInt8} : ∀ {s : List UInt8}, c ∈ s → ∃ a b, s = a ++ c :: b ∧ c ∉ a
  | [], h => by simp at h
  | x :: r, h => by
    by_cases hx : x = c
    · subst hx; exact ⟨[], r, rfl, by simp⟩
    · obtain ⟨a, b, h1, h2⟩ := split_first (s := r) (by simpa [Ne.symm hx] using h)
      exact ⟨x :: a, b, by rw [h1]; rfl, by simp [h2, Ne.symm hx]⟩
theorem replaceK_dbl : ∀ (n : Nat) (s : List UInt8), s.length ≤ n → Lib.replaceK [39] [39, 39] (s.count 39) s = dbl s
  | 0, s, h => by
    have := List.eq_nil_of_length_eq_zero (Nat.le_zero.1 h)
    subst this; rfl
  | n + 1, s, h => by
    by_cases hm : (39 : UInt8) ∈ s
    · obtain ⟨a, b, rfl, ha⟩ := split_first hm
      have hc : (a ++ 39 :: b).count (39 : UInt8) = b.count 39 + 1 := by
        rw [List.count_append, List.count_eq_zero.2 ha, List.count_cons_self]; omega
      rw [hc, Lib.replaceK_hit _ _ _ _ _ (index_at a b ha)]
      have hd : (a ++ 39 :: b).drop (a.length + [(39 : UInt8)].length) = b := by
        rw [show a ++ 39 :: b = (a ++ [39]) ++ b by simp, show a.length + [(39 : UInt8)].length = (a ++ [(39 : UInt8)]).length by simp, List.drop_left]
      rw [hd, replaceK_dbl n b (by simp at h; omega), dbl_append, dbl_none ha, dbl_cons, if_pos rfl, List.take_left]
      simp
    · rw [List.count_eq_zero.2 hm, dbl_none hm]; rfl
theorem replaceAll_dbl (s : List UInt8) : Lib.replaceAll s [39] [39, 39] = dbl s := by
  have h : ([39] == ([39, 39] : List UInt8)) = false := by decide
  simp only [Lib.replaceAll, Lib.replace, h, Lib.replaceNum, Bool.false_eq_true, if_false]
  rw [if_pos (Or.inl (by omega)), Lib.count_one]
  exact replaceK_dbl s.length s (Nat.le_refl _)
end Go.Proofs.YtaiedccjaahmgaaDoor
