/- Numbers and quotes as tokens: plain law. No program is named here. -/
import Derived.Test.YtaiedccjaahmgaaDoorLexL
namespace Go.Proofs.YtaiedccjaahmgaaDoor

theorem val_foldl (l : List UInt8) : ∀ a : Nat, l.foldl (fun n d => n * 10 + (d.toNat - 48)) a = a * 10 ^ l.length + val l := by
  induction l with
  | nil => intro a; simp [val]
  | cons x r ih =>
    intro a
    have h1 := ih (a * 10 + (x.toNat - 48))
    have h2 := ih (0 * 10 + (x.toNat - 48))
    simp only [List.foldl_cons, val, List.length_cons] at *
    rw [h1, h2, Nat.pow_succ, Nat.add_mul, Nat.add_mul]
    have : a * (10 ^ r.length * 10) = a * 10 * 10 ^ r.length := by rw [Nat.mul_comm (10 ^ r.length) 10, Nat.mul_assoc]
    rw [this]
    simp only [Nat.zero_mul, Nat.zero_add]
    omega
theorem val_cons (x : UInt8) (r : List UInt8) : val (x :: r) = (x.toNat - 48) * 10 ^ r.length + val r := by
  have := val_foldl r (0 * 10 + (x.toNat - 48))
  simp only [Nat.zero_mul, Nat.zero_add] at this
  rw [← this]
  simp [val]
theorem val_snoc (l : List UInt8) (x : UInt8) : val (l ++ [x]) = val l * 10 + (x.toNat - 48) := by simp [val]
theorem val_lt : ∀ l : List UInt8, (∀ x ∈ l, isD x = true) → val l < 10 ^ l.length
  | [], _ => by simp [val]
  | x :: r, h => by
    have h1 := val_lt r (fun y hy => h y (List.mem_cons_of_mem _ hy))
    have h2 := h x (List.mem_cons_self ..)
    simp only [isD, decide_eq_true_eq] at h2
    rw [val_cons, List.length_cons, Nat.pow_succ]
    have : (x.toNat - 48) * 10 ^ r.length ≤ 9 * 10 ^ r.length := Nat.mul_le_mul_right _ (by omega)
    omega
theorem takeWhile_all {p : UInt8 → Bool} : ∀ {l : List UInt8}, (∀ x ∈ l, p x = true) → l.takeWhile p = l ∧ l.dropWhile p = []
  | [], _ => by simp
  | x :: r, h => by
    have h1 := h x (List.mem_cons_self ..)
    obtain ⟨h2, h3⟩ := takeWhile_all (l := r) (fun y hy => h y (List.mem_cons_of_mem _ hy))
    simp [List.takeWhile_cons, List.dropWhile_cons, h1, h2, h3]
/-- Digits alone: one token, or none. -/
theorem tk_digits {l : List UInt8} (h : ∀ x ∈ l, isD x = true) (hne : l ≠ []) (p : Nat) : tk p l = if l.length ≤ 18 then .inr [(2, [], val l, p)] else .inl p := by
  cases l with
  | nil => exact absurd rfl hne
  | cons x r =>
    obtain ⟨h1, h2⟩ := takeWhile_all h
    have hx := h x (List.mem_cons_self ..)
    have hL : isL x = false := by
      cases hl : isL x with
      | false => rfl
      | true => rw [isL_d hl] at hx; cases hx
    have ho : one (x :: r) = if (x :: r).length ≤ 18 then some (2, [], val (x :: r), (x :: r).length) else none := by
      rw [one_cons, hL, hx, h1, h2]
      simp [headL]
    split
    · rename_i hl
      rw [if_pos hl] at ho
      rw [tk_some ho, List.drop_length, tk_nil]; rfl
    · rename_i hl
      rw [if_neg hl] at ho
      exact tk_none (isD_b hx) ho

/-- Quotes doubled. -/
def dbl (l : List UInt8) : List UInt8 := l.flatMap fun x => if x = 39 then [39, 39] else [x]
def quoted (l : List UInt8) : List UInt8 := 39 :: (dbl l ++ [39])
theorem dbl_cons (x : UInt8) (r : List UInt8) : dbl (x :: r) = (if x = 39 then [39, 39] else [x]) ++ dbl r := by simp [dbl]
theorem dbl_snoc (l : List UInt8) (x : UInt8) : dbl (l ++ [x]) = dbl l ++ (if x = 39 then [39, 39] else [x]) := by simp [dbl]
theorem quo_dbl : ∀ l : List UInt8, quo (dbl l ++ [39]) = some (l, (dbl l).length + 1)
  | [] => by simp [dbl, quo]
  | x :: r => by
    have ih := quo_dbl r
    by_cases hx : x = 39
    · subst hx
      rw [dbl_cons, if_pos rfl]
      simp only [List.cons_append, List.nil_append]
      rw [quo.eq_def]
      simp only [if_true]
      rw [ih]
      simp
    · rw [dbl_cons, if_neg hx]
      simp only [List.cons_append, List.nil_append]
      rw [quo.eq_def]
      simp only [if_neg hx]
      rw [ih]
      simp
theorem tk_quoted (l : List UInt8) (p : Nat) : tk p (quoted l) = .inr [(3, l, 0, p)] := by
  have h1 : isL 39 = false := by decide
  have h2 : isD 39 = false := by decide
  have ho : one (quoted l) = some (3, l, 0, (dbl l).length + 2) := by
    unfold quoted
    rw [one_cons, h1, h2, if_pos rfl, quo_dbl]
    simp
  unfold quoted at *
  rw [tk_some ho]
  have : (39 :: (dbl l ++ [39])).drop ((dbl l).length + 2) = [] := List.drop_eq_nil_of_le (by simp)
  rw [this, tk_nil]; rfl
theorem dbl_le (l : List UInt8) : (dbl l).length ≤ 2 * l.length := by
  induction l with
  | nil => simp [dbl]
  | cons x r ih => rw [dbl_cons]; split <;> simp <;> omega

/-! ### Blanks between words -/
/-- Blanks alone before a text change places. -/
theorem tk_blanks : ∀ (bs : List UInt8) (p : Nat) (l : List UInt8), (∀ x ∈ bs, isB x = true) → tk p (bs ++ l) = tk (p + bs.length) l
  | [], _, _, _ => rfl
  | x :: r, p, l, h => by
    rw [List.cons_append, tk_blank (h x (List.mem_cons_self ..)), tk_blanks r _ l (fun y hy => h y (List.mem_cons_of_mem _ hy)), List.length_cons]
    congr 1; omega
/-- Words, each with blanks behind it. -/
def spaced : List (List UInt8 × List UInt8) → List UInt8
  | [] => []
  | (w, b) :: r => w ++ b ++ spaced r
/-- A token without its place. -/
def bareT (t : Tok) : Tok := (t.1, t.2.1, t.2.2.1, 0)
theorem shift_bare (d : Nat) (t : Tok) : bareT (shiftT d t) = bareT t := rfl
theorem tk_spaced : ∀ (ws : List (List UInt8 × List UInt8)) (ts : List Tok) (p : Nat), ws.length = ts.length → (∀ (i : Nat) (w b : List UInt8) (t : Tok), ws[i]? = some (w, b) → ts[i]? = some t → tk 0 w = .inr [t] ∧ b ≠ [] ∧ ∀ x ∈ b, isB x = true) →
    ∃ us, tk p (spaced ws) = .inr us ∧ us.map bareT = ts.map bareT
  | [], [], p, _, _ => ⟨[], tk_nil p, rfl⟩
  | [], t :: ts, _, h, _ => by simp at h
  | w :: ws, [], _, h, _ => by simp at h
  | (w, b) :: ws, t :: ts, p, h, hall => by
    obtain ⟨h1, h2, h3⟩ := hall 0 w b t rfl rfl
    cases b with
    | nil => exact absurd rfl h2
    | cons y b =>
      have hw : tk p w = .inr [shiftT p t] := by
        have := tk_shift p 0 w
        rw [Nat.zero_add, h1] at this
        exact this
      obtain ⟨us, h4, h5⟩ := tk_spaced ws ts (p + w.length + 1 + b.length) (by simpa using h) (fun i w' b' t' hi ht => hall (i + 1) w' b' t' (by simpa using hi) (by simpa using ht))
      refine ⟨shiftT p t :: us, ?_, by simp [h5, shift_bare]⟩
      have he : spaced ((w, y :: b) :: ws) = w ++ y :: (b ++ spaced ws) := by simp [spaced]
      rw [he, tk_join (h3 y (List.mem_cons_self ..)) _ w.length w p _ (Nat.le_refl _) hw, tk_blanks b _ _ (fun x hx => h3 x (List.mem_cons_of_mem _ hx)), h4]
      rfl
end Go.Proofs.YtaiedccjaahmgaaDoor
