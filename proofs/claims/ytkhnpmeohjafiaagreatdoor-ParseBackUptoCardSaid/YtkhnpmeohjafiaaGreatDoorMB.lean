/- The tokens of a text: plain law. No program is named here. Numbers and quotes as tokens: plain law. No program is named here. Signs by their list; quotes doubled by strings.ReplaceAll's plain function; capitals: plain law. No program is named here. -/
import Derived.WalkKit
import Derived.Lib.Replace
import Derived.Lib.Strings
import Derived.Lib.Case
namespace Go.Proofs.YtkhnpmeohjafiaaGreatDoor

/-- A token: its kind, its text, its number, its place. -/
abbrev Tok := Nat × List UInt8 × Nat × Nat

def isL (x : UInt8) : Bool := decide (97 ≤ x.toNat ∧ x.toNat ≤ 122 ∨ 65 ≤ x.toNat ∧ x.toNat ≤ 90 ∨ x.toNat = 95)
def isD (x : UInt8) : Bool := decide (48 ≤ x.toNat ∧ x.toNat ≤ 57)
def isB (x : UInt8) : Bool := decide (x.toNat = 32 ∨ x.toNat = 9 ∨ x.toNat = 10)
def isW (x : UInt8) : Bool := isL x || isD x
def up (x : UInt8) : UInt8 := if 97 ≤ x.toNat ∧ x.toNat ≤ 122 then UInt8.ofNat (x.toNat - 32) else x
def val (l : List UInt8) : Nat := l.foldl (fun n d => n * 10 + (d.toNat - 48)) 0

/-- What stands behind an opening quote: the text, and how many bytes it takes with the closing one. -/
def quo : List UInt8 → Option (List UInt8 × Nat)
  | [] => none
  | x :: r => if x = 39 then
      match r with
      | [] => some ([], 1)
      | y :: r' => if y = 39 then (quo r').map (fun q => (39 :: q.1, q.2 + 2)) else some ([], 1)
    else (quo r).map (fun q => (x :: q.1, q.2 + 1))
def sgnOne (x : UInt8) : Option (List UInt8) := if x ∈ [40, 41, 44, 59, 46, 61, 60, 62, 43, 45, 42] then some [x] else none
def sgn (x : UInt8) : List UInt8 → Option (List UInt8)
  | y :: _ => if (x = 60 ∧ (y = 62 ∨ y = 61)) ∨ (x = 62 ∧ y = 61) then some [x, y] else sgnOne x
  | [] => sgnOne x
def headL (l : List UInt8) : Bool := match l with | [] => false | x :: _ => isL x
/-- The token at the beginning: kind, text, number, how many bytes. -/
def one : List UInt8 → Option (Nat × List UInt8 × Nat × Nat)
  | [] => none
  | x :: r =>
    if isL x then some (1, ((x :: r).takeWhile isW).map up, 0, ((x :: r).takeWhile isW).length)
    else if isD x then
      (if ((x :: r).takeWhile isD).length ≤ 18 ∧ headL ((x :: r).dropWhile isD) = false then some (2, [], val ((x :: r).takeWhile isD), ((x :: r).takeWhile isD).length) else none)
    else if x = 39 then (quo r).map (fun q => (3, q.1, 0, q.2 + 1))
    else (sgn x r).map (fun s => (4, s, 0, s.length))

def consT (t : Tok) : Nat ⊕ List Tok → Nat ⊕ List Tok
  | .inl p => .inl p
  | .inr ts => .inr (t :: ts)
def toks : Nat → Nat → List UInt8 → Nat ⊕ List Tok
  | 0, _, _ => .inr []
  | _ + 1, _, [] => .inr []
  | f + 1, p, x :: r => if isB x then toks f (p + 1) r else
      match one (x :: r) with
      | none => .inl p
      | some (k, t, n, m) => consT (k, t, n, p) (toks f (p + m) ((x :: r).drop m))
def tk (p : Nat) (l : List UInt8) : Nat ⊕ List Tok := toks l.length p l
/-- A text's tokens, or a fault's code and place. -/
def lexOf (l : List UInt8) : (Nat × Nat) ⊕ List Tok :=
  if 4096 < l.length then .inl (2, 4096) else match tk 0 l with
    | .inl p => .inl (140, p)
    | .inr ts => .inr ts

theorem one_cons (x : UInt8) (r : List UInt8) : one (x :: r) =
    if isL x then some (1, ((x :: r).takeWhile isW).map up, 0, ((x :: r).takeWhile isW).length)
    else if isD x then
      (if ((x :: r).takeWhile isD).length ≤ 18 ∧ headL ((x :: r).dropWhile isD) = false then some (2, [], val ((x :: r).takeWhile isD), ((x :: r).takeWhile isD).length) else none)
    else if x = 39 then (quo r).map (fun q => (3, q.1, 0, q.2 + 1))
    else (sgn x r).map (fun s => (4, s, 0, s.length)) := rfl

theorem byte_lt' (x : UInt8) : x.toNat < 256 := x.toNat_lt
theorem isL_d {x : UInt8} (h : isL x = true) : isD x = false := by simp only [isL, isD, decide_eq_true_eq, decide_eq_false_iff_not] at *; omega
theorem isL_b {x : UInt8} (h : isL x = true) : isB x = false := by simp only [isL, isB, decide_eq_true_eq, decide_eq_false_iff_not] at *; omega
theorem isD_b {x : UInt8} (h : isD x = true) : isB x = false := by simp only [isD, isB, decide_eq_true_eq, decide_eq_false_iff_not] at *; omega
theorem isB_w {x : UInt8} (h : isB x = true) : isL x = false ∧ isD x = false ∧ isW x = false := by
  have h1 : isL x = false := by simp only [isL, isB, decide_eq_true_eq, decide_eq_false_iff_not] at *; omega
  have h2 : isD x = false := by simp only [isD, isB, decide_eq_true_eq, decide_eq_false_iff_not] at *; omega
  exact ⟨h1, h2, by simp [isW, h1, h2]⟩
theorem isB_ne {x : UInt8} (h : isB x = true) : x ≠ 39 := by rintro rfl; simp [isB] at h

theorem quo_le : ∀ (l t : List UInt8) (m : Nat), quo l = some (t, m) → 1 ≤ m ∧ m ≤ l.length
  | [], t, m, h => by simp [quo] at h
  | [x], t, m, h => by
    rw [quo.eq_def] at h
    simp only at h
    split at h
    · simp at h; simp; omega
    · simp [quo] at h
  | x :: y :: r, t, m, h => by
    rw [quo.eq_def] at h
    simp only at h
    split at h
    · split at h
      · cases hq : quo r with
        | none => rw [hq] at h; simp at h
        | some q =>
          rw [hq] at h
          have := quo_le r q.1 q.2 hq
          simp at h
          simp; omega
      · simp at h; simp; omega
    · cases hq : quo (y :: r) with
      | none => rw [hq] at h; simp at h
      | some q =>
        rw [hq] at h
        have := quo_le (y :: r) q.1 q.2 hq
        simp at h this
        simp; omega
theorem sgn_le {x : UInt8} {r s : List UInt8} (h : sgn x r = some s) : 1 ≤ s.length ∧ s.length ≤ r.length + 1 := by
  unfold sgn sgnOne at h
  split at h
  · split at h
    · simp at h; subst h; simp
    · split at h
      · simp at h; subst h; simp
      · simp at h
  · split at h
    · simp at h; subst h; simp
    · simp at h
theorem takeWhile_pos {p : UInt8 → Bool} {x : UInt8} {r : List UInt8} (h : p x = true) : 1 ≤ ((x :: r).takeWhile p).length := by
  rw [List.takeWhile_cons, h]; simp
theorem takeWhile_le (p : UInt8 → Bool) (l : List UInt8) : (l.takeWhile p).length ≤ l.length := (List.takeWhile_sublist p).length_le
theorem one_le {l : List UInt8} {k n m : Nat} {t : List UInt8} (h : one l = some (k, t, n, m)) : 1 ≤ m ∧ m ≤ l.length := by
  cases l with
  | nil => simp [one] at h
  | cons x r =>
    rw [one_cons] at h
    split at h
    · rename_i hx
      simp only [Option.some.injEq, Prod.mk.injEq] at h
      obtain ⟨_, _, _, rfl⟩ := h
      exact ⟨takeWhile_pos (by simp [isW, hx]), takeWhile_le _ _⟩
    · split at h
      · rename_i hx
        split at h
        · simp only [Option.some.injEq, Prod.mk.injEq] at h
          obtain ⟨_, _, _, rfl⟩ := h
          exact ⟨takeWhile_pos hx, takeWhile_le _ _⟩
        · cases h
      · split at h
        · cases hq : quo r with
          | none => rw [hq] at h; simp at h
          | some q =>
            rw [hq] at h
            have := quo_le r q.1 q.2 hq
            simp at h
            simp; omega
        · cases hq : sgn x r with
          | none => rw [hq] at h; simp at h
          | some q =>
            rw [hq] at h
            have := sgn_le hq
            simp at h
            simp; omega

theorem toks_fuel : ∀ (f g p : Nat) (l : List UInt8), l.length ≤ f → l.length ≤ g → toks f p l = toks g p l
  | 0, 0, _, _, _, _ => rfl
  | 0, g + 1, p, l, h, _ => by
    have := List.eq_nil_of_length_eq_zero (Nat.le_zero.1 h)
    subst this; rfl
  | f + 1, 0, p, l, _, h => by
    have := List.eq_nil_of_length_eq_zero (Nat.le_zero.1 h)
    subst this; rfl
  | f + 1, g + 1, p, [], _, _ => rfl
  | f + 1, g + 1, p, x :: r, hf, hg => by
    simp only [List.length_cons] at hf hg
    simp only [toks]
    split
    · exact toks_fuel f g (p + 1) r (by omega) (by omega)
    · cases ho : one (x :: r) with
      | none => rfl
      | some q =>
        obtain ⟨k, t, n, m⟩ := q
        have := one_le ho
        simp only
        rw [toks_fuel f g (p + m) _ (by simp; omega) (by simp; omega)]
theorem tk_nil (p : Nat) : tk p [] = .inr [] := rfl
theorem tk_blank {p : Nat} {x : UInt8} {r : List UInt8} (h : isB x = true) : tk p (x :: r) = tk (p + 1) r := by
  show toks (r.length + 1) p (x :: r) = _
  simp only [toks, h, if_true]
  rfl
theorem tk_none {p : Nat} {x : UInt8} {r : List UInt8} (h : isB x = false) (ho : one (x :: r) = none) : tk p (x :: r) = .inl p := by
  show toks (r.length + 1) p (x :: r) = _
  simp only [toks, h, Bool.false_eq_true, if_false, ho]
theorem one_blank {x : UInt8} {r : List UInt8} (h : isB x = true) : one (x :: r) = none := by
  obtain ⟨h1, h2, h3⟩ := isB_w h
  have h4 := isB_ne h
  rw [one_cons, h1, h2, if_neg h4]
  have hs : sgnOne x = none := by
    unfold sgnOne
    rw [if_neg]
    intro hm
    simp only [List.mem_cons, List.not_mem_nil, or_false] at hm
    rcases hm with rfl | rfl | rfl | rfl | rfl | rfl | rfl | rfl | rfl | rfl | rfl <;> simp [isB] at h
  have : sgn x r = none := by
    cases r with
    | nil => exact hs
    | cons y r =>
      unfold sgn
      simp only
      rw [if_neg, hs]
      rintro (⟨rfl, _⟩ | ⟨rfl, _⟩) <;> simp [isB] at h
  simp [this]
theorem tk_some {p k n m : Nat} {x : UInt8} {r t : List UInt8} (ho : one (x :: r) = some (k, t, n, m)) : tk p (x :: r) = consT (k, t, n, p) (tk (p + m) ((x :: r).drop m)) := by
  have hb : isB x = false := by
    cases h : isB x with
    | false => rfl
    | true => rw [one_blank h] at ho; cases ho
  have := one_le ho
  show toks (r.length + 1) p (x :: r) = _
  simp only [toks, hb, Bool.false_eq_true, if_false, ho]
  unfold tk
  rw [toks_fuel r.length _ _ _ (by simp at *; omega) (Nat.le_refl _)]

/-- The tokens, each so much further on. -/
def shiftT (d : Nat) (t : Tok) : Tok := (t.1, t.2.1, t.2.2.1, t.2.2.2 + d)
def shiftR (d : Nat) : Nat ⊕ List Tok → Nat ⊕ List Tok
  | .inl p => .inl (p + d)
  | .inr ts => .inr (ts.map (shiftT d))
theorem toks_shift (d : Nat) : ∀ (f p : Nat) (l : List UInt8), toks f (p + d) l = shiftR d (toks f p l)
  | 0, _, _ => rfl
  | f + 1, p, [] => rfl
  | f + 1, p, x :: r => by
    simp only [toks]
    split
    · rw [show p + d + 1 = (p + 1) + d by omega]; exact toks_shift d f (p + 1) r
    · split
      · rfl
      · rename_i k t n m _
        rw [show p + d + m = (p + m) + d by omega, toks_shift d f (p + m)]
        cases toks f (p + m) ((x :: r).drop m) <;> rfl
theorem tk_shift (d p : Nat) (l : List UInt8) : tk (p + d) l = shiftR d (tk p l) := toks_shift d _ p l

/-! ### Texts side by side -/
theorem takeWhile_blank {p : UInt8 → Bool} {l b : List UInt8} {y : UInt8} (hy : p y = false) : (l ++ y :: b).takeWhile p = l.takeWhile p := by
  induction l with
  | nil => simp [List.takeWhile_cons, hy]
  | cons x r ih => simp only [List.cons_append, List.takeWhile_cons, ih]
theorem dropWhile_blank {p : UInt8 → Bool} {l b : List UInt8} {y : UInt8} (hy : p y = false) : (l ++ y :: b).dropWhile p = l.dropWhile p ++ y :: b := by
  induction l with
  | nil => simp [List.dropWhile_cons, hy]
  | cons x r ih =>
    simp only [List.cons_append, List.dropWhile_cons, ih]
    split <;> rfl
theorem quo_blank {y : UInt8} (hy : y ≠ 39) (b : List UInt8) : ∀ (l t : List UInt8) (m : Nat), quo l = some (t, m) → quo (l ++ y :: b) = some (t, m)
  | [], t, m, h => by simp [quo] at h
  | [x], t, m, h => by
    by_cases hx : x = 39
    · subst hx
      rw [quo.eq_def] at h
      simp only [if_true] at h
      rw [quo.eq_def]
      simp [hy] at h ⊢
      exact h
    · rw [quo.eq_def] at h
      simp [hx, quo] at h
  | x :: z :: r, t, m, h => by
    rw [quo.eq_def] at h
    simp only at h
    rw [List.cons_append, List.cons_append, quo.eq_def]
    simp only
    split at h
    · rename_i hx
      rw [if_pos hx]
      split at h
      · rename_i hz
        rw [if_pos hz]
        cases hq : quo r with
        | none => rw [hq] at h; simp at h
        | some q => rw [quo_blank hy b r q.1 q.2 hq]; rw [hq] at h; exact h
      · rename_i hz
        rw [if_neg hz]; exact h
    · rename_i hx
      rw [if_neg hx]
      cases hq : quo (z :: r) with
      | none => rw [hq] at h; simp at h
      | some q => rw [← List.cons_append, quo_blank hy b (z :: r) q.1 q.2 hq]; rw [hq] at h; exact h
theorem sgn_blank {x y : UInt8} (hy : isB y = true) {r s : List UInt8} (b : List UInt8) (h : sgn x r = some s) : sgn x (r ++ y :: b) = some s := by
  cases r with
  | nil =>
    simp only [List.nil_append]
    unfold sgn at h ⊢
    simp only at h ⊢
    rw [if_neg, h]
    rintro (⟨_, rfl | rfl⟩ | ⟨_, rfl⟩) <;> simp [isB] at hy
  | cons z r => exact h
theorem headL_blank {l b : List UInt8} {y : UInt8} (hy : isL y = false) (h : headL l = false) : headL (l ++ y :: b) = false := by
  cases l with
  | nil => exact hy
  | cons x r => exact h
theorem one_next {y : UInt8} (hy : isB y = true) (b : List UInt8) {l : List UInt8} {z : Nat × List UInt8 × Nat × Nat} (h : one l = some z) : one (l ++ y :: b) = some z := by
  obtain ⟨h1, h2, h3⟩ := isB_w hy
  cases l with
  | nil => simp [one] at h
  | cons x r =>
    rw [List.cons_append]
    rw [one_cons] at h ⊢
    split at h
    · rename_i hx
      rw [if_pos hx, ← List.cons_append, takeWhile_blank h3]; exact h
    · rename_i hx
      rw [if_neg hx]
      split at h
      · rename_i hd
        rw [if_pos hd, ← List.cons_append, takeWhile_blank h2, dropWhile_blank h2]
        split at h
        · rename_i hc
          rw [if_pos ⟨hc.1, headL_blank h1 hc.2⟩]; exact h
        · cases h
      · rename_i hd
        rw [if_neg hd]
        split at h
        · rename_i hq
          rw [if_pos hq]
          cases hr : quo r with
          | none => rw [hr] at h; simp at h
          | some q => rw [quo_blank (isB_ne hy) b r q.1 q.2 hr]; rw [hr] at h; exact h
        · rename_i hq
          rw [if_neg hq]
          cases hr : sgn x r with
          | none => rw [hr] at h; simp at h
          | some s => rw [sgn_blank hy b hr]; rw [hr] at h; exact h
def appR (ts : List Tok) : Nat ⊕ List Tok → Nat ⊕ List Tok
  | .inl p => .inl p
  | .inr us => .inr (ts ++ us)
theorem appR_cons (t : Tok) (ts : List Tok) (R : Nat ⊕ List Tok) : appR (t :: ts) R = consT t (appR ts R) := by cases R <;> rfl
theorem appR_nil (R : Nat ⊕ List Tok) : appR [] R = R := by cases R <;> rfl
/-- A text whose tokens are right, then a blank: its tokens, then those of what follows. -/
theorem tk_join {y : UInt8} (hy : isB y = true) (b : List UInt8) : ∀ (n : Nat) (l : List UInt8) (p : Nat) (ts : List Tok), l.length ≤ n → tk p l = .inr ts → tk p (l ++ y :: b) = appR ts (tk (p + l.length + 1) b)
  | 0, l, p, ts, hn, h => by
    have := List.eq_nil_of_length_eq_zero (Nat.le_zero.1 hn)
    subst this
    rw [tk_nil] at h
    cases h
    rw [appR_nil, List.nil_append, tk_blank hy]; rfl
  | n + 1, [], p, ts, hn, h => by
    rw [tk_nil] at h
    cases h
    rw [appR_nil, List.nil_append, tk_blank hy]; rfl
  | n + 1, x :: r, p, ts, hn, h => by
    simp only [List.length_cons] at hn
    cases hb : isB x with
    | true =>
      rw [tk_blank hb] at h
      rw [List.cons_append, tk_blank hb, tk_join hy b n r (p + 1) ts (by omega) h, List.length_cons]
      congr 2; omega
    | false =>
      cases ho : one (x :: r) with
      | none => rw [tk_none hb ho] at h; cases h
      | some z =>
        obtain ⟨k, t, v, m⟩ := z
        have hm := one_le ho
        rw [tk_some ho] at h
        have ho2 := one_next hy b ho
        rw [List.cons_append] at ho2 ⊢
        rw [tk_some ho2, ← List.cons_append, List.drop_append_of_le_length hm.2]
        cases hr : tk (p + m) ((x :: r).drop m) with
        | inl q => rw [hr] at h; cases h
        | inr us =>
          rw [hr] at h
          have hts : (k, t, v, p) :: us = ts := by simpa [consT] using h
          rw [← hts, appR_cons, tk_join hy b n _ (p + m) us (by simp at *; omega) hr]
          congr 3
          simp at *; omega
end Go.Proofs.YtkhnpmeohjafiaaGreatDoor
namespace Go.Proofs.YtkhnpmeohjafiaaGreatDoor

theorem val_foldl (l : List UInt8) : ∀ a : Nat, l.foldl (fun n d => n * 10 + (d.toNat - 48)) a = a * 10 ^ l.length + val l := by
  induction l with
  | nil => intro a; simp [val]
  | cons x r ih =>
    intro a
    have h1 := ih (a * 10 + (x.toNat - 48))
    have h2 := ih (0 * 10 + (x.toNat - 48))
    simp only [List.foldl_cons, val, List.length_cons] at *
    rw [h1, h2, Nat.pow_succ, Nat.add_mul, Nat.add_mul]
    have : a * (10 ^ r.length * 10) = a * 10 * 10 ^ r.length := by rw [Nat.mul_comm (10 ^ r.length) 10, Nat.mul_assoc]
    rw [this]
    simp only [Nat.zero_mul, Nat.zero_add]
    omega
theorem val_cons (x : UInt8) (r : List UInt8) : val (x :: r) = (x.toNat - 48) * 10 ^ r.length + val r := by
  have := val_foldl r (0 * 10 + (x.toNat - 48))
  simp only [Nat.zero_mul, Nat.zero_add] at this
  rw [← this]
  simp [val]
theorem val_snoc (l : List UInt8) (x : UInt8) : val (l ++ [x]) = val l * 10 + (x.toNat - 48) := by simp [val]
theorem val_lt : ∀ l : List UInt8, (∀ x ∈ l, isD x = true) → val l < 10 ^ l.length
  | [], _ => by simp [val]
  | x :: r, h => by
    have h1 := val_lt r (fun y hy => h y (List.mem_cons_of_mem _ hy))
    have h2 := h x (List.mem_cons_self ..)
    simp only [isD, decide_eq_true_eq] at h2
    rw [val_cons, List.length_cons, Nat.pow_succ]
    have : (x.toNat - 48) * 10 ^ r.length ≤ 9 * 10 ^ r.length := Nat.mul_le_mul_right _ (by omega)
    omega
theorem takeWhile_all {p : UInt8 → Bool} : ∀ {l : List UInt8}, (∀ x ∈ l, p x = true) → l.takeWhile p = l ∧ l.dropWhile p = []
  | [], _ => by simp
  | x :: r, h => by
    have h1 := h x (List.mem_cons_self ..)
    obtain ⟨h2, h3⟩ := takeWhile_all (l := r) (fun y hy => h y (List.mem_cons_of_mem _ hy))
    simp [List.takeWhile_cons, List.dropWhile_cons, h1, h2, h3]
/-- Digits alone: one token, or none. -/
theorem tk_digits {l : List UInt8} (h : ∀ x ∈ l, isD x = true) (hne : l ≠ []) (p : Nat) : tk p l = if l.length ≤ 18 then .inr [(2, [], val l, p)] else .inl p := by
  cases l with
  | nil => exact absurd rfl hne
  | cons x r =>
    obtain ⟨h1, h2⟩ := takeWhile_all h
    have hx := h x (List.mem_cons_self ..)
    have hL : isL x = false := by
      cases hl : isL x with
      | false => rfl
      | true => rw [isL_d hl] at hx; cases hx
    have ho : one (x :: r) = if (x :: r).length ≤ 18 then some (2, [], val (x :: r), (x :: r).length) else none := by
      rw [one_cons, hL, hx, h1, h2]
      simp [headL]
    split
    · rename_i hl
      rw [if_pos hl] at ho
      rw [tk_some ho, List.drop_length, tk_nil]; rfl
    · rename_i hl
      rw [if_neg hl] at ho
      exact tk_none (isD_b hx) ho

/-- Quotes doubled. -/
def dbl (l : List UInt8) : List UInt8 := l.flatMap fun x => if x = 39 then [39, 39] else [x]
def quoted (l : List UInt8) : List UInt8 := 39 :: (dbl l ++ [39])
theorem dbl_cons (x : UInt8) (r : List UInt8) : dbl (x :: r) = (if x = 39 then [39, 39] else [x]) ++ dbl r := by simp [dbl]
theorem dbl_snoc (l : List UInt8) (x : UInt8) : dbl (l ++ [x]) = dbl l ++ (if x = 39 then [39, 39] else [x]) := by simp [dbl]
theorem quo_dbl : ∀ l : List UInt8, quo (dbl l ++ [39]) = some (l, (dbl l).length + 1)
  | [] => by simp [dbl, quo]
  | x :: r => by
    have ih := quo_dbl r
    by_cases hx : x = 39
    · subst hx
      rw [dbl_cons, if_pos rfl]
      simp only [List.cons_append, List.nil_append]
      rw [quo.eq_def]
      simp only [if_true]
      rw [ih]
      simp
    · rw [dbl_cons, if_neg hx]
      simp only [List.cons_append, List.nil_append]
      rw [quo.eq_def]
      simp only [if_neg hx]
      rw [ih]
      simp
theorem tk_quoted (l : List UInt8) (p : Nat) : tk p (quoted l) = .inr [(3, l, 0, p)] := by
  have h1 : isL 39 = false := by decide
  have h2 : isD 39 = false := by decide
  have ho : one (quoted l) = some (3, l, 0, (dbl l).length + 2) := by
    unfold quoted
    rw [one_cons, h1, h2, if_pos rfl, quo_dbl]
    simp
  unfold quoted at *
  rw [tk_some ho]
  have : (39 :: (dbl l ++ [39])).drop ((dbl l).length + 2) = [] := List.drop_eq_nil_of_le (by simp)
  rw [this, tk_nil]; rfl
theorem dbl_le (l : List UInt8) : (dbl l).length ≤ 2 * l.length := by
  induction l with
  | nil => simp [dbl]
  | cons x r ih => rw [dbl_cons]; split <;> simp <;> omega

/-! ### Blanks between words -/
/-- Blanks alone before a text change places. -/
theorem tk_blanks : ∀ (bs : List UInt8) (p : Nat) (l : List UInt8), (∀ x ∈ bs, isB x = true) → tk p (bs ++ l) = tk (p + bs.length) l
  | [], _, _, _ => rfl
  | x :: r, p, l, h => by
    rw [List.cons_append, tk_blank (h x (List.mem_cons_self ..)), tk_blanks r _ l (fun y hy => h y (List.mem_cons_of_mem _ hy)), List.length_cons]
    congr 1; omega
/-- Words, each with blanks behind it. -/
def spaced : List (List UInt8 × List UInt8) → List UInt8
  | [] => []
  | (w, b) :: r => w ++ b ++ spaced r
/-- A token without its place. -/
def bareT (t : Tok) : Tok := (t.1, t.2.1, t.2.2.1, 0)
theorem shift_bare (d : Nat) (t : Tok) : bareT (shiftT d t) = bareT t := rfl
theorem tk_spaced : ∀ (ws : List (List UInt8 × List UInt8)) (ts : List Tok) (p : Nat), ws.length = ts.length → (∀ (i : Nat) (w b : List UInt8) (t : Tok), ws[i]? = some (w, b) → ts[i]? = some t → tk 0 w = .inr [t] ∧ b ≠ [] ∧ ∀ x ∈ b, isB x = true) →
    ∃ us, tk p (spaced ws) = .inr us ∧ us.map bareT = ts.map bareT
  | [], [], p, _, _ => ⟨[], tk_nil p, rfl⟩
  | [], t :: ts, _, h, _ => by simp at h
  | w :: ws, [], _, h, _ => by simp at h
  | (w, b) :: ws, t :: ts, p, h, hall => by
    obtain ⟨h1, h2, h3⟩ := hall 0 w b t rfl rfl
    cases b with
    | nil => exact absurd rfl h2
    | cons y b =>
      have hw : tk p w = .inr [shiftT p t] := by
        have := tk_shift p 0 w
        rw [Nat.zero_add, h1] at this
        exact this
      obtain ⟨us, h4, h5⟩ := tk_spaced ws ts (p + w.length + 1 + b.length) (by simpa using h) (fun i w' b' t' hi ht => hall (i + 1) w' b' t' (by simpa using hi) (by simpa using ht))
      refine ⟨shiftT p t :: us, ?_, by simp [h5, shift_bare]⟩
      have he : spaced ((w, y :: b) :: ws) = w ++ y :: (b ++ spaced ws) := by simp [spaced]
      rw [he, tk_join (h3 y (List.mem_cons_self ..)) _ w.length w p _ (Nat.le_refl _) hw, tk_blanks b _ _ (fun x hx => h3 x (List.mem_cons_of_mem _ hx)), h4]
      rfl
end Go.Proofs.YtkhnpmeohjafiaaGreatDoor
namespace Go.Proofs.YtkhnpmeohjafiaaGreatDoor

/-- The signs, the longer ones first. -/
def signL : List (List UInt8) := [[60, 62], [60, 61], [62, 61], [40], [41], [44], [59], [46], [61], [60], [62], [43], [45], [42]]
theorem sgn_find (x : UInt8) (r : List UInt8) : sgn x r = signL.find? (fun s => Lib.hasPrefix (x :: r) s) := by
  have h1 : ∀ y : UInt8, Lib.hasPrefix (x :: r) [y] = (y == x) := fun y => by simp [Lib.hasPrefix, List.isPrefixOf]
  cases r with
  | nil =>
    have h2 : ∀ y z : UInt8, Lib.hasPrefix [x] [y, z] = false := fun y z => by simp [Lib.hasPrefix, List.isPrefixOf]
    simp only [signL, List.find?, h1, h2, sgn, sgnOne]
    by_cases hm : x ∈ ([40, 41, 44, 59, 46, 61, 60, 62, 43, 45, 42] : List UInt8)
    · rw [if_pos hm]
      simp only [List.mem_cons, List.not_mem_nil, or_false] at hm
      rcases hm with rfl | rfl | rfl | rfl | rfl | rfl | rfl | rfl | rfl | rfl | rfl <;> rfl
    · rw [if_neg hm]
      simp only [List.mem_cons, List.not_mem_nil, or_false, not_or] at hm
      simp only [fun y : UInt8 => show (y == x) = decide (y = x) from rfl, eq_comm (b := x), hm, decide_false]
  | cons z r =>
    have h2 : ∀ y u : UInt8, Lib.hasPrefix (x :: z :: r) [y, u] = (y == x && u == z) := fun y u => by simp [Lib.hasPrefix, List.isPrefixOf]
    simp only [signL, List.find?, h1, h2, sgn, sgnOne]
    by_cases hc : (x = 60 ∧ (z = 62 ∨ z = 61)) ∨ (x = 62 ∧ z = 61)
    · rw [if_pos hc]
      rcases hc with ⟨rfl, rfl | rfl⟩ | ⟨rfl, rfl⟩ <;> rfl
    · rw [if_neg hc]
      have e1 : ((60 : UInt8) == x && (62 : UInt8) == z) = false := by
        rw [Bool.and_eq_false_iff]; simp only [beq_eq_false_iff_ne, ne_eq]
        by_cases h : (60 : UInt8) = x
        · right; intro h'; exact hc (.inl ⟨h.symm, .inl h'.symm⟩)
        · exact .inl h
      have e2 : ((60 : UInt8) == x && (61 : UInt8) == z) = false := by
        rw [Bool.and_eq_false_iff]; simp only [beq_eq_false_iff_ne, ne_eq]
        by_cases h : (60 : UInt8) = x
        · right; intro h'; exact hc (.inl ⟨h.symm, .inr h'.symm⟩)
        · exact .inl h
      have e3 : ((62 : UInt8) == x && (61 : UInt8) == z) = false := by
        rw [Bool.and_eq_false_iff]; simp only [beq_eq_false_iff_ne, ne_eq]
        by_cases h : (62 : UInt8) = x
        · right; intro h'; exact hc (.inr ⟨h.symm, h'.symm⟩)
        · exact .inl h
      rw [e1, e2, e3]
      by_cases hm : x ∈ ([40, 41, 44, 59, 46, 61, 60, 62, 43, 45, 42] : List UInt8)
      · rw [if_pos hm]
        simp only [List.mem_cons, List.not_mem_nil, or_false] at hm
        rcases hm with rfl | rfl | rfl | rfl | rfl | rfl | rfl | rfl | rfl | rfl | rfl <;> rfl
      · rw [if_neg hm]
        simp only [List.mem_cons, List.not_mem_nil, or_false, not_or] at hm
        simp only [fun y : UInt8 => show (y == x) = decide (y = x) from rfl, eq_comm (b := x), hm, decide_false]

/-- Capitals as strings.ToUpper makes them. -/
theorem up_eq (x : UInt8) : Lib.upperB x = up x := by
  have hd : ∀ n : Fin 256, Lib.upperB (UInt8.ofNat n.val) = up (UInt8.ofNat n.val) := by decide +kernel
  have := hd ⟨x.toNat, x.toNat_lt⟩
  simpa using this
theorem toUpper_eq (l : List UInt8) : Lib.toUpperA l = l.map up := by
  unfold Lib.toUpperA
  exact List.map_congr_left fun x _ => up_eq x

theorem dbl_append (a b : List UInt8) : dbl (a ++ b) = dbl a ++ dbl b := by simp [dbl]
theorem dbl_none : ∀ {l : List UInt8}, (39 : UInt8) ∉ l → dbl l = l
  | [], _ => rfl
  | x :: r, h => by
    simp only [List.mem_cons, not_or] at h
    rw [dbl_cons, if_neg (fun e => h.1 e.symm), dbl_none h.2]; rfl
theorem index_at {c : UInt8} : ∀ (a b : List UInt8), c ∉ a → Lib.index (a ++ c :: b) [c] = (a.length : Nat)
  | [], b, _ => by simp [Lib.index_one, Lib.indexByte]
  | x :: a, b, h => by
    simp only [List.mem_cons, not_or] at h
    have ih := index_at a b h.2
    rw [Lib.index_one] at ih ⊢
    have hx : (x == c) = false := by simpa using fun e => h.1 e.symm
    simp [Lib.indexByte, hx, ih]
theorem split_first {c : UInt8} : ∀ {s : List UInt8}, c ∈ s → ∃ a b, s = a ++ c :: b ∧ c ∉ a
  | [], h => by simp at h
  | x :: r, h => by
    by_cases hx : x = c
    · subst hx; exact ⟨[], r, rfl, by simp⟩
    · obtain ⟨a, b, h1, h2⟩ := split_first (s := r) (by simpa [Ne.symm hx] using h)
      exact ⟨x :: a, b, by rw [h1]; rfl, by simp [h2, Ne.symm hx]⟩
theorem replaceK_dbl : ∀ (n : Nat) (s : List UInt8), s.length ≤ n → Lib.replaceK [39] [39, 39] (s.count 39) s = dbl s
  | 0, s, h => by
    have := List.eq_nil_of_length_eq_zero (Nat.le_zero.1 h)
    subst this; rfl
  | n + 1, s, h => by
    by_cases hm : (39 : UInt8) ∈ s
    · obtain ⟨a, b, rfl, ha⟩ := split_first hm
      have hc : (a ++ 39 :: b).count (39 : UInt8) = b.count 39 + 1 := by
        rw [List.count_append, List.count_eq_zero.2 ha, List.count_cons_self]; omega
      rw [hc, Lib.replaceK_hit _ _ _ _ _ (index_at a b ha)]
      have hd : (a ++ 39 :: b).drop (a.length + [(39 : UInt8)].length) = b := by
        rw [show a ++ 39 :: b = (a ++ [39]) ++ b by simp, show a.length + [(39 : UInt8)].length = (a ++ [(39 : UInt8)]).length by simp, List.drop_left]
      rw [hd, replaceK_dbl n b (by simp at h; omega), dbl_append, dbl_none ha, dbl_cons, if_pos rfl, List.take_left]
      simp
    · rw [List.count_eq_zero.2 hm, dbl_none hm]; rfl
theorem replaceAll_dbl (s : List UInt8) : Lib.replaceAll s [39] [39, 39] = dbl s := by
  have h : ([39] == ([39, 39] : List UInt8)) = false := by decide
  simp only [Lib.replaceAll, Lib.replace, h, Lib.replaceNum, Bool.false_eq_true, if_false]
  rw [if_pos (Or.inl (by omega)), Lib.count_one]
  exact replaceK_dbl s.length s (Nat.le_refl _)
end Go.Proofs.YtkhnpmeohjafiaaGreatDoor
