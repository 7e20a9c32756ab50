/- Lemmas. -/
import Derived.WalkKit
import Derived.Lib.Replace
import Derived.Lib.Strings
import Derived.Lib.Case
namespace Go.Proofs.YtkhnpmeohjafiaaGreatDoor
abbrev Tok := Nat × List UInt8 × Nat × Nat
def isL (x : UInt8) : Bool := decide (97 ≤ x.toNat ∧ x.toNat ≤ 122 ∨ 65 ≤ x.toNat ∧ x.toNat ≤ 90 ∨ x.toNat = 95)
def isD (x : UInt8) : Bool := decide (48 ≤ x.toNat ∧ x.toNat ≤ 57)
def isB (x : UInt8) : Bool := decide (x.toNat = 32 ∨ x.toNat = 9 ∨ x.toNat = 10)
def isW (x : UInt8) : Bool := isL x || isD x
def up (x : UInt8) : UInt8 := if 97 ≤ x.toNat ∧ x.toNat ≤ 122 then UInt8.ofNat (x.toNat - 32) else x
def val (l : List UInt8) : Nat := l.foldl (fun n d => n * 10 + (d.toNat - 48)) 0
def quo : List UInt8 → Option (List UInt8 × Nat)
 | [] => none
 | x :: r => if x = 39 then
    match r with
    | [] => some ([], 1)
    | y :: r' => if y = 39 then (quo r').map (fun q => (39 :: q.1, q.2 + 2)) else some ([], 1)
   else (quo r).map (fun q => (x :: q.1, q.2 + 1))
def sgnOne (x : UInt8) : Option (List UInt8) := if x ∈ [40, 41, 44, 59, 46, 61, 60, 62, 43, 45, 42] then some [x] else none
def sgn (x : UInt8) : List UInt8 → Option (List UInt8)
 | y :: _ => if (x = 60 ∧ (y = 62 ∨ y = 61)) ∨ (x = 62 ∧ y = 61) then some [x, y] else sgnOne x
 | [] => sgnOne x
def headL (l : List UInt8) : Bool := match l with | [] => false | x :: _ => isL x
def one : List UInt8 → Option (Nat × List UInt8 × Nat × Nat)
 | [] => none
 | x :: r =>
   if isL x then some (1, ((x :: r).takeWhile isW).map up, 0, ((x :: r).takeWhile isW).length)
   else if isD x then
    (if ((x :: r).takeWhile isD).length ≤ 18 ∧ headL ((x :: r).dropWhile isD) = false then some (2, [], val ((x :: r).takeWhile isD), ((x :: r).takeWhile isD).length) else none)
   else if x = 39 then (quo r).map (fun q => (3, q.1, 0, q.2 + 1))
   else (sgn x r).map (fun s => (4, s, 0, s.length))
def consT (t : Tok) : Nat ⊕ List Tok → Nat ⊕ List Tok
 | .inl p => .inl p
 | .inr ts => .inr (t :: ts)
def toks : Nat → Nat → List UInt8 → Nat ⊕ List Tok
 | 0, _, _ => .inr []
 | _ + 1, _, [] => .inr []
 | f + 1, p, x :: r => if isB x then toks f (p + 1) r else
  match one (x :: r) with
  | none => .inl p
  | some (k, t, n, m) => consT (k, t, n, p) (toks f (p + m) ((x :: r).drop m))
def tk (p : Nat) (l : List UInt8) : Nat ⊕ List Tok := toks l.length p l
def lexOf (l : List UInt8) : (Nat × Nat) ⊕ List Tok :=
 if 4096 < l.length then .inl (2, 4096) else match tk 0 l with
  | .inl p => .inl (140, p)
  | .inr ts => .inr ts
theorem one_cons (x : UInt8) (r : List UInt8) : one (x :: r) =
 if isL x then some (1, ((x :: r).takeWhile isW).map up, 0, ((x :: r).takeWhile isW).length)
 else if isD x then
  (if ((x :: r).takeWhile isD).length ≤ 18 ∧ headL ((x :: r).dropWhile isD) = false then some (2, [], val ((x :: r).takeWhile isD), ((x :: r).takeWhile isD).length) else none)
 else if x = 39 then (quo r).map (fun q => (3, q.1, 0, q.2 + 1))
 else (sgn x r).map (fun s => (4, s, 0, s.length)) := rfl
theorem byte_lt' (x : UInt8) : x.toNat < 256 := x.toNat_lt
theorem isL_d {x : UInt8} (h : isL x = true) : isD x = false := by simp only [isL, isD, decide_eq_true_eq, decide_eq_false_iff_not] at *; omega
theorem isB_w {x : UInt8} (h : isB x = true) : isL x = false ∧ isD x = false ∧ isW x = false := by
 have h1 : isL x = false := by simp only [isL, isB, decide_eq_true_eq, decide_eq_false_iff_not] at *; omega
 have h2 : isD x = false := by simp only [isD, isB, decide_eq_true_eq, decide_eq_false_iff_not] at *; omega
 exact ⟨h1, h2, by simp [isW, h1, h2]⟩
theorem isB_ne {x : UInt8} (h : isB x = true) : x ≠ 39 := by rintro rfl; simp [isB] at h
theorem quo_le : ∀ (l t : List UInt8) (m : Nat), quo l = some (t, m) → 1 ≤ m ∧ m ≤ l.length
 | [], t, m, h => by simp [quo] at h
 | [x], t, m, h => by
   rw [quo.eq_def] at h
   simp only at h
   split at h
   · simp at h; simp; omega
   · simp [quo] at h
 | x :: y :: r, t, m, h => by
   rw [quo.eq_def] at h
   simp only at h
   split at h
   · split at h
     · cases hq : quo r with
       | none => rw [hq] at h; simp at h
       | some q =>
         rw [hq] at h
         have := quo_le r q.1 q.2 hq
         simp at h
         simp; omega
     · simp at h; simp; omega
   · cases hq : quo (y :: r) with
     | none => rw [hq] at h; simp at h
     | some q =>
       rw [hq] at h
       have := quo_le (y :: r) q.1 q.2 hq
       simp at h this
       simp; omega
theorem sgn_le {x : UInt8} {r s : List UInt8} (h : sgn x r = some s) : 1 ≤ s.length ∧ s.length ≤ r.length + 1 := by
 unfold sgn sgnOne at h
 split at h
 · split at h
   · simp at h; subst h; simp
   · split at h
     · simp at h; subst h; simp
     · simp at h
 · split at h
   · simp at h; subst h; simp
   · simp at h
theorem takeWhile_pos {p : UInt8 → Bool} {x : UInt8} {r : List UInt8} (h : p x = true) : 1 ≤ ((x :: r).takeWhile p).length := by
 rw [List.takeWhile_cons, h]; simp
theorem takeWhile_le (p : UInt8 → Bool) (l : List UInt8) : (l.takeWhile p).length ≤ l.length := (List.takeWhile_sublist p).length_le
theorem one_le {l : List UInt8} {k n m : Nat} {t : List UInt8} (h : one l = some (k, t, n, m)) : 1 ≤ m ∧ m ≤ l.length := by
 cases l with
 | nil => simp [one] at h
 | cons x r =>
   rw [one_cons] at h
   split at h
   · rename_i hx
     simp only [Option.some.injEq, Prod.mk.injEq] at h
     obtain ⟨_, _, _, rfl⟩ := h
     exact ⟨takeWhile_pos (by simp [isW, hx]), takeWhile_le _ _⟩
   · split at h
     · rename_i hx
       split at h
       · simp only [Option.some.injEq, Prod.mk.injEq] at h
         obtain ⟨_, _, _, rfl⟩ := h
         exact ⟨takeWhile_pos hx, takeWhile_le _ _⟩
       · cases h
     · split at h
       · cases hq : quo r with
         | none => rw [hq] at h; simp at h
         | some q =>
           rw [hq] at h
           have := quo_le r q.1 q.2 hq
           simp at h
           simp; omega
       · cases hq : sgn x r with
         | none => rw [hq] at h; simp at h
         | some q =>
           rw [hq] at h
           have := sgn_le hq
           simp at h
           simp; omega
theorem toks_fuel : ∀ (f g p : Nat) (l : List UInt8), l.length ≤ f → l.length ≤ g → toks f p l = toks g p l
 | 0, 0, _, _, _, _ => rfl
 | 0, g + 1, p, l, h, _ => by
   have := List.eq_nil_of_length_eq_zero (Nat.le_zero.1 h)
   subst this; rfl
 | f + 1, 0, p, l, _, h => by
   have := List.eq_nil_of_length_eq_zero (Nat.le_zero.1 h)
   subst this; rfl
 | f + 1, g + 1, p, [], _, _ => rfl
 | f + 1, g + 1, p, x :: r, hf, hg => by
   simp only [List.length_cons] at hf hg
   simp only [toks]
   split
   · exact toks_fuel f g (p + 1) r (by omega) (by omega)
   · cases ho : one (x :: r) with
     | none => rfl
     | some q =>
       obtain ⟨k, t, n, m⟩ := q
       have := one_le ho
       simp only
       rw [toks_fuel f g (p + m) _ (by simp; omega) (by simp; omega)]
theorem tk_nil (p : Nat) : tk p [] = .inr [] := rfl
theorem tk_blank {p : Nat} {x : UInt8} {r : List UInt8} (h : isB x = true) : tk p (x :: r) = tk (p + 1) r := by
 show toks (r.length + 1) p (x :: r) = _
 simp only [toks, h, if_true]
 rfl
theorem tk_none {p : Nat} {x : UInt8} {r : List UInt8} (h : isB x = false) (ho : one (x :: r) = none) : tk p (x :: r) = .inl p := by
 show toks (r.length + 1) p (x :: r) = _
 simp only [toks, h, Bool.false_eq_true, if_false, ho]
theorem one_blank {x : UInt8} {r : List UInt8} (h : isB x = true) : one (x :: r) = none := by
 obtain ⟨h1, h2, h3⟩ := isB_w h
 have h4 := isB_ne h
 rw [one_cons, h1, h2, if_neg h4]
 have hs : sgnOne x = none := by
  unfold sgnOne
  rw [if_neg]
  intro hm
  simp only [List.mem_cons, List.not_mem_nil, or_false] at hm
  rcases hm with rfl | rfl | rfl | rfl | rfl | rfl | rfl | rfl | rfl | rfl | rfl <;> simp [isB] at h
 have : sgn x r = none := by
  cases r with
  | nil => exact hs
  | cons y r =>
    unfold sgn
    simp only
    rw [if_neg, hs]
    rintro (⟨rfl, _⟩ | ⟨rfl, _⟩) <;> simp [isB] at h
 simp [this]
theorem tk_some {p k n m : Nat} {x : UInt8} {r t : List UInt8} (ho : one (x :: r) = some (k, t, n, m)) : tk p (x :: r) = consT (k, t, n, p) (tk (p + m) ((x :: r).drop m)) := by
 have hb : isB x = false := by
  cases h : isB x with
  | false => rfl
  | true => rw [one_blank h] at ho; cases ho
 have := one_le ho
 show toks (r.length + 1) p (x :: r) = _
 simp only [toks, hb, Bool.false_eq_true, if_false, ho]
 unfold tk
 rw [toks_fuel r.length _ _ _ (by simp at *; omega) (Nat.le_refl _)]
def appR (ts : List Tok) : Nat ⊕ List Tok → Nat ⊕ List Tok
 | .inl p => .inl p
 | .inr us => .inr (ts ++ us)
theorem appR_nil (R : Nat ⊕ List Tok) : appR [] R = R := by cases R <;> rfl
theorem val_foldl (l : List UInt8) : ∀ a : Nat, l.foldl (fun n d => n * 10 + (d.toNat - 48)) a = a * 10 ^ l.length + val l := by
 induction l with
 | nil => intro a; simp [val]
 | cons x r ih =>
   intro a
   have h1 := ih (a * 10 + (x.toNat - 48))
   have h2 := ih (0 * 10 + (x.toNat - 48))
   simp only [List.foldl_cons, val, List.length_cons] at *
   rw [h1, h2, Nat.pow_succ, Nat.add_mul, Nat.add_mul]
   have : a * (10 ^ r.length * 10) = a * 10 * 10 ^ r.length := by rw [Nat.mul_comm (10 ^ r.length) 10, Nat.mul_assoc]
   rw [this]
   simp only [Nat.zero_mul, Nat.zero_add]
   omega
theorem val_cons (x : UInt8) (r : List UInt8) : val (x :: r) = (x.toNat - 48) * 10 ^ r.length + val r := by
 have := val_foldl r (0 * 10 + (x.toNat - 48))
 simp only [Nat.zero_mul, Nat.zero_add] at this
 rw [← this]
 simp [val]
theorem val_snoc (l : List UInt8) (x : UInt8) : val (l ++ [x]) = val l * 10 + (x.toNat - 48) := by simp [val]
theorem val_lt : ∀ l : List UInt8, (∀ x ∈ l, isD x = true) → val l < 10 ^ l.length
 | [], _ => by simp [val]
 | x :: r, h => by
   have h1 := val_lt r (fun y hy => h y (List.mem_cons_of_mem _ hy))
   have h2 := h x (List.mem_cons_self ..)
   simp only [isD, decide_eq_true_eq] at h2
   rw [val_cons, List.length_cons, Nat.pow_succ]
   have : (x.toNat - 48) * 10 ^ r.length ≤ 9 * 10 ^ r.length := Nat.mul_le_mul_right _ (by omega)
   omega
def dbl (l : List UInt8) : List UInt8 := l.flatMap fun x => if x = 39 then [39, 39] else [x]
def quoted (l : List UInt8) : List UInt8 := 39 :: (dbl l ++ [39])
theorem dbl_cons (x : UInt8) (r : List UInt8) : dbl (x :: r) = (if x = 39 then [39, 39] else [x]) ++ dbl r := by simp [dbl]
theorem dbl_le (l : List UInt8) : (dbl l).length ≤ 2 * l.length := by
 induction l with
 | nil => simp [dbl]
 | cons x r ih => rw [dbl_cons]; split <;> simp <;> omega
theorem tk_blanks : ∀ (bs : List UInt8) (p : Nat) (l : List UInt8), (∀ x ∈ bs, isB x = true) → tk p (bs ++ l) = tk (p + bs.length) l
 | [], _, _, _ => rfl
 | x :: r, p, l, h => by
   rw [List.cons_append, tk_blank (h x (List.mem_cons_self ..)), tk_blanks r _ l (fun y hy => h y (List.mem_cons_of_mem _ hy)), List.length_cons]
   congr 1; omega
def signL : List (List UInt8) := [[60, 62], [60, 61], [62, 61], [40], [41], [44], [59], [46], [61], [60], [62], [43], [45], [42]]
theorem sgn_find (x : UInt8) (r : List UInt8) : sgn x r = signL.find? (fun s => Lib.hasPrefix (x :: r) s) := by
 have h1 : ∀ y : UInt8, Lib.hasPrefix (x :: r) [y] = (y == x) := fun y => by simp [Lib.hasPrefix, List.isPrefixOf]
 cases r with
 | nil =>
   have h2 : ∀ y z : UInt8, Lib.hasPrefix [x] [y, z] = false := fun y z => by simp [Lib.hasPrefix, List.isPrefixOf]
   simp only [signL, List.find?, h1, h2, sgn, sgnOne]
   by_cases hm : x ∈ ([40, 41, 44, 59, 46, 61, 60, 62, 43, 45, 42] : List UInt8)
   · rw [if_pos hm]
     simp only [List.mem_cons, List.not_mem_nil, or_false] at hm
     rcases hm with rfl | rfl | rfl | rfl | rfl | rfl | rfl | rfl | rfl | rfl | rfl <;> rfl
   · rw [if_neg hm]
     simp only [List.mem_cons, List.not_mem_nil, or_false, not_or] at hm
     simp only [fun y : UInt8 => show (y == x) = decide (y = x) from rfl, eq_comm (b := x), hm, decide_false]
 | cons z r =>
   have h2 : ∀ y u : UInt8, Lib.hasPrefix (x :: z :: r) [y, u] = (y == x && u == z) := fun y u => by simp [Lib.hasPrefix, List.isPrefixOf]
   simp only [signL, List.find?, h1, h2, sgn, sgnOne]
   by_cases hc : (x = 60 ∧ (z = 62 ∨ z = 61)) ∨ (x = 62 ∧ z = 61)
   · rw [if_pos hc]
     rcases hc with ⟨rfl, rfl | rfl⟩ | ⟨rfl, rfl⟩ <;> rfl
   · rw [if_neg hc]
     have e1 : ((60 : UInt8) == x && (62 : UInt8) == z) = false := by
       rw [Bool.and_eq_false_iff]; simp only [beq_eq_false_iff_ne, ne_eq]
       by_cases h : (60 : UInt8) = x
       · right; intro h'; exact hc (.inl ⟨h.symm, .inl h'.symm⟩)
       · exact .inl h
     have e2 : ((60 : UInt8) == x && (61 : UInt8) == z) = false := by
       rw [Bool.and_eq_false_iff]; simp only [beq_eq_false_iff_ne, ne_eq]
       by_cases h : (60 : UInt8) = x
       · right; intro h'; exact hc (.inl ⟨h.symm, .inr h'.symm⟩)
       · exact .inl h
     have e3 : ((62 : UInt8) == x && (61 : UInt8) == z) = false := by
       rw [Bool.and_eq_false_iff]; simp only [beq_eq_false_iff_ne, ne_eq]
       by_cases h : (62 : UInt8) = x
       · right; intro h'; exact hc (.inr ⟨h.symm, h'.symm⟩)
       · exact .inl h
     rw [e1, e2, e3]
     by_cases hm : x ∈ ([40, 41, 44, 59, 46, 61, 60, 62, 43, 45, 42] : List UInt8)
     · rw [if_pos hm]
       simp only [List.mem_cons, List.not_mem_nil, or_false] at hm
       rcases hm with rfl | rfl | rfl | rfl | rfl | rfl | rfl | rfl | rfl | rfl | rfl <;> rfl
     · rw [if_neg hm]
       simp only [List.mem_cons, List.not_mem_nil, or_false, not_or] at hm
       simp only [fun y : UInt8 => show (y == x) = decide (y = x) from rfl, eq_comm (b := x), hm, decide_false]
theorem up_eq (x : UInt8) : Lib.upperB x = up x := by
 have hd : ∀ n : Fin 256, Lib.upperB (UInt8.ofNat n.val) = up (UInt8.ofNat n.val) := by decide +kernel
 have := hd ⟨x.toNat, x.toNat_lt⟩
 simpa using this
theorem toUpper_eq (l : List UInt8) : Lib.toUpperA l = l.map up := by
 unfold Lib.toUpperA
 exact List.map_congr_left fun x _ => up_eq x
theorem dbl_append (a b : List UInt8) : dbl (a ++ b) = dbl a ++ dbl b := by simp [dbl]
theorem dbl_none : ∀ {l : List UInt8}, (39 : UInt8) ∉ l → dbl l = l
 | [], _ => rfl
 | x :: r, h => by
   simp only [List.mem_cons, not_or] at h
   rw [dbl_cons, if_neg (fun e => h.1 e.symm), dbl_none h.2]; rfl
theorem index_at {c : UInt8} : ∀ (a b : List UInt8), c ∉ a → Lib.index (a ++ c :: b) [c] = (a.length : Nat)
 | [], b, _ => by simp [Lib.index_one, Lib.indexByte]
 | x :: a, b, h => by
   simp only [List.mem_cons, not_or] at h
   have ih := index_at a b h.2
   rw [Lib.index_one] at ih ⊢
   have hx : (x == c) = false := by simpa using fun e => h.1 e.symm
   simp [Lib.indexByte, hx, ih]
theorem split_first {c : UInt8} : ∀ {s : List UInt8}, c ∈ s → ∃ a b, s = a ++ c :: b ∧ c ∉ a
 | [], h => by simp at h
 | x :: r, h => by
   by_cases hx : x = c
   · subst hx; exact ⟨[], r, rfl, by simp⟩
   · obtain ⟨a, b, h1, h2⟩ := split_first (s := r) (by simpa [Ne.symm hx] using h)
     exact ⟨x :: a, b, by rw [h1]; rfl, by simp [h2, Ne.symm hx]⟩
theorem replaceK_dbl : ∀ (n : Nat) (s : List UInt8), s.length ≤ n → Lib.replaceK [39] [39, 39] (s.count 39) s = dbl s
 | 0, s, h => by
   have := List.eq_nil_of_length_eq_zero (Nat.le_zero.1 h)
   subst this; rfl
 | n + 1, s, h => by
   by_cases hm : (39 : UInt8) ∈ s
   · obtain ⟨a, b, rfl, ha⟩ := split_first hm
     have hc : (a ++ 39 :: b).count (39 : UInt8) = b.count 39 + 1 := by
      rw [List.count_append, List.count_eq_zero.2 ha, List.count_cons_self]; omega
     rw [hc, Lib.replaceK_hit _ _ _ _ _ (index_at a b ha)]
     have hd : (a ++ 39 :: b).drop (a.length + [(39 : UInt8)].length) = b := by
      rw [show a ++ 39 :: b = (a ++ [39]) ++ b by simp, show a.length + [(39 : UInt8)].length = (a ++ [(39 : UInt8)]).length by simp, List.drop_left]
     rw [hd, replaceK_dbl n b (by simp at h; omega), dbl_append, dbl_none ha, dbl_cons, if_pos rfl, List.take_left]
     simp
   · rw [List.count_eq_zero.2 hm, dbl_none hm]; rfl
theorem replaceAll_dbl (s : List UInt8) : Lib.replaceAll s [39] [39, 39] = dbl s := by
 have h : ([39] == ([39, 39] : List UInt8)) = false := by decide
 simp only [Lib.replaceAll, Lib.replace, h, Lib.replaceNum, Bool.false_eq_true, if_false]
 rw [if_pos (Or.inl (by omega)), Lib.count_one]
 exact replaceK_dbl s.length s (Nat.le_refl _)
end Go.Proofs.YtkhnpmeohjafiaaGreatDoor
