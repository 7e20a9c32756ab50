/- Lemmas. -/
import Derived.Test.YtkhnpmeohjafiaaGreatDoorMF
namespace Go.Proofs.YtkhnpmeohjafiaaGreatDoor
section
variable {α β : Type} {ts u : List Tok} {m : α → Nat} {m' : β → Nat}
end
def szN (s : Str) : Nat := s.length + 50
def sumL {α : Type} (m : α → Nat) (l : List α) : Nat := (l.map m).sum
theorem sumL_nil {α : Type} (m : α → Nat) : sumL m [] = 0 := rfl
theorem sumL_cons {α : Type} (m : α → Nat) (a : α) (l : List α) : sumL m (a :: l) = m a + sumL m l := rfl
def szE : Ex → Nat
 | .mk op _ t o args =>
   match args with
   | [a] => 50 + szE a
   | [a, b] => 50 + op.length + szE a + szE b
   | _ => 50 + 2 * t.length + 2 * o.length
termination_by structural e => e
def szX (e : Ex) : Nat := szE e + 10
theorem sz_num (n : Nat) : szE (eNum n) = 50 := by simp [szE, eNum]
theorem sz_text (t : Str) : szE (eText t) = 50 + 2 * t.length := by simp [szE, eText]
theorem sz_name (t o : Str) : szE (eName t o) = 50 + 2 * t.length + 2 * o.length := by simp [szE, eName]
theorem sz_one (op : Str) (a : Ex) : szE (eOne op a) = 50 + szE a := by simp [szE, eOne]
theorem sz_two (op : Str) (a b : Ex) : szE (eTwo op a b) = 50 + op.length + szE a + szE b := by simp [szE, eTwo]
section
variable {E : Nat}
end
def szQ0 (q : Qu) : Nat := q.sum.length + sumL szX q.items + sumL szN q.tables + sumL szX q.cond
def szQ (q : Qu) : Nat := 100 + szQ0 q
section
variable {E : Nat}
end
theorem quo_txt : ∀ (l t : List UInt8) (m : Nat), quo l = some (t, m) → t.length ≤ l.length
 | [], t, m, h => by simp [quo] at h
 | [x], t, m, h => by
   rw [quo.eq_def] at h
   simp only at h
   split at h
   · simp at h; obtain ⟨rfl, -⟩ := h; simp
   · simp [quo] at h
 | x :: y :: r, t, m, h => by
   rw [quo.eq_def] at h
   simp only at h
   split at h
   · split at h
     · cases hq : quo r with
       | none => rw [hq] at h; simp at h
       | some q =>
         rw [hq] at h
         have := quo_txt r q.1 q.2 hq
         simp at h
         obtain ⟨rfl, -⟩ := h
         simp; omega
     · simp at h; obtain ⟨rfl, -⟩ := h; simp
   · cases hq : quo (y :: r) with
     | none => rw [hq] at h; simp at h
     | some q =>
       rw [hq] at h
       have := quo_txt (y :: r) q.1 q.2 hq
       simp at h this
       obtain ⟨rfl, -⟩ := h
       simp; omega
theorem one_txt {l t : List UInt8} {k n m : Nat} (h : one l = some (k, t, n, m)) : t.length ≤ l.length := by
 cases l with
 | nil => simp [one] at h
 | cons x r =>
   rw [one_cons] at h
   split at h
   · simp only [Option.some.injEq, Prod.mk.injEq] at h
     obtain ⟨-, rfl, -⟩ := h
     rw [List.length_map]
     exact (List.takeWhile_sublist _).length_le
   split at h
   · split at h
     · simp only [Option.some.injEq, Prod.mk.injEq] at h
       obtain ⟨-, rfl, -⟩ := h
       simp
     · simp at h
   split at h
   · cases hq : quo r with
     | none => rw [hq] at h; simp at h
     | some q =>
       rw [hq] at h
       have := quo_txt _ _ _ hq
       simp at h
       obtain ⟨-, rfl, -⟩ := h
       simp; omega
   · cases hs : sgn x r with
     | none => rw [hs] at h; simp at h
     | some s =>
       rw [hs] at h
       simp at h
       obtain ⟨-, rfl, -⟩ := h
       have := sgn_le hs
       simp; omega
theorem dbl_le2 : ∀ l : List UInt8, (dbl l).length ≤ 2 * l.length
 | [] => by simp [dbl]
 | x :: r => by
   have := dbl_le2 r
   have h : dbl (x :: r) = (if x = 39 then [39, 39] else [x]) ++ dbl r := by simp [dbl]
   rw [h]
   split <;> simp <;> omega
theorem brk_len {e : Ex} {k : Nat} {s : Str} : (brk e k s).length ≤ s.length + 2 := by
 unfold brk; split <;> simp
theorem bin_len {op : Str} (h : op ∈ binL) : op.length ≤ 3 := by
 have : ∀ op ∈ binL, op.length ≤ 3 := by decide
 exact this op h
theorem text_num (n : Nat) : textE (eNum n) = dec n := by simp [textE, eNum]
theorem text_text (t : Str) : textE (eText t) = quoted t := by simp [textE, eText]
theorem text_name (t o : Str) : textE (eName t o) = if o = [] then t else o ++ [46] ++ t := by simp [textE, eName]
theorem text_no (a : Ex) : textE (eOne [78, 79, 84] a) = [78, 79, 84, 32] ++ brk a 3 (textE a) := by simp [textE, eOne]
theorem text_neg (a : Ex) : textE (eOne [45] a) = [45] ++ brk a 7 (textE a) := by simp [textE, eOne]
theorem text_two {op : Str} (h : op ∈ binL) (a b : Ex) : textE (eTwo op a b) = brk a (if lvl (eTwo op a b) = 4 then 5 else lvl (eTwo op a b)) (textE a) ++ [32] ++ op ++ [32] ++ brk b (lvl (eTwo op a b) + 1) (textE b) := by
 have h1 : op ≠ [110, 117, 109, 98, 101, 114] := by rintro rfl; revert h; decide
 have h2 : op ≠ [116, 101, 120, 116] := by rintro rfl; revert h; decide
 have h3 : op ≠ [110, 97, 109, 101] := by rintro rfl; revert h; decide
 unfold eTwo
 simp only [textE, if_neg h1, if_neg h2, if_neg h3]
 by_cases h4 : lvl (.mk op 0 [] [] [a, b]) = 4
 · rw [if_pos h4, if_pos h4, h4]
 · rw [if_neg h4, if_neg h4]
theorem textE_len {e : Ex} (h : WfE e) : (textE e).length ≤ szE e := by
 induction h with
 | num n h =>
   have := dec_len 17 n (by simpa using h)
   rw [text_num, sz_num]; omega
 | text t =>
   have := dbl_le2 t
   rw [text_text, sz_text]; simp [quoted]; omega
 | name t o h h' =>
   rw [text_name, sz_name]
   split
   · omega
   · simp; omega
 | no a h ih =>
   rw [text_no, sz_one]
   have := brk_len (e := a) (k := 3) (s := textE a)
   simp; omega
 | neg a h ih =>
   rw [text_neg, sz_one]
   have := brk_len (e := a) (k := 7) (s := textE a)
   simp; omega
 | two op a b ho h h' ih ih' =>
   rw [text_two ho, sz_two]
   have h1 := brk_len (e := a) (k := if lvl (eTwo op a b) = 4 then 5 else lvl (eTwo op a b)) (s := textE a)
   have h2 := brk_len (e := b) (k := lvl (eTwo op a b) + 1) (s := textE b)
   have h3 := bin_len ho
   simp only [List.length_append, List.length_cons, List.length_nil]
   omega
def PerOk (p : Nat × Nat) : Prop := p.1 < p.2 ∧ p.2 ≤ FOREVER
inductive WfQ : Qu → Prop where
 | all (c : Bool) (t : List Str) (w : List Ex) : WfQ ⟨c, true, false, [], [], t, w⟩
 | count (c : Bool) (t : List Str) (w : List Ex) : WfQ ⟨c, false, true, [], [], t, w⟩
 | sum (c : Bool) (s : Str) (t : List Str) (w : List Ex) (h : NameOk s) : WfQ ⟨c, false, false, s, [], t, w⟩
 | items (c : Bool) (l : List Ex) (t : List Str) (w : List Ex) (h : l ≠ []) (h' : ∀ e ∈ l, ∃ t o, NameOk t ∧ (o = [] ∨ NameOk o) ∧ e = eName t o) : WfQ ⟨c, false, false, [], l, t, w⟩
def CondOk (l : List Ex) : Prop := l.length ≤ 1 ∧ ∀ e ∈ l, GE 32 1 e
def TabOk (l : List Str) : Prop := l ≠ [] ∧ l.length ≤ 2 ∧ ∀ s ∈ l, NameOk s
structure GQ (q : Qu) : Prop where
 ask : WfQ q
 tab : TabOk q.tables
 cond : CondOk q.cond
section
variable {E : Nat}
end
end Go.Proofs.YtkhnpmeohjafiaaGreatDoor
