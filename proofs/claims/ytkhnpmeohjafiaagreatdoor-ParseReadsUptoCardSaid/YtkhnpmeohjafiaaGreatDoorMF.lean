/- Lemmas. -/
import Derived.Test.YtkhnpmeohjafiaaGreatDoorME
import Derived.Test.YtkhnpmeohjafiaaGreatDoorMB
import Derived.Lib.ItoaNum
namespace Go.Proofs.YtkhnpmeohjafiaaGreatDoor
def lvl : Ex → Nat
 | .mk op _ _ _ args =>
   if op = [79, 82] then 1 else if op = [65, 78, 68] then 2 else if op = [78, 79, 84] then 3
   else if op = [61] ∨ op = [60, 62] ∨ op = [60, 61] ∨ op = [62, 61] ∨ op = [60] ∨ op = [62] then 4
   else if op = [43] then 5
   else if op = [45] then (if args.length = 1 then 7 else 5)
   else if op = [42] then 6 else 8
def dec (n : Nat) : Str := Go.Lib.decDigits n
def brk (e : Ex) (least : Nat) (s : Str) : Str := if lvl e < least then [40] ++ s ++ [41] else s
def textE : Ex → Str
 | .mk op n t o args =>
   if op = [110, 117, 109, 98, 101, 114] then dec n
   else if op = [116, 101, 120, 116] then quoted t
   else if op = [110, 97, 109, 101] then (if o = [] then t else o ++ [46] ++ t)
   else match args with
   | [a] => if op = [78, 79, 84] then [78, 79, 84, 32] ++ brk a 3 (textE a) else if op = [45] then [45] ++ brk a 7 (textE a) else []
   | [a, b] =>
     if lvl (.mk op n t o [a, b]) = 4 then brk a 5 (textE a) ++ [32] ++ op ++ [32] ++ brk b 5 (textE b)
     else brk a (lvl (.mk op n t o [a, b])) (textE a) ++ [32] ++ op ++ [32] ++ brk b (lvl (.mk op n t o [a, b]) + 1) (textE b)
   | _ => []
termination_by structural e => e
def joinL (sep : Str) : List Str → Str
 | [] => []
 | [a] => a
 | a :: l => a ++ sep ++ joinL sep l
def whereT (l : List Ex) : Str := match l with | [] => [] | e :: _ => [32, 87, 72, 69, 82, 69, 32] ++ textE e
def toT (z : Nat) : Str := if z = FOREVER then [70, 79, 82, 69, 86, 69, 82] else dec z
def spanT (p : Nat × Nat) : Str := dec p.1 ++ [32, 84, 79, 32] ++ toT p.2
def portionT (p : Nat × Nat) : Str := if p = (0, FOREVER) then [] else [32, 70, 79, 82, 32] ++ spanT p
def askT (q : Qu) : Str :=
 if q.all then [42] else if q.count then [67, 79, 85, 78, 84] else if q.sum ≠ [] then [83, 85, 77, 32] ++ q.sum else joinL [44, 32] (q.items.map textE)
def queryT (q : Qu) : Str :=
 [83, 69, 76, 69, 67, 84, 32] ++ (if q.coalesce then [67, 79, 65, 76, 69, 83, 67, 69, 32] else []) ++ askT q ++ [32, 70, 82, 79, 77, 32] ++ joinL [44, 32] q.tables ++ whereT q.cond
def moreT : List Str → List Qu → Str
 | o :: os, q :: qs => [32] ++ o ++ [32] ++ queryT q ++ moreT os qs
 | [], q :: qs => queryT q ++ moreT [] qs
 | _, [] => []
def selectT (x : St) : Str :=
 (match x.query with | [] => [] | q :: qs => queryT q ++ moreT x.ops qs) ++ (x.asOf.map fun n => [32, 65, 83, 32, 79, 70, 32] ++ dec n).flatten ++ (x.during.map fun p => [32, 68, 85, 82, 73, 78, 71, 32] ++ spanT p).flatten ++
  (if x.order = [] then [] else [32, 79, 82, 68, 69, 82, 32, 66, 89, 32] ++ joinL [44, 32] x.order)
def colT (c : Str × Nat) : Str := if c.2 = 2 then c.1 ++ [32, 84, 69, 88, 84] else c.1 ++ [32, 73, 78, 84]
def setT (c : Str × Ex) : Str := c.1 ++ [32, 61, 32] ++ textE c.2
def printT (x : St) : Str :=
 if x.kind = [67, 82, 69, 65, 84, 69] then [67, 82, 69, 65, 84, 69, 32, 84, 65, 66, 76, 69, 32] ++ x.table ++ [32, 40] ++ joinL [44, 32] (x.columns.map colT) ++ [41] ++ (if x.keys = [] then [] else [32, 78, 79, 32, 79, 86, 69, 82, 76, 65, 80, 32, 40] ++ joinL [44, 32] x.keys ++ [41])
 else if x.kind = [73, 78, 68, 69, 88] then [67, 82, 69, 65, 84, 69, 32, 73, 78, 68, 69, 88, 32, 79, 78, 32] ++ x.table
 else if x.kind = [73, 78, 83, 69, 82, 84] then [73, 78, 83, 69, 82, 84, 32, 73, 78, 84, 79, 32] ++ x.table ++ [32, 86, 65, 76, 85, 69, 83, 32, 40] ++ joinL [44, 32] (x.values.map textE) ++ [41, 32, 70, 82, 79, 77, 32] ++ spanT x.period
 else if x.kind = [85, 80, 68, 65, 84, 69] then [85, 80, 68, 65, 84, 69, 32] ++ x.table ++ [32, 83, 69, 84, 32] ++ joinL [44, 32] (x.sets.map setT) ++ portionT x.period ++ whereT x.cond
 else if x.kind = [68, 69, 76, 69, 84, 69] then [68, 69, 76, 69, 84, 69, 32, 70, 82, 79, 77, 32] ++ x.table ++ portionT x.period ++ whereT x.cond
 else if x.kind = [83, 69, 76, 69, 67, 84] then selectT x
 else x.kind
def WordOk (s : Str) : Prop := headL s = true ∧ (∀ x ∈ s, isW x = true) ∧ s.map up = s
def TokOk (t : Tok) : Prop := (t.1 = 1 → WordOk t.2.1) ∧ (t.1 = 2 → t.2.2.1 < 1000000000000000000) ∧ (t.1 = 4 → t.2.1 ∈ signs14)
def ToksOk (ts : List Tok) : Prop := ∀ t ∈ ts, TokOk t
def NameOk (s : Str) : Prop := WordOk s ∧ resv s = false ∧ s.length ≤ 24
theorem up_all : ∀ n : Fin 256, up (up (UInt8.ofNat n.val)) = up (UInt8.ofNat n.val) ∧ isL (up (UInt8.ofNat n.val)) = isL (UInt8.ofNat n.val) ∧ isD (up (UInt8.ofNat n.val)) = isD (UInt8.ofNat n.val) := by decide +kernel
theorem up_up (x : UInt8) : up (up x) = up x ∧ isL (up x) = isL x ∧ isD (up x) = isD x := by
 have := up_all ⟨x.toNat, x.toNat_lt⟩
 simpa using this
theorem wordOk_up {s : Str} (h : headL s = true) (hw : ∀ x ∈ s, isW x = true) : WordOk (s.map up) := by
 refine ⟨?_, ?_, ?_⟩
 · cases s with
   | nil => exact h
   | cons x r => simp only [headL] at h; simp only [List.map_cons, headL]; rw [(up_up x).2.1]; exact h
 · intro y hy
   obtain ⟨x, hx, rfl⟩ := List.mem_map.1 hy
   have := hw x hx
   simp only [isW] at this ⊢
   rw [(up_up x).2.1, (up_up x).2.2]; exact this
 · rw [List.map_map]
   refine List.map_congr_left fun x _ => ?_
   exact (up_up x).1
theorem mem_takeWhile {p : UInt8 → Bool} : ∀ {l : List UInt8} {x : UInt8}, x ∈ l.takeWhile p → p x = true
 | [], _, h => by simp at h
 | y :: r, x, h => by
   rw [List.takeWhile_cons] at h
   split at h
   · rename_i hy
     rcases List.mem_cons.1 h with rfl | h
     · exact hy
     · exact mem_takeWhile h
   · simp at h
theorem one_ok {l t : List UInt8} {k n m p : Nat} (h : one l = some (k, t, n, m)) : TokOk (k, t, n, p) := by
 refine ⟨fun hk => ?_, fun hk => ?_, fun hk => ?_⟩
 · simp only at hk
   subst hk
   cases l with
   | nil => simp [one] at h
   | cons x r =>
     rw [one_cons] at h
     split at h
     · rename_i hx
       simp only [Option.some.injEq, Prod.mk.injEq, true_and] at h
       obtain ⟨rfl, -, -⟩ := h
       refine wordOk_up ?_ (fun y hy => mem_takeWhile hy)
       rw [List.takeWhile_cons, if_pos (isW_of_L hx)]
       exact hx
     split at h
     · split at h <;> simp at h
     split at h
     · cases hq : quo r with
       | none => rw [hq] at h; simp at h
       | some q => rw [hq] at h; simp at h
     · cases hs : sgn x r with
       | none => rw [hs] at h; simp at h
       | some s => rw [hs] at h; simp at h
 · simp only at hk
   subst hk
   cases l with
   | nil => simp [one] at h
   | cons x r =>
     rw [one_cons] at h
     split at h
     · simp at h
     split at h
     · split at h
       · rename_i hc
         simp only [Option.some.injEq, Prod.mk.injEq, true_and] at h
         obtain ⟨-, rfl, -⟩ := h
         have h1 := val_lt ((x :: r).takeWhile isD) (fun y hy => mem_takeWhile hy)
         have h2 : 10 ^ ((x :: r).takeWhile isD).length ≤ 10 ^ 18 := Nat.pow_le_pow_right (by omega) hc.1
         simp only
         omega
       · simp at h
     split at h
     · cases hq : quo r with
       | none => rw [hq] at h; simp at h
       | some q => rw [hq] at h; simp at h
     · cases hs : sgn x r with
       | none => rw [hs] at h; simp at h
       | some s => rw [hs] at h; simp at h
 · simp only at hk
   subst hk
   exact one_sign h
theorem toks_ok : ∀ (f p : Nat) (l : List UInt8) (ts : List Tok), toks f p l = .inr ts → ToksOk ts ∧ ∀ t ∈ ts, t.2.2.2 ≤ p + l.length
 | 0, p, l, ts, h => by simp [toks] at h; subst h; simp [ToksOk]
 | f + 1, p, [], ts, h => by simp [toks] at h; subst h; simp [ToksOk]
 | f + 1, p, x :: r, ts, h => by
   rw [toks] at h
   split at h
   · obtain ⟨h1, h2⟩ := toks_ok f _ _ ts h
     exact ⟨h1, fun t ht => by have := h2 t ht; simp; omega⟩
   · split at h
     · cases h
     · rename_i k t n m ho
       have hm := one_le ho
       cases hq : toks f (p + m) ((x :: r).drop m) with
       | inl e => rw [hq] at h; simp [consT] at h
       | inr us =>
         rw [hq] at h
         simp [consT] at h
         subst h
         obtain ⟨h1, h2⟩ := toks_ok f _ _ us hq
         refine ⟨fun u hu => ?_, fun u hu => ?_⟩
         · rcases List.mem_cons.1 hu with rfl | hu
           · exact one_ok ho
           · exact h1 u hu
         · rcases List.mem_cons.1 hu with rfl | hu
           · simp
           · have := h2 u hu
             rw [List.length_drop] at this
             simp at this hm ⊢
             omega
theorem lexOf_ok {l : List UInt8} {ts : List Tok} (h : lexOf l = .inr ts) : ToksOk ts ∧ ∀ t ∈ ts, t.2.2.2 ≤ l.length := by
 unfold lexOf at h
 split at h
 · cases h
 · split at h
   · cases h
   · rename_i us hu
     cases h
     have := toks_ok _ _ _ _ hu
     simpa using this
section
variable {α β : Type} {ts u : List Tok} {P : α → Prop} {Q : β → Prop}
end
def binL : List Str := [[79, 82], [65, 78, 68], [61], [60, 62], [60, 61], [62, 61], [60], [62], [43], [45], [42]]
inductive WfE : Ex → Prop where
 | num (n : Nat) (h : n < 1000000000000000000) : WfE (eNum n)
 | text (t : Str) : WfE (eText t)
 | name (t o : Str) (h : NameOk t) (h' : o = [] ∨ NameOk o) : WfE (eName t o)
 | no (a : Ex) (h : WfE a) : WfE (eOne [78, 79, 84] a)
 | neg (a : Ex) (h : WfE a) : WfE (eOne [45] a)
 | two (op : Str) (a b : Ex) (ho : op ∈ binL) (h : WfE a) (h' : WfE b) : WfE (eTwo op a b)
def nd : Ex → Nat
 | .mk op n t o args =>
   match args with
   | [a] => 1 + (if lvl a < (if op = [78, 79, 84] then 3 else 7) then nd a + 1 else nd a)
   | [a, b] => max (if lvl a < (if lvl (.mk op n t o [a, b]) = 4 then 5 else lvl (.mk op n t o [a, b])) then nd a + 1 else nd a) (if lvl b < lvl (.mk op n t o [a, b]) + 1 then nd b + 1 else nd b)
   | _ => 0
termination_by structural e => e
def pd (e : Ex) (k : Nat) : Nat := if lvl e < k then nd e + 1 else nd e
theorem lvl_no (a : Ex) : lvl (eOne [78, 79, 84] a) = 3 := by simp [lvl, eOne]
theorem lvl_neg (a : Ex) : lvl (eOne [45] a) = 7 := by simp [lvl, eOne]
def GE (n k : Nat) (e : Ex) : Prop := WfE e ∧ pd e k ≤ n
section
variable {E n : Nat}
end
theorem dec_small {n : Nat} (h : n < 10) : dec n = [UInt8.ofNat (48 + n)] := Go.Lib.decDigits_one h
theorem dec_big {n : Nat} (h : ¬ n < 10) : dec n = dec (n / 10) ++ [UInt8.ofNat (48 + n % 10)] := by
 show Go.Lib.decDigits n = _
 rw [Go.Lib.decDigits, dif_neg h]; rfl
theorem dec_len : ∀ (k n : Nat), n < 10 ^ (k + 1) → (dec n).length ≤ k + 1
 | 0, n, h => by rw [dec_small (by simpa using h)]; simp
 | k + 1, n, h => by
   by_cases h1 : n < 10
   · rw [dec_small h1]; simp
   · rw [dec_big h1, List.length_append]
     have := dec_len k (n / 10) (by rw [Nat.pow_succ] at h; omega)
     simp; omega
def opLv (op : Str) : Nat := if op = [79, 82] then 1 else if op = [65, 78, 68] then 2 else if op = [43] ∨ op = [45] then 5 else if op = [42] then 6 else 4
theorem lvl_two {op : Str} (h : op ∈ binL) (a b : Ex) : lvl (eTwo op a b) = opLv op := by
 simp only [binL, List.mem_cons, List.not_mem_nil, or_false] at h
 rcases h with rfl | rfl | rfl | rfl | rfl | rfl | rfl | rfl | rfl | rfl | rfl <;> simp [lvl, eTwo, opLv]
def rd (E n : Nat) : Nat → List Tok → Res Ex
 | 0 => (lv E n).ex
 | 1 => (lv E n).ex
 | 2 => ch (lv E n).no [[65, 78, 68]]
 | 3 => (lv E n).no
 | 4 => cmpOf (sumOf (lv E n).fac)
 | 5 => sumOf (lv E n).fac
 | 6 => productOf (lv E n).fac
 | _ => (lv E n).fac
end Go.Proofs.YtkhnpmeohjafiaaGreatDoor
