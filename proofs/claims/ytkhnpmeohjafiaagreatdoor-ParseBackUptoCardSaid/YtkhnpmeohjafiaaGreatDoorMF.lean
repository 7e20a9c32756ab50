/- A statement's text: plain law, the definitions. No program is named here. What a statement that was read is like: plain law. No program is named here. An expression's text is read as the expression again: plain law. No program is named here. -/
import Derived.Test.YtkhnpmeohjafiaaGreatDoorME
import Derived.Test.YtkhnpmeohjafiaaGreatDoorMB
import Derived.Lib.ItoaNum
namespace Go.Proofs.YtkhnpmeohjafiaaGreatDoor

/-- How strongly an operator binds. -/
def lvl : Ex → Nat
  | .mk op _ _ _ args =>
    if op = [79, 82] then 1 else if op = [65, 78, 68] then 2 else if op = [78, 79, 84] then 3
    else if op = [61] ∨ op = [60, 62] ∨ op = [60, 61] ∨ op = [62, 61] ∨ op = [60] ∨ op = [62] then 4
    else if op = [43] then 5
    else if op = [45] then (if args.length = 1 then 7 else 5)
    else if op = [42] then 6 else 8
/-- A number's digits. -/
def dec (n : Nat) : Str := Go.Lib.decDigits n
def brk (e : Ex) (least : Nat) (s : Str) : Str := if lvl e < least then [40] ++ s ++ [41] else s
/-- An expression as text. -/
def textE : Ex → Str
  | .mk op n t o args =>
    if op = [110, 117, 109, 98, 101, 114] then dec n
    else if op = [116, 101, 120, 116] then quoted t
    else if op = [110, 97, 109, 101] then (if o = [] then t else o ++ [46] ++ t)
    else match args with
    | [a] => if op = [78, 79, 84] then [78, 79, 84, 32] ++ brk a 3 (textE a) else if op = [45] then [45] ++ brk a 7 (textE a) else []
    | [a, b] =>
      if lvl (.mk op n t o [a, b]) = 4 then brk a 5 (textE a) ++ [32] ++ op ++ [32] ++ brk b 5 (textE b)
      else brk a (lvl (.mk op n t o [a, b])) (textE a) ++ [32] ++ op ++ [32] ++ brk b (lvl (.mk op n t o [a, b]) + 1) (textE b)
    | _ => []
termination_by structural e => e
def joinL (sep : Str) : List Str → Str
  | [] => []
  | [a] => a
  | a :: l => a ++ sep ++ joinL sep l
def whereT (l : List Ex) : Str := match l with | [] => [] | e :: _ => [32, 87, 72, 69, 82, 69, 32] ++ textE e
def toT (z : Nat) : Str := if z = FOREVER then [70, 79, 82, 69, 86, 69, 82] else dec z
def spanT (p : Nat × Nat) : Str := dec p.1 ++ [32, 84, 79, 32] ++ toT p.2
def portionT (p : Nat × Nat) : Str := if p = (0, FOREVER) then [] else [32, 70, 79, 82, 32] ++ spanT p
def askT (q : Qu) : Str :=
  if q.all then [42] else if q.count then [67, 79, 85, 78, 84] else if q.sum ≠ [] then [83, 85, 77, 32] ++ q.sum else joinL [44, 32] (q.items.map textE)
def queryT (q : Qu) : Str :=
  [83, 69, 76, 69, 67, 84, 32] ++ (if q.coalesce then [67, 79, 65, 76, 69, 83, 67, 69, 32] else []) ++ askT q ++ [32, 70, 82, 79, 77, 32] ++ joinL [44, 32] q.tables ++ whereT q.cond
def moreT : List Str → List Qu → Str
  | o :: os, q :: qs => [32] ++ o ++ [32] ++ queryT q ++ moreT os qs
  | [], q :: qs => queryT q ++ moreT [] qs
  | _, [] => []
def selectT (x : St) : Str :=
  (match x.query with | [] => [] | q :: qs => queryT q ++ moreT x.ops qs) ++ (x.asOf.map fun n => [32, 65, 83, 32, 79, 70, 32] ++ dec n).flatten ++ (x.during.map fun p => [32, 68, 85, 82, 73, 78, 71, 32] ++ spanT p).flatten ++
    (if x.order = [] then [] else [32, 79, 82, 68, 69, 82, 32, 66, 89, 32] ++ joinL [44, 32] x.order)
def colT (c : Str × Nat) : Str := if c.2 = 2 then c.1 ++ [32, 84, 69, 88, 84] else c.1 ++ [32, 73, 78, 84]
def setT (c : Str × Ex) : Str := c.1 ++ [32, 61, 32] ++ textE c.2
/-- A statement as text. -/
def printT (x : St) : Str :=
  if x.kind = [67, 82, 69, 65, 84, 69] then [67, 82, 69, 65, 84, 69, 32, 84, 65, 66, 76, 69, 32] ++ x.table ++ [32, 40] ++ joinL [44, 32] (x.columns.map colT) ++ [41] ++ (if x.keys = [] then [] else [32, 78, 79, 32, 79, 86, 69, 82, 76, 65, 80, 32, 40] ++ joinL [44, 32] x.keys ++ [41])
  else if x.kind = [73, 78, 68, 69, 88] then [67, 82, 69, 65, 84, 69, 32, 73, 78, 68, 69, 88, 32, 79, 78, 32] ++ x.table
  else if x.kind = [73, 78, 83, 69, 82, 84] then [73, 78, 83, 69, 82, 84, 32, 73, 78, 84, 79, 32] ++ x.table ++ [32, 86, 65, 76, 85, 69, 83, 32, 40] ++ joinL [44, 32] (x.values.map textE) ++ [41, 32, 70, 82, 79, 77, 32] ++ spanT x.period
  else if x.kind = [85, 80, 68, 65, 84, 69] then [85, 80, 68, 65, 84, 69, 32] ++ x.table ++ [32, 83, 69, 84, 32] ++ joinL [44, 32] (x.sets.map setT) ++ portionT x.period ++ whereT x.cond
  else if x.kind = [68, 69, 76, 69, 84, 69] then [68, 69, 76, 69, 84, 69, 32, 70, 82, 79, 77, 32] ++ x.table ++ portionT x.period ++ whereT x.cond
  else if x.kind = [83, 69, 76, 69, 67, 84] then selectT x
  else x.kind
end Go.Proofs.YtkhnpmeohjafiaaGreatDoor
namespace Go.Proofs.YtkhnpmeohjafiaaGreatDoor

def WordOk (s : Str) : Prop := headL s = true ∧ (∀ x ∈ s, isW x = true) ∧ s.map up = s
def TokOk (t : Tok) : Prop := (t.1 = 1 → WordOk t.2.1) ∧ (t.1 = 2 → t.2.2.1 < 1000000000000000000) ∧ (t.1 = 4 → t.2.1 ∈ signs14)
def ToksOk (ts : List Tok) : Prop := ∀ t ∈ ts, TokOk t
def NameOk (s : Str) : Prop := WordOk s ∧ resv s = false ∧ s.length ≤ 24
theorem ToksOk.suf {ts us : List Tok} (h : ToksOk ts) (hs : us <:+ ts) : ToksOk us := fun t ht => h t (hs.mem ht)
theorem ToksOk.tail {ts : List Tok} (h : ToksOk ts) : ToksOk ts.tail := h.suf (suf_tail ts)
theorem up_all : ∀ n : Fin 256, up (up (UInt8.ofNat n.val)) = up (UInt8.ofNat n.val) ∧ isL (up (UInt8.ofNat n.val)) = isL (UInt8.ofNat n.val) ∧ isD (up (UInt8.ofNat n.val)) = isD (UInt8.ofNat n.val) := by decide +kernel
theorem up_up (x : UInt8) : up (up x) = up x ∧ isL (up x) = isL x ∧ isD (up x) = isD x := by
  have := up_all ⟨x.toNat, x.toNat_lt⟩
  simpa using this
theorem wordOk_up {s : Str} (h : headL s = true) (hw : ∀ x ∈ s, isW x = true) : WordOk (s.map up) := by
  refine ⟨?_, ?_, ?_⟩
  · cases s with
    | nil => exact h
    | cons x r => simp only [headL] at h; simp only [List.map_cons, headL]; rw [(up_up x).2.1]; exact h
  · intro y hy
    obtain ⟨x, hx, rfl⟩ := List.mem_map.1 hy
    have := hw x hx
    simp only [isW] at this ⊢
    rw [(up_up x).2.1, (up_up x).2.2]; exact this
  · rw [List.map_map]
    refine List.map_congr_left fun x _ => ?_
    exact (up_up x).1
theorem mem_takeWhile {p : UInt8 → Bool} : ∀ {l : List UInt8} {x : UInt8}, x ∈ l.takeWhile p → p x = true
  | [], _, h => by simp at h
  | y :: r, x, h => by
    rw [List.takeWhile_cons] at h
    split at h
    · rename_i hy
      rcases List.mem_cons.1 h with rfl | h
      · exact hy
      · exact mem_takeWhile h
    · simp at h
theorem one_ok {l t : List UInt8} {k n m p : Nat} (h : one l = some (k, t, n, m)) : TokOk (k, t, n, p) := by
  refine ⟨fun hk => ?_, fun hk => ?_, fun hk => ?_⟩
  · simp only at hk
    subst hk
    cases l with
    | nil => simp [one] at h
    | cons x r =>
      rw [one_cons] at h
      split at h
      · rename_i hx
        simp only [Option.some.injEq, Prod.mk.injEq, true_and] at h
        obtain ⟨rfl, -, -⟩ := h
        refine wordOk_up ?_ (fun y hy => mem_takeWhile hy)
        rw [List.takeWhile_cons, if_pos (isW_of_L hx)]
        exact hx
      split at h
      · split at h <;> simp at h
      split at h
      · cases hq : quo r with
        | none => rw [hq] at h; simp at h
        | some q => rw [hq] at h; simp at h
      · cases hs : sgn x r with
        | none => rw [hs] at h; simp at h
        | some s => rw [hs] at h; simp at h
  · simp only at hk
    subst hk
    cases l with
    | nil => simp [one] at h
    | cons x r =>
      rw [one_cons] at h
      split at h
      · simp at h
      split at h
      · split at h
        · rename_i hc
          simp only [Option.some.injEq, Prod.mk.injEq, true_and] at h
          obtain ⟨-, rfl, -⟩ := h
          have h1 := val_lt ((x :: r).takeWhile isD) (fun y hy => mem_takeWhile hy)
          have h2 : 10 ^ ((x :: r).takeWhile isD).length ≤ 10 ^ 18 := Nat.pow_le_pow_right (by omega) hc.1
          simp only
          omega
        · simp at h
      split at h
      · cases hq : quo r with
        | none => rw [hq] at h; simp at h
        | some q => rw [hq] at h; simp at h
      · cases hs : sgn x r with
        | none => rw [hs] at h; simp at h
        | some s => rw [hs] at h; simp at h
  · simp only at hk
    subst hk
    exact one_sign h
theorem toks_ok : ∀ (f p : Nat) (l : List UInt8) (ts : List Tok), toks f p l = .inr ts → ToksOk ts ∧ ∀ t ∈ ts, t.2.2.2 ≤ p + l.length
  | 0, p, l, ts, h => by simp [toks] at h; subst h; simp [ToksOk]
  | f + 1, p, [], ts, h => by simp [toks] at h; subst h; simp [ToksOk]
  | f + 1, p, x :: r, ts, h => by
    rw [toks] at h
    split at h
    · obtain ⟨h1, h2⟩ := toks_ok f _ _ ts h
      exact ⟨h1, fun t ht => by have := h2 t ht; simp; omega⟩
    · split at h
      · cases h
      · rename_i k t n m ho
        have hm := one_le ho
        cases hq : toks f (p + m) ((x :: r).drop m) with
        | inl e => rw [hq] at h; simp [consT] at h
        | inr us =>
          rw [hq] at h
          simp [consT] at h
          subst h
          obtain ⟨h1, h2⟩ := toks_ok f _ _ us hq
          refine ⟨fun u hu => ?_, fun u hu => ?_⟩
          · rcases List.mem_cons.1 hu with rfl | hu
            · exact one_ok ho
            · exact h1 u hu
          · rcases List.mem_cons.1 hu with rfl | hu
            · simp
            · have := h2 u hu
              rw [List.length_drop] at this
              simp at this hm ⊢
              omega
theorem toks_bad : ∀ (f p : Nat) (l : List UInt8) (q : Nat), toks f p l = .inl q → q ≤ p + l.length
  | 0, p, l, q, h => by simp [toks] at h
  | f + 1, p, [], q, h => by simp [toks] at h
  | f + 1, p, x :: r, q, h => by
    rw [toks] at h
    split at h
    · have := toks_bad f _ _ q h
      simp; omega
    · split at h
      · cases h; omega
      · rename_i k t n m ho
        have hm := one_le ho
        cases hq : toks f (p + m) ((x :: r).drop m) with
        | inl e =>
          rw [hq] at h
          simp [consT] at h
          subst h
          have := toks_bad f _ _ e hq
          rw [List.length_drop] at this
          simp at this hm ⊢
          omega
        | inr us => rw [hq] at h; simp [consT] at h
theorem lexOf_ok {l : List UInt8} {ts : List Tok} (h : lexOf l = .inr ts) : ToksOk ts ∧ ∀ t ∈ ts, t.2.2.2 ≤ l.length := by
  unfold lexOf at h
  split at h
  · cases h
  · split at h
    · cases h
    · rename_i us hu
      cases h
      have := toks_ok _ _ _ _ hu
      simpa using this
theorem lexOf_place {l : List UInt8} {c p : Nat} (h : lexOf l = .inl (c, p)) : p ≤ l.length ∧ c ≠ 0 := by
  unfold lexOf at h
  split at h
  · cases h; omega
  · split at h
    · rename_i q hq
      cases h
      have := toks_bad _ _ _ _ hq
      refine ⟨?_, by omega⟩
      simpa using this
    · cases h

/-- What is read is so, and the rest a part of what was there. -/
def Gv {α : Type} (ts : List Tok) (r : Res α) (P : α → Prop) : Prop := ∀ x t, r = .ok (x, t) → P x ∧ t <:+ ts
section
variable {α β : Type} {ts u : List Tok} {P : α → Prop} {Q : β → Prop}
theorem Gv.ok {x : α} (hx : P x) (h : u <:+ ts) : Gv ts (.ok (x, u)) P := by rintro _ _ h1; cases h1; exact ⟨hx, h⟩
theorem Gv.error {e : Nat × Nat} : Gv (α := α) ts (.error e) P := by rintro _ _ h; cases h
theorem Gv.bad {E c : Nat} {v : List Tok} : Gv (α := α) ts (bad E c v) P := Gv.error
theorem Gv.bnd {r : Res α} {k : α → List Tok → Res β} (h : Gv ts r P) (hk : ∀ x t, P x → t <:+ ts → Gv ts (k x t) Q) : Gv ts (bnd r k) Q := by
  cases r with
  | error e => exact Gv.error
  | ok q => exact hk q.1 q.2 (h _ _ rfl).1 (h _ _ rfl).2
theorem Gv.fin {r : Res α} {f : α → β} (h : Gv ts r P) (hf : ∀ x, P x → Q (f x)) : Gv ts (fin f r) Q := Gv.bnd h fun x _ hx ht => Gv.ok (hf x hx) ht
theorem Gv.up {r : Res α} (h : Gv u r P) (hu : u <:+ ts) : Gv ts r P := fun x t hr => ⟨(h x t hr).1, (h x t hr).2.trans hu⟩
theorem Gv.mono {r : Res α} {P' : α → Prop} (h : Gv ts r P) (hp : ∀ x, P x → P' x) : Gv ts r P' := fun x t hr => ⟨hp x (h x t hr).1, (h x t hr).2⟩
theorem Gv.must (E : Nat) (s : Str) (ts : List Tok) : Gv ts (must E s ts) (fun _ => True) := fun _ _ h => ⟨trivial, Suf.must E s ts _ _ h⟩
theorem txt_word {ts : List Tok} (h : ToksOk ts) (hk : isK 1 ts = true) : WordOk (txt ts) := by
  cases ts with
  | nil => simp [isK] at hk
  | cons t r => exact (h t (by simp)).1 (by simpa [isK] using hk)
theorem nmb_small {ts : List Tok} (h : ToksOk ts) (hk : isK 2 ts = true) : nmb ts < 1000000000000000000 := by
  cases ts with
  | nil => simp [isK] at hk
  | cons t r => exact (h t (by simp)).2.1 (by simpa [isK] using hk)
theorem Gv.name {E : Nat} {ts : List Tok} (h : ToksOk ts) : Gv ts (name E ts) NameOk := by
  unfold Go.Proofs.YtkhnpmeohjafiaaGreatDoor.name; split
  · rename_i hn
    simp only [nameT, Bool.and_eq_true, Bool.not_eq_true', decide_eq_true_eq] at hn
    exact Gv.ok ⟨txt_word h hn.1.1, hn.1.2, hn.2⟩ (suf_tail _)
  · exact Gv.bad
theorem Gv.number {E : Nat} {ts : List Tok} (h : ToksOk ts) : Gv ts (number E ts) (· < 1000000000000000000) := by
  unfold Go.Proofs.YtkhnpmeohjafiaaGreatDoor.number; split
  · rename_i hk
    exact Gv.ok (nmb_small h hk) (suf_tail _)
  · exact Gv.bad
theorem Gv.sepL {one : List Tok → Res α} (h : ∀ ts, ToksOk ts → Gv ts (one ts) P) : ∀ (f : Nat) (acc : List α) (ts : List Tok), ToksOk ts → (∀ x ∈ acc, P x) → acc ≠ [] → Gv ts (sepL one f acc ts) (fun l => l ≠ [] ∧ ∀ x ∈ l, P x)
  | 0, _, _, _, ha, hn => Gv.ok ⟨hn, ha⟩ (List.suffix_refl _)
  | f + 1, acc, ts, ht, ha, hn => by
    unfold Go.Proofs.YtkhnpmeohjafiaaGreatDoor.sepL; split
    · refine Gv.bnd ((h _ ht.tail).up (suf_tail _)) fun x t hx hs => (Gv.sepL h f _ t (ht.suf hs) (fun y hy => ?_) (by simp)).up hs
      rcases List.mem_append.1 hy with hy | hy
      · exact ha y hy
      · simp at hy; subst hy; exact hx
    · exact Gv.ok ⟨hn, ha⟩ (List.suffix_refl _)
theorem Gv.sep {one : List Tok → Res α} (h : ∀ ts, ToksOk ts → Gv ts (one ts) P) {ts : List Tok} (ht : ToksOk ts) : Gv ts (sep one ts) (fun l => l ≠ [] ∧ ∀ x ∈ l, P x) :=
  Gv.bnd (h ts ht) fun x t hx hs => (Gv.sepL h _ _ t (ht.suf hs) (by simpa using hx) (by simp)).up hs
end

/-- Operators with two operands. -/
def binL : List Str := [[79, 82], [65, 78, 68], [61], [60, 62], [60, 61], [62, 61], [60], [62], [43], [45], [42]]
inductive WfE : Ex → Prop where
  | num (n : Nat) (h : n < 1000000000000000000) : WfE (eNum n)
  | text (t : Str) : WfE (eText t)
  | name (t o : Str) (h : NameOk t) (h' : o = [] ∨ NameOk o) : WfE (eName t o)
  | no (a : Ex) (h : WfE a) : WfE (eOne [78, 79, 84] a)
  | neg (a : Ex) (h : WfE a) : WfE (eOne [45] a)
  | two (op : Str) (a b : Ex) (ho : op ∈ binL) (h : WfE a) (h' : WfE b) : WfE (eTwo op a b)
/-- How deep an expression is written. -/
def nd : Ex → Nat
  | .mk op n t o args =>
    match args with
    | [a] => 1 + (if lvl a < (if op = [78, 79, 84] then 3 else 7) then nd a + 1 else nd a)
    | [a, b] => max (if lvl a < (if lvl (.mk op n t o [a, b]) = 4 then 5 else lvl (.mk op n t o [a, b])) then nd a + 1 else nd a) (if lvl b < lvl (.mk op n t o [a, b]) + 1 then nd b + 1 else nd b)
    | _ => 0
termination_by structural e => e
def pd (e : Ex) (k : Nat) : Nat := if lvl e < k then nd e + 1 else nd e
theorem pd_mono {e : Ex} {k j : Nat} (h : k ≤ j) : pd e k ≤ pd e j := by unfold pd; split <;> split <;> omega
theorem pd_le {e : Ex} {k : Nat} : pd e k ≤ nd e + 1 := by unfold pd; split <;> omega
theorem nd_le {e : Ex} {k : Nat} : nd e ≤ pd e k := by unfold pd; split <;> omega
theorem lvl_num (n : Nat) : lvl (eNum n) = 8 := by simp [lvl, eNum]
theorem lvl_text (t : Str) : lvl (eText t) = 8 := by simp [lvl, eText]
theorem lvl_name (t o : Str) : lvl (eName t o) = 8 := by simp [lvl, eName]
theorem lvl_no (a : Ex) : lvl (eOne [78, 79, 84] a) = 3 := by simp [lvl, eOne]
theorem lvl_neg (a : Ex) : lvl (eOne [45] a) = 7 := by simp [lvl, eOne]
theorem nd_num (n : Nat) : nd (eNum n) = 0 := by simp [nd, eNum]
theorem nd_text (t : Str) : nd (eText t) = 0 := by simp [nd, eText]
theorem nd_name (t o : Str) : nd (eName t o) = 0 := by simp [nd, eName]
theorem nd_no (a : Ex) : nd (eOne [78, 79, 84] a) = 1 + pd a 3 := by simp [nd, eOne, pd]
theorem nd_neg (a : Ex) : nd (eOne [45] a) = 1 + pd a 7 := by simp [nd, eOne, pd]
theorem nd_two (op : Str) (a b : Ex) : nd (eTwo op a b) = max (pd a (if lvl (eTwo op a b) = 4 then 5 else lvl (eTwo op a b))) (pd b (lvl (eTwo op a b) + 1)) := by
  simp only [eTwo, nd, pd]
  rfl
theorem lvl_two_any (op : Str) (a b c d : Ex) : lvl (eTwo op a b) = lvl (eTwo op c d) := by simp [lvl, eTwo]
theorem lvl_pos (e : Ex) : 1 ≤ lvl e := by
  cases e with
  | mk op n t o args =>
    simp only [lvl]
    (repeat' split) <;> omega
/-- Well formed, and written at a level without lying deeper than n. -/
def GE (n k : Nat) (e : Ex) : Prop := WfE e ∧ pd e k ≤ n
theorem GE.mono {n k j : Nat} {e : Ex} (h : GE n k e) (hj : j ≤ k) : GE n j e := ⟨h.1, Nat.le_trans (pd_mono hj) h.2⟩
theorem pd_atom {e : Ex} {k : Nat} (h : lvl e = 8) (h0 : nd e = 0) (hk : k ≤ 8) : pd e k = 0 := by unfold pd; rw [if_neg (by omega), h0]
section
variable {E n : Nat}
theorem Gv.chL {read : List Tok → Res Ex} {ops : List Str} {k : Nat} (hk : k ≠ 4) (hops : ∀ op ∈ ops, op ∈ binL ∧ ∀ a b, lvl (eTwo op a b) = k)
    (h : ∀ ts, ToksOk ts → Gv ts (read ts) (GE n (k + 1))) : ∀ (f : Nat) (e : Ex) (ts : List Tok), ToksOk ts → GE n k e → Gv ts (chL read ops f e ts) (GE n k)
  | 0, _, _, _, he => Gv.ok he (List.suffix_refl _)
  | f + 1, e, ts, ht, he => by
    unfold Go.Proofs.YtkhnpmeohjafiaaGreatDoor.chL; split
    · rename_i ha
      have hop : txt ts ∈ ops := by
        simp only [anyT, List.any_eq_true] at ha
        obtain ⟨s, hs, hi⟩ := ha
        cases ts with
        | nil => simp [isT] at hi
        | cons t r =>
          simp only [isT, Bool.and_eq_true, beq_iff_eq] at hi
          simp only [txt]
          rw [hi.2]; exact hs
      obtain ⟨h1, h2⟩ := hops _ hop
      refine Gv.bnd ((h _ ht.tail).up (suf_tail _)) fun x t hx hs => (Gv.chL hk hops h f _ t (ht.suf hs) ⟨.two _ _ _ h1 he.1 hx.1, ?_⟩).up hs
      unfold pd
      rw [h2, if_neg (by omega), nd_two, h2, if_neg hk]
      exact Nat.max_le.2 ⟨he.2, hx.2⟩
    · exact Gv.ok he (List.suffix_refl _)
theorem Gv.ch {read : List Tok → Res Ex} {ops : List Str} {k : Nat} (hk : k ≠ 4) (hops : ∀ op ∈ ops, op ∈ binL ∧ ∀ a b, lvl (eTwo op a b) = k)
    (h : ∀ ts, ToksOk ts → Gv ts (read ts) (GE n (k + 1))) {ts : List Tok} (ht : ToksOk ts) : Gv ts (ch read ops ts) (GE n k) :=
  Gv.bnd (h ts ht) fun x t hx hs => (Gv.chL hk hops h _ x t (ht.suf hs) (hx.mono (by omega))).up hs
theorem ops_mul : ∀ op ∈ ([[42]] : List Str), op ∈ binL ∧ ∀ a b, lvl (eTwo op a b) = 6 := by
  intro op h; simp at h; subst h; exact ⟨by decide, fun a b => by simp [lvl, eTwo]⟩
theorem ops_add : ∀ op ∈ ([[43], [45]] : List Str), op ∈ binL ∧ ∀ a b, lvl (eTwo op a b) = 5 := by
  intro op h; simp at h; rcases h with rfl | rfl <;> exact ⟨by decide, fun a b => by simp [lvl, eTwo]⟩
theorem ops_and : ∀ op ∈ ([[65, 78, 68]] : List Str), op ∈ binL ∧ ∀ a b, lvl (eTwo op a b) = 2 := by
  intro op h; simp at h; subst h; exact ⟨by decide, fun a b => by simp [lvl, eTwo]⟩
theorem ops_or : ∀ op ∈ ([[79, 82]] : List Str), op ∈ binL ∧ ∀ a b, lvl (eTwo op a b) = 1 := by
  intro op h; simp at h; subst h; exact ⟨by decide, fun a b => by simp [lvl, eTwo]⟩
theorem ops_cmp : ∀ op ∈ cmpL, op ∈ binL ∧ ∀ a b, lvl (eTwo op a b) = 4 := by
  intro op h; simp [cmpL] at h; rcases h with rfl | rfl | rfl | rfl | rfl | rfl <;> exact ⟨by decide, fun a b => by simp [lvl, eTwo]⟩
theorem any_txt {ops : List Str} {ts : List Tok} (ha : anyT ops ts = true) : txt ts ∈ ops := by
  simp only [anyT, List.any_eq_true] at ha
  obtain ⟨s, hs, hi⟩ := ha
  cases ts with
  | nil => simp [isT] at hi
  | cons t r =>
    simp only [isT, Bool.and_eq_true, beq_iff_eq] at hi
    simp only [txt]
    rw [hi.2]; exact hs
theorem Gv.item {ts : List Tok} (ht : ToksOk ts) : Gv ts (item E ts) (fun e => ∃ t o, NameOk t ∧ (o = [] ∨ NameOk o) ∧ e = eName t o) := by
  refine Gv.bnd (Gv.name ht) fun n t hn hs => ?_
  split
  · exact Gv.bnd ((Gv.name (ht.suf hs).tail).up (suf_tail' hs)) fun m t' hm h' => Gv.ok ⟨m, n, hm, .inr hn, rfl⟩ h'
  · exact Gv.ok ⟨n, [], hn, .inl rfl, rfl⟩ hs
theorem Gv.factorOf {fs es : List Tok → Res Ex} (hf : ∀ ts, ToksOk ts → Gv ts (fs ts) (fun e => GE (n - 1) 7 e ∧ 1 ≤ n)) (he : ∀ ts, ToksOk ts → Gv ts (es ts) (fun e => GE (n - 1) 1 e ∧ 1 ≤ n)) {ts : List Tok} (ht : ToksOk ts) : Gv ts (factorOf E fs es ts) (GE n 7) := by
  unfold Go.Proofs.YtkhnpmeohjafiaaGreatDoor.factorOf
  split
  · rename_i hk
    exact Gv.ok ⟨.num _ (nmb_small ht hk), by rw [pd_atom (lvl_num _) (nd_num _) (by omega)]; omega⟩ (suf_tail _)
  split
  · exact Gv.ok ⟨.text _, by rw [pd_atom (lvl_text _) (nd_text _) (by omega)]; omega⟩ (suf_tail _)
  split
  · refine ((hf _ ht.tail).up (suf_tail _)).fin fun x hx => ⟨.neg _ hx.1.1, ?_⟩
    unfold pd
    rw [lvl_neg, if_neg (by omega), nd_neg]
    have := hx.1.2; have := hx.2; omega
  split
  · refine Gv.bnd ((he _ ht.tail).up (suf_tail _)) fun e t hx hs => Gv.bnd ((Gv.must E _ t).up hs) fun _ t _ h => Gv.ok ⟨hx.1.1, ?_⟩ h
    have h1 := pd_le (e := e) (k := 7)
    have h2 := nd_le (e := e) (k := 1)
    have := hx.1.2; have := hx.2; omega
  · refine (Gv.item ht).mono fun e he => ?_
    obtain ⟨t, o, h1, h2, rfl⟩ := he
    exact ⟨.name t o h1 h2, by rw [pd_atom (lvl_name _ _) (nd_name _ _) (by omega)]; omega⟩
theorem Gv.notOf {fc ns : List Tok → Res Ex} (hf : ∀ ts, ToksOk ts → Gv ts (fc ts) (GE n 7)) (hn : ∀ ts, ToksOk ts → Gv ts (ns ts) (fun e => GE (n - 1) 3 e ∧ 1 ≤ n)) {ts : List Tok} (ht : ToksOk ts) : Gv ts (notOf fc ns ts) (GE n 3) := by
  have hs : ∀ ts, ToksOk ts → Gv ts (sumOf fc ts) (GE n 5) := fun ts ht => Gv.ch (by omega) ops_add (fun ts ht => Gv.ch (by omega) ops_mul hf ht) ht
  unfold Go.Proofs.YtkhnpmeohjafiaaGreatDoor.notOf; split
  · refine ((hn _ ht.tail).up (suf_tail _)).fin fun x hx => ⟨.no _ hx.1.1, ?_⟩
    unfold pd
    rw [lvl_no, if_neg (by omega), nd_no]
    have := hx.1.2; have := hx.2; omega
  · refine Gv.bnd (hs ts ht) fun e t he h => ?_
    split
    · rename_i ha
      obtain ⟨h1, h2⟩ := ops_cmp _ (any_txt ha)
      refine ((hs _ (ht.suf h).tail).up (suf_tail' h)).fin fun x hx => ⟨.two _ _ _ h1 he.1 hx.1, ?_⟩
      unfold pd
      rw [h2, if_neg (by omega), nd_two, h2]
      exact Nat.max_le.2 ⟨he.2, hx.2⟩
    · exact Gv.ok (he.mono (by omega)) h
theorem Gv.exprOf {nt : List Tok → Res Ex} (h : ∀ ts, ToksOk ts → Gv ts (nt ts) (GE n 3)) {ts : List Tok} (ht : ToksOk ts) : Gv ts (exprOf nt ts) (GE n 1) :=
  Gv.ch (by omega) ops_or (fun ts ht => Gv.ch (by omega) ops_and h ht) ht
end
theorem gv_lv (E : Nat) : ∀ n, (∀ ts, ToksOk ts → Gv ts ((lv E n).fac ts) (GE n 7)) ∧ (∀ ts, ToksOk ts → Gv ts ((lv E n).no ts) (GE n 3)) ∧ ∀ ts, ToksOk ts → Gv ts ((lv E n).ex ts) (GE n 1)
  | 0 => by
    have h1 : ∀ ts, ToksOk ts → Gv ts ((lv E 0).fac ts) (GE 0 7) := fun ts ht => Gv.factorOf (fun _ _ => Gv.bad) (fun _ _ => Gv.bad) ht
    have h2 : ∀ ts, ToksOk ts → Gv ts ((lv E 0).no ts) (GE 0 3) := fun ts ht => Gv.notOf h1 (fun _ _ => Gv.bad) ht
    exact ⟨h1, h2, fun ts ht => Gv.exprOf h2 ht⟩
  | n + 1 => by
    obtain ⟨i1, i2, i3⟩ := gv_lv E n
    have h1 : ∀ ts, ToksOk ts → Gv ts ((lv E (n + 1)).fac ts) (GE (n + 1) 7) := fun ts ht => Gv.factorOf (n := n + 1) (fun _ h => (i1 _ h).mono fun _ h => ⟨h, by omega⟩) (fun _ h => (i3 _ h).mono fun _ h => ⟨h, by omega⟩) ht
    have h2 : ∀ ts, ToksOk ts → Gv ts ((lv E (n + 1)).no ts) (GE (n + 1) 3) := fun ts ht => Gv.notOf (n := n + 1) h1 (fun _ h => (i2 _ h).mono fun _ h => ⟨h, by omega⟩) ht
    exact ⟨h1, h2, fun ts ht => Gv.exprOf h2 ht⟩
theorem Gv.expr {E : Nat} {ts : List Tok} (ht : ToksOk ts) : Gv ts (expr E ts) (GE 32 1) := (gv_lv E 32).2.2 ts ht
end Go.Proofs.YtkhnpmeohjafiaaGreatDoor
namespace Go.Proofs.YtkhnpmeohjafiaaGreatDoor

theorem isD_dec : ∀ n : Fin 10, isD (UInt8.ofNat (48 + n.val)) = true ∧ (UInt8.ofNat (48 + n.val)).toNat - 48 = n.val := by decide
theorem dec_small {n : Nat} (h : n < 10) : dec n = [UInt8.ofNat (48 + n)] := Go.Lib.decDigits_one h
theorem dec_big {n : Nat} (h : ¬ n < 10) : dec n = dec (n / 10) ++ [UInt8.ofNat (48 + n % 10)] := by
  show Go.Lib.decDigits n = _
  rw [Go.Lib.decDigits, dif_neg h]; rfl
theorem dec_digits (n : Nat) : (∀ x ∈ dec n, isD x = true) ∧ val (dec n) = n ∧ dec n ≠ [] := by
  induction n using Nat.strongRecOn with
  | _ n ih =>
    by_cases h : n < 10
    · rw [dec_small h]
      have h1 : isD (UInt8.ofNat (48 + n)) = true := (isD_dec ⟨n, h⟩).1
      have h2 : (UInt8.ofNat (48 + n)).toNat - 48 = n := (isD_dec ⟨n, h⟩).2
      refine ⟨fun x hx => by rw [List.mem_singleton.1 hx]; exact h1, ?_, by simp⟩
      simp only [val, List.foldl_cons, List.foldl_nil]
      omega
    · obtain ⟨h1, h2, h3⟩ := ih (n / 10) (by omega)
      rw [dec_big h]
      have h4 : isD (UInt8.ofNat (48 + n % 10)) = true := (isD_dec ⟨n % 10, by omega⟩).1
      have h5 : (UInt8.ofNat (48 + n % 10)).toNat - 48 = n % 10 := (isD_dec ⟨n % 10, by omega⟩).2
      refine ⟨fun x hx => ?_, ?_, by simp⟩
      · rcases List.mem_append.1 hx with hx | hx
        · exact h1 x hx
        · rw [List.mem_singleton.1 hx]; exact h4
      · rw [val_snoc, h2, h5]
        omega
theorem dec_len : ∀ (k n : Nat), n < 10 ^ (k + 1) → (dec n).length ≤ k + 1
  | 0, n, h => by rw [dec_small (by simpa using h)]; simp
  | k + 1, n, h => by
    by_cases h1 : n < 10
    · rw [dec_small h1]; simp
    · rw [dec_big h1, List.length_append]
      have := dec_len k (n / 10) (by rw [Nat.pow_succ] at h; omega)
      simp; omega

def brP (e : Ex) (k : Nat) (l : List Pc) : List Pc := if lvl e < k then .sig [40] :: (l ++ [.sig [41]]) else l
def opP (op : Str) : Pc := if op = [79, 82] ∨ op = [65, 78, 68] then .word op else .sig op
/-- An expression's pieces. -/
def pcE : Ex → List Pc
  | .mk op n t o args =>
    if op = [110, 117, 109, 98, 101, 114] then [.num (dec n)]
    else if op = [116, 101, 120, 116] then [.quo t]
    else if op = [110, 97, 109, 101] then (if o = [] then [.word t] else [.word o, .sig [46], .word t])
    else match args with
    | [a] => if op = [78, 79, 84] then .word [78, 79, 84] :: .gap [32] :: brP a 3 (pcE a) else if op = [45] then .sig [45] :: brP a 7 (pcE a) else []
    | [a, b] => brP a (if lvl (.mk op n t o [a, b]) = 4 then 5 else lvl (.mk op n t o [a, b])) (pcE a) ++ ([.gap [32], opP op, .gap [32]] ++ brP b (lvl (.mk op n t o [a, b]) + 1) (pcE b))
    | _ => []
termination_by structural e => e
/-- An operator's level. -/
def opLv (op : Str) : Nat := if op = [79, 82] then 1 else if op = [65, 78, 68] then 2 else if op = [43] ∨ op = [45] then 5 else if op = [42] then 6 else 4
theorem lvl_two {op : Str} (h : op ∈ binL) (a b : Ex) : lvl (eTwo op a b) = opLv op := by
  simp only [binL, List.mem_cons, List.not_mem_nil, or_false] at h
  rcases h with rfl | rfl | rfl | rfl | rfl | rfl | rfl | rfl | rfl | rfl | rfl <;> simp [lvl, eTwo, opLv]
theorem pc_num (n : Nat) : pcE (eNum n) = [.num (dec n)] := by simp [pcE, eNum]
theorem pc_textE (t : Str) : pcE (eText t) = [.quo t] := by simp [pcE, eText]
theorem pc_name (t o : Str) : pcE (eName t o) = if o = [] then [.word t] else [.word o, .sig [46], .word t] := by simp [pcE, eName]
theorem pc_no (a : Ex) : pcE (eOne [78, 79, 84] a) = .word [78, 79, 84] :: .gap [32] :: brP a 3 (pcE a) := by simp [pcE, eOne]
theorem pc_neg (a : Ex) : pcE (eOne [45] a) = .sig [45] :: brP a 7 (pcE a) := by simp [pcE, eOne]
theorem pc_two {op : Str} (h : op ∈ binL) (a b : Ex) : pcE (eTwo op a b) = brP a (if opLv op = 4 then 5 else opLv op) (pcE a) ++ ([.gap [32], opP op, .gap [32]] ++ brP b (opLv op + 1) (pcE b)) := by
  have h1 : op ≠ [110, 117, 109, 98, 101, 114] := by rintro rfl; revert h; decide
  have h2 : op ≠ [116, 101, 120, 116] := by rintro rfl; revert h; decide
  have h3 : op ≠ [110, 97, 109, 101] := by rintro rfl; revert h; decide
  have := lvl_two h a b
  simp only [eTwo] at *
  simp only [pcE, h1, h2, h3, if_false, this]
theorem flat_br (e : Ex) (k : Nat) (l : List Pc) : flatP (brP e k l) = brk e k (flatP l) := by
  unfold brP brk
  split
  · simp [flatP, Pc.flat]
  · rfl
theorem opP_flat (op : Str) : (opP op).flat = op := by unfold opP; split <;> rfl
theorem pc_flat {e : Ex} (h : WfE e) : flatP (pcE e) = textE e := by
  induction h with
  | num n h => rw [pc_num]; simp [textE, eNum, flatP, Pc.flat]
  | text t => rw [pc_textE]; simp [textE, eText, flatP, Pc.flat]
  | name t o h h' =>
    rw [pc_name]
    by_cases ho : o = []
    · simp [textE, eName, ho, flatP, Pc.flat]
    · simp [textE, eName, ho, flatP, Pc.flat]
  | no a h ih =>
    rw [pc_no, flatP_cons, flatP_cons, flat_br, ih]
    simp [textE, eOne, Pc.flat]
  | neg a h ih =>
    rw [pc_neg, flatP_cons, flat_br, ih]
    simp [textE, eOne, Pc.flat]
  | two op a b ho h h' ih ih' =>
    have h1 : op ≠ [110, 117, 109, 98, 101, 114] := by rintro rfl; revert ho; decide
    have h2 : op ≠ [116, 101, 120, 116] := by rintro rfl; revert ho; decide
    have h3 : op ≠ [110, 97, 109, 101] := by rintro rfl; revert ho; decide
    have hl := lvl_two ho a b
    rw [pc_two ho, flatP_append, flatP_append, flat_br, flat_br, ih, ih']
    simp only [eTwo] at *
    simp only [textE, h1, h2, h3, if_false, hl]
    have e1 : flatP [.gap [32], opP op, .gap [32]] = [32] ++ op ++ [32] := by rw [flatP_cons, flatP_cons, flatP_cons, opP_flat]; simp [Pc.flat, flatP_nil]
    rw [e1]
    split
    · rename_i h4; simp [h4]
    · simp
theorem br_mem {e : Ex} {k : Nat} {l : List Pc} {a : Pc} (h : a ∈ brP e k l) : a = .sig [40] ∨ a = .sig [41] ∨ a ∈ l := by
  unfold brP at h
  split at h
  · simp at h
    rcases h with h | h | h
    · exact .inl h
    · exact .inr (.inr h)
    · exact .inr (.inl h)
  · exact .inr (.inr h)
theorem opP_ok {op : Str} (h : op ∈ binL) : (opP op).ok := by
  simp only [binL, List.mem_cons, List.not_mem_nil, or_false] at h
  rcases h with rfl | rfl | h
  · show (Pc.word _).ok; simp only [Pc.ok]; decide
  · show (Pc.word _).ok; simp only [Pc.ok]; decide
  · rcases h with rfl | rfl | rfl | rfl | rfl | rfl | rfl | rfl | rfl <;> (show (Pc.sig _).ok; simp only [Pc.ok]; decide)
theorem pc_ok {e : Ex} (h : WfE e) : ∀ a ∈ pcE e, a.ok := by
  have hpar : ∀ {e : Ex} {k : Nat} {l : List Pc}, (∀ a ∈ l, a.ok) → ∀ a ∈ brP e k l, a.ok := by
    intro e k l hl a ha
    rcases br_mem ha with rfl | rfl | ha
    · simp only [Pc.ok]; decide
    · simp only [Pc.ok]; decide
    · exact hl a ha
  induction h with
  | num n h =>
    rw [pc_num]
    intro a ha
    simp at ha; subst ha
    obtain ⟨h1, h2, h3⟩ := dec_digits n
    exact ⟨h3, dec_len 17 n h, h1⟩
  | text t => rw [pc_textE]; intro a ha; simp at ha; subst ha; trivial
  | name t o h h' =>
    rw [pc_name]
    split
    · intro a ha; simp at ha; subst ha; exact ⟨h.1.1, h.1.2.1⟩
    · rename_i ho
      have h2 := h'.resolve_left ho
      intro a ha
      simp at ha
      rcases ha with rfl | rfl | rfl
      · exact ⟨h2.1.1, h2.1.2.1⟩
      · simp only [Pc.ok]; decide
      · exact ⟨h.1.1, h.1.2.1⟩
  | no a h ih =>
    rw [pc_no]
    intro x hx
    rcases List.mem_cons.1 hx with rfl | hx
    · simp only [Pc.ok]; decide
    rcases List.mem_cons.1 hx with rfl | hx
    · simp only [Pc.ok]; decide
    exact hpar ih x hx
  | neg a h ih =>
    rw [pc_neg]
    intro x hx
    rcases List.mem_cons.1 hx with rfl | hx
    · simp only [Pc.ok]; decide
    exact hpar ih x hx
  | two op a b ho h h' ih ih' =>
    rw [pc_two ho]
    intro x hx
    rcases List.mem_append.1 hx with hx | hx
    · exact hpar ih x hx
    rcases List.mem_append.1 hx with hx | hx
    · simp at hx
      rcases hx with rfl | rfl | rfl
      · simp only [Pc.ok]; decide
      · exact opP_ok ho
      · simp only [Pc.ok]; decide
    · exact hpar ih' x hx
theorem dl_blank (r : Str) : Dl (32 :: r) := Dl.cons (by decide)
theorem dl_close (r : Str) : Dl (41 :: r) := Dl.cons (by decide)
theorem br_adj {e : Ex} {k : Nat} {l : List Pc} (h : ∀ r, Dl r → AdjP l r) {r : Str} (hr : Dl r) : AdjP (brP e k l) r := by
  unfold brP
  split
  · refine ⟨fun h => by simp at h, (adj_append _ _ _).2 ⟨h _ ?_, ?_⟩⟩
    · exact dl_close _
    · exact ⟨fun h => by simp at h, trivial⟩
  · exact h r hr
theorem pc_adj {e : Ex} (h : WfE e) : ∀ r, Dl r → AdjP (pcE e) r := by
  induction h with
  | num n h => intro r hr; rw [pc_num]; exact ⟨hr.next _, trivial⟩
  | text t => intro r hr; rw [pc_textE]; exact ⟨hr.next _, trivial⟩
  | name t o h h' =>
    intro r hr
    rw [pc_name]
    split
    · exact ⟨hr.next _, trivial⟩
    · refine ⟨?_, ?_, hr.next _, trivial⟩
      · intro x hx
        simp [flatP, Pc.flat] at hx
        subst hx; decide
      · intro h; simp at h
  | no a h ih =>
    intro r hr
    rw [pc_no]
    refine ⟨?_, trivial, br_adj ih hr⟩
    intro x hx
    simp [flatP, Pc.flat] at hx
    subst hx; decide
  | neg a h ih =>
    intro r hr
    rw [pc_neg]
    exact ⟨fun h => by simp at h, br_adj ih hr⟩
  | two op a b ho h h' ih ih' =>
    intro r hr
    rw [pc_two ho, adj_append, adj_append]
    refine ⟨br_adj ih ?_, ⟨trivial, ?_, trivial, trivial⟩, br_adj ih' hr⟩
    · simp only [flatP, List.flatMap_append, List.flatMap_cons, Pc.flat, List.cons_append, List.nil_append]
      exact dl_blank _
    · exact (dl_blank _).next _
/-! ### Reading again -/
/-- The reader of a level. -/
def rd (E n : Nat) : Nat → List Tok → Res Ex
  | 0 => (lv E n).ex
  | 1 => (lv E n).ex
  | 2 => ch (lv E n).no [[65, 78, 68]]
  | 3 => (lv E n).no
  | 4 => cmpOf (sumOf (lv E n).fac)
  | 5 => sumOf (lv E n).fac
  | 6 => productOf (lv E n).fac
  | _ => (lv E n).fac
/-- What may stand behind what the reader of a level has read. -/
def SK (k : Nat) (r : List Tok) : Prop :=
  isT [46] r = false ∧ (k ≤ 6 → anyT [[42]] r = false) ∧ (k ≤ 5 → anyT [[43], [45]] r = false) ∧ (k ≤ 4 → anyT cmpL r = false) ∧ (k ≤ 2 → anyT [[65, 78, 68]] r = false) ∧ (k ≤ 1 → anyT [[79, 82]] r = false)
theorem SK.mono {k j : Nat} {r : List Tok} (h : SK k r) (hj : k ≤ j) : SK j r :=
  ⟨h.1, fun h1 => h.2.1 (by omega), fun h1 => h.2.2.1 (by omega), fun h1 => h.2.2.2.1 (by omega), fun h1 => h.2.2.2.2.1 (by omega), fun h1 => h.2.2.2.2.2 (by omega)⟩
theorem rd_no_of {E n : Nat} {ts r : List Tok} {e : Ex} (h : rd E n 4 ts = .ok (e, r)) (hn : isT [78, 79, 84] ts = false) : rd E n 3 ts = .ok (e, r) := by
  obtain ⟨fs, ns, es, h1⟩ := lv_fac E n
  simp only [rd] at h ⊢
  rw [h1] at h ⊢
  show notOf _ _ _ = _
  unfold notOf
  rw [hn]
  exact h
theorem rd_lift {E n : Nat} {ts r : List Tok} {e : Ex} : ∀ (d k j : Nat), j = k + d → 1 ≤ k → j ≤ 7 → rd E n j ts = .ok (e, r) → SK k r → (k ≤ 3 → 4 ≤ j → isT [78, 79, 84] ts = false) → rd E n k ts = .ok (e, r)
  | 0, k, j, hj, _, _, h, _, _ => by obtain rfl : j = k := by omega
                                     exact h
  | d + 1, k, j, hj, h1, h7, h, hs, hn => by
    have ih : rd E n (k + 1) ts = .ok (e, r) := rd_lift d (k + 1) j (by omega) (by omega) h7 h (hs.mono (by omega)) (fun hk hj => hn (by omega) hj)
    obtain ⟨s0, s6, s5, s4, s2, s1⟩ := hs
    match k, ih with
    | 1, ih => exact ch_of ih (s1 (by omega))
    | 2, ih => exact ch_of ih (s2 (by omega))
    | 3, ih => exact rd_no_of ih (hn (by omega) (by omega))
    | 4, ih => exact cmp_of ih (s4 (by omega))
    | 5, ih => exact ch_of ih (s5 (by omega))
    | 6, ih => exact ch_of ih (s6 (by omega))
    | k + 7, ih => omega
def notB (b : Nat × Str × Nat) : Bool := (b.1 == 1 || b.1 == 4) && b.2.1 == [78, 79, 84]
theorem isT_strip {s : Str} {ts r : List Tok} {b : Nat × Str × Nat} {bs : List (Nat × Str × Nat)} (h : ts.map strip = b :: bs) : isT s (ts ++ r) = ((b.1 == 1 || b.1 == 4) && b.2.1 == s) := by
  cases ts with
  | nil => simp at h
  | cons t ts =>
    simp only [List.map_cons, List.cons.injEq] at h
    rw [List.cons_append, isT_of (k := b.1) (u := b.2.1) (n := b.2.2) h.1]
theorem front {e : Ex} (h : WfE e) : 4 ≤ lvl e → ∃ b bs, bareP (pcE e) = b :: bs ∧ notB b = false := by
  induction h with
  | num n h => intro _; rw [pc_num]; exact ⟨_, _, rfl, by simp [notB]⟩
  | text t => intro _; rw [pc_textE]; exact ⟨_, _, rfl, by simp [notB]⟩
  | name t o h h' =>
    intro _
    have hne : ∀ {s : Str}, NameOk s → (s.map up == [78, 79, 84]) = false := by
      intro s hs
      rw [hs.1.2.2, beq_eq_false_iff_ne]
      rintro rfl
      have := hs.2.1
      revert this
      decide
    rw [pc_name]
    split
    · exact ⟨_, _, rfl, by simp [notB, hne h]⟩
    · rename_i ho
      exact ⟨_, _, rfl, by simp [notB, hne (h'.resolve_left ho)]⟩
  | no a h ih => intro hl; rw [lvl_no] at hl; omega
  | neg a h ih => intro _; rw [pc_neg]; exact ⟨_, _, rfl, by simp [notB]⟩
  | two op a b ho h h' ih ih' =>
    intro hl
    rw [lvl_two ho] at hl
    rw [pc_two ho, bareP_append]
    by_cases hk : lvl a < (if opLv op = 4 then 5 else opLv op)
    · rw [brP, if_pos hk]
      exact ⟨_, _, rfl, by simp [notB]⟩
    · rw [brP, if_neg hk]
      obtain ⟨b, bs, h1, h2⟩ := ih (by split at hk <;> omega)
      rw [h1]
      exact ⟨_, _, rfl, h2⟩
theorem chL_fuel {read : List Tok → Res Ex} {ops : List Str} (h : ∀ ts, Suf ts (read ts)) : ∀ (f g : Nat) (e : Ex) (r : List Tok), r.length ≤ f → r.length ≤ g → chL read ops f e r = chL read ops g e r
  | 0, g, e, r, hf, hg => by
    obtain rfl : r = [] := List.eq_nil_of_length_eq_zero (by omega)
    have : anyT ops [] = false := by simp [anyT, isT]
    rw [chL_stop this, chL_stop this]
  | f + 1, 0, e, r, hf, hg => by
    obtain rfl : r = [] := List.eq_nil_of_length_eq_zero (by omega)
    have : anyT ops [] = false := by simp [anyT, isT]
    rw [chL_stop this, chL_stop this]
  | f + 1, g + 1, e, r, hf, hg => by
    unfold chL
    split
    · have hs := h r.tail
      cases hr : read r.tail with
      | error x => rfl
      | ok q =>
        have h1 := (hs q.1 q.2 hr).length_le
        cases r with
        | nil => rename_i ha; simp [anyT, isT] at ha
        | cons t r =>
          simp at h1 hf hg
          exact chL_fuel h f g _ q.2 (by omega) (by omega)
    · rfl
theorem suf_rd (E n k : Nat) : ∀ ts, Suf ts (rd E n k ts) := by
  intro ts
  obtain ⟨h1, h2, h3⟩ := Suf.lv E n
  unfold rd
  split
  · exact h3 ts
  · exact h3 ts
  · exact Suf.ch h2 ts
  · exact h2 ts
  · exact Suf.cmpOf (Suf.ch (Suf.ch h1)) ts
  · exact Suf.ch (Suf.ch h1) ts
  · exact Suf.ch h1 ts
  · exact h1 ts
def opsOf : Nat → List Str
  | 1 => [[79, 82]]
  | 2 => [[65, 78, 68]]
  | 5 => [[43], [45]]
  | _ => [[42]]
theorem rd_ch {E n k : Nat} (hk : k = 1 ∨ k = 2 ∨ k = 5 ∨ k = 6) : rd E n k = ch (rd E n (k + 1)) (opsOf k) := by
  rcases hk with rfl | rfl | rfl | rfl <;> rfl
theorem opLv_cases {op : Str} (h : op ∈ binL) : (opLv op = 4 ∧ op ∈ cmpL) ∨ ((opLv op = 1 ∨ opLv op = 2 ∨ opLv op = 5 ∨ opLv op = 6) ∧ op ∈ opsOf (opLv op)) := by
  simp only [binL, List.mem_cons, List.not_mem_nil, or_false] at h
  rcases h with rfl | rfl | rfl | rfl | rfl | rfl | rfl | rfl | rfl | rfl | rfl <;> decide
theorem opP_bare {op : Str} (h : op ∈ binL) : ∃ k, (opP op).bare = [(k, op, 0)] ∧ (k = 1 ∨ k = 4) := by
  simp only [binL, List.mem_cons, List.not_mem_nil, or_false] at h
  rcases h with rfl | rfl | rfl | rfl | rfl | rfl | rfl | rfl | rfl | rfl | rfl <;> simp only [opP] <;> first | exact ⟨1, by decide, by decide⟩ | exact ⟨4, by decide, by decide⟩
theorem sk_op {op : Str} (h : op ∈ binL) {t : Tok} {r : List Tok} {k : Nat} (ht : strip t = (k, op, 0)) (hk : k = 1 ∨ k = 4) {j : Nat} (hj : opLv op < j) : SK j (t :: r) := by
  have hb : (k == 1 || k == 4) = true := by rcases hk with rfl | rfl <;> rfl
  have hi : ∀ s, isT s (t :: r) = (op == s) := fun s => by rw [isT_of ht, hb, Bool.true_and]
  unfold SK
  simp only [anyT, List.any, cmpL, hi]
  simp only [binL, List.mem_cons, List.not_mem_nil, or_false] at h
  rcases h with rfl | rfl | rfl | rfl | rfl | rfl | rfl | rfl | rfl | rfl | rfl <;> simp only [opLv] at hj <;>
    refine ⟨by decide, fun h => ?_, fun h => ?_, fun h => ?_, fun h => ?_, fun h => ?_⟩ <;> first | decide | (exfalso; revert hj; simp; omega)
theorem sk_close {t : Tok} {r : List Tok} (ht : strip t = (4, [41], 0)) (j : Nat) : SK j (t :: r) := by
  have hi : ∀ s, isT s (t :: r) = (([41] : Str) == s) := fun s => by rw [isT_of ht]; rfl
  unfold SK
  simp only [anyT, List.any, cmpL, hi]
  refine ⟨by decide, fun _ => by decide, fun _ => by decide, fun _ => by decide, fun _ => by decide, fun _ => by decide⟩

theorem map_one {ts : List Tok} {b : Nat × Str × Nat} (h : ts.map strip = [b]) : ∃ t, ts = [t] ∧ strip t = b := by
  obtain ⟨t, h1, h2⟩ := List.map_eq_singleton_iff.1 h
  exact ⟨t, h1, h2⟩
theorem map_cons {ts : List Tok} {b : Nat × Str × Nat} {bs : List (Nat × Str × Nat)} (h : ts.map strip = b :: bs) : ∃ t us, ts = t :: us ∧ strip t = b ∧ us.map strip = bs := by
  obtain ⟨t, us, h1, h2, h3⟩ := List.map_eq_cons_iff.1 h
  exact ⟨t, us, h1, h2, h3⟩
/-- Read at its own level. -/
def Dr (E : Nat) (e : Ex) : Prop := ∀ n ts r, nd e ≤ n → SK (min (lvl e) 7) r → ts.map strip = bareP (pcE e) → rd E n (min (lvl e) 7) (ts ++ r) = .ok (e, r)
/-- Read at a level. -/
def Ar (E : Nat) (e : Ex) : Prop := ∀ n k ts r, 1 ≤ k → k ≤ 7 → pd e k ≤ n → SK k r → ts.map strip = bareP (brP e k (pcE e)) → rd E n k (ts ++ r) = .ok (e, r)
def DCr (E : Nat) (e : Ex) : Prop := ∀ n ts r, (lvl e = 1 ∨ lvl e = 2 ∨ lvl e = 5 ∨ lvl e = 6) → nd e ≤ n → SK (lvl e + 1) r → ts.map strip = bareP (pcE e) → rd E n (lvl e) (ts ++ r) = chL (rd E n (lvl e + 1)) (opsOf (lvl e)) r.length e r
def Cr (E : Nat) (e : Ex) : Prop := ∀ n k ts r, (k = 1 ∨ k = 2 ∨ k = 5 ∨ k = 6) → pd e k ≤ n → SK (k + 1) r → ts.map strip = bareP (brP e k (pcE e)) → rd E n k (ts ++ r) = chL (rd E n (k + 1)) (opsOf k) r.length e r
theorem fac_open {E n : Nat} {t u : Tok} {ts r : List Tok} {e : Ex} (ht : strip t = (4, [40], 0)) (hu : strip u = (4, [41], 0)) (h : (lv E n).ex (ts ++ u :: r) = .ok (e, u :: r)) : (lv E (n + 1)).fac (t :: (ts ++ u :: r)) = .ok (e, r) := by
  show factorOf E _ _ _ = _
  simp only [factorOf, isK_of ht, isT_of ht, List.tail_cons]
  simp only [show ((4 : Nat) == 2) = false by decide, show ((4 : Nat) == 3) = false by decide, show (((4 : Nat) == 1 || (4 : Nat) == 4) && ([40] : Str) == [45]) = false by decide, show (((4 : Nat) == 1 || (4 : Nat) == 4) && ([40] : Str) == [40]) = true by decide, Bool.false_eq_true, if_false, if_true, h, bnd_ok, must, isT_of hu, List.tail_cons]
  rfl
theorem Ar.of {E : Nat} {e : Ex} (hw : WfE e) (hD : Dr E e) : Ar E e := by
  intro n k ts r h1 h7 hp hs ht
  have hlp := lvl_pos e
  unfold brP at ht
  unfold pd at hp
  split at ht
  · rename_i hk
    rw [if_pos hk] at hp
    rw [bareP_cons, bareP_append] at ht
    simp only [Pc.bare, List.singleton_append] at ht
    cases ts with
    | nil => simp at ht
    | cons t ts =>
      simp only [List.map_cons, List.cons.injEq] at ht
      obtain ⟨ht1, ht2⟩ := ht
      obtain ⟨ta, tb, rfl, ha, hb⟩ := List.map_eq_append_iff.1 ht2
      have hb' : tb.map strip = [(4, [41], 0)] := hb
      obtain ⟨u, rfl, hu⟩ := map_one hb'
      · obtain ⟨m, rfl⟩ : ∃ m, n = m + 1 := ⟨n - 1, by omega⟩
        have hx : rd E m (min (lvl e) 7) (ta ++ u :: r) = .ok (e, u :: r) := hD m ta (u :: r) (by omega) (sk_close hu _) ha
        have hx1 : rd E m 1 (ta ++ u :: r) = .ok (e, u :: r) := by
          refine rd_lift (min (lvl e) 7 - 1) 1 (min (lvl e) 7) (by omega) (by omega) (by omega) hx (sk_close hu _) (fun _ hj => ?_)
          obtain ⟨b, bs, h3, h4⟩ := front hw (by omega)
          rw [isT_strip (ha.trans h3)]
          exact h4
        have hf : rd E (m + 1) 7 (t :: (ta ++ u :: r)) = .ok (e, r) := fac_open ht1 hu hx1
        have heq : (t :: (ta ++ [u])) ++ r = t :: (ta ++ u :: r) := by simp
        rw [heq]
        refine rd_lift (7 - k) k 7 (by omega) h1 (by omega) hf hs (fun _ _ => ?_)
        rw [isT_of ht1]; decide
  · rename_i hk
    rw [if_neg hk] at hp
    have hx := hD n ts r hp (hs.mono (by omega)) ht
    refine rd_lift (min (lvl e) 7 - k) k (min (lvl e) 7) (by omega) h1 (by omega) hx hs (fun _ hj => ?_)
    obtain ⟨b, bs, h3, h4⟩ := front hw (by omega)
    rw [isT_strip (ht.trans h3)]
    exact h4
theorem Cr.of {E : Nat} {e : Ex} (hA : Ar E e) (hC : DCr E e) : Cr E e := by
  intro n k ts r hk hp hs ht
  by_cases hl : lvl e = k
  · subst hl
    unfold pd at hp
    unfold brP at ht
    rw [if_neg (by omega)] at hp ht
    exact hC n ts r hk hp hs ht
  · have h1 : pd e (k + 1) = pd e k := by unfold pd; by_cases h : lvl e < k <;> simp [h] <;> omega
    have h2 : brP e (k + 1) (pcE e) = brP e k (pcE e) := by
      unfold brP
      by_cases h : lvl e < k
      · rw [if_pos h, if_pos (by omega)]
      · rw [if_neg h, if_neg (by omega)]
    have hx := hA n (k + 1) ts r (by omega) (by omega) (by omega) hs (by rw [h2]; exact ht)
    rw [rd_ch hk, ch, hx]
    rfl
theorem reads {E : Nat} {e : Ex} (h : WfE e) : Dr E e ∧ DCr E e := by
  have nc8 : ∀ {e : Ex}, lvl e = 8 → DCr E e := fun h n ts r hl => by omega
  induction h with
  | num m h =>
    refine ⟨fun n ts r _ hs ht => ?_, nc8 (lvl_num m)⟩
    rw [lvl_num]
    rw [pc_num] at ht
    have ht' : ts.map strip = [(2, [], val (dec m))] := ht
    rw [(dec_digits m).2.1] at ht'
    obtain ⟨t, rfl, h1⟩ := map_one ht'
    · obtain ⟨fs, ns, es, hl⟩ := lv_fac E n
      show (lv E n).fac _ = _
      rw [hl]
      show factorOf E _ _ _ = _
      simp only [List.singleton_append, factorOf, isK_of h1, List.tail_cons]
      simp only [strip, Prod.mk.injEq] at h1
      simp [nmb, h1.2.2]
  | text u =>
    refine ⟨fun n ts r _ hs ht => ?_, nc8 (lvl_text u)⟩
    rw [lvl_text]
    rw [pc_textE] at ht
    have ht' : ts.map strip = [(3, u, 0)] := ht
    obtain ⟨t, rfl, h1⟩ := map_one ht'
    · obtain ⟨fs, ns, es, hl⟩ := lv_fac E n
      show (lv E n).fac _ = _
      rw [hl]
      show factorOf E _ _ _ = _
      simp only [List.singleton_append, factorOf, isK_of h1, List.tail_cons, txt_of h1]
      simp
  | name t o h h' =>
    refine ⟨fun n ts r _ hs ht => ?_, nc8 (lvl_name t o)⟩
    rw [lvl_name]
    have hd : isT [46] r = false := hs.1
    have hne : ∀ {s : Str}, NameOk s → s ≠ [45] ∧ s ≠ [40] := by
      intro s hs
      have := hs.1.1
      constructor <;> (rintro rfl; revert this; decide)
    obtain ⟨fs, ns, es, hl⟩ := lv_fac E n
    show (lv E n).fac _ = _
    rw [hl]
    show factorOf E _ _ _ = _
    rw [pc_name] at ht
    split at ht
    · rename_i ho
      subst ho
      have ht' : ts.map strip = [(1, t, 0)] := by rw [ht]; simp [bareP, Pc.bare, h.1.2.2]
      obtain ⟨a, rfl, h1⟩ := map_one ht'
      · exact fac_name h1 h.2.1 h.2.2 (hne h).1 (hne h).2 hd
    · rename_i ho
      have h2 := h'.resolve_left ho
      have ht' : ts.map strip = [(1, o, 0), (4, [46], 0), (1, t, 0)] := by rw [ht]; simp [bareP, Pc.bare, h.1.2.2, h2.1.2.2]
      obtain ⟨a, ts, rfl, ha, ht'⟩ := map_cons ht'
      obtain ⟨b, ts, rfl, hb, ht'⟩ := map_cons ht'
      obtain ⟨c, rfl, hc⟩ := map_one ht'
      have e1 : (o == [45]) = false := by simpa using (hne h2).1
      have e2 : (o == [40]) = false := by simpa using (hne h2).2
      have n1 : name E (a :: b :: c :: r) = .ok (o, b :: c :: r) := by
        simp only [name, nameT, isK_of ha, txt_of ha, h2.2.1, h2.2.2, List.tail_cons]
        rfl
      have n2 : name E (c :: r) = .ok (t, r) := by
        simp only [name, nameT, isK_of hc, txt_of hc, h.2.1, h.2.2, List.tail_cons]
        rfl
      have hi : item E (a :: b :: c :: r) = .ok (eName t o, r) := by
        simp only [item, n1, bnd_ok, isT_of hb, List.tail_cons, n2]
        rfl
      simp only [List.cons_append, List.nil_append, factorOf, isK_of ha, isT_of ha, e1, e2, hi]
      rfl
  | no a h ih =>
    obtain ⟨iD, iC⟩ := ih
    have hA := Ar.of h iD
    refine ⟨fun n ts r hn hs ht => ?_, fun n ts r hl => by rw [lvl_no] at hl; omega⟩
    rw [lvl_no] at hs ⊢
    rw [nd_no] at hn
    rw [pc_no] at ht
    cases ts with
    | nil => simp [bareP, Pc.bare] at ht
    | cons t ts =>
      have ht' : strip t :: ts.map strip = (1, [78, 79, 84], 0) :: bareP (brP a 3 (pcE a)) := ht
      simp only [List.cons.injEq] at ht'
      obtain ⟨m, rfl⟩ : ∃ m, n = m + 1 := ⟨n - 1, by omega⟩
      have hx := hA m 3 ts r (by omega) (by omega) (by omega) hs ht'.2
      show notOf _ _ _ = _
      simp only [List.cons_append, notOf, isT_of ht'.1, List.tail_cons]
      have hx' : (lv E m).no (ts ++ r) = .ok (a, r) := hx
      simp [hx']
  | neg a h ih =>
    obtain ⟨iD, iC⟩ := ih
    have hA := Ar.of h iD
    refine ⟨fun n ts r hn hs ht => ?_, fun n ts r hl => by rw [lvl_neg] at hl; omega⟩
    rw [lvl_neg] at hs ⊢
    rw [nd_neg] at hn
    rw [pc_neg] at ht
    cases ts with
    | nil => simp [bareP, Pc.bare] at ht
    | cons t ts =>
      have ht' : strip t :: ts.map strip = (4, [45], 0) :: bareP (brP a 7 (pcE a)) := ht
      simp only [List.cons.injEq] at ht'
      obtain ⟨m, rfl⟩ : ∃ m, n = m + 1 := ⟨n - 1, by omega⟩
      have hx := hA m 7 ts r (by omega) (by omega) (by omega) hs ht'.2
      have hx' : (lv E m).fac (ts ++ r) = .ok (a, r) := hx
      show factorOf E _ _ _ = _
      simp only [List.cons_append, factorOf, isK_of ht'.1, isT_of ht'.1, List.tail_cons]
      simp [hx']
  | two op a b ho h h' ih ih' =>
    obtain ⟨iD, iC⟩ := ih
    obtain ⟨jD, jC⟩ := ih'
    have hA := Ar.of h iD
    have hC := Cr.of hA iC
    have hB := Ar.of h' jD
    have hl := lvl_two ho a b
    obtain ⟨kk, hop, hkk⟩ := opP_bare ho
    have split3 : ∀ {ts : List Tok}, ts.map strip = bareP (pcE (eTwo op a b)) → ∃ ta t tb, ts = ta ++ t :: tb ∧ ta.map strip = bareP (brP a (if opLv op = 4 then 5 else opLv op) (pcE a)) ∧ strip t = (kk, op, 0) ∧ tb.map strip = bareP (brP b (opLv op + 1) (pcE b)) := by
      intro ts ht
      rw [pc_two ho, bareP_append, bareP_append] at ht
      obtain ⟨ta, tb, rfl, ha, hb⟩ := List.map_eq_append_iff.1 ht
      have e1 : bareP [.gap [32], opP op, .gap [32]] = [(kk, op, 0)] := by rw [bareP_cons, bareP_cons, bareP_cons, hop]; rfl
      rw [e1] at hb
      cases tb with
      | nil => simp at hb
      | cons t tb =>
        simp only [List.map_cons, List.singleton_append, List.cons.injEq] at hb
        exact ⟨ta, t, tb, rfl, ha, hb.1, hb.2⟩
    have hkb : (kk == 1 || kk == 4) = true := by rcases hkk with rfl | rfl <;> rfl
    have hDC : DCr E (eTwo op a b) := by
      intro n ts r hk hn hs ht
      rw [hl] at hk hs ⊢
      rw [nd_two, hl, if_neg (by omega)] at hn
      obtain ⟨ta, t, tb, rfl, h1, h2, h3⟩ := split3 ht
      rw [if_neg (by omega)] at h1
      have hx := hC n (opLv op) ta (t :: (tb ++ r)) hk (by omega) (sk_op ho h2 hkk (by omega)) h1
      have heq : ta ++ t :: tb ++ r = ta ++ t :: (tb ++ r) := by simp
      rw [heq, hx]
      have hany : anyT (opsOf (opLv op)) (t :: (tb ++ r)) = true := by
        have hm : op ∈ opsOf (opLv op) := by
          rcases opLv_cases ho with ⟨h4, _⟩ | ⟨_, hm⟩
          · omega
          · exact hm
        simp only [anyT, List.any_eq_true]
        exact ⟨op, hm, by rw [isT_of h2, hkb]; simp⟩
      have hy := hB n (opLv op + 1) tb r (by omega) (by omega) (by omega) hs h3
      rw [List.length_cons, chL, if_pos hany, List.tail_cons, hy, bnd_ok, txt_of h2]
      exact chL_fuel (suf_rd E n _) _ _ _ _ (by simp) (Nat.le_refl _)
    refine ⟨fun n ts r hn hs ht => ?_, hDC⟩
    rw [hl] at hs ⊢
    rcases opLv_cases ho with ⟨h4, hm⟩ | ⟨hk, hm⟩
    · rw [nd_two, hl, h4, if_pos rfl] at hn
      simp only [Nat.reduceAdd] at hn
      rw [h4] at hs ⊢
      obtain ⟨ta, t, tb, rfl, h1, h2, h3⟩ := split3 ht
      rw [h4, if_pos rfl] at h1
      rw [h4] at h3
      have hx : sumOf (lv E n).fac (ta ++ t :: (tb ++ r)) = .ok (a, t :: (tb ++ r)) := hA n 5 ta (t :: (tb ++ r)) (by omega) (by omega) (by omega) (sk_op ho h2 hkk (by omega)) h1
      have hy : sumOf (lv E n).fac (tb ++ r) = .ok (b, r) := hB n 5 tb r (by omega) (by omega) (by omega) (hs.mono (by omega)) h3
      have hany : anyT cmpL (t :: (tb ++ r)) = true := by
        simp only [anyT, List.any_eq_true]
        exact ⟨op, hm, by rw [isT_of h2, hkb]; simp⟩
      have heq : ta ++ t :: tb ++ r = ta ++ t :: (tb ++ r) := by simp
      rw [heq]
      show cmpOf _ _ = _
      simp only [cmpOf, hx, bnd_ok, hany, if_true, List.tail_cons, hy, fin_ok, txt_of h2]
    · have hmin : min (opLv op) 7 = opLv op := by omega
      rw [hmin] at hs ⊢
      have hx := hDC n ts r (by rw [hl]; exact hk) hn (by rw [hl]; exact hs.mono (by omega)) ht
      rw [hl] at hx
      rw [hx]
      refine chL_stop ?_
      obtain ⟨s0, s6, s5, s4, s2, s1⟩ := hs
      rcases hk with h | h | h | h
      · rw [h]; exact s1 (by omega)
      · rw [h]; exact s2 (by omega)
      · rw [h]; exact s5 (by omega)
      · rw [h]; exact s6 (by omega)
/-- An expression's tokens are read as the expression. -/
theorem expr_reads {E : Nat} {e : Ex} (h : GE 32 1 e) {ts r : List Tok} (ht : ts.map strip = bareP (pcE e)) (hs : SK 1 r) : expr E (ts ++ r) = .ok (e, r) := by
  have h1 := Ar.of h.1 (reads (E := E) h.1).1
  refine h1 32 1 ts r (by omega) (by omega) h.2 hs ?_
  unfold brP
  rw [if_neg (by have := lvl_pos e; omega)]
  exact ht
end Go.Proofs.YtkhnpmeohjafiaaGreatDoor
