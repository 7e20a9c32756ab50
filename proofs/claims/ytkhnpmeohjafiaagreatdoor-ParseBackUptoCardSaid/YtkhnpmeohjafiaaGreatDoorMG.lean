/- How long the text of what was read is: plain law. No program is named here. What a statement that was read is like, and how long its text is: plain law. No program is named here. A statement's text is read again as the statement: plain law. No program is named here. -/
import Derived.Test.YtkhnpmeohjafiaaGreatDoorMF
namespace Go.Proofs.YtkhnpmeohjafiaaGreatDoor

/-- A token's weight. -/
def tkW (t : Tok) : Nat := 100 + 2 * t.2.1.length
def tw : List Tok → Nat
  | [] => 0
  | t :: r => tkW t + tw r
theorem tw_tail (ts : List Tok) : tw ts.tail ≤ tw ts := by
  cases ts with
  | nil => exact Nat.le_refl _
  | cons t r => simp [tw]
theorem tw_isT {s : Str} {ts : List Tok} (h : isT s ts = true) : tw ts.tail + 100 ≤ tw ts ∧ tw ts.tail + 100 + 2 * (txt ts).length = tw ts := by
  cases ts with
  | nil => simp [isT] at h
  | cons t r => simp [tw, tkW, txt]; omega
theorem tw_isK {k : Nat} {ts : List Tok} (h : isK k ts = true) : tw ts.tail + 100 + 2 * (txt ts).length = tw ts := by
  cases ts with
  | nil => simp [isK] at h
  | cons t r => simp [tw, tkW, txt]; omega
theorem tw_anyT {ops : List Str} {ts : List Tok} (h : anyT ops ts = true) : tw ts.tail + 100 + 2 * (txt ts).length = tw ts := by
  simp only [anyT, List.any_eq_true] at h
  obtain ⟨s, _, hs⟩ := h
  exact (tw_isT hs).2

/-- What is read weighs no more than its tokens. -/
def Wt {α : Type} (m : α → Nat) (ts : List Tok) (r : Res α) : Prop := ∀ x t, r = .ok (x, t) → m x + tw t ≤ tw ts
section
variable {α β : Type} {ts u : List Tok} {m : α → Nat} {m' : β → Nat}
theorem Wt.ok {x : α} (h : m x + tw u ≤ tw ts) : Wt m ts (.ok (x, u)) := by rintro _ _ h1; cases h1; exact h
theorem Wt.error {e : Nat × Nat} : Wt m ts (.error e) := by rintro _ _ h1; cases h1
theorem Wt.bad {E c : Nat} {v : List Tok} : Wt m ts (bad E c v) := Wt.error
theorem Wt.bnd {r : Res α} {k : α → List Tok → Res β} (h : Wt m u r) (hk : ∀ x t, m x + tw t ≤ tw u → Wt m' ts (k x t)) : Wt m' ts (bnd r k) := by
  cases r with
  | error e => exact Wt.error
  | ok q => exact hk q.1 q.2 (h _ _ rfl)
theorem Wt.fin {r : Res α} {f : α → β} {n : Nat} (h : Wt m u r) (hu : tw u + n ≤ tw ts) (hf : ∀ x, m' (f x) ≤ m x + n) : Wt m' ts (fin f r) :=
  Wt.bnd h fun x t ht => Wt.ok (by have := hf x; omega)
theorem Wt.up {r : Res α} (h : Wt m u r) (hu : tw u ≤ tw ts) : Wt m ts r := fun x t hr => Nat.le_trans (h x t hr) hu
theorem Wt.mono {r : Res α} {n : α → Nat} (h : Wt m ts r) (hn : ∀ x, n x ≤ m x) : Wt n ts r := fun x t hr => by have := h x t hr; have := hn x; omega
end
theorem Wt.must (E : Nat) (s : Str) (ts : List Tok) : Wt (fun _ => 100) ts (must E s ts) := by
  unfold Go.Proofs.YtkhnpmeohjafiaaGreatDoor.must; split
  · rename_i h
    exact Wt.ok (by have := (tw_isT h).1; omega)
  · exact Wt.bad
def szN (s : Str) : Nat := s.length + 50
theorem Wt.name (E : Nat) (ts : List Tok) : Wt (fun s => 2 * s.length + 100) ts (name E ts) := by
  unfold Go.Proofs.YtkhnpmeohjafiaaGreatDoor.name; split
  · rename_i h
    simp only [nameT, Bool.and_eq_true] at h
    exact Wt.ok (by have := tw_isK h.1.1; omega)
  · exact Wt.bad
theorem Wt.name' (E : Nat) (ts : List Tok) : Wt szN ts (Go.Proofs.YtkhnpmeohjafiaaGreatDoor.name E ts) := (Wt.name E ts).mono fun x => by unfold szN; omega
theorem Wt.number (E : Nat) (ts : List Tok) : Wt (fun _ => 100) ts (number E ts) := by
  unfold Go.Proofs.YtkhnpmeohjafiaaGreatDoor.number; split
  · rename_i h
    exact Wt.ok (by have := tw_isK h; omega)
  · exact Wt.bad
def sumL {α : Type} (m : α → Nat) (l : List α) : Nat := (l.map m).sum
theorem sumL_nil {α : Type} (m : α → Nat) : sumL m [] = 0 := rfl
theorem sumL_cons {α : Type} (m : α → Nat) (a : α) (l : List α) : sumL m (a :: l) = m a + sumL m l := rfl
theorem sumL_app {α : Type} (m : α → Nat) (l k : List α) : sumL m (l ++ k) = sumL m l + sumL m k := by simp [sumL]
theorem Wt.sepL {α : Type} {m : α → Nat} {one : List Tok → Res α} (h : ∀ ts, Wt m ts (one ts)) : ∀ (f : Nat) (acc : List α) (ts us : List Tok), sumL m acc + tw us ≤ tw ts → Wt (sumL m) ts (sepL one f acc us)
  | 0, acc, ts, us, ha => Wt.ok ha
  | f + 1, acc, ts, us, ha => by
    unfold Go.Proofs.YtkhnpmeohjafiaaGreatDoor.sepL; split
    · refine Wt.bnd (h us.tail) fun x t hx => Wt.sepL h f _ ts t ?_
      rw [sumL_app, sumL_cons, sumL_nil]
      have := tw_tail us
      omega
    · exact Wt.ok ha
theorem Wt.sep {α : Type} {m : α → Nat} {one : List Tok → Res α} (h : ∀ ts, Wt m ts (one ts)) (ts : List Tok) : Wt (sumL m) ts (sep one ts) :=
  Wt.bnd (h ts) fun x t hx => Wt.sepL h _ _ _ _ (by rw [sumL_cons, sumL_nil]; omega)

/-- A bound of an expression's text. -/
def szE : Ex → Nat
  | .mk op _ t o args =>
    match args with
    | [a] => 50 + szE a
    | [a, b] => 50 + op.length + szE a + szE b
    | _ => 50 + 2 * t.length + 2 * o.length
termination_by structural e => e
def szX (e : Ex) : Nat := szE e + 10
theorem sz_num (n : Nat) : szE (eNum n) = 50 := by simp [szE, eNum]
theorem sz_text (t : Str) : szE (eText t) = 50 + 2 * t.length := by simp [szE, eText]
theorem sz_name (t o : Str) : szE (eName t o) = 50 + 2 * t.length + 2 * o.length := by simp [szE, eName]
theorem sz_one (op : Str) (a : Ex) : szE (eOne op a) = 50 + szE a := by simp [szE, eOne]
theorem sz_two (op : Str) (a b : Ex) : szE (eTwo op a b) = 50 + op.length + szE a + szE b := by simp [szE, eTwo]
section
variable {E : Nat}
theorem Wt.chL {read : List Tok → Res Ex} {ops : List Str} (h : ∀ ts, Wt szX ts (read ts)) : ∀ (f : Nat) (e : Ex) (ts us : List Tok), szX e + tw us ≤ tw ts → Wt szX ts (chL read ops f e us)
  | 0, _, _, _, he => Wt.ok he
  | f + 1, e, ts, us, he => by
    unfold Go.Proofs.YtkhnpmeohjafiaaGreatDoor.chL; split
    · rename_i ha
      have h1 := tw_anyT ha
      refine Wt.bnd (h us.tail) fun x t hx => Wt.chL h f _ ts t ?_
      unfold szX at he hx ⊢
      rw [sz_two]
      omega
    · exact Wt.ok he
theorem Wt.ch {read : List Tok → Res Ex} {ops : List Str} (h : ∀ ts, Wt szX ts (read ts)) (ts : List Tok) : Wt szX ts (ch read ops ts) :=
  Wt.bnd (h ts) fun x t hx => Wt.chL h _ _ _ _ hx
theorem Wt.item (ts : List Tok) : Wt szX ts (item E ts) := by
  refine Wt.bnd (Wt.name E ts) fun n t hn => ?_
  split
  · refine Wt.bnd (Wt.name E t.tail) fun k t' hk => Wt.ok ?_
    have := tw_tail t
    unfold szX; rw [sz_name]; omega
  · refine Wt.ok ?_
    unfold szX; rw [sz_name]; simp; omega
theorem Wt.factorOf {fs es : List Tok → Res Ex} (hf : ∀ ts, Wt szX ts (fs ts)) (he : ∀ ts, Wt szX ts (es ts)) (ts : List Tok) : Wt szX ts (factorOf E fs es ts) := by
  unfold Go.Proofs.YtkhnpmeohjafiaaGreatDoor.factorOf
  split
  · rename_i hk
    exact Wt.ok (by have := tw_isK hk; unfold szX; rw [sz_num]; omega)
  split
  · rename_i hk
    exact Wt.ok (by have := tw_isK hk; unfold szX; rw [sz_text]; omega)
  split
  · rename_i hk
    exact (hf ts.tail).fin (n := 100) (by have := (tw_isT hk).1; omega) fun x => by unfold szX; rw [sz_one]; omega
  split
  · refine Wt.bnd (he ts.tail) fun e t hx => Wt.bnd (Wt.must E _ t) fun _ t' ht => Wt.ok ?_
    have := tw_tail ts
    omega
  · exact Wt.item ts
theorem Wt.notOf {fc ns : List Tok → Res Ex} (hf : ∀ ts, Wt szX ts (fc ts)) (hn : ∀ ts, Wt szX ts (ns ts)) (ts : List Tok) : Wt szX ts (notOf fc ns ts) := by
  have hs : ∀ ts, Wt szX ts (sumOf fc ts) := Wt.ch (Wt.ch hf)
  unfold Go.Proofs.YtkhnpmeohjafiaaGreatDoor.notOf; split
  · rename_i hk
    exact (hn ts.tail).fin (n := 100) (by have := (tw_isT hk).1; omega) fun x => by unfold szX; rw [sz_one]; omega
  · refine Wt.bnd (hs ts) fun e t he => ?_
    split
    · rename_i ha
      have h1 := tw_anyT ha
      refine Wt.bnd (hs t.tail) fun x t' hx => Wt.ok ?_
      unfold szX at he hx ⊢
      rw [sz_two]; omega
    · exact Wt.ok he
theorem Wt.exprOf {nt : List Tok → Res Ex} (h : ∀ ts, Wt szX ts (nt ts)) (ts : List Tok) : Wt szX ts (exprOf nt ts) := Wt.ch (Wt.ch h) ts
theorem Wt.lvOf {fs ns es : List Tok → Res Ex} (hf : ∀ ts, Wt szX ts (fs ts)) (hn : ∀ ts, Wt szX ts (ns ts)) (he : ∀ ts, Wt szX ts (es ts)) :
    (∀ ts, Wt szX ts ((lvOf E fs ns es).fac ts)) ∧ (∀ ts, Wt szX ts ((lvOf E fs ns es).no ts)) ∧ ∀ ts, Wt szX ts ((lvOf E fs ns es).ex ts) :=
  ⟨Wt.factorOf hf he, Wt.notOf (Wt.factorOf hf he) hn, Wt.exprOf (Wt.notOf (Wt.factorOf hf he) hn)⟩
theorem Wt.lv (E : Nat) : ∀ n, (∀ ts, Wt szX ts ((lv E n).fac ts)) ∧ (∀ ts, Wt szX ts ((lv E n).no ts)) ∧ ∀ ts, Wt szX ts ((lv E n).ex ts)
  | 0 => Wt.lvOf (fun _ => Wt.bad) (fun _ => Wt.bad) (fun _ => Wt.bad)
  | n + 1 => Wt.lvOf (Wt.lv E n).1 (Wt.lv E n).2.1 (Wt.lv E n).2.2
theorem Wt.expr (ts : List Tok) : Wt szX ts (expr E ts) := (Wt.lv E 32).2.2 ts
end

/-- Bounds of a question's and a statement's text. -/
def szQ0 (q : Qu) : Nat := q.sum.length + sumL szX q.items + sumL szN q.tables + sumL szX q.cond
def szQ (q : Qu) : Nat := 100 + szQ0 q
def szC (c : Str × Nat) : Nat := szN c.1
def szT (c : Str × Ex) : Nat := szN c.1 + szX c.2
def szS (x : St) : Nat := x.table.length + sumL szC x.columns + sumL szN x.keys + sumL szX x.values + sumL szT x.sets + sumL szX x.cond + sumL szQ x.query + sumL szN x.ops + sumL (fun _ => 50) x.asOf + sumL (fun _ => 50) x.during + sumL szN x.order
section
variable {E : Nat}
theorem Wt.period (ts : List Tok) : Wt (fun _ => 50) ts (period E ts) := by
  refine Wt.bnd (Wt.number E ts) fun a t ha => Wt.bnd (Wt.must E _ t) fun _ t' ht => Wt.bnd (m := fun _ => 0) (u := t') ?_ fun z t'' hz => ?_
  · split
    · exact Wt.ok (by have := tw_tail t'; omega)
    · exact (Wt.number E t').mono fun _ => by omega
  · split
    · exact Wt.bad
    · exact Wt.ok (by omega)
theorem Wt.whereP (ts : List Tok) : Wt (sumL szX) ts (whereP E ts) := by
  unfold Go.Proofs.YtkhnpmeohjafiaaGreatDoor.whereP; split
  · exact (Wt.expr ts.tail).fin (n := 0) (by have := tw_tail ts; omega) fun x => by simp [sumL]
  · exact Wt.ok (by simp [sumL])
theorem Wt.names (ts : List Tok) : Wt (sumL szN) ts (names E ts) :=
  Wt.bnd (Wt.must E _ ts) fun _ t h1 => Wt.bnd (Wt.sep (fun ts => Wt.name' E ts) t) fun l t' h2 => Wt.bnd (Wt.must E _ t') fun _ t'' h3 => Wt.ok (by omega)
theorem Wt.column (ts : List Tok) : Wt szC ts (column E ts) := by
  refine Wt.bnd (Wt.name' E ts) fun n t hn => ?_
  split
  · exact Wt.ok (by have := tw_tail t; unfold szC; simp only; omega)
  · exact Wt.bnd (Wt.must E _ t) fun _ t' h => Wt.ok (by unfold szC; simp only; omega)
theorem Wt.setP (ts : List Tok) : Wt szT ts (setP E ts) :=
  Wt.bnd (Wt.name' E ts) fun n t hn => Wt.bnd (Wt.must E _ t) fun _ t' h => Wt.bnd (Wt.expr t') fun e t'' he => Wt.ok (by unfold szT; simp only; omega)
def Qu.plain (q : Qu) : Prop := q.sum = [] ∧ q.items = [] ∧ q.tables = [] ∧ q.cond = []
def Qu.half (q : Qu) : Prop := q.tables = [] ∧ q.cond = []
theorem Wt.asked (q : Qu) (hq : q.plain) (ts : List Tok) : Wt szQ0 ts (asked E q ts) := by
  obtain ⟨h1, h2, h3, h4⟩ := hq
  unfold Go.Proofs.YtkhnpmeohjafiaaGreatDoor.asked
  split
  · exact Wt.ok (by have := tw_tail ts; simp [szQ0, h1, h2, h3, h4, sumL]; omega)
  split
  · exact Wt.ok (by have := tw_tail ts; simp [szQ0, h1, h2, h3, h4, sumL]; omega)
  split
  · refine (Wt.name' E ts.tail).fin (n := 0) (by have := tw_tail ts; omega) fun x => ?_
    simp [szQ0, h2, h3, h4, sumL, szN]
  · refine (Wt.sep (fun ts => Wt.item (E := E) ts) ts).fin (n := 0) (by omega) fun x => ?_
    simp [szQ0, h1, h3, h4, sumL_nil]
theorem asked_half (q : Qu) (hq : q.plain) (ts : List Tok) : ∀ x t, asked E q ts = .ok (x, t) → x.half := by
  obtain ⟨h1, h2, h3, h4⟩ := hq
  intro x t h
  unfold Go.Proofs.YtkhnpmeohjafiaaGreatDoor.asked at h
  split at h
  · cases h; exact ⟨h3, h4⟩
  split at h
  · cases h; exact ⟨h3, h4⟩
  split at h
  · cases hn : Go.Proofs.YtkhnpmeohjafiaaGreatDoor.name E ts.tail with
    | error e => rw [hn] at h; cases h
    | ok p => rw [hn] at h; cases h; exact ⟨h3, h4⟩
  · cases hn : Go.Proofs.YtkhnpmeohjafiaaGreatDoor.sep (Go.Proofs.YtkhnpmeohjafiaaGreatDoor.item E) ts with
    | error e => rw [hn] at h; cases h
    | ok p => rw [hn] at h; cases h; exact ⟨h3, h4⟩
theorem Wt.tablesP (ts : List Tok) : Wt (sumL szN) ts (tablesP E ts) := by
  refine Wt.bnd (Wt.name' E ts) fun n t hn => ?_
  split
  · refine (Wt.name' E t.tail).fin (n := szN n) (by have := tw_tail t; omega) fun x => ?_
    simp [sumL]; omega
  · exact Wt.ok (by simp [sumL]; omega)
theorem Wt.query (ts : List Tok) : Wt szQ ts (query E ts) := by
  refine Wt.bnd (Wt.must E _ ts) fun _ t h1 => ?_
  have hp : Qu.plain { Qu.none with coalesce := isT [67, 79, 65, 76, 69, 83, 67, 69] t } := ⟨rfl, rfl, rfl, rfl⟩
  have hu : tw (if isT [67, 79, 65, 76, 69, 83, 67, 69] t then t.tail else t) ≤ tw t := by split; exact tw_tail t; exact Nat.le_refl _
  intro x r hx
  cases ha : Go.Proofs.YtkhnpmeohjafiaaGreatDoor.asked E { Qu.none with coalesce := isT [67, 79, 65, 76, 69, 83, 67, 69] t } (if isT [67, 79, 65, 76, 69, 83, 67, 69] t then t.tail else t) with
  | error e => rw [ha] at hx; cases hx
  | ok q =>
    obtain ⟨q, t2⟩ := q
    have h2 := Wt.asked (E := E) _ hp _ _ _ ha
    obtain ⟨h3, h4⟩ := asked_half _ hp _ _ _ ha
    rw [ha] at hx
    revert x r hx
    show Wt szQ ts (Go.Proofs.YtkhnpmeohjafiaaGreatDoor.bnd (Go.Proofs.YtkhnpmeohjafiaaGreatDoor.must E _ t2) _)
    refine Wt.bnd (Wt.must E _ t2) fun _ t3 h5 => Wt.bnd (Wt.tablesP t3) fun l t4 h6 => (Wt.whereP t4).fin (n := tw ts - tw t4) (by omega) fun c => ?_
    simp only [szQ, szQ0, h3, h4, sumL_nil] at h2 ⊢
    omega
theorem Wt.moreL : ∀ (f : Nat) (o : List Str) (q : List Qu) (ts us : List Tok), sumL szN o + sumL szQ q + tw us ≤ tw ts → Wt (fun oq => sumL szN oq.1 + sumL szQ oq.2) ts (moreL E f o q us)
  | 0, o, q, ts, us, h => Wt.ok h
  | f + 1, o, q, ts, us, h => by
    unfold Go.Proofs.YtkhnpmeohjafiaaGreatDoor.moreL; split
    · rename_i ha
      have h1 := tw_anyT ha
      refine Wt.bnd (Wt.query us.tail) fun x t hx => Wt.moreL f _ _ ts t ?_
      rw [sumL_app, sumL_app, sumL_cons, sumL_nil, sumL_cons, sumL_nil]
      simp only [szN] at h ⊢
      omega
    · exact Wt.ok h
theorem Wt.asOfP (ts : List Tok) : Wt (sumL (fun _ => 50)) ts (asOfP E ts) := by
  unfold Go.Proofs.YtkhnpmeohjafiaaGreatDoor.asOfP; split
  · refine Wt.bnd (Wt.must E _ ts.tail) fun _ t h1 => (Wt.number E t).fin (n := 0) (by have := tw_tail ts; omega) fun x => by simp [sumL]
  · exact Wt.ok (by simp [sumL])
theorem Wt.duringP (ts : List Tok) : Wt (sumL (fun _ => 50)) ts (duringP E ts) := by
  unfold Go.Proofs.YtkhnpmeohjafiaaGreatDoor.duringP; split
  · split
    · exact Wt.bad
    · exact (Wt.number E _).fin (n := 0) (by have := tw_tail ts; omega) fun x => by simp [sumL]
  · split
    · exact (Wt.period ts.tail).fin (n := 0) (by have := tw_tail ts; omega) fun x => by simp [sumL]
    · exact Wt.ok (by simp [sumL])
theorem Wt.orderP (ts : List Tok) : Wt (sumL szN) ts (orderP E ts) := by
  unfold Go.Proofs.YtkhnpmeohjafiaaGreatDoor.orderP; split
  · refine Wt.bnd (Wt.must E _ ts.tail) fun _ t h1 => (Wt.sep (fun ts => Wt.name' E ts) t).up (by have := tw_tail ts; omega)
  · exact Wt.ok (by simp [sumL])
theorem Wt.selects (ts : List Tok) : Wt szS ts (selects E ts) := by
  refine Wt.bnd (Wt.query ts) fun q t h1 => Wt.bnd (Wt.moreL _ [] [q] ts t (by simp [sumL] at *; omega)) fun oq t2 h2 => Wt.bnd (Wt.asOfP t2) fun a t3 h3 => Wt.bnd (Wt.duringP t3) fun d t4 h4 => (Wt.orderP t4).fin (n := tw ts - tw t4) (by omega) fun o => ?_
  simp only [szS, St.none, sumL_nil, List.length_nil] at *
  omega
theorem Wt.portion (ts : List Tok) : Wt (fun _ => 0) ts (portion E ts) := by
  unfold Go.Proofs.YtkhnpmeohjafiaaGreatDoor.portion; split
  · exact ((Wt.period ts.tail).mono fun _ => by omega).up (tw_tail ts)
  · exact Wt.ok (by omega)
theorem Wt.keysP (ts : List Tok) : Wt (sumL szN) ts (keysP E ts) := by
  unfold Go.Proofs.YtkhnpmeohjafiaaGreatDoor.keysP; split
  · exact Wt.bnd (Wt.must E _ ts.tail) fun _ t h1 => (Wt.names t).up (by have := tw_tail ts; omega)
  · exact Wt.ok (by simp [sumL])
theorem Wt.create (ts : List Tok) : Wt szS ts (create E ts) := by
  refine Wt.bnd (Wt.name E ts) fun n t h1 => Wt.bnd (Wt.must E _ t) fun _ t2 h2 => Wt.bnd (Wt.sep (fun ts => Wt.column ts) t2) fun l t3 h3 => Wt.bnd (Wt.must E _ t3) fun _ t4 h4 => (Wt.keysP t4).fin (n := tw ts - tw t4) (by omega) fun o => ?_
  simp only [szS, St.none, sumL_nil, List.length_nil] at *
  omega
theorem Wt.index (ts : List Tok) : Wt szS ts (index E ts) := by
  refine Wt.bnd (Wt.must E _ ts) fun _ t h1 => Wt.bnd (Wt.must E _ t) fun _ t2 h2 => (Wt.name E t2).fin (n := 0) (by omega) fun o => ?_
  simp only [szS, St.none, sumL_nil, List.length_nil] at *
  omega
theorem Wt.insert (ts : List Tok) : Wt szS ts (insert E ts) := by
  refine Wt.bnd (Wt.must E _ ts) fun _ t h1 => Wt.bnd (Wt.name E t) fun n t2 h2 => Wt.bnd (Wt.must E _ t2) fun _ t3 h3 => Wt.bnd (Wt.must E _ t3) fun _ t4 h4 => Wt.bnd (Wt.sep (fun ts => Wt.expr ts) t4) fun l t5 h5 => Wt.bnd (Wt.must E _ t5) fun _ t6 h6 => Wt.bnd (Wt.must E _ t6) fun _ t7 h7 => (Wt.period t7).fin (n := tw ts - tw t7) (by omega) fun o => ?_
  simp only [szS, St.none, sumL_nil, List.length_nil] at *
  omega
theorem Wt.update (ts : List Tok) : Wt szS ts (update E ts) := by
  refine Wt.bnd (Wt.name E ts) fun n t h1 => Wt.bnd (Wt.must E _ t) fun _ t2 h2 => Wt.bnd (Wt.sep (fun ts => Wt.setP ts) t2) fun l t3 h3 => Wt.bnd (Wt.portion t3) fun p t4 h4 => (Wt.whereP t4).fin (n := tw ts - tw t4) (by omega) fun o => ?_
  simp only [szS, St.none, sumL_nil, List.length_nil] at *
  omega
theorem Wt.delete (ts : List Tok) : Wt szS ts (delete E ts) := by
  refine Wt.bnd (Wt.must E _ ts) fun _ t h1 => Wt.bnd (Wt.name E t) fun n t2 h2 => Wt.bnd (Wt.portion t2) fun p t4 h4 => (Wt.whereP t4).fin (n := tw ts - tw t4) (by omega) fun o => ?_
  simp only [szS, St.none, sumL_nil, List.length_nil] at *
  omega
theorem Wt.stmt (ts : List Tok) : Wt szS ts (stmt E ts) := by
  have h1 := tw_tail ts
  have h2 := tw_tail ts.tail
  unfold Go.Proofs.YtkhnpmeohjafiaaGreatDoor.stmt
  split
  · split
    · exact (Wt.create _).up (by omega)
    · exact (Wt.index _).up (by omega)
  split
  · exact (Wt.insert _).up h1
  split
  · exact (Wt.update _).up h1
  split
  · exact (Wt.delete _).up h1
  split
  · exact Wt.ok (by simp [szS, St.none, sumL]; omega)
  · exact Wt.selects ts
theorem Wt.whole (ts : List Tok) : Wt szS ts (whole E ts) := by
  refine Wt.bnd (Wt.stmt ts) fun x t h => ?_
  by_cases hc : (if isT [59] t then t.tail else t) = []
  · rw [if_pos hc]; exact Wt.ok (by simp [tw]; omega)
  · rw [if_neg hc]; exact Wt.bad
end
theorem quo_txt : ∀ (l t : List UInt8) (m : Nat), quo l = some (t, m) → t.length ≤ l.length
  | [], t, m, h => by simp [quo] at h
  | [x], t, m, h => by
    rw [quo.eq_def] at h
    simp only at h
    split at h
    · simp at h; obtain ⟨rfl, -⟩ := h; simp
    · simp [quo] at h
  | x :: y :: r, t, m, h => by
    rw [quo.eq_def] at h
    simp only at h
    split at h
    · split at h
      · cases hq : quo r with
        | none => rw [hq] at h; simp at h
        | some q =>
          rw [hq] at h
          have := quo_txt r q.1 q.2 hq
          simp at h
          obtain ⟨rfl, -⟩ := h
          simp; omega
      · simp at h; obtain ⟨rfl, -⟩ := h; simp
    · cases hq : quo (y :: r) with
      | none => rw [hq] at h; simp at h
      | some q =>
        rw [hq] at h
        have := quo_txt (y :: r) q.1 q.2 hq
        simp at h this
        obtain ⟨rfl, -⟩ := h
        simp; omega
theorem one_txt {l t : List UInt8} {k n m : Nat} (h : one l = some (k, t, n, m)) : t.length ≤ l.length := by
  cases l with
  | nil => simp [one] at h
  | cons x r =>
    rw [one_cons] at h
    split at h
    · simp only [Option.some.injEq, Prod.mk.injEq] at h
      obtain ⟨-, rfl, -⟩ := h
      rw [List.length_map]
      exact (List.takeWhile_sublist _).length_le
    split at h
    · split at h
      · simp only [Option.some.injEq, Prod.mk.injEq] at h
        obtain ⟨-, rfl, -⟩ := h
        simp
      · simp at h
    split at h
    · cases hq : quo r with
      | none => rw [hq] at h; simp at h
      | some q =>
        rw [hq] at h
        have := quo_txt _ _ _ hq
        simp at h
        obtain ⟨-, rfl, -⟩ := h
        simp; omega
    · cases hs : sgn x r with
      | none => rw [hs] at h; simp at h
      | some s =>
        rw [hs] at h
        simp at h
        obtain ⟨-, rfl, -⟩ := h
        have := sgn_le hs
        simp; omega
theorem toks_tw : ∀ (f p : Nat) (l : List UInt8) (ts : List Tok), toks f p l = .inr ts → tw ts ≤ f * (100 + 2 * l.length)
  | 0, p, l, ts, h => by simp [toks] at h; subst h; simp [tw]
  | f + 1, p, [], ts, h => by simp [toks] at h; subst h; simp [tw]
  | f + 1, p, x :: r, ts, h => by
    rw [toks] at h
    split at h
    · have := toks_tw f _ _ ts h
      have h3 : f * (100 + 2 * r.length) ≤ f * (100 + 2 * (x :: r).length) := Nat.mul_le_mul_left f (by rw [List.length_cons]; omega)
      have h4 : (f + 1) * (100 + 2 * (x :: r).length) = f * (100 + 2 * (x :: r).length) + (100 + 2 * (x :: r).length) := Nat.succ_mul _ _
      omega
    · split at h
      · cases h
      · rename_i k t n m ho
        cases hq : toks f (p + m) ((x :: r).drop m) with
        | inl e => rw [hq] at h; simp [consT] at h
        | inr us =>
          rw [hq] at h
          simp [consT] at h
          subst h
          have h1 := toks_tw f _ _ us hq
          have h2 : t.length ≤ (x :: r).length := one_txt ho
          have h3 : f * (100 + 2 * ((x :: r).drop m).length) ≤ f * (100 + 2 * (x :: r).length) := Nat.mul_le_mul_left f (by rw [List.length_drop]; omega)
          have h4 : (f + 1) * (100 + 2 * (x :: r).length) = f * (100 + 2 * (x :: r).length) + (100 + 2 * (x :: r).length) := Nat.succ_mul _ _
          simp only [tw, tkW]
          omega
theorem parse_sz {l : List UInt8} {x : St} (h : parseOf l = .inr x) : szS x ≤ 100000000 := by
  unfold parseOf at h
  cases hl : lexOf l with
  | inl f => rw [hl] at h; cases h
  | inr ts =>
    rw [hl] at h
    simp only at h
    cases hw : whole l.length ts with
    | error e => rw [hw] at h; cases h
    | ok p =>
      rw [hw] at h
      obtain ⟨y, t⟩ := p
      cases h
      have h1 := Wt.whole ts _ _ hw
      unfold lexOf at hl
      split at hl
      · cases hl
      · split at hl
        · cases hl
        · rename_i us hu
          cases hl
          have h2 := toks_tw _ _ _ _ hu
          have h3 : l.length * (100 + 2 * l.length) ≤ 4096 * (100 + 2 * 4096) := Nat.mul_le_mul (by omega) (by omega)
          omega
end Go.Proofs.YtkhnpmeohjafiaaGreatDoor
namespace Go.Proofs.YtkhnpmeohjafiaaGreatDoor

theorem dbl_le2 : ∀ l : List UInt8, (dbl l).length ≤ 2 * l.length
  | [] => by simp [dbl]
  | x :: r => by
    have := dbl_le2 r
    have h : dbl (x :: r) = (if x = 39 then [39, 39] else [x]) ++ dbl r := by simp [dbl]
    rw [h]
    split <;> simp <;> omega
theorem brk_len {e : Ex} {k : Nat} {s : Str} : (brk e k s).length ≤ s.length + 2 := by
  unfold brk; split <;> simp
theorem bin_len {op : Str} (h : op ∈ binL) : op.length ≤ 3 := by
  have : ∀ op ∈ binL, op.length ≤ 3 := by decide
  exact this op h
theorem text_num (n : Nat) : textE (eNum n) = dec n := by simp [textE, eNum]
theorem text_text (t : Str) : textE (eText t) = quoted t := by simp [textE, eText]
theorem text_name (t o : Str) : textE (eName t o) = if o = [] then t else o ++ [46] ++ t := by simp [textE, eName]
theorem text_no (a : Ex) : textE (eOne [78, 79, 84] a) = [78, 79, 84, 32] ++ brk a 3 (textE a) := by simp [textE, eOne]
theorem text_neg (a : Ex) : textE (eOne [45] a) = [45] ++ brk a 7 (textE a) := by simp [textE, eOne]
theorem text_two {op : Str} (h : op ∈ binL) (a b : Ex) : textE (eTwo op a b) = brk a (if lvl (eTwo op a b) = 4 then 5 else lvl (eTwo op a b)) (textE a) ++ [32] ++ op ++ [32] ++ brk b (lvl (eTwo op a b) + 1) (textE b) := by
  have h1 : op ≠ [110, 117, 109, 98, 101, 114] := by rintro rfl; revert h; decide
  have h2 : op ≠ [116, 101, 120, 116] := by rintro rfl; revert h; decide
  have h3 : op ≠ [110, 97, 109, 101] := by rintro rfl; revert h; decide
  unfold eTwo
  simp only [textE, if_neg h1, if_neg h2, if_neg h3]
  by_cases h4 : lvl (.mk op 0 [] [] [a, b]) = 4
  · rw [if_pos h4, if_pos h4, h4]
  · rw [if_neg h4, if_neg h4]
theorem textE_len {e : Ex} (h : WfE e) : (textE e).length ≤ szE e := by
  induction h with
  | num n h =>
    have := dec_len 17 n (by simpa using h)
    rw [text_num, sz_num]; omega
  | text t =>
    have := dbl_le2 t
    rw [text_text, sz_text]; simp [quoted]; omega
  | name t o h h' =>
    rw [text_name, sz_name]
    split
    · omega
    · simp; omega
  | no a h ih =>
    rw [text_no, sz_one]
    have := brk_len (e := a) (k := 3) (s := textE a)
    simp; omega
  | neg a h ih =>
    rw [text_neg, sz_one]
    have := brk_len (e := a) (k := 7) (s := textE a)
    simp; omega
  | two op a b ho h h' ih ih' =>
    rw [text_two ho, sz_two]
    have h1 := brk_len (e := a) (k := if lvl (eTwo op a b) = 4 then 5 else lvl (eTwo op a b)) (s := textE a)
    have h2 := brk_len (e := b) (k := lvl (eTwo op a b) + 1) (s := textE b)
    have h3 := bin_len ho
    simp only [List.length_append, List.length_cons, List.length_nil]
    omega

/-- A period that was read. -/
def PerOk (p : Nat × Nat) : Prop := p.1 < p.2 ∧ p.2 ≤ FOREVER
inductive WfQ : Qu → Prop where
  | all (c : Bool) (t : List Str) (w : List Ex) : WfQ ⟨c, true, false, [], [], t, w⟩
  | count (c : Bool) (t : List Str) (w : List Ex) : WfQ ⟨c, false, true, [], [], t, w⟩
  | sum (c : Bool) (s : Str) (t : List Str) (w : List Ex) (h : NameOk s) : WfQ ⟨c, false, false, s, [], t, w⟩
  | items (c : Bool) (l : List Ex) (t : List Str) (w : List Ex) (h : l ≠ []) (h' : ∀ e ∈ l, ∃ t o, NameOk t ∧ (o = [] ∨ NameOk o) ∧ e = eName t o) : WfQ ⟨c, false, false, [], l, t, w⟩
def CondOk (l : List Ex) : Prop := l.length ≤ 1 ∧ ∀ e ∈ l, GE 32 1 e
def TabOk (l : List Str) : Prop := l ≠ [] ∧ l.length ≤ 2 ∧ ∀ s ∈ l, NameOk s
structure GQ (q : Qu) : Prop where
  ask : WfQ q
  tab : TabOk q.tables
  cond : CondOk q.cond
inductive WfS : St → Prop where
  | create (t : Str) (l : List (Str × Nat)) (k : List Str) (ht : NameOk t) (hn : l ≠ []) (hl : ∀ c ∈ l, NameOk c.1 ∧ (c.2 = 1 ∨ c.2 = 2)) (hk : ∀ s ∈ k, NameOk s) : WfS { St.none with kind := [67, 82, 69, 65, 84, 69], table := t, columns := l, keys := k }
  | index (t : Str) (ht : NameOk t) : WfS { St.none with kind := [73, 78, 68, 69, 88], table := t }
  | insert (t : Str) (l : List Ex) (p : Nat × Nat) (ht : NameOk t) (hn : l ≠ []) (hl : ∀ e ∈ l, GE 32 1 e) (hp : PerOk p) : WfS { St.none with kind := [73, 78, 83, 69, 82, 84], table := t, values := l, period := p }
  | update (t : Str) (l : List (Str × Ex)) (p : Nat × Nat) (c : List Ex) (ht : NameOk t) (hn : l ≠ []) (hl : ∀ e ∈ l, NameOk e.1 ∧ GE 32 1 e.2) (hp : PerOk p) (hc : CondOk c) : WfS { St.none with kind := [85, 80, 68, 65, 84, 69], table := t, sets := l, period := p, cond := c }
  | delete (t : Str) (p : Nat × Nat) (c : List Ex) (ht : NameOk t) (hp : PerOk p) (hc : CondOk c) : WfS { St.none with kind := [68, 69, 76, 69, 84, 69], table := t, period := p, cond := c }
  | word (k : Str) (hk : k ∈ ([[66, 69, 71, 73, 78], [67, 79, 77, 77, 73, 84], [82, 79, 76, 76, 66, 65, 67, 75]] : List Str)) : WfS { St.none with kind := k }
  | select (q : Qu) (qs : List Qu) (o : List Str) (a : List Nat) (d : List (Nat × Nat)) (r : List Str) (hq : GQ q) (hqs : ∀ q ∈ qs, GQ q) (hl : o.length = qs.length) (ho : ∀ s ∈ o, s ∈ ([[85, 78, 73, 79, 78], [69, 88, 67, 69, 80, 84]] : List Str))
    (ha : a.length ≤ 1 ∧ ∀ n ∈ a, n < 1000000000000000000) (hd : d.length ≤ 1 ∧ ∀ p ∈ d, PerOk p) (hr : ∀ s ∈ r, NameOk s) : WfS { St.none with kind := [83, 69, 76, 69, 67, 84], query := q :: qs, ops := o, asOf := a, during := d, order := r }
section
variable {E : Nat}
theorem Gv.period {ts : List Tok} (ht : ToksOk ts) : Gv ts (period E ts) PerOk := by
  refine Gv.bnd (Gv.number ht) fun a t ha h1 => Gv.bnd ((Gv.must E _ t).up h1) fun _ t2 _ h2 => Gv.bnd (P := fun _ => True) ?_ fun z t3 _ h3 => ?_
  · split
    · exact Gv.ok trivial (suf_tail' h2)
    · exact ((Gv.number (ht.suf h2)).mono fun _ _ => trivial).up h2
  · split
    · exact Gv.bad
    · rename_i h
      exact Gv.ok ⟨by simp only; omega, by simp only; omega⟩ h3
theorem Gv.whereP {ts : List Tok} (ht : ToksOk ts) : Gv ts (whereP E ts) CondOk := by
  unfold Go.Proofs.YtkhnpmeohjafiaaGreatDoor.whereP; split
  · exact ((Gv.expr ht.tail).up (suf_tail _)).fin fun e he => ⟨by simp, by simpa using he⟩
  · exact Gv.ok ⟨by simp, by simp⟩ (List.suffix_refl _)
theorem Gv.names {ts : List Tok} (ht : ToksOk ts) : Gv ts (names E ts) (fun l => l ≠ [] ∧ ∀ s ∈ l, NameOk s) :=
  Gv.bnd (Gv.must E _ ts) fun _ t _ h1 => Gv.bnd ((Gv.sep (fun _ h => Gv.name h) (ht.suf h1)).up h1) fun l t2 hl h2 => Gv.bnd ((Gv.must E _ t2).up h2) fun _ t3 _ h3 => Gv.ok hl h3
theorem Gv.column {ts : List Tok} (ht : ToksOk ts) : Gv ts (column E ts) (fun c => NameOk c.1 ∧ (c.2 = 1 ∨ c.2 = 2)) := by
  refine Gv.bnd (Gv.name ht) fun n t hn h1 => ?_
  split
  · exact Gv.ok ⟨hn, .inr rfl⟩ (suf_tail' h1)
  · exact Gv.bnd ((Gv.must E _ t).up h1) fun _ t2 _ h2 => Gv.ok ⟨hn, .inl rfl⟩ h2
theorem Gv.setP {ts : List Tok} (ht : ToksOk ts) : Gv ts (setP E ts) (fun c => NameOk c.1 ∧ GE 32 1 c.2) :=
  Gv.bnd (Gv.name ht) fun n t hn h1 => Gv.bnd ((Gv.must E _ t).up h1) fun _ t2 _ h2 => ((Gv.expr (ht.suf h2)).up h2).fin fun e he => ⟨hn, he⟩
theorem Gv.tablesP {ts : List Tok} (ht : ToksOk ts) : Gv ts (tablesP E ts) TabOk := by
  refine Gv.bnd (Gv.name ht) fun n t hn h1 => ?_
  split
  · exact ((Gv.name (ht.suf h1).tail).up (suf_tail' h1)).fin fun m hm => ⟨by simp, by simp, by simp [hn, hm]⟩
  · exact Gv.ok ⟨by simp, by simp, by simpa using hn⟩ h1
theorem Gv.asked (c : Bool) {ts : List Tok} (ht : ToksOk ts) : Gv ts (asked E { Qu.none with coalesce := c } ts) (fun q => ∀ t w, WfQ { q with tables := t, cond := w }) := by
  unfold Go.Proofs.YtkhnpmeohjafiaaGreatDoor.asked
  split
  · exact Gv.ok (fun t w => .all c t w) (suf_tail _)
  split
  · exact Gv.ok (fun t w => .count c t w) (suf_tail _)
  split
  · exact ((Gv.name ht.tail).up (suf_tail _)).fin fun s hs t w => .sum c s t w hs
  · exact (Gv.sep (fun _ h => Gv.item h) ht).fin fun l hl t w => .items c l t w hl.1 hl.2
theorem Gv.query {ts : List Tok} (ht : ToksOk ts) : Gv ts (query E ts) GQ := by
  refine Gv.bnd (Gv.must E _ ts) fun _ t _ h1 => ?_
  have hu : (if isT [67, 79, 65, 76, 69, 83, 67, 69] t then t.tail else t) <:+ ts := by split; exact suf_tail' h1; exact h1
  refine Gv.bnd ((Gv.asked _ (ht.suf hu)).up hu) fun q t2 hq h2 => Gv.bnd ((Gv.must E _ t2).up h2) fun _ t3 _ h3 => Gv.bnd ((Gv.tablesP (ht.suf h3)).up h3) fun l t4 hl h4 => ((Gv.whereP (ht.suf h4)).up h4).fin fun c hc => ⟨hq _ _, hl, hc⟩
theorem Gv.moreL : ∀ (f : Nat) (o : List Str) (q : Qu) (qs : List Qu) {ts : List Tok}, ToksOk ts → GQ q → (∀ q ∈ qs, GQ q) → o.length = qs.length → (∀ s ∈ o, s ∈ ([[85, 78, 73, 79, 78], [69, 88, 67, 69, 80, 84]] : List Str)) →
    Gv ts (moreL E f o (q :: qs) ts) (fun p => ∃ qs, p.2 = q :: qs ∧ (∀ q ∈ qs, GQ q) ∧ p.1.length = qs.length ∧ ∀ s ∈ p.1, s ∈ ([[85, 78, 73, 79, 78], [69, 88, 67, 69, 80, 84]] : List Str))
  | 0, o, q, qs, ts, ht, hq, hqs, hl, ho => Gv.ok ⟨qs, rfl, hqs, hl, ho⟩ (List.suffix_refl _)
  | f + 1, o, q, qs, ts, ht, hq, hqs, hl, ho => by
    unfold Go.Proofs.YtkhnpmeohjafiaaGreatDoor.moreL; split
    · rename_i ha
      refine Gv.bnd ((Gv.query ht.tail).up (suf_tail _)) fun x t hx h1 => ?_
      rw [List.cons_append]
      refine (Gv.moreL f (o ++ [txt ts]) q (qs ++ [x]) (ht.suf h1) hq ?_ ?_ ?_).up h1
      · intro y hy
        rcases List.mem_append.1 hy with hy | hy
        · exact hqs y hy
        · simp at hy; subst hy; exact hx
      · simp [hl]
      · intro y hy
        rcases List.mem_append.1 hy with hy | hy
        · exact ho y hy
        · simp only [List.mem_singleton] at hy; subst hy; exact any_txt ha
    · exact Gv.ok ⟨qs, rfl, hqs, hl, ho⟩ (List.suffix_refl _)
theorem Gv.asOfP {ts : List Tok} (ht : ToksOk ts) : Gv ts (asOfP E ts) (fun a => a.length ≤ 1 ∧ ∀ n ∈ a, n < 1000000000000000000) := by
  unfold Go.Proofs.YtkhnpmeohjafiaaGreatDoor.asOfP; split
  · exact Gv.bnd ((Gv.must E _ _).up (suf_tail _)) fun _ t _ h1 => ((Gv.number (ht.suf h1)).up h1).fin fun n hn => ⟨by simp, by simpa using hn⟩
  · exact Gv.ok ⟨by simp, by simp⟩ (List.suffix_refl _)
theorem Gv.duringP {ts : List Tok} (ht : ToksOk ts) : Gv ts (duringP E ts) (fun d => d.length ≤ 1 ∧ ∀ p ∈ d, PerOk p) := by
  unfold Go.Proofs.YtkhnpmeohjafiaaGreatDoor.duringP; split
  · split
    · exact Gv.bad
    · rename_i h
      have hn : Gv ts.tail (Go.Proofs.YtkhnpmeohjafiaaGreatDoor.number E ts.tail) (fun n => n < FOREVER) := by
        unfold Go.Proofs.YtkhnpmeohjafiaaGreatDoor.number; split
        · rename_i hk
          exact Gv.ok (by simp only [hk, true_and] at h; omega) (suf_tail _)
        · exact Gv.bad
      refine (hn.up (suf_tail _)).fin fun n hn => ⟨by simp, ?_⟩
      intro p hp
      simp at hp; subst hp
      exact ⟨by simp, hn⟩
  · split
    · exact ((Gv.period ht.tail).up (suf_tail _)).fin fun p hp => ⟨by simp, by simpa using hp⟩
    · exact Gv.ok ⟨by simp, by simp⟩ (List.suffix_refl _)
theorem Gv.orderP {ts : List Tok} (ht : ToksOk ts) : Gv ts (orderP E ts) (fun l => ∀ s ∈ l, NameOk s) := by
  unfold Go.Proofs.YtkhnpmeohjafiaaGreatDoor.orderP; split
  · exact Gv.bnd ((Gv.must E _ _).up (suf_tail _)) fun _ t _ h1 => ((Gv.sep (fun _ h => Gv.name h) (ht.suf h1)).up h1).mono fun l hl => hl.2
  · exact Gv.ok (by simp) (List.suffix_refl _)
theorem Gv.selects {ts : List Tok} (ht : ToksOk ts) : Gv ts (selects E ts) WfS := by
  refine Gv.bnd (Gv.query ht) fun q t hq h1 => Gv.bnd ((Gv.moreL _ [] q [] (ht.suf h1) hq (by simp) rfl (by simp)).up h1) fun oq t2 hoq h2 => ?_
  obtain ⟨o, qq⟩ := oq
  obtain ⟨qs, rfl, h3, h4, h5⟩ := hoq
  exact Gv.bnd ((Gv.asOfP (ht.suf h2)).up h2) fun a t3 ha h6 => Gv.bnd ((Gv.duringP (ht.suf h6)).up h6) fun d t4 hd h7 => ((Gv.orderP (ht.suf h7)).up h7).fin fun r hr => .select q qs o a d r hq h3 h4 h5 ha hd hr
theorem Gv.portion {ts : List Tok} (ht : ToksOk ts) : Gv ts (portion E ts) PerOk := by
  unfold Go.Proofs.YtkhnpmeohjafiaaGreatDoor.portion; split
  · exact (Gv.period ht.tail).up (suf_tail _)
  · exact Gv.ok ⟨by decide, by decide⟩ (List.suffix_refl _)
theorem Gv.keysP {ts : List Tok} (ht : ToksOk ts) : Gv ts (keysP E ts) (fun l => ∀ s ∈ l, NameOk s) := by
  unfold Go.Proofs.YtkhnpmeohjafiaaGreatDoor.keysP; split
  · exact Gv.bnd ((Gv.must E _ _).up (suf_tail _)) fun _ t _ h1 => ((Gv.names (ht.suf h1)).up h1).mono fun l hl => hl.2
  · exact Gv.ok (by simp) (List.suffix_refl _)
theorem Gv.create {ts : List Tok} (ht : ToksOk ts) : Gv ts (create E ts) WfS :=
  Gv.bnd (Gv.name ht) fun n t hn h1 => Gv.bnd ((Gv.must E _ t).up h1) fun _ t2 _ h2 => Gv.bnd ((Gv.sep (fun _ h => Gv.column h) (ht.suf h2)).up h2) fun l t3 hl h3 => Gv.bnd ((Gv.must E _ t3).up h3) fun _ t4 _ h4 =>
    ((Gv.keysP (ht.suf h4)).up h4).fin fun k hk => .create n l k hn hl.1 hl.2 hk
theorem Gv.index {ts : List Tok} (ht : ToksOk ts) : Gv ts (index E ts) WfS :=
  Gv.bnd (Gv.must E _ ts) fun _ t _ h1 => Gv.bnd ((Gv.must E _ t).up h1) fun _ t2 _ h2 => ((Gv.name (ht.suf h2)).up h2).fin fun n hn => .index n hn
theorem Gv.insert {ts : List Tok} (ht : ToksOk ts) : Gv ts (insert E ts) WfS :=
  Gv.bnd (Gv.must E _ ts) fun _ t _ h1 => Gv.bnd ((Gv.name (ht.suf h1)).up h1) fun n t2 hn h2 => Gv.bnd ((Gv.must E _ t2).up h2) fun _ t3 _ h3 => Gv.bnd ((Gv.must E _ t3).up h3) fun _ t4 _ h4 =>
    Gv.bnd ((Gv.sep (fun _ h => Gv.expr h) (ht.suf h4)).up h4) fun l t5 hl h5 => Gv.bnd ((Gv.must E _ t5).up h5) fun _ t6 _ h6 => Gv.bnd ((Gv.must E _ t6).up h6) fun _ t7 _ h7 =>
    ((Gv.period (ht.suf h7)).up h7).fin fun p hp => .insert n l p hn hl.1 hl.2 hp
theorem Gv.update {ts : List Tok} (ht : ToksOk ts) : Gv ts (update E ts) WfS :=
  Gv.bnd (Gv.name ht) fun n t hn h1 => Gv.bnd ((Gv.must E _ t).up h1) fun _ t2 _ h2 => Gv.bnd ((Gv.sep (fun _ h => Gv.setP h) (ht.suf h2)).up h2) fun l t3 hl h3 => Gv.bnd ((Gv.portion (ht.suf h3)).up h3) fun p t4 hp h4 =>
    ((Gv.whereP (ht.suf h4)).up h4).fin fun c hc => .update n l p c hn hl.1 hl.2 hp hc
theorem Gv.delete {ts : List Tok} (ht : ToksOk ts) : Gv ts (delete E ts) WfS :=
  Gv.bnd (Gv.must E _ ts) fun _ t _ h1 => Gv.bnd ((Gv.name (ht.suf h1)).up h1) fun n t2 hn h2 => Gv.bnd ((Gv.portion (ht.suf h2)).up h2) fun p t4 hp h4 =>
    ((Gv.whereP (ht.suf h4)).up h4).fin fun c hc => .delete n p c hn hp hc
theorem Gv.stmt {ts : List Tok} (ht : ToksOk ts) : Gv ts (stmt E ts) WfS := by
  unfold Go.Proofs.YtkhnpmeohjafiaaGreatDoor.stmt
  split
  · split
    · exact (Gv.create ht.tail.tail).up (suf_tail' (suf_tail _))
    · exact (Gv.index ht.tail).up (suf_tail _)
  split
  · exact (Gv.insert ht.tail).up (suf_tail _)
  split
  · exact (Gv.update ht.tail).up (suf_tail _)
  split
  · exact (Gv.delete ht.tail).up (suf_tail _)
  split
  · rename_i ha
    exact Gv.ok (.word _ (any_txt ha)) (suf_tail _)
  · exact Gv.selects ht
end
/-- What a text's statement is like. -/
theorem parse_wf {l : List UInt8} {x : St} (h : parseOf l = .inr x) : WfS x := by
  unfold parseOf at h
  cases hl : lexOf l with
  | inl f => rw [hl] at h; cases h
  | inr ts =>
    rw [hl] at h
    simp only at h
    cases hw : whole l.length ts with
    | error e => rw [hw] at h; cases h
    | ok p =>
      rw [hw] at h
      obtain ⟨y, t⟩ := p
      cases h
      unfold whole at hw
      cases hs : Go.Proofs.YtkhnpmeohjafiaaGreatDoor.stmt l.length ts with
      | error e => rw [hs] at hw; cases hw
      | ok p =>
        rw [hs] at hw
        obtain ⟨z, r⟩ := p
        simp only [bnd_ok] at hw
        by_cases hc : (if isT [59] r then r.tail else r) = []
        · rw [if_pos hc] at hw
          cases hw
          exact (Gv.stmt (lexOf_ok hl).1 _ _ hs).1
        · rw [if_neg hc] at hw
          cases hw
end Go.Proofs.YtkhnpmeohjafiaaGreatDoor
namespace Go.Proofs.YtkhnpmeohjafiaaGreatDoor

/-- The first token is none of these words and signs. -/
def Fr (L : List Str) (r : List Tok) : Prop := ∀ s ∈ L, isT s r = false
def isB1 (s : Str) (b : Nat × Str × Nat) : Bool := (b.1 == 1 || b.1 == 4) && b.2.1 == s
theorem Fr.nil (L : List Str) : Fr L [] := fun _ _ => rfl
theorem Fr.mono {L L' : List Str} {r : List Tok} (h : Fr L' r) (hs : ∀ s ∈ L, s ∈ L') : Fr L r := fun s hm => h s (hs s hm)
/-- These pieces' tokens are read as x, if what stands behind begins with none of L. -/
def Rds {α : Type} (one : List Tok → Res α) (l : List Pc) (x : α) (L : List Str) : Prop := ∀ ts r, ts.map strip = bareP l → Fr L r → one (ts ++ r) = .ok (x, r)
/-- What begins with these pieces, and goes on with none of L', begins with none of L. -/
def Hd (L L' : List Str) (m : List Pc) : Prop := ∀ ts r, ts.map strip = bareP m → Fr L' r → Fr L (ts ++ r)
theorem Hd.no (L' : List Str) (m : List Pc) : Hd [] L' m := fun _ _ _ _ s hs => by cases hs
theorem Hd.nil {L L' : List Str} (h : ∀ s ∈ L, s ∈ L') : Hd L L' [] := fun ts r ht hr => by
  have : ts = [] := by simpa [bareP] using ht
  subst this
  exact hr.mono h
theorem Hd.tok {L L' : List Str} {a : Pc} {b : Nat × Str × Nat} {m : List Pc} (hb : a.bare = [b]) (h : ∀ s ∈ L, isB1 s b = false) : Hd L L' (a :: m) := fun ts r ht _ s hs => by
  rw [bareP_cons, hb] at ht
  rw [isT_strip (b := b) (bs := bareP m) (by simpa using ht)]
  exact h s hs
theorem Hd.gap {L L' : List Str} {g : Str} {m : List Pc} (h : Hd L L' m) : Hd L L' (.gap g :: m) := fun ts r ht hr => h ts r ht hr
theorem map_split {ts : List Tok} {l m : List Pc} (h : ts.map strip = bareP (l ++ m)) : ∃ us vs, ts = us ++ vs ∧ us.map strip = bareP l ∧ vs.map strip = bareP m := by
  rw [bareP_append] at h
  exact List.map_eq_append_iff.1 h
theorem Hd.app {L L' L'' : List Str} {l m : List Pc} (h1 : Hd L L'' l) (h2 : Hd L'' L' m) : Hd L L' (l ++ m) := fun ts r ht hr => by
  obtain ⟨us, vs, rfl, hu, hv⟩ := map_split ht
  rw [List.append_assoc]
  exact h1 us _ hu (h2 vs r hv hr)
section
variable {α β : Type} {one : List Tok → Res α} {k : α → List Tok → Res β} {l m : List Pc} {x : α} {y : β} {L L' : List Str}
theorem Rds.mono (h : Rds one l x L) (hs : ∀ s ∈ L, s ∈ L') : Rds one l x L' := fun ts r ht hr => h ts r ht (hr.mono hs)
theorem Rds.gap {g : Str} (h : Rds one l x L) : Rds one (.gap g :: l) x L := fun ts r ht hr => h ts r ht hr
theorem Rds.bnd (h1 : Rds one l x L) (h2 : Rds (k x) m y L') (hd : Hd L L' m) : Rds (fun ts => bnd (one ts) k) (l ++ m) y L' := fun ts r ht hr => by
  obtain ⟨us, vs, rfl, hu, hv⟩ := map_split ht
  rw [List.append_assoc]
  show Go.Proofs.YtkhnpmeohjafiaaGreatDoor.bnd (one (us ++ (vs ++ r))) k = _
  rw [h1 us _ hu (hd vs r hv hr), bnd_ok]
  exact h2 vs r hv hr
theorem Rds.fin {f : α → β} (h : Rds one l x L) : Rds (fun ts => fin f (one ts)) l (f x) L := fun ts r ht hr => by
  show Go.Proofs.YtkhnpmeohjafiaaGreatDoor.fin f _ = _
  rw [h ts r ht hr]; rfl
theorem Rds.ok (x : α) : Rds (fun ts => .ok (x, ts)) [] x [] := fun ts r ht _ => by
  have : ts = [] := by simpa [bareP] using ht
  subst this
  rfl
/-- A reader that asks for a word first. -/
theorem Rds.ifT {s : Str} {t e : List Tok → Res α} {a : Pc} {n : Nat × Str × Nat} (hb : a.bare = [n]) (hs : isB1 s n = true) (h : Rds t l x L) : Rds (fun ts => if isT s ts then t ts.tail else e ts) (a :: l) x L := fun ts r ht hr => by
  rw [bareP_cons, hb] at ht
  obtain ⟨u, us, rfl, h1, h2⟩ := map_cons (by simpa using ht)
  show (if isT s (u :: (us ++ r)) then _ else _) = _
  have h3 : isT s (u :: (us ++ r)) = true := (isT_of (k := n.1) (u := n.2.1) (n := n.2.2) h1).trans hs
  rw [h3, if_pos rfl]
  exact h us r h2 hr
theorem Rds.ifF {s : Str} {t e : List Tok → Res α} (hd : Hd [s] L l) (h : Rds e l x L) : Rds (fun ts => if isT s ts then t ts else e ts) l x L := fun ts r ht hr => by
  show (if isT s (ts ++ r) then _ else _) = _
  rw [hd ts r ht hr s (by simp), if_neg (by simp)]
  exact h ts r ht hr
end
theorem Rds.mustw {E : Nat} {s : Str} (hs : s.map up = s) : Rds (must E s) [.word s] () [] := fun ts r ht _ => by
  obtain ⟨t, rfl, h⟩ := map_one (b := (1, s, 0)) (by simpa [bareP, Pc.bare, hs] using ht)
  unfold Go.Proofs.YtkhnpmeohjafiaaGreatDoor.must
  rw [List.singleton_append, isT_of h, if_pos (by simp)]
  rfl
theorem Rds.musts {E : Nat} {s : Str} : Rds (must E s) [.sig s] () [] := fun ts r ht _ => by
  obtain ⟨t, rfl, h⟩ := map_one (b := (4, s, 0)) (by simpa [bareP, Pc.bare] using ht)
  unfold Go.Proofs.YtkhnpmeohjafiaaGreatDoor.must
  rw [List.singleton_append, isT_of h, if_pos (by simp)]
  rfl
theorem Rds.name {E : Nat} {s : Str} (hs : NameOk s) : Rds (name E) [.word s] s [] := fun ts r ht _ => by
  obtain ⟨t, rfl, h⟩ := map_one (b := (1, s, 0)) (by simpa [bareP, Pc.bare, hs.1.2.2] using ht)
  unfold Go.Proofs.YtkhnpmeohjafiaaGreatDoor.name nameT
  rw [List.singleton_append, isK_of h, txt_of h, hs.2.1]
  simp [hs.2.2]
theorem Rds.number {E : Nat} (n : Nat) : Rds (number E) [.num (dec n)] n [] := fun ts r ht _ => by
  obtain ⟨t, rfl, h⟩ := map_one (b := (2, [], n)) (by simpa [bareP, Pc.bare, (dec_digits n).2.1] using ht)
  unfold Go.Proofs.YtkhnpmeohjafiaaGreatDoor.number
  rw [List.singleton_append, isK_of h, if_pos (by rfl)]
  simp only [strip, Prod.mk.injEq] at h
  simp [nmb, h.2.2]
/-- What an expression must not be followed by. -/
def SKL : List Str := [[46], [42], [43], [45], [61], [60, 62], [60, 61], [62, 61], [60], [62], [65, 78, 68], [79, 82]]
theorem sk_fr {r : List Tok} (h : Fr SKL r) : SK 1 r := by
  have hh : ∀ s, s ∈ SKL → isT s r = false := h
  unfold SK
  simp only [anyT, List.any, cmpL]
  refine ⟨hh _ (by decide), fun _ => ?_, fun _ => ?_, fun _ => ?_, fun _ => ?_, fun _ => ?_⟩
  all_goals simp [hh [42] (by decide), hh [43] (by decide), hh [45] (by decide), hh [61] (by decide), hh [60, 62] (by decide), hh [60, 61] (by decide), hh [62, 61] (by decide), hh [60] (by decide), hh [62] (by decide), hh [65, 78, 68] (by decide), hh [79, 82] (by decide)]
theorem Rds.expr {E : Nat} {e : Ex} (h : GE 32 1 e) : Rds (expr E) (pcE e) e SKL := fun _ _ ht hr => expr_reads h ht (sk_fr hr)

/-! ### Pieces -/
def joinP : List (List Pc) → List Pc
  | [] => []
  | [a] => a
  | a :: b :: l => a ++ .sig [44] :: .gap [32] :: joinP (b :: l)
def perP (p : Nat × Nat) : List Pc := [.num (dec p.1), .gap [32], .word [84, 79], .gap [32], if p.2 = FOREVER then .word [70, 79, 82, 69, 86, 69, 82] else .num (dec p.2)]
def whereS (l : List Ex) : List Pc := match l with | [] => [] | e :: _ => .gap [32] :: .word [87, 72, 69, 82, 69] :: .gap [32] :: pcE e
def portP (p : Nat × Nat) : List Pc := if p = (0, FOREVER) then [] else .gap [32] :: .word [70, 79, 82] :: .gap [32] :: perP p
def namesP (l : List Str) : List Pc := joinP (l.map fun s => [.word s])
def askP (q : Qu) : List Pc := if q.all then [.sig [42]] else if q.count then [.word [67, 79, 85, 78, 84]] else if q.sum ≠ [] then [.word [83, 85, 77], .gap [32], .word q.sum] else joinP (q.items.map pcE)
def queryP (q : Qu) : List Pc :=
  .word [83, 69, 76, 69, 67, 84] :: .gap [32] :: ((if q.coalesce then [.word [67, 79, 65, 76, 69, 83, 67, 69], .gap [32]] else []) ++ (askP q ++ (.gap [32] :: .word [70, 82, 79, 77] :: .gap [32] :: (namesP q.tables ++ whereS q.cond))))
def moreP : List Str → List Qu → List Pc
  | o :: os, q :: qs => .gap [32] :: .word o :: .gap [32] :: (queryP q ++ moreP os qs)
  | [], q :: qs => queryP q ++ moreP [] qs
  | _, [] => []
def asofP (l : List Nat) : List Pc := match l with | [] => [] | n :: _ => [.gap [32], .word [65, 83], .gap [32], .word [79, 70], .gap [32], .num (dec n)]
def durP (l : List (Nat × Nat)) : List Pc := match l with | [] => [] | p :: _ => .gap [32] :: .word [68, 85, 82, 73, 78, 71] :: .gap [32] :: perP p
def ordP (l : List Str) : List Pc := if l = [] then [] else .gap [32] :: .word [79, 82, 68, 69, 82] :: .gap [32] :: .word [66, 89] :: .gap [32] :: namesP l
def colP (c : Str × Nat) : List Pc := [.word c.1, .gap [32], if c.2 = 2 then .word [84, 69, 88, 84] else .word [73, 78, 84]]
def setQ (c : Str × Ex) : List Pc := .word c.1 :: .gap [32] :: .sig [61] :: .gap [32] :: pcE c.2
def keysQ (l : List Str) : List Pc := if l = [] then [] else .gap [32] :: .word [78, 79] :: .gap [32] :: .word [79, 86, 69, 82, 76, 65, 80] :: .gap [32] :: .sig [40] :: (namesP l ++ [.sig [41]])

/-! ### Lists -/
section
variable {α : Type} {one : List Tok → Res α} {f : α → List Pc} {L : List Str}
theorem sepL_reads (hc : [44] ∉ L) : ∀ (l : List α), (∀ x ∈ l, Rds one (f x) x L) → ∀ (n : Nat) (acc : List α) (ts r : List Tok), l.length ≤ n → ts.map strip = bareP (l.flatMap fun x => .sig [44] :: .gap [32] :: f x) → Fr ([44] :: L) r → sepL one n acc (ts ++ r) = .ok (acc ++ l, r)
  | [], _, n, acc, ts, r, _, ht, hr => by
    have : ts = [] := by simpa [bareP] using ht
    subst this
    rw [List.nil_append, List.append_nil]
    cases n with
    | zero => rfl
    | succ n => rw [sepL, hr _ (by simp), if_neg (by simp)]
  | x :: l, h, n, acc, ts, r, hn, ht, hr => by
    obtain ⟨n, rfl⟩ : ∃ k, n = k + 1 := ⟨n - 1, by simp at hn; omega⟩
    rw [List.flatMap_cons] at ht
    obtain ⟨us, vs, rfl, hu, hv⟩ := map_split ht
    obtain ⟨t, us, rfl, h1, h2⟩ := map_cons (b := (4, [44], 0)) (bs := bareP (f x)) (by simpa [bareP, Pc.bare] using hu)
    rw [List.cons_append, List.cons_append, sepL, isT_of h1, if_pos (by rfl), List.tail_cons, List.append_assoc]
    have hd : Fr L (vs ++ r) := by
      cases l with
      | nil =>
        have : vs = [] := by simpa [bareP] using hv
        subst this
        exact hr.mono fun s hs => List.mem_cons_of_mem _ hs
      | cons y l =>
        intro s hs
        rw [isT_strip (b := (4, [44], 0)) (bs := bareP (f y ++ l.flatMap fun x => .sig [44] :: .gap [32] :: f x)) (by simpa [bareP, Pc.bare] using hv)]
        have : s ≠ [44] := by rintro rfl; exact hc hs
        simpa using this.symm
    rw [h x (by simp) us _ h2 hd, bnd_ok, sepL_reads hc l (fun y hy => h y (List.mem_cons_of_mem _ hy)) n _ vs r (by simp at hn; omega) hv hr, List.append_assoc]
    rfl
theorem joinP_cons (a : List Pc) : ∀ (l : List (List Pc)), joinP (a :: l) = a ++ l.flatMap fun b => .sig [44] :: .gap [32] :: b
  | [] => by simp [joinP]
  | b :: l => by rw [joinP, joinP_cons b l, List.flatMap_cons]; simp
theorem bare_len {l : List α} {ts : List Tok} (h : ts.map strip = bareP (l.flatMap fun x => .sig [44] :: .gap [32] :: f x)) : l.length ≤ ts.length := by
  have h1 : ts.length = (bareP (l.flatMap fun x => .sig [44] :: .gap [32] :: f x)).length := by rw [← h]; simp
  rw [h1]
  clear h h1
  induction l with
  | nil => simp
  | cons x l ih =>
    rw [List.flatMap_cons, bareP_append, List.length_append]
    have : (bareP (.sig [44] :: .gap [32] :: f x)).length = (bareP (f x)).length + 1 := by simp [bareP, Pc.bare]
    simp only [List.length_cons]
    omega
theorem Rds.sep (hc : [44] ∉ L) {l : List α} (hl : l ≠ []) (h : ∀ x ∈ l, Rds one (f x) x L) : Rds (sep one) (joinP (l.map f)) l ([44] :: L) := fun ts r ht hr => by
  cases l with
  | nil => exact absurd rfl hl
  | cons x l =>
    rw [List.map_cons, joinP_cons, List.flatMap_map] at ht
    obtain ⟨us, vs, rfl, hu, hv⟩ := map_split ht
    have hd : Fr L (vs ++ r) := by
      cases l with
      | nil =>
        have : vs = [] := by simpa [bareP] using hv
        subst this
        exact hr.mono fun s hs => List.mem_cons_of_mem _ hs
      | cons y l =>
        intro s hs
        rw [isT_strip (b := (4, [44], 0)) (bs := bareP (f y ++ l.flatMap fun x => .sig [44] :: .gap [32] :: f x)) (by simpa [bareP, Pc.bare] using hv)]
        have : s ≠ [44] := by rintro rfl; exact hc hs
        simpa using this.symm
    unfold Go.Proofs.YtkhnpmeohjafiaaGreatDoor.sep
    rw [List.append_assoc, h x (by simp) us _ hu hd, bnd_ok]
    have h1 := bare_len hv
    rw [sepL_reads hc l (fun y hy => h y (List.mem_cons_of_mem _ hy)) _ _ vs r (by rw [List.length_append]; omega) hv hr]
    rfl
end
theorem Rds.nms {E : Nat} {l : List Str} (hl : l ≠ []) (h : ∀ s ∈ l, NameOk s) : Rds (Go.Proofs.YtkhnpmeohjafiaaGreatDoor.sep (Go.Proofs.YtkhnpmeohjafiaaGreatDoor.name E)) (namesP l) l [[44]] := Rds.sep (by simp) hl fun s hs => Rds.name (h s hs)
theorem Rds.per {E : Nat} {p : Nat × Nat} (hp : PerOk p) : Rds (period E) (perP p) p [] := by
  obtain ⟨a, z⟩ := p
  obtain ⟨h1, h2⟩ := hp
  simp only at h1 h2
  intro ts r ht hr
  have h3 : Rds (fun ts => if isT [70, 79, 82, 69, 86, 69, 82] ts then .ok (FOREVER, ts.tail) else Go.Proofs.YtkhnpmeohjafiaaGreatDoor.number E ts) [if z = FOREVER then .word [70, 79, 82, 69, 86, 69, 82] else .num (dec z)] z [] := by
    by_cases hz : z = FOREVER
    · subst hz
      rw [if_pos rfl]
      exact Rds.ifT (t := fun ts => .ok (FOREVER, ts)) (n := (1, [70, 79, 82, 69, 86, 69, 82], 0)) rfl (by decide) (Rds.ok _)
    · rw [if_neg hz]
      refine Rds.ifF (t := fun ts => .ok (FOREVER, ts.tail)) (Hd.tok (b := (2, [], val (dec z))) rfl fun s _ => rfl) (Rds.number z)
  have h4 : ∀ T, Rds (fun ts => Go.Proofs.YtkhnpmeohjafiaaGreatDoor.bnd (Go.Proofs.YtkhnpmeohjafiaaGreatDoor.number E ts) fun a r => Go.Proofs.YtkhnpmeohjafiaaGreatDoor.bnd (Go.Proofs.YtkhnpmeohjafiaaGreatDoor.must E [84, 79] r) fun _ r => Go.Proofs.YtkhnpmeohjafiaaGreatDoor.bnd (if isT [70, 79, 82, 69, 86, 69, 82] r then .ok (FOREVER, r.tail) else Go.Proofs.YtkhnpmeohjafiaaGreatDoor.number E r) fun z r' => if z ≤ a ∨ FOREVER < z then Go.Proofs.YtkhnpmeohjafiaaGreatDoor.bad E 40 T else .ok ((a, z), r')) (perP (a, z)) (a, z) [] := fun T => by
    refine Rds.bnd (l := [.num (dec a)]) (Rds.number a) (Rds.gap (Rds.bnd (l := [.word [84, 79]]) (Rds.mustw rfl) (Rds.gap (Rds.bnd (m := []) h3 ?_ (Hd.no _ _))) (Hd.no _ _))) (Hd.no _ _)
    intro us r hu _
    have : us = [] := by simpa [bareP] using hu
    subst this
    show (if z ≤ a ∨ FOREVER < z then _ else _) = _
    rw [if_neg (by omega)]
    rfl
  exact h4 (ts ++ r) ts r ht hr
theorem Rds.whr {E : Nat} {l : List Ex} (h : CondOk l) : Rds (whereP E) (whereS l) l ([87, 72, 69, 82, 69] :: SKL) := by
  obtain ⟨h1, h2⟩ := h
  cases l with
  | nil => exact Rds.ifF (t := fun ts => Go.Proofs.YtkhnpmeohjafiaaGreatDoor.fin (fun e => [e]) (Go.Proofs.YtkhnpmeohjafiaaGreatDoor.expr E ts.tail)) (Hd.nil (by simp)) ((Rds.ok _).mono (by simp))
  | cons e l =>
    obtain rfl : l = [] := by cases l; rfl; simp at h1
    exact Rds.gap (Rds.ifT (n := (1, [87, 72, 69, 82, 69], 0)) (t := fun ts => Go.Proofs.YtkhnpmeohjafiaaGreatDoor.fin (fun e => [e]) (Go.Proofs.YtkhnpmeohjafiaaGreatDoor.expr E ts)) rfl (by decide) (Rds.gap (Rds.fin ((Rds.expr (h2 e (by simp))).mono fun s hs => List.mem_cons_of_mem _ hs))))
theorem name_ne {s : Str} (h : NameOk s) {u : Str} (hu : u ∈ reservedL ∨ headL u = false) : isB1 u (1, s, 0) = false := by
  have : s ≠ u := by
    rintro rfl
    rcases hu with hu | hu
    · have h1 := h.2.1
      simp [resv] at h1
      exact h1 hu
    · rw [h.1.1] at hu; cases hu
  simpa [isB1] using this
theorem Hd.name {L L' : List Str} {s : Str} (h : NameOk s) (m : List Pc) (hL : ∀ u ∈ L, u ∈ reservedL ∨ headL u = false) : Hd L L' (.word s :: m) :=
  Hd.tok (b := (1, s, 0)) (by simp [Pc.bare, h.1.2.2]) fun u hu => name_ne h (hL u hu)
theorem Rds.itm {E : Nat} {t o : Str} (ht : NameOk t) (ho : o = [] ∨ NameOk o) : Rds (item E) (pcE (eName t o)) (eName t o) [[46]] := by
  rw [pc_name]
  by_cases h : o = []
  · subst h
    rw [if_pos rfl]
    refine Rds.bnd (l := [.word t]) (m := []) (Rds.name ht) (k := fun n r => if isT [46] r then Go.Proofs.YtkhnpmeohjafiaaGreatDoor.bnd (Go.Proofs.YtkhnpmeohjafiaaGreatDoor.name E r.tail) fun m r' => .ok (eName m n, r') else .ok (eName n [], r)) ?_ (Hd.no _ _)
    exact Rds.ifF (t := fun r => Go.Proofs.YtkhnpmeohjafiaaGreatDoor.bnd (Go.Proofs.YtkhnpmeohjafiaaGreatDoor.name E r.tail) fun m r' => .ok (eName m t, r')) (Hd.nil (by simp)) ((Rds.ok _).mono (by simp))
  · rw [if_neg h]
    have ho : NameOk o := ho.resolve_left h
    refine Rds.bnd (l := [.word o]) (m := [.sig [46], .word t]) (Rds.name ho) (k := fun n r => if isT [46] r then Go.Proofs.YtkhnpmeohjafiaaGreatDoor.bnd (Go.Proofs.YtkhnpmeohjafiaaGreatDoor.name E r.tail) fun m r' => .ok (eName m n, r') else .ok (eName n [], r)) ?_ (Hd.no _ _)
    exact Rds.ifT (n := (4, [46], 0)) (t := fun r => Go.Proofs.YtkhnpmeohjafiaaGreatDoor.bnd (Go.Proofs.YtkhnpmeohjafiaaGreatDoor.name E r) fun m r' => .ok (eName m o, r')) rfl (by decide) ((Rds.bnd (l := [.word t]) (m := []) (Rds.name ht) (Rds.ok _) (Hd.no _ _)).mono (by simp))
end Go.Proofs.YtkhnpmeohjafiaaGreatDoor
