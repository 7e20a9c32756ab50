/- A fault's code and place: plain law. No program is named here. -/
import Derived.Test.YtkhnpmeohjafiaaGreatDoorMG
namespace Go.Proofs.YtkhnpmeohjafiaaGreatDoor

section
variable {E : Nat}
theorem Suf.moreL : ∀ (f : Nat) (o : List Str) (q : List Qu) (ts : List Tok), Suf ts (moreL E f o q ts)
  | 0, _, _, _ => Suf.ok (List.suffix_refl _)
  | f + 1, o, q, ts => by
    unfold Go.Proofs.YtkhnpmeohjafiaaGreatDoor.moreL; split
    · exact Suf.bnd ((Suf.query E _).up (suf_tail _)) fun x t ht => (Suf.moreL f _ _ t).up ht
    · exact Suf.ok (List.suffix_refl _)
theorem Suf.asOfP (ts : List Tok) : Suf ts (asOfP E ts) := by
  unfold Go.Proofs.YtkhnpmeohjafiaaGreatDoor.asOfP; split
  · exact Suf.bnd ((Suf.must E _ _).up (suf_tail _)) fun _ t ht => ((Suf.number E t).up ht).fin
  · exact Suf.ok (List.suffix_refl _)
theorem Suf.duringP (ts : List Tok) : Suf ts (duringP E ts) := by
  unfold Go.Proofs.YtkhnpmeohjafiaaGreatDoor.duringP; split
  · split
    · exact Suf.bad
    · exact ((Suf.number E _).up (suf_tail _)).fin
  · split
    · exact ((Suf.period E _).up (suf_tail _)).fin
    · exact Suf.ok (List.suffix_refl _)
theorem Suf.orderP (ts : List Tok) : Suf ts (orderP E ts) := by
  unfold Go.Proofs.YtkhnpmeohjafiaaGreatDoor.orderP; split
  · exact Suf.bnd ((Suf.must E _ _).up (suf_tail _)) fun _ t ht => (Suf.sep (Suf.name E) t).up ht
  · exact Suf.ok (List.suffix_refl _)
theorem Suf.selects (ts : List Tok) : Suf ts (selects E ts) :=
  Suf.bnd (Suf.query E ts) fun _ t ht => Suf.bnd ((Suf.moreL _ _ _ t).up ht) fun _ t2 h2 => Suf.bnd ((Suf.asOfP t2).up h2) fun _ t3 h3 => Suf.bnd ((Suf.duringP t3).up h3) fun _ t4 h4 => ((Suf.orderP t4).up h4).fin
theorem Suf.portion (ts : List Tok) : Suf ts (portion E ts) := by
  unfold Go.Proofs.YtkhnpmeohjafiaaGreatDoor.portion; split
  · exact (Suf.period E _).up (suf_tail _)
  · exact Suf.ok (List.suffix_refl _)
theorem Suf.names (ts : List Tok) : Suf ts (names E ts) :=
  Suf.bnd (Suf.must E _ ts) fun _ t ht => Suf.bnd ((Suf.sep (Suf.name E) t).up ht) fun _ t2 h2 => Suf.bnd ((Suf.must E _ t2).up h2) fun _ _ h3 => Suf.ok h3
theorem Suf.keysP (ts : List Tok) : Suf ts (keysP E ts) := by
  unfold Go.Proofs.YtkhnpmeohjafiaaGreatDoor.keysP; split
  · exact Suf.bnd ((Suf.must E _ _).up (suf_tail _)) fun _ t ht => (Suf.names t).up ht
  · exact Suf.ok (List.suffix_refl _)
theorem Suf.stmt (ts : List Tok) : Suf ts (stmt E ts) := by
  unfold Go.Proofs.YtkhnpmeohjafiaaGreatDoor.stmt
  split
  · split
    · exact (Suf.bnd (Suf.name E _) fun _ t ht => Suf.bnd ((Suf.must E _ t).up ht) fun _ t2 h2 => Suf.bnd ((Suf.sep (Suf.column E) t2).up h2) fun _ t3 h3 => Suf.bnd ((Suf.must E _ t3).up h3) fun _ t4 h4 => ((Suf.keysP t4).up h4).fin : Suf ts.tail.tail (create E _)).up (suf_tail' (suf_tail _))
    · exact (Suf.bnd (Suf.must E _ _) fun _ t ht => Suf.bnd ((Suf.must E _ t).up ht) fun _ t2 h2 => ((Suf.name E t2).up h2).fin : Suf ts.tail (index E _)).up (suf_tail _)
  split
  · exact (Suf.bnd (Suf.must E _ _) fun _ t ht => Suf.bnd ((Suf.name E t).up ht) fun _ t2 h2 => Suf.bnd ((Suf.must E _ t2).up h2) fun _ t3 h3 => Suf.bnd ((Suf.must E _ t3).up h3) fun _ t4 h4 => Suf.bnd ((Suf.sep (Suf.expr E) t4).up h4) fun _ t5 h5 => Suf.bnd ((Suf.must E _ t5).up h5) fun _ t6 h6 => Suf.bnd ((Suf.must E _ t6).up h6) fun _ t7 h7 => ((Suf.period E t7).up h7).fin : Suf ts.tail (insert E _)).up (suf_tail _)
  split
  · exact (Suf.bnd (Suf.name E _) fun _ t ht => Suf.bnd ((Suf.must E _ t).up ht) fun _ t2 h2 => Suf.bnd ((Suf.sep (Suf.setP E) t2).up h2) fun _ t3 h3 => Suf.bnd ((Suf.portion t3).up h3) fun _ t4 h4 => ((Suf.whereP E t4).up h4).fin : Suf ts.tail (update E _)).up (suf_tail _)
  split
  · exact (Suf.bnd (Suf.must E _ _) fun _ t ht => Suf.bnd ((Suf.name E t).up ht) fun _ t2 h2 => Suf.bnd ((Suf.portion t2).up h2) fun _ t4 h4 => ((Suf.whereP E t4).up h4).fin : Suf ts.tail (delete E _)).up (suf_tail _)
  split
  · exact Suf.ok (suf_tail _)
  · exact Suf.selects ts
end
def PlcOk (E : Nat) (ts : List Tok) : Prop := ∀ t ∈ ts, t.2.2.2 ≤ E
theorem PlcOk.suf {E : Nat} {ts us : List Tok} (h : PlcOk E ts) (hs : us <:+ ts) : PlcOk E us := fun t ht => h t (hs.mem ht)
theorem PlcOk.tail {E : Nat} {ts : List Tok} (h : PlcOk E ts) : PlcOk E ts.tail := h.suf (suf_tail ts)
theorem plc_le {E : Nat} {ts : List Tok} (h : PlcOk E ts) : plc E ts ≤ E := by
  cases ts with
  | nil => exact Nat.le_refl _
  | cons t r => exact h t (by simp)
/-- A fault has a code, and lies within the text. -/
def Ft {α : Type} (E : Nat) (r : Res α) : Prop := ∀ e, r = .error e → e.1 ≠ 0 ∧ e.2 ≤ E
section
variable {α β : Type} {E : Nat} {ts : List Tok}
theorem Ft.ok {x : α} {u : List Tok} : Ft E (.ok (x, u)) := fun _ h => by cases h
theorem Ft.bad {c : Nat} (hc : c ≠ 0) (h : PlcOk E ts) : Ft (α := α) E (bad E c ts) := fun e he => by cases he; exact ⟨hc, plc_le h⟩
theorem Ft.bnd {r : Res α} {k : α → List Tok → Res β} (h : Ft E r) (hs : Suf ts r) (hp : PlcOk E ts) (hk : ∀ x t, PlcOk E t → Ft E (k x t)) : Ft E (bnd r k) := by
  cases r with
  | error e => exact fun e' he => by cases he; exact h e rfl
  | ok q => exact hk q.1 q.2 (hp.suf (hs _ _ rfl))
theorem Ft.fin {r : Res α} {f : α → β} (h : Ft E r) : Ft E (fin f r) := by
  cases r with
  | error e => exact fun e' he => by cases he; exact h e rfl
  | ok q => exact Ft.ok
theorem Ft.must {s : Str} (h : PlcOk E ts) : Ft E (must E s ts) := by
  unfold Go.Proofs.YtkhnpmeohjafiaaGreatDoor.must; split
  · exact Ft.ok
  · exact Ft.bad (by decide) h
theorem Ft.name (h : PlcOk E ts) : Ft E (name E ts) := by
  unfold Go.Proofs.YtkhnpmeohjafiaaGreatDoor.name; split
  · exact Ft.ok
  · exact Ft.bad (by decide) h
theorem Ft.number (h : PlcOk E ts) : Ft E (number E ts) := by
  unfold Go.Proofs.YtkhnpmeohjafiaaGreatDoor.number; split
  · exact Ft.ok
  · exact Ft.bad (by decide) h
theorem Ft.sepL {one : List Tok → Res α} (h : ∀ ts, PlcOk E ts → Ft E (one ts)) (hs : ∀ ts, Suf ts (one ts)) : ∀ (f : Nat) (acc : List α) (ts : List Tok), PlcOk E ts → Ft E (sepL one f acc ts)
  | 0, _, _, _ => Ft.ok
  | f + 1, acc, ts, hp => by
    unfold Go.Proofs.YtkhnpmeohjafiaaGreatDoor.sepL; split
    · exact Ft.bnd (h _ hp.tail) (hs _) hp.tail fun x t ht => Ft.sepL h hs f _ t ht
    · exact Ft.ok
theorem Ft.sep {one : List Tok → Res α} (h : ∀ ts, PlcOk E ts → Ft E (one ts)) (hs : ∀ ts, Suf ts (one ts)) (hp : PlcOk E ts) : Ft E (sep one ts) :=
  Ft.bnd (h ts hp) (hs ts) hp fun x t ht => Ft.sepL h hs _ _ t ht
theorem Ft.chL {read : List Tok → Res Ex} {ops : List Str} (h : ∀ ts, PlcOk E ts → Ft E (read ts)) (hs : ∀ ts, Suf ts (read ts)) : ∀ (f : Nat) (e : Ex) (ts : List Tok), PlcOk E ts → Ft E (chL read ops f e ts)
  | 0, _, _, _ => Ft.ok
  | f + 1, e, ts, hp => by
    unfold Go.Proofs.YtkhnpmeohjafiaaGreatDoor.chL; split
    · exact Ft.bnd (h _ hp.tail) (hs _) hp.tail fun x t ht => Ft.chL h hs f _ t ht
    · exact Ft.ok
theorem Ft.ch {read : List Tok → Res Ex} {ops : List Str} (h : ∀ ts, PlcOk E ts → Ft E (read ts)) (hs : ∀ ts, Suf ts (read ts)) : ∀ ts, PlcOk E ts → Ft E (ch read ops ts) :=
  fun ts hp => Ft.bnd (h ts hp) (hs ts) hp fun x t ht => Ft.chL h hs _ _ t ht
theorem Ft.item (hp : PlcOk E ts) : Ft E (item E ts) := by
  refine Ft.bnd (Ft.name hp) (Suf.name E ts) hp fun n t ht => ?_
  split
  · exact Ft.bnd (Ft.name ht.tail) (Suf.name E _) ht.tail fun _ _ _ => Ft.ok
  · exact Ft.ok
theorem Ft.factorOf {fs es : List Tok → Res Ex} (hf : ∀ ts, PlcOk E ts → Ft E (fs ts)) (he : ∀ ts, PlcOk E ts → Ft E (es ts)) (hs : ∀ ts, Suf ts (es ts)) : ∀ ts, PlcOk E ts → Ft E (factorOf E fs es ts) := by
  intro ts hp
  unfold Go.Proofs.YtkhnpmeohjafiaaGreatDoor.factorOf
  split
  · exact Ft.ok
  split
  · exact Ft.ok
  split
  · exact (hf _ hp.tail).fin
  split
  · exact Ft.bnd (he _ hp.tail) (hs _) hp.tail fun _ t ht => Ft.bnd (Ft.must ht) (Suf.must E _ t) ht fun _ _ _ => Ft.ok
  · exact Ft.item hp
theorem Ft.notOf {fc ns : List Tok → Res Ex} (hf : ∀ ts, PlcOk E ts → Ft E (fc ts)) (hn : ∀ ts, PlcOk E ts → Ft E (ns ts)) (hs : ∀ ts, Suf ts (fc ts)) : ∀ ts, PlcOk E ts → Ft E (notOf fc ns ts) := by
  have h5 : ∀ ts, PlcOk E ts → Ft E (sumOf fc ts) := Ft.ch (Ft.ch hf hs) (Suf.ch hs)
  intro ts hp
  unfold Go.Proofs.YtkhnpmeohjafiaaGreatDoor.notOf; split
  · exact (hn _ hp.tail).fin
  · refine Ft.bnd (h5 ts hp) (Suf.ch (Suf.ch hs) ts) hp fun e t ht => ?_
    split
    · exact (h5 _ ht.tail).fin
    · exact Ft.ok
theorem Ft.exprOf {nt : List Tok → Res Ex} (h : ∀ ts, PlcOk E ts → Ft E (nt ts)) (hs : ∀ ts, Suf ts (nt ts)) : ∀ ts, PlcOk E ts → Ft E (exprOf nt ts) := Ft.ch (Ft.ch h hs) (Suf.ch hs)
theorem Ft.lvOf {fs ns es : List Tok → Res Ex} (hf : ∀ ts, PlcOk E ts → Ft E (fs ts)) (hn : ∀ ts, PlcOk E ts → Ft E (ns ts)) (he : ∀ ts, PlcOk E ts → Ft E (es ts)) (sf : ∀ ts, Suf ts (fs ts)) (sn : ∀ ts, Suf ts (ns ts)) (se : ∀ ts, Suf ts (es ts)) :
    (∀ ts, PlcOk E ts → Ft E ((lvOf E fs ns es).fac ts)) ∧ (∀ ts, PlcOk E ts → Ft E ((lvOf E fs ns es).no ts)) ∧ ∀ ts, PlcOk E ts → Ft E ((lvOf E fs ns es).ex ts) := by
  obtain ⟨s1, s2, s3⟩ := Suf.lvOf (E := E) sf sn se
  have h1 := Ft.factorOf (E := E) hf he se
  have h2 := Ft.notOf (E := E) h1 hn s1
  exact ⟨h1, h2, Ft.exprOf h2 s2⟩
theorem Ft.lv (E : Nat) : ∀ n, (∀ ts, PlcOk E ts → Ft E ((lv E n).fac ts)) ∧ (∀ ts, PlcOk E ts → Ft E ((lv E n).no ts)) ∧ ∀ ts, PlcOk E ts → Ft E ((lv E n).ex ts)
  | 0 => Ft.lvOf (fun _ h => Ft.bad (by decide) h) (fun _ h => Ft.bad (by decide) h) (fun _ h => Ft.bad (by decide) h) (fun _ => Suf.bad) (fun _ => Suf.bad) (fun _ => Suf.bad)
  | n + 1 => Ft.lvOf (Ft.lv E n).1 (Ft.lv E n).2.1 (Ft.lv E n).2.2 (Suf.lv E n).1 (Suf.lv E n).2.1 (Suf.lv E n).2.2
theorem Ft.expr (hp : PlcOk E ts) : Ft E (expr E ts) := (Ft.lv E 32).2.2 ts hp
theorem Ft.period (hp : PlcOk E ts) : Ft E (period E ts) := by
  refine Ft.bnd (Ft.number hp) (Suf.number E ts) hp fun a t ht => Ft.bnd (Ft.must ht) (Suf.must E _ t) ht fun _ t2 h2 => Ft.bnd (ts := t2) ?_ ?_ h2 fun z t3 h3 => ?_
  · split
    · exact Ft.ok
    · exact Ft.number h2
  · split
    · exact Suf.ok (suf_tail _)
    · exact Suf.number E _
  · split
    · exact Ft.bad (by decide) hp
    · exact Ft.ok
theorem Ft.whereP (hp : PlcOk E ts) : Ft E (whereP E ts) := by
  unfold Go.Proofs.YtkhnpmeohjafiaaGreatDoor.whereP; split
  · exact (Ft.expr hp.tail).fin
  · exact Ft.ok
theorem Ft.names (hp : PlcOk E ts) : Ft E (names E ts) :=
  Ft.bnd (Ft.must hp) (Suf.must E _ ts) hp fun _ t ht => Ft.bnd (Ft.sep (fun _ h => Ft.name h) (Suf.name E) ht) (Suf.sep (Suf.name E) t) ht fun _ t2 h2 => Ft.bnd (Ft.must h2) (Suf.must E _ t2) h2 fun _ _ _ => Ft.ok
theorem Ft.column (hp : PlcOk E ts) : Ft E (column E ts) := by
  refine Ft.bnd (Ft.name hp) (Suf.name E ts) hp fun n t ht => ?_
  split
  · exact Ft.ok
  · exact Ft.bnd (Ft.must ht) (Suf.must E _ t) ht fun _ _ _ => Ft.ok
theorem Ft.setP (hp : PlcOk E ts) : Ft E (setP E ts) :=
  Ft.bnd (Ft.name hp) (Suf.name E ts) hp fun _ t ht => Ft.bnd (Ft.must ht) (Suf.must E _ t) ht fun _ t2 h2 => (Ft.expr h2).fin
theorem Ft.asked {q : Qu} (hp : PlcOk E ts) : Ft E (asked E q ts) := by
  unfold Go.Proofs.YtkhnpmeohjafiaaGreatDoor.asked
  split
  · exact Ft.ok
  split
  · exact Ft.ok
  split
  · exact (Ft.name hp.tail).fin
  · exact (Ft.sep (fun _ h => Ft.item h) (Suf.item E) hp).fin
theorem Ft.tablesP (hp : PlcOk E ts) : Ft E (tablesP E ts) := by
  refine Ft.bnd (Ft.name hp) (Suf.name E ts) hp fun n t ht => ?_
  split
  · exact (Ft.name ht.tail).fin
  · exact Ft.ok
theorem Ft.query (hp : PlcOk E ts) : Ft E (query E ts) := by
  refine Ft.bnd (Ft.must hp) (Suf.must E _ ts) hp fun _ t ht => ?_
  have hu : PlcOk E (if isT [67, 79, 65, 76, 69, 83, 67, 69] t then t.tail else t) := by split; exact ht.tail; exact ht
  exact Ft.bnd (Ft.asked hu) (Suf.asked E _ _) hu fun _ t2 h2 => Ft.bnd (Ft.must h2) (Suf.must E _ t2) h2 fun _ t3 h3 => Ft.bnd (Ft.tablesP h3) (Suf.tablesP E t3) h3 fun _ t4 h4 => (Ft.whereP h4).fin
theorem Ft.moreL : ∀ (f : Nat) (o : List Str) (q : List Qu) (ts : List Tok), PlcOk E ts → Ft E (moreL E f o q ts)
  | 0, _, _, _, _ => Ft.ok
  | f + 1, o, q, ts, hp => by
    unfold Go.Proofs.YtkhnpmeohjafiaaGreatDoor.moreL; split
    · exact Ft.bnd (Ft.query hp.tail) (Suf.query E _) hp.tail fun x t ht => Ft.moreL f _ _ t ht
    · exact Ft.ok
theorem Ft.asOfP (hp : PlcOk E ts) : Ft E (asOfP E ts) := by
  unfold Go.Proofs.YtkhnpmeohjafiaaGreatDoor.asOfP; split
  · exact Ft.bnd (Ft.must hp.tail) (Suf.must E _ _) hp.tail fun _ t ht => (Ft.number ht).fin
  · exact Ft.ok
theorem Ft.duringP (hp : PlcOk E ts) : Ft E (duringP E ts) := by
  unfold Go.Proofs.YtkhnpmeohjafiaaGreatDoor.duringP; split
  · split
    · exact Ft.bad (by decide) hp.tail
    · exact (Ft.number hp.tail).fin
  · split
    · exact (Ft.period hp.tail).fin
    · exact Ft.ok
theorem Ft.orderP (hp : PlcOk E ts) : Ft E (orderP E ts) := by
  unfold Go.Proofs.YtkhnpmeohjafiaaGreatDoor.orderP; split
  · exact Ft.bnd (Ft.must hp.tail) (Suf.must E _ _) hp.tail fun _ t ht => Ft.sep (fun _ h => Ft.name h) (Suf.name E) ht
  · exact Ft.ok
theorem Ft.selects (hp : PlcOk E ts) : Ft E (selects E ts) :=
  Ft.bnd (Ft.query hp) (Suf.query E ts) hp fun _ t ht => Ft.bnd (Ft.moreL _ _ _ t ht) (Suf.moreL _ _ _ t) ht fun _ t2 h2 => Ft.bnd (Ft.asOfP h2) (Suf.asOfP t2) h2 fun _ t3 h3 => Ft.bnd (Ft.duringP h3) (Suf.duringP t3) h3 fun _ t4 h4 => (Ft.orderP h4).fin
theorem Ft.portion (hp : PlcOk E ts) : Ft E (portion E ts) := by
  unfold Go.Proofs.YtkhnpmeohjafiaaGreatDoor.portion; split
  · exact Ft.period hp.tail
  · exact Ft.ok
theorem Ft.keysP (hp : PlcOk E ts) : Ft E (keysP E ts) := by
  unfold Go.Proofs.YtkhnpmeohjafiaaGreatDoor.keysP; split
  · exact Ft.bnd (Ft.must hp.tail) (Suf.must E _ _) hp.tail fun _ t ht => Ft.names ht
  · exact Ft.ok
theorem Ft.create (hp : PlcOk E ts) : Ft E (create E ts) :=
  Ft.bnd (Ft.name hp) (Suf.name E ts) hp fun _ t ht => Ft.bnd (Ft.must ht) (Suf.must E _ t) ht fun _ t2 h2 => Ft.bnd (Ft.sep (fun _ h => Ft.column h) (Suf.column E) h2) (Suf.sep (Suf.column E) t2) h2 fun _ t3 h3 => Ft.bnd (Ft.must h3) (Suf.must E _ t3) h3 fun _ t4 h4 => (Ft.keysP h4).fin
theorem Ft.index (hp : PlcOk E ts) : Ft E (index E ts) :=
  Ft.bnd (Ft.must hp) (Suf.must E _ ts) hp fun _ t ht => Ft.bnd (Ft.must ht) (Suf.must E _ t) ht fun _ t2 h2 => (Ft.name h2).fin
theorem Ft.insert (hp : PlcOk E ts) : Ft E (insert E ts) :=
  Ft.bnd (Ft.must hp) (Suf.must E _ ts) hp fun _ t ht => Ft.bnd (Ft.name ht) (Suf.name E t) ht fun _ t2 h2 => Ft.bnd (Ft.must h2) (Suf.must E _ t2) h2 fun _ t3 h3 => Ft.bnd (Ft.must h3) (Suf.must E _ t3) h3 fun _ t4 h4 =>
    Ft.bnd (Ft.sep (fun _ h => Ft.expr h) (Suf.expr E) h4) (Suf.sep (Suf.expr E) t4) h4 fun _ t5 h5 => Ft.bnd (Ft.must h5) (Suf.must E _ t5) h5 fun _ t6 h6 => Ft.bnd (Ft.must h6) (Suf.must E _ t6) h6 fun _ t7 h7 => (Ft.period h7).fin
theorem Ft.update (hp : PlcOk E ts) : Ft E (update E ts) :=
  Ft.bnd (Ft.name hp) (Suf.name E ts) hp fun _ t ht => Ft.bnd (Ft.must ht) (Suf.must E _ t) ht fun _ t2 h2 => Ft.bnd (Ft.sep (fun _ h => Ft.setP h) (Suf.setP E) h2) (Suf.sep (Suf.setP E) t2) h2 fun _ t3 h3 => Ft.bnd (Ft.portion h3) (Suf.portion t3) h3 fun _ t4 h4 => (Ft.whereP h4).fin
theorem Ft.delete (hp : PlcOk E ts) : Ft E (delete E ts) :=
  Ft.bnd (Ft.must hp) (Suf.must E _ ts) hp fun _ t ht => Ft.bnd (Ft.name ht) (Suf.name E t) ht fun _ t2 h2 => Ft.bnd (Ft.portion h2) (Suf.portion t2) h2 fun _ t4 h4 => (Ft.whereP h4).fin
theorem Ft.stmt (hp : PlcOk E ts) : Ft E (stmt E ts) := by
  unfold Go.Proofs.YtkhnpmeohjafiaaGreatDoor.stmt
  split
  · split
    · exact Ft.create hp.tail.tail
    · exact Ft.index hp.tail
  split
  · exact Ft.insert hp.tail
  split
  · exact Ft.update hp.tail
  split
  · exact Ft.delete hp.tail
  split
  · exact Ft.ok
  · exact Ft.selects hp
theorem Ft.whole (hp : PlcOk E ts) : Ft E (whole E ts) := by
  refine Ft.bnd (Ft.stmt hp) (Suf.stmt ts) hp fun x t ht => ?_
  by_cases hc : (if isT [59] t then t.tail else t) = []
  · rw [if_pos hc]; exact Ft.ok
  · rw [if_neg hc]
    refine Ft.bad (by decide) ?_
    split
    · exact ht.tail
    · exact ht
end
/-- A fault of a text: it has a code, and lies within the text. -/
theorem parse_fault {l : List UInt8} {f : Nat × Nat} (h : parseOf l = .inl f) : f.1 ≠ 0 ∧ f.2 ≤ l.length := by
  unfold parseOf at h
  cases hl : lexOf l with
  | inl g =>
    rw [hl] at h
    cases h
    have := lexOf_place hl
    exact ⟨this.2, this.1⟩
  | inr ts =>
    rw [hl] at h
    simp only at h
    cases hw : whole l.length ts with
    | error e => rw [hw] at h; cases h; exact Ft.whole (lexOf_ok hl).2 _ hw
    | ok p => rw [hw] at h; obtain ⟨y, t⟩ := p; cases h
end Go.Proofs.YtkhnpmeohjafiaaGreatDoor
