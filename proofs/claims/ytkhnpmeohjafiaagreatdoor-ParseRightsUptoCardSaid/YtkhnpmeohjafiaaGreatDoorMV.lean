/- A fault's code and place: plain law. No program is named here. The tokens of texts side by side, a sign or a blank between; of a text in capitals: plain law. No program is named here. -/
import Derived.Test.YtkhnpmeohjafiaaGreatDoorMG
import Derived.Test.YtkhnpmeohjafiaaGreatDoorMF
namespace Go.Proofs.YtkhnpmeohjafiaaGreatDoor

section
variable {E : Nat}
theorem Suf.moreL : ∀ (f : Nat) (o : List Str) (q : List Qu) (ts : List Tok), Suf ts (moreL E f o q ts)
  | 0, _, _, _ => Suf.ok (List.suffix_refl _)
  | f + 1, o, q, ts => by
    unfold Go.Proofs.YtkhnpmeohjafiaaGreatDoor.moreL; split
    · exact Suf.bnd ((Suf.query E _).up (suf_tail _)) fun x t ht => (Suf.moreL f _ _ t).up ht
    · exact Suf.ok (List.suffix_refl _)
theorem Suf.asOfP (ts : List Tok) : Suf ts (asOfP E ts) := by
  unfold Go.Proofs.YtkhnpmeohjafiaaGreatDoor.asOfP; split
  · exact Suf.bnd ((Suf.must E _ _).up (suf_tail _)) fun _ t ht => ((Suf.number E t).up ht).fin
  · exact Suf.ok (List.suffix_refl _)
theorem Suf.duringP (ts : List Tok) : Suf ts (duringP E ts) := by
  unfold Go.Proofs.YtkhnpmeohjafiaaGreatDoor.duringP; split
  · split
    · exact Suf.bad
    · exact ((Suf.number E _).up (suf_tail _)).fin
  · split
    · exact ((Suf.period E _).up (suf_tail _)).fin
    · exact Suf.ok (List.suffix_refl _)
theorem Suf.orderP (ts : List Tok) : Suf ts (orderP E ts) := by
  unfold Go.Proofs.YtkhnpmeohjafiaaGreatDoor.orderP; split
  · exact Suf.bnd ((Suf.must E _ _).up (suf_tail _)) fun _ t ht => (Suf.sep (Suf.name E) t).up ht
  · exact Suf.ok (List.suffix_refl _)
theorem Suf.selects (ts : List Tok) : Suf ts (selects E ts) :=
  Suf.bnd (Suf.query E ts) fun _ t ht => Suf.bnd ((Suf.moreL _ _ _ t).up ht) fun _ t2 h2 => Suf.bnd ((Suf.asOfP t2).up h2) fun _ t3 h3 => Suf.bnd ((Suf.duringP t3).up h3) fun _ t4 h4 => ((Suf.orderP t4).up h4).fin
theorem Suf.portion (ts : List Tok) : Suf ts (portion E ts) := by
  unfold Go.Proofs.YtkhnpmeohjafiaaGreatDoor.portion; split
  · exact (Suf.period E _).up (suf_tail _)
  · exact Suf.ok (List.suffix_refl _)
theorem Suf.names (ts : List Tok) : Suf ts (names E ts) :=
  Suf.bnd (Suf.must E _ ts) fun _ t ht => Suf.bnd ((Suf.sep (Suf.name E) t).up ht) fun _ t2 h2 => Suf.bnd ((Suf.must E _ t2).up h2) fun _ _ h3 => Suf.ok h3
theorem Suf.keysP (ts : List Tok) : Suf ts (keysP E ts) := by
  unfold Go.Proofs.YtkhnpmeohjafiaaGreatDoor.keysP; split
  · exact Suf.bnd ((Suf.must E _ _).up (suf_tail _)) fun _ t ht => (Suf.names t).up ht
  · exact Suf.ok (List.suffix_refl _)
theorem Suf.stmt (ts : List Tok) : Suf ts (stmt E ts) := by
  unfold Go.Proofs.YtkhnpmeohjafiaaGreatDoor.stmt
  split
  · split
    · exact (Suf.bnd (Suf.name E _) fun _ t ht => Suf.bnd ((Suf.must E _ t).up ht) fun _ t2 h2 => Suf.bnd ((Suf.sep (Suf.column E) t2).up h2) fun _ t3 h3 => Suf.bnd ((Suf.must E _ t3).up h3) fun _ t4 h4 => ((Suf.keysP t4).up h4).fin : Suf ts.tail.tail (create E _)).up (suf_tail' (suf_tail _))
    · exact (Suf.bnd (Suf.must E _ _) fun _ t ht => Suf.bnd ((Suf.must E _ t).up ht) fun _ t2 h2 => ((Suf.name E t2).up h2).fin : Suf ts.tail (index E _)).up (suf_tail _)
  split
  · exact (Suf.bnd (Suf.must E _ _) fun _ t ht => Suf.bnd ((Suf.name E t).up ht) fun _ t2 h2 => Suf.bnd ((Suf.must E _ t2).up h2) fun _ t3 h3 => Suf.bnd ((Suf.must E _ t3).up h3) fun _ t4 h4 => Suf.bnd ((Suf.sep (Suf.expr E) t4).up h4) fun _ t5 h5 => Suf.bnd ((Suf.must E _ t5).up h5) fun _ t6 h6 => Suf.bnd ((Suf.must E _ t6).up h6) fun _ t7 h7 => ((Suf.period E t7).up h7).fin : Suf ts.tail (insert E _)).up (suf_tail _)
  split
  · exact (Suf.bnd (Suf.name E _) fun _ t ht => Suf.bnd ((Suf.must E _ t).up ht) fun _ t2 h2 => Suf.bnd ((Suf.sep (Suf.setP E) t2).up h2) fun _ t3 h3 => Suf.bnd ((Suf.portion t3).up h3) fun _ t4 h4 => ((Suf.whereP E t4).up h4).fin : Suf ts.tail (update E _)).up (suf_tail _)
  split
  · exact (Suf.bnd (Suf.must E _ _) fun _ t ht => Suf.bnd ((Suf.name E t).up ht) fun _ t2 h2 => Suf.bnd ((Suf.portion t2).up h2) fun _ t4 h4 => ((Suf.whereP E t4).up h4).fin : Suf ts.tail (delete E _)).up (suf_tail _)
  split
  · exact Suf.ok (suf_tail _)
  · exact Suf.selects ts
end
def PlcOk (E : Nat) (ts : List Tok) : Prop := ∀ t ∈ ts, t.2.2.2 ≤ E
theorem PlcOk.suf {E : Nat} {ts us : List Tok} (h : PlcOk E ts) (hs : us <:+ ts) : PlcOk E us := fun t ht => h t (hs.mem ht)
theorem PlcOk.tail {E : Nat} {ts : List Tok} (h : PlcOk E ts) : PlcOk E ts.tail := h.suf (suf_tail ts)
theorem plc_le {E : Nat} {ts : List Tok} (h : PlcOk E ts) : plc E ts ≤ E := by
  cases ts with
  | nil => exact Nat.le_refl _
  | cons t r => exact h t (by simp)
/-- A fault has a code, and lies within the text. -/
def Ft {α : Type} (E : Nat) (r : Res α) : Prop := ∀ e, r = .error e → e.1 ≠ 0 ∧ e.2 ≤ E
section
variable {α β : Type} {E : Nat} {ts : List Tok}
theorem Ft.ok {x : α} {u : List Tok} : Ft E (.ok (x, u)) := fun _ h => by cases h
theorem Ft.bad {c : Nat} (hc : c ≠ 0) (h : PlcOk E ts) : Ft (α := α) E (bad E c ts) := fun e he => by cases he; exact ⟨hc, plc_le h⟩
theorem Ft.bnd {r : Res α} {k : α → List Tok → Res β} (h : Ft E r) (hs : Suf ts r) (hp : PlcOk E ts) (hk : ∀ x t, PlcOk E t → Ft E (k x t)) : Ft E (bnd r k) := by
  cases r with
  | error e => exact fun e' he => by cases he; exact h e rfl
  | ok q => exact hk q.1 q.2 (hp.suf (hs _ _ rfl))
theorem Ft.fin {r : Res α} {f : α → β} (h : Ft E r) : Ft E (fin f r) := by
  cases r with
  | error e => exact fun e' he => by cases he; exact h e rfl
  | ok q => exact Ft.ok
theorem Ft.must {s : Str} (h : PlcOk E ts) : Ft E (must E s ts) := by
  unfold Go.Proofs.YtkhnpmeohjafiaaGreatDoor.must; split
  · exact Ft.ok
  · exact Ft.bad (by decide) h
theorem Ft.name (h : PlcOk E ts) : Ft E (name E ts) := by
  unfold Go.Proofs.YtkhnpmeohjafiaaGreatDoor.name; split
  · exact Ft.ok
  · exact Ft.bad (by decide) h
theorem Ft.number (h : PlcOk E ts) : Ft E (number E ts) := by
  unfold Go.Proofs.YtkhnpmeohjafiaaGreatDoor.number; split
  · exact Ft.ok
  · exact Ft.bad (by decide) h
theorem Ft.sepL {one : List Tok → Res α} (h : ∀ ts, PlcOk E ts → Ft E (one ts)) (hs : ∀ ts, Suf ts (one ts)) : ∀ (f : Nat) (acc : List α) (ts : List Tok), PlcOk E ts → Ft E (sepL one f acc ts)
  | 0, _, _, _ => Ft.ok
  | f + 1, acc, ts, hp => by
    unfold Go.Proofs.YtkhnpmeohjafiaaGreatDoor.sepL; split
    · exact Ft.bnd (h _ hp.tail) (hs _) hp.tail fun x t ht => Ft.sepL h hs f _ t ht
    · exact Ft.ok
theorem Ft.sep {one : List Tok → Res α} (h : ∀ ts, PlcOk E ts → Ft E (one ts)) (hs : ∀ ts, Suf ts (one ts)) (hp : PlcOk E ts) : Ft E (sep one ts) :=
  Ft.bnd (h ts hp) (hs ts) hp fun x t ht => Ft.sepL h hs _ _ t ht
theorem Ft.chL {read : List Tok → Res Ex} {ops : List Str} (h : ∀ ts, PlcOk E ts → Ft E (read ts)) (hs : ∀ ts, Suf ts (read ts)) : ∀ (f : Nat) (e : Ex) (ts : List Tok), PlcOk E ts → Ft E (chL read ops f e ts)
  | 0, _, _, _ => Ft.ok
  | f + 1, e, ts, hp => by
    unfold Go.Proofs.YtkhnpmeohjafiaaGreatDoor.chL; split
    · exact Ft.bnd (h _ hp.tail) (hs _) hp.tail fun x t ht => Ft.chL h hs f _ t ht
    · exact Ft.ok
theorem Ft.ch {read : List Tok → Res Ex} {ops : List Str} (h : ∀ ts, PlcOk E ts → Ft E (read ts)) (hs : ∀ ts, Suf ts (read ts)) : ∀ ts, PlcOk E ts → Ft E (ch read ops ts) :=
  fun ts hp => Ft.bnd (h ts hp) (hs ts) hp fun x t ht => Ft.chL h hs _ _ t ht
theorem Ft.item (hp : PlcOk E ts) : Ft E (item E ts) := by
  refine Ft.bnd (Ft.name hp) (Suf.name E ts) hp fun n t ht => ?_
  split
  · exact Ft.bnd (Ft.name ht.tail) (Suf.name E _) ht.tail fun _ _ _ => Ft.ok
  · exact Ft.ok
theorem Ft.factorOf {fs es : List Tok → Res Ex} (hf : ∀ ts, PlcOk E ts → Ft E (fs ts)) (he : ∀ ts, PlcOk E ts → Ft E (es ts)) (hs : ∀ ts, Suf ts (es ts)) : ∀ ts, PlcOk E ts → Ft E (factorOf E fs es ts) := by
  intro ts hp
  unfold Go.Proofs.YtkhnpmeohjafiaaGreatDoor.factorOf
  split
  · exact Ft.ok
  split
  · exact Ft.ok
  split
  · exact (hf _ hp.tail).fin
  split
  · exact Ft.bnd (he _ hp.tail) (hs _) hp.tail fun _ t ht => Ft.bnd (Ft.must ht) (Suf.must E _ t) ht fun _ _ _ => Ft.ok
  · exact Ft.item hp
theorem Ft.notOf {fc ns : List Tok → Res Ex} (hf : ∀ ts, PlcOk E ts → Ft E (fc ts)) (hn : ∀ ts, PlcOk E ts → Ft E (ns ts)) (hs : ∀ ts, Suf ts (fc ts)) : ∀ ts, PlcOk E ts → Ft E (notOf fc ns ts) := by
  have h5 : ∀ ts, PlcOk E ts → Ft E (sumOf fc ts) := Ft.ch (Ft.ch hf hs) (Suf.ch hs)
  intro ts hp
  unfold Go.Proofs.YtkhnpmeohjafiaaGreatDoor.notOf; split
  · exact (hn _ hp.tail).fin
  · refine Ft.bnd (h5 ts hp) (Suf.ch (Suf.ch hs) ts) hp fun e t ht => ?_
    split
    · exact (h5 _ ht.tail).fin
    · exact Ft.ok
theorem Ft.exprOf {nt : List Tok → Res Ex} (h : ∀ ts, PlcOk E ts → Ft E (nt ts)) (hs : ∀ ts, Suf ts (nt ts)) : ∀ ts, PlcOk E ts → Ft E (exprOf nt ts) := Ft.ch (Ft.ch h hs) (Suf.ch hs)
theorem Ft.lvOf {fs ns es : List Tok → Res Ex} (hf : ∀ ts, PlcOk E ts → Ft E (fs ts)) (hn : ∀ ts, PlcOk E ts → Ft E (ns ts)) (he : ∀ ts, PlcOk E ts → Ft E (es ts)) (sf : ∀ ts, Suf ts (fs ts)) (sn : ∀ ts, Suf ts (ns ts)) (se : ∀ ts, Suf ts (es ts)) :
    (∀ ts, PlcOk E ts → Ft E ((lvOf E fs ns es).fac ts)) ∧ (∀ ts, PlcOk E ts → Ft E ((lvOf E fs ns es).no ts)) ∧ ∀ ts, PlcOk E ts → Ft E ((lvOf E fs ns es).ex ts) := by
  obtain ⟨s1, s2, s3⟩ := Suf.lvOf (E := E) sf sn se
  have h1 := Ft.factorOf (E := E) hf he se
  have h2 := Ft.notOf (E := E) h1 hn s1
  exact ⟨h1, h2, Ft.exprOf h2 s2⟩
theorem Ft.lv (E : Nat) : ∀ n, (∀ ts, PlcOk E ts → Ft E ((lv E n).fac ts)) ∧ (∀ ts, PlcOk E ts → Ft E ((lv E n).no ts)) ∧ ∀ ts, PlcOk E ts → Ft E ((lv E n).ex ts)
  | 0 => Ft.lvOf (fun _ h => Ft.bad (by decide) h) (fun _ h => Ft.bad (by decide) h) (fun _ h => Ft.bad (by decide) h) (fun _ => Suf.bad) (fun _ => Suf.bad) (fun _ => Suf.bad)
  | n + 1 => Ft.lvOf (Ft.lv E n).1 (Ft.lv E n).2.1 (Ft.lv E n).2.2 (Suf.lv E n).1 (Suf.lv E n).2.1 (Suf.lv E n).2.2
theorem Ft.expr (hp : PlcOk E ts) : Ft E (expr E ts) := (Ft.lv E 32).2.2 ts hp
theorem Ft.period (hp : PlcOk E ts) : Ft E (period E ts) := by
  refine Ft.bnd (Ft.number hp) (Suf.number E ts) hp fun a t ht => Ft.bnd (Ft.must ht) (Suf.must E _ t) ht fun _ t2 h2 => Ft.bnd (ts := t2) ?_ ?_ h2 fun z t3 h3 => ?_
  · split
    · exact Ft.ok
    · exact Ft.number h2
  · split
    · exact Suf.ok (suf_tail _)
    · exact Suf.number E _
  · split
    · exact Ft.bad (by decide) hp
    · exact Ft.ok
theorem Ft.whereP (hp : PlcOk E ts) : Ft E (whereP E ts) := by
  unfold Go.Proofs.YtkhnpmeohjafiaaGreatDoor.whereP; split
  · exact (Ft.expr hp.tail).fin
  · exact Ft.ok
theorem Ft.names (hp : PlcOk E ts) : Ft E (names E ts) :=
  Ft.bnd (Ft.must hp) (Suf.must E _ ts) hp fun _ t ht => Ft.bnd (Ft.sep (fun _ h => Ft.name h) (Suf.name E) ht) (Suf.sep (Suf.name E) t) ht fun _ t2 h2 => Ft.bnd (Ft.must h2) (Suf.must E _ t2) h2 fun _ _ _ => Ft.ok
theorem Ft.column (hp : PlcOk E ts) : Ft E (column E ts) := by
  refine Ft.bnd (Ft.name hp) (Suf.name E ts) hp fun n t ht => ?_
  split
  · exact Ft.ok
  · exact Ft.bnd (Ft.must ht) (Suf.must E _ t) ht fun _ _ _ => Ft.ok
theorem Ft.setP (hp : PlcOk E ts) : Ft E (setP E ts) :=
  Ft.bnd (Ft.name hp) (Suf.name E ts) hp fun _ t ht => Ft.bnd (Ft.must ht) (Suf.must E _ t) ht fun _ t2 h2 => (Ft.expr h2).fin
theorem Ft.asked {q : Qu} (hp : PlcOk E ts) : Ft E (asked E q ts) := by
  unfold Go.Proofs.YtkhnpmeohjafiaaGreatDoor.asked
  split
  · exact Ft.ok
  split
  · exact Ft.ok
  split
  · exact (Ft.name hp.tail).fin
  · exact (Ft.sep (fun _ h => Ft.item h) (Suf.item E) hp).fin
theorem Ft.tablesP (hp : PlcOk E ts) : Ft E (tablesP E ts) := by
  refine Ft.bnd (Ft.name hp) (Suf.name E ts) hp fun n t ht => ?_
  split
  · exact (Ft.name ht.tail).fin
  · exact Ft.ok
theorem Ft.query (hp : PlcOk E ts) : Ft E (query E ts) := by
  refine Ft.bnd (Ft.must hp) (Suf.must E _ ts) hp fun _ t ht => ?_
  have hu : PlcOk E (if isT [67, 79, 65, 76, 69, 83, 67, 69] t then t.tail else t) := by split; exact ht.tail; exact ht
  exact Ft.bnd (Ft.asked hu) (Suf.asked E _ _) hu fun _ t2 h2 => Ft.bnd (Ft.must h2) (Suf.must E _ t2) h2 fun _ t3 h3 => Ft.bnd (Ft.tablesP h3) (Suf.tablesP E t3) h3 fun _ t4 h4 => (Ft.whereP h4).fin
theorem Ft.moreL : ∀ (f : Nat) (o : List Str) (q : List Qu) (ts : List Tok), PlcOk E ts → Ft E (moreL E f o q ts)
  | 0, _, _, _, _ => Ft.ok
  | f + 1, o, q, ts, hp => by
    unfold Go.Proofs.YtkhnpmeohjafiaaGreatDoor.moreL; split
    · exact Ft.bnd (Ft.query hp.tail) (Suf.query E _) hp.tail fun x t ht => Ft.moreL f _ _ t ht
    · exact Ft.ok
theorem Ft.asOfP (hp : PlcOk E ts) : Ft E (asOfP E ts) := by
  unfold Go.Proofs.YtkhnpmeohjafiaaGreatDoor.asOfP; split
  · exact Ft.bnd (Ft.must hp.tail) (Suf.must E _ _) hp.tail fun _ t ht => (Ft.number ht).fin
  · exact Ft.ok
theorem Ft.duringP (hp : PlcOk E ts) : Ft E (duringP E ts) := by
  unfold Go.Proofs.YtkhnpmeohjafiaaGreatDoor.duringP; split
  · split
    · exact Ft.bad (by decide) hp.tail
    · exact (Ft.number hp.tail).fin
  · split
    · exact (Ft.period hp.tail).fin
    · exact Ft.ok
theorem Ft.orderP (hp : PlcOk E ts) : Ft E (orderP E ts) := by
  unfold Go.Proofs.YtkhnpmeohjafiaaGreatDoor.orderP; split
  · exact Ft.bnd (Ft.must hp.tail) (Suf.must E _ _) hp.tail fun _ t ht => Ft.sep (fun _ h => Ft.name h) (Suf.name E) ht
  · exact Ft.ok
theorem Ft.selects (hp : PlcOk E ts) : Ft E (selects E ts) :=
  Ft.bnd (Ft.query hp) (Suf.query E ts) hp fun _ t ht => Ft.bnd (Ft.moreL _ _ _ t ht) (Suf.moreL _ _ _ t) ht fun _ t2 h2 => Ft.bnd (Ft.asOfP h2) (Suf.asOfP t2) h2 fun _ t3 h3 => Ft.bnd (Ft.duringP h3) (Suf.duringP t3) h3 fun _ t4 h4 => (Ft.orderP h4).fin
theorem Ft.portion (hp : PlcOk E ts) : Ft E (portion E ts) := by
  unfold Go.Proofs.YtkhnpmeohjafiaaGreatDoor.portion; split
  · exact Ft.period hp.tail
  · exact Ft.ok
theorem Ft.keysP (hp : PlcOk E ts) : Ft E (keysP E ts) := by
  unfold Go.Proofs.YtkhnpmeohjafiaaGreatDoor.keysP; split
  · exact Ft.bnd (Ft.must hp.tail) (Suf.must E _ _) hp.tail fun _ t ht => Ft.names ht
  · exact Ft.ok
theorem Ft.create (hp : PlcOk E ts) : Ft E (create E ts) :=
  Ft.bnd (Ft.name hp) (Suf.name E ts) hp fun _ t ht => Ft.bnd (Ft.must ht) (Suf.must E _ t) ht fun _ t2 h2 => Ft.bnd (Ft.sep (fun _ h => Ft.column h) (Suf.column E) h2) (Suf.sep (Suf.column E) t2) h2 fun _ t3 h3 => Ft.bnd (Ft.must h3) (Suf.must E _ t3) h3 fun _ t4 h4 => (Ft.keysP h4).fin
theorem Ft.index (hp : PlcOk E ts) : Ft E (index E ts) :=
  Ft.bnd (Ft.must hp) (Suf.must E _ ts) hp fun _ t ht => Ft.bnd (Ft.must ht) (Suf.must E _ t) ht fun _ t2 h2 => (Ft.name h2).fin
theorem Ft.insert (hp : PlcOk E ts) : Ft E (insert E ts) :=
  Ft.bnd (Ft.must hp) (Suf.must E _ ts) hp fun _ t ht => Ft.bnd (Ft.name ht) (Suf.name E t) ht fun _ t2 h2 => Ft.bnd (Ft.must h2) (Suf.must E _ t2) h2 fun _ t3 h3 => Ft.bnd (Ft.must h3) (Suf.must E _ t3) h3 fun _ t4 h4 =>
    Ft.bnd (Ft.sep (fun _ h => Ft.expr h) (Suf.expr E) h4) (Suf.sep (Suf.expr E) t4) h4 fun _ t5 h5 => Ft.bnd (Ft.must h5) (Suf.must E _ t5) h5 fun _ t6 h6 => Ft.bnd (Ft.must h6) (Suf.must E _ t6) h6 fun _ t7 h7 => (Ft.period h7).fin
theorem Ft.update (hp : PlcOk E ts) : Ft E (update E ts) :=
  Ft.bnd (Ft.name hp) (Suf.name E ts) hp fun _ t ht => Ft.bnd (Ft.must ht) (Suf.must E _ t) ht fun _ t2 h2 => Ft.bnd (Ft.sep (fun _ h => Ft.setP h) (Suf.setP E) h2) (Suf.sep (Suf.setP E) t2) h2 fun _ t3 h3 => Ft.bnd (Ft.portion h3) (Suf.portion t3) h3 fun _ t4 h4 => (Ft.whereP h4).fin
theorem Ft.delete (hp : PlcOk E ts) : Ft E (delete E ts) :=
  Ft.bnd (Ft.must hp) (Suf.must E _ ts) hp fun _ t ht => Ft.bnd (Ft.name ht) (Suf.name E t) ht fun _ t2 h2 => Ft.bnd (Ft.portion h2) (Suf.portion t2) h2 fun _ t4 h4 => (Ft.whereP h4).fin
theorem Ft.stmt (hp : PlcOk E ts) : Ft E (stmt E ts) := by
  unfold Go.Proofs.YtkhnpmeohjafiaaGreatDoor.stmt
  split
  · split
    · exact Ft.create hp.tail.tail
    · exact Ft.index hp.tail
  split
  · exact Ft.insert hp.tail
  split
  · exact Ft.update hp.tail
  split
  · exact Ft.delete hp.tail
  split
  · exact Ft.ok
  · exact Ft.selects hp
theorem Ft.whole (hp : PlcOk E ts) : Ft E (whole E ts) := by
  refine Ft.bnd (Ft.stmt hp) (Suf.stmt ts) hp fun x t ht => ?_
  by_cases hc : (if isT [59] t then t.tail else t) = []
  · rw [if_pos hc]; exact Ft.ok
  · rw [if_neg hc]
    refine Ft.bad (by decide) ?_
    split
    · exact ht.tail
    · exact ht
end
/-- A fault of a text: it has a code, and lies within the text. -/
theorem parse_fault {l : List UInt8} {f : Nat × Nat} (h : parseOf l = .inl f) : f.1 ≠ 0 ∧ f.2 ≤ l.length := by
  unfold parseOf at h
  cases hl : lexOf l with
  | inl g =>
    rw [hl] at h
    cases h
    have := lexOf_place hl
    exact ⟨this.2, this.1⟩
  | inr ts =>
    rw [hl] at h
    simp only at h
    cases hw : whole l.length ts with
    | error e => rw [hw] at h; cases h; exact Ft.whole (lexOf_ok hl).2 _ hw
    | ok p => rw [hw] at h; obtain ⟨y, t⟩ := p; cases h
end Go.Proofs.YtkhnpmeohjafiaaGreatDoor
namespace Go.Proofs.YtkhnpmeohjafiaaGreatDoor

/-- A byte that ends any piece. -/
def dlB (y : UInt8) : Prop := isW y = false ∧ y ≠ 39 ∧ y ≠ 61 ∧ y ≠ 62
theorem sgn_dl {x y : UInt8} (hy : dlB y) (r b : List UInt8) : sgn x (r ++ y :: b) = sgn x r := by
  cases r with
  | nil =>
    simp only [List.nil_append]
    unfold sgn
    simp only
    rw [if_neg]
    rintro (⟨_, h | h⟩ | ⟨_, h⟩)
    · exact hy.2.2.2 h
    · exact hy.2.2.1 h
    · exact hy.2.2.1 h
  | cons z r => rfl
theorem quo_none_app {b : List UInt8} (hb : (39 : UInt8) ∉ b) : ∀ l : List UInt8, quo l = none → quo (l ++ b) = none
  | [], _ => by
    rw [List.nil_append]
    induction b with
    | nil => rfl
    | cons x r ih =>
      have hx : x ≠ 39 := by rintro rfl; simp at hb
      rw [quo.eq_def]
      simp only [if_neg hx]
      rw [ih (fun h => hb (List.mem_cons_of_mem _ h))]
      rfl
  | [x], h => by
    rw [quo.eq_def] at h
    simp only at h
    split at h
    · simp at h
    · rename_i hx
      have := quo_none_app hb [] rfl
      rw [List.nil_append] at this
      rw [List.cons_append, List.nil_append, quo.eq_def]
      simp only [if_neg hx, this]
      rfl
  | x :: z :: r, h => by
    rw [quo.eq_def] at h
    simp only at h
    rw [List.cons_append, List.cons_append, quo.eq_def]
    simp only
    split at h
    · rename_i hx
      rw [if_pos hx]
      split at h
      · rename_i hz
        rw [if_pos hz]
        cases hq : quo r with
        | none => rw [quo_none_app hb r hq]; rfl
        | some q => rw [hq] at h; simp at h
      · simp at h
    · rename_i hx
      rw [if_neg hx]
      cases hq : quo (z :: r) with
      | none => rw [← List.cons_append, quo_none_app hb (z :: r) hq]; rfl
      | some q => rw [hq] at h; simp at h
theorem one_dl {y : UInt8} (hy : dlB y) (b : List UInt8) {l : List UInt8} {z : Nat × List UInt8 × Nat × Nat} (h : one l = some z) : one (l ++ y :: b) = some z := by
  have h3 := hy.1
  have h1 := isL_of_W h3
  have h2 := isD_of_W h3
  cases l with
  | nil => simp [one] at h
  | cons x r =>
    rw [List.cons_append]
    rw [one_cons] at h ⊢
    split at h
    · rename_i hx
      rw [if_pos hx, ← List.cons_append, takeWhile_blank h3]; exact h
    · rename_i hx
      rw [if_neg hx]
      split at h
      · rename_i hd
        rw [if_pos hd, ← List.cons_append, takeWhile_blank h2, dropWhile_blank h2]
        split at h
        · rename_i hc
          rw [if_pos ⟨hc.1, headL_blank h1 hc.2⟩]; exact h
        · cases h
      · rename_i hd
        rw [if_neg hd]
        split at h
        · rename_i hq
          rw [if_pos hq]
          cases hr : quo r with
          | none => rw [hr] at h; simp at h
          | some q => rw [quo_blank hy.2.1 b r q.1 q.2 hr]; rw [hr] at h; exact h
        · rename_i hq
          rw [if_neg hq, sgn_dl hy]; exact h
theorem one_dl_none {y : UInt8} (hy : dlB y) {b : List UInt8} (hb : (39 : UInt8) ∉ y :: b) {x : UInt8} {r : List UInt8} (h : one (x :: r) = none) : one (x :: r ++ y :: b) = none := by
  have h3 := hy.1
  have h1 := isL_of_W h3
  have h2 := isD_of_W h3
  rw [List.cons_append]
  rw [one_cons] at h ⊢
  split at h
  · cases h
  · rename_i hx
    rw [if_neg hx]
    split at h
    · rename_i hd
      rw [if_pos hd, ← List.cons_append, takeWhile_blank h2, dropWhile_blank h2]
      split at h
      · cases h
      · rename_i hc
        rw [if_neg]
        rintro ⟨k1, k2⟩
        refine hc ⟨k1, ?_⟩
        cases hdw : (x :: r).dropWhile isD with
        | nil => rfl
        | cons u v => rw [hdw] at k2; exact k2
    · rename_i hd
      rw [if_neg hd]
      split at h
      · rename_i hq
        rw [if_pos hq]
        cases hr : quo r with
        | none => rw [quo_none_app hb r hr]; rfl
        | some q => rw [hr] at h; simp at h
      · rename_i hq
        rw [if_neg hq, sgn_dl hy]; exact h
/-- A text whose tokens are right, then a byte that ends any piece. -/
theorem tk_dl {y : UInt8} (hy : dlB y) (b : List UInt8) : ∀ (n : Nat) (l : List UInt8) (p : Nat) (ts : List Tok), l.length ≤ n → tk p l = .inr ts → tk p (l ++ y :: b) = appR ts (tk (p + l.length) (y :: b))
  | _, [], p, ts, hn, h => by
    rw [tk_nil] at h
    cases h
    rw [appR_nil, List.nil_append]; rfl
  | 0, x :: r, p, ts, hn, h => by simp at hn
  | n + 1, x :: r, p, ts, hn, h => by
    simp only [List.length_cons] at hn
    cases hb : isB x with
    | true =>
      rw [tk_blank hb] at h
      rw [List.cons_append, tk_blank hb, tk_dl hy b n r _ ts (by omega) h]
      congr 2
      simp; omega
    | false =>
      cases ho : one (x :: r) with
      | none => rw [tk_none hb ho] at h; cases h
      | some q =>
        obtain ⟨k, t, m, len⟩ := q
        have hle := one_le ho
        rw [tk_some ho] at h
        have ho' := one_dl hy b ho
        rw [List.cons_append] at ho' ⊢
        rw [tk_some ho']
        cases hq : tk (p + len) ((x :: r).drop len) with
        | inl e => rw [hq] at h; cases h
        | inr us =>
          rw [hq] at h
          cases h
          have hd : (x :: (r ++ y :: b)).drop len = (x :: r).drop len ++ y :: b := by
            rw [← List.cons_append, List.drop_append_of_le_length (by simpa using hle.2)]
          have hlen : ((x :: r).drop len).length ≤ n := by rw [List.length_drop, List.length_cons]; omega
          rw [hd, tk_dl hy b n _ _ us hlen hq, appR_cons]
          congr 3
          rw [List.length_drop]
          simp at hle ⊢
          omega
theorem tk_dl_bad {y : UInt8} (hy : dlB y) {b : List UInt8} (hb39 : (39 : UInt8) ∉ y :: b) : ∀ (n : Nat) (l : List UInt8) (p q : Nat), l.length ≤ n → tk p l = .inl q → tk p (l ++ y :: b) = .inl q
  | _, [], p, q, hn, h => by rw [tk_nil] at h; cases h
  | 0, x :: r, p, q, hn, h => by simp at hn
  | n + 1, x :: r, p, q, hn, h => by
    simp only [List.length_cons] at hn
    cases hb : isB x with
    | true =>
      rw [tk_blank hb] at h
      rw [List.cons_append, tk_blank hb]
      exact tk_dl_bad hy hb39 n r _ q (by omega) h
    | false =>
      cases ho : one (x :: r) with
      | none =>
        have ho' := one_dl_none hy hb39 ho
        rw [tk_none hb ho] at h
        rw [List.cons_append] at ho' ⊢
        rw [tk_none hb ho']
        exact h
      | some z =>
        obtain ⟨k, t, m, len⟩ := z
        have hle := one_le ho
        rw [tk_some ho] at h
        have ho' := one_dl hy b ho
        rw [List.cons_append] at ho' ⊢
        rw [tk_some ho']
        have hd : (x :: (r ++ y :: b)).drop len = (x :: r).drop len ++ y :: b := by
          rw [← List.cons_append, List.drop_append_of_le_length (by simpa using hle.2)]
        have hlen : ((x :: r).drop len).length ≤ n := by rw [List.length_drop, List.length_cons]; omega
        rw [hd]
        cases hq : tk (p + len) ((x :: r).drop len) with
        | inl e =>
          rw [hq] at h
          cases h
          rw [tk_dl_bad hy hb39 n _ _ _ hlen hq]; rfl
        | inr us => rw [hq] at h; cases h
theorem appR_app (xs ys : List Tok) (R : Nat ⊕ List Tok) : appR xs (appR ys R) = appR (xs ++ ys) R := by cases R <;> simp [appR]
theorem tk_strip {p q : Nat} {l : List UInt8} {ts : List Tok} (h : tk p l = .inr ts) : ∃ us, tk q l = .inr us ∧ us.map strip = ts.map strip := by
  have h0 : ∀ d, tk (0 + d) l = shiftR d (tk 0 l) := fun d => tk_shift d 0 l
  have hp := h0 p
  have hq := h0 q
  rw [Nat.zero_add] at hp hq
  rw [h] at hp
  cases hz : tk 0 l with
  | inl e => rw [hz] at hp; cases hp
  | inr zs =>
    rw [hz] at hp hq
    cases hp
    refine ⟨_, hq, ?_⟩
    rw [List.map_map, List.map_map]
    rfl

/-! ### In capitals -/
/-- A text in capitals, but for what stands in quotes. -/
def capL : Bool → List UInt8 → List UInt8
  | _, [] => []
  | q, x :: r => if x = 39 then 39 :: capL (!q) r else (if q then x else up x) :: capL q r
theorem capL_len : ∀ (q : Bool) (l : List UInt8), (capL q l).length = l.length
  | _, [] => rfl
  | q, x :: r => by
    simp only [capL]
    split <;> simp [capL_len]
theorem up_fact : ∀ n : Fin 256, (UInt8.ofNat n.val ≠ 39 → up (UInt8.ofNat n.val) ≠ 39) ∧ (isL (UInt8.ofNat n.val) = false → up (UInt8.ofNat n.val) = UInt8.ofNat n.val) ∧ (up (UInt8.ofNat n.val) = 62 ↔ UInt8.ofNat n.val = 62) ∧ (up (UInt8.ofNat n.val) = 61 ↔ UInt8.ofNat n.val = 61) ∧ isB (up (UInt8.ofNat n.val)) = isB (UInt8.ofNat n.val) := by decide +kernel
theorem up_f (x : UInt8) : (x ≠ 39 → up x ≠ 39) ∧ (isL x = false → up x = x) ∧ (up x = 62 ↔ x = 62) ∧ (up x = 61 ↔ x = 61) ∧ isB (up x) = isB x := by
  have := up_fact ⟨x.toNat, x.toNat_lt⟩
  simpa using this
theorem up_W (x : UInt8) : isW (up x) = isW x := by simp only [isW, (up_up x).2.1, (up_up x).2.2]
theorem cap39 (q : Bool) (r : List UInt8) : capL q (39 :: r) = 39 :: capL (!q) r := by simp [capL]
theorem capF {x : UInt8} (h : x ≠ 39) (r : List UInt8) : capL false (x :: r) = up x :: capL false r := by simp [capL, h]
theorem capT {x : UInt8} (h : x ≠ 39) (r : List UInt8) : capL true (x :: r) = x :: capL true r := by simp [capL, h]
theorem tw_cap {p : UInt8 → Bool} (hp : p 39 = false) (hu : ∀ x, p (up x) = p x) : ∀ l : List UInt8, (capL false l).takeWhile p = (l.takeWhile p).map up ∧ (capL false l).drop (l.takeWhile p).length = capL false (l.drop (l.takeWhile p).length)
  | [] => ⟨rfl, rfl⟩
  | x :: r => by
    obtain ⟨h1, h2⟩ := tw_cap hp hu r
    by_cases hx : x = 39
    · subst hx
      rw [cap39, List.takeWhile_cons, List.takeWhile_cons, hp]
      simp [cap39]
    · rw [capF hx, List.takeWhile_cons, List.takeWhile_cons, hu]
      cases hpx : p x
      · simp [capF hx]
      · simp only [if_true, List.length_cons, List.drop_succ_cons, List.map_cons, h1, h2, and_self]
theorem headL_cap (l : List UInt8) : headL (capL false l) = headL l := by
  cases l with
  | nil => rfl
  | cons x r =>
    by_cases hx : x = 39
    · subst hx; rw [cap39]; rfl
    · rw [capF hx]; exact (up_up x).2.1
theorem dropWhile_drop {p : UInt8 → Bool} (l : List UInt8) : l.dropWhile p = l.drop (l.takeWhile p).length := by
  induction l with
  | nil => rfl
  | cons x r ih =>
    rw [List.dropWhile_cons, List.takeWhile_cons]
    cases p x <;> simp [ih]
theorem quo_cap : ∀ r : List UInt8, quo (capL true r) = quo r ∧ ∀ t m, quo r = some (t, m) → (capL true r).drop m = capL false (r.drop m)
  | [] => ⟨rfl, fun t m h => by simp [quo] at h⟩
  | [x] => by
    by_cases hx : x = 39
    · subst hx
      refine ⟨rfl, fun t m h => ?_⟩
      simp [quo] at h
      obtain ⟨-, rfl⟩ := h
      rfl
    · rw [capT hx]
      refine ⟨rfl, fun t m h => ?_⟩
      simp [quo, hx] at h
  | x :: y :: r => by
    by_cases hx : x = 39
    · subst hx
      by_cases hy : y = 39
      · subst hy
        obtain ⟨h1, h2⟩ := quo_cap r
        have e : capL true (39 :: 39 :: r) = 39 :: 39 :: capL true r := by rw [cap39, Bool.not_true, cap39]; rfl
        have q1 : ∀ z : List UInt8, quo (39 :: 39 :: z) = (quo z).map (fun q => (39 :: q.1, q.2 + 2)) := fun z => by rw [quo.eq_def]; simp
        rw [e, q1, q1, h1]
        refine ⟨rfl, fun t m h => ?_⟩
        cases hq : quo r with
        | none => rw [hq] at h; simp at h
        | some q =>
          rw [hq] at h
          simp at h
          obtain ⟨-, rfl⟩ := h
          have := h2 q.1 q.2 hq
          simpa using this
      · have e : capL true (39 :: y :: r) = 39 :: up y :: capL false r := by rw [cap39, Bool.not_true, capF hy]
        have q1 : ∀ (u : UInt8) (z : List UInt8), u ≠ 39 → quo (39 :: u :: z) = some ([], 1) := fun u z hu => by rw [quo.eq_def]; simp [hu]
        rw [e, q1 _ _ ((up_f y).1 hy), q1 _ _ hy]
        refine ⟨rfl, fun t m h => ?_⟩
        cases h
        simp [capF hy]
    · obtain ⟨h1, h2⟩ := quo_cap (y :: r)
      have q1 : ∀ z : List UInt8, quo (x :: z) = (quo z).map (fun q => (x :: q.1, q.2 + 1)) := fun z => by rw [quo.eq_def]; simp [hx]
      rw [capT hx, q1, q1, h1]
      refine ⟨rfl, fun t m h => ?_⟩
      cases hq : quo (y :: r) with
      | none => rw [hq] at h; simp at h
      | some q =>
        rw [hq] at h
        simp at h
        obtain ⟨-, rfl⟩ := h
        have := h2 q.1 q.2 hq
        simpa using this
theorem digit_up {x : UInt8} (h : isD x = true) : up x = x := by
  have hl : isL x = false := by
    cases hh : isL x with
    | false => rfl
    | true => rw [isL_d hh] at h; cases h
  exact (up_f x).2.1 hl
theorem one_cap (x : UInt8) (r : List UInt8) : one (capL false (x :: r)) = one (x :: r) ∧ ∀ k t m len, one (x :: r) = some (k, t, m, len) → (capL false (x :: r)).drop len = capL false ((x :: r).drop len) := by
  obtain ⟨w1, w2⟩ := tw_cap (p := isW) (by decide) up_W (x :: r)
  obtain ⟨d1, d2⟩ := tw_cap (p := isD) (by decide) (fun x => (up_up x).2.2) (x :: r)
  by_cases hx : x = 39
  · subst hx
    obtain ⟨q1, q2⟩ := quo_cap r
    have e : ∀ z : List UInt8, one (39 :: z) = (quo z).map (fun q => (3, q.1, 0, q.2 + 1)) := fun z => by rw [one_cons]; simp [isL, isD]
    rw [cap39, Bool.not_false, e, e, q1]
    refine ⟨rfl, fun k t m len h => ?_⟩
    cases hq : quo r with
    | none => rw [hq] at h; simp at h
    | some q =>
      rw [hq] at h
      simp at h
      obtain ⟨-, -, -, rfl⟩ := h
      have := q2 q.1 q.2 hq
      simpa using this
  · have hc := capF hx r
    rw [one_cons x r]
    by_cases hl : isL x = true
    · have e : one (capL false (x :: r)) = some (1, ((capL false (x :: r)).takeWhile isW).map up, 0, ((capL false (x :: r)).takeWhile isW).length) := by
        rw [hc, one_cons, if_pos (by rw [(up_up x).2.1]; exact hl)]
      rw [e, if_pos hl, w1]
      refine ⟨?_, fun k t m len h => ?_⟩
      · rw [List.map_map, List.length_map]
        congr 3
        exact List.map_congr_left fun y _ => (up_up y).1
      · simp only [Option.some.injEq, Prod.mk.injEq] at h
        obtain ⟨-, -, -, rfl⟩ := h
        exact w2
    · have hl' : isL x = false := by simpa using hl
      have hu : up x = x := (up_f x).2.1 hl'
      rw [if_neg hl]
      by_cases hd : isD x = true
      · rw [if_pos hd]
        have dm : ((x :: r).takeWhile isD).map up = (x :: r).takeWhile isD := by
          have : ∀ y ∈ (x :: r).takeWhile isD, up y = y := fun y hy => digit_up (mem_takeWhile hy)
          rw [List.map_congr_left this, List.map_id']
        rw [dm] at d1
        have e : one (capL false (x :: r)) = if ((capL false (x :: r)).takeWhile isD).length ≤ 18 ∧ headL ((capL false (x :: r)).dropWhile isD) = false then some (2, [], val ((capL false (x :: r)).takeWhile isD), ((capL false (x :: r)).takeWhile isD).length) else none := by
          rw [hc, one_cons, hu, if_neg hl, if_pos hd]
        have dd : headL ((capL false (x :: r)).dropWhile isD) = headL ((x :: r).dropWhile isD) := by
          rw [dropWhile_drop, dropWhile_drop, d1, d2, headL_cap]
        rw [e, dd, d1]
        refine ⟨rfl, fun k t m len h => ?_⟩
        split at h
        · simp only [Option.some.injEq, Prod.mk.injEq] at h
          obtain ⟨-, -, -, rfl⟩ := h
          exact d2
        · cases h
      · rw [if_neg hd, if_neg hx]
        have hs : sgn x (capL false r) = sgn x r := by
          cases r with
          | nil => rfl
          | cons y r =>
            by_cases hy : y = 39
            · subst hy; rw [cap39]; rfl
            · rw [capF hy]
              unfold sgn
              simp only [(up_f y).2.2.1, (up_f y).2.2.2.1]
              by_cases hyy : y = 62 ∨ y = 61
              · have : up y = y := (up_f y).2.1 (by rcases hyy with rfl | rfl <;> decide)
                rw [this]
              · have h1 : ¬ (x = 60 ∧ (y = 62 ∨ y = 61) ∨ x = 62 ∧ y = 61) := by
                  rintro (⟨_, h⟩ | ⟨_, h⟩)
                  · exact hyy h
                  · exact hyy (.inr h)
                rw [if_neg h1, if_neg h1]
        have e : one (capL false (x :: r)) = (sgn x (capL false r)).map (fun s => (4, s, 0, s.length)) := by
          rw [hc, one_cons, hu, if_neg hl, if_neg hd, if_neg hx]
        rw [e, hs]
        refine ⟨rfl, fun k t m len h => ?_⟩
        cases hq : sgn x r with
        | none => rw [hq] at h; simp at h
        | some z =>
          rw [hq] at h
          simp at h
          obtain ⟨-, -, -, rfl⟩ := h
          rw [hc]
          cases r with
          | nil =>
            have := sgn_le hq
            simp at this
            have hz : z.length = 1 := by omega
            rw [hz]; rfl
          | cons y r =>
            unfold sgn sgnOne at hq
            simp only at hq
            split at hq
            · rename_i hy
              cases hq
              have hy39 : y ≠ 39 := by rintro rfl; simp at hy
              rw [capF hy39]; rfl
            · split at hq
              · cases hq; rfl
              · cases hq
theorem tk_cap : ∀ (n : Nat) (l : List UInt8) (p : Nat), l.length ≤ n → tk p (capL false l) = tk p l
  | _, [], p, _ => rfl
  | 0, x :: r, p, h => by simp at h
  | n + 1, x :: r, p, h => by
    simp only [List.length_cons] at h
    cases hb : isB x with
    | true =>
      have hx := isB_ne hb
      rw [capF hx, tk_blank hb, tk_blank (by rw [(up_f x).2.2.2.2]; exact hb)]
      exact tk_cap n r _ (by omega)
    | false =>
      obtain ⟨h1, h2⟩ := one_cap x r
      have hc : ∃ y s, capL false (x :: r) = y :: s ∧ isB y = false := by
        by_cases hx : x = 39
        · subst hx; exact ⟨_, _, cap39 _ _, by decide⟩
        · exact ⟨_, _, capF hx r, by rw [(up_f x).2.2.2.2]; exact hb⟩
      obtain ⟨y, s, hys, hyb⟩ := hc
      cases ho : one (x :: r) with
      | none =>
        rw [tk_none hb ho]
        rw [hys, ho] at h1
        rw [hys, tk_none hyb h1]
      | some z =>
        obtain ⟨k, t, m, len⟩ := z
        have hle := one_le ho
        have h3 := h2 k t m len ho
        rw [hys, ho] at h1
        rw [hys] at h3
        rw [tk_some ho, hys, tk_some h1, h3, tk_cap n _ _ (by rw [List.length_drop, List.length_cons]; omega)]
theorem lexOf_cap (l : List UInt8) : lexOf (capL false l) = lexOf l := by
  unfold lexOf
  rw [capL_len, tk_cap l.length l 0 (Nat.le_refl _)]
/-- A text in capitals has the same statement. -/
theorem parse_cap (l : List UInt8) : parseOf (capL false l) = parseOf l := by
  unfold parseOf
  rw [lexOf_cap, capL_len]
end Go.Proofs.YtkhnpmeohjafiaaGreatDoor
