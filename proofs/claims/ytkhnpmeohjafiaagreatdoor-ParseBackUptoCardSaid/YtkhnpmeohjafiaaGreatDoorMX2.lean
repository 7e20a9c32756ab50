/- A statement's text as pieces, and how it reads back: plain law. No program is named here. A statement's pieces read back as the statement: plain law. No program is named here. -/
import Derived.Test.YtkhnpmeohjafiaaGreatDoorMG
namespace Go.Proofs.YtkhnpmeohjafiaaGreatDoor

section
variable {E : Nat}
/-! ### Readers -/
def LQ : List Str := [44] :: [87, 72, 69, 82, 69] :: SKL
def LM : List Str := LQ ++ [[85, 78, 73, 79, 78], [69, 88, 67, 69, 80, 84]]
def LD : List Str := LM ++ [[65, 83], [65, 84], [68, 85, 82, 73, 78, 71]]
def LO : List Str := LD ++ [[79, 82, 68, 69, 82]]
theorem tabRds {l : List Str} (h : TabOk l) : Rds (tablesP E) (namesP l) l [[44]] := by
  obtain ⟨h1, h2, h3⟩ := h
  match l, h1, h2, h3 with
  | [n], _, _, h3 =>
    refine Rds.bnd (l := [.word n]) (m := []) (Rds.name (h3 n (by simp))) (k := fun n r => if isT [44] r then Go.Proofs.YtkhnpmeohjafiaaGreatDoor.fin (fun m => [n, m]) (Go.Proofs.YtkhnpmeohjafiaaGreatDoor.name E r.tail) else .ok ([n], r)) ?_ (Hd.no _ _)
    exact Rds.ifF (t := fun r => Go.Proofs.YtkhnpmeohjafiaaGreatDoor.fin (fun m => [n, m]) (Go.Proofs.YtkhnpmeohjafiaaGreatDoor.name E r.tail)) (Hd.nil (by simp)) ((Rds.ok _).mono (by simp))
  | [n, m], _, _, h3 =>
    refine Rds.bnd (l := [.word n]) (m := [.sig [44], .gap [32], .word m]) (Rds.name (h3 n (by simp))) (k := fun n r => if isT [44] r then Go.Proofs.YtkhnpmeohjafiaaGreatDoor.fin (fun m => [n, m]) (Go.Proofs.YtkhnpmeohjafiaaGreatDoor.name E r.tail) else .ok ([n], r)) ?_ (Hd.no _ _)
    exact Rds.ifT (n := (4, [44], 0)) (t := fun r => Go.Proofs.YtkhnpmeohjafiaaGreatDoor.fin (fun m => [n, m]) (Go.Proofs.YtkhnpmeohjafiaaGreatDoor.name E r)) rfl (by decide) (Rds.gap ((Rds.fin (Rds.name (h3 m (by simp)))).mono (by simp)))
theorem askRds {q : Qu} (h : WfQ q) : Rds (asked E { Qu.none with coalesce := q.coalesce }) (askP q) { q with tables := [], cond := [] } [[44], [46]] := by
  have sh : asked E { Qu.none with coalesce := q.coalesce } = fun ts => if isT [42] ts then (fun r => .ok ({ Qu.none with coalesce := q.coalesce, all := true }, r)) ts.tail else
      (fun ts => if isT [67, 79, 85, 78, 84] ts then (fun r => .ok ({ Qu.none with coalesce := q.coalesce, count := true }, r)) ts.tail else
      (fun ts => if isT [83, 85, 77] ts then (fun r => Go.Proofs.YtkhnpmeohjafiaaGreatDoor.fin (fun s => { Qu.none with coalesce := q.coalesce, sum := s }) (Go.Proofs.YtkhnpmeohjafiaaGreatDoor.name E r)) ts.tail else Go.Proofs.YtkhnpmeohjafiaaGreatDoor.fin (fun l => { Qu.none with coalesce := q.coalesce, items := l }) (Go.Proofs.YtkhnpmeohjafiaaGreatDoor.sep (Go.Proofs.YtkhnpmeohjafiaaGreatDoor.item E) ts)) ts) ts := rfl
  rw [sh]
  cases h with
  | all c t w => exact (Rds.ifT (n := (4, [42], 0)) rfl (by decide) (Rds.ok _)).mono (by simp)
  | count c t w =>
    refine Rds.ifF (s := [42]) (Hd.tok (a := .word [67, 79, 85, 78, 84]) (b := (1, [67, 79, 85, 78, 84], 0)) rfl (by decide)) ?_
    exact (Rds.ifT (n := (1, [67, 79, 85, 78, 84], 0)) rfl (by decide) (Rds.ok _)).mono (by simp)
  | sum c s t w h =>
    have hne : s ≠ [] := by rintro rfl; exact absurd h.1.1 (by decide)
    have hp : askP ⟨c, false, false, s, [], t, w⟩ = [.word [83, 85, 77], .gap [32], .word s] := by simp [askP, hne]
    rw [hp]
    refine Rds.ifF (s := [42]) (Hd.tok (a := .word [83, 85, 77]) (b := (1, [83, 85, 77], 0)) rfl (by decide)) ?_
    refine Rds.ifF (s := [67, 79, 85, 78, 84]) (Hd.tok (a := .word [83, 85, 77]) (b := (1, [83, 85, 77], 0)) rfl (by decide)) ?_
    exact (Rds.ifT (n := (1, [83, 85, 77], 0)) rfl (by decide) (Rds.gap (Rds.fin (Rds.name h)))).mono (by simp)
  | items c l t w hn hl =>
    have hp : askP ⟨c, false, false, [], l, t, w⟩ = joinP (l.map pcE) := by simp [askP]
    rw [hp]
    have hd : ∀ L : List Str, (∀ u ∈ L, u ∈ reservedL ∨ headL u = false) → Hd L [[44], [46]] (joinP (l.map pcE)) := by
      intro L hL
      cases l with
      | nil => exact absurd rfl hn
      | cons e l =>
        obtain ⟨t, o, ht, ho, rfl⟩ := hl e (by simp)
        rw [List.map_cons, joinP_cons, pc_name]
        by_cases h0 : o = []
        · rw [if_pos h0]; exact Hd.name ht _ hL
        · rw [if_neg h0]; exact Hd.name (ho.resolve_left h0) _ hL
    refine Rds.ifF (s := [42]) (hd _ (by decide)) ?_
    refine Rds.ifF (s := [67, 79, 85, 78, 84]) (hd _ (by decide)) ?_
    refine Rds.ifF (s := [83, 85, 77]) (hd _ (by decide)) ?_
    refine Rds.fin (Rds.sep (by decide) hn fun e he => ?_)
    obtain ⟨t, o, ht, ho, rfl⟩ := hl e he
    exact Rds.itm ht ho
theorem queryRds {q : Qu} (h : GQ q) : Rds (query E) (queryP q) q LQ := by
  obtain ⟨h1, h2, h3⟩ := h
  have tl : Rds (fun r => Go.Proofs.YtkhnpmeohjafiaaGreatDoor.bnd (asked E { Qu.none with coalesce := q.coalesce } r) fun q r => Go.Proofs.YtkhnpmeohjafiaaGreatDoor.bnd (must E [70, 82, 79, 77] r) fun _ r => Go.Proofs.YtkhnpmeohjafiaaGreatDoor.bnd (tablesP E r) fun l r => Go.Proofs.YtkhnpmeohjafiaaGreatDoor.fin (fun c => { q with tables := l, cond := c }) (whereP E r))
      (askP q ++ (.gap [32] :: .word [70, 82, 79, 77] :: .gap [32] :: (namesP q.tables ++ whereS q.cond))) q LQ := by
    refine Rds.bnd (m := .gap [32] :: .word [70, 82, 79, 77] :: .gap [32] :: (namesP q.tables ++ whereS q.cond)) (askRds h1) (k := fun q r => Go.Proofs.YtkhnpmeohjafiaaGreatDoor.bnd (must E [70, 82, 79, 77] r) fun _ r => Go.Proofs.YtkhnpmeohjafiaaGreatDoor.bnd (tablesP E r) fun l r => Go.Proofs.YtkhnpmeohjafiaaGreatDoor.fin (fun c => { q with tables := l, cond := c }) (whereP E r)) (Rds.gap ?_) (Hd.gap (Hd.tok (b := (1, [70, 82, 79, 77], 0)) rfl (by decide)))
    refine Rds.bnd (l := [.word [70, 82, 79, 77]]) (Rds.mustw rfl) (Rds.gap ?_) (Hd.no _ _)
    refine Rds.bnd (tabRds h2) (L' := LQ) ?_ ?_
    · have := (Rds.fin (f := fun c => ({ q with tables := q.tables, cond := c } : Qu)) (Rds.whr (E := E) h3)).mono (L' := LQ) (fun s hs => List.mem_cons_of_mem _ hs)
      exact this
    · unfold whereS
      split
      · exact Hd.nil (by simp [LQ])
      · exact Hd.gap (Hd.tok (b := (1, [87, 72, 69, 82, 69], 0)) rfl (by decide))
  refine Rds.bnd (l := [.word [83, 69, 76, 69, 67, 84]]) (Rds.mustw rfl) (Rds.gap ?_) (Hd.no _ _)
  cases hc : q.coalesce with
  | true =>
    rw [hc] at tl
    intro ts r ht hr
    obtain ⟨us, vs, rfl, hu, hv⟩ := map_split (l := [.word [67, 79, 65, 76, 69, 83, 67, 69], .gap [32]]) (by simpa using ht)
    obtain ⟨t, us, rfl, k1, k2⟩ := map_cons (b := (1, [67, 79, 65, 76, 69, 83, 67, 69], 0)) (bs := []) hu
    obtain rfl : us = [] := by simpa using k2
    have hi : isT [67, 79, 65, 76, 69, 83, 67, 69] (([t] ++ vs) ++ r) = true := by simp only [List.cons_append, List.nil_append]; rw [isT_of k1]; rfl
    have := tl vs r hv hr
    show Go.Proofs.YtkhnpmeohjafiaaGreatDoor.bnd (asked E { Qu.none with coalesce := isT [67, 79, 65, 76, 69, 83, 67, 69] (([t] ++ vs) ++ r) } (if isT [67, 79, 65, 76, 69, 83, 67, 69] (([t] ++ vs) ++ r) then (([t] ++ vs) ++ r).tail else (([t] ++ vs) ++ r))) _ = _
    rw [hi, if_pos rfl]
    exact this
  | false =>
    rw [hc] at tl
    intro ts r ht hr
    have ht' : ts.map strip = bareP (askP q ++ (.gap [32] :: .word [70, 82, 79, 77] :: .gap [32] :: (namesP q.tables ++ whereS q.cond))) := by simpa using ht
    have hi : isT [67, 79, 65, 76, 69, 83, 67, 69] (ts ++ r) = false := by
      have hd : Hd [[67, 79, 65, 76, 69, 83, 67, 69]] LQ (askP q ++ (.gap [32] :: .word [70, 82, 79, 77] :: .gap [32] :: (namesP q.tables ++ whereS q.cond))) := by
        cases h1 with
        | all c t w => exact Hd.tok (b := (4, [42], 0)) rfl (by decide)
        | count c t w => exact Hd.tok (b := (1, [67, 79, 85, 78, 84], 0)) rfl (by decide)
        | sum c s t w h =>
          have hne : s ≠ [] := by rintro rfl; exact absurd h.1.1 (by decide)
          have hp : askP ⟨c, false, false, s, [], t, w⟩ = [.word [83, 85, 77], .gap [32], .word s] := by simp [askP, hne]
          rw [hp]
          exact Hd.tok (b := (1, [83, 85, 77], 0)) rfl (by decide)
        | items c l t w hn hl =>
          have hp : askP ⟨c, false, false, [], l, t, w⟩ = joinP (l.map pcE) := by simp [askP]
          rw [hp]
          cases l with
          | nil => exact absurd rfl hn
          | cons e l =>
            obtain ⟨t, o, k1, k2, rfl⟩ := hl e (by simp)
            rw [List.map_cons, joinP_cons, pc_name]
            by_cases h0 : o = []
            · rw [if_pos h0]; exact Hd.name k1 _ (by decide)
            · rw [if_neg h0]; exact Hd.name (k2.resolve_left h0) _ (by decide)
      exact hd ts r ht' hr _ (by simp)
    have := tl ts r ht' hr
    show Go.Proofs.YtkhnpmeohjafiaaGreatDoor.bnd (asked E { Qu.none with coalesce := isT [67, 79, 65, 76, 69, 83, 67, 69] (ts ++ r) } (if isT [67, 79, 65, 76, 69, 83, 67, 69] (ts ++ r) then (ts ++ r).tail else (ts ++ r))) _ = _
    rw [hi, if_neg (by simp)]
    exact this
theorem moreRds : ∀ (os : List Str) (qs : List Qu), os.length = qs.length → (∀ s ∈ os, s ∈ ([[85, 78, 73, 79, 78], [69, 88, 67, 69, 80, 84]] : List Str)) → (∀ q ∈ qs, GQ q) → ∀ (f : Nat) (o : List Str) (q : List Qu) (ts r : List Tok), qs.length ≤ f → ts.map strip = bareP (moreP os qs) → Fr LM r →
    moreL E f o q (ts ++ r) = .ok ((o ++ os, q ++ qs), r)
  | [], [], _, _, _, f, o, q, ts, r, _, ht, hr => by
    obtain rfl : ts = [] := by simpa [bareP, moreP] using ht
    have hn : anyT [[85, 78, 73, 79, 78], [69, 88, 67, 69, 80, 84]] ([] ++ r) = false := by
      simp [anyT, hr [85, 78, 73, 79, 78] (by decide), hr [69, 88, 67, 69, 80, 84] (by decide)]
    cases f with
    | zero => simp [moreL]
    | succ f => rw [moreL, hn]; simp
  | s :: os, x :: qs, hl, ho, hq, f, o, q, ts, r, hf, ht, hr => by
    obtain ⟨f, rfl⟩ : ∃ k, f = k + 1 := ⟨f - 1, by simp at hf; omega⟩
    have hs := ho s (by simp)
    have hup : s.map up = s := by
      simp only [List.mem_cons, List.not_mem_nil, or_false] at hs
      rcases hs with rfl | rfl <;> decide
    obtain ⟨t, us, rfl, h1, h2⟩ := map_cons (b := (1, s, 0)) (bs := bareP (queryP x ++ moreP os qs)) (by simpa [bareP, Pc.bare, moreP, hup] using ht)
    obtain ⟨us, vs, rfl, hu, hv⟩ := map_split h2
    have ha : anyT [[85, 78, 73, 79, 78], [69, 88, 67, 69, 80, 84]] (t :: (us ++ vs) ++ r) = true := by
      simp only [anyT, List.any_eq_true]
      exact ⟨s, hs, by rw [List.cons_append, isT_of h1]; simp⟩
    have hx : txt (t :: (us ++ vs) ++ r) = s := by rw [List.cons_append]; exact txt_of h1
    have hfr : Fr LQ (vs ++ r) := by
      cases os with
      | nil =>
        cases qs with
        | nil =>
          obtain rfl : vs = [] := by simpa [bareP, moreP] using hv
          exact hr.mono fun s hs => List.mem_append_left _ hs
        | cons => simp at hl
      | cons s' os =>
        cases qs with
        | nil => simp at hl
        | cons y qs =>
          have hs' := ho s' (by simp)
          have hb : ∀ u ∈ LQ, isB1 u (1, s', 0) = false := by
            simp only [List.mem_cons, List.not_mem_nil, or_false] at hs'
            rcases hs' with rfl | rfl <;> decide
          have hup' : s'.map up = s' := by
            simp only [List.mem_cons, List.not_mem_nil, or_false] at hs'
            rcases hs' with rfl | rfl <;> decide
          exact (Hd.gap (Hd.tok (L' := LM) (m := .gap [32] :: (queryP y ++ moreP os qs)) (a := .word s') (b := (1, s', 0)) (by simp [Pc.bare, hup']) hb)) vs r hv hr
    rw [moreL, ha, if_pos rfl, hx, List.cons_append, List.tail_cons, List.append_assoc, queryRds (hq x (by simp)) us _ hu hfr, bnd_ok]
    rw [moreRds os qs (by simpa using hl) (fun s hs => ho s (List.mem_cons_of_mem _ hs)) (fun q hs => hq q (List.mem_cons_of_mem _ hs)) f _ _ vs r (by simp at hf; omega) hv hr]
    simp
  | [], _ :: _, hl, _, _, _, _, _, _, _, _, _, _ => by simp at hl
  | _ :: _, [], hl, _, _, _, _, _, _, _, _, _, _ => by simp at hl
theorem asofRds {l : List Nat} (h : l.length ≤ 1) : Rds (asOfP E) (asofP l) l [[65, 83]] := by
  match l, h with
  | [], _ => exact Rds.ifF (t := fun ts => Go.Proofs.YtkhnpmeohjafiaaGreatDoor.bnd (must E [79, 70] ts.tail) fun _ r => Go.Proofs.YtkhnpmeohjafiaaGreatDoor.fin (fun n => [n]) (number E r)) (Hd.nil (by simp)) ((Rds.ok _).mono (by simp))
  | [n], _ =>
    refine Rds.gap (Rds.ifT (n := (1, [65, 83], 0)) (t := fun ts => Go.Proofs.YtkhnpmeohjafiaaGreatDoor.bnd (must E [79, 70] ts) fun _ r => Go.Proofs.YtkhnpmeohjafiaaGreatDoor.fin (fun n => [n]) (number E r)) rfl (by decide) (Rds.gap ?_))
    exact (Rds.bnd (l := [.word [79, 70]]) (m := [.gap [32], .num (dec n)]) (k := fun _ r => Go.Proofs.YtkhnpmeohjafiaaGreatDoor.fin (fun n => [n]) (number E r)) (Rds.mustw rfl) (Rds.gap (Rds.fin (Rds.number n))) (Hd.no _ _)).mono (by simp)
theorem durRds {l : List (Nat × Nat)} (h : l.length ≤ 1) (hp : ∀ p ∈ l, PerOk p) : Rds (duringP E) (durP l) l [[65, 84], [68, 85, 82, 73, 78, 71]] := by
  have sh : duringP E = fun ts => if isT [65, 84] ts then (fun ts => if isK 2 ts.tail ∧ FOREVER ≤ nmb ts.tail then bad E 40 ts.tail else Go.Proofs.YtkhnpmeohjafiaaGreatDoor.fin (fun n => [(n, n + 1)]) (number E ts.tail)) ts else
    (fun ts => if isT [68, 85, 82, 73, 78, 71] ts then (fun ts => Go.Proofs.YtkhnpmeohjafiaaGreatDoor.fin (fun p => [p]) (period E ts)) ts.tail else .ok ([], ts)) ts := rfl
  rw [sh]
  match l, h, hp with
  | [], _, _ =>
    refine Rds.ifF (Hd.nil (by simp)) ?_
    exact Rds.ifF (t := fun ts => (fun ts => Go.Proofs.YtkhnpmeohjafiaaGreatDoor.fin (fun p => [p]) (period E ts)) ts.tail) (Hd.nil (by simp)) ((Rds.ok _).mono (by simp))
  | [p], _, hp =>
    refine Rds.gap (Rds.ifF (Hd.tok (b := (1, [68, 85, 82, 73, 78, 71], 0)) rfl (by decide)) ?_)
    exact Rds.ifT (n := (1, [68, 85, 82, 73, 78, 71], 0)) (t := fun ts => Go.Proofs.YtkhnpmeohjafiaaGreatDoor.fin (fun p => [p]) (period E ts)) rfl (by decide) (Rds.gap ((Rds.fin (Rds.per (hp p (by simp)))).mono (by simp)))
theorem ordRds {l : List Str} (h : ∀ s ∈ l, NameOk s) : Rds (orderP E) (ordP l) l [[44], [79, 82, 68, 69, 82]] := by
  unfold ordP
  by_cases hl : l = []
  · rw [if_pos hl, hl]
    exact Rds.ifF (t := fun ts => Go.Proofs.YtkhnpmeohjafiaaGreatDoor.bnd (must E [66, 89] ts.tail) fun _ r => Go.Proofs.YtkhnpmeohjafiaaGreatDoor.sep (Go.Proofs.YtkhnpmeohjafiaaGreatDoor.name E) r) (Hd.nil (by simp)) ((Rds.ok _).mono (by simp))
  · rw [if_neg hl]
    refine Rds.gap (Rds.ifT (n := (1, [79, 82, 68, 69, 82], 0)) (t := fun ts => Go.Proofs.YtkhnpmeohjafiaaGreatDoor.bnd (must E [66, 89] ts) fun _ r => Go.Proofs.YtkhnpmeohjafiaaGreatDoor.sep (Go.Proofs.YtkhnpmeohjafiaaGreatDoor.name E) r) rfl (by decide) (Rds.gap ?_))
    exact (Rds.bnd (l := [.word [66, 89]]) (k := fun _ r => Go.Proofs.YtkhnpmeohjafiaaGreatDoor.sep (Go.Proofs.YtkhnpmeohjafiaaGreatDoor.name E) r) (Rds.mustw rfl) (Rds.gap (Rds.nms hl h)) (Hd.no _ _)).mono (by simp)
theorem asofHd {L L' : List Str} (l : List Nat) (hL : ∀ u ∈ L, isB1 u (1, [65, 83], 0) = false) (hs : ∀ s ∈ L, s ∈ L') : Hd L L' (asofP l) := by
  cases l with
  | nil => exact Hd.nil hs
  | cons n l => exact Hd.gap (Hd.tok (b := (1, [65, 83], 0)) rfl hL)
theorem durHd {L L' : List Str} (l : List (Nat × Nat)) (hL : ∀ u ∈ L, isB1 u (1, [68, 85, 82, 73, 78, 71], 0) = false) (hs : ∀ s ∈ L, s ∈ L') : Hd L L' (durP l) := by
  cases l with
  | nil => exact Hd.nil hs
  | cons n l => exact Hd.gap (Hd.tok (b := (1, [68, 85, 82, 73, 78, 71], 0)) rfl hL)
theorem ordHd {L L' : List Str} (l : List Str) (hL : ∀ u ∈ L, isB1 u (1, [79, 82, 68, 69, 82], 0) = false) (hs : ∀ s ∈ L, s ∈ L') : Hd L L' (ordP l) := by
  unfold ordP
  split
  · exact Hd.nil hs
  · exact Hd.gap (Hd.tok (b := (1, [79, 82, 68, 69, 82], 0)) rfl hL)
theorem moreHd {L L' : List Str} (os : List Str) (qs : List Qu) (hl : os.length = qs.length) (ho : ∀ s ∈ os, s ∈ ([[85, 78, 73, 79, 78], [69, 88, 67, 69, 80, 84]] : List Str)) (hL : ∀ u ∈ L, isB1 u (1, [85, 78, 73, 79, 78], 0) = false ∧ isB1 u (1, [69, 88, 67, 69, 80, 84], 0) = false) (hs : ∀ s ∈ L, s ∈ L') : Hd L L' (moreP os qs) := by
  match os, qs, hl, ho with
  | [], [], _, _ => exact Hd.nil hs
  | s :: os, q :: qs, _, ho =>
    have h := ho s (by simp)
    simp only [List.mem_cons, List.not_mem_nil, or_false] at h
    rcases h with rfl | rfl
    · exact Hd.gap (Hd.tok (b := (1, [85, 78, 73, 79, 78], 0)) rfl fun u hu => (hL u hu).1)
    · exact Hd.gap (Hd.tok (b := (1, [69, 88, 67, 69, 80, 84], 0)) rfl fun u hu => (hL u hu).2)
end
end Go.Proofs.YtkhnpmeohjafiaaGreatDoor
namespace Go.Proofs.YtkhnpmeohjafiaaGreatDoor

section
variable {E : Nat}
theorem colRds {c : Str × Nat} (h : NameOk c.1 ∧ (c.2 = 1 ∨ c.2 = 2)) : Rds (column E) (colP c) c [] := by
  obtain ⟨n, k⟩ := c
  obtain ⟨h1, h2⟩ := h
  simp only at h1 h2
  refine Rds.bnd (l := [.word n]) (Rds.name h1) (k := fun n r => if isT [84, 69, 88, 84] r then .ok ((n, 2), r.tail) else Go.Proofs.YtkhnpmeohjafiaaGreatDoor.bnd (must E [73, 78, 84] r) fun _ r' => .ok ((n, 1), r')) (Rds.gap ?_) (Hd.no _ _)
  rcases h2 with rfl | rfl
  · exact Rds.ifF (s := [84, 69, 88, 84]) (t := fun r => .ok ((n, 2), r.tail)) (Hd.tok (a := .word [73, 78, 84]) (b := (1, [73, 78, 84], 0)) rfl (by decide)) ((Rds.bnd (l := [.word [73, 78, 84]]) (m := []) (Rds.mustw rfl) (Rds.ok _) (Hd.no _ _)).mono (by simp))
  · exact Rds.ifT (n := (1, [84, 69, 88, 84], 0)) (t := fun r => .ok ((n, 2), r)) rfl (by decide) (Rds.ok _)
theorem setRds {c : Str × Ex} (h : NameOk c.1 ∧ GE 32 1 c.2) : Rds (setP E) (setQ c) c SKL := by
  obtain ⟨n, e⟩ := c
  obtain ⟨h1, h2⟩ := h
  refine Rds.bnd (l := [.word n]) (Rds.name h1) (k := fun c r => Go.Proofs.YtkhnpmeohjafiaaGreatDoor.bnd (must E [61] r) fun _ r => Go.Proofs.YtkhnpmeohjafiaaGreatDoor.fin (fun e => (c, e)) (expr E r)) (Rds.gap ?_) (Hd.no _ _)
  exact Rds.bnd (l := [.sig [61]]) (Rds.musts) (k := fun _ r => Go.Proofs.YtkhnpmeohjafiaaGreatDoor.fin (fun e => (n, e)) (expr E r)) (Rds.gap (Rds.fin (Rds.expr h2))) (Hd.no _ _)
theorem nmsRds {l : List Str} (hl : l ≠ []) (h : ∀ s ∈ l, NameOk s) : Rds (names E) (.sig [40] :: (namesP l ++ [.sig [41]])) l [] := by
  refine Rds.bnd (l := [.sig [40]]) Rds.musts (k := fun _ r => Go.Proofs.YtkhnpmeohjafiaaGreatDoor.bnd (Go.Proofs.YtkhnpmeohjafiaaGreatDoor.sep (Go.Proofs.YtkhnpmeohjafiaaGreatDoor.name E) r) fun l r => Go.Proofs.YtkhnpmeohjafiaaGreatDoor.bnd (must E [41] r) fun _ r => .ok (l, r)) ?_ (Hd.no _ _)
  refine Rds.bnd (Rds.nms hl h) (k := fun l r => Go.Proofs.YtkhnpmeohjafiaaGreatDoor.bnd (must E [41] r) fun _ r => .ok (l, r)) ?_ (Hd.tok (b := (4, [41], 0)) rfl (by decide))
  exact Rds.bnd (l := [.sig [41]]) (m := []) Rds.musts (k := fun _ r => .ok (l, r)) (Rds.ok _) (Hd.no _ _)
theorem keysRds {l : List Str} (h : ∀ s ∈ l, NameOk s) : Rds (keysP E) (keysQ l) l [[78, 79]] := by
  unfold keysQ
  by_cases hl : l = []
  · rw [if_pos hl, hl]
    exact Rds.ifF (t := fun ts => Go.Proofs.YtkhnpmeohjafiaaGreatDoor.bnd (must E [79, 86, 69, 82, 76, 65, 80] ts.tail) fun _ r => names E r) (Hd.nil (by simp)) ((Rds.ok _).mono (by simp))
  · rw [if_neg hl]
    refine Rds.gap (Rds.ifT (n := (1, [78, 79], 0)) (t := fun ts => Go.Proofs.YtkhnpmeohjafiaaGreatDoor.bnd (must E [79, 86, 69, 82, 76, 65, 80] ts) fun _ r => names E r) rfl (by decide) (Rds.gap ?_))
    exact (Rds.bnd (l := [.word [79, 86, 69, 82, 76, 65, 80]]) (k := fun _ r => names E r) (Rds.mustw rfl) (Rds.gap (nmsRds hl h)) (Hd.no _ _)).mono (by simp)
theorem keysHd {L L' : List Str} (l : List Str) (hL : ∀ u ∈ L, isB1 u (1, [78, 79], 0) = false) (hs : ∀ s ∈ L, s ∈ L') : Hd L L' (keysQ l) := by
  unfold keysQ
  split
  · exact Hd.nil hs
  · exact Hd.gap (Hd.tok (b := (1, [78, 79], 0)) rfl hL)
theorem portRds {p : Nat × Nat} (h : PerOk p) : Rds (portion E) (portP p) p [[70, 79, 82]] := by
  unfold portP
  by_cases hp : p = (0, FOREVER)
  · rw [if_pos hp, hp]
    exact Rds.ifF (t := fun ts => period E ts.tail) (Hd.nil (by simp)) ((Rds.ok _).mono (by simp))
  · rw [if_neg hp]
    exact Rds.gap (Rds.ifT (n := (1, [70, 79, 82], 0)) (t := period E) rfl (by decide) (Rds.gap ((Rds.per h).mono (by simp))))
theorem whrHd {L L' : List Str} (l : List Ex) (hL : ∀ u ∈ L, isB1 u (1, [87, 72, 69, 82, 69], 0) = false) (hs : ∀ s ∈ L, s ∈ L') : Hd L L' (whereS l) := by
  cases l with
  | nil => exact Hd.nil hs
  | cons n l => exact Hd.gap (Hd.tok (b := (1, [87, 72, 69, 82, 69], 0)) rfl hL)
theorem portHd {L L' : List Str} (p : Nat × Nat) (hL : ∀ u ∈ L, isB1 u (1, [70, 79, 82], 0) = false) (hs : ∀ s ∈ L, s ∈ L') : Hd L L' (portP p) := by
  unfold portP
  split
  · exact Hd.nil hs
  · exact Hd.gap (Hd.tok (b := (1, [70, 79, 82], 0)) rfl hL)

/-! ### Statements -/
def createP (t : Str) (l : List (Str × Nat)) (k : List Str) : List Pc := .word t :: .gap [32] :: .sig [40] :: (joinP (l.map colP) ++ (.sig [41] :: keysQ k))
theorem createRds {t : Str} {l : List (Str × Nat)} {k : List Str} (ht : NameOk t) (hn : l ≠ []) (hl : ∀ c ∈ l, NameOk c.1 ∧ (c.2 = 1 ∨ c.2 = 2)) (hk : ∀ s ∈ k, NameOk s) :
    Rds (create E) (createP t l k) { St.none with kind := [67, 82, 69, 65, 84, 69], table := t, columns := l, keys := k } [[78, 79]] := by
  refine Rds.bnd (l := [.word t]) (Rds.name ht) (k := fun t r => Go.Proofs.YtkhnpmeohjafiaaGreatDoor.bnd (must E [40] r) fun _ r => Go.Proofs.YtkhnpmeohjafiaaGreatDoor.bnd (Go.Proofs.YtkhnpmeohjafiaaGreatDoor.sep (column E) r) fun l r => Go.Proofs.YtkhnpmeohjafiaaGreatDoor.bnd (must E [41] r) fun _ r =>
    Go.Proofs.YtkhnpmeohjafiaaGreatDoor.fin (fun k => { St.none with kind := [67, 82, 69, 65, 84, 69], table := t, columns := l, keys := k }) (keysP E r)) (Rds.gap ?_) (Hd.no _ _)
  refine Rds.bnd (l := [.sig [40]]) Rds.musts ?_ (Hd.no _ _)
  refine Rds.bnd (Rds.sep (by decide) hn fun c hc => colRds (hl c hc)) ?_ (Hd.tok (b := (4, [41], 0)) rfl (by decide))
  exact Rds.bnd (l := [.sig [41]]) Rds.musts (Rds.fin (keysRds hk)) (Hd.no _ _)
theorem indexRds {t : Str} (ht : NameOk t) : Rds (index E) [.word [73, 78, 68, 69, 88], .gap [32], .word [79, 78], .gap [32], .word t] { St.none with kind := [73, 78, 68, 69, 88], table := t } [] := by
  refine Rds.bnd (l := [.word [73, 78, 68, 69, 88]]) (Rds.mustw rfl) (k := fun _ r => Go.Proofs.YtkhnpmeohjafiaaGreatDoor.bnd (must E [79, 78] r) fun _ r => Go.Proofs.YtkhnpmeohjafiaaGreatDoor.fin (fun t => { St.none with kind := [73, 78, 68, 69, 88], table := t }) (Go.Proofs.YtkhnpmeohjafiaaGreatDoor.name E r)) (Rds.gap ?_) (Hd.no _ _)
  exact Rds.bnd (l := [.word [79, 78]]) (Rds.mustw rfl) (Rds.gap (Rds.fin (Rds.name ht))) (Hd.no _ _)
def insertP (t : Str) (l : List Ex) (p : Nat × Nat) : List Pc := .word [73, 78, 84, 79] :: .gap [32] :: .word t :: .gap [32] :: .word [86, 65, 76, 85, 69, 83] :: .gap [32] :: .sig [40] :: (joinP (l.map pcE) ++ (.sig [41] :: .gap [32] :: .word [70, 82, 79, 77] :: .gap [32] :: perP p))
theorem insertRds {t : Str} {l : List Ex} {p : Nat × Nat} (ht : NameOk t) (hn : l ≠ []) (hl : ∀ e ∈ l, GE 32 1 e) (hp : PerOk p) :
    Rds (insert E) (insertP t l p) { St.none with kind := [73, 78, 83, 69, 82, 84], table := t, values := l, period := p } [] := by
  refine Rds.bnd (l := [.word [73, 78, 84, 79]]) (Rds.mustw rfl) (k := fun _ r => Go.Proofs.YtkhnpmeohjafiaaGreatDoor.bnd (Go.Proofs.YtkhnpmeohjafiaaGreatDoor.name E r) fun t r => Go.Proofs.YtkhnpmeohjafiaaGreatDoor.bnd (must E [86, 65, 76, 85, 69, 83] r) fun _ r => Go.Proofs.YtkhnpmeohjafiaaGreatDoor.bnd (must E [40] r) fun _ r =>
    Go.Proofs.YtkhnpmeohjafiaaGreatDoor.bnd (Go.Proofs.YtkhnpmeohjafiaaGreatDoor.sep (expr E) r) fun l r => Go.Proofs.YtkhnpmeohjafiaaGreatDoor.bnd (must E [41] r) fun _ r => Go.Proofs.YtkhnpmeohjafiaaGreatDoor.bnd (must E [70, 82, 79, 77] r) fun _ r =>
    Go.Proofs.YtkhnpmeohjafiaaGreatDoor.fin (fun p => { St.none with kind := [73, 78, 83, 69, 82, 84], table := t, values := l, period := p }) (period E r)) (Rds.gap ?_) (Hd.no _ _)
  refine Rds.bnd (l := [.word t]) (Rds.name ht) (Rds.gap ?_) (Hd.no _ _)
  refine Rds.bnd (l := [.word [86, 65, 76, 85, 69, 83]]) (Rds.mustw rfl) (Rds.gap ?_) (Hd.no _ _)
  refine Rds.bnd (l := [.sig [40]]) Rds.musts ?_ (Hd.no _ _)
  refine Rds.bnd (Rds.sep (by decide) hn fun e he => Rds.expr (hl e he)) ?_ (Hd.tok (b := (4, [41], 0)) rfl (by decide))
  refine Rds.bnd (l := [.sig [41]]) Rds.musts (Rds.gap ?_) (Hd.no _ _)
  exact Rds.bnd (l := [.word [70, 82, 79, 77]]) (Rds.mustw rfl) (Rds.gap (Rds.fin (Rds.per hp))) (Hd.no _ _)
def updateP (t : Str) (l : List (Str × Ex)) (p : Nat × Nat) (c : List Ex) : List Pc := .word t :: .gap [32] :: .word [83, 69, 84] :: .gap [32] :: (joinP (l.map setQ) ++ (portP p ++ whereS c))
theorem updateRds {t : Str} {l : List (Str × Ex)} {p : Nat × Nat} {c : List Ex} (ht : NameOk t) (hn : l ≠ []) (hl : ∀ e ∈ l, NameOk e.1 ∧ GE 32 1 e.2) (hp : PerOk p) (hc : CondOk c) :
    Rds (update E) (updateP t l p c) { St.none with kind := [85, 80, 68, 65, 84, 69], table := t, sets := l, period := p, cond := c } (LO ++ [[70, 79, 82]]) := by
  refine Rds.bnd (l := [.word t]) (Rds.name ht) (k := fun t r => Go.Proofs.YtkhnpmeohjafiaaGreatDoor.bnd (must E [83, 69, 84] r) fun _ r => Go.Proofs.YtkhnpmeohjafiaaGreatDoor.bnd (Go.Proofs.YtkhnpmeohjafiaaGreatDoor.sep (setP E) r) fun l r => Go.Proofs.YtkhnpmeohjafiaaGreatDoor.bnd (portion E r) fun p r =>
    Go.Proofs.YtkhnpmeohjafiaaGreatDoor.fin (fun c => { St.none with kind := [85, 80, 68, 65, 84, 69], table := t, sets := l, period := p, cond := c }) (whereP E r)) (Rds.gap ?_) (Hd.no _ _)
  refine Rds.bnd (l := [.word [83, 69, 84]]) (Rds.mustw rfl) (Rds.gap ?_) (Hd.no _ _)
  refine Rds.bnd (Rds.sep (by decide) hn fun e he => setRds (hl e he)) ?_ (Hd.app (portHd (L' := [44] :: SKL) p (by decide) (by decide)) (whrHd c (by decide) (by decide)))
  exact Rds.bnd (portRds hp) ((Rds.fin (Rds.whr hc)).mono (by decide)) (whrHd c (by decide) (by decide))
def deleteP (t : Str) (p : Nat × Nat) (c : List Ex) : List Pc := .word [70, 82, 79, 77] :: .gap [32] :: .word t :: (portP p ++ whereS c)
theorem deleteRds {t : Str} {p : Nat × Nat} {c : List Ex} (ht : NameOk t) (hp : PerOk p) (hc : CondOk c) :
    Rds (delete E) (deleteP t p c) { St.none with kind := [68, 69, 76, 69, 84, 69], table := t, period := p, cond := c } (LO ++ [[70, 79, 82]]) := by
  refine Rds.bnd (l := [.word [70, 82, 79, 77]]) (Rds.mustw rfl) (k := fun _ r => Go.Proofs.YtkhnpmeohjafiaaGreatDoor.bnd (Go.Proofs.YtkhnpmeohjafiaaGreatDoor.name E r) fun t r => Go.Proofs.YtkhnpmeohjafiaaGreatDoor.bnd (portion E r) fun p r =>
    Go.Proofs.YtkhnpmeohjafiaaGreatDoor.fin (fun c => { St.none with kind := [68, 69, 76, 69, 84, 69], table := t, period := p, cond := c }) (whereP E r)) (Rds.gap ?_) (Hd.no _ _)
  refine Rds.bnd (l := [.word t]) (Rds.name ht) ?_ (Hd.no _ _)
  exact Rds.bnd (portRds hp) ((Rds.fin (Rds.whr hc)).mono (by decide)) (whrHd c (by decide) (by decide))
def selectP (q : Qu) (qs : List Qu) (o : List Str) (a : List Nat) (d : List (Nat × Nat)) (r : List Str) : List Pc := queryP q ++ (moreP o qs ++ (asofP a ++ (durP d ++ ordP r)))
theorem more_len : ∀ (o : List Str) (qs : List Qu), o.length = qs.length → qs.length ≤ (bareP (moreP o qs)).length
  | [], [], _ => Nat.zero_le _
  | s :: o, q :: qs, h => by
    have := more_len o qs (by simpa using h)
    have he : bareP (moreP (s :: o) (q :: qs)) = (1, s.map up, 0) :: (bareP (queryP q) ++ bareP (moreP o qs)) := by simp [moreP, bareP, Pc.bare]
    rw [he]
    simp only [List.length_cons, List.length_append]
    omega
  | [], _ :: _, h => by simp at h
  | _ :: _, [], h => by simp at h
theorem selectRds {q : Qu} {qs : List Qu} {o : List Str} {a : List Nat} {d : List (Nat × Nat)} {r : List Str} (hq : GQ q) (hqs : ∀ q ∈ qs, GQ q) (hl : o.length = qs.length) (ho : ∀ s ∈ o, s ∈ ([[85, 78, 73, 79, 78], [69, 88, 67, 69, 80, 84]] : List Str))
    (ha : a.length ≤ 1 ∧ ∀ n ∈ a, n < 1000000000000000000) (hd : d.length ≤ 1 ∧ ∀ p ∈ d, PerOk p) (hr : ∀ s ∈ r, NameOk s) : Rds (selects E) (selectP q qs o a d r) { St.none with kind := [83, 69, 76, 69, 67, 84], query := q :: qs, ops := o, asOf := a, during := d, order := r } (LO ++ [[70, 79, 82]]) := by
  have hmore : Rds (fun r => moreL E r.length [] [q] r) (moreP o qs) (o, q :: qs) LM := fun ts r ht hr => by
    have h1 := more_len o qs hl
    have h2 : ts.length = (bareP (moreP o qs)).length := by rw [← ht]; simp
    have := moreRds (E := E) o qs hl ho hqs (ts ++ r).length [] [q] ts r (by rw [List.length_append]; omega) ht hr
    simpa using this
  refine Rds.bnd (queryRds hq) (k := fun q r => Go.Proofs.YtkhnpmeohjafiaaGreatDoor.bnd (moreL E r.length [] [q] r) fun oq r => Go.Proofs.YtkhnpmeohjafiaaGreatDoor.bnd (asOfP E r) fun a r => Go.Proofs.YtkhnpmeohjafiaaGreatDoor.bnd (duringP E r) fun d r =>
    Go.Proofs.YtkhnpmeohjafiaaGreatDoor.fin (fun o => { St.none with kind := [83, 69, 76, 69, 67, 84], query := oq.2, ops := oq.1, asOf := a, during := d, order := o }) (orderP E r)) ?_
    (Hd.app (moreHd (L' := LQ) o qs hl ho (by decide) (by decide)) (Hd.app (asofHd (L' := LQ) a (by decide) (by decide)) (Hd.app (durHd (L' := LQ) d (by decide) (by decide)) (ordHd (L' := LO ++ [[70, 79, 82]]) r (by decide) (by decide)))))
  refine Rds.bnd hmore ?_ (Hd.app (asofHd (L' := LM) a (by decide) (by decide)) (Hd.app (durHd (L' := LM) d (by decide) (by decide)) (ordHd (L' := LO ++ [[70, 79, 82]]) r (by decide) (by decide))))
  refine Rds.bnd (asofRds ha.1) ?_ (Hd.app (durHd (L' := LD) d (by decide) (by decide)) (ordHd (L' := LO ++ [[70, 79, 82]]) r (by decide) (by decide)))
  refine Rds.bnd (durRds hd.1 hd.2) ?_ (ordHd (L' := LO ++ [[70, 79, 82]]) r (by decide) (by decide))
  exact (Rds.fin (ordRds hr)).mono (by decide)
/-- A statement's pieces. -/
def stP (x : St) : List Pc :=
  if x.kind = [67, 82, 69, 65, 84, 69] then .word [67, 82, 69, 65, 84, 69] :: .gap [32] :: .word [84, 65, 66, 76, 69] :: .gap [32] :: createP x.table x.columns x.keys
  else if x.kind = [73, 78, 68, 69, 88] then .word [67, 82, 69, 65, 84, 69] :: .gap [32] :: [.word [73, 78, 68, 69, 88], .gap [32], .word [79, 78], .gap [32], .word x.table]
  else if x.kind = [73, 78, 83, 69, 82, 84] then .word [73, 78, 83, 69, 82, 84] :: .gap [32] :: insertP x.table x.values x.period
  else if x.kind = [85, 80, 68, 65, 84, 69] then .word [85, 80, 68, 65, 84, 69] :: .gap [32] :: updateP x.table x.sets x.period x.cond
  else if x.kind = [68, 69, 76, 69, 84, 69] then .word [68, 69, 76, 69, 84, 69] :: .gap [32] :: deleteP x.table x.period x.cond
  else if x.kind = [83, 69, 76, 69, 67, 84] then selectP (x.query.headD Qu.none) x.query.tail x.ops x.asOf x.during x.order
  else [.word x.kind]
def LS : List Str := LO ++ [[70, 79, 82], [78, 79]]
theorem stmtRds {x : St} (h : WfS x) : Rds (stmt E) (stP x) x LS := by
  have sh : stmt E = fun ts => if isT [67, 82, 69, 65, 84, 69] ts then (fun ts => if isT [84, 65, 66, 76, 69] ts then create E ts.tail else index E ts) ts.tail else
      (fun ts => if isT [73, 78, 83, 69, 82, 84] ts then insert E ts.tail else (fun ts => if isT [85, 80, 68, 65, 84, 69] ts then update E ts.tail else (fun ts => if isT [68, 69, 76, 69, 84, 69] ts then delete E ts.tail else
      (fun ts => if anyT [[66, 69, 71, 73, 78], [67, 79, 77, 77, 73, 84], [82, 79, 76, 76, 66, 65, 67, 75]] ts then .ok ({ St.none with kind := txt ts }, ts.tail) else selects E ts) ts) ts) ts) ts := rfl
  rw [sh]
  cases h with
  | create t l k ht hn hl hk =>
    have hp : stP { St.none with kind := [67, 82, 69, 65, 84, 69], table := t, columns := l, keys := k } = .word [67, 82, 69, 65, 84, 69] :: .gap [32] :: .word [84, 65, 66, 76, 69] :: .gap [32] :: createP t l k := by simp [stP]
    rw [hp]
    refine Rds.ifT (n := (1, [67, 82, 69, 65, 84, 69], 0)) (t := fun ts => if isT [84, 65, 66, 76, 69] ts then create E ts.tail else index E ts) rfl (by decide) (Rds.gap ?_)
    exact Rds.ifT (n := (1, [84, 65, 66, 76, 69], 0)) (t := create E) rfl (by decide) (Rds.gap ((createRds ht hn hl hk).mono (by decide)))
  | index t ht =>
    have hp : stP { St.none with kind := [73, 78, 68, 69, 88], table := t } = .word [67, 82, 69, 65, 84, 69] :: .gap [32] :: [.word [73, 78, 68, 69, 88], .gap [32], .word [79, 78], .gap [32], .word t] := by simp [stP]
    rw [hp]
    refine Rds.ifT (n := (1, [67, 82, 69, 65, 84, 69], 0)) (t := fun ts => if isT [84, 65, 66, 76, 69] ts then create E ts.tail else index E ts) rfl (by decide) (Rds.gap ?_)
    exact Rds.ifF (s := [84, 65, 66, 76, 69]) (t := fun ts => create E ts.tail) (Hd.tok (a := .word [73, 78, 68, 69, 88]) (b := (1, [73, 78, 68, 69, 88], 0)) rfl (by decide)) ((indexRds ht).mono (by simp))
  | insert t l p ht hn hl hp =>
    have hq : stP { St.none with kind := [73, 78, 83, 69, 82, 84], table := t, values := l, period := p } = .word [73, 78, 83, 69, 82, 84] :: .gap [32] :: insertP t l p := by simp [stP]
    rw [hq]
    refine Rds.ifF (s := [67, 82, 69, 65, 84, 69]) (Hd.tok (a := .word [73, 78, 83, 69, 82, 84]) (b := (1, [73, 78, 83, 69, 82, 84], 0)) rfl (by decide)) ?_
    exact Rds.ifT (n := (1, [73, 78, 83, 69, 82, 84], 0)) (t := insert E) rfl (by decide) (Rds.gap ((insertRds ht hn hl hp).mono (by simp)))
  | update t l p c ht hn hl hp hc =>
    have hq : stP { St.none with kind := [85, 80, 68, 65, 84, 69], table := t, sets := l, period := p, cond := c } = .word [85, 80, 68, 65, 84, 69] :: .gap [32] :: updateP t l p c := by simp [stP]
    rw [hq]
    refine Rds.ifF (s := [67, 82, 69, 65, 84, 69]) (Hd.tok (a := .word [85, 80, 68, 65, 84, 69]) (b := (1, [85, 80, 68, 65, 84, 69], 0)) rfl (by decide)) ?_
    refine Rds.ifF (s := [73, 78, 83, 69, 82, 84]) (Hd.tok (a := .word [85, 80, 68, 65, 84, 69]) (b := (1, [85, 80, 68, 65, 84, 69], 0)) rfl (by decide)) ?_
    exact Rds.ifT (n := (1, [85, 80, 68, 65, 84, 69], 0)) (t := update E) rfl (by decide) (Rds.gap ((updateRds ht hn hl hp hc).mono (by decide)))
  | delete t p c ht hp hc =>
    have hq : stP { St.none with kind := [68, 69, 76, 69, 84, 69], table := t, period := p, cond := c } = .word [68, 69, 76, 69, 84, 69] :: .gap [32] :: deleteP t p c := by simp [stP]
    rw [hq]
    refine Rds.ifF (s := [67, 82, 69, 65, 84, 69]) (Hd.tok (a := .word [68, 69, 76, 69, 84, 69]) (b := (1, [68, 69, 76, 69, 84, 69], 0)) rfl (by decide)) ?_
    refine Rds.ifF (s := [73, 78, 83, 69, 82, 84]) (Hd.tok (a := .word [68, 69, 76, 69, 84, 69]) (b := (1, [68, 69, 76, 69, 84, 69], 0)) rfl (by decide)) ?_
    refine Rds.ifF (s := [85, 80, 68, 65, 84, 69]) (Hd.tok (a := .word [68, 69, 76, 69, 84, 69]) (b := (1, [68, 69, 76, 69, 84, 69], 0)) rfl (by decide)) ?_
    exact Rds.ifT (n := (1, [68, 69, 76, 69, 84, 69], 0)) (t := delete E) rfl (by decide) (Rds.gap ((deleteRds ht hp hc).mono (by decide)))
  | word k hk =>
    have key : ∀ k ∈ ([[66, 69, 71, 73, 78], [67, 79, 77, 77, 73, 84], [82, 79, 76, 76, 66, 65, 67, 75]] : List Str), stP { St.none with kind := k } = [.word k] ∧ k.map up = k ∧ isB1 [67, 82, 69, 65, 84, 69] (1, k, 0) = false ∧ isB1 [73, 78, 83, 69, 82, 84] (1, k, 0) = false ∧ isB1 [85, 80, 68, 65, 84, 69] (1, k, 0) = false ∧ isB1 [68, 69, 76, 69, 84, 69] (1, k, 0) = false := by
      intro k hk
      simp only [List.mem_cons, List.not_mem_nil, or_false] at hk
      rcases hk with rfl | rfl | rfl <;> exact ⟨rfl, rfl, rfl, rfl, rfl, rfl⟩
    obtain ⟨hp, hu, b1, b2, b3, b4⟩ := key k hk
    rw [hp]
    have hb : (Pc.word k).bare = [(1, k, 0)] := by simp [Pc.bare, hu]
    refine Rds.ifF (s := [67, 82, 69, 65, 84, 69]) (Hd.tok hb (by simpa using b1)) ?_
    refine Rds.ifF (s := [73, 78, 83, 69, 82, 84]) (Hd.tok hb (by simpa using b2)) ?_
    refine Rds.ifF (s := [85, 80, 68, 65, 84, 69]) (Hd.tok hb (by simpa using b3)) ?_
    refine Rds.ifF (s := [68, 69, 76, 69, 84, 69]) (Hd.tok hb (by simpa using b4)) ?_
    intro ts r ht hr
    obtain ⟨t, us, rfl, h1, h2⟩ := map_cons (b := (1, k, 0)) (bs := []) (by simpa [bareP, hb] using ht)
    obtain rfl : us = [] := by simpa using h2
    have ha : anyT [[66, 69, 71, 73, 78], [67, 79, 77, 77, 73, 84], [82, 79, 76, 76, 66, 65, 67, 75]] ([t] ++ r) = true := by
      simp only [anyT, List.any_eq_true]
      exact ⟨k, hk, by rw [List.cons_append, isT_of h1]; simp⟩
    have hx : txt ([t] ++ r) = k := by rw [List.cons_append]; exact txt_of h1
    show (if anyT [[66, 69, 71, 73, 78], [67, 79, 77, 77, 73, 84], [82, 79, 76, 76, 66, 65, 67, 75]] ([t] ++ r) then _ else _) = _
    rw [ha, if_pos rfl, hx]
    rfl
  | select q qs o a d r hq hqs hl ho ha hd hr =>
    have hp : stP { St.none with kind := [83, 69, 76, 69, 67, 84], query := q :: qs, ops := o, asOf := a, during := d, order := r } = selectP q qs o a d r := by simp [stP]
    rw [hp]
    have hh : ∀ L : List Str, (∀ s ∈ L, isB1 s (1, [83, 69, 76, 69, 67, 84], 0) = false) → Hd L LS (selectP q qs o a d r) := fun L hL => Hd.tok (a := .word [83, 69, 76, 69, 67, 84]) (b := (1, [83, 69, 76, 69, 67, 84], 0)) rfl hL
    refine Rds.ifF (s := [67, 82, 69, 65, 84, 69]) (hh _ (by decide)) ?_
    refine Rds.ifF (s := [73, 78, 83, 69, 82, 84]) (hh _ (by decide)) ?_
    refine Rds.ifF (s := [85, 80, 68, 65, 84, 69]) (hh _ (by decide)) ?_
    refine Rds.ifF (s := [68, 69, 76, 69, 84, 69]) (hh _ (by decide)) ?_
    have h := (selectRds (E := E) hq hqs hl ho ha hd hr).mono (L' := LS) (by decide)
    intro ts r' ht hr'
    have hf := hh [[66, 69, 71, 73, 78], [67, 79, 77, 77, 73, 84], [82, 79, 76, 76, 66, 65, 67, 75]] (by decide) ts r' ht hr'
    have ha : anyT [[66, 69, 71, 73, 78], [67, 79, 77, 77, 73, 84], [82, 79, 76, 76, 66, 65, 67, 75]] (ts ++ r') = false := by
      simp [anyT, hf [66, 69, 71, 73, 78] (by decide), hf [67, 79, 77, 77, 73, 84] (by decide), hf [82, 79, 76, 76, 66, 65, 67, 75] (by decide)]
    show (if anyT [[66, 69, 71, 73, 78], [67, 79, 77, 77, 73, 84], [82, 79, 76, 76, 66, 65, 67, 75]] (ts ++ r') then _ else _) = _
    rw [ha, if_neg (by simp)]
    exact h ts r' ht hr'
theorem whole_reads {x : St} (h : WfS x) {ts : List Tok} (ht : ts.map strip = bareP (stP x)) : whole E ts = .ok (x, []) := by
  have := stmtRds (E := E) h ts [] ht (Fr.nil _)
  rw [List.append_nil] at this
  unfold whole
  rw [this, bnd_ok]
  rfl
end
end Go.Proofs.YtkhnpmeohjafiaaGreatDoor
