/- A statement's pieces are its text, and fit together: the text reads back. Plain law. No program is named here. Bounds of a statement's text, and its expressions: plain law. No program is named here. append to an empty slice that is not nil and has no room: every old block stays as it was. -/
import Derived.Test.YtkhnpmeohjafiaaGreatDoorMX2
import Derived.Test.YtkhnpmeohjafiaaGreatDoorMF
import Derived.Test.YtkhnpmeohjafiaaGreatDoorME
import Derived.Test.YtkhnpmeohjafiaaGreatDoorMT
import Derived.Test.YtkhnpmeohjafiaaGreatDoorMA
import Derived.ArgAppend
namespace Go.Proofs.YtkhnpmeohjafiaaGreatDoor

/-! ### Pieces that fit -/
def Sg (l : List Pc) : Prop := (∀ a ∈ l, a.ok) ∧ ∀ r, Dl r → AdjP l r
def Dm (l : List Pc) : Prop := ∀ r, Dl r → Dl (flatP l ++ r)
theorem Dm.nil : Dm [] := fun _ h => h
theorem dl_cons {x : UInt8} {r : Str} (h : isW x = false ∧ x ≠ 39 ∧ x ≠ 61 ∧ x ≠ 62) : Dl (x :: r) := fun y hy => by
  cases hy; exact h
theorem Dm.gap (m : List Pc) : Dm (.gap [32] :: m) := fun r _ => by
  rw [flatP_cons]; exact dl_cons (by decide)
theorem Dm.comma (m : List Pc) : Dm (.sig [44] :: m) := fun r _ => by
  rw [flatP_cons]; exact dl_cons (by decide)
theorem Dm.close (m : List Pc) : Dm (.sig [41] :: m) := fun r _ => by
  rw [flatP_cons]; exact dl_cons (by decide)
theorem Dm.app {l m : List Pc} (h1 : Dm l) (h2 : Dm m) : Dm (l ++ m) := fun r h => by
  rw [flatP_append, List.append_assoc]; exact h1 _ (h2 r h)
theorem Sg.nil : Sg [] := ⟨by simp, fun _ _ => trivial⟩
theorem Sg.cons {a : Pc} {m : List Pc} (ha : a.ok) (hn : ∀ r, Dl r → a.next (flatP m ++ r)) (h : Sg m) : Sg (a :: m) :=
  ⟨fun b hb => by rcases List.mem_cons.1 hb with rfl | hb; exact ha; exact h.1 b hb, fun r hr => ⟨hn r hr, h.2 r hr⟩⟩
theorem Sg.gap {m : List Pc} (h : Sg m) : Sg (.gap [32] :: m) := Sg.cons (by simp [Pc.ok]; decide) (fun _ _ => trivial) h
theorem Sg.sig {s : Str} {m : List Pc} (hs : s ∈ signs14) (h1 : ¬ (s = [60] ∨ s = [62])) (h : Sg m) : Sg (.sig s :: m) := Sg.cons hs (fun _ _ h => absurd h h1) h
theorem Sg.word {s : Str} {m : List Pc} (hs : headL s = true ∧ ∀ x ∈ s, isW x = true) (hd : Dm m) (h : Sg m) : Sg (.word s :: m) := Sg.cons hs (fun r hr => (hd r hr).next (.word s)) h
theorem Sg.name {s : Str} {m : List Pc} (hs : NameOk s) (hd : Dm m) (h : Sg m) : Sg (.word s :: m) := Sg.word ⟨hs.1.1, hs.1.2.1⟩ hd h
theorem num_ok {n : Nat} (hn : n < 1000000000000000000) : (Pc.num (dec n)).ok := by
  have := pc_ok (.num n hn)
  rw [pc_num] at this
  exact this _ (by simp)
theorem Sg.num {n : Nat} {m : List Pc} (hn : n < 1000000000000000000) (hd : Dm m) (h : Sg m) : Sg (.num (dec n) :: m) := Sg.cons (num_ok hn) (fun r hr => (hd r hr).next (.num _)) h
theorem Sg.app {l m : List Pc} (h1 : Sg l) (hd : Dm m) (h2 : Sg m) : Sg (l ++ m) :=
  ⟨fun a ha => (List.mem_append.1 ha).elim (h1.1 a) (h2.1 a), fun r hr => (adj_append l m r).2 ⟨h1.2 _ (hd r hr), h2.2 r hr⟩⟩
theorem Sg.expr {e : Ex} (h : WfE e) : Sg (pcE e) := ⟨pc_ok h, pc_adj h⟩
theorem Sg.join : ∀ {l : List (List Pc)}, (∀ p ∈ l, Sg p) → Sg (joinP l)
  | [], _ => Sg.nil
  | [a], h => h a (by simp)
  | a :: b :: l, h => Sg.app (h a (by simp)) (Dm.comma _) (Sg.sig (by decide) (by decide) (Sg.gap (Sg.join fun p hp => h p (List.mem_cons_of_mem _ hp))))
theorem flat_join : ∀ (l : List (List Pc)), flatP (joinP l) = joinL [44, 32] (l.map flatP)
  | [] => rfl
  | [a] => by simp [joinP, joinL]
  | a :: b :: l => by
    rw [joinP, flatP_append, flatP_cons, flatP_cons, flat_join (b :: l)]
    simp [joinL, Pc.flat]
theorem flat_map {α : Type} (f : α → List Pc) (g : α → Str) (l : List α) (h : ∀ x ∈ l, flatP (f x) = g x) : flatP (joinP (l.map f)) = joinL [44, 32] (l.map g) := by
  rw [flat_join, List.map_map]
  congr 1
  exact List.map_congr_left h
theorem Sg.joinmap {α : Type} {f : α → List Pc} {l : List α} (h : ∀ x ∈ l, Sg (f x)) : Sg (joinP (l.map f)) := Sg.join fun p hp => by
  obtain ⟨x, hx, rfl⟩ := List.mem_map.1 hp
  exact h x hx
theorem Sg.nms {l : List Str} (h : ∀ s ∈ l, NameOk s) : Sg (namesP l) := Sg.joinmap fun s hs => Sg.name (h s hs) Dm.nil Sg.nil
theorem flat_nms (l : List Str) : flatP (namesP l) = joinL [44, 32] l := by
  have := flat_map (fun s : Str => [Pc.word s]) id l fun s _ => by simp [flatP, Pc.flat]
  rw [List.map_id] at this
  exact this
/-! ### The parts -/
theorem forever_lt : FOREVER < 1000000000000000000 := by decide
theorem Sg.per {p : Nat × Nat} (h : PerOk p) : Sg (perP p) := by
  obtain ⟨h1, h2⟩ := h
  have := forever_lt
  unfold perP
  refine Sg.num (by omega) (Dm.gap _) (Sg.gap (Sg.word (by decide) (Dm.gap _) (Sg.gap ?_)))
  split
  · exact Sg.word (by decide) Dm.nil Sg.nil
  · exact Sg.num (by omega) Dm.nil Sg.nil
theorem flat_per (p : Nat × Nat) : flatP (perP p) = spanT p := by
  unfold perP spanT toT
  split <;> simp [flatP, Pc.flat]
theorem Sg.whr {l : List Ex} (h : CondOk l) : Sg (whereS l) := by
  cases l with
  | nil => exact Sg.nil
  | cons e l => exact Sg.gap (Sg.word (by decide) (Dm.gap _) (Sg.gap (Sg.expr (h.2 e (by simp)).1)))
theorem Dm.whr (l : List Ex) : Dm (whereS l) := by
  cases l with
  | nil => exact Dm.nil
  | cons e l => exact Dm.gap _
theorem flat_whr {l : List Ex} (h : CondOk l) : flatP (whereS l) = whereT l := by
  cases l with
  | nil => rfl
  | cons e l =>
    have := pc_flat (h.2 e (by simp)).1
    unfold whereS whereT
    simp only [flatP_cons, Pc.flat, this]
    simp
theorem Sg.port {p : Nat × Nat} (h : PerOk p) : Sg (portP p) := by
  unfold portP
  split
  · exact Sg.nil
  · exact Sg.gap (Sg.word (by decide) (Dm.gap _) (Sg.gap (Sg.per h)))
theorem Dm.port (p : Nat × Nat) : Dm (portP p) := by
  unfold portP
  split
  · exact Dm.nil
  · exact Dm.gap _
theorem flat_port (p : Nat × Nat) : flatP (portP p) = portionT p := by
  unfold portP portionT
  split
  · rfl
  · simp only [flatP_cons, Pc.flat, flat_per]; simp
theorem Sg.keys {l : List Str} (h : ∀ s ∈ l, NameOk s) : Sg (keysQ l) := by
  unfold keysQ
  split
  · exact Sg.nil
  · exact Sg.gap (Sg.word (by decide) (Dm.gap _) (Sg.gap (Sg.word (by decide) (Dm.gap _) (Sg.gap (Sg.sig (by decide) (by decide) (Sg.app (Sg.nms h) (Dm.close _) (Sg.sig (by decide) (by decide) Sg.nil)))))))
theorem Dm.keys (l : List Str) : Dm (keysQ l) := by
  unfold keysQ
  split
  · exact Dm.nil
  · exact Dm.gap _
theorem Sg.ord {l : List Str} (h : ∀ s ∈ l, NameOk s) : Sg (ordP l) := by
  unfold ordP
  split
  · exact Sg.nil
  · exact Sg.gap (Sg.word (by decide) (Dm.gap _) (Sg.gap (Sg.word (by decide) (Dm.gap _) (Sg.gap (Sg.nms h)))))
theorem Dm.ord (l : List Str) : Dm (ordP l) := by
  unfold ordP
  split
  · exact Dm.nil
  · exact Dm.gap _
theorem flat_ord (l : List Str) : flatP (ordP l) = if l = [] then [] else [32, 79, 82, 68, 69, 82, 32, 66, 89, 32] ++ joinL [44, 32] l := by
  unfold ordP
  split
  · rfl
  · simp only [flatP_cons, Pc.flat, flat_nms]; simp
theorem Sg.dur {l : List (Nat × Nat)} (h : ∀ p ∈ l, PerOk p) : Sg (durP l) := by
  cases l with
  | nil => exact Sg.nil
  | cons p l => exact Sg.gap (Sg.word (by decide) (Dm.gap _) (Sg.gap (Sg.per (h p (by simp)))))
theorem Dm.dur (l : List (Nat × Nat)) : Dm (durP l) := by
  cases l with
  | nil => exact Dm.nil
  | cons e l => exact Dm.gap _
theorem flat_dur {l : List (Nat × Nat)} (h : l.length ≤ 1) : flatP (durP l) = (l.map fun p => [32, 68, 85, 82, 73, 78, 71, 32] ++ spanT p).flatten := by
  match l, h with
  | [], _ => rfl
  | [p], _ => unfold durP; simp only [flatP_cons, Pc.flat, flat_per]; simp
theorem Sg.asof {l : List Nat} (h : ∀ n ∈ l, n < 1000000000000000000) : Sg (asofP l) := by
  cases l with
  | nil => exact Sg.nil
  | cons p l => exact Sg.gap (Sg.word (by decide) (Dm.gap _) (Sg.gap (Sg.word (by decide) (Dm.gap _) (Sg.gap (Sg.num (h p (by simp)) Dm.nil Sg.nil)))))
theorem Dm.asof (l : List Nat) : Dm (asofP l) := by
  cases l with
  | nil => exact Dm.nil
  | cons e l => exact Dm.gap _
theorem flat_asof {l : List Nat} (h : l.length ≤ 1) : flatP (asofP l) = (l.map fun n => [32, 65, 83, 32, 79, 70, 32] ++ dec n).flatten := by
  match l, h with
  | [], _ => rfl
  | [p], _ => unfold asofP; simp [flatP, Pc.flat]
theorem Sg.ask {q : Qu} (h : WfQ q) : Sg (askP q) := by
  cases h with
  | all c t w => exact Sg.sig (s := [42]) (by decide) (by decide) Sg.nil
  | count c t w => exact Sg.word (s := [67, 79, 85, 78, 84]) (by decide) Dm.nil Sg.nil
  | sum c s t w h =>
    have hne : s ≠ [] := by rintro rfl; exact absurd h.1.1 (by decide)
    have hp : askP ⟨c, false, false, s, [], t, w⟩ = [.word [83, 85, 77], .gap [32], .word s] := by simp [askP, hne]
    rw [hp]
    exact Sg.word (by decide) (Dm.gap _) (Sg.gap (Sg.name h Dm.nil Sg.nil))
  | items c l t w hn hl =>
    have hp : askP ⟨c, false, false, [], l, t, w⟩ = joinP (l.map pcE) := by simp [askP]
    rw [hp]
    refine Sg.joinmap fun e he => ?_
    obtain ⟨t, o, k1, k2, rfl⟩ := hl e he
    exact Sg.expr (.name t o k1 k2)
theorem flat_ask {q : Qu} (h : WfQ q) : flatP (askP q) = askT q := by
  cases h with
  | all c t w => rfl
  | count c t w => rfl
  | sum c s t w h =>
    have hne : s ≠ [] := by rintro rfl; exact absurd h.1.1 (by decide)
    simp [askP, askT, hne, flatP, Pc.flat]
  | items c l t w hn hl =>
    have hp : askP ⟨c, false, false, [], l, t, w⟩ = joinP (l.map pcE) := by simp [askP]
    have hp' : askT ⟨c, false, false, [], l, t, w⟩ = joinL [44, 32] (l.map textE) := by simp [askT]
    rw [hp, hp']
    refine flat_map pcE textE l fun e he => ?_
    obtain ⟨t, o, k1, k2, rfl⟩ := hl e he
    exact pc_flat (.name t o k1 k2)
theorem Sg.qu {q : Qu} (h : GQ q) : Sg (queryP q) := by
  have t : Sg (askP q ++ (.gap [32] :: .word [70, 82, 79, 77] :: .gap [32] :: (namesP q.tables ++ whereS q.cond))) :=
    Sg.app (Sg.ask h.ask) (Dm.gap _) (Sg.gap (Sg.word (by decide) (Dm.gap _) (Sg.gap (Sg.app (Sg.nms h.tab.2.2) (Dm.whr _) (Sg.whr h.cond)))))
  refine Sg.word (by decide) (Dm.gap _) (Sg.gap ?_)
  split
  · exact Sg.word (by decide) (Dm.gap _) (Sg.gap t)
  · exact t
theorem flat_qu {q : Qu} (h : GQ q) : flatP (queryP q) = queryT q := by
  unfold queryP queryT
  simp only [flatP_cons, flatP_append, Pc.flat, flat_ask h.ask, flat_nms, flat_whr h.cond]
  split <;> simp [flatP, Pc.flat]
theorem Sg.more : ∀ {o : List Str} {qs : List Qu}, o.length = qs.length → (∀ s ∈ o, s ∈ ([[85, 78, 73, 79, 78], [69, 88, 67, 69, 80, 84]] : List Str)) → (∀ q ∈ qs, GQ q) → Sg (moreP o qs) ∧ Dm (moreP o qs) ∧ flatP (moreP o qs) = moreT o qs
  | [], [], _, _, _ => ⟨Sg.nil, Dm.nil, rfl⟩
  | s :: o, q :: qs, hl, ho, hq => by
    obtain ⟨h1, h2, h3⟩ := Sg.more (o := o) (qs := qs) (by simpa using hl) (fun s hs => ho s (List.mem_cons_of_mem _ hs)) (fun q hs => hq q (List.mem_cons_of_mem _ hs))
    have hw : headL s = true ∧ ∀ x ∈ s, isW x = true := by
      have := ho s (by simp)
      simp only [List.mem_cons, List.not_mem_nil, or_false] at this
      rcases this with rfl | rfl <;> decide
    refine ⟨Sg.gap (Sg.word hw (Dm.gap _) (Sg.gap (Sg.app (Sg.qu (hq q (by simp))) h2 h1))), Dm.gap _, ?_⟩
    rw [moreP, moreT]
    simp only [flatP_cons, flatP_append, Pc.flat, flat_qu (hq q (by simp)), h3]
    simp
  | [], _ :: _, hl, _, _ => by simp at hl
  | _ :: _, [], hl, _, _ => by simp at hl
theorem stP_fits {x : St} (h : WfS x) : Sg (stP x) ∧ flatP (stP x) = printT x := by
  cases h with
  | create t l k ht hn hl hk =>
    have hp : stP { St.none with kind := [67, 82, 69, 65, 84, 69], table := t, columns := l, keys := k } = .word [67, 82, 69, 65, 84, 69] :: .gap [32] :: .word [84, 65, 66, 76, 69] :: .gap [32] :: createP t l k := by simp [stP]
    have hq : printT { St.none with kind := [67, 82, 69, 65, 84, 69], table := t, columns := l, keys := k } = [67, 82, 69, 65, 84, 69, 32, 84, 65, 66, 76, 69, 32] ++ t ++ [32, 40] ++ joinL [44, 32] (l.map colT) ++ [41] ++ (if k = [] then [] else [32, 78, 79, 32, 79, 86, 69, 82, 76, 65, 80, 32, 40] ++ joinL [44, 32] k ++ [41]) := by simp [printT]
    rw [hp, hq]
    have hc : ∀ c ∈ l, Sg (colP c) := fun c hc => by
      refine Sg.name (hl c hc).1 (Dm.gap _) (Sg.gap ?_)
      split
      · exact Sg.word (by decide) Dm.nil Sg.nil
      · exact Sg.word (by decide) Dm.nil Sg.nil
    refine ⟨Sg.word (by decide) (Dm.gap _) (Sg.gap (Sg.word (by decide) (Dm.gap _) (Sg.gap (Sg.name ht (Dm.gap _) (Sg.gap (Sg.sig (by decide) (by decide) (Sg.app (Sg.joinmap hc) (Dm.close _) (Sg.sig (by decide) (by decide) (Sg.keys hk))))))))), ?_⟩
    have hf : flatP (joinP (l.map colP)) = joinL [44, 32] (l.map colT) := flat_map colP colT l fun c _ => by
      unfold colP colT
      split <;> simp [flatP, Pc.flat]
    have hg : flatP (keysQ k) = if k = [] then [] else [32, 78, 79, 32, 79, 86, 69, 82, 76, 65, 80, 32, 40] ++ joinL [44, 32] k ++ [41] := by
      unfold keysQ
      split
      · rfl
      · simp only [flatP_cons, flatP_append, Pc.flat, flat_nms]; simp [flatP]
    unfold createP
    simp only [flatP_cons, flatP_append, Pc.flat, hf, hg]
    simp
  | index t ht =>
    have hp : stP { St.none with kind := [73, 78, 68, 69, 88], table := t } = .word [67, 82, 69, 65, 84, 69] :: .gap [32] :: [.word [73, 78, 68, 69, 88], .gap [32], .word [79, 78], .gap [32], .word t] := by simp [stP]
    have hq : printT { St.none with kind := [73, 78, 68, 69, 88], table := t } = [67, 82, 69, 65, 84, 69, 32, 73, 78, 68, 69, 88, 32, 79, 78, 32] ++ t := by simp [printT]
    rw [hp, hq]
    refine ⟨Sg.word (by decide) (Dm.gap _) (Sg.gap (Sg.word (by decide) (Dm.gap _) (Sg.gap (Sg.word (by decide) (Dm.gap _) (Sg.gap (Sg.name ht Dm.nil Sg.nil)))))), ?_⟩
    simp [flatP, Pc.flat]
  | insert t l p ht hn hl hp =>
    have hq : stP { St.none with kind := [73, 78, 83, 69, 82, 84], table := t, values := l, period := p } = .word [73, 78, 83, 69, 82, 84] :: .gap [32] :: insertP t l p := by simp [stP]
    have hr : printT { St.none with kind := [73, 78, 83, 69, 82, 84], table := t, values := l, period := p } = [73, 78, 83, 69, 82, 84, 32, 73, 78, 84, 79, 32] ++ t ++ [32, 86, 65, 76, 85, 69, 83, 32, 40] ++ joinL [44, 32] (l.map textE) ++ [41, 32, 70, 82, 79, 77, 32] ++ spanT p := by simp [printT]
    rw [hq, hr]
    refine ⟨Sg.word (by decide) (Dm.gap _) (Sg.gap (Sg.word (by decide) (Dm.gap _) (Sg.gap (Sg.name ht (Dm.gap _) (Sg.gap (Sg.word (by decide) (Dm.gap _) (Sg.gap (Sg.sig (by decide) (by decide)
      (Sg.app (Sg.joinmap fun e he => Sg.expr (hl e he).1) (Dm.close _) (Sg.sig (by decide) (by decide) (Sg.gap (Sg.word (by decide) (Dm.gap _) (Sg.gap (Sg.per hp)))))))))))))), ?_⟩
    have hf : flatP (joinP (l.map pcE)) = joinL [44, 32] (l.map textE) := flat_map pcE textE l fun e he => pc_flat (hl e he).1
    unfold insertP
    simp only [flatP_cons, flatP_append, Pc.flat, hf, flat_per]
    simp
  | update t l p c ht hn hl hp hc =>
    have hq : stP { St.none with kind := [85, 80, 68, 65, 84, 69], table := t, sets := l, period := p, cond := c } = .word [85, 80, 68, 65, 84, 69] :: .gap [32] :: updateP t l p c := by simp [stP]
    have hr : printT { St.none with kind := [85, 80, 68, 65, 84, 69], table := t, sets := l, period := p, cond := c } = [85, 80, 68, 65, 84, 69, 32] ++ t ++ [32, 83, 69, 84, 32] ++ joinL [44, 32] (l.map setT) ++ portionT p ++ whereT c := by simp [printT]
    rw [hq, hr]
    have hs : ∀ e ∈ l, Sg (setQ e) := fun e he => Sg.name (hl e he).1 (Dm.gap _) (Sg.gap (Sg.sig (by decide) (by decide) (Sg.gap (Sg.expr (hl e he).2.1))))
    refine ⟨Sg.word (by decide) (Dm.gap _) (Sg.gap (Sg.name ht (Dm.gap _) (Sg.gap (Sg.word (by decide) (Dm.gap _) (Sg.gap (Sg.app (Sg.joinmap hs) (Dm.app (Dm.port _) (Dm.whr _)) (Sg.app (Sg.port hp) (Dm.whr _) (Sg.whr hc)))))))), ?_⟩
    have hf : flatP (joinP (l.map setQ)) = joinL [44, 32] (l.map setT) := flat_map setQ setT l fun e he => by
      unfold setQ setT
      simp only [flatP_cons, Pc.flat, pc_flat (hl e he).2.1]; simp
    unfold updateP
    simp only [flatP_cons, flatP_append, Pc.flat, hf, flat_port, flat_whr hc]
    simp
  | delete t p c ht hp hc =>
    have hq : stP { St.none with kind := [68, 69, 76, 69, 84, 69], table := t, period := p, cond := c } = .word [68, 69, 76, 69, 84, 69] :: .gap [32] :: deleteP t p c := by simp [stP]
    have hr : printT { St.none with kind := [68, 69, 76, 69, 84, 69], table := t, period := p, cond := c } = [68, 69, 76, 69, 84, 69, 32, 70, 82, 79, 77, 32] ++ t ++ portionT p ++ whereT c := by simp [printT]
    rw [hq, hr]
    refine ⟨Sg.word (by decide) (Dm.gap _) (Sg.gap (Sg.word (by decide) (Dm.gap _) (Sg.gap (Sg.name ht (Dm.app (Dm.port _) (Dm.whr _)) (Sg.app (Sg.port hp) (Dm.whr _) (Sg.whr hc)))))), ?_⟩
    unfold deleteP
    simp only [flatP_cons, flatP_append, Pc.flat, flat_port, flat_whr hc]
    simp
  | word k hk =>
    simp only [List.mem_cons, List.not_mem_nil, or_false] at hk
    rcases hk with rfl | rfl | rfl <;> exact ⟨Sg.word (by decide) Dm.nil Sg.nil, rfl⟩
  | select q qs o a d r hq hqs hl ho ha hd hr =>
    have hp : stP { St.none with kind := [83, 69, 76, 69, 67, 84], query := q :: qs, ops := o, asOf := a, during := d, order := r } = selectP q qs o a d r := by simp [stP]
    have hr' : printT { St.none with kind := [83, 69, 76, 69, 67, 84], query := q :: qs, ops := o, asOf := a, during := d, order := r } = queryT q ++ moreT o qs ++ (a.map fun n => [32, 65, 83, 32, 79, 70, 32] ++ dec n).flatten ++ (d.map fun p => [32, 68, 85, 82, 73, 78, 71, 32] ++ spanT p).flatten ++ (if r = [] then [] else [32, 79, 82, 68, 69, 82, 32, 66, 89, 32] ++ joinL [44, 32] r) := by simp [printT, selectT]
    rw [hp, hr']
    obtain ⟨m1, m2, m3⟩ := Sg.more hl ho hqs
    have hdo : Dm (durP d ++ ordP r) := Dm.app (Dm.dur d) (Dm.ord r)
    have hado : Dm (asofP a ++ (durP d ++ ordP r)) := Dm.app (Dm.asof a) hdo
    refine ⟨Sg.app (Sg.qu hq) (Dm.app m2 hado) (Sg.app m1 hado (Sg.app (Sg.asof ha.2) hdo (Sg.app (Sg.dur hd.2) (Dm.ord r) (Sg.ord hr)))), ?_⟩
    unfold selectP
    rw [flatP_append, flatP_append, flatP_append, flatP_append, flat_qu hq, m3, flat_asof ha.1, flat_dur hd.1, flat_ord]
    simp only [List.append_assoc]
/-- A statement's text reads back as the statement. -/
theorem parse_print {x : St} (h : WfS x) (hl : (printT x).length ≤ 4096) : parseOf (printT x) = .inr x := by
  obtain ⟨h1, h2⟩ := stP_fits h
  rw [← h2] at hl ⊢
  unfold parseOf
  rw [lexOf_pieces h1.1 (h1.2 [] Dl.nil) hl]
  simp only
  rw [whole_reads h (placeP_strip _ _)]
theorem where_wf {e : Ex} (h : GE 32 1 e) : WfS (qWhere e) := by
  refine WfS.select { Qu.none with items := [eName [65] []], tables := [[84]], cond := [e] } [] [] [] [] [] ⟨?_, ⟨by simp, by simp, ?_⟩, ⟨by simp, by simpa using h⟩⟩ (by simp) rfl (by simp) (by simp) (by simp) (by simp)
  · refine WfQ.items false [eName [65] []] [[84]] [e] (by simp) fun f hf => ?_
    obtain rfl : f = eName [65] [] := by simpa using hf
    exact ⟨[65], [], ⟨⟨by decide, by decide, by decide⟩, by decide, by decide⟩, .inl rfl, rfl⟩
  · intro s hs
    obtain rfl : s = [84] := by simpa using hs
    exact ⟨⟨by decide, by decide, by decide⟩, by decide, by decide⟩
theorem where_text (e : Ex) : printT (qWhere e) = [83, 69, 76, 69, 67, 84, 32, 65, 32, 70, 82, 79, 77, 32, 84, 32, 87, 72, 69, 82, 69, 32] ++ textE e := by
  have h : textE (eName [65] []) = [65] := by rw [text_name]; simp
  simp [printT, qWhere, selectT, queryT, askT, moreT, whereT, joinL, Qu.none, St.none, h]
/-- A condition's text reads back as the condition. -/
theorem where_back {e : Ex} (h : GE 32 1 e) (hl : ([83, 69, 76, 69, 67, 84, 32, 65, 32, 70, 82, 79, 77, 32, 84, 32, 87, 72, 69, 82, 69, 32] ++ textE e).length ≤ 4096) : parseOf ([83, 69, 76, 69, 67, 84, 32, 65, 32, 70, 82, 79, 77, 32, 84, 32, 87, 72, 69, 82, 69, 32] ++ textE e) = .inr (qWhere e) := by
  rw [← where_text] at hl ⊢
  exact parse_print (where_wf h) hl
theorem parse_long {l : Str} (h : 4096 < l.length) : parseOf l = .inl (2, 4096) := by
  unfold parseOf
  rw [lexOf_long h]
end Go.Proofs.YtkhnpmeohjafiaaGreatDoor
namespace Go.Proofs.YtkhnpmeohjafiaaGreatDoor

theorem spanT_len {p : Nat × Nat} (h : PerOk p) : (spanT p).length ≤ 50 := by
  obtain ⟨h1, h2⟩ := h
  have hf := forever_lt
  have a := dec18 (n := p.1) (by omega)
  have b := dec18 (n := p.2) (by omega)
  unfold spanT toT
  split <;> simp only [List.length_append, List.length_cons, List.length_nil] <;> omega
theorem portionT_len {p : Nat × Nat} (h : PerOk p) : (portionT p).length ≤ 60 := by
  have := spanT_len h
  unfold portionT
  split
  · simp
  · simp only [List.length_append, List.length_cons, List.length_nil]; omega
theorem whereT_le {l : List Ex} (h : CondOk l) : (whereT l).length ≤ sumL szX l := by
  cases l with
  | nil => simp [whereT]
  | cons e l =>
    have := textE_len (h.2 e (by simp)).1
    unfold whereT
    rw [sumL_cons]
    simp only [szX, List.length_append, List.length_cons, List.length_nil]
    omega
theorem names_len (l : List Str) : (joinL [44, 32] l).length ≤ sumL szN l := by
  have := joinL_len (m := szN) (f := id) (l := l) (fun x _ => by simp only [szN, id_eq]; omega)
  rwa [List.map_id] at this
theorem printT_len {x : St} (h : WfS x) : (printT x).length ≤ szS x + 400 := by
  cases h with
  | create t l k ht hn hl hk =>
    have hq : printT { St.none with kind := [67, 82, 69, 65, 84, 69], table := t, columns := l, keys := k } = [67, 82, 69, 65, 84, 69, 32, 84, 65, 66, 76, 69, 32] ++ t ++ [32, 40] ++ joinL [44, 32] (l.map colT) ++ [41] ++ (if k = [] then [] else [32, 78, 79, 32, 79, 86, 69, 82, 76, 65, 80, 32, 40] ++ joinL [44, 32] k ++ [41]) := by simp [printT]
    have h1 := joinL_len (m := szC) (f := colT) (l := l) (fun c _ => by unfold colT szC szN; split <;> simp <;> omega)
    have h2 := names_len k
    rw [hq]
    simp only [szS, St.none, sumL_nil]
    split <;> simp only [List.length_append, List.length_cons, List.length_nil] <;> omega
  | index t ht =>
    have hq : printT { St.none with kind := [73, 78, 68, 69, 88], table := t } = [67, 82, 69, 65, 84, 69, 32, 73, 78, 68, 69, 88, 32, 79, 78, 32] ++ t := by simp [printT]
    rw [hq]
    simp only [szS, St.none, sumL_nil, List.length_append, List.length_cons, List.length_nil]
    omega
  | insert t l p ht hn hl hp =>
    have hr : printT { St.none with kind := [73, 78, 83, 69, 82, 84], table := t, values := l, period := p } = [73, 78, 83, 69, 82, 84, 32, 73, 78, 84, 79, 32] ++ t ++ [32, 86, 65, 76, 85, 69, 83, 32, 40] ++ joinL [44, 32] (l.map textE) ++ [41, 32, 70, 82, 79, 77, 32] ++ spanT p := by simp [printT]
    have h1 := joinL_len (m := szX) (f := textE) (l := l) (fun e he => by have := textE_len (hl e he).1; unfold szX; omega)
    have h2 := spanT_len hp
    rw [hr]
    simp only [szS, St.none, sumL_nil, List.length_append, List.length_cons, List.length_nil]
    omega
  | update t l p c ht hn hl hp hc =>
    have hr : printT { St.none with kind := [85, 80, 68, 65, 84, 69], table := t, sets := l, period := p, cond := c } = [85, 80, 68, 65, 84, 69, 32] ++ t ++ [32, 83, 69, 84, 32] ++ joinL [44, 32] (l.map setT) ++ portionT p ++ whereT c := by simp [printT]
    have h1 := joinL_len (m := szT) (f := setT) (l := l) (fun e he => by have := textE_len (hl e he).2.1; unfold setT szT szX szN; simp; omega)
    have h2 := portionT_len hp
    have h3 := whereT_le hc
    rw [hr]
    simp only [szS, St.none, sumL_nil, List.length_append, List.length_cons, List.length_nil]
    omega
  | delete t p c ht hp hc =>
    have hr : printT { St.none with kind := [68, 69, 76, 69, 84, 69], table := t, period := p, cond := c } = [68, 69, 76, 69, 84, 69, 32, 70, 82, 79, 77, 32] ++ t ++ portionT p ++ whereT c := by simp [printT]
    have h2 := portionT_len hp
    have h3 := whereT_le hc
    rw [hr]
    simp only [szS, St.none, sumL_nil, List.length_append, List.length_cons, List.length_nil]
    omega
  | word k hk =>
    simp only [List.mem_cons, List.not_mem_nil, or_false] at hk
    rcases hk with rfl | rfl | rfl <;> simp [printT, St.none]
  | select q qs o a d r hq hqs hl ho ha hd hr =>
    have hr' : printT { St.none with kind := [83, 69, 76, 69, 67, 84], query := q :: qs, ops := o, asOf := a, during := d, order := r } = queryT q ++ moreT o qs ++ (a.map fun n => [32, 65, 83, 32, 79, 70, 32] ++ dec n).flatten ++ (d.map fun p => [32, 68, 85, 82, 73, 78, 71, 32] ++ spanT p).flatten ++ (if r = [] then [] else [32, 79, 82, 68, 69, 82, 32, 66, 89, 32] ++ joinL [44, 32] r) := by simp [printT, selectT]
    have h1 := queryT_len hq
    have h2 := moreT_len o qs hqs
    have h3 : ((a.map fun n => [32, 65, 83, 32, 79, 70, 32] ++ dec n).flatten).length ≤ 50 := by
      match a, ha with
      | [], _ => simp
      | [n], ha =>
        have := dec18 (ha.2 n (by simp))
        simp; omega
    have h4 : ((d.map fun p => [32, 68, 85, 82, 73, 78, 71, 32] ++ spanT p).flatten).length ≤ 60 := by
      match d, hd with
      | [], _ => simp
      | [p], hd =>
        have := spanT_len (hd.2 p (by simp))
        simp; omega
    have h5 := names_len r
    rw [hr']
    simp only [szS, St.none, sumL_nil, sumL_cons]
    split <;> simp only [List.length_append, List.length_cons, List.length_nil] <;> omega
/-- The expressions that are read back one by one. -/
def exL (x : St) : List Ex := x.cond ++ x.values
theorem exL_ok {x : St} (h : WfS x) : ∀ e ∈ exL x, GE 32 1 e := by
  intro e he
  unfold exL at he
  cases h with
  | insert t l p ht hn hl hp => simp [St.none] at he; exact hl e he
  | update t l p c ht hn hl hp hc => simp [St.none] at he; exact hc.2 e he
  | delete t p c ht hp hc => simp [St.none] at he; exact hc.2 e he
  | create => simp [St.none] at he
  | index => simp [St.none] at he
  | word => simp [St.none] at he
  | select => simp [St.none] at he
theorem exL_sz {x : St} (h : szS x ≤ 100000000) : (exL x).length ≤ 200000000 ∧ ∀ e ∈ exL x, szE e ≤ 100000000 := by
  have h1 : sumL szX x.values ≤ 100000000 ∧ sumL szX x.cond ≤ 100000000 := by unfold szS at h; omega
  have hx : ∀ e, 1 ≤ szX e := fun e => by unfold szX; omega
  constructor
  · have a := sum_len hx x.values
    have b := sum_len hx x.cond
    unfold exL
    rw [List.length_append]; omega
  · intro e he
    rcases List.mem_append.1 he with he | he
    · have := mem_sum (m := szX) he; have h2 : szX e = szE e + 10 := rfl; omega
    · have := mem_sum (m := szX) he; have h2 : szX e = szE e + 10 := rfl; omega
end Go.Proofs.YtkhnpmeohjafiaaGreatDoor
namespace Go.Proofs.YtkhnpmeohjafiaaGreatDoor
open Go.RowKit

section
variable {P : Program} {w : World} {ops : Array Oper} {rest : List Oper} {o : Oper} {a : Act} {Q : Exit → Act → World → Prop}
theorem app_empty {t e : TypeId} {size bytes : Nat} (E : EI P t e size bytes) (hgd : o.guard = none) (s x : Operand)
    (ho : o.op = .call { callee := .builtin .append, args := #[s, x], argTypes := #[t, t] })
    {b : Nat} (hs : a.eval s = .slice (some ⟨b, 0, none⟩) 0 0) (hb : w.heap[b]? = some (.cells #[] e (0, 0)))
    {g2 : Option Nat} {m c : Nat} {news : List Value} (hx : a.eval x = slv g2 m c) (hown2 : Sl w e size g2 m c news) (h1 : ∀ u ∈ news, u.oneCell' = true) (hbb : m * bytes ≤ 140737488355328)
    (h : ∀ g' cap' w', Sl w' e size g' m cap' news → Ext w w' → (∀ k, g' = some k → k = b ∨ w.heap.size ≤ k) → wpList P ops Q rest (a.put o.dst (slv g' m cap')) w') : wpList P ops Q (o :: rest) a w := by
  obtain ⟨i, z, hi, hz, h2, h3, h4⟩ := E.info
  have hSb : Sl w e size (some b) 0 0 [] := ⟨by simp, #[], hb, Nat.le_refl _, Nat.zero_le _, by simp, by simp⟩
  cases g2 with
  | none =>
    obtain ⟨hl, rfl, rfl⟩ := hown2
    have hn : news = [] := List.eq_nil_of_length_eq_zero (by simpa using hl)
    subst hn
    refine wpList_append_own_none hgd s x t ho 0 e i size E.und hi (slv (some b) 0 0) 0 [] (by rw [hs]; rfl) hSb.owns hx ?_
    exact h (some b) 0 w hSb (Ext.refl _) (fun k hk => .inl (by cases hk; rfl))
  | some b2 =>
    have h63 : 0 + m ≤ maxLen := by
      have := Nat.le_mul_of_pos_right m E.bpos
      simp only [maxLen]
      omega
    refine wpList_append_arg w hgd s x t ho e i z size bytes E.und hi hz h2 h3 h4 E.pos b 0 0 0 [] hs (by simp) (by simp) ⟨b2, 0, none⟩ m c news hx hown2.len (fun j u hu => by rw [Addr.add_lit, Nat.zero_add]; exact hown2.cell hu) h1 ?_ h63 (by simpa using hbb) ?_ ?_
    · intro hm j hj
      have hl := hown2.len
      have h0 : m = 0 := by omega
      rw [h0, Nat.zero_mul] at hl
      omega
    · intro hm
      have h0 : m = 0 := by omega
      subst h0
      have hn : news = [] := List.eq_nil_of_length_eq_zero (by simpa using hown2.len)
      subst hn
      exact h (some b) 0 w hSb (Ext.refl _) (fun k hk => .inl (by cases hk; rfl))
    · intro hm v' w' hown' hgr
      have hE : Ext w w' := ⟨hgr.os, hgr.tape, hgr.output, hgr.size, fun k hk => hgr.block k hk (by simp)⟩
      rcases hown'.2 with ⟨rfl, h0⟩ | ⟨g', cap', cur, rfl, hge, hgg, h5, h6, h7, h8⟩
      · omega
      · have hv : (.slice (some ⟨g', 0, none⟩) (0 + m) cap' : Value) = slv (some g') m cap' := by simp [slv, adr]
        rw [hv]
        refine h (some g') cap' w' ?_ hE (fun k hk => .inr (by cases hk; exact hge))
        refine ⟨by simpa using hown'.1, cur, hgg, by omega, h6, h7, by simpa using h8⟩
end
end Go.Proofs.YtkhnpmeohjafiaaGreatDoor
