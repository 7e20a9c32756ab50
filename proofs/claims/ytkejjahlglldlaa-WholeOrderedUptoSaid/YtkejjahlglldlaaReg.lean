/- A law for regions that draw their order: light operations (pure, or loads) first, heavy ones one by one in their forced order; what a heavy operation may not touch is tracked. No program is named here. -/
import Derived.WalkKit
import Derived.OrdersHeld
namespace Go.Proofs.Ytkejjahlglldlaa
open Go.RowKit

/-- w' is w with blocks put behind; what was there is as it was. -/
abbrev Ext (w w' : World) : Prop := Below w.heap.size w w'

theorem Ext.refl (w : World) : Ext w w := Below.refl _ _
theorem Ext.trans {a b c : World} (h : Ext a b) (k : Ext b c) : Ext a c := Below.trans h (k.mono h.size)
theorem Ext.alloc {a w : World} (h : Ext a w) (o : Obj) : Ext a (w.alloc o) := Below.alloc h h.size o
theorem Ext.drew {a w : World} (h : Ext a w) : Ext a w.drew := Below.drew h
theorem Ext.block {a w : World} (h : Ext a w) {k : Nat} {o : Obj} (hk : a.heap[k]? = some o) : w.heap[k]? = some o := by
  rw [← hk]
  exact Below.block h k (Array.getElem?_eq_some_iff.1 hk).1
theorem Ext.cell {a w : World} (h : Ext a w) {p : Addr} {v : Value} (hk : a.cell? p = some v) : w.cell? p = some v := by
  rw [← hk]
  refine Below.cell h ?_
  unfold World.cell? at hk
  split at hk
  · rename_i c t f hb
    exact (Array.getElem?_eq_some_iff.1 hb).1
  · exact absurd hk (by simp)

/-- A computation that reads alone. -/
inductive RO {α : Type} : Sem α → Prop where
  | pure (a : α) : RO (.pure a)
  | load (m : Mode) (a : Addr) (k : Value → Sem α) (h : ∀ v, RO (k v)) : RO (.load m a k)
  | getObj (r : Nat) (k : Obj → Sem α) (h : ∀ o, RO (k o)) : RO (.getObj r k)
  | program (k : Program → Sem α) (h : ∀ p, RO (k p)) : RO (.program k)
  | halt (h : Halt) : RO (.halt h)

theorem RO.bind {α β : Type} {s : Sem α} {f : α → Sem β} (hs : RO s) (hf : ∀ a, RO (f a)) : RO (s >>= f) := by
  show RO (Sem.bind s f)
  induction hs with
  | pure a => exact hf a
  | load m a k _ ih => exact .load m a _ ih
  | getObj r k _ ih => exact .getObj r _ ih
  | program k _ ih => exact .program _ ih
  | halt h => exact .halt h

theorem farLoad_ext {P : Program} {w w' : World} {a : Addr} {b : Bool} {r : Value × List Addr} (he : Ext w w')
    (h : w.farLoad P a b = .ok r) : w'.farLoad P a b = .ok r := by
  unfold World.farLoad at h
  cases hb : w.heap[a.block]? with
  | none => rw [hb] at h; simp at h
  | some o =>
    have hb' := Ext.block he hb
    unfold World.farLoad
    rw [hb] at h
    rw [hb']
    cases o <;> simp only [] at h ⊢ <;> try (simp at h; done)
    rename_i at_ u
    cases hv : w.viewLoad P at_ u a b with
    | error e => rw [hv] at h; simp at h
    | ok q =>
      rw [hv] at h
      have hv' : w'.viewLoad P at_ u a b = .ok q := by
        rw [← hv]
        cases hc : w.heap[at_.block]? with
        | some o2 =>
          have hc' := Ext.block he hc
          simp only [World.viewLoad, World.seen, hc, hc']
        | none =>
          exfalso
          have ht : ∀ {β : Type} (e : String), (MonadExcept.throw e : Except String β) = .error e := fun _ => rfl
          simp only [World.viewLoad] at hv
          cases hs : w.seen P at_ u a b with
          | error e => rw [hs] at hv; simp [bind, Except.bind] at hv
          | ok q2 =>
            simp only [World.seen, hc, bind, Except.bind, throw, throwThe, MonadExceptOf.throw, ht] at hs
            split at hs
            · simp at hs
            · repeat' split at hs
              all_goals simp at hs
      rw [hv']
      exact h

theorem RO.run {α : Type} {s : Sem α} (hs : RO s) {P : Program} {w w1 : World} {r : α} (h : s.run P w = .ok r w1) :
    w1 = w ∧ ∀ w', Ext w w' → s.run P w' = .ok r w' := by
  induction hs generalizing r w1 with
  | pure a =>
    simp only [Sem.run, Result.ok.injEq] at h
    obtain ⟨rfl, rfl⟩ := h
    exact ⟨rfl, fun _ _ => rfl⟩
  | load m a k _ ih =>
    simp only [Sem.run] at h
    cases hc : w.cell? a with
    | some v =>
      rw [hc] at h
      obtain ⟨h1, h2⟩ := ih v h
      refine ⟨h1, fun w' he => ?_⟩
      simp only [Sem.run, Ext.cell he hc]
      exact h2 w' he
    | none =>
      rw [hc] at h
      simp only [] at h
      cases hf : w.farLoad P a (m == .atomic) with
      | error e => rw [hf] at h; simp at h
      | ok q =>
        obtain ⟨v, l⟩ := q
        rw [hf] at h
        obtain ⟨h1, h2⟩ := ih v h
        refine ⟨h1, fun w' he => ?_⟩
        have hf' := farLoad_ext he hf
        have hc' : w'.cell? a = none := by
          have hb : w'.heap[a.block]? = w.heap[a.block]? := by
            cases hb : w.heap[a.block]? with
            | some o => exact Ext.block he hb
            | none => simp only [World.farLoad, hb] at hf; simp at hf
          rw [World.cell?_of_block (w := w) hb, hc]
        simp only [Sem.run, hc', hf']
        exact h2 w' he
  | getObj rr k _ ih =>
    simp only [Sem.run] at h
    cases hb : w.heap[rr]? with
    | none => rw [hb] at h; simp at h
    | some o =>
      rw [hb] at h
      cases o <;> simp only [] at h <;> first
        | (simp at h; done)
        | (obtain ⟨h1, h2⟩ := ih _ h
           refine ⟨h1, fun w' he => ?_⟩
           simp only [Sem.run, Ext.block he hb]
           exact h2 w' he)
  | program k _ ih =>
    simp only [Sem.run] at h
    obtain ⟨h1, h2⟩ := ih P h
    exact ⟨h1, fun w' he => by simp only [Sem.run]; exact h2 w' he⟩
  | halt h0 => simp [Sem.run] at h

theorem RO.underlying (t : TypeId) : RO (Go.underlying t) := by
  unfold Go.underlying
  refine RO.bind (.program _ fun p => .pure _) fun p => ?_
  split
  · exact .pure _
  · exact .halt _
theorem RO.typeInfo (t : TypeId) : RO (Go.typeInfo t) := by
  unfold Go.typeInfo
  refine RO.bind (.program _ fun p => .pure _) fun p => ?_
  split
  · exact .pure _
  · exact .halt _
theorem RO.sizeOf (t : TypeId) : RO (Go.sizeOf t) := RO.bind (RO.typeInfo t) fun _ => .pure _
theorem RO.isAgg (t : TypeId) : RO (Go.isAgg t) := by
  unfold Go.isAgg
  refine RO.bind (RO.underlying t) fun d => ?_
  split <;> exact .pure _
theorem RO.load' (a : Addr) : RO (Go.load a) := .load _ a _ fun v => .pure v
theorem RO.loadCellsFrom (a : Addr) : ∀ (n i : Nat) (acc : Array Value), RO (Go.loadCellsFrom a i n acc)
  | 0, _, _ => .pure _
  | n + 1, i, acc => RO.bind (RO.load' _) fun v => RO.loadCellsFrom a n (i + 1) (acc.push v)
theorem RO.loadVar (t : TypeId) (a : Addr) : RO (Go.loadVar t a) := by
  unfold Go.loadVar
  refine RO.bind (RO.isAgg t) fun b => ?_
  split
  · exact RO.bind (RO.sizeOf t) fun n => RO.bind (RO.loadCellsFrom a n 0 #[]) fun _ => .pure _
  · exact RO.load' a
theorem RO.loadAt (t : TypeId) (v : Value) : RO (Instr.loadAt t v) := by
  unfold Instr.loadAt
  refine RO.bind ?_ fun a => RO.loadVar t a
  unfold Instr.sureAddr
  split
  · exact .pure _
  · exact .halt _

/-- The operation yields v in every world that comes behind w. -/
def YieldsE (P : Program) (ops : Array Oper) (w : World) (o : Oper) (v : Value) (a : Act) : Prop :=
  (Region.wanted o (yielded ops a.tmps) = true ∧ ∀ w', Ext w w' → (execOp a.eval o).run P w' = .ok (.value v) w') ∨
  (Region.wanted o (yielded ops a.tmps) = false ∧ v = undef)

/-- .. in every world at all. -/
def YieldsP (P : Program) (ops : Array Oper) (o : Oper) (v : Value) (a : Act) : Prop :=
  (Region.wanted o (yielded ops a.tmps) = true ∧ ∀ w', (execOp a.eval o).run P w' = .ok (.value v) w') ∨
  (Region.wanted o (yielded ops a.tmps) = false ∧ v = undef)

section
variable {P : Program} {ops : Array Oper} {Q : Exit → Act → World → Prop}

/-- What is asked of the world at hand ('lt' = true: it comes behind w; else nothing) for the light operation to yield v. -/
def YieldsB (P : Program) (ops : Array Oper) (lt : Bool) (w : World) (o : Oper) (v : Value) (a : Act) : Prop :=
  if lt then YieldsE P ops w o v a else YieldsP P ops o v a

theorem YieldsB.wpOp {lt : Bool} {i : Nat} {o : Oper} {v : Value} {a : Act} {w : World} (hi : ops[i]? = some o) (hy : YieldsB P ops lt w o v a)
    {K : Act → World → Prop} (h : K (a.put o.dst v) w) : wpOp P ops Q i K a w := by
  unfold Go.wpOp
  simp only [hi]
  cases lt <;> simp only [YieldsB, Bool.false_eq_true, if_false, if_true] at hy
  · rcases hy with ⟨hw, hv⟩ | ⟨hw, rfl⟩
    · simp only [hw, if_true, Oper.wp, hv w, Oper.upon]; exact .inl h
    · simp only [hw, Bool.false_eq_true, if_false]; exact h
  · rcases hy with ⟨hw, hv⟩ | ⟨hw, rfl⟩
    · simp only [hw, if_true, Oper.wp, hv w (Ext.refl w), Oper.upon]; exact .inl h
    · simp only [hw, Bool.false_eq_true, if_false]; exact h

theorem YieldsB.of_same {lt : Bool} {o : Oper} {v : Value} {a a' : Act} {w : World} (hy : YieldsB P ops lt w o v a) (he : execOp a'.eval o = execOp a.eval o)
    (hw : Region.wanted o (yielded ops a'.tmps) = Region.wanted o (yielded ops a.tmps)) : YieldsB P ops lt w o v a' := by
  unfold YieldsB YieldsE YieldsP at *
  rw [he, hw]
  exact hy

theorem YieldsB.later {lt : Bool} {o : Oper} {v : Value} {a : Act} {w w' : World} (hy : YieldsB P ops lt w o v a) (he : lt = true → Ext w w') : YieldsB P ops lt w' o v a := by
  cases lt <;> simp only [YieldsB, Bool.false_eq_true, if_false, if_true] at hy ⊢
  · exact hy
  · exact hy.imp (fun ⟨h1, h2⟩ => ⟨h1, fun w'' h => h2 w'' (Ext.trans (he rfl) h)⟩) id

theorem wpOp_putB {lt : Bool} {j : Nat} {oi oj : Oper} {v : Value} (hj : ops[j]? = some oj) (hap : oi.apart ops oj = true)
    (hsi : ∀ cs b, oi.op ≠ .select cs b) (hsj : ∀ cs b, oj.op ≠ .select cs b)
    (hQ : ∀ c a w, Q (.panic c) (a.put oi.dst v) w → Q (.panic c) a w) {K : Act → World → Prop} {a : Act} {w : World}
    (hy : YieldsB P ops lt w oi v a) (h : wpOp P ops Q j (fun a' w' => (lt = true → Ext w w') ∧ K a' w') (a.put oi.dst v) w) :
    wpOp P ops Q j (fun a' w' => (lt = true → Ext w w') ∧ YieldsB P ops lt w' oi v a' ∧ K (a'.put oi.dst v) w') a w := by
  obtain ⟨h1, h2, h3⟩ := Oper.apart_spec hap
  have keep : ∀ (a : Act), YieldsB P ops lt w oi v a → ∀ u, YieldsB P ops lt w oi v (a.put oj.dst u) := fun a hy u =>
    hy.of_same (execOp_put oi hsi a oj.dst u h3) (wanted_put oi a oj.dst u h3)
  have keepD : ∀ d, YieldsB P ops lt w oi v { a with defers := d :: a.defers } := fun d => hy.of_same rfl rfl
  unfold wpOp at *
  simp only [hj] at *
  rw [wanted_put oj a oi.dst v h1] at h
  split
  · rename_i hw
    simp only [hw, if_true] at h
    rcases h with h | ⟨hasks, hlets⟩
    case inr => exact .inr ⟨by unfold Oper.asks at *; rw [execOp_put oj hsj a oi.dst v h1] at hasks; exact hasks, hlets⟩
    refine .inl ?_
    unfold Oper.wp at *
    rw [execOp_put oj hsj a oi.dst v h1] at h
    generalize (execOp a.eval oj).run P w = r at *
    cases r with
    | ok n w' =>
      cases n <;> simp only [Oper.upon] at h ⊢
      case value u => exact ⟨h.1, (keep a hy u).later h.1, by rw [← Act.put_comm a v u h2]; exact h.2⟩
      case skip => exact ⟨h.1, (keep a hy _).later h.1, by rw [← Act.put_comm a v undef h2]; exact h.2⟩
      case defer d =>
        refine ⟨h.1, ((keepD d).of_same (execOp_put oi hsi _ oj.dst undef h3) (wanted_put oi _ oj.dst undef h3)).later h.1, ?_⟩
        rw [← Act.put_comm _ v undef h2, ← Act.put_defers]
        exact h.2
      case enter f args =>
        refine Calls.mono h fun e w'' he => ?_
        cases e with
        | returned u => exact ⟨he.1, (keep a hy u).later he.1, by rw [← Act.put_comm a v u h2]; exact he.2⟩
        | panicked c => exact hQ _ _ _ he
        | outgrown => exact he
      case row row args => exact Rows.mono h fun u w'' he => ⟨he.1, (keep a hy u).later he.1, by rw [← Act.put_comm a v u h2]; exact he.2⟩
    | halt x w' =>
      cases x <;> simp only [Oper.upon] at h ⊢
      case panic u => exact hQ _ _ _ h
  · rename_i hw
    simp only [hw] at h
    exact ⟨h.1, (keep a hy _).later h.1, by rw [← Act.put_comm a v undef h2]; exact h.2⟩

/-- Whatever order is picked from here on, the operations that T names leave what was there as it was. -/
def wpAnyT (P : Program) (ops : Array Oper) (Q : Exit → Act → World → Prop) (T : Nat → Bool) : Nat → Array Bool → Act → World → Prop
  | 0, listed, a, w => Region.ready .any ops listed = [] ∧ Q .normal a w
  | fuel + 1, listed, a, w =>
    (Region.ready .any ops listed = [] → Q .normal a w) ∧
    ∀ i ∈ Region.ready .any ops listed, wpOp P ops Q i (fun a' w' => (T i = true → Ext w w') ∧ wpAnyT P ops Q T fuel (listed.setIfInBounds i true) a' w') a w

theorem wpAny_of_T {T : Nat → Bool} : ∀ (fuel : Nat) (listed : Array Bool) (a : Act) (w : World), wpAnyT P ops Q T fuel listed a w → wpAny P .any ops Q fuel listed a w
  | 0, _, _, _, h => h
  | fuel + 1, _, _, _, h => ⟨h.1, fun i hi => wpOp_mono (fun a' w' h' => wpAny_of_T fuel _ a' w' h'.2) (h.2 i hi)⟩

/-- j comes behind i: by the table m of all that an operation waits for. -/
def waits (m : List Nat) (j i : Nat) : Bool := (m.getD j 0).testBit i

/-- The table m is right: what an operation waits for is an edge of its own, or what that edge's operation waits for. -/
def tableOk (ops : Array Oper) (m : List Nat) : Bool :=
  (List.range ops.size).all fun j => match ops[j]? with
    | none => true
    | some o => o.after.all (fun e => !Region.binds .any e || decide (e.on < j)) &&
      (m.getD j 0 ||| o.after.foldl (fun s e => if Region.binds .any e then s ||| 2 ^ e.on ||| m.getD e.on 0 else s) 0)
        == o.after.foldl (fun s e => if Region.binds .any e then s ||| 2 ^ e.on ||| m.getD e.on 0 else s) 0

theorem foldl_bit (m : List Nat) (i : Nat) : ∀ (l : List Edge) (s : Nat),
    (l.foldl (fun s e => if Region.binds .any e then s ||| 2 ^ e.on ||| m.getD e.on 0 else s) s).testBit i = true →
    s.testBit i = true ∨ ∃ e ∈ l, Region.binds .any e = true ∧ (e.on = i ∨ waits m e.on i = true)
  | [], s, h => .inl h
  | e :: l, s, h => by
    rw [List.foldl_cons] at h
    rcases foldl_bit m i l _ h with h | ⟨e', he', h'⟩
    · by_cases hb : Region.binds .any e = true
      · rw [if_pos hb, Nat.testBit_or, Nat.testBit_or, Bool.or_eq_true, Bool.or_eq_true] at h
        rcases h with (h | h) | h
        · exact .inl h
        · rw [Nat.testBit_two_pow] at h
          exact .inr ⟨e, by simp, hb, .inl (by simpa using h)⟩
        · exact .inr ⟨e, by simp, hb, .inr h⟩
      · rw [if_neg hb] at h; exact .inl h
    · exact .inr ⟨e', by simp [he'], h'⟩

theorem tableOk_spec {m : List Nat} (h : tableOk ops m = true) {j i : Nat} {o : Oper} (ho : ops[j]? = some o) (hw : waits m j i = true) :
    ∃ e ∈ o.after, Region.binds .any e = true ∧ e.on < j ∧ (e.on = i ∨ waits m e.on i = true) := by
  unfold tableOk at h
  rw [List.all_eq_true] at h
  have h1 := h j (by simp; exact (Array.getElem?_eq_some_iff.1 ho).1)
  simp only [ho, Bool.and_eq_true, beq_iff_eq] at h1
  obtain ⟨h1, h2⟩ := h1
  have h3 : (o.after.foldl (fun s e => if Region.binds .any e then s ||| 2 ^ e.on ||| m.getD e.on 0 else s) 0).testBit i = true := by
    rw [← h2, Nat.testBit_or]
    unfold waits at hw
    rw [hw]; rfl
  rw [← Array.foldl_toList] at h3
  rcases foldl_bit m i _ _ h3 with h3 | ⟨e, he, hb, h4⟩
  · simp at h3
  · have he' : e ∈ o.after := Array.mem_toList_iff.1 he
    have h5 := (Array.all_eq_true_iff_forall_mem.1 h1) e he'
    simp only [hb, Bool.not_true, Bool.false_or, decide_eq_true_eq] at h5
    exact ⟨e, he', hb, h5, h4⟩

/-- What has come up is closed: with an operation all that it waits for. -/
def Closed (ops : Array Oper) (listed : Array Bool) : Prop :=
  ∀ j o, ops[j]? = some o → listed.getD j false = true → ∀ e ∈ o.after, Region.binds .any e = true → listed.getD e.on false = true

theorem closed_waits {m : List Nat} (h : tableOk ops m = true) {listed : Array Bool} (hc : Closed ops listed) :
    ∀ (j : Nat) (o : Oper) (i : Nat), ops[j]? = some o → (∀ e ∈ o.after, Region.binds .any e = true → listed.getD e.on false = true) → waits m j i = true → listed.getD i false = true := by
  intro j
  induction j using Nat.strongRecOn with
  | _ j ih =>
    intro o i ho hall hw
    obtain ⟨e, he, hb, hlt, h1⟩ := tableOk_spec h ho hw
    have hl := hall e he hb
    rcases h1 with rfl | h1
    · exact hl
    · cases hoe : ops[e.on]? with
      | none =>
        exfalso
        have := Array.getElem?_eq_none_iff.1 hoe
        have := (Array.getElem?_eq_some_iff.1 ho).1
        omega
      | some oe => exact ih e.on hlt oe i hoe (hc e.on oe hoe hl) h1

theorem Closed.add {listed : Array Bool} (hc : Closed ops listed) {j : Nat} (hj : j ∈ Region.ready .any ops listed) : Closed ops (listed.setIfInBounds j true) := by
  intro k o ho hk e he hb
  obtain ⟨_, oj, hoj, hall⟩ := mem_ready.1 hj
  by_cases hjk : j = k
  · subst hjk
    rw [ho] at hoj; cases hoj
    exact getD_set_true (hall e he hb)
  · rw [getD_set_ne false hjk] at hk
    exact getD_set_true (hc k o ho hk e he hb)

/-- **A light operation may be taken first.** -/
theorem wpAnyT_first {T : Nat → Bool} {lt : Bool} {m : List Nat} (hm : tableOk ops m = true) {i : Nat} {oi : Oper} {v : Value} (hi : ops[i]? = some oi) (hsel : ∀ (j : Nat) (o : Oper) cs b, ops[j]? = some o → o.op ≠ .select cs b)
    (hQ : ∀ c a w, Q (.panic c) (a.put oi.dst v) w → Q (.panic c) a w) :
    ∀ (fuel : Nat) (listed : Array Bool) (a : Act) (w : World), Closed ops listed →
      (∀ j oj, ops[j]? = some oj → j ≠ i → listed.getD j true = false → waits m j i = false → oi.apart ops oj = true ∧ (lt = true → T j = true)) →
      (∀ j oj, ops[j]? = some oj → (∃ e ∈ oj.after, Region.binds .any e = true ∧ e.on = i) → waits m j i = true) →
      i ∈ Region.ready .any ops listed → YieldsB P ops lt w oi v a →
      wpAnyT P ops Q T fuel (listed.setIfInBounds i true) (a.put oi.dst v) w → wpAnyT P ops Q T (fuel + 1) listed a w := by
  intro fuel
  induction fuel with
  | zero =>
    intro listed a w _ _ _ hr hy H
    refine ⟨fun h => (by rw [h] at hr; cases hr), fun j hj => ?_⟩
    by_cases hji : j = i
    · subst hji; exact hy.wpOp hi ⟨fun _ => Ext.refl w, H⟩
    · have := ready_mono hj hji
      rw [H.1] at this
      cases this
  | succ fuel ih =>
    intro listed a w hcl hfree hdir hr hy H
    refine ⟨fun h => (by rw [h] at hr; cases hr), fun j hj => ?_⟩
    by_cases hji : j = i
    · subst hji; exact hy.wpOp hi ⟨fun _ => Ext.refl w, H⟩
    · have h1 := H.2 j (ready_mono hj hji)
      obtain ⟨hjun, oj, hoj, hall⟩ := mem_ready.1 hj
      have hi0 := (mem_ready.1 hr).1
      have hnw : waits m j i = false := by
        cases hw : waits m j i with
        | false => rfl
        | true =>
          have h2 := closed_waits hm hcl j oj i hoj hall hw
          rcases Nat.lt_or_ge i listed.size with h' | h'
          · simp [h'] at hi0 h2; rw [hi0] at h2; cases h2
          · simp [Array.getElem?_eq_none h'] at h2
      obtain ⟨hap, hT⟩ := hfree j oj hoj hji hjun hnw
      have h1' : wpOp P ops Q j (fun a' w' => (lt = true → Ext w w') ∧ (T j = true → Ext w w') ∧ wpAnyT P ops Q T fuel ((listed.setIfInBounds i true).setIfInBounds j true) a' w') (a.put oi.dst v) w :=
        wpOp_mono (fun a' w' h => ⟨fun hl => h.1 (hT hl), h⟩) h1
      have h2 := wpOp_putB hoj hap (fun cs b => hsel i oi cs b hi) (fun cs b => hsel j oj cs b hoj) hQ hy h1'
      refine wpOp_mono (fun a' w' h3 => ⟨h3.2.2.1, ih (listed.setIfInBounds j true) a' w' (hcl.add hj) (fun k ok hk hki hun hnw' => ?_) hdir (ready_mono hr (Ne.symm hji)) h3.2.1 ?_⟩) h2
      · refine hfree k ok hk hki ?_ hnw'
        by_cases hjk : j = k
        · subst hjk; exact hjun
        · rw [getD_set_ne true hjk] at hun; exact hun
      · rw [Array.setIfInBounds_comm _ _ hji]
        exact h3.2.2.2

/-- What a walk does: a pure operation, a load, an operation that yields the same in every later world, a heavy operation (tracked or not). -/
inductive PS where
  | p (i : Nat)
  | l (i : Nat)
  | e (i : Nat)
  | h (i : Nat) (tr : Bool)

def PS.no : PS → Nat
  | .p i | .l i | .e i | .h i _ => i

def PS.track : PS → Bool
  | .h _ tr => tr
  | _ => true

def planT (plan : List PS) (j : Nat) : Bool := plan.any fun s => s.no == j && s.track

/-- Taking i first is free: who does not wait for it is apart from it, and tracked, if the light operation leans on memory. -/
def lightOk (ops : Array Oper) (m : List Nat) (T : Nat → Bool) (listed : Array Bool) (i : Nat) (lt : Bool) : Bool :=
  (Region.ready .any ops listed).contains i &&
  match ops[i]? with
  | none => false
  | some oi => (List.range ops.size).all fun j => j == i || listed.getD j true || waits m j i || match ops[j]? with
      | some oj => oi.apart ops oj && (!lt || T j)
      | none => true

def isLoad (ops : Array Oper) (i : Nat) : Bool := match ops[i]? with
  | some o => match o.op with | .load .. => true | _ => false
  | none => false

def planOk (ops : Array Oper) (m : List Nat) (T : Nat → Bool) : List PS → Array Bool → Bool
  | [], listed => (Region.ready .any ops listed).isEmpty
  | .p i :: rest, listed => lightOk ops m T listed i false && planOk ops m T rest (listed.setIfInBounds i true)
  | .l i :: rest, listed => isLoad ops i && lightOk ops m T listed i true && planOk ops m T rest (listed.setIfInBounds i true)
  | .e i :: rest, listed => lightOk ops m T listed i true && planOk ops m T rest (listed.setIfInBounds i true)
  | .h i _ :: rest, listed => Region.ready .any ops listed == [i] && planOk ops m T rest (listed.setIfInBounds i true)

def dirOk (ops : Array Oper) (m : List Nat) : Bool :=
  (List.range ops.size).all fun j => match ops[j]? with
    | none => true
    | some o => o.after.all fun e => !Region.binds .any e || waits m j e.on

def regionOk (ops : Array Oper) (plan : List PS) : Bool :=
  Region.noSelect ops && tableOk ops (Region.before ops).toList && dirOk ops (Region.before ops).toList && plan.length == ops.size &&
    planOk ops (Region.before ops).toList (planT plan) plan (Array.replicate ops.size false)

def wpPlan (P : Program) (ops : Array Oper) (Q : Exit → Act → World → Prop) : List PS → Act → World → Prop
  | [], a, w => Q .normal a w
  | .p i :: rest, a, w => ∃ o, ops[i]? = some o ∧ if Region.wanted o (yielded ops a.tmps) then ∃ v, (∀ w', (execOp a.eval o).run P w' = .ok (.value v) w') ∧ wpPlan P ops Q rest (a.put o.dst v) w else wpPlan P ops Q rest (a.put o.dst undef) w
  | .l i :: rest, a, w => ∃ o, ops[i]? = some o ∧ if Region.wanted o (yielded ops a.tmps) then ∃ v, (execOp a.eval o).run P w = .ok (.value v) w ∧ wpPlan P ops Q rest (a.put o.dst v) w else wpPlan P ops Q rest (a.put o.dst undef) w
  | .e i :: rest, a, w => ∃ o, ops[i]? = some o ∧ if Region.wanted o (yielded ops a.tmps) then ∃ v, (∀ w', Ext w w' → (execOp a.eval o).run P w' = .ok (.value v) w') ∧ wpPlan P ops Q rest (a.put o.dst v) w else wpPlan P ops Q rest (a.put o.dst undef) w
  | .h i tr :: rest, a, w => wpOp P ops Q i (fun a' w' => (tr = true → Ext w w') ∧ wpPlan P ops Q rest a' w') a w

theorem run_load_value {o : Oper} {t : TypeId} {x : Operand} (ho : o.op = .load t x) {ρ : Operand → Value} {v : Value} {w w1 : World}
    (h : (execOp ρ o).run P w = .ok (.value v) w1) {w' : World} (he : Ext w w') : (execOp ρ o).run P w' = .ok (.value v) w' := by
  have hro : RO (execOp ρ o) := by
    unfold execOp
    simp only [ho]
    exact RO.bind (RO.loadAt t _) fun v => .pure _
  exact (hro.run h).2 w' he

theorem planOk_sound {m : List Nat} {T : Nat → Bool} (hm : tableOk ops m = true) (hd : dirOk ops m = true) (hs : Region.noSelect ops = true)
    (hQ : ∀ c a d v w, Q (.panic c) (a.put d v) w → Q (.panic c) a w) :
    ∀ (plan : List PS) (listed : Array Bool) (a : Act) (w : World), (∀ i tr, PS.h i tr ∈ plan → T i = true → tr = true) → Closed ops listed →
      planOk ops m T plan listed = true → wpPlan P ops Q plan a w → wpAnyT P ops Q T plan.length listed a w := by
  have hdir : ∀ i j oj, ops[j]? = some oj → (∃ e ∈ oj.after, Region.binds .any e = true ∧ e.on = i) → waits m j i = true := by
    rintro i j oj hj ⟨e, he, hb, rfl⟩
    unfold dirOk at hd
    rw [List.all_eq_true] at hd
    have h1 := hd j (by simp; exact (Array.getElem?_eq_some_iff.1 hj).1)
    simp only [hj] at h1
    have h2 := (Array.all_eq_true_iff_forall_mem.1 h1) e he
    simpa [hb] using h2
  have hl : ∀ {lt : Bool} {i : Nat} {rest : List PS} {listed : Array Bool} {a : Act} {w : World} {o : Oper} {v : Value}, Closed ops listed → ops[i]? = some o →
      lightOk ops m T listed i lt = true → YieldsB P ops lt w o v a → wpAnyT P ops Q T rest.length (listed.setIfInBounds i true) (a.put o.dst v) w →
      wpAnyT P ops Q T (rest.length + 1) listed a w := by
    intro lt i rest listed a w o v hc ho hk hy h
    unfold lightOk at hk
    simp only [ho, Bool.and_eq_true] at hk
    obtain ⟨hr, hk⟩ := hk
    refine wpAnyT_first hm ho (Region.noSelect_spec hs) (fun c a w => hQ c a _ _ w) _ listed a w hc (fun j oj hj hji hun hnw => ?_) (fun j oj => hdir i j oj) (by simpa using hr) hy h
    rw [List.all_eq_true] at hk
    have h1 := hk j (by simp; exact (Array.getElem?_eq_some_iff.1 hj).1)
    simp only [hj, Bool.or_eq_true, beq_iff_eq, hji, false_or, hun, Bool.false_eq_true, hnw, Bool.and_eq_true, Bool.not_eq_true'] at h1
    exact ⟨h1.1, fun hlt => h1.2.resolve_left (by simp [hlt])⟩
  intro plan
  induction plan with
  | nil => intro listed a w _ _ hk h; exact ⟨by simpa [planOk] using hk, h⟩
  | cons s rest ih =>
    intro listed a w hT hc hk h
    have hT' : ∀ i tr, PS.h i tr ∈ rest → T i = true → tr = true := fun i tr hm => hT i tr (List.mem_cons_of_mem _ hm)
    cases s with
    | p i =>
      simp only [planOk, Bool.and_eq_true] at hk
      obtain ⟨o, ho, h⟩ := h
      have hr : i ∈ Region.ready .any ops listed := by have := hk.1; unfold lightOk at this; simp only [Bool.and_eq_true] at this; simpa using this.1
      split at h
      · rename_i hw
        obtain ⟨v, hv, h⟩ := h
        exact hl (rest := rest) hc ho hk.1 (by simp only [YieldsB, Bool.false_eq_true, if_false]; exact .inl ⟨hw, hv⟩) (ih _ _ _ hT' (hc.add hr) hk.2 h)
      · rename_i hw
        exact hl (rest := rest) hc ho hk.1 (by simp only [YieldsB, Bool.false_eq_true, if_false]; exact .inr ⟨by simpa using hw, rfl⟩) (ih _ _ _ hT' (hc.add hr) hk.2 h)
    | l i =>
      simp only [planOk, Bool.and_eq_true] at hk
      obtain ⟨o, ho, h⟩ := h
      have hr : i ∈ Region.ready .any ops listed := by have := hk.1.2; unfold lightOk at this; simp only [Bool.and_eq_true] at this; simpa using this.1
      have hld : ∃ t x, o.op = .load t x := by
        have := hk.1.1
        simp only [isLoad, ho] at this
        cases ho' : o.op <;> simp [ho'] at this
        exact ⟨_, _, rfl⟩
      obtain ⟨t, x, hld⟩ := hld
      split at h
      · rename_i hw
        obtain ⟨v, hv, h⟩ := h
        exact hl (rest := rest) hc ho hk.1.2 (by simp only [YieldsB, if_true]; exact .inl ⟨hw, fun w' he => run_load_value hld hv he⟩) (ih _ _ _ hT' (hc.add hr) hk.2 h)
      · rename_i hw
        exact hl (rest := rest) hc ho hk.1.2 (by simp only [YieldsB, if_true]; exact .inr ⟨by simpa using hw, rfl⟩) (ih _ _ _ hT' (hc.add hr) hk.2 h)
    | e i =>
      simp only [planOk, Bool.and_eq_true] at hk
      obtain ⟨o, ho, h⟩ := h
      have hr : i ∈ Region.ready .any ops listed := by have := hk.1; unfold lightOk at this; simp only [Bool.and_eq_true] at this; simpa using this.1
      split at h
      · rename_i hw
        obtain ⟨v, hv, h⟩ := h
        exact hl (rest := rest) hc ho hk.1 (by simp only [YieldsB, if_true]; exact .inl ⟨hw, hv⟩) (ih _ _ _ hT' (hc.add hr) hk.2 h)
      · rename_i hw
        exact hl (rest := rest) hc ho hk.1 (by simp only [YieldsB, if_true]; exact .inr ⟨by simpa using hw, rfl⟩) (ih _ _ _ hT' (hc.add hr) hk.2 h)
    | h i tr =>
      simp only [planOk, Bool.and_eq_true, beq_iff_eq] at hk
      obtain ⟨hr, hk⟩ := hk
      refine ⟨fun h0 => by rw [hr] at h0; simp at h0, fun j hj => ?_⟩
      rw [hr] at hj
      simp only [List.mem_singleton] at hj
      subst hj
      exact wpOp_mono (fun a' w' h' => ⟨fun ht => h'.1 (hT j tr (by simp) ht), ih _ _ _ hT' (hc.add (by rw [hr]; simp)) hk h'.2⟩) h

theorem planT_spec {plan : List PS} (hn : (plan.map PS.no).Nodup) : ∀ i tr, PS.h i tr ∈ plan → planT plan i = true → tr = true := by
  intro i tr hm hT
  unfold planT at hT
  rw [List.any_eq_true] at hT
  obtain ⟨s, hs, hk⟩ := hT
  simp only [Bool.and_eq_true, beq_iff_eq] at hk
  have hp := List.pairwise_map.1 hn
  by_cases he : s = PS.h i tr
  · subst he; exact hk.2
  · exfalso
    have key : ∀ (l : List PS), l.Pairwise (fun a b => PS.no a ≠ PS.no b) → s ∈ l → PS.h i tr ∈ l → s ≠ PS.h i tr → PS.no s = i → False := by
      intro l hl
      induction hl with
      | nil => intro h; cases h
      | cons hx _ ih =>
        intro h1 h2 h3 h4
        rcases List.mem_cons.1 h1 with e1 | e1
        · rcases List.mem_cons.1 h2 with e2 | e2
          · exact h3 (e1.trans e2.symm)
          · exact hx (PS.h i tr) e2 (by rw [← e1]; exact h4)
        · rcases List.mem_cons.1 h2 with e2 | e2
          · exact hx s e1 (by rw [← e2]; exact h4.symm)
          · exact ih e1 e2 h3 h4
    exact key plan hp hs hm he hk.1

/-- **The law**: a region that draws its order, in a program under wide orders. -/
theorem region_plan {id : Nat} {a : Act} {w : World} (plan : List PS) (hf : P.follows .mixedOrders = true) (hk : regionOk ops plan = true) (hn : decide ((plan.map PS.no).Nodup) = true)
    (hQ : ∀ c a d v w, Q (.panic c) (a.put d v) w → Q (.panic c) a w) (h : wpPlan P ops Q plan a w.drew) : (Code.region id ops true).wp P Q a w := by
  unfold regionOk at hk
  simp only [Bool.and_eq_true, beq_iff_eq] at hk
  obtain ⟨⟨⟨⟨hs, hm⟩, hd⟩, hlen⟩, hp⟩ := hk
  refine wp_region_any hf (wpAny_of_T (T := planT plan) _ _ _ _ ?_)
  have h0 := planOk_sound hm hd hs hQ plan (Array.replicate ops.size false) a w.drew (planT_spec (of_decide_eq_true hn)) ?_ hp h
  · rw [hlen] at h0; exact h0
  intro j o hj hl e _ _
  exfalso
  simp only [Array.getD_eq_getD_getElem?, Array.getElem?_replicate] at hl
  split at hl <;> simp at hl

theorem wpOp_monoQ {Q Q' : Exit → Act → World → Prop} (hq : ∀ e a w, Q e a w → Q' e a w) {i : Nat} {K : Act → World → Prop} {a : Act} {w : World} (h : wpOp P ops Q i K a w) : wpOp P ops Q' i K a w := by
  unfold wpOp at *
  split
  · rename_i ho; simpa [ho] using h
  · rename_i o ho
    simp only [ho] at h
    split
    · rename_i hw
      simp only [hw, if_true] at h
      refine h.imp (fun h => ?_) (fun ⟨h1, a, w, h2⟩ => ⟨h1, a, w, hq _ _ _ h2⟩)
      unfold Oper.wp at *
      generalize (execOp a.eval o).run P w = r at *
      cases r with
      | ok n w' =>
        cases n <;> simp only [Oper.upon] at h ⊢
        case enter f args =>
          refine h.mono fun e w'' he => ?_
          cases e with
          | returned v => exact he
          | panicked c => exact hq _ _ _ he
          | outgrown => obtain ⟨a, w, h2⟩ := he; exact ⟨a, w, hq _ _ _ h2⟩
        all_goals exact h
      | halt x w' => cases x <;> simp only [Oper.upon] at h ⊢; exact hq _ _ _ h
    · rename_i hw; simpa [hw] using h

theorem wpPlan_monoQ {Q Q' : Exit → Act → World → Prop} (hq : ∀ e a w, Q e a w → Q' e a w) : ∀ (plan : List PS) (a : Act) (w : World), wpPlan P ops Q plan a w → wpPlan P ops Q' plan a w := by
  intro plan
  induction plan with
  | nil => intro a w h; exact hq _ _ _ h
  | cons s rest ih =>
    intro a w h
    cases s with
    | h i tr => exact wpOp_mono (fun a' w' h' => ⟨h'.1, ih _ _ h'.2⟩) (wpOp_monoQ hq h)
    | _ =>
      obtain ⟨o, ho, h⟩ := h
      refine ⟨o, ho, ?_⟩
      split at h
      · rename_i hw
        obtain ⟨v, hv, h⟩ := h
        rw [if_pos hw]
        exact ⟨v, hv, ih _ _ h⟩
      · rename_i hw
        rw [if_neg hw]
        exact ih _ _ h

/-- Q, but for a panic. -/
def calm (Q : Exit → Act → World → Prop) : Exit → Act → World → Prop
  | .panic _, _, _ => False
  | e, a, w => Q e a w

/-- .. where nothing in the region panics. -/
theorem region_calm {id : Nat} {a : Act} {w : World} (plan : List PS) (hf : P.follows .mixedOrders = true) (hk : regionOk ops plan = true) (hn : decide ((plan.map PS.no).Nodup) = true)
    (h : wpPlan P ops (calm Q) plan a w.drew) : (Code.region id ops true).wp P Q a w := by
  have h1 : (Code.region id ops true).wp P (calm Q) a w := region_plan plan hf hk hn (fun _ _ _ _ _ h => h) h
  exact Code.wp_mono (fun e a w he => by cases e <;> first | exact he | exact he.elim) h1

theorem at_drop {ops : Array Oper} {i : Nat} {o : Oper} {r : List Oper} (h : ops.toList.drop i = o :: r) : ops[i]? = some o := by
  have h1 : (ops.toList.drop i)[0]? = some o := by rw [h]; rfl
  rw [List.getElem?_drop] at h1
  simpa using h1
theorem plan_p {i : Nat} {o : Oper} {rest : List PS} {a : Act} {w : World} {r : List Oper} (ho : ops.toList.drop i = o :: r)
    (h : ∀ K : Act → Prop, (∀ a, wpPlan P ops Q rest a w → K a) → if Region.wanted o (yielded ops a.tmps) then ∃ v, (∀ w', (execOp a.eval o).run P w' = .ok (.value v) w') ∧ K (a.put o.dst v) else K (a.put o.dst undef)) :
    wpPlan P ops Q (.p i :: rest) a w := ⟨o, at_drop ho, h _ fun _ h => h⟩
theorem plan_l {i : Nat} {o : Oper} {rest : List PS} {a : Act} {w : World} {r : List Oper} (ho : ops.toList.drop i = o :: r)
    (h : ∀ K : Act → Prop, (∀ a, wpPlan P ops Q rest a w → K a) → if Region.wanted o (yielded ops a.tmps) then ∃ v, (execOp a.eval o).run P w = .ok (.value v) w ∧ K (a.put o.dst v) else K (a.put o.dst undef)) :
    wpPlan P ops Q (.l i :: rest) a w := ⟨o, at_drop ho, h _ fun _ h => h⟩
theorem plan_e {i : Nat} {o : Oper} {rest : List PS} {a : Act} {w : World} {r : List Oper} (ho : ops.toList.drop i = o :: r)
    (h : ∀ K : Act → Prop, (∀ a, wpPlan P ops Q rest a w → K a) → if Region.wanted o (yielded ops a.tmps) then ∃ v, (∀ w', Ext w w' → (execOp a.eval o).run P w' = .ok (.value v) w') ∧ K (a.put o.dst v) else K (a.put o.dst undef)) :
    wpPlan P ops Q (.e i :: rest) a w := ⟨o, at_drop ho, h _ fun _ h => h⟩
theorem plan_e1 {i : Nat} {o : Oper} {rest : List PS} {a : Act} {w : World} {r : List Oper} (ho : ops.toList.drop i = o :: r) (hg : o.guard = none) (v : Value)
    (h : ∀ w', Ext w w' → (execOp a.eval o).run P w' = .ok (.value v) w') (h2 : ∀ K : Act → Prop, (∀ a, wpPlan P ops Q rest a w → K a) → K (a.put o.dst v)) :
    wpPlan P ops Q (.e i :: rest) a w := ⟨o, at_drop ho, by
      rw [if_pos (by simp [Region.wanted, hg])]
      exact ⟨v, h, h2 _ fun _ h => h⟩⟩
theorem wpOp_of_list {i : Nat} {o : Oper} {K : Act → World → Prop} {a : Act} {w : World} {r : List Oper} (ho : ops.toList.drop i = o :: r)
    (h : wpList P ops (Exit.then K Q) [o] a w) : wpOp P ops Q i K a w := by
  unfold wpOp
  simp only [at_drop ho]
  simp only [wpList] at h
  split at h
  · rename_i hw
    rw [if_pos hw]
    refine h.imp (fun h => ?_) (fun ⟨h2, a, w, h3⟩ => ⟨h2, a, w, h3⟩)
    have hu : ∀ r, o.upon P a (fun a' w' => Exit.then K Q .normal a' w') (Exit.then K Q) r → o.upon P a K Q r := by
      intro r hr
      cases r with
      | ok n w' =>
        cases n <;> simp only [Oper.upon] at hr ⊢
        case enter f args =>
          refine hr.mono fun e w'' he => ?_
          cases e with
          | returned v => exact he
          | panicked c => exact he
          | outgrown => exact he
        case row row args => exact hr.mono fun v w'' he => he
        all_goals exact hr
      | halt x w' => cases x <;> simp only [Oper.upon] at hr ⊢; exact hr
    exact hu _ h
  · rename_i hw
    rw [if_neg hw]
    exact h
theorem plan_h {i : Nat} {o : Oper} {rest : List PS} {a : Act} {w : World} {r : List Oper} (ho : ops.toList.drop i = o :: r)
    (h : ∀ K : Act → World → Prop, (∀ a' w', wpPlan P ops Q rest a' w' → K a' w') → wpList P ops (Exit.then K Q) [o] a w) :
    wpPlan P ops Q (.h i false :: rest) a w :=
  wpOp_mono (K := fun a' w' => wpPlan P ops Q rest a' w') (fun _ _ h => ⟨fun h0 => (by cases h0), h⟩) (wpOp_of_list ho (h _ fun _ _ h => h))
theorem plan_t {i : Nat} {o : Oper} {rest : List PS} {a : Act} {w : World} {r : List Oper} (ho : ops.toList.drop i = o :: r)
    (h : ∀ K : Act → World → Prop, (∀ a' w', Ext w w' → wpPlan P ops Q rest a' w' → K a' w') → wpList P ops (Exit.then K Q) [o] a w) :
    wpPlan P ops Q (.h i true :: rest) a w :=
  wpOp_mono (K := fun a' w' => Ext w w' ∧ wpPlan P ops Q rest a' w') (fun _ _ h => ⟨fun _ => h.1, h.2⟩) (wpOp_of_list ho (h _ fun _ _ h1 h2 => ⟨h1, h2⟩))
theorem calls_next {f : FuncId} {args : Array Value} {w : World} {K : Act → World → Prop} {a : Act} {o : Oper} {Q Q' : Exit → Act → World → Prop}
    (h : Calls P f args w fun | .returned v, w'' => K (a.put o.dst v) w'' | .panicked chain, w'' => Q (.panic chain) a w'' | .outgrown, _ => LetsOut Q)
    (hp : ∀ c a w, Q (.panic c) a w → Q' (.panic c) a w) (ho : ∀ a w, Q .outgrown a w → Q' .outgrown a w) :
    Calls P f args w fun | .returned v, w'' => K (a.put o.dst v) w'' | .panicked chain, w'' => Q' (.panic chain) a w'' | .outgrown, _ => LetsOut Q' :=
  h.mono fun e w'' he => by
    cases e with
    | returned v => exact he
    | panicked c => exact hp _ _ _ he
    | outgrown => obtain ⟨a, w, h⟩ := he; exact ⟨a, w, ho _ _ h⟩

theorem upon_swap {o : Oper} {a : Act} {K : Act → World → Prop} {Q Q' : Exit → Act → World → Prop} (hp : ∀ c a w, Q (.panic c) a w → Q' (.panic c) a w) (ho : ∀ a w, Q .outgrown a w → Q' .outgrown a w)
    (r : Result Next) (h : o.upon P a K Q r) : o.upon P a K Q' r := by
  cases r with
  | ok n w' =>
    cases n <;> simp only [Oper.upon] at h ⊢
    case enter f args => exact calls_next h hp ho
    all_goals exact h
  | halt x w' => cases x <;> simp only [Oper.upon] at h ⊢; exact hp _ _ _ h

/-- A heavy operation without a guard: the goal is small: it names no region. Nothing may panic in it. -/
theorem plan_c {i : Nat} {o : Oper} {rest : List PS} {a : Act} {w : World} {r : List Oper} (ho : ops.toList.drop i = o :: r) (hg : o.guard = none)
    (h : ∀ (K : Act → World → Prop) (Q' : Exit → Act → World → Prop), (∀ a' w', wpPlan P ops (calm Q) rest a' w' → K a' w') → wpList P #[o] (Exit.then K Q') [o] a w) :
    wpPlan P ops (calm Q) (.h i false :: rest) a w := by
  refine plan_h ho fun K hK => ?_
  have h1 := h K (fun _ _ _ => False) hK
  simp only [wpList, Region.wanted, hg, if_true] at h1 ⊢
  refine .inl ?_
  rcases h1 with h1 | ⟨_, a0, w0, h1⟩
  · exact upon_swap (fun _ _ _ h => h.elim) (fun _ _ h => h.elim) _ h1
  · exact h1.elim
theorem plan_ct {i : Nat} {o : Oper} {rest : List PS} {a : Act} {w : World} {r : List Oper} (ho : ops.toList.drop i = o :: r) (hg : o.guard = none)
    (h : ∀ (K : Act → World → Prop) (Q' : Exit → Act → World → Prop), (∀ a' w', Ext w w' → wpPlan P ops (calm Q) rest a' w' → K a' w') → wpList P #[o] (Exit.then K Q') [o] a w) :
    wpPlan P ops (calm Q) (.h i true :: rest) a w := by
  refine plan_t ho fun K hK => ?_
  have h1 := h K (fun _ _ _ => False) hK
  simp only [wpList, Region.wanted, hg, if_true] at h1 ⊢
  refine .inl ?_
  rcases h1 with h1 | ⟨_, a0, w0, h1⟩
  · exact upon_swap (fun _ _ _ h => h.elim) (fun _ _ h => h.elim) _ h1
  · exact h1.elim
theorem plan_nil {a : Act} {w : World} (h : Q .normal a w) : wpPlan P ops Q [] a w := h

end
end Go.Proofs.Ytkejjahlglldlaa
