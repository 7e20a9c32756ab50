/- A law for regions that draw their order: light operations (pure, or loads) first, heavy ones one by one in their forced order; what a heavy operation may not touch is tracked. No program is named here. What a call may touch; facts on blocks and cells; ways to abstract the world in a walk. No program is named here. Slices that a call owns: their reading, and append. No program is named here. The law for regions that draw their order, once more: what a heavy operation may touch is said by S. (As <Name>Reg; there S is empty.) No program is named here. Maps whose keys are 64 bit integers: what lookup, store, delete and len do. No program is named here. -/
import Derived.WalkKit
import Derived.OrdersHeld
import Derived.Maps.AppendAt
import Derived.Laws.AppendOwnNone
namespace Go.Proofs.Ytkejjahlglldlaa
open Go.RowKit

/-- w' is w with blocks put behind; what was there is as it was. -/
abbrev Ext (w w' : World) : Prop := Below w.heap.size w w'

theorem Ext.refl (w : World) : Ext w w := Below.refl _ _
theorem Ext.trans {a b c : World} (h : Ext a b) (k : Ext b c) : Ext a c := Below.trans h (k.mono h.size)
theorem Ext.alloc {a w : World} (h : Ext a w) (o : Obj) : Ext a (w.alloc o) := Below.alloc h h.size o
theorem Ext.drew {a w : World} (h : Ext a w) : Ext a w.drew := Below.drew h
theorem Ext.block {a w : World} (h : Ext a w) {k : Nat} {o : Obj} (hk : a.heap[k]? = some o) : w.heap[k]? = some o := by
  rw [← hk]
  exact Below.block h k (Array.getElem?_eq_some_iff.1 hk).1
theorem Ext.cell {a w : World} (h : Ext a w) {p : Addr} {v : Value} (hk : a.cell? p = some v) : w.cell? p = some v := by
  rw [← hk]
  refine Below.cell h ?_
  unfold World.cell? at hk
  split at hk
  · rename_i c t f hb
    exact (Array.getElem?_eq_some_iff.1 hb).1
  · exact absurd hk (by simp)

/-- A computation that reads alone. -/
inductive RO {α : Type} : Sem α → Prop where
  | pure (a : α) : RO (.pure a)
  | load (m : Mode) (a : Addr) (k : Value → Sem α) (h : ∀ v, RO (k v)) : RO (.load m a k)
  | getObj (r : Nat) (k : Obj → Sem α) (h : ∀ o, RO (k o)) : RO (.getObj r k)
  | program (k : Program → Sem α) (h : ∀ p, RO (k p)) : RO (.program k)
  | halt (h : Halt) : RO (.halt h)

theorem RO.bind {α β : Type} {s : Sem α} {f : α → Sem β} (hs : RO s) (hf : ∀ a, RO (f a)) : RO (s >>= f) := by
  show RO (Sem.bind s f)
  induction hs with
  | pure a => exact hf a
  | load m a k _ ih => exact .load m a _ ih
  | getObj r k _ ih => exact .getObj r _ ih
  | program k _ ih => exact .program _ ih
  | halt h => exact .halt h

theorem farLoad_ext {P : Program} {w w' : World} {a : Addr} {b : Bool} {r : Value × List Addr} (he : Ext w w')
    (h : w.farLoad P a b = .ok r) : w'.farLoad P a b = .ok r := by
  unfold World.farLoad at h
  cases hb : w.heap[a.block]? with
  | none => rw [hb] at h; simp at h
  | some o =>
    have hb' := Ext.block he hb
    unfold World.farLoad
    rw [hb] at h
    rw [hb']
    cases o <;> simp only [] at h ⊢ <;> try (simp at h; done)
    rename_i at_ u
    cases hv : w.viewLoad P at_ u a b with
    | error e => rw [hv] at h; simp at h
    | ok q =>
      rw [hv] at h
      have hv' : w'.viewLoad P at_ u a b = .ok q := by
        rw [← hv]
        cases hc : w.heap[at_.block]? with
        | some o2 =>
          have hc' := Ext.block he hc
          simp only [World.viewLoad, World.seen, hc, hc']
        | none =>
          exfalso
          have ht : ∀ {β : Type} (e : String), (MonadExcept.throw e : Except String β) = .error e := fun _ => rfl
          simp only [World.viewLoad] at hv
          cases hs : w.seen P at_ u a b with
          | error e => rw [hs] at hv; simp [bind, Except.bind] at hv
          | ok q2 =>
            simp only [World.seen, hc, bind, Except.bind, throw, throwThe, MonadExceptOf.throw, ht] at hs
            split at hs
            · simp at hs
            · repeat' split at hs
              all_goals simp at hs
      rw [hv']
      exact h

theorem RO.run {α : Type} {s : Sem α} (hs : RO s) {P : Program} {w w1 : World} {r : α} (h : s.run P w = .ok r w1) :
    w1 = w ∧ ∀ w', Ext w w' → s.run P w' = .ok r w' := by
  induction hs generalizing r w1 with
  | pure a =>
    simp only [Sem.run, Result.ok.injEq] at h
    obtain ⟨rfl, rfl⟩ := h
    exact ⟨rfl, fun _ _ => rfl⟩
  | load m a k _ ih =>
    simp only [Sem.run] at h
    cases hc : w.cell? a with
    | some v =>
      rw [hc] at h
      obtain ⟨h1, h2⟩ := ih v h
      refine ⟨h1, fun w' he => ?_⟩
      simp only [Sem.run, Ext.cell he hc]
      exact h2 w' he
    | none =>
      rw [hc] at h
      simp only [] at h
      cases hf : w.farLoad P a (m == .atomic) with
      | error e => rw [hf] at h; simp at h
      | ok q =>
        obtain ⟨v, l⟩ := q
        rw [hf] at h
        obtain ⟨h1, h2⟩ := ih v h
        refine ⟨h1, fun w' he => ?_⟩
        have hf' := farLoad_ext he hf
        have hc' : w'.cell? a = none := by
          have hb : w'.heap[a.block]? = w.heap[a.block]? := by
            cases hb : w.heap[a.block]? with
            | some o => exact Ext.block he hb
            | none => simp only [World.farLoad, hb] at hf; simp at hf
          rw [World.cell?_of_block (w := w) hb, hc]
        simp only [Sem.run, hc', hf']
        exact h2 w' he
  | getObj rr k _ ih =>
    simp only [Sem.run] at h
    cases hb : w.heap[rr]? with
    | none => rw [hb] at h; simp at h
    | some o =>
      rw [hb] at h
      cases o <;> simp only [] at h <;> first
        | (simp at h; done)
        | (obtain ⟨h1, h2⟩ := ih _ h
           refine ⟨h1, fun w' he => ?_⟩
           simp only [Sem.run, Ext.block he hb]
           exact h2 w' he)
  | program k _ ih =>
    simp only [Sem.run] at h
    obtain ⟨h1, h2⟩ := ih P h
    exact ⟨h1, fun w' he => by simp only [Sem.run]; exact h2 w' he⟩
  | halt h0 => simp [Sem.run] at h

theorem RO.underlying (t : TypeId) : RO (Go.underlying t) := by
  unfold Go.underlying
  refine RO.bind (.program _ fun p => .pure _) fun p => ?_
  split
  · exact .pure _
  · exact .halt _
theorem RO.typeInfo (t : TypeId) : RO (Go.typeInfo t) := by
  unfold Go.typeInfo
  refine RO.bind (.program _ fun p => .pure _) fun p => ?_
  split
  · exact .pure _
  · exact .halt _
theorem RO.sizeOf (t : TypeId) : RO (Go.sizeOf t) := RO.bind (RO.typeInfo t) fun _ => .pure _
theorem RO.isAgg (t : TypeId) : RO (Go.isAgg t) := by
  unfold Go.isAgg
  refine RO.bind (RO.underlying t) fun d => ?_
  split <;> exact .pure _
theorem RO.load' (a : Addr) : RO (Go.load a) := .load _ a _ fun v => .pure v
theorem RO.loadCellsFrom (a : Addr) : ∀ (n i : Nat) (acc : Array Value), RO (Go.loadCellsFrom a i n acc)
  | 0, _, _ => .pure _
  | n + 1, i, acc => RO.bind (RO.load' _) fun v => RO.loadCellsFrom a n (i + 1) (acc.push v)
theorem RO.loadVar (t : TypeId) (a : Addr) : RO (Go.loadVar t a) := by
  unfold Go.loadVar
  refine RO.bind (RO.isAgg t) fun b => ?_
  split
  · exact RO.bind (RO.sizeOf t) fun n => RO.bind (RO.loadCellsFrom a n 0 #[]) fun _ => .pure _
  · exact RO.load' a
theorem RO.loadAt (t : TypeId) (v : Value) : RO (Instr.loadAt t v) := by
  unfold Instr.loadAt
  refine RO.bind ?_ fun a => RO.loadVar t a
  unfold Instr.sureAddr
  split
  · exact .pure _
  · exact .halt _

/-- The operation yields v in every world that comes behind w. -/
def YieldsE (P : Program) (ops : Array Oper) (w : World) (o : Oper) (v : Value) (a : Act) : Prop :=
  (Region.wanted o (yielded ops a.tmps) = true ∧ ∀ w', Ext w w' → (execOp a.eval o).run P w' = .ok (.value v) w') ∨
  (Region.wanted o (yielded ops a.tmps) = false ∧ v = undef)

/-- .. in every world at all. -/
def YieldsP (P : Program) (ops : Array Oper) (o : Oper) (v : Value) (a : Act) : Prop :=
  (Region.wanted o (yielded ops a.tmps) = true ∧ ∀ w', (execOp a.eval o).run P w' = .ok (.value v) w') ∨
  (Region.wanted o (yielded ops a.tmps) = false ∧ v = undef)

section
variable {P : Program} {ops : Array Oper} {Q : Exit → Act → World → Prop}

/-- What is asked of the world at hand ('lt' = true: it comes behind w; else nothing) for the light operation to yield v. -/
def YieldsB (P : Program) (ops : Array Oper) (lt : Bool) (w : World) (o : Oper) (v : Value) (a : Act) : Prop :=
  if lt then YieldsE P ops w o v a else YieldsP P ops o v a

theorem YieldsB.wpOp {lt : Bool} {i : Nat} {o : Oper} {v : Value} {a : Act} {w : World} (hi : ops[i]? = some o) (hy : YieldsB P ops lt w o v a)
    {K : Act → World → Prop} (h : K (a.put o.dst v) w) : wpOp P ops Q i K a w := by
  unfold Go.wpOp
  simp only [hi]
  cases lt <;> simp only [YieldsB, Bool.false_eq_true, if_false, if_true] at hy
  · rcases hy with ⟨hw, hv⟩ | ⟨hw, rfl⟩
    · simp only [hw, if_true, Oper.wp, hv w, Oper.upon]; exact .inl h
    · simp only [hw, Bool.false_eq_true, if_false]; exact h
  · rcases hy with ⟨hw, hv⟩ | ⟨hw, rfl⟩
    · simp only [hw, if_true, Oper.wp, hv w (Ext.refl w), Oper.upon]; exact .inl h
    · simp only [hw, Bool.false_eq_true, if_false]; exact h

theorem YieldsB.of_same {lt : Bool} {o : Oper} {v : Value} {a a' : Act} {w : World} (hy : YieldsB P ops lt w o v a) (he : execOp a'.eval o = execOp a.eval o)
    (hw : Region.wanted o (yielded ops a'.tmps) = Region.wanted o (yielded ops a.tmps)) : YieldsB P ops lt w o v a' := by
  unfold YieldsB YieldsE YieldsP at *
  rw [he, hw]
  exact hy

theorem YieldsB.later {lt : Bool} {o : Oper} {v : Value} {a : Act} {w w' : World} (hy : YieldsB P ops lt w o v a) (he : lt = true → Ext w w') : YieldsB P ops lt w' o v a := by
  cases lt <;> simp only [YieldsB, Bool.false_eq_true, if_false, if_true] at hy ⊢
  · exact hy
  · exact hy.imp (fun ⟨h1, h2⟩ => ⟨h1, fun w'' h => h2 w'' (Ext.trans (he rfl) h)⟩) id

theorem wpOp_putB {lt : Bool} {j : Nat} {oi oj : Oper} {v : Value} (hj : ops[j]? = some oj) (hap : oi.apart ops oj = true)
    (hsi : ∀ cs b, oi.op ≠ .select cs b) (hsj : ∀ cs b, oj.op ≠ .select cs b)
    (hQ : ∀ c a w, Q (.panic c) (a.put oi.dst v) w → Q (.panic c) a w) {K : Act → World → Prop} {a : Act} {w : World}
    (hy : YieldsB P ops lt w oi v a) (h : wpOp P ops Q j (fun a' w' => (lt = true → Ext w w') ∧ K a' w') (a.put oi.dst v) w) :
    wpOp P ops Q j (fun a' w' => (lt = true → Ext w w') ∧ YieldsB P ops lt w' oi v a' ∧ K (a'.put oi.dst v) w') a w := by
  obtain ⟨h1, h2, h3⟩ := Oper.apart_spec hap
  have keep : ∀ (a : Act), YieldsB P ops lt w oi v a → ∀ u, YieldsB P ops lt w oi v (a.put oj.dst u) := fun a hy u =>
    hy.of_same (execOp_put oi hsi a oj.dst u h3) (wanted_put oi a oj.dst u h3)
  have keepD : ∀ d, YieldsB P ops lt w oi v { a with defers := d :: a.defers } := fun d => hy.of_same rfl rfl
  unfold wpOp at *
  simp only [hj] at *
  rw [wanted_put oj a oi.dst v h1] at h
  split
  · rename_i hw
    simp only [hw, if_true] at h
    rcases h with h | ⟨hasks, hlets⟩
    case inr => exact .inr ⟨by unfold Oper.asks at *; rw [execOp_put oj hsj a oi.dst v h1] at hasks; exact hasks, hlets⟩
    refine .inl ?_
    unfold Oper.wp at *
    rw [execOp_put oj hsj a oi.dst v h1] at h
    generalize (execOp a.eval oj).run P w = r at *
    cases r with
    | ok n w' =>
      cases n <;> simp only [Oper.upon] at h ⊢
      case value u => exact ⟨h.1, (keep a hy u).later h.1, by rw [← Act.put_comm a v u h2]; exact h.2⟩
      case skip => exact ⟨h.1, (keep a hy _).later h.1, by rw [← Act.put_comm a v undef h2]; exact h.2⟩
      case defer d =>
        refine ⟨h.1, ((keepD d).of_same (execOp_put oi hsi _ oj.dst undef h3) (wanted_put oi _ oj.dst undef h3)).later h.1, ?_⟩
        rw [← Act.put_comm _ v undef h2, ← Act.put_defers]
        exact h.2
      case enter f args =>
        refine Calls.mono h fun e w'' he => ?_
        cases e with
        | returned u => exact ⟨he.1, (keep a hy u).later he.1, by rw [← Act.put_comm a v u h2]; exact he.2⟩
        | panicked c => exact hQ _ _ _ he
        | outgrown => exact he
      case row row args => exact Rows.mono h fun u w'' he => ⟨he.1, (keep a hy u).later he.1, by rw [← Act.put_comm a v u h2]; exact he.2⟩
    | halt x w' =>
      cases x <;> simp only [Oper.upon] at h ⊢
      case panic u => exact hQ _ _ _ h
  · rename_i hw
    simp only [hw] at h
    exact ⟨h.1, (keep a hy _).later h.1, by rw [← Act.put_comm a v undef h2]; exact h.2⟩

/-- Whatever order is picked from here on, the operations that T names leave what was there as it was. -/
def wpAnyT (P : Program) (ops : Array Oper) (Q : Exit → Act → World → Prop) (T : Nat → Bool) : Nat → Array Bool → Act → World → Prop
  | 0, listed, a, w => Region.ready .any ops listed = [] ∧ Q .normal a w
  | fuel + 1, listed, a, w =>
    (Region.ready .any ops listed = [] → Q .normal a w) ∧
    ∀ i ∈ Region.ready .any ops listed, wpOp P ops Q i (fun a' w' => (T i = true → Ext w w') ∧ wpAnyT P ops Q T fuel (listed.setIfInBounds i true) a' w') a w

theorem wpAny_of_T {T : Nat → Bool} : ∀ (fuel : Nat) (listed : Array Bool) (a : Act) (w : World), wpAnyT P ops Q T fuel listed a w → wpAny P .any ops Q fuel listed a w
  | 0, _, _, _, h => h
  | fuel + 1, _, _, _, h => ⟨h.1, fun i hi => wpOp_mono (fun a' w' h' => wpAny_of_T fuel _ a' w' h'.2) (h.2 i hi)⟩

/-- j comes behind i: by the table m of all that an operation waits for. -/
def waits (m : List Nat) (j i : Nat) : Bool := (m.getD j 0).testBit i

/-- The table m is right: what an operation waits for is an edge of its own, or what that edge's operation waits for. -/
def tableOk (ops : Array Oper) (m : List Nat) : Bool :=
  (List.range ops.size).all fun j => match ops[j]? with
    | none => true
    | some o => o.after.all (fun e => !Region.binds .any e || decide (e.on < j)) &&
      (m.getD j 0 ||| o.after.foldl (fun s e => if Region.binds .any e then s ||| 2 ^ e.on ||| m.getD e.on 0 else s) 0)
        == o.after.foldl (fun s e => if Region.binds .any e then s ||| 2 ^ e.on ||| m.getD e.on 0 else s) 0

theorem foldl_bit (m : List Nat) (i : Nat) : ∀ (l : List Edge) (s : Nat),
    (l.foldl (fun s e => if Region.binds .any e then s ||| 2 ^ e.on ||| m.getD e.on 0 else s) s).testBit i = true →
    s.testBit i = true ∨ ∃ e ∈ l, Region.binds .any e = true ∧ (e.on = i ∨ waits m e.on i = true)
  | [], s, h => .inl h
  | e :: l, s, h => by
    rw [List.foldl_cons] at h
    rcases foldl_bit m i l _ h with h | ⟨e', he', h'⟩
    · by_cases hb : Region.binds .any e = true
      · rw [if_pos hb, Nat.testBit_or, Nat.testBit_or, Bool.or_eq_true, Bool.or_eq_true] at h
        rcases h with (h | h) | h
        · exact .inl h
        · rw [Nat.testBit_two_pow] at h
          exact .inr ⟨e, by simp, hb, .inl (by simpa using h)⟩
        · exact .inr ⟨e, by simp, hb, .inr h⟩
      · rw [if_neg hb] at h; exact .inl h
    · exact .inr ⟨e', by simp [he'], h'⟩

theorem tableOk_spec {m : List Nat} (h : tableOk ops m = true) {j i : Nat} {o : Oper} (ho : ops[j]? = some o) (hw : waits m j i = true) :
    ∃ e ∈ o.after, Region.binds .any e = true ∧ e.on < j ∧ (e.on = i ∨ waits m e.on i = true) := by
  unfold tableOk at h
  rw [List.all_eq_true] at h
  have h1 := h j (by simp; exact (Array.getElem?_eq_some_iff.1 ho).1)
  simp only [ho, Bool.and_eq_true, beq_iff_eq] at h1
  obtain ⟨h1, h2⟩ := h1
  have h3 : (o.after.foldl (fun s e => if Region.binds .any e then s ||| 2 ^ e.on ||| m.getD e.on 0 else s) 0).testBit i = true := by
    rw [← h2, Nat.testBit_or]
    unfold waits at hw
    rw [hw]; rfl
  rw [← Array.foldl_toList] at h3
  rcases foldl_bit m i _ _ h3 with h3 | ⟨e, he, hb, h4⟩
  · simp at h3
  · have he' : e ∈ o.after := Array.mem_toList_iff.1 he
    have h5 := (Array.all_eq_true_iff_forall_mem.1 h1) e he'
    simp only [hb, Bool.not_true, Bool.false_or, decide_eq_true_eq] at h5
    exact ⟨e, he', hb, h5, h4⟩

/-- What has come up is closed: with an operation all that it waits for. -/
def Closed (ops : Array Oper) (listed : Array Bool) : Prop :=
  ∀ j o, ops[j]? = some o → listed.getD j false = true → ∀ e ∈ o.after, Region.binds .any e = true → listed.getD e.on false = true

theorem closed_waits {m : List Nat} (h : tableOk ops m = true) {listed : Array Bool} (hc : Closed ops listed) :
    ∀ (j : Nat) (o : Oper) (i : Nat), ops[j]? = some o → (∀ e ∈ o.after, Region.binds .any e = true → listed.getD e.on false = true) → waits m j i = true → listed.getD i false = true := by
  intro j
  induction j using Nat.strongRecOn with
  | _ j ih =>
    intro o i ho hall hw
    obtain ⟨e, he, hb, hlt, h1⟩ := tableOk_spec h ho hw
    have hl := hall e he hb
    rcases h1 with rfl | h1
    · exact hl
    · cases hoe : ops[e.on]? with
      | none =>
        exfalso
        have := Array.getElem?_eq_none_iff.1 hoe
        have := (Array.getElem?_eq_some_iff.1 ho).1
        omega
      | some oe => exact ih e.on hlt oe i hoe (hc e.on oe hoe hl) h1

theorem Closed.add {listed : Array Bool} (hc : Closed ops listed) {j : Nat} (hj : j ∈ Region.ready .any ops listed) : Closed ops (listed.setIfInBounds j true) := by
  intro k o ho hk e he hb
  obtain ⟨_, oj, hoj, hall⟩ := mem_ready.1 hj
  by_cases hjk : j = k
  · subst hjk
    rw [ho] at hoj; cases hoj
    exact getD_set_true (hall e he hb)
  · rw [getD_set_ne false hjk] at hk
    exact getD_set_true (hc k o ho hk e he hb)

/-- **A light operation may be taken first.** -/
theorem wpAnyT_first {T : Nat → Bool} {lt : Bool} {m : List Nat} (hm : tableOk ops m = true) {i : Nat} {oi : Oper} {v : Value} (hi : ops[i]? = some oi) (hsel : ∀ (j : Nat) (o : Oper) cs b, ops[j]? = some o → o.op ≠ .select cs b)
    (hQ : ∀ c a w, Q (.panic c) (a.put oi.dst v) w → Q (.panic c) a w) :
    ∀ (fuel : Nat) (listed : Array Bool) (a : Act) (w : World), Closed ops listed →
      (∀ j oj, ops[j]? = some oj → j ≠ i → listed.getD j true = false → waits m j i = false → oi.apart ops oj = true ∧ (lt = true → T j = true)) →
      (∀ j oj, ops[j]? = some oj → (∃ e ∈ oj.after, Region.binds .any e = true ∧ e.on = i) → waits m j i = true) →
      i ∈ Region.ready .any ops listed → YieldsB P ops lt w oi v a →
      wpAnyT P ops Q T fuel (listed.setIfInBounds i true) (a.put oi.dst v) w → wpAnyT P ops Q T (fuel + 1) listed a w := by
  intro fuel
  induction fuel with
  | zero =>
    intro listed a w _ _ _ hr hy H
    refine ⟨fun h => (by rw [h] at hr; cases hr), fun j hj => ?_⟩
    by_cases hji : j = i
    · subst hji; exact hy.wpOp hi ⟨fun _ => Ext.refl w, H⟩
    · have := ready_mono hj hji
      rw [H.1] at this
      cases this
  | succ fuel ih =>
    intro listed a w hcl hfree hdir hr hy H
    refine ⟨fun h => (by rw [h] at hr; cases hr), fun j hj => ?_⟩
    by_cases hji : j = i
    · subst hji; exact hy.wpOp hi ⟨fun _ => Ext.refl w, H⟩
    · have h1 := H.2 j (ready_mono hj hji)
      obtain ⟨hjun, oj, hoj, hall⟩ := mem_ready.1 hj
      have hi0 := (mem_ready.1 hr).1
      have hnw : waits m j i = false := by
        cases hw : waits m j i with
        | false => rfl
        | true =>
          have h2 := closed_waits hm hcl j oj i hoj hall hw
          rcases Nat.lt_or_ge i listed.size with h' | h'
          · simp [h'] at hi0 h2; rw [hi0] at h2; cases h2
          · simp [Array.getElem?_eq_none h'] at h2
      obtain ⟨hap, hT⟩ := hfree j oj hoj hji hjun hnw
      have h1' : wpOp P ops Q j (fun a' w' => (lt = true → Ext w w') ∧ (T j = true → Ext w w') ∧ wpAnyT P ops Q T fuel ((listed.setIfInBounds i true).setIfInBounds j true) a' w') (a.put oi.dst v) w :=
        wpOp_mono (fun a' w' h => ⟨fun hl => h.1 (hT hl), h⟩) h1
      have h2 := wpOp_putB hoj hap (fun cs b => hsel i oi cs b hi) (fun cs b => hsel j oj cs b hoj) hQ hy h1'
      refine wpOp_mono (fun a' w' h3 => ⟨h3.2.2.1, ih (listed.setIfInBounds j true) a' w' (hcl.add hj) (fun k ok hk hki hun hnw' => ?_) hdir (ready_mono hr (Ne.symm hji)) h3.2.1 ?_⟩) h2
      · refine hfree k ok hk hki ?_ hnw'
        by_cases hjk : j = k
        · subst hjk; exact hjun
        · rw [getD_set_ne true hjk] at hun; exact hun
      · rw [Array.setIfInBounds_comm _ _ hji]
        exact h3.2.2.2

/-- What a walk does: a pure operation, a load, an operation that yields the same in every later world, a heavy operation (tracked or not). -/
inductive PS where
  | p (i : Nat)
  | l (i : Nat)
  | e (i : Nat)
  | h (i : Nat) (tr : Bool)

def PS.no : PS → Nat
  | .p i | .l i | .e i | .h i _ => i

def PS.track : PS → Bool
  | .h _ tr => tr
  | _ => true

def planT (plan : List PS) (j : Nat) : Bool := plan.any fun s => s.no == j && s.track

/-- Taking i first is free: who does not wait for it is apart from it, and tracked, if the light operation leans on memory. -/
def lightOk (ops : Array Oper) (m : List Nat) (T : Nat → Bool) (listed : Array Bool) (i : Nat) (lt : Bool) : Bool :=
  (Region.ready .any ops listed).contains i &&
  match ops[i]? with
  | none => false
  | some oi => (List.range ops.size).all fun j => j == i || listed.getD j true || waits m j i || match ops[j]? with
      | some oj => oi.apart ops oj && (!lt || T j)
      | none => true

def isLoad (ops : Array Oper) (i : Nat) : Bool := match ops[i]? with
  | some o => match o.op with | .load .. => true | _ => false
  | none => false

def planOk (ops : Array Oper) (m : List Nat) (T : Nat → Bool) : List PS → Array Bool → Bool
  | [], listed => (Region.ready .any ops listed).isEmpty
  | .p i :: rest, listed => lightOk ops m T listed i false && planOk ops m T rest (listed.setIfInBounds i true)
  | .l i :: rest, listed => isLoad ops i && lightOk ops m T listed i true && planOk ops m T rest (listed.setIfInBounds i true)
  | .e i :: rest, listed => lightOk ops m T listed i true && planOk ops m T rest (listed.setIfInBounds i true)
  | .h i _ :: rest, listed => Region.ready .any ops listed == [i] && planOk ops m T rest (listed.setIfInBounds i true)

def dirOk (ops : Array Oper) (m : List Nat) : Bool :=
  (List.range ops.size).all fun j => match ops[j]? with
    | none => true
    | some o => o.after.all fun e => !Region.binds .any e || waits m j e.on

def regionOk (ops : Array Oper) (plan : List PS) : Bool :=
  Region.noSelect ops && tableOk ops (Region.before ops).toList && dirOk ops (Region.before ops).toList && plan.length == ops.size &&
    planOk ops (Region.before ops).toList (planT plan) plan (Array.replicate ops.size false)

def wpPlan (P : Program) (ops : Array Oper) (Q : Exit → Act → World → Prop) : List PS → Act → World → Prop
  | [], a, w => Q .normal a w
  | .p i :: rest, a, w => ∃ o, ops[i]? = some o ∧ if Region.wanted o (yielded ops a.tmps) then ∃ v, (∀ w', (execOp a.eval o).run P w' = .ok (.value v) w') ∧ wpPlan P ops Q rest (a.put o.dst v) w else wpPlan P ops Q rest (a.put o.dst undef) w
  | .l i :: rest, a, w => ∃ o, ops[i]? = some o ∧ if Region.wanted o (yielded ops a.tmps) then ∃ v, (execOp a.eval o).run P w = .ok (.value v) w ∧ wpPlan P ops Q rest (a.put o.dst v) w else wpPlan P ops Q rest (a.put o.dst undef) w
  | .e i :: rest, a, w => ∃ o, ops[i]? = some o ∧ if Region.wanted o (yielded ops a.tmps) then ∃ v, (∀ w', Ext w w' → (execOp a.eval o).run P w' = .ok (.value v) w') ∧ wpPlan P ops Q rest (a.put o.dst v) w else wpPlan P ops Q rest (a.put o.dst undef) w
  | .h i tr :: rest, a, w => wpOp P ops Q i (fun a' w' => (tr = true → Ext w w') ∧ wpPlan P ops Q rest a' w') a w

theorem run_load_value {o : Oper} {t : TypeId} {x : Operand} (ho : o.op = .load t x) {ρ : Operand → Value} {v : Value} {w w1 : World}
    (h : (execOp ρ o).run P w = .ok (.value v) w1) {w' : World} (he : Ext w w') : (execOp ρ o).run P w' = .ok (.value v) w' := by
  have hro : RO (execOp ρ o) := by
    unfold execOp
    simp only [ho]
    exact RO.bind (RO.loadAt t _) fun v => .pure _
  exact (hro.run h).2 w' he

theorem planOk_sound {m : List Nat} {T : Nat → Bool} (hm : tableOk ops m = true) (hd : dirOk ops m = true) (hs : Region.noSelect ops = true)
    (hQ : ∀ c a d v w, Q (.panic c) (a.put d v) w → Q (.panic c) a w) :
    ∀ (plan : List PS) (listed : Array Bool) (a : Act) (w : World), (∀ i tr, PS.h i tr ∈ plan → T i = true → tr = true) → Closed ops listed →
      planOk ops m T plan listed = true → wpPlan P ops Q plan a w → wpAnyT P ops Q T plan.length listed a w := by
  have hdir : ∀ i j oj, ops[j]? = some oj → (∃ e ∈ oj.after, Region.binds .any e = true ∧ e.on = i) → waits m j i = true := by
    rintro i j oj hj ⟨e, he, hb, rfl⟩
    unfold dirOk at hd
    rw [List.all_eq_true] at hd
    have h1 := hd j (by simp; exact (Array.getElem?_eq_some_iff.1 hj).1)
    simp only [hj] at h1
    have h2 := (Array.all_eq_true_iff_forall_mem.1 h1) e he
    simpa [hb] using h2
  have hl : ∀ {lt : Bool} {i : Nat} {rest : List PS} {listed : Array Bool} {a : Act} {w : World} {o : Oper} {v : Value}, Closed ops listed → ops[i]? = some o →
      lightOk ops m T listed i lt = true → YieldsB P ops lt w o v a → wpAnyT P ops Q T rest.length (listed.setIfInBounds i true) (a.put o.dst v) w →
      wpAnyT P ops Q T (rest.length + 1) listed a w := by
    intro lt i rest listed a w o v hc ho hk hy h
    unfold lightOk at hk
    simp only [ho, Bool.and_eq_true] at hk
    obtain ⟨hr, hk⟩ := hk
    refine wpAnyT_first hm ho (Region.noSelect_spec hs) (fun c a w => hQ c a _ _ w) _ listed a w hc (fun j oj hj hji hun hnw => ?_) (fun j oj => hdir i j oj) (by simpa using hr) hy h
    rw [List.all_eq_true] at hk
    have h1 := hk j (by simp; exact (Array.getElem?_eq_some_iff.1 hj).1)
    simp only [hj, Bool.or_eq_true, beq_iff_eq, hji, false_or, hun, Bool.false_eq_true, hnw, Bool.and_eq_true, Bool.not_eq_true'] at h1
    exact ⟨h1.1, fun hlt => h1.2.resolve_left (by simp [hlt])⟩
  intro plan
  induction plan with
  | nil => intro listed a w _ _ hk h; exact ⟨by simpa [planOk] using hk, h⟩
  | cons s rest ih =>
    intro listed a w hT hc hk h
    have hT' : ∀ i tr, PS.h i tr ∈ rest → T i = true → tr = true := fun i tr hm => hT i tr (List.mem_cons_of_mem _ hm)
    cases s with
    | p i =>
      simp only [planOk, Bool.and_eq_true] at hk
      obtain ⟨o, ho, h⟩ := h
      have hr : i ∈ Region.ready .any ops listed := by have := hk.1; unfold lightOk at this; simp only [Bool.and_eq_true] at this; simpa using this.1
      split at h
      · rename_i hw
        obtain ⟨v, hv, h⟩ := h
        exact hl (rest := rest) hc ho hk.1 (by simp only [YieldsB, Bool.false_eq_true, if_false]; exact .inl ⟨hw, hv⟩) (ih _ _ _ hT' (hc.add hr) hk.2 h)
      · rename_i hw
        exact hl (rest := rest) hc ho hk.1 (by simp only [YieldsB, Bool.false_eq_true, if_false]; exact .inr ⟨by simpa using hw, rfl⟩) (ih _ _ _ hT' (hc.add hr) hk.2 h)
    | l i =>
      simp only [planOk, Bool.and_eq_true] at hk
      obtain ⟨o, ho, h⟩ := h
      have hr : i ∈ Region.ready .any ops listed := by have := hk.1.2; unfold lightOk at this; simp only [Bool.and_eq_true] at this; simpa using this.1
      have hld : ∃ t x, o.op = .load t x := by
        have := hk.1.1
        simp only [isLoad, ho] at this
        cases ho' : o.op <;> simp [ho'] at this
        exact ⟨_, _, rfl⟩
      obtain ⟨t, x, hld⟩ := hld
      split at h
      · rename_i hw
        obtain ⟨v, hv, h⟩ := h
        exact hl (rest := rest) hc ho hk.1.2 (by simp only [YieldsB, if_true]; exact .inl ⟨hw, fun w' he => run_load_value hld hv he⟩) (ih _ _ _ hT' (hc.add hr) hk.2 h)
      · rename_i hw
        exact hl (rest := rest) hc ho hk.1.2 (by simp only [YieldsB, if_true]; exact .inr ⟨by simpa using hw, rfl⟩) (ih _ _ _ hT' (hc.add hr) hk.2 h)
    | e i =>
      simp only [planOk, Bool.and_eq_true] at hk
      obtain ⟨o, ho, h⟩ := h
      have hr : i ∈ Region.ready .any ops listed := by have := hk.1; unfold lightOk at this; simp only [Bool.and_eq_true] at this; simpa using this.1
      split at h
      · rename_i hw
        obtain ⟨v, hv, h⟩ := h
        exact hl (rest := rest) hc ho hk.1 (by simp only [YieldsB, if_true]; exact .inl ⟨hw, hv⟩) (ih _ _ _ hT' (hc.add hr) hk.2 h)
      · rename_i hw
        exact hl (rest := rest) hc ho hk.1 (by simp only [YieldsB, if_true]; exact .inr ⟨by simpa using hw, rfl⟩) (ih _ _ _ hT' (hc.add hr) hk.2 h)
    | h i tr =>
      simp only [planOk, Bool.and_eq_true, beq_iff_eq] at hk
      obtain ⟨hr, hk⟩ := hk
      refine ⟨fun h0 => by rw [hr] at h0; simp at h0, fun j hj => ?_⟩
      rw [hr] at hj
      simp only [List.mem_singleton] at hj
      subst hj
      exact wpOp_mono (fun a' w' h' => ⟨fun ht => h'.1 (hT j tr (by simp) ht), ih _ _ _ hT' (hc.add (by rw [hr]; simp)) hk h'.2⟩) h

theorem planT_spec {plan : List PS} (hn : (plan.map PS.no).Nodup) : ∀ i tr, PS.h i tr ∈ plan → planT plan i = true → tr = true := by
  intro i tr hm hT
  unfold planT at hT
  rw [List.any_eq_true] at hT
  obtain ⟨s, hs, hk⟩ := hT
  simp only [Bool.and_eq_true, beq_iff_eq] at hk
  have hp := List.pairwise_map.1 hn
  by_cases he : s = PS.h i tr
  · subst he; exact hk.2
  · exfalso
    have key : ∀ (l : List PS), l.Pairwise (fun a b => PS.no a ≠ PS.no b) → s ∈ l → PS.h i tr ∈ l → s ≠ PS.h i tr → PS.no s = i → False := by
      intro l hl
      induction hl with
      | nil => intro h; cases h
      | cons hx _ ih =>
        intro h1 h2 h3 h4
        rcases List.mem_cons.1 h1 with e1 | e1
        · rcases List.mem_cons.1 h2 with e2 | e2
          · exact h3 (e1.trans e2.symm)
          · exact hx (PS.h i tr) e2 (by rw [← e1]; exact h4)
        · rcases List.mem_cons.1 h2 with e2 | e2
          · exact hx s e1 (by rw [← e2]; exact h4.symm)
          · exact ih e1 e2 h3 h4
    exact key plan hp hs hm he hk.1

/-- **The law**: a region that draws its order, in a program under wide orders. -/
theorem region_plan {id : Nat} {a : Act} {w : World} (plan : List PS) (hf : P.follows .mixedOrders = true) (hk : regionOk ops plan = true) (hn : decide ((plan.map PS.no).Nodup) = true)
    (hQ : ∀ c a d v w, Q (.panic c) (a.put d v) w → Q (.panic c) a w) (h : wpPlan P ops Q plan a w.drew) : (Code.region id ops true).wp P Q a w := by
  unfold regionOk at hk
  simp only [Bool.and_eq_true, beq_iff_eq] at hk
  obtain ⟨⟨⟨⟨hs, hm⟩, hd⟩, hlen⟩, hp⟩ := hk
  refine wp_region_any hf (wpAny_of_T (T := planT plan) _ _ _ _ ?_)
  have h0 := planOk_sound hm hd hs hQ plan (Array.replicate ops.size false) a w.drew (planT_spec (of_decide_eq_true hn)) ?_ hp h
  · rw [hlen] at h0; exact h0
  intro j o hj hl e _ _
  exfalso
  simp only [Array.getD_eq_getD_getElem?, Array.getElem?_replicate] at hl
  split at hl <;> simp at hl

theorem wpOp_monoQ {Q Q' : Exit → Act → World → Prop} (hq : ∀ e a w, Q e a w → Q' e a w) {i : Nat} {K : Act → World → Prop} {a : Act} {w : World} (h : wpOp P ops Q i K a w) : wpOp P ops Q' i K a w := by
  unfold wpOp at *
  split
  · rename_i ho; simpa [ho] using h
  · rename_i o ho
    simp only [ho] at h
    split
    · rename_i hw
      simp only [hw, if_true] at h
      refine h.imp (fun h => ?_) (fun ⟨h1, a, w, h2⟩ => ⟨h1, a, w, hq _ _ _ h2⟩)
      unfold Oper.wp at *
      generalize (execOp a.eval o).run P w = r at *
      cases r with
      | ok n w' =>
        cases n <;> simp only [Oper.upon] at h ⊢
        case enter f args =>
          refine h.mono fun e w'' he => ?_
          cases e with
          | returned v => exact he
          | panicked c => exact hq _ _ _ he
          | outgrown => obtain ⟨a, w, h2⟩ := he; exact ⟨a, w, hq _ _ _ h2⟩
        all_goals exact h
      | halt x w' => cases x <;> simp only [Oper.upon] at h ⊢; exact hq _ _ _ h
    · rename_i hw; simpa [hw] using h

theorem wpPlan_monoQ {Q Q' : Exit → Act → World → Prop} (hq : ∀ e a w, Q e a w → Q' e a w) : ∀ (plan : List PS) (a : Act) (w : World), wpPlan P ops Q plan a w → wpPlan P ops Q' plan a w := by
  intro plan
  induction plan with
  | nil => intro a w h; exact hq _ _ _ h
  | cons s rest ih =>
    intro a w h
    cases s with
    | h i tr => exact wpOp_mono (fun a' w' h' => ⟨h'.1, ih _ _ h'.2⟩) (wpOp_monoQ hq h)
    | _ =>
      obtain ⟨o, ho, h⟩ := h
      refine ⟨o, ho, ?_⟩
      split at h
      · rename_i hw
        obtain ⟨v, hv, h⟩ := h
        rw [if_pos hw]
        exact ⟨v, hv, ih _ _ h⟩
      · rename_i hw
        rw [if_neg hw]
        exact ih _ _ h

/-- Q, but for a panic. -/
def calm (Q : Exit → Act → World → Prop) : Exit → Act → World → Prop
  | .panic _, _, _ => False
  | e, a, w => Q e a w

/-- .. where nothing in the region panics. -/
theorem region_calm {id : Nat} {a : Act} {w : World} (plan : List PS) (hf : P.follows .mixedOrders = true) (hk : regionOk ops plan = true) (hn : decide ((plan.map PS.no).Nodup) = true)
    (h : wpPlan P ops (calm Q) plan a w.drew) : (Code.region id ops true).wp P Q a w := by
  have h1 : (Code.region id ops true).wp P (calm Q) a w := region_plan plan hf hk hn (fun _ _ _ _ _ h => h) h
  exact Code.wp_mono (fun e a w he => by cases e <;> first | exact he | exact he.elim) h1

theorem at_drop {ops : Array Oper} {i : Nat} {o : Oper} {r : List Oper} (h : ops.toList.drop i = o :: r) : ops[i]? = some o := by
  have h1 : (ops.toList.drop i)[0]? = some o := by rw [h]; rfl
  rw [List.getElem?_drop] at h1
  simpa using h1
theorem plan_p {i : Nat} {o : Oper} {rest : List PS} {a : Act} {w : World} {r : List Oper} (ho : ops.toList.drop i = o :: r)
    (h : ∀ K : Act → Prop, (∀ a, wpPlan P ops Q rest a w → K a) → if Region.wanted o (yielded ops a.tmps) then ∃ v, (∀ w', (execOp a.eval o).run P w' = .ok (.value v) w') ∧ K (a.put o.dst v) else K (a.put o.dst undef)) :
    wpPlan P ops Q (.p i :: rest) a w := ⟨o, at_drop ho, h _ fun _ h => h⟩
theorem plan_l {i : Nat} {o : Oper} {rest : List PS} {a : Act} {w : World} {r : List Oper} (ho : ops.toList.drop i = o :: r)
    (h : ∀ K : Act → Prop, (∀ a, wpPlan P ops Q rest a w → K a) → if Region.wanted o (yielded ops a.tmps) then ∃ v, (execOp a.eval o).run P w = .ok (.value v) w ∧ K (a.put o.dst v) else K (a.put o.dst undef)) :
    wpPlan P ops Q (.l i :: rest) a w := ⟨o, at_drop ho, h _ fun _ h => h⟩
theorem plan_e {i : Nat} {o : Oper} {rest : List PS} {a : Act} {w : World} {r : List Oper} (ho : ops.toList.drop i = o :: r)
    (h : ∀ K : Act → Prop, (∀ a, wpPlan P ops Q rest a w → K a) → if Region.wanted o (yielded ops a.tmps) then ∃ v, (∀ w', Ext w w' → (execOp a.eval o).run P w' = .ok (.value v) w') ∧ K (a.put o.dst v) else K (a.put o.dst undef)) :
    wpPlan P ops Q (.e i :: rest) a w := ⟨o, at_drop ho, h _ fun _ h => h⟩
theorem plan_e1 {i : Nat} {o : Oper} {rest : List PS} {a : Act} {w : World} {r : List Oper} (ho : ops.toList.drop i = o :: r) (hg : o.guard = none) (v : Value)
    (h : ∀ w', Ext w w' → (execOp a.eval o).run P w' = .ok (.value v) w') (h2 : ∀ K : Act → Prop, (∀ a, wpPlan P ops Q rest a w → K a) → K (a.put o.dst v)) :
    wpPlan P ops Q (.e i :: rest) a w := ⟨o, at_drop ho, by
      rw [if_pos (by simp [Region.wanted, hg])]
      exact ⟨v, h, h2 _ fun _ h => h⟩⟩
theorem wpOp_of_list {i : Nat} {o : Oper} {K : Act → World → Prop} {a : Act} {w : World} {r : List Oper} (ho : ops.toList.drop i = o :: r)
    (h : wpList P ops (Exit.then K Q) [o] a w) : wpOp P ops Q i K a w := by
  unfold wpOp
  simp only [at_drop ho]
  simp only [wpList] at h
  split at h
  · rename_i hw
    rw [if_pos hw]
    refine h.imp (fun h => ?_) (fun ⟨h2, a, w, h3⟩ => ⟨h2, a, w, h3⟩)
    have hu : ∀ r, o.upon P a (fun a' w' => Exit.then K Q .normal a' w') (Exit.then K Q) r → o.upon P a K Q r := by
      intro r hr
      cases r with
      | ok n w' =>
        cases n <;> simp only [Oper.upon] at hr ⊢
        case enter f args =>
          refine hr.mono fun e w'' he => ?_
          cases e with
          | returned v => exact he
          | panicked c => exact he
          | outgrown => exact he
        case row row args => exact hr.mono fun v w'' he => he
        all_goals exact hr
      | halt x w' => cases x <;> simp only [Oper.upon] at hr ⊢; exact hr
    exact hu _ h
  · rename_i hw
    rw [if_neg hw]
    exact h
theorem plan_h {i : Nat} {o : Oper} {rest : List PS} {a : Act} {w : World} {r : List Oper} (ho : ops.toList.drop i = o :: r)
    (h : ∀ K : Act → World → Prop, (∀ a' w', wpPlan P ops Q rest a' w' → K a' w') → wpList P ops (Exit.then K Q) [o] a w) :
    wpPlan P ops Q (.h i false :: rest) a w :=
  wpOp_mono (K := fun a' w' => wpPlan P ops Q rest a' w') (fun _ _ h => ⟨fun h0 => (by cases h0), h⟩) (wpOp_of_list ho (h _ fun _ _ h => h))
theorem plan_t {i : Nat} {o : Oper} {rest : List PS} {a : Act} {w : World} {r : List Oper} (ho : ops.toList.drop i = o :: r)
    (h : ∀ K : Act → World → Prop, (∀ a' w', Ext w w' → wpPlan P ops Q rest a' w' → K a' w') → wpList P ops (Exit.then K Q) [o] a w) :
    wpPlan P ops Q (.h i true :: rest) a w :=
  wpOp_mono (K := fun a' w' => Ext w w' ∧ wpPlan P ops Q rest a' w') (fun _ _ h => ⟨fun _ => h.1, h.2⟩) (wpOp_of_list ho (h _ fun _ _ h1 h2 => ⟨h1, h2⟩))
theorem calls_next {f : FuncId} {args : Array Value} {w : World} {K : Act → World → Prop} {a : Act} {o : Oper} {Q Q' : Exit → Act → World → Prop}
    (h : Calls P f args w fun | .returned v, w'' => K (a.put o.dst v) w'' | .panicked chain, w'' => Q (.panic chain) a w'' | .outgrown, _ => LetsOut Q)
    (hp : ∀ c a w, Q (.panic c) a w → Q' (.panic c) a w) (ho : ∀ a w, Q .outgrown a w → Q' .outgrown a w) :
    Calls P f args w fun | .returned v, w'' => K (a.put o.dst v) w'' | .panicked chain, w'' => Q' (.panic chain) a w'' | .outgrown, _ => LetsOut Q' :=
  h.mono fun e w'' he => by
    cases e with
    | returned v => exact he
    | panicked c => exact hp _ _ _ he
    | outgrown => obtain ⟨a, w, h⟩ := he; exact ⟨a, w, ho _ _ h⟩

theorem upon_swap {o : Oper} {a : Act} {K : Act → World → Prop} {Q Q' : Exit → Act → World → Prop} (hp : ∀ c a w, Q (.panic c) a w → Q' (.panic c) a w) (ho : ∀ a w, Q .outgrown a w → Q' .outgrown a w)
    (r : Result Next) (h : o.upon P a K Q r) : o.upon P a K Q' r := by
  cases r with
  | ok n w' =>
    cases n <;> simp only [Oper.upon] at h ⊢
    case enter f args => exact calls_next h hp ho
    all_goals exact h
  | halt x w' => cases x <;> simp only [Oper.upon] at h ⊢; exact hp _ _ _ h

/-- A heavy operation without a guard: the goal is small: it names no region. Nothing may panic in it. -/
theorem plan_c {i : Nat} {o : Oper} {rest : List PS} {a : Act} {w : World} {r : List Oper} (ho : ops.toList.drop i = o :: r) (hg : o.guard = none)
    (h : ∀ (K : Act → World → Prop) (Q' : Exit → Act → World → Prop), (∀ a' w', wpPlan P ops (calm Q) rest a' w' → K a' w') → wpList P #[o] (Exit.then K Q') [o] a w) :
    wpPlan P ops (calm Q) (.h i false :: rest) a w := by
  refine plan_h ho fun K hK => ?_
  have h1 := h K (fun _ _ _ => False) hK
  simp only [wpList, Region.wanted, hg, if_true] at h1 ⊢
  refine .inl ?_
  rcases h1 with h1 | ⟨_, a0, w0, h1⟩
  · exact upon_swap (fun _ _ _ h => h.elim) (fun _ _ h => h.elim) _ h1
  · exact h1.elim
theorem plan_ct {i : Nat} {o : Oper} {rest : List PS} {a : Act} {w : World} {r : List Oper} (ho : ops.toList.drop i = o :: r) (hg : o.guard = none)
    (h : ∀ (K : Act → World → Prop) (Q' : Exit → Act → World → Prop), (∀ a' w', Ext w w' → wpPlan P ops (calm Q) rest a' w' → K a' w') → wpList P #[o] (Exit.then K Q') [o] a w) :
    wpPlan P ops (calm Q) (.h i true :: rest) a w := by
  refine plan_t ho fun K hK => ?_
  have h1 := h K (fun _ _ _ => False) hK
  simp only [wpList, Region.wanted, hg, if_true] at h1 ⊢
  refine .inl ?_
  rcases h1 with h1 | ⟨_, a0, w0, h1⟩
  · exact upon_swap (fun _ _ _ h => h.elim) (fun _ _ h => h.elim) _ h1
  · exact h1.elim
theorem plan_nil {a : Act} {w : World} (h : Q .normal a w) : wpPlan P ops Q [] a w := h

end
end Go.Proofs.Ytkejjahlglldlaa
namespace Go.Proofs.Ytkejjahlglldlaa
open Go.RowKit

/-- w' is w but for the blocks in S; what is new lies behind. -/
structure Touch (S : Nat → Prop) (w w' : World) : Prop where
  os : w'.os = w.os
  tape : w'.tape = w.tape
  output : w'.output = w.output
  size : w.heap.size ≤ w'.heap.size
  block : ∀ k, k < w.heap.size → ¬ S k → w'.heap[k]? = w.heap[k]?

theorem Touch.refl (S : Nat → Prop) (w : World) : Touch S w w := ⟨rfl, rfl, rfl, Nat.le_refl _, fun _ _ _ => rfl⟩
theorem Touch.trans {S : Nat → Prop} {a b c : World} (h : Touch S a b) (k : Touch S b c) : Touch S a c :=
  ⟨k.os.trans h.os, k.tape.trans h.tape, k.output.trans h.output, Nat.le_trans h.size k.size,
    fun i hi hn => (k.block i (Nat.lt_of_lt_of_le hi h.size) hn).trans (h.block i hi hn)⟩
/-- Composition, where what the second touches is in S or new. -/
theorem Touch.trans' {S S' : Nat → Prop} {a b c : World} (h : Touch S a b) (k : Touch S' b c) (hs : ∀ i, i < a.heap.size → S' i → S i) : Touch S a c :=
  ⟨k.os.trans h.os, k.tape.trans h.tape, k.output.trans h.output, Nat.le_trans h.size k.size,
    fun i hi hn => (k.block i (Nat.lt_of_lt_of_le hi h.size) (fun hx => hn (hs i hi hx))).trans (h.block i hi hn)⟩
theorem Touch.mono {S S' : Nat → Prop} {w w' : World} (h : Touch S w w') (hs : ∀ i, i < w.heap.size → S i → S' i) : Touch S' w w' :=
  ⟨h.os, h.tape, h.output, h.size, fun i hi hn => h.block i hi (fun hx => hn (hs i hi hx))⟩
theorem Ext.touch {w w' : World} (h : Ext w w') (S : Nat → Prop) : Touch S w w' := ⟨h.os, h.tape, h.output, h.size, fun k hk _ => Below.block h k hk⟩
theorem Touch.ext {w w' : World} {S : Nat → Prop} (h : Touch S w w') (hs : ∀ i, i < w.heap.size → ¬ S i) : Ext w w' :=
  ⟨h.os, h.tape, h.output, h.size, fun k hk => h.block k hk (hs k hk)⟩
theorem Touch.below {w w' : World} {S : Nat → Prop} {B : Nat} (h : Touch S w w') (hB : B ≤ w.heap.size) (hs : ∀ i, S i → B ≤ i) : Below B w w' :=
  ⟨h.os, h.tape, h.output, h.size, fun k hk => h.block k (Nat.lt_of_lt_of_le hk hB) (fun hx => by have := hs k hx; omega)⟩
theorem Touch.alloc {S : Nat → Prop} {a w : World} (h : Touch S a w) (o : Obj) : Touch S a (w.alloc o) := h.trans (((Ext.refl w).alloc o).touch S)
theorem Touch.drew {S : Nat → Prop} {a w : World} (h : Touch S a w) : Touch S a w.drew := h.trans (((Ext.refl w).drew).touch S)
theorem Touch.setCell {S : Nat → Prop} {a w : World} (h : Touch S a w) {p : Addr} (hp : p.block < a.heap.size → S p.block) (u : Value) : Touch S a (w.setCell p u) :=
  h.trans' (S' := fun k => k = p.block) ⟨rfl, rfl, rfl, by simp [World.setCell], fun k _ hn => Below.heap_setCell _ _ _ _ hn⟩ (fun i hi e => e ▸ hp (e ▸ hi))
theorem Touch.setObj {S : Nat → Prop} {a w : World} (h : Touch S a w) {r : Nat} (hp : r < a.heap.size → S r) (o : Obj) :
    Touch S a { w with heap := w.heap.setIfInBounds r o } :=
  h.trans' (S' := fun k => k = r) ⟨rfl, rfl, rfl, by simp, fun k _ hn => by simp [Array.getElem?_setIfInBounds_ne (Ne.symm hn)]⟩ (fun i hi e => e ▸ hp (e ▸ hi))
theorem Touch.old {S : Nat → Prop} {w w' : World} (h : Touch S w w') {k : Nat} {o : Obj} (hk : w.heap[k]? = some o) (hn : ¬ S k) : w'.heap[k]? = some o := by
  rw [← hk]; exact h.block k (Array.getElem?_eq_some_iff.1 hk).1 hn
theorem Touch.cell {S : Nat → Prop} {w w' : World} (h : Touch S w w') {p : Addr} {v : Value} (hk : w.cell? p = some v) (hn : ¬ S p.block) : w'.cell? p = some v := by
  rw [← hk]
  exact World.cell?_of_block (w := w) (h.block p.block (World.block_lt_of_cell? w p hk) hn)

theorem Ext.trans' {a b c : World} (h : Ext a b) (k : Below a.heap.size b c) : Ext a c := Below.trans h k
section blocks
variable {w : World} {b : Nat} {cs : Array Value} {t : TypeId}

theorem blk_lt {o : Obj} (h : w.heap[b]? = some o) : b < w.heap.size := (Array.getElem?_eq_some_iff.1 h).1
theorem blk_cell {f : Nat × Nat} (h : w.heap[b]? = some (.cells cs t f)) {i : Nat} {v : Value} (hi : cs[i]? = some v) : w.cell? ⟨b, i, none⟩ = some v := by
  simp [World.cell?, h, hi]
section cells
variable {f : Nat × Nat} {v0 v1 v2 v3 v4 v5 v6 : Value}
theorem blk1 (h : w.heap[b]? = some (.cells #[v0] t f)) : w.cell? ⟨b, 0, none⟩ = some v0 := blk_cell h rfl
theorem blk2 (h : w.heap[b]? = some (.cells #[v0, v1] t f)) : w.cell? ⟨b, 0, none⟩ = some v0 ∧ w.cell? ⟨b, 1, none⟩ = some v1 := ⟨blk_cell h rfl, blk_cell h rfl⟩
theorem blk3 (h : w.heap[b]? = some (.cells #[v0, v1, v2] t f)) : w.cell? ⟨b, 0, none⟩ = some v0 ∧ w.cell? ⟨b, 1, none⟩ = some v1 ∧ w.cell? ⟨b, 2, none⟩ = some v2 :=
  ⟨blk_cell h rfl, blk_cell h rfl, blk_cell h rfl⟩
theorem blk5 (h : w.heap[b]? = some (.cells #[v0, v1, v2, v3, v4] t f)) : w.cell? ⟨b, 0, none⟩ = some v0 ∧ w.cell? ⟨b, 1, none⟩ = some v1 ∧ w.cell? ⟨b, 2, none⟩ = some v2 ∧ w.cell? ⟨b, 3, none⟩ = some v3 ∧ w.cell? ⟨b, 4, none⟩ = some v4 :=
  ⟨blk_cell h rfl, blk_cell h rfl, blk_cell h rfl, blk_cell h rfl, blk_cell h rfl⟩
theorem blk7 (h : w.heap[b]? = some (.cells #[v0, v1, v2, v3, v4, v5, v6] t f)) : w.cell? ⟨b, 0, none⟩ = some v0 ∧ w.cell? ⟨b, 1, none⟩ = some v1 ∧ w.cell? ⟨b, 2, none⟩ = some v2 ∧ w.cell? ⟨b, 3, none⟩ = some v3 ∧ w.cell? ⟨b, 4, none⟩ = some v4 ∧ w.cell? ⟨b, 5, none⟩ = some v5 ∧ w.cell? ⟨b, 6, none⟩ = some v6 :=
  ⟨blk_cell h rfl, blk_cell h rfl, blk_cell h rfl, blk_cell h rfl, blk_cell h rfl, blk_cell h rfl, blk_cell h rfl⟩
end cells
theorem blk_frozen (h : w.heap[b]? = some (.cells cs t (0, 0))) (i : Nat) : w.frozen? ⟨b, i, none⟩ = false := by
  simp [World.frozen?, h]
theorem blk_new (w : World) (o : Obj) : (w.alloc o).heap[w.heap.size]? = some o := heap_alloc_new w o
theorem blk_alloc {o o' : Obj} (h : w.heap[b]? = some o) : (w.alloc o').heap[b]? = some o := Ext.block ((Ext.refl w).alloc o') h
theorem blk_drew (w : World) : w.drew.heap = w.heap := rfl
theorem blk_set {f : Nat × Nat} (h : w.heap[b]? = some (.cells cs t f)) (i : Nat) (v : Value) : (w.setCell ⟨b, i, none⟩ v).heap[b]? = some (.cells (cs.setIfInBounds i v) t f) := by
  simp [World.setCell, Array.getElem?_modify, h]
theorem blk_set_ne {o : Obj} {p : Addr} (h : w.heap[b]? = some o) (hn : b ≠ p.block) (v : Value) : (w.setCell p v).heap[b]? = some o := by
  rw [Below.heap_setCell _ _ _ _ hn]; exact h
end blocks

section wpat
variable {P : Program} {Q : Exit → Act → World → Prop} {a : Act} {w : World}
/-- The world under a name, with the facts that are wanted of it. -/
theorem wp_at {c : Code} (F : World → Prop) (hw : F w) (h : ∀ W, F W → c.wp P Q a W) : c.wp P Q a w := h w hw
theorem plan_at {ops : Array Oper} {plan : List PS} (F : World → Prop) (hw : F w) (h : ∀ W, F W → wpPlan P ops Q plan a W) : wpPlan P ops Q plan a w := h w hw
theorem plan_done {ops : Array Oper} (h : Q .normal a w) : wpPlan P ops (calm Q) [] a w := h
end wpat

theorem mul_div_self' (a b : Nat) (h : 0 < b) : a * b / b = a := Nat.mul_div_cancel a h

end Go.Proofs.Ytkejjahlglldlaa
namespace Go.Proofs.Ytkejjahlglldlaa
open Go.RowKit

def adr : Option Nat → Option Addr
  | none => none
  | some b => some ⟨b, 0, none⟩
abbrev ptr (v : Option Nat) : Value := .pointer (adr v)
abbrev slv (g : Option Nat) (n cap : Nat) : Value := .slice (adr g) n cap

/-- The slice (block g, n elements of 'size' cells each, capacity cap) holds the cells xs. -/
def Sl (w : World) (e : TypeId) (size : Nat) (g : Option Nat) (n cap : Nat) (xs : List Value) : Prop :=
  xs.length = n * size ∧
  match g with
  | none => n = 0 ∧ cap = 0
  | some b => ∃ cur, w.heap[b]? = some (.cells cur e (0, 0)) ∧ n ≤ cap ∧ cap ≤ maxLen ∧ cur.size = cap * size ∧ cur.toList.take (n * size) = xs

/-- The slice type t has elements e of 'size' cells and 'bytes' bytes. -/
structure EI (P : Program) (t e : TypeId) (size bytes : Nat) : Prop where
  und : P.underlying t = some (.slice e)
  info : ∃ i z, P.info? e = some i ∧ i.zero = some z ∧ i.size = size ∧ i.bytes = bytes ∧ z.cells.size = size
  pos : 0 < size
  bpos : 0 < bytes

section
variable {w w' : World} {e : TypeId} {size : Nat} {g : Option Nat} {n cap : Nat} {xs : List Value}

theorem ownBlock_slv (g : Option Nat) (n cap : Nat) : (slv g n cap).ownBlock = g := by cases g <;> rfl
theorem Sl.nil (w : World) (e : TypeId) (size : Nat) : Sl w e size none 0 0 [] := ⟨by simp, rfl, rfl⟩
theorem Sl.owns (h : Sl w e size g n cap xs) : w.ownsRow 0 e size (slv g n cap) n xs := by
  refine ⟨h.1, ?_⟩
  cases g with
  | none => obtain ⟨_, rfl, rfl⟩ := h; exact .inl ⟨rfl, rfl⟩
  | some b => obtain ⟨_, cur, hb, h1, h2, h3, h4⟩ := h; exact .inr ⟨b, cap, cur, rfl, Nat.zero_le _, hb, h1, h2, h3, h4⟩
theorem Sl.of_owns {base b : Nat} (h : w.ownsRow base e size (.slice (some ⟨b, 0, none⟩) n cap) n xs) : Sl w e size (some b) n cap xs := by
  refine ⟨h.1, ?_⟩
  rcases h.2 with ⟨h, _⟩ | ⟨b', cap', cur, h, _, hb, h1, h2, h3, h4⟩
  · cases h
  · simp only [Value.slice.injEq, Option.some.injEq, Addr.mk.injEq, and_true, true_and] at h
    obtain ⟨rfl, rfl⟩ := h
    exact ⟨cur, hb, h1, h2, h3, h4⟩
theorem Sl.block_lt {b : Nat} (h : Sl w e size (some b) n cap xs) : b < w.heap.size := by
  obtain ⟨_, cur, hb, _⟩ := h; exact blk_lt hb
theorem Sl.cell {b : Nat} (h : Sl w e size (some b) n cap xs) {j : Nat} {u : Value} (hu : xs[j]? = some u) : w.cell? ⟨b, j, none⟩ = some u := by
  obtain ⟨_, cur, hb, _, _, _, h4⟩ := h
  refine blk_cell hb ?_
  rw [← h4, List.getElem?_take] at hu
  split at hu
  · simpa using hu
  · cases hu
theorem Sl.congr (h : Sl w e size g n cap xs) (hc : ∀ b, g = some b → w'.heap[b]? = w.heap[b]?) : Sl w' e size g n cap xs := by
  refine ⟨h.1, ?_⟩
  cases g with
  | none => exact h.2
  | some b => obtain ⟨_, cur, hb, r⟩ := h; exact ⟨cur, by rw [hc b rfl]; exact hb, r⟩
theorem Sl.touch {S : Nat → Prop} (h : Sl w e size g n cap xs) (ht : Touch S w w') (hn : ∀ b, g = some b → ¬ S b) : Sl w' e size g n cap xs :=
  h.congr fun b hb => ht.block b (by subst hb; exact h.block_lt) (hn b hb)
theorem Sl.ext (h : Sl w e size g n cap xs) (ht : Ext w w') : Sl w' e size g n cap xs :=
  h.congr fun b hb => Below.block ht b (by subst hb; exact h.block_lt)
theorem Sl.len (h : Sl w e size g n cap xs) : xs.length = n * size := h.1
theorem Sl.le (h : Sl w e size g n cap xs) : n ≤ cap := by
  cases g with
  | none => obtain ⟨_, rfl, rfl⟩ := h; exact Nat.le_refl _
  | some b => obtain ⟨_, _, _, h1, _⟩ := h; exact h1
theorem Sl.some_of_pos (h : Sl w e size g n cap xs) (hn : 0 < n) : ∃ b, g = some b := by
  cases g with
  | none => obtain ⟨_, rfl, rfl⟩ := h; omega
  | some b => exact ⟨b, rfl⟩
end

theorem adr_some (b : Nat) : adr (some b) = some ⟨b, 0, none⟩ := rfl

/-- An element's address, the slice's block under a name. -/
theorem run_index_slv {P : Program} {t e : TypeId} {size bytes : Nat} (E : EI P t e size bytes) {g : Option Nat} {b n cap j : Nat} (hg : g = some b) (hj : j < n) (w : World) :
    (Instr.indexAt t (slv g n cap) (.int .i64 (j : Int))).run P w = .ok (.pointer (some ⟨b, j * size, none⟩)) w := by
  subst hg
  obtain ⟨i, z, hi, hz, h2, h3, h4⟩ := E.info
  have h0 : (0 : Int) ≤ (j : Int) ∧ (j : Int) < (n : Int) := ⟨by omega, by omega⟩
  have ha : (⟨b, 0, none⟩ : Addr).add (j * size) = ⟨b, j * size, none⟩ := by
    unfold Addr.add
    split
    · rename_i h; rw [h]
    · simp
  simp [Instr.indexAt, asIntOf, run_underlying E.und, adr_some, sizeOf, typeInfo, hi, h2, hj, ha]

section
variable {P : Program} {w : World} {ops : Array Oper} {rest : List Oper} {o : Oper} {a : Act} {Q : Exit → Act → World → Prop}

/-- append of at least one element, the cells to be appended lying from address ⟨b, off⟩ on. -/
theorem app_from {t e : TypeId} {size bytes : Nat} (E : EI P t e size bytes) (hgd : o.guard = none) (s x : Operand)
    (ho : o.op = .call { callee := .builtin .append, args := #[s, x], argTypes := #[t, t] })
    {g : Option Nat} {n cap : Nat} {xs : List Value} (hs : a.eval s = slv g n cap) (hown : Sl w e size g n cap xs)
    {b off m c : Nat} {news : List Value} (hx : a.eval x = .slice (some ⟨b, off, none⟩) m c) (hl : news.length = m * size)
    (hnews : ∀ j u, news[j]? = some u → w.cell? ⟨b, off + j, none⟩ = some u) (h1 : ∀ u ∈ news, u.oneCell' = true) (hm : 0 < m) (hb : (n + m) * bytes ≤ 140737488355328)
    (h : ∀ g' cap' w', Sl w' e size (some g') (n + m) cap' (xs ++ news) → Touch (fun k => g = some k) w w' → (g = some g' ∨ g' = w.heap.size) →
      wpList P ops Q rest (a.put o.dst (.slice (some ⟨g', 0, none⟩) (n + m) cap')) w') : wpList P ops Q (o :: rest) a w := by
  obtain ⟨i, z, hi, hz, h2, h3, h4⟩ := E.info
  have h63 : n + m ≤ maxLen := by
    have := Nat.le_mul_of_pos_right (n + m) E.bpos
    simp only [maxLen]
    omega
  refine wpList_append_own_at w hgd s x t ho 0 e i z size bytes E.und hi hz h2 h3 h4 E.pos (slv g n cap) n xs hs hown.owns ⟨b, off, none⟩ m c news hx hl ?_ h1 h63 hb (Nat.zero_le _) ?_
  · intro j u hu
    have := hnews j u hu
    unfold Addr.add
    split
    · rename_i hj; subst hj; exact this
    · exact this
  · intro v' w' hown' hgr hnil hat
    rcases hown'.2 with ⟨_, h0⟩ | ⟨g', cap', cur, rfl, _, hgg, h5, h6, h7, h8⟩
    · omega
    · refine h g' cap' w' (Sl.of_owns hown') ?_ ?_
      · rw [ownBlock_slv] at hgr
        exact ⟨hgr.os, hgr.tape, hgr.output, hgr.size, fun k hk hn => hgr.block k hk fun e => hn e.symm⟩
      · rw [ownBlock_slv] at hat
        rcases hat with hat | hat
        · exact .inl hat.symm
        · exact .inr (Option.some.inj hat)

/-- append of a literal: the elements lie in a block that is known whole. -/
theorem app_lit {t e : TypeId} {size bytes : Nat} (E : EI P t e size bytes) (hgd : o.guard = none) (s x : Operand)
    (ho : o.op = .call { callee := .builtin .append, args := #[s, x], argTypes := #[t, t] })
    {g : Option Nat} {n cap : Nat} {xs : List Value} (hs : a.eval s = slv g n cap) (hown : Sl w e size g n cap xs)
    {b m c : Nat} {news : List Value} {e' : TypeId} {f : Nat × Nat} (hx : a.eval x = .slice (some ⟨b, 0, none⟩) m c) (hl : news.length = m * size)
    (hnews : w.heap[b]? = some (.cells news.toArray e' f)) (h1 : ∀ u ∈ news, u.oneCell' = true) (hm : 0 < m) (hb : (n + m) * bytes ≤ 140737488355328)
    (h : ∀ g' cap' w', Sl w' e size (some g') (n + m) cap' (xs ++ news) → Touch (fun k => g = some k) w w' → (g = some g' ∨ g' = w.heap.size) →
      wpList P ops Q rest (a.put o.dst (.slice (some ⟨g', 0, none⟩) (n + m) cap')) w') : wpList P ops Q (o :: rest) a w :=
  app_from E hgd s x ho hs hown hx hl (fun j u hu => by rw [Nat.zero_add]; exact blk_cell hnews (by simpa using hu)) h1 hm hb h

/-- append of the elements of a slice (perhaps none). -/
theorem app_sl {t e : TypeId} {size bytes : Nat} (E : EI P t e size bytes) (hgd : o.guard = none) (s x : Operand)
    (ho : o.op = .call { callee := .builtin .append, args := #[s, x], argTypes := #[t, t] })
    {g : Option Nat} {n cap : Nat} {xs : List Value} (hs : a.eval s = slv g n cap) (hown : Sl w e size g n cap xs)
    {g2 : Option Nat} {m c : Nat} {news : List Value} (hx : a.eval x = slv g2 m c) (hown2 : Sl w e size g2 m c news) (h1 : ∀ u ∈ news, u.oneCell' = true) (hb : (n + m) * bytes ≤ 140737488355328)
    (h : ∀ g' cap' w', Sl w' e size g' (n + m) cap' (xs ++ news) → Touch (fun k => g = some k) w w' → (g' = g ∨ g' = some w.heap.size) →
      wpList P ops Q rest (a.put o.dst (slv g' (n + m) cap')) w') : wpList P ops Q (o :: rest) a w := by
  obtain ⟨i, z, hi, hz, h2, h3, h4⟩ := E.info
  cases g2 with
  | none =>
    obtain ⟨hl, rfl, rfl⟩ := hown2
    have hn : news = [] := List.eq_nil_of_length_eq_zero (by simpa using hl)
    subst hn
    refine wpList_append_own_none hgd s x t ho 0 e i size E.und hi (slv g n cap) n xs hs hown.owns hx ?_
    exact h g cap w (by simpa using hown) (Touch.refl _ _) (.inl rfl)
  | some b2 =>
    by_cases hm : 0 < m
    · refine app_from E hgd s x ho hs hown (b := b2) (off := 0) hx hown2.len (fun j u hu => by rw [Nat.zero_add]; exact hown2.cell hu) h1 hm hb ?_
      intro g' cap' w' k1 k2 k3
      exact h (some g') cap' w' k1 k2 (k3.imp Eq.symm (fun e => by rw [e]))
    · obtain rfl : m = 0 := by omega
      have hl := hown2.len
      have hn : news = [] := List.eq_nil_of_length_eq_zero (by simpa using hl)
      subst hn
      have h63 : n + 0 ≤ maxLen := by
        have := Nat.le_mul_of_pos_right (n + 0) E.bpos
        simp only [maxLen]
        omega
      refine wpList_append_own_at w hgd s x t ho 0 e i z size bytes E.und hi hz h2 h3 h4 E.pos (slv g n cap) n xs hs hown.owns ⟨b2, 0, none⟩ 0 c [] hx hl (by simp) (by simp) h63 hb (Nat.zero_le _) ?_
      intro v' w' hown' hgr hnil hat
      have hgr' : Touch (fun k => g = some k) w w' := by
        rw [ownBlock_slv] at hgr
        exact ⟨hgr.os, hgr.tape, hgr.output, hgr.size, fun k hk hn => hgr.block k hk fun e => hn e.symm⟩
      rcases hown'.2 with ⟨rfl, h0⟩ | ⟨g', cap', cur, rfl, _, hgg, h5, h6, h7, h8⟩
      · obtain rfl : n = 0 := by omega
        have hx0 : xs = [] := List.eq_nil_of_length_eq_zero (by simpa using hown.len)
        subst hx0
        have := hnil.1 rfl
        have hg : g = none := by
          cases g with
          | none => rfl
          | some b => simp [slv, adr] at this
        subst hg
        exact h none 0 w' ⟨by simp, by simp, rfl⟩ hgr' (.inl rfl)
      · refine h (some g') cap' w' (Sl.of_owns hown') hgr' ?_
        rw [ownBlock_slv] at hat
        exact hat
end
end Go.Proofs.Ytkejjahlglldlaa
namespace Go.Proofs.Ytkejjahlglldlaa.Tch
open Go.RowKit Go.Proofs.Ytkejjahlglldlaa

/-- What may be touched. -/
class TS where
  S : Nat → Prop
variable [ts : TS]
abbrev TE (w w' : World) : Prop := Touch ts.S w w'
theorem TE.refl (w : World) : TE w w := Touch.refl _ _
theorem TE.trans {a b c : World} (h : TE a b) (k : TE b c) : TE a c := Touch.trans h k

/-- The operation yields v in every world that comes behind w. -/
def YieldsE (P : Program) (ops : Array Oper) (w : World) (o : Oper) (v : Value) (a : Act) : Prop :=
  (Region.wanted o (yielded ops a.tmps) = true ∧ ∀ w', TE w w' → (execOp a.eval o).run P w' = .ok (.value v) w') ∨
  (Region.wanted o (yielded ops a.tmps) = false ∧ v = undef)

section
variable {P : Program} {ops : Array Oper} {Q : Exit → Act → World → Prop}

/-- What is asked of the world at hand ('lt' = true: it comes behind w; else nothing) for the light operation to yield v. -/
def YieldsB (P : Program) (ops : Array Oper) (lt : Bool) (w : World) (o : Oper) (v : Value) (a : Act) : Prop :=
  if lt then YieldsE P ops w o v a else YieldsP P ops o v a

theorem YieldsB.wpOp {lt : Bool} {i : Nat} {o : Oper} {v : Value} {a : Act} {w : World} (hi : ops[i]? = some o) (hy : YieldsB P ops lt w o v a)
    {K : Act → World → Prop} (h : K (a.put o.dst v) w) : wpOp P ops Q i K a w := by
  unfold Go.wpOp
  simp only [hi]
  cases lt <;> simp only [YieldsB, Bool.false_eq_true, if_false, if_true] at hy
  · rcases hy with ⟨hw, hv⟩ | ⟨hw, rfl⟩
    · simp only [hw, if_true, Oper.wp, hv w, Oper.upon]; exact .inl h
    · simp only [hw, Bool.false_eq_true, if_false]; exact h
  · rcases hy with ⟨hw, hv⟩ | ⟨hw, rfl⟩
    · simp only [hw, if_true, Oper.wp, hv w (TE.refl w), Oper.upon]; exact .inl h
    · simp only [hw, Bool.false_eq_true, if_false]; exact h

theorem YieldsB.of_same {lt : Bool} {o : Oper} {v : Value} {a a' : Act} {w : World} (hy : YieldsB P ops lt w o v a) (he : execOp a'.eval o = execOp a.eval o)
    (hw : Region.wanted o (yielded ops a'.tmps) = Region.wanted o (yielded ops a.tmps)) : YieldsB P ops lt w o v a' := by
  unfold YieldsB YieldsE YieldsP at *
  rw [he, hw]
  exact hy

theorem YieldsB.later {lt : Bool} {o : Oper} {v : Value} {a : Act} {w w' : World} (hy : YieldsB P ops lt w o v a) (he : lt = true → TE w w') : YieldsB P ops lt w' o v a := by
  cases lt <;> simp only [YieldsB, Bool.false_eq_true, if_false, if_true] at hy ⊢
  · exact hy
  · exact hy.imp (fun ⟨h1, h2⟩ => ⟨h1, fun w'' h => h2 w'' (TE.trans (he rfl) h)⟩) id

theorem wpOp_putB {lt : Bool} {j : Nat} {oi oj : Oper} {v : Value} (hj : ops[j]? = some oj) (hap : oi.apart ops oj = true)
    (hsi : ∀ cs b, oi.op ≠ .select cs b) (hsj : ∀ cs b, oj.op ≠ .select cs b)
    (hQ : ∀ c a w, Q (.panic c) (a.put oi.dst v) w → Q (.panic c) a w) {K : Act → World → Prop} {a : Act} {w : World}
    (hy : YieldsB P ops lt w oi v a) (h : wpOp P ops Q j (fun a' w' => (lt = true → TE w w') ∧ K a' w') (a.put oi.dst v) w) :
    wpOp P ops Q j (fun a' w' => (lt = true → TE w w') ∧ YieldsB P ops lt w' oi v a' ∧ K (a'.put oi.dst v) w') a w := by
  obtain ⟨h1, h2, h3⟩ := Oper.apart_spec hap
  have keep : ∀ (a : Act), YieldsB P ops lt w oi v a → ∀ u, YieldsB P ops lt w oi v (a.put oj.dst u) := fun a hy u =>
    hy.of_same (execOp_put oi hsi a oj.dst u h3) (wanted_put oi a oj.dst u h3)
  have keepD : ∀ d, YieldsB P ops lt w oi v { a with defers := d :: a.defers } := fun d => hy.of_same rfl rfl
  unfold wpOp at *
  simp only [hj] at *
  rw [wanted_put oj a oi.dst v h1] at h
  split
  · rename_i hw
    simp only [hw, if_true] at h
    rcases h with h | ⟨hasks, hlets⟩
    case inr => exact .inr ⟨by unfold Oper.asks at *; rw [execOp_put oj hsj a oi.dst v h1] at hasks; exact hasks, hlets⟩
    refine .inl ?_
    unfold Oper.wp at *
    rw [execOp_put oj hsj a oi.dst v h1] at h
    generalize (execOp a.eval oj).run P w = r at *
    cases r with
    | ok n w' =>
      cases n <;> simp only [Oper.upon] at h ⊢
      case value u => exact ⟨h.1, (keep a hy u).later h.1, by rw [← Act.put_comm a v u h2]; exact h.2⟩
      case skip => exact ⟨h.1, (keep a hy _).later h.1, by rw [← Act.put_comm a v undef h2]; exact h.2⟩
      case defer d =>
        refine ⟨h.1, ((keepD d).of_same (execOp_put oi hsi _ oj.dst undef h3) (wanted_put oi _ oj.dst undef h3)).later h.1, ?_⟩
        rw [← Act.put_comm _ v undef h2, ← Act.put_defers]
        exact h.2
      case enter f args =>
        refine Calls.mono h fun e w'' he => ?_
        cases e with
        | returned u => exact ⟨he.1, (keep a hy u).later he.1, by rw [← Act.put_comm a v u h2]; exact he.2⟩
        | panicked c => exact hQ _ _ _ he
        | outgrown => exact he
      case row row args => exact Rows.mono h fun u w'' he => ⟨he.1, (keep a hy u).later he.1, by rw [← Act.put_comm a v u h2]; exact he.2⟩
    | halt x w' =>
      cases x <;> simp only [Oper.upon] at h ⊢
      case panic u => exact hQ _ _ _ h
  · rename_i hw
    simp only [hw] at h
    exact ⟨h.1, (keep a hy _).later h.1, by rw [← Act.put_comm a v undef h2]; exact h.2⟩

/-- Whatever order is picked from here on, the operations that T names leave what was there as it was. -/
def wpAnyT (P : Program) (ops : Array Oper) (Q : Exit → Act → World → Prop) (T : Nat → Bool) : Nat → Array Bool → Act → World → Prop
  | 0, listed, a, w => Region.ready .any ops listed = [] ∧ Q .normal a w
  | fuel + 1, listed, a, w =>
    (Region.ready .any ops listed = [] → Q .normal a w) ∧
    ∀ i ∈ Region.ready .any ops listed, wpOp P ops Q i (fun a' w' => (T i = true → TE w w') ∧ wpAnyT P ops Q T fuel (listed.setIfInBounds i true) a' w') a w

theorem wpAny_of_T {T : Nat → Bool} : ∀ (fuel : Nat) (listed : Array Bool) (a : Act) (w : World), wpAnyT P ops Q T fuel listed a w → wpAny P .any ops Q fuel listed a w
  | 0, _, _, _, h => h
  | fuel + 1, _, _, _, h => ⟨h.1, fun i hi => wpOp_mono (fun a' w' h' => wpAny_of_T fuel _ a' w' h'.2) (h.2 i hi)⟩

/-- **A light operation may be taken first.** -/
theorem wpAnyT_first {T : Nat → Bool} {lt : Bool} {m : List Nat} (hm : tableOk ops m = true) {i : Nat} {oi : Oper} {v : Value} (hi : ops[i]? = some oi) (hsel : ∀ (j : Nat) (o : Oper) cs b, ops[j]? = some o → o.op ≠ .select cs b)
    (hQ : ∀ c a w, Q (.panic c) (a.put oi.dst v) w → Q (.panic c) a w) :
    ∀ (fuel : Nat) (listed : Array Bool) (a : Act) (w : World), Closed ops listed →
      (∀ j oj, ops[j]? = some oj → j ≠ i → listed.getD j true = false → waits m j i = false → oi.apart ops oj = true ∧ (lt = true → T j = true)) →
      (∀ j oj, ops[j]? = some oj → (∃ e ∈ oj.after, Region.binds .any e = true ∧ e.on = i) → waits m j i = true) →
      i ∈ Region.ready .any ops listed → YieldsB P ops lt w oi v a →
      wpAnyT P ops Q T fuel (listed.setIfInBounds i true) (a.put oi.dst v) w → wpAnyT P ops Q T (fuel + 1) listed a w := by
  intro fuel
  induction fuel with
  | zero =>
    intro listed a w _ _ _ hr hy H
    refine ⟨fun h => (by rw [h] at hr; cases hr), fun j hj => ?_⟩
    by_cases hji : j = i
    · subst hji; exact hy.wpOp hi ⟨fun _ => TE.refl w, H⟩
    · have := ready_mono hj hji
      rw [H.1] at this
      cases this
  | succ fuel ih =>
    intro listed a w hcl hfree hdir hr hy H
    refine ⟨fun h => (by rw [h] at hr; cases hr), fun j hj => ?_⟩
    by_cases hji : j = i
    · subst hji; exact hy.wpOp hi ⟨fun _ => TE.refl w, H⟩
    · have h1 := H.2 j (ready_mono hj hji)
      obtain ⟨hjun, oj, hoj, hall⟩ := mem_ready.1 hj
      have hi0 := (mem_ready.1 hr).1
      have hnw : waits m j i = false := by
        cases hw : waits m j i with
        | false => rfl
        | true =>
          have h2 := closed_waits hm hcl j oj i hoj hall hw
          rcases Nat.lt_or_ge i listed.size with h' | h'
          · simp [h'] at hi0 h2; rw [hi0] at h2; cases h2
          · simp [Array.getElem?_eq_none h'] at h2
      obtain ⟨hap, hT⟩ := hfree j oj hoj hji hjun hnw
      have h1' : wpOp P ops Q j (fun a' w' => (lt = true → TE w w') ∧ (T j = true → TE w w') ∧ wpAnyT P ops Q T fuel ((listed.setIfInBounds i true).setIfInBounds j true) a' w') (a.put oi.dst v) w :=
        wpOp_mono (fun a' w' h => ⟨fun hl => h.1 (hT hl), h⟩) h1
      have h2 := wpOp_putB hoj hap (fun cs b => hsel i oi cs b hi) (fun cs b => hsel j oj cs b hoj) hQ hy h1'
      refine wpOp_mono (fun a' w' h3 => ⟨h3.2.2.1, ih (listed.setIfInBounds j true) a' w' (hcl.add hj) (fun k ok hk hki hun hnw' => ?_) hdir (ready_mono hr (Ne.symm hji)) h3.2.1 ?_⟩) h2
      · refine hfree k ok hk hki ?_ hnw'
        by_cases hjk : j = k
        · subst hjk; exact hjun
        · rw [getD_set_ne true hjk] at hun; exact hun
      · rw [Array.setIfInBounds_comm _ _ hji]
        exact h3.2.2.2

def wpPlan (P : Program) (ops : Array Oper) (Q : Exit → Act → World → Prop) : List PS → Act → World → Prop
  | [], a, w => Q .normal a w
  | .p i :: rest, a, w => ∃ o, ops[i]? = some o ∧ if Region.wanted o (yielded ops a.tmps) then ∃ v, (∀ w', (execOp a.eval o).run P w' = .ok (.value v) w') ∧ wpPlan P ops Q rest (a.put o.dst v) w else wpPlan P ops Q rest (a.put o.dst undef) w
  | .l _ :: _, _, _ => False
  | .e i :: rest, a, w => ∃ o, ops[i]? = some o ∧ if Region.wanted o (yielded ops a.tmps) then ∃ v, (∀ w', TE w w' → (execOp a.eval o).run P w' = .ok (.value v) w') ∧ wpPlan P ops Q rest (a.put o.dst v) w else wpPlan P ops Q rest (a.put o.dst undef) w
  | .h i tr :: rest, a, w => wpOp P ops Q i (fun a' w' => (tr = true → TE w w') ∧ wpPlan P ops Q rest a' w') a w

theorem planOk_sound {m : List Nat} {T : Nat → Bool} (hm : tableOk ops m = true) (hd : dirOk ops m = true) (hs : Region.noSelect ops = true)
    (hQ : ∀ (i : Nat) (o : Oper), ops[i]? = some o → ∀ c a v w, Q (.panic c) (a.put o.dst v) w → Q (.panic c) a w) :
    ∀ (plan : List PS) (listed : Array Bool) (a : Act) (w : World), (∀ i tr, PS.h i tr ∈ plan → T i = true → tr = true) → Closed ops listed →
      planOk ops m T plan listed = true → wpPlan P ops Q plan a w → wpAnyT P ops Q T plan.length listed a w := by
  have hdir : ∀ i j oj, ops[j]? = some oj → (∃ e ∈ oj.after, Region.binds .any e = true ∧ e.on = i) → waits m j i = true := by
    rintro i j oj hj ⟨e, he, hb, rfl⟩
    unfold dirOk at hd
    rw [List.all_eq_true] at hd
    have h1 := hd j (by simp; exact (Array.getElem?_eq_some_iff.1 hj).1)
    simp only [hj] at h1
    have h2 := (Array.all_eq_true_iff_forall_mem.1 h1) e he
    simpa [hb] using h2
  have hl : ∀ {lt : Bool} {i : Nat} {rest : List PS} {listed : Array Bool} {a : Act} {w : World} {o : Oper} {v : Value}, Closed ops listed → ops[i]? = some o →
      lightOk ops m T listed i lt = true → YieldsB P ops lt w o v a → wpAnyT P ops Q T rest.length (listed.setIfInBounds i true) (a.put o.dst v) w →
      wpAnyT P ops Q T (rest.length + 1) listed a w := by
    intro lt i rest listed a w o v hc ho hk hy h
    unfold lightOk at hk
    simp only [ho, Bool.and_eq_true] at hk
    obtain ⟨hr, hk⟩ := hk
    refine wpAnyT_first hm ho (Region.noSelect_spec hs) (fun c a w => hQ _ _ ho c a _ w) _ listed a w hc (fun j oj hj hji hun hnw => ?_) (fun j oj => hdir i j oj) (by simpa using hr) hy h
    rw [List.all_eq_true] at hk
    have h1 := hk j (by simp; exact (Array.getElem?_eq_some_iff.1 hj).1)
    simp only [hj, Bool.or_eq_true, beq_iff_eq, hji, false_or, hun, Bool.false_eq_true, hnw, Bool.and_eq_true, Bool.not_eq_true'] at h1
    exact ⟨h1.1, fun hlt => h1.2.resolve_left (by simp [hlt])⟩
  intro plan
  induction plan with
  | nil => intro listed a w _ _ hk h; exact ⟨by simpa [planOk] using hk, h⟩
  | cons s rest ih =>
    intro listed a w hT hc hk h
    have hT' : ∀ i tr, PS.h i tr ∈ rest → T i = true → tr = true := fun i tr hm => hT i tr (List.mem_cons_of_mem _ hm)
    cases s with
    | p i =>
      simp only [planOk, Bool.and_eq_true] at hk
      obtain ⟨o, ho, h⟩ := h
      have hr : i ∈ Region.ready .any ops listed := by have := hk.1; unfold lightOk at this; simp only [Bool.and_eq_true] at this; simpa using this.1
      split at h
      · rename_i hw
        obtain ⟨v, hv, h⟩ := h
        exact hl (rest := rest) hc ho hk.1 (by simp only [YieldsB, Bool.false_eq_true, if_false]; exact .inl ⟨hw, hv⟩) (ih _ _ _ hT' (hc.add hr) hk.2 h)
      · rename_i hw
        exact hl (rest := rest) hc ho hk.1 (by simp only [YieldsB, Bool.false_eq_true, if_false]; exact .inr ⟨by simpa using hw, rfl⟩) (ih _ _ _ hT' (hc.add hr) hk.2 h)
    | l i => exact h.elim
    | e i =>
      simp only [planOk, Bool.and_eq_true] at hk
      obtain ⟨o, ho, h⟩ := h
      have hr : i ∈ Region.ready .any ops listed := by have := hk.1; unfold lightOk at this; simp only [Bool.and_eq_true] at this; simpa using this.1
      split at h
      · rename_i hw
        obtain ⟨v, hv, h⟩ := h
        exact hl (rest := rest) hc ho hk.1 (by simp only [YieldsB, if_true]; exact .inl ⟨hw, hv⟩) (ih _ _ _ hT' (hc.add hr) hk.2 h)
      · rename_i hw
        exact hl (rest := rest) hc ho hk.1 (by simp only [YieldsB, if_true]; exact .inr ⟨by simpa using hw, rfl⟩) (ih _ _ _ hT' (hc.add hr) hk.2 h)
    | h i tr =>
      simp only [planOk, Bool.and_eq_true, beq_iff_eq] at hk
      obtain ⟨hr, hk⟩ := hk
      refine ⟨fun h0 => by rw [hr] at h0; simp at h0, fun j hj => ?_⟩
      rw [hr] at hj
      simp only [List.mem_singleton] at hj
      subst hj
      exact wpOp_mono (fun a' w' h' => ⟨fun ht => h'.1 (hT j tr (by simp) ht), ih _ _ _ hT' (hc.add (by rw [hr]; simp)) hk h'.2⟩) h

/-- **The law**: a region that draws its order, in a program under wide orders. -/
theorem region_plan {id : Nat} {a : Act} {w : World} (plan : List PS) (hf : P.follows .mixedOrders = true) (hk : regionOk ops plan = true) (hn : decide ((plan.map PS.no).Nodup) = true)
    (hQ : ∀ (i : Nat) (o : Oper), ops[i]? = some o → ∀ c a v w, Q (.panic c) (a.put o.dst v) w → Q (.panic c) a w) (h : wpPlan P ops Q plan a w.drew) : (Code.region id ops true).wp P Q a w := by
  unfold regionOk at hk
  simp only [Bool.and_eq_true, beq_iff_eq] at hk
  obtain ⟨⟨⟨⟨hs, hm⟩, hd⟩, hlen⟩, hp⟩ := hk
  refine wp_region_any hf (wpAny_of_T (T := planT plan) _ _ _ _ ?_)
  have h0 := planOk_sound hm hd hs hQ plan (Array.replicate ops.size false) a w.drew (planT_spec (of_decide_eq_true hn)) ?_ hp h
  · rw [hlen] at h0; exact h0
  intro j o hj hl e _ _
  exfalso
  simp only [Array.getD_eq_getD_getElem?, Array.getElem?_replicate] at hl
  split at hl <;> simp at hl

theorem wpPlan_monoQ {Q Q' : Exit → Act → World → Prop} (hq : ∀ e a w, Q e a w → Q' e a w) : ∀ (plan : List PS) (a : Act) (w : World), wpPlan P ops Q plan a w → wpPlan P ops Q' plan a w := by
  intro plan
  induction plan with
  | nil => intro a w h; exact hq _ _ _ h
  | cons s rest ih =>
    intro a w h
    cases s with
    | h i tr => exact wpOp_mono (fun a' w' h' => ⟨h'.1, ih _ _ h'.2⟩) (wpOp_monoQ hq h)
    | l i => exact h.elim
    | _ =>
      obtain ⟨o, ho, h⟩ := h
      refine ⟨o, ho, ?_⟩
      split at h
      · rename_i hw
        obtain ⟨v, hv, h⟩ := h
        rw [if_pos hw]
        exact ⟨v, hv, ih _ _ h⟩
      · rename_i hw
        rw [if_neg hw]
        exact ih _ _ h

/-- .. where nothing in the region panics. -/
theorem region_calm {id : Nat} {a : Act} {w : World} (plan : List PS) (hf : P.follows .mixedOrders = true) (hk : regionOk ops plan = true) (hn : decide ((plan.map PS.no).Nodup) = true)
    (h : wpPlan P ops (calm Q) plan a w.drew) : (Code.region id ops true).wp P Q a w := by
  have h1 : (Code.region id ops true).wp P (calm Q) a w := region_plan plan hf hk hn (fun _ _ _ _ _ _ _ h => h) h
  exact Code.wp_mono (fun e a w he => by cases e <;> first | exact he | exact he.elim) h1

theorem plan_p {i : Nat} {o : Oper} {rest : List PS} {a : Act} {w : World} {r : List Oper} (ho : ops.toList.drop i = o :: r)
    (h : ∀ K : Act → Prop, (∀ a, wpPlan P ops Q rest a w → K a) → if Region.wanted o (yielded ops a.tmps) then ∃ v, (∀ w', (execOp a.eval o).run P w' = .ok (.value v) w') ∧ K (a.put o.dst v) else K (a.put o.dst undef)) :
    wpPlan P ops Q (.p i :: rest) a w := ⟨o, at_drop ho, h _ fun _ h => h⟩
theorem plan_e {i : Nat} {o : Oper} {rest : List PS} {a : Act} {w : World} {r : List Oper} (ho : ops.toList.drop i = o :: r)
    (h : ∀ K : Act → Prop, (∀ a, wpPlan P ops Q rest a w → K a) → if Region.wanted o (yielded ops a.tmps) then ∃ v, (∀ w', TE w w' → (execOp a.eval o).run P w' = .ok (.value v) w') ∧ K (a.put o.dst v) else K (a.put o.dst undef)) :
    wpPlan P ops Q (.e i :: rest) a w := ⟨o, at_drop ho, h _ fun _ h => h⟩
theorem plan_e1 {i : Nat} {o : Oper} {rest : List PS} {a : Act} {w : World} {r : List Oper} (ho : ops.toList.drop i = o :: r) (hg : o.guard = none) (v : Value)
    (h : ∀ w', TE w w' → (execOp a.eval o).run P w' = .ok (.value v) w') (h2 : ∀ K : Act → Prop, (∀ a, wpPlan P ops Q rest a w → K a) → K (a.put o.dst v)) :
    wpPlan P ops Q (.e i :: rest) a w := ⟨o, at_drop ho, by
      rw [if_pos (by simp [Region.wanted, hg])]
      exact ⟨v, h, h2 _ fun _ h => h⟩⟩
theorem plan_h {i : Nat} {o : Oper} {rest : List PS} {a : Act} {w : World} {r : List Oper} (ho : ops.toList.drop i = o :: r)
    (h : ∀ K : Act → World → Prop, (∀ a' w', wpPlan P ops Q rest a' w' → K a' w') → wpList P ops (Exit.then K Q) [o] a w) :
    wpPlan P ops Q (.h i false :: rest) a w :=
  wpOp_mono (K := fun a' w' => wpPlan P ops Q rest a' w') (fun _ _ h => ⟨fun h0 => (by cases h0), h⟩) (wpOp_of_list ho (h _ fun _ _ h => h))
theorem plan_t {i : Nat} {o : Oper} {rest : List PS} {a : Act} {w : World} {r : List Oper} (ho : ops.toList.drop i = o :: r)
    (h : ∀ K : Act → World → Prop, (∀ a' w', TE w w' → wpPlan P ops Q rest a' w' → K a' w') → wpList P ops (Exit.then K Q) [o] a w) :
    wpPlan P ops Q (.h i true :: rest) a w :=
  wpOp_mono (K := fun a' w' => TE w w' ∧ wpPlan P ops Q rest a' w') (fun _ _ h => ⟨fun _ => h.1, h.2⟩) (wpOp_of_list ho (h _ fun _ _ h1 h2 => ⟨h1, h2⟩))
/-- A heavy operation without a guard: the goal is small: it names no region. Nothing may panic in it. -/
theorem plan_c {i : Nat} {o : Oper} {rest : List PS} {a : Act} {w : World} {r : List Oper} (ho : ops.toList.drop i = o :: r) (hg : o.guard = none)
    (h : ∀ (K : Act → World → Prop) (Q' : Exit → Act → World → Prop), (∀ a' w', wpPlan P ops (calm Q) rest a' w' → K a' w') → wpList P #[o] (Exit.then K Q') [o] a w) :
    wpPlan P ops (calm Q) (.h i false :: rest) a w := by
  refine plan_h ho fun K hK => ?_
  have h1 := h K (fun _ _ _ => False) hK
  simp only [wpList, Region.wanted, hg, if_true] at h1 ⊢
  refine .inl ?_
  rcases h1 with h1 | ⟨_, a0, w0, h1⟩
  · exact upon_swap (fun _ _ _ h => h.elim) (fun _ _ h => h.elim) _ h1
  · exact h1.elim
theorem plan_ct {i : Nat} {o : Oper} {rest : List PS} {a : Act} {w : World} {r : List Oper} (ho : ops.toList.drop i = o :: r) (hg : o.guard = none)
    (h : ∀ (K : Act → World → Prop) (Q' : Exit → Act → World → Prop), (∀ a' w', TE w w' → wpPlan P ops (calm Q) rest a' w' → K a' w') → wpList P #[o] (Exit.then K Q') [o] a w) :
    wpPlan P ops (calm Q) (.h i true :: rest) a w := by
  refine plan_t ho fun K hK => ?_
  have h1 := h K (fun _ _ _ => False) hK
  simp only [wpList, Region.wanted, hg, if_true] at h1 ⊢
  refine .inl ?_
  rcases h1 with h1 | ⟨_, a0, w0, h1⟩
  · exact upon_swap (fun _ _ _ h => h.elim) (fun _ _ h => h.elim) _ h1
  · exact h1.elim
theorem plan_nil {a : Act} {w : World} (h : Q .normal a w) : wpPlan P ops Q [] a w := h

end
end Go.Proofs.Ytkejjahlglldlaa.Tch
namespace Go.Proofs.Ytkejjahlglldlaa
open Go.RowKit

/-- Block m is a map that reads as M, in the order of its entries. -/
def MapI (w : World) (m : Nat) (M : List (Int × Value)) : Prop :=
  ∃ es clock, w.heap[m]? = some (.map es clock) ∧ es.toList.map (fun e => (e.key, e.val)) = M.map (fun p => (Value.int .i64 p.1, p.2))

def lookI (id : Int) : List (Int × Value) → Nat → Option (Nat × Value)
  | [], _ => none
  | (k, v) :: M, i => if id = k then some (i, v) else lookI id M (i + 1)

theorem MapI.lt {w : World} {m : Nat} {M : List (Int × Value)} (h : MapI w m M) : m < w.heap.size := by
  obtain ⟨es, c, hb, _⟩ := h; exact blk_lt hb
theorem MapI.congr {w w' : World} {m : Nat} {M : List (Int × Value)} (h : MapI w m M) (hc : w'.heap[m]? = w.heap[m]?) : MapI w' m M := by
  obtain ⟨es, c, hb, h⟩ := h; exact ⟨es, c, by rw [hc]; exact hb, h⟩
theorem MapI.touch {S : Nat → Prop} {w w' : World} {m : Nat} {M : List (Int × Value)} (h : MapI w m M) (ht : Touch S w w') (hn : ¬ S m) : MapI w' m M :=
  h.congr (ht.block m h.lt hn)
theorem MapI.ext {w w' : World} {m : Nat} {M : List (Int × Value)} (h : MapI w m M) (ht : Ext w w') : MapI w' m M := h.congr (Below.block ht m h.lt)
theorem MapI.new (w : World) : MapI (w.alloc (.map #[] 0)) w.heap.size [] := ⟨#[], 0, blk_new _ _, rfl⟩

theorem findNow_int (id : Int) : ∀ (es : List MapEntry) (M : List (Int × Value)) (i : Nat), es.map (fun e => (e.key, e.val)) = M.map (fun p => (Value.int .i64 p.1, p.2)) →
    Instr.findNow (.int .i64) (.int .i64 id) es i = some (lookI id M i)
  | [], [], _, _ => rfl
  | [], _ :: _, _, h => by simp at h
  | _ :: _, [], _, h => by simp at h
  | e :: es, (k, v) :: M, i, h => by
    simp only [List.map_cons, List.cons.injEq, Prod.mk.injEq] at h
    obtain ⟨⟨h1, h2⟩, h3⟩ := h
    have ih := findNow_int id es M (i + 1) h3
    simp only [Instr.findNow, h1, Instr.sameNow, if_true, lookI]
    by_cases hk : id = k
    · subst hk; simp [h2]
    · have hk' : (id == k) = false := by simpa using hk
      simp [hk, hk', ih]

theorem map_eraseIdx' {α β : Type} (f : α → β) : ∀ (l : List α) (i : Nat), (l.eraseIdx i).map f = (l.map f).eraseIdx i
  | [], _ => by simp
  | a :: l, 0 => by simp
  | a :: l, i + 1 => by simp [map_eraseIdx' f l i]

section
variable {P : Program} {T K E : TypeId} {w : World} {m : Nat} {M : List (Int × Value)}

theorem run_checkKey_int (hK : P.underlying K = some (.int .i64)) (b : Bool) (id : Int) (w : World) : (Instr.checkKey b 10000 K (.int .i64 id)).run P w = .ok () w := by
  have h : ∀ n, (Instr.checkKey b (n + 1) K (.int .i64 id)).run P w = .ok () w := fun n => by
    simp [Instr.checkKey, run_underlying hK]
  exact h 9999

theorem run_findKey_int (hK : P.underlying K = some (.int .i64)) (id : Int) {es : Array MapEntry} (h : es.toList.map (fun e => (e.key, e.val)) = M.map (fun p => (Value.int .i64 p.1, p.2))) (w : World) :
    (Instr.findKey K (.int .i64 id) es.toList).run P w = .ok (lookI id M 0) w := by
  simp only [Instr.findKey, Sem.run_bind, run_underlying hK, Result.andThen_ok, findNow_int id es.toList M 0 h, Sem.run_pure]

theorem map_look (hT : P.underlying T = some (.map K E)) (hK : P.underlying K = some (.int .i64)) {z : Value} (hz : (P.info? E).map (·.zero) = some (some z)) (h : MapI w m M) (id : Int) :
    (Instr.lookup T (.map (some m)) (.int .i64 id) true).run P w = .ok (.tuple #[((lookI id M 0).map (·.2)).getD z, .bool (lookI id M 0).isSome]) w := by
  obtain ⟨es, c, hb, he⟩ := h
  have hz' : (zeroValue E).run P w = .ok z w := by
    cases hi : P.info? E with
    | none => rw [hi] at hz; simp at hz
    | some i => rw [hi] at hz; simp at hz; simp [zeroValue, typeInfo, hi, hz]
  cases hl : lookI id M 0 with
  | none => simp [Instr.lookup, run_underlying hT, getObj, Sem.run, hb, run_checkKey_int hK, run_findKey_int hK id he, hl, hz']
  | some q => obtain ⟨j, v⟩ := q; simp [Instr.lookup, run_underlying hT, getObj, Sem.run, hb, run_checkKey_int hK, run_findKey_int hK id he, hl]

theorem map_put (hT : P.underlying T = some (.map K E)) (hK : P.underlying K = some (.int .i64)) (h : MapI w m M) (id : Int) (v : Value) (hl : lookI id M 0 = none) :
    ∃ w2, (Instr.mapUpdate T (.map (some m)) (.int .i64 id) v).run P w = .ok () w2 ∧ MapI w2 m (M ++ [(id, v)]) ∧ Touch (fun k => k = m) w w2 := by
  obtain ⟨es, c, hb, he⟩ := h
  refine ⟨{ w with heap := w.heap.setIfInBounds m (.map (es.push { key := .int .i64 id, val := v, born := c }) (c + 1)) }, ?_, ?_, ?_⟩
  · simp [Instr.mapUpdate, run_underlying hT, getObj, setObj, Sem.run, hb, run_checkKey_int hK, run_findKey_int hK id he, hl]
  · refine ⟨es.push { key := .int .i64 id, val := v, born := c }, c + 1, ?_, ?_⟩
    · simp [blk_lt hb]
    · simp [he]
  · exact Touch.setObj (S := fun k => k = m) (Touch.refl _ w) (fun _ => rfl) _

theorem lookI_at (id : Int) : ∀ (M : List (Int × Value)) (i j : Nat) (v : Value), lookI id M i = some (j, v) → i ≤ j ∧ j - i < M.length
  | [], _, _, _, h => by simp [lookI] at h
  | (k, u) :: M, i, j, v, h => by
    simp only [lookI] at h
    split at h
    · simp at h; obtain ⟨rfl, rfl⟩ := h; simp
    · have := lookI_at id M (i + 1) j v h; simp; omega

theorem map_del (hT : P.underlying T = some (.map K E)) (hK : P.underlying K = some (.int .i64)) (h : MapI w m M) (id : Int) {j : Nat} {v : Value} (hl : lookI id M 0 = some (j, v)) {K' ty : TypeId} :
    ∃ w2, (Builtin.delete_ #[T, K'] ty #[.map (some m), .int .i64 id]).run P w = .ok (.tuple #[]) w2 ∧ MapI w2 m (M.eraseIdx j) ∧ Touch (fun k => k = m) w w2 := by
  obtain ⟨es, c, hb, he⟩ := h
  refine ⟨{ w with heap := w.heap.setIfInBounds m (.map (es.eraseIdxIfInBounds j) c) }, ?_, ?_, ?_⟩
  · simp [Builtin.delete_, run_underlying hT, getObj, setObj, Sem.run, hb, run_checkKey_int hK, run_findKey_int hK id he, hl]
  · refine ⟨es.eraseIdxIfInBounds j, c, ?_, ?_⟩
    · simp [blk_lt hb]
    · have hlen : es.toList.length = M.length := by have := congrArg List.length he; simpa using this
      have hj : j < es.size := by have := lookI_at id M 0 j v hl; simp at hlen; omega
      simp only [Array.eraseIdxIfInBounds, hj, dif_pos]
      rw [Array.toList_eraseIdx, map_eraseIdx', he, ← map_eraseIdx']
  · exact Touch.setObj (S := fun k => k = m) (Touch.refl _ w) (fun _ => rfl) _

theorem map_len (hT : P.underlying T = some (.map K E)) (h : MapI w m M) {ty : TypeId} :
    (Builtin.len_ #[T] ty #[.map (some m)]).run P w = .ok (.int .i64 M.length) w := by
  obtain ⟨es, c, hb, he⟩ := h
  have hlen : es.toList.length = M.length := by have := congrArg List.length he; simpa using this
  simp [Builtin.len_, run_underlying hT, getObj, Sem.run, hb, goInt]
  have : es.size = M.length := by simpa using hlen
  rw [this]
end
end Go.Proofs.Ytkejjahlglldlaa
