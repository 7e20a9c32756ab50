/- Regions that draw their order, with one fork: of two heavy operations either may come next. No program is named here. The law of forks once more: what a heavy operation may touch is said by S. (As <Name>Frk; there S is empty.) No program is named here. -/
import Derived.Test.YtkejjahlglldlaaMA
namespace Go.Proofs.Ytkejjahlglldlaa
open Go.RowKit
section
variable {P : Program} {ops : Array Oper} {Q : Exit → Act → World → Prop}

/-- What is asked where a part of a plan ends. -/
def tailQ (R : Act → World → Prop) : Exit → Act → World → Prop
  | .normal, a, w => R a w
  | _, _, _ => False
theorem wpOp_tail {R : Act → World → Prop} {i : Nat} {K : Act → World → Prop} {a : Act} {w : World} (h : wpOp P ops (calm (tailQ R)) i K a w) : wpOp P ops Q i K a w := by
  unfold wpOp at *
  split
  · rename_i ho; simpa [ho] using h
  · rename_i o ho
    simp only [ho] at h
    split
    · rename_i hw
      simp only [hw, if_true] at h
      refine h.imp (fun h => ?_) (fun ⟨h1, a, w, h2⟩ => (show False from h2).elim)
      unfold Oper.wp at *
      generalize (execOp a.eval o).run P w = r at *
      cases r with
      | ok n w' =>
        cases n <;> simp only [Oper.upon] at h ⊢
        case enter f args =>
          refine h.mono fun e w'' he => ?_
          cases e with
          | returned v => exact he
          | panicked c => exact (show False from he).elim
          | outgrown => obtain ⟨a, w, h2⟩ := he; exact (show False from h2).elim
        all_goals exact h
      | halt x w' => cases x <;> simp only [Oper.upon] at h ⊢; exact (show False from h).elim
    · rename_i hw; simpa [hw] using h
def preOk (ops : Array Oper) (m : List Nat) (T : Nat → Bool) : List PS → Array Bool → Bool
  | [], _ => true
  | .p i :: rest, listed => lightOk ops m T listed i false && preOk ops m T rest (listed.setIfInBounds i true)
  | .l i :: rest, listed => isLoad ops i && lightOk ops m T listed i true && preOk ops m T rest (listed.setIfInBounds i true)
  | .e i :: rest, listed => lightOk ops m T listed i true && preOk ops m T rest (listed.setIfInBounds i true)
  | .h i _ :: rest, listed => Region.ready .any ops listed == [i] && preOk ops m T rest (listed.setIfInBounds i true)
def listAfter : List PS → Array Bool → Array Bool
  | [], l => l
  | s :: r, l => listAfter r (l.setIfInBounds s.no true)
theorem planOk_pre {m : List Nat} {T : Nat → Bool} (hm : tableOk ops m = true) (hd : dirOk ops m = true) (hs : Region.noSelect ops = true)
    (hQ : ∀ c a d v w, Q (.panic c) (a.put d v) w → Q (.panic c) a w) {R : Act → World → Prop} (k : Nat) :
    ∀ (plan : List PS) (listed : Array Bool) (a : Act) (w : World), (∀ i tr, PS.h i tr ∈ plan → T i = true → tr = true) → Closed ops listed →
      preOk ops m T plan listed = true → (∀ a w, Closed ops (listAfter plan listed) → R a w → wpAnyT P ops Q T k (listAfter plan listed) a w) → wpPlan P ops (calm (tailQ R)) plan a w → wpAnyT P ops Q T (plan.length + k) listed a w := by
  have hdir : ∀ i j oj, ops[j]? = some oj → (∃ e ∈ oj.after, Region.binds .any e = true ∧ e.on = i) → waits m j i = true := by
    rintro i j oj hj ⟨e, he, hb, rfl⟩
    unfold dirOk at hd
    rw [List.all_eq_true] at hd
    have h1 := hd j (by simp; exact (Array.getElem?_eq_some_iff.1 hj).1)
    simp only [hj] at h1
    have h2 := (Array.all_eq_true_iff_forall_mem.1 h1) e he
    simpa [hb] using h2
  have hl : ∀ {lt : Bool} {i : Nat} {n : Nat} {listed : Array Bool} {a : Act} {w : World} {o : Oper} {v : Value}, Closed ops listed → ops[i]? = some o →
      lightOk ops m T listed i lt = true → YieldsB P ops lt w o v a → wpAnyT P ops Q T n (listed.setIfInBounds i true) (a.put o.dst v) w →
      wpAnyT P ops Q T (n + 1) listed a w := by
    intro lt i n listed a w o v hc ho hk hy h
    unfold lightOk at hk
    simp only [ho, Bool.and_eq_true] at hk
    obtain ⟨hr, hk⟩ := hk
    refine wpAnyT_first hm ho (Region.noSelect_spec hs) (fun c a w => hQ c a _ _ w) _ listed a w hc (fun j oj hj hji hun hnw => ?_) (fun j oj => hdir i j oj) (by simpa using hr) hy h
    rw [List.all_eq_true] at hk
    have h1 := hk j (by simp; exact (Array.getElem?_eq_some_iff.1 hj).1)
    simp only [hj, Bool.or_eq_true, beq_iff_eq, hji, false_or, hun, Bool.false_eq_true, hnw, Bool.and_eq_true, Bool.not_eq_true'] at h1
    exact ⟨h1.1, fun hlt => h1.2.resolve_left (by simp [hlt])⟩
  intro plan
  induction plan with
  | nil => intro listed a w _ hc _ hR h; rw [List.length_nil, Nat.zero_add]; exact hR a w hc h
  | cons s rest ih =>
    intro listed a w hT hc hk hR h
    have hT' : ∀ i tr, PS.h i tr ∈ rest → T i = true → tr = true := fun i tr hm => hT i tr (List.mem_cons_of_mem _ hm)
    rw [List.length_cons, Nat.add_right_comm]
    cases s with
    | p i =>
      simp only [preOk, Bool.and_eq_true] at hk
      obtain ⟨o, ho, h⟩ := h
      have hr : i ∈ Region.ready .any ops listed := by have := hk.1; unfold lightOk at this; simp only [Bool.and_eq_true] at this; simpa using this.1
      split at h
      · rename_i hw
        obtain ⟨v, hv, h⟩ := h
        exact hl hc ho hk.1 (by simp only [YieldsB, Bool.false_eq_true, if_false]; exact .inl ⟨hw, hv⟩) (ih _ _ _ hT' (hc.add hr) hk.2 hR h)
      · rename_i hw
        exact hl hc ho hk.1 (by simp only [YieldsB, Bool.false_eq_true, if_false]; exact .inr ⟨by simpa using hw, rfl⟩) (ih _ _ _ hT' (hc.add hr) hk.2 hR h)
    | l i =>
      simp only [preOk, Bool.and_eq_true] at hk
      obtain ⟨o, ho, h⟩ := h
      have hr : i ∈ Region.ready .any ops listed := by have := hk.1.2; unfold lightOk at this; simp only [Bool.and_eq_true] at this; simpa using this.1
      have hld : ∃ t x, o.op = .load t x := by
        have := hk.1.1
        simp only [isLoad, ho] at this
        cases ho' : o.op <;> simp [ho'] at this
        exact ⟨_, _, rfl⟩
      obtain ⟨t, x, hld⟩ := hld
      split at h
      · rename_i hw
        obtain ⟨v, hv, h⟩ := h
        exact hl hc ho hk.1.2 (by simp only [YieldsB, if_true]; exact .inl ⟨hw, fun w' he => run_load_value hld hv he⟩) (ih _ _ _ hT' (hc.add hr) hk.2 hR h)
      · rename_i hw
        exact hl hc ho hk.1.2 (by simp only [YieldsB, if_true]; exact .inr ⟨by simpa using hw, rfl⟩) (ih _ _ _ hT' (hc.add hr) hk.2 hR h)
    | e i =>
      simp only [preOk, Bool.and_eq_true] at hk
      obtain ⟨o, ho, h⟩ := h
      have hr : i ∈ Region.ready .any ops listed := by have := hk.1; unfold lightOk at this; simp only [Bool.and_eq_true] at this; simpa using this.1
      split at h
      · rename_i hw
        obtain ⟨v, hv, h⟩ := h
        exact hl hc ho hk.1 (by simp only [YieldsB, if_true]; exact .inl ⟨hw, hv⟩) (ih _ _ _ hT' (hc.add hr) hk.2 hR h)
      · rename_i hw
        exact hl hc ho hk.1 (by simp only [YieldsB, if_true]; exact .inr ⟨by simpa using hw, rfl⟩) (ih _ _ _ hT' (hc.add hr) hk.2 hR h)
    | h i tr =>
      simp only [preOk, Bool.and_eq_true, beq_iff_eq] at hk
      obtain ⟨hr, hk⟩ := hk
      refine ⟨fun h0 => by rw [hr] at h0; simp at h0, fun j hj => ?_⟩
      rw [hr] at hj
      simp only [List.mem_singleton] at hj
      subst hj
      exact wpOp_mono (fun a' w' h' => ⟨fun ht => h'.1 (hT j tr (by simp) ht), ih _ _ _ hT' (hc.add (by rw [hr]; simp)) hk hR h'.2⟩) (wpOp_tail h)

def forkT (plan : List PS) (x : Nat) : Bool := plan.all fun s => s.no != x || s.track
theorem forkT_spec {plan : List PS} : ∀ i tr, PS.h i tr ∈ plan → forkT plan i = true → tr = true := by
  intro i tr hm h
  unfold forkT at h
  rw [List.all_eq_true] at h
  have := h _ hm
  simpa [PS.no, PS.track] using this
/-- A plan with forks: a list to the end; or a list, then two operations of which either may come next. -/
inductive PT where
  | leaf (l : List PS)
  | fork (pre : List PS) (i : Nat) (ti : Bool) (l : PT) (j : Nat) (tj : Bool) (r : PT)
def PT.all : PT → List PS
  | .leaf l => l
  | .fork pre i ti l j tj r => pre ++ .h i ti :: l.all ++ .h j tj :: r.all
def PT.len : PT → Nat
  | .leaf l => l.length
  | .fork pre _ _ l _ _ _ => pre.length + (l.len + 1)
def ptOk (ops : Array Oper) (m : List Nat) (T : Nat → Bool) : PT → Array Bool → Bool
  | .leaf l, L => planOk ops m T l L
  | .fork pre i _ l j _ r, L => preOk ops m T pre L && Region.ready .any ops (listAfter pre L) == [i, j] && l.len == r.len &&
      ptOk ops m T l ((listAfter pre L).setIfInBounds i true) && ptOk ops m T r ((listAfter pre L).setIfInBounds j true)
def wpPT (P : Program) (ops : Array Oper) (Q : Exit → Act → World → Prop) : PT → Act → World → Prop
  | .leaf l, a, w => wpPlan P ops (calm Q) l a w
  | .fork pre i ti l j tj r, a, w => wpPlan P ops (calm (tailQ fun a w =>
      wpOp P ops (calm Q) i (fun a' w' => (ti = true → Ext w w') ∧ wpPT P ops Q l a' w') a w ∧
      wpOp P ops (calm Q) j (fun a' w' => (tj = true → Ext w w') ∧ wpPT P ops Q r a' w') a w)) pre a w
theorem ptOk_sound {m : List Nat} {T : Nat → Bool} (hm : tableOk ops m = true) (hd : dirOk ops m = true) (hs : Region.noSelect ops = true) :
    ∀ (t : PT) (listed : Array Bool) (a : Act) (w : World), (∀ i tr, PS.h i tr ∈ t.all → T i = true → tr = true) → Closed ops listed →
      ptOk ops m T t listed = true → wpPT P ops Q t a w → wpAnyT P ops (calm Q) T t.len listed a w := by
  have hQ : ∀ c a d v w, calm Q (.panic c) (Act.put a d v) w → calm Q (.panic c) a w := fun _ _ _ _ _ h => h
  intro t
  induction t with
  | leaf l => intro listed a w hT hc hk h; exact planOk_sound hm hd hs hQ l listed a w hT hc hk h
  | fork pre i ti l j tj r ihl ihr =>
    intro listed a w hT hc hk h
    simp only [ptOk, Bool.and_eq_true, beq_iff_eq] at hk
    obtain ⟨⟨⟨⟨hp, hrd⟩, hlr⟩, h1⟩, h2⟩ := hk
    refine planOk_pre (P := P) (Q := calm Q) hm hd hs hQ (l.len + 1) pre listed a w (fun x tr hx => hT x tr (by simp [PT.all, hx])) hc hp (fun a w hc hR => ?_) h
    obtain ⟨hR1, hR2⟩ := hR
    refine ⟨fun h0 => by rw [hrd] at h0; simp at h0, fun x hx => ?_⟩
    have hx' := hx
    rw [hrd] at hx
    simp only [List.mem_cons, List.not_mem_nil, or_false] at hx
    rcases hx with rfl | rfl
    · exact wpOp_mono (fun a' w' h' => ⟨fun ht => h'.1 (hT x ti (by simp [PT.all]) ht), ihl _ a' w' (fun y tr hy => hT y tr (by simp [PT.all, hy])) (hc.add hx') h1 h'.2⟩) hR1
    · exact wpOp_mono (fun a' w' h' => ⟨fun ht => h'.1 (hT x tj (by simp [PT.all]) ht), by rw [hlr]; exact ihr _ a' w' (fun y tr hy => hT y tr (by simp [PT.all, hy])) (hc.add hx') h2 h'.2⟩) hR2
def forkOk (ops : Array Oper) (t : PT) : Bool :=
  Region.noSelect ops && tableOk ops (Region.before ops).toList && dirOk ops (Region.before ops).toList && t.len == ops.size &&
    ptOk ops (Region.before ops).toList (forkT t.all) t (Array.replicate ops.size false)
/-- **The law of forks.** -/
theorem region_fork {id : Nat} {a : Act} {w : World} (t : PT) (hf : P.follows .mixedOrders = true) (hk : forkOk ops t = true) (h : wpPT P ops Q t a w.drew) : (Code.region id ops true).wp P Q a w := by
  unfold forkOk at hk
  simp only [Bool.and_eq_true, beq_iff_eq] at hk
  obtain ⟨⟨⟨⟨hs, hm⟩, hd⟩, hl⟩, hp⟩ := hk
  have key : (Code.region id ops true).wp P (calm Q) a w := by
    refine wp_region_any hf (wpAny_of_T (T := forkT t.all) _ _ _ _ ?_)
    have := ptOk_sound (P := P) (Q := Q) hm hd hs t (Array.replicate ops.size false) a w.drew forkT_spec ?_ hp h
    · rw [hl] at this; exact this
    intro j o hj hl e _ _
    exfalso
    simp only [Array.getD_eq_getD_getElem?, Array.getElem?_replicate] at hl
    split at hl <;> simp at hl
  exact Code.wp_mono (fun e a w he => by cases e <;> first | exact he | exact he.elim) key
theorem fork_split {pre : List PS} {i : Nat} {ti : Bool} {l : PT} {j : Nat} {tj : Bool} {r : PT} {a : Act} {w : World} (h : wpPlan P ops (calm (tailQ fun a w =>
      wpOp P ops (calm Q) i (fun a' w' => (ti = true → Ext w w') ∧ wpPT P ops Q l a' w') a w ∧
      wpOp P ops (calm Q) j (fun a' w' => (tj = true → Ext w w') ∧ wpPT P ops Q r a' w') a w)) pre a w) : wpPT P ops Q (.fork pre i ti l j tj r) a w := h
theorem fork_now {i : Nat} {ti : Bool} {l : PT} {j : Nat} {tj : Bool} {r : PT} {a : Act} {w : World} (h1 : wpOp P ops (calm Q) i (fun a' w' => (ti = true → Ext w w') ∧ wpPT P ops Q l a' w') a w)
    (h2 : wpOp P ops (calm Q) j (fun a' w' => (tj = true → Ext w w') ∧ wpPT P ops Q r a' w') a w) : wpPT P ops Q (.fork [] i ti l j tj r) a w := ⟨h1, h2⟩
theorem fork_end {A B : Act → World → Prop} {a : Act} {w : World} (h1 : A a w) (h2 : B a w) : wpPlan P ops (calm (tailQ fun a w => A a w ∧ B a w)) [] a w := ⟨h1, h2⟩
theorem fork_leaf {l : List PS} {a : Act} {w : World} (h : wpPlan P ops (calm Q) l a w) : wpPT P ops Q (.leaf l) a w := h
/-- A heavy operation of a fork, untracked. -/
theorem fork_h {i : Nat} {o : Oper} {t : PT} {a : Act} {w : World} {r : List Oper} (ho : ops.toList.drop i = o :: r)
    (h : ∀ K : Act → World → Prop, (∀ a' w', wpPT P ops Q t a' w' → K a' w') → wpList P ops (Exit.then K (calm Q)) [o] a w) :
    wpOp P ops (calm Q) i (fun a' w' => (false = true → Ext w w') ∧ wpPT P ops Q t a' w') a w :=
  wpOp_mono (K := fun a' w' => wpPT P ops Q t a' w') (fun _ _ h => ⟨fun h0 => (by cases h0), h⟩) (wpOp_of_list ho (h _ fun _ _ h => h))
/-- .. tracked. -/
theorem fork_t {i : Nat} {o : Oper} {t : PT} {a : Act} {w : World} {r : List Oper} (ho : ops.toList.drop i = o :: r)
    (h : ∀ K : Act → World → Prop, (∀ a' w', Ext w w' → wpPT P ops Q t a' w' → K a' w') → wpList P ops (Exit.then K (calm Q)) [o] a w) :
    wpOp P ops (calm Q) i (fun a' w' => (true = true → Ext w w') ∧ wpPT P ops Q t a' w') a w :=
  wpOp_mono (K := fun a' w' => Ext w w' ∧ wpPT P ops Q t a' w') (fun _ _ h => ⟨fun _ => h.1, h.2⟩) (wpOp_of_list ho (h _ fun _ _ h1 h2 => ⟨h1, h2⟩))
end
end Go.Proofs.Ytkejjahlglldlaa
namespace Go.Proofs.Ytkejjahlglldlaa.Tch
open Go.RowKit Go.Proofs.Ytkejjahlglldlaa
variable [ts : TS]
section
variable {P : Program} {ops : Array Oper} {Q : Exit → Act → World → Prop}

theorem planOk_pre {m : List Nat} {T : Nat → Bool} (hm : tableOk ops m = true) (hd : dirOk ops m = true) (hs : Region.noSelect ops = true)
    (hQ : ∀ (i : Nat) (o : Oper), ops[i]? = some o → ∀ c a v w, Q (.panic c) (a.put o.dst v) w → Q (.panic c) a w) {R : Act → World → Prop} (k : Nat) :
    ∀ (plan : List PS) (listed : Array Bool) (a : Act) (w : World), (∀ i tr, PS.h i tr ∈ plan → T i = true → tr = true) → Closed ops listed →
      preOk ops m T plan listed = true → (∀ a w, Closed ops (listAfter plan listed) → R a w → wpAnyT P ops Q T k (listAfter plan listed) a w) → wpPlan P ops (calm (tailQ R)) plan a w → wpAnyT P ops Q T (plan.length + k) listed a w := by
  have hdir : ∀ i j oj, ops[j]? = some oj → (∃ e ∈ oj.after, Region.binds .any e = true ∧ e.on = i) → waits m j i = true := by
    rintro i j oj hj ⟨e, he, hb, rfl⟩
    unfold dirOk at hd
    rw [List.all_eq_true] at hd
    have h1 := hd j (by simp; exact (Array.getElem?_eq_some_iff.1 hj).1)
    simp only [hj] at h1
    have h2 := (Array.all_eq_true_iff_forall_mem.1 h1) e he
    simpa [hb] using h2
  have hl : ∀ {lt : Bool} {i : Nat} {n : Nat} {listed : Array Bool} {a : Act} {w : World} {o : Oper} {v : Value}, Closed ops listed → ops[i]? = some o →
      lightOk ops m T listed i lt = true → YieldsB P ops lt w o v a → wpAnyT P ops Q T n (listed.setIfInBounds i true) (a.put o.dst v) w →
      wpAnyT P ops Q T (n + 1) listed a w := by
    intro lt i n listed a w o v hc ho hk hy h
    unfold lightOk at hk
    simp only [ho, Bool.and_eq_true] at hk
    obtain ⟨hr, hk⟩ := hk
    refine wpAnyT_first hm ho (Region.noSelect_spec hs) (fun c a w => hQ _ _ ho c a _ w) _ listed a w hc (fun j oj hj hji hun hnw => ?_) (fun j oj => hdir i j oj) (by simpa using hr) hy h
    rw [List.all_eq_true] at hk
    have h1 := hk j (by simp; exact (Array.getElem?_eq_some_iff.1 hj).1)
    simp only [hj, Bool.or_eq_true, beq_iff_eq, hji, false_or, hun, Bool.false_eq_true, hnw, Bool.and_eq_true, Bool.not_eq_true'] at h1
    exact ⟨h1.1, fun hlt => h1.2.resolve_left (by simp [hlt])⟩
  intro plan
  induction plan with
  | nil => intro listed a w _ hc _ hR h; rw [List.length_nil, Nat.zero_add]; exact hR a w hc h
  | cons s rest ih =>
    intro listed a w hT hc hk hR h
    have hT' : ∀ i tr, PS.h i tr ∈ rest → T i = true → tr = true := fun i tr hm => hT i tr (List.mem_cons_of_mem _ hm)
    rw [List.length_cons, Nat.add_right_comm]
    cases s with
    | p i =>
      simp only [preOk, Bool.and_eq_true] at hk
      obtain ⟨o, ho, h⟩ := h
      have hr : i ∈ Region.ready .any ops listed := by have := hk.1; unfold lightOk at this; simp only [Bool.and_eq_true] at this; simpa using this.1
      split at h
      · rename_i hw
        obtain ⟨v, hv, h⟩ := h
        exact hl hc ho hk.1 (by simp only [YieldsB, Bool.false_eq_true, if_false]; exact .inl ⟨hw, hv⟩) (ih _ _ _ hT' (hc.add hr) hk.2 hR h)
      · rename_i hw
        exact hl hc ho hk.1 (by simp only [YieldsB, Bool.false_eq_true, if_false]; exact .inr ⟨by simpa using hw, rfl⟩) (ih _ _ _ hT' (hc.add hr) hk.2 hR h)
    | l i => exact h.elim
    | e i =>
      simp only [preOk, Bool.and_eq_true] at hk
      obtain ⟨o, ho, h⟩ := h
      have hr : i ∈ Region.ready .any ops listed := by have := hk.1; unfold lightOk at this; simp only [Bool.and_eq_true] at this; simpa using this.1
      split at h
      · rename_i hw
        obtain ⟨v, hv, h⟩ := h
        exact hl hc ho hk.1 (by simp only [YieldsB, if_true]; exact .inl ⟨hw, hv⟩) (ih _ _ _ hT' (hc.add hr) hk.2 hR h)
      · rename_i hw
        exact hl hc ho hk.1 (by simp only [YieldsB, if_true]; exact .inr ⟨by simpa using hw, rfl⟩) (ih _ _ _ hT' (hc.add hr) hk.2 hR h)
    | h i tr =>
      simp only [preOk, Bool.and_eq_true, beq_iff_eq] at hk
      obtain ⟨hr, hk⟩ := hk
      refine ⟨fun h0 => by rw [hr] at h0; simp at h0, fun j hj => ?_⟩
      rw [hr] at hj
      simp only [List.mem_singleton] at hj
      subst hj
      exact wpOp_mono (fun a' w' h' => ⟨fun ht => h'.1 (hT j tr (by simp) ht), ih _ _ _ hT' (hc.add (by rw [hr]; simp)) hk hR h'.2⟩) (wpOp_tail h)

def wpPT (P : Program) (ops : Array Oper) (Q : Exit → Act → World → Prop) : PT → Act → World → Prop
  | .leaf l, a, w => wpPlan P ops (calm Q) l a w
  | .fork pre i ti l j tj r, a, w => wpPlan P ops (calm (tailQ fun a w =>
      wpOp P ops (calm Q) i (fun a' w' => (ti = true → TE w w') ∧ wpPT P ops Q l a' w') a w ∧
      wpOp P ops (calm Q) j (fun a' w' => (tj = true → TE w w') ∧ wpPT P ops Q r a' w') a w)) pre a w
theorem ptOk_sound {m : List Nat} {T : Nat → Bool} (hm : tableOk ops m = true) (hd : dirOk ops m = true) (hs : Region.noSelect ops = true) :
    ∀ (t : PT) (listed : Array Bool) (a : Act) (w : World), (∀ i tr, PS.h i tr ∈ t.all → T i = true → tr = true) → Closed ops listed →
      ptOk ops m T t listed = true → wpPT P ops Q t a w → wpAnyT P ops (calm Q) T t.len listed a w := by
  have hQ : ∀ (i : Nat) (o : Oper), ops[i]? = some o → ∀ c a v w, calm Q (.panic c) (Act.put a o.dst v) w → calm Q (.panic c) a w := fun _ _ _ _ _ _ _ h => h
  intro t
  induction t with
  | leaf l => intro listed a w hT hc hk h; exact planOk_sound hm hd hs hQ l listed a w hT hc hk h
  | fork pre i ti l j tj r ihl ihr =>
    intro listed a w hT hc hk h
    simp only [ptOk, Bool.and_eq_true, beq_iff_eq] at hk
    obtain ⟨⟨⟨⟨hp, hrd⟩, hlr⟩, h1⟩, h2⟩ := hk
    refine planOk_pre (P := P) (Q := calm Q) hm hd hs hQ (l.len + 1) pre listed a w (fun x tr hx => hT x tr (by simp [PT.all, hx])) hc hp (fun a w hc hR => ?_) h
    obtain ⟨hR1, hR2⟩ := hR
    refine ⟨fun h0 => by rw [hrd] at h0; simp at h0, fun x hx => ?_⟩
    have hx' := hx
    rw [hrd] at hx
    simp only [List.mem_cons, List.not_mem_nil, or_false] at hx
    rcases hx with rfl | rfl
    · exact wpOp_mono (fun a' w' h' => ⟨fun ht => h'.1 (hT x ti (by simp [PT.all]) ht), ihl _ a' w' (fun y tr hy => hT y tr (by simp [PT.all, hy])) (hc.add hx') h1 h'.2⟩) hR1
    · exact wpOp_mono (fun a' w' h' => ⟨fun ht => h'.1 (hT x tj (by simp [PT.all]) ht), by rw [hlr]; exact ihr _ a' w' (fun y tr hy => hT y tr (by simp [PT.all, hy])) (hc.add hx') h2 h'.2⟩) hR2
/-- **The law of forks.** -/
theorem region_fork {id : Nat} {a : Act} {w : World} (t : PT) (hf : P.follows .mixedOrders = true) (hk : forkOk ops t = true) (h : wpPT P ops Q t a w.drew) : (Code.region id ops true).wp P Q a w := by
  unfold forkOk at hk
  simp only [Bool.and_eq_true, beq_iff_eq] at hk
  obtain ⟨⟨⟨⟨hs, hm⟩, hd⟩, hl⟩, hp⟩ := hk
  have key : (Code.region id ops true).wp P (calm Q) a w := by
    refine wp_region_any hf (wpAny_of_T (T := forkT t.all) _ _ _ _ ?_)
    have := ptOk_sound (P := P) (Q := Q) hm hd hs t (Array.replicate ops.size false) a w.drew forkT_spec ?_ hp h
    · rw [hl] at this; exact this
    intro j o hj hl e _ _
    exfalso
    simp only [Array.getD_eq_getD_getElem?, Array.getElem?_replicate] at hl
    split at hl <;> simp at hl
  exact Code.wp_mono (fun e a w he => by cases e <;> first | exact he | exact he.elim) key
theorem fork_split {pre : List PS} {i : Nat} {ti : Bool} {l : PT} {j : Nat} {tj : Bool} {r : PT} {a : Act} {w : World} (h : wpPlan P ops (calm (tailQ fun a w =>
      wpOp P ops (calm Q) i (fun a' w' => (ti = true → TE w w') ∧ wpPT P ops Q l a' w') a w ∧
      wpOp P ops (calm Q) j (fun a' w' => (tj = true → TE w w') ∧ wpPT P ops Q r a' w') a w)) pre a w) : wpPT P ops Q (.fork pre i ti l j tj r) a w := h
theorem fork_now {i : Nat} {ti : Bool} {l : PT} {j : Nat} {tj : Bool} {r : PT} {a : Act} {w : World} (h1 : wpOp P ops (calm Q) i (fun a' w' => (ti = true → TE w w') ∧ wpPT P ops Q l a' w') a w)
    (h2 : wpOp P ops (calm Q) j (fun a' w' => (tj = true → TE w w') ∧ wpPT P ops Q r a' w') a w) : wpPT P ops Q (.fork [] i ti l j tj r) a w := ⟨h1, h2⟩
theorem fork_end {A B : Act → World → Prop} {a : Act} {w : World} (h1 : A a w) (h2 : B a w) : wpPlan P ops (calm (tailQ fun a w => A a w ∧ B a w)) [] a w := ⟨h1, h2⟩
theorem fork_leaf {l : List PS} {a : Act} {w : World} (h : wpPlan P ops (calm Q) l a w) : wpPT P ops Q (.leaf l) a w := h
/-- A heavy operation of a fork, untracked. -/
theorem fork_h {i : Nat} {o : Oper} {t : PT} {a : Act} {w : World} {r : List Oper} (ho : ops.toList.drop i = o :: r)
    (h : ∀ K : Act → World → Prop, (∀ a' w', wpPT P ops Q t a' w' → K a' w') → wpList P ops (Exit.then K (calm Q)) [o] a w) :
    wpOp P ops (calm Q) i (fun a' w' => (false = true → TE w w') ∧ wpPT P ops Q t a' w') a w :=
  wpOp_mono (K := fun a' w' => wpPT P ops Q t a' w') (fun _ _ h => ⟨fun h0 => (by cases h0), h⟩) (wpOp_of_list ho (h _ fun _ _ h => h))
/-- .. tracked. -/
theorem fork_t {i : Nat} {o : Oper} {t : PT} {a : Act} {w : World} {r : List Oper} (ho : ops.toList.drop i = o :: r)
    (h : ∀ K : Act → World → Prop, (∀ a' w', TE w w' → wpPT P ops Q t a' w' → K a' w') → wpList P ops (Exit.then K (calm Q)) [o] a w) :
    wpOp P ops (calm Q) i (fun a' w' => (true = true → TE w w') ∧ wpPT P ops Q t a' w') a w :=
  wpOp_mono (K := fun a' w' => TE w w' ∧ wpPT P ops Q t a' w') (fun _ _ h => ⟨fun _ => h.1, h.2⟩) (wpOp_of_list ho (h _ fun _ _ h1 h2 => ⟨h1, h2⟩))
end
end Go.Proofs.Ytkejjahlglldlaa.Tch
