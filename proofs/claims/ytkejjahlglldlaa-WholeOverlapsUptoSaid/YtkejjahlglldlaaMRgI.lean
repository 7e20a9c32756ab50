/- A region that draws its order, inside a fence that lets all in: the plan's law there; a round may stand among the heavy operations. No program is named here. -/
import Derived.OrdersIn
import Derived.RangeFuncCalls
import Derived.RangeFuncIn
import Derived.TacticsIn
import Derived.Test.YtkejjahlglldlaaMA
namespace Go.Proofs.Ytkejjahlglldlaa
open Go.RowKit

section
variable {F : Fence} {n : Nat} {P : Program} {ops : Array Oper} {Q : Exit → Act → World → Prop}
def noDefer (ops : Array Oper) : Bool := ops.all fun o => match o.op with
  | .defer _ => false
  | _ => true
theorem noDefer_at (h : noDefer ops = true) {i : Nat} {o : Oper} (ho : ops[i]? = some o) : ∀ c, o.op ≠ .defer c := fun c e => by
  have h1 := (Array.all_eq_true_iff_forall_mem.1 h) o (Array.mem_of_getElem? ho)
  rw [e] at h1
  cases h1
theorem YieldsB.wpOpIn (hF : ∀ f, F.fn f) (hnd : noDefer ops = true) {lt : Bool} {i : Nat} {o : Oper} {v : Value} {a : Act} {w : World} (hi : ops[i]? = some o) (hy : YieldsB P ops lt w o v a)
    {K : Act → World → Prop} (h : K (a.put o.dst v) w) : wpOpIn F n P ops Q i K a w := by
  unfold Go.wpOpIn
  simp only [hi]
  have hse := Oper.semAt_eq F.round a.eval o (noDefer_at hnd hi)
  cases lt <;> simp only [YieldsB, Bool.false_eq_true, if_false, if_true] at hy
  · rcases hy with ⟨hw, hv⟩ | ⟨hw, rfl⟩
    · simp only [hw, if_true, Oper.wpIn, hse, hv w, Oper.uponIn]; exact ⟨fun f _ => hF f, h⟩
    · simp only [hw, Bool.false_eq_true, if_false]; exact ⟨fun f _ => hF f, h⟩
  · rcases hy with ⟨hw, hv⟩ | ⟨hw, rfl⟩
    · simp only [hw, if_true, Oper.wpIn, hse, hv w (Ext.refl w), Oper.uponIn]; exact ⟨fun f _ => hF f, h⟩
    · simp only [hw, Bool.false_eq_true, if_false]; exact ⟨fun f _ => hF f, h⟩
theorem wpOpI_putB (hF : ∀ f, F.fn f) (hnd : noDefer ops = true) {lt : Bool} {i j : Nat} {oi oj : Oper} {v : Value} (hj : ops[j]? = some oj) (hi : ops[i]? = some oi) (hap : oi.apart ops oj = true)
    (hsi : ∀ cs b, oi.op ≠ .select cs b) (hsj : ∀ cs b, oj.op ≠ .select cs b)
    (hQ : ∀ c a w, Q (.panic c) (a.put oi.dst v) w → Q (.panic c) a w) {K : Act → World → Prop} {a : Act} {w : World}
    (hy : YieldsB P ops lt w oi v a) (h : wpOpIn F n P ops Q j (fun a' w' => (lt = true → Ext w w') ∧ K a' w') (a.put oi.dst v) w) :
    wpOpIn F n P ops Q j (fun a' w' => (lt = true → Ext w w') ∧ YieldsB P ops lt w' oi v a' ∧ K (a'.put oi.dst v) w') a w := by
  obtain ⟨h1, h2, h3⟩ := Oper.apart_spec hap
  have keep : ∀ (a : Act), YieldsB P ops lt w oi v a → ∀ u, YieldsB P ops lt w oi v (a.put oj.dst u) := fun a hy u =>
    hy.of_same (execOp_put oi hsi a oj.dst u h3) (wanted_put oi a oj.dst u h3)
  have keepD : ∀ d, YieldsB P ops lt w oi v { a with defers := d :: a.defers } := fun d => hy.of_same rfl rfl
  have hse := Oper.semAt_eq F.round a.eval oj (noDefer_at hnd hj)
  have hse2 := Oper.semAt_eq F.round (a.put oi.dst v).eval oj (noDefer_at hnd hj)
  unfold Go.wpOpIn at *
  simp only [hj] at *
  rw [wanted_put oj a oi.dst v h1] at h
  split
  · rename_i hw
    simp only [hw, if_true] at h
    refine ⟨fun f _ => hF f, ?_⟩
    have h := h.2
    rw [hse2, execOp_put oj hsj a oi.dst v h1] at h
    rw [hse]
    generalize (execOp a.eval oj).run P w = r at *
    cases r with
    | ok m w' =>
      cases m <;> simp only [Oper.uponIn] at h ⊢
      case value u => exact ⟨h.1, (keep a hy u).later h.1, by rw [← Act.put_comm a v u h2]; exact h.2⟩
      case skip => exact ⟨h.1, (keep a hy _).later h.1, by rw [← Act.put_comm a v undef h2]; exact h.2⟩
      case defer d =>
        refine ⟨h.1, ((keepD d).of_same (execOp_put oi hsi _ oj.dst undef h3) (wanted_put oi _ oj.dst undef h3)).later h.1, ?_⟩
        rw [← Act.put_comm _ v undef h2, ← Act.put_defers]
        exact h.2
      case enter f args =>
        refine ⟨h.1, CallsIn.mono h.2 fun e w'' he => ?_⟩
        cases e with
        | returned u => exact ⟨he.1, (keep a hy u).later he.1, by rw [← Act.put_comm a v u h2]; exact he.2⟩
        | panicked c => exact hQ _ _ _ he
        | outgrown => exact he
      case row row args => exact ⟨h.1, RowsIn.mono h.2 fun u w'' he => ⟨he.1, (keep a hy u).later he.1, by rw [← Act.put_comm a v u h2]; exact he.2⟩⟩
      case round l f tmps as bo =>
        refine ⟨h.1, RoundIn.mono h.2 fun e w'' he => ?_⟩
        cases e with
        | returned u => exact ⟨he.1, (keep a hy u).later he.1, by rw [← Act.put_comm a v u h2]; exact he.2⟩
        | panicked c => exact hQ _ _ _ he
        | outgrown => exact he
    | halt x w' =>
      cases x <;> simp only [Oper.uponIn] at h ⊢
      case panic u => exact hQ _ _ _ h
  · rename_i hw
    simp only [hw] at h
    exact ⟨fun f _ => hF f, h.2.1, (keep a hy _).later h.2.1, by rw [← Act.put_comm a v undef h2]; exact h.2.2⟩
def wpAnyTI (F : Fence) (n : Nat) (P : Program) (ops : Array Oper) (Q : Exit → Act → World → Prop) (T : Nat → Bool) : Nat → Array Bool → Act → World → Prop
  | 0, listed, a, w => Region.ready .any ops listed = [] ∧ Q .normal a w
  | fuel + 1, listed, a, w =>
    (Region.ready .any ops listed = [] → Q .normal a w) ∧
    ∀ i ∈ Region.ready .any ops listed, wpOpIn F n P ops Q i (fun a' w' => (T i = true → Ext w w') ∧ wpAnyTI F n P ops Q T fuel (listed.setIfInBounds i true) a' w') a w

theorem wpAnyI_of_T {T : Nat → Bool} : ∀ (fuel : Nat) (listed : Array Bool) (a : Act) (w : World), wpAnyTI F n P ops Q T fuel listed a w → wpAnyIn F n P .any ops Q fuel listed a w
  | 0, _, _, _, h => h
  | fuel + 1, _, _, _, h => ⟨h.1, fun i hi => wpOpIn_mono (fun a' w' h' => wpAnyI_of_T fuel _ a' w' h'.2) (h.2 i hi)⟩

/-- **A light operation may be taken first.** -/
theorem wpAnyTI_first (hF : ∀ f, F.fn f) (hnd : noDefer ops = true) {T : Nat → Bool} {lt : Bool} {m : List Nat} (hm : tableOk ops m = true) {i : Nat} {oi : Oper} {v : Value} (hi : ops[i]? = some oi) (hsel : ∀ (j : Nat) (o : Oper) cs b, ops[j]? = some o → o.op ≠ .select cs b)
    (hQ : ∀ c a w, Q (.panic c) (a.put oi.dst v) w → Q (.panic c) a w) :
    ∀ (fuel : Nat) (listed : Array Bool) (a : Act) (w : World), Closed ops listed →
      (∀ j oj, ops[j]? = some oj → j ≠ i → listed.getD j true = false → waits m j i = false → oi.apart ops oj = true ∧ (lt = true → T j = true)) →
      (∀ j oj, ops[j]? = some oj → (∃ e ∈ oj.after, Region.binds .any e = true ∧ e.on = i) → waits m j i = true) →
      i ∈ Region.ready .any ops listed → YieldsB P ops lt w oi v a →
      wpAnyTI F n P ops Q T fuel (listed.setIfInBounds i true) (a.put oi.dst v) w → wpAnyTI F n P ops Q T (fuel + 1) listed a w := by
  intro fuel
  induction fuel with
  | zero =>
    intro listed a w _ _ _ hr hy H
    refine ⟨fun h => (by rw [h] at hr; cases hr), fun j hj => ?_⟩
    by_cases hji : j = i
    · subst hji; exact hy.wpOpIn hF hnd hi ⟨fun _ => Ext.refl w, H⟩
    · have := ready_mono hj hji
      rw [H.1] at this
      cases this
  | succ fuel ih =>
    intro listed a w hcl hfree hdir hr hy H
    refine ⟨fun h => (by rw [h] at hr; cases hr), fun j hj => ?_⟩
    by_cases hji : j = i
    · subst hji; exact hy.wpOpIn hF hnd hi ⟨fun _ => Ext.refl w, H⟩
    · have h1 := H.2 j (ready_mono hj hji)
      obtain ⟨hjun, oj, hoj, hall⟩ := mem_ready.1 hj
      have hi0 := (mem_ready.1 hr).1
      have hnw : waits m j i = false := by
        cases hw : waits m j i with
        | false => rfl
        | true =>
          have h2 := closed_waits hm hcl j oj i hoj hall hw
          rcases Nat.lt_or_ge i listed.size with h' | h'
          · simp [h'] at hi0 h2; rw [hi0] at h2; cases h2
          · simp [Array.getElem?_eq_none h'] at h2
      obtain ⟨hap, hT⟩ := hfree j oj hoj hji hjun hnw
      have h1' : wpOpIn F n P ops Q j (fun a' w' => (lt = true → Ext w w') ∧ (T j = true → Ext w w') ∧ wpAnyTI F n P ops Q T fuel ((listed.setIfInBounds i true).setIfInBounds j true) a' w') (a.put oi.dst v) w :=
        wpOpIn_mono (fun a' w' h => ⟨fun hl => h.1 (hT hl), h⟩) h1
      have h2 := wpOpI_putB hF hnd hoj hi hap (fun cs b => hsel i oi cs b hi) (fun cs b => hsel j oj cs b hoj) hQ hy h1'
      refine wpOpIn_mono (fun a' w' h3 => ⟨h3.2.2.1, ih (listed.setIfInBounds j true) a' w' (hcl.add hj) (fun k ok hk hki hun hnw' => ?_) hdir (ready_mono hr (Ne.symm hji)) h3.2.1 ?_⟩) h2
      · refine hfree k ok hk hki ?_ hnw'
        by_cases hjk : j = k
        · subst hjk; exact hjun
        · rw [getD_set_ne true hjk] at hun; exact hun
      · rw [Array.setIfInBounds_comm _ _ hji]
        exact h3.2.2.2

def wpPlanI (F : Fence) (n : Nat) (P : Program) (ops : Array Oper) (Q : Exit → Act → World → Prop) : List PS → Act → World → Prop
  | [], a, w => Q .normal a w
  | .p i :: rest, a, w => ∃ o, ops[i]? = some o ∧ if Region.wanted o (yielded ops a.tmps) then ∃ v, (∀ w', (execOp a.eval o).run P w' = .ok (.value v) w') ∧ wpPlanI F n P ops Q rest (a.put o.dst v) w else wpPlanI F n P ops Q rest (a.put o.dst undef) w
  | .l i :: rest, a, w => ∃ o, ops[i]? = some o ∧ if Region.wanted o (yielded ops a.tmps) then ∃ v, (execOp a.eval o).run P w = .ok (.value v) w ∧ wpPlanI F n P ops Q rest (a.put o.dst v) w else wpPlanI F n P ops Q rest (a.put o.dst undef) w
  | .e i :: rest, a, w => ∃ o, ops[i]? = some o ∧ if Region.wanted o (yielded ops a.tmps) then ∃ v, (∀ w', Ext w w' → (execOp a.eval o).run P w' = .ok (.value v) w') ∧ wpPlanI F n P ops Q rest (a.put o.dst v) w else wpPlanI F n P ops Q rest (a.put o.dst undef) w
  | .h i tr :: rest, a, w => wpOpIn F n P ops Q i (fun a' w' => (tr = true → Ext w w') ∧ wpPlanI F n P ops Q rest a' w') a w

theorem planOkI_sound (hF : ∀ f, F.fn f) (hnd : noDefer ops = true) {m : List Nat} {T : Nat → Bool} (hm : tableOk ops m = true) (hd : dirOk ops m = true) (hs : Region.noSelect ops = true)
    (hQ : ∀ c a d v w, Q (.panic c) (a.put d v) w → Q (.panic c) a w) :
    ∀ (plan : List PS) (listed : Array Bool) (a : Act) (w : World), (∀ i tr, PS.h i tr ∈ plan → T i = true → tr = true) → Closed ops listed →
      planOk ops m T plan listed = true → wpPlanI F n P ops Q plan a w → wpAnyTI F n P ops Q T plan.length listed a w := by
  have hdir : ∀ i j oj, ops[j]? = some oj → (∃ e ∈ oj.after, Region.binds .any e = true ∧ e.on = i) → waits m j i = true := by
    rintro i j oj hj ⟨e, he, hb, rfl⟩
    unfold dirOk at hd
    rw [List.all_eq_true] at hd
    have h1 := hd j (by simp; exact (Array.getElem?_eq_some_iff.1 hj).1)
    simp only [hj] at h1
    have h2 := (Array.all_eq_true_iff_forall_mem.1 h1) e he
    simpa [hb] using h2
  have hl : ∀ {lt : Bool} {i : Nat} {rest : List PS} {listed : Array Bool} {a : Act} {w : World} {o : Oper} {v : Value}, Closed ops listed → ops[i]? = some o →
      lightOk ops m T listed i lt = true → YieldsB P ops lt w o v a → wpAnyTI F n P ops Q T rest.length (listed.setIfInBounds i true) (a.put o.dst v) w →
      wpAnyTI F n P ops Q T (rest.length + 1) listed a w := by
    intro lt i rest listed a w o v hc ho hk hy h
    unfold lightOk at hk
    simp only [ho, Bool.and_eq_true] at hk
    obtain ⟨hr, hk⟩ := hk
    refine wpAnyTI_first hF hnd hm ho (Region.noSelect_spec hs) (fun c a w => hQ c a _ _ w) _ listed a w hc (fun j oj hj hji hun hnw => ?_) (fun j oj => hdir i j oj) (by simpa using hr) hy h
    rw [List.all_eq_true] at hk
    have h1 := hk j (by simp; exact (Array.getElem?_eq_some_iff.1 hj).1)
    simp only [hj, Bool.or_eq_true, beq_iff_eq, hji, false_or, hun, Bool.false_eq_true, hnw, Bool.and_eq_true, Bool.not_eq_true'] at h1
    exact ⟨h1.1, fun hlt => h1.2.resolve_left (by simp [hlt])⟩
  intro plan
  induction plan with
  | nil => intro listed a w _ _ hk h; exact ⟨by simpa [planOk] using hk, h⟩
  | cons s rest ih =>
    intro listed a w hT hc hk h
    have hT' : ∀ i tr, PS.h i tr ∈ rest → T i = true → tr = true := fun i tr hm => hT i tr (List.mem_cons_of_mem _ hm)
    cases s with
    | p i =>
      simp only [planOk, Bool.and_eq_true] at hk
      obtain ⟨o, ho, h⟩ := h
      have hr : i ∈ Region.ready .any ops listed := by have := hk.1; unfold lightOk at this; simp only [Bool.and_eq_true] at this; simpa using this.1
      split at h
      · rename_i hw
        obtain ⟨v, hv, h⟩ := h
        exact hl (rest := rest) hc ho hk.1 (by simp only [YieldsB, Bool.false_eq_true, if_false]; exact .inl ⟨hw, hv⟩) (ih _ _ _ hT' (hc.add hr) hk.2 h)
      · rename_i hw
        exact hl (rest := rest) hc ho hk.1 (by simp only [YieldsB, Bool.false_eq_true, if_false]; exact .inr ⟨by simpa using hw, rfl⟩) (ih _ _ _ hT' (hc.add hr) hk.2 h)
    | l i =>
      simp only [planOk, Bool.and_eq_true] at hk
      obtain ⟨o, ho, h⟩ := h
      have hr : i ∈ Region.ready .any ops listed := by have := hk.1.2; unfold lightOk at this; simp only [Bool.and_eq_true] at this; simpa using this.1
      have hld : ∃ t x, o.op = .load t x := by
        have := hk.1.1
        simp only [isLoad, ho] at this
        cases ho' : o.op <;> simp [ho'] at this
        exact ⟨_, _, rfl⟩
      obtain ⟨t, x, hld⟩ := hld
      split at h
      · rename_i hw
        obtain ⟨v, hv, h⟩ := h
        exact hl (rest := rest) hc ho hk.1.2 (by simp only [YieldsB, if_true]; exact .inl ⟨hw, fun w' he => run_load_value hld hv he⟩) (ih _ _ _ hT' (hc.add hr) hk.2 h)
      · rename_i hw
        exact hl (rest := rest) hc ho hk.1.2 (by simp only [YieldsB, if_true]; exact .inr ⟨by simpa using hw, rfl⟩) (ih _ _ _ hT' (hc.add hr) hk.2 h)
    | e i =>
      simp only [planOk, Bool.and_eq_true] at hk
      obtain ⟨o, ho, h⟩ := h
      have hr : i ∈ Region.ready .any ops listed := by have := hk.1; unfold lightOk at this; simp only [Bool.and_eq_true] at this; simpa using this.1
      split at h
      · rename_i hw
        obtain ⟨v, hv, h⟩ := h
        exact hl (rest := rest) hc ho hk.1 (by simp only [YieldsB, if_true]; exact .inl ⟨hw, hv⟩) (ih _ _ _ hT' (hc.add hr) hk.2 h)
      · rename_i hw
        exact hl (rest := rest) hc ho hk.1 (by simp only [YieldsB, if_true]; exact .inr ⟨by simpa using hw, rfl⟩) (ih _ _ _ hT' (hc.add hr) hk.2 h)
    | h i tr =>
      simp only [planOk, Bool.and_eq_true, beq_iff_eq] at hk
      obtain ⟨hr, hk⟩ := hk
      refine ⟨fun h0 => by rw [hr] at h0; simp at h0, fun j hj => ?_⟩
      rw [hr] at hj
      simp only [List.mem_singleton] at hj
      subst hj
      exact wpOpIn_mono (fun a' w' h' => ⟨fun ht => h'.1 (hT j tr (by simp) ht), ih _ _ _ hT' (hc.add (by rw [hr]; simp)) hk h'.2⟩) h

/-- **The law**: a region that draws its order, in a program under wide orders. -/
theorem regionI_plan (hF : ∀ f, F.fn f) (hnd : noDefer ops = true) {id : Nat} {a : Act} {w : World} (plan : List PS) (hf : P.follows .mixedOrders = true) (hk : regionOk ops plan = true) (hn : decide ((plan.map PS.no).Nodup) = true)
    (hQ : ∀ c a d v w, Q (.panic c) (a.put d v) w → Q (.panic c) a w) (h : wpPlanI F n P ops Q plan a w.drew) : (Code.region id ops true).wpIn F n P Q a w := by
  unfold regionOk at hk
  simp only [Bool.and_eq_true, beq_iff_eq] at hk
  obtain ⟨⟨⟨⟨hs, hm⟩, hd⟩, hlen⟩, hp⟩ := hk
  refine wpIn_region_any hf (wpAnyI_of_T (T := planT plan) _ _ _ _ ?_)
  have h0 := planOkI_sound hF hnd hm hd hs hQ plan (Array.replicate ops.size false) a w.drew (planT_spec (of_decide_eq_true hn)) ?_ hp h
  · rw [hlen] at h0; exact h0
  intro j o hj hl e _ _
  exfalso
  simp only [Array.getD_eq_getD_getElem?, Array.getElem?_replicate] at hl
  split at hl <;> simp at hl

/-- Q, where all goes on. -/
def still (Q : Exit → Act → World → Prop) : Exit → Act → World → Prop
  | .normal, a, w => Q .normal a w
  | _, _, _ => False
/-- .. where nothing in the region leaves it. -/
theorem regionI (hF : ∀ f, F.fn f) (hnd : noDefer ops = true) {id : Nat} {a : Act} {w : World} (plan : List PS) (hf : P.follows .mixedOrders = true) (hk : regionOk ops plan = true) (hn : decide ((plan.map PS.no).Nodup) = true)
    (h : wpPlanI F n P ops (still Q) plan a w.drew) : (Code.region id ops true).wpIn F n P Q a w := by
  have h1 : (Code.region id ops true).wpIn F n P (still Q) a w := regionI_plan hF hnd plan hf hk hn (fun _ _ _ _ _ h => h) h
  exact wpIn_mono h1 fun e a w he => by cases e <;> first | exact he | exact he.elim
theorem iplan_p {i : Nat} {o : Oper} {rest : List PS} {a : Act} {w : World} {r : List Oper} (ho : ops.toList.drop i = o :: r)
    (h : ∀ K : Act → Prop, (∀ a, wpPlanI F n P ops Q rest a w → K a) → if Region.wanted o (yielded ops a.tmps) then ∃ v, (∀ w', (execOp a.eval o).run P w' = .ok (.value v) w') ∧ K (a.put o.dst v) else K (a.put o.dst undef)) :
    wpPlanI F n P ops Q (.p i :: rest) a w := ⟨o, at_drop ho, h _ fun _ h => h⟩
theorem iplan_l {i : Nat} {o : Oper} {rest : List PS} {a : Act} {w : World} {r : List Oper} (ho : ops.toList.drop i = o :: r)
    (h : ∀ K : Act → Prop, (∀ a, wpPlanI F n P ops Q rest a w → K a) → if Region.wanted o (yielded ops a.tmps) then ∃ v, (execOp a.eval o).run P w = .ok (.value v) w ∧ K (a.put o.dst v) else K (a.put o.dst undef)) :
    wpPlanI F n P ops Q (.l i :: rest) a w := ⟨o, at_drop ho, h _ fun _ h => h⟩
theorem wpOpIn_of_list {i : Nat} {o : Oper} {K : Act → World → Prop} {a : Act} {w : World} {r : List Oper} (ho : ops.toList.drop i = o :: r)
    (h : wpListIn F n P ops (Exit.then K Q) [o] a w) : wpOpIn F n P ops Q i K a w := by
  unfold wpOpIn
  simp only [at_drop ho]
  simp only [wpListIn] at h
  split at h
  · rename_i hw
    rw [if_pos hw]
    refine ⟨h.1, ?_⟩
    have hu : ∀ r, o.uponIn F n P a (fun a' w' => Exit.then K Q .normal a' w') (Exit.then K Q) r → o.uponIn F n P a K Q r := by
      intro r hr
      cases r with
      | ok m w' =>
        cases m <;> simp only [Oper.uponIn] at hr ⊢
        case enter f args =>
          refine ⟨hr.1, hr.2.mono fun e w'' he => ?_⟩
          cases e with
          | returned v => exact he
          | panicked c => exact he
          | outgrown => exact he
        case round l f tmps as bo =>
          refine ⟨hr.1, hr.2.mono fun e w'' he => ?_⟩
          cases e with
          | returned v => exact he
          | panicked c => exact he
          | outgrown => exact he
        case row row args => exact ⟨hr.1, hr.2.mono fun v w'' he => he⟩
        all_goals exact hr
      | halt x w' => cases x <;> simp only [Oper.uponIn] at hr ⊢; exact hr
    exact hu _ h.2
  · rename_i hw
    rw [if_neg hw]
    exact h
theorem iplan_h {i : Nat} {o : Oper} {rest : List PS} {a : Act} {w : World} {r : List Oper} (ho : ops.toList.drop i = o :: r)
    (h : ∀ K : Act → World → Prop, (∀ a' w', wpPlanI F n P ops Q rest a' w' → K a' w') → wpListIn F n P ops (Exit.then K Q) [o] a w) :
    wpPlanI F n P ops Q (.h i false :: rest) a w :=
  wpOpIn_mono (K := fun a' w' => wpPlanI F n P ops Q rest a' w') (fun _ _ h => ⟨fun h0 => (by cases h0), h⟩) (wpOpIn_of_list ho (h _ fun _ _ h => h))
theorem iplan_t {i : Nat} {o : Oper} {rest : List PS} {a : Act} {w : World} {r : List Oper} (ho : ops.toList.drop i = o :: r)
    (h : ∀ K : Act → World → Prop, (∀ a' w', Ext w w' → wpPlanI F n P ops Q rest a' w' → K a' w') → wpListIn F n P ops (Exit.then K Q) [o] a w) :
    wpPlanI F n P ops Q (.h i true :: rest) a w :=
  wpOpIn_mono (K := fun a' w' => Ext w w' ∧ wpPlanI F n P ops Q rest a' w') (fun _ _ h => ⟨fun _ => h.1, h.2⟩) (wpOpIn_of_list ho (h _ fun _ _ h1 h2 => ⟨h1, h2⟩))
theorem iplan_done {a : Act} {w : World} (h : Q .normal a w) : wpPlanI F n P ops (still Q) [] a w := h
end
end Go.Proofs.Ytkejjahlglldlaa
