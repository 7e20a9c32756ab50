/- The law for regions that draw their order, once more: what a heavy operation may touch is said by S. (As <Name>Reg; there S is empty.) No program is named here. -/
import Derived.Test.YtkejjahlglldlaaMem
namespace Go.Proofs.Ytkejjahlglldlaa.Tch
open Go.RowKit Go.Proofs.Ytkejjahlglldlaa

/-- What may be touched. -/
class TS where
  S : Nat → Prop
variable [ts : TS]
abbrev TE (w w' : World) : Prop := Touch ts.S w w'
theorem TE.refl (w : World) : TE w w := Touch.refl _ _
theorem TE.trans {a b c : World} (h : TE a b) (k : TE b c) : TE a c := Touch.trans h k

/-- The operation yields v in every world that comes behind w. -/
def YieldsE (P : Program) (ops : Array Oper) (w : World) (o : Oper) (v : Value) (a : Act) : Prop :=
  (Region.wanted o (yielded ops a.tmps) = true ∧ ∀ w', TE w w' → (execOp a.eval o).run P w' = .ok (.value v) w') ∨
  (Region.wanted o (yielded ops a.tmps) = false ∧ v = undef)

section
variable {P : Program} {ops : Array Oper} {Q : Exit → Act → World → Prop}

/-- What is asked of the world at hand ('lt' = true: it comes behind w; else nothing) for the light operation to yield v. -/
def YieldsB (P : Program) (ops : Array Oper) (lt : Bool) (w : World) (o : Oper) (v : Value) (a : Act) : Prop :=
  if lt then YieldsE P ops w o v a else YieldsP P ops o v a

theorem YieldsB.wpOp {lt : Bool} {i : Nat} {o : Oper} {v : Value} {a : Act} {w : World} (hi : ops[i]? = some o) (hy : YieldsB P ops lt w o v a)
    {K : Act → World → Prop} (h : K (a.put o.dst v) w) : wpOp P ops Q i K a w := by
  unfold Go.wpOp
  simp only [hi]
  cases lt <;> simp only [YieldsB, Bool.false_eq_true, if_false, if_true] at hy
  · rcases hy with ⟨hw, hv⟩ | ⟨hw, rfl⟩
    · simp only [hw, if_true, Oper.wp, hv w, Oper.upon]; exact .inl h
    · simp only [hw, Bool.false_eq_true, if_false]; exact h
  · rcases hy with ⟨hw, hv⟩ | ⟨hw, rfl⟩
    · simp only [hw, if_true, Oper.wp, hv w (TE.refl w), Oper.upon]; exact .inl h
    · simp only [hw, Bool.false_eq_true, if_false]; exact h

theorem YieldsB.of_same {lt : Bool} {o : Oper} {v : Value} {a a' : Act} {w : World} (hy : YieldsB P ops lt w o v a) (he : execOp a'.eval o = execOp a.eval o)
    (hw : Region.wanted o (yielded ops a'.tmps) = Region.wanted o (yielded ops a.tmps)) : YieldsB P ops lt w o v a' := by
  unfold YieldsB YieldsE YieldsP at *
  rw [he, hw]
  exact hy

theorem YieldsB.later {lt : Bool} {o : Oper} {v : Value} {a : Act} {w w' : World} (hy : YieldsB P ops lt w o v a) (he : lt = true → TE w w') : YieldsB P ops lt w' o v a := by
  cases lt <;> simp only [YieldsB, Bool.false_eq_true, if_false, if_true] at hy ⊢
  · exact hy
  · exact hy.imp (fun ⟨h1, h2⟩ => ⟨h1, fun w'' h => h2 w'' (TE.trans (he rfl) h)⟩) id

theorem wpOp_putB {lt : Bool} {j : Nat} {oi oj : Oper} {v : Value} (hj : ops[j]? = some oj) (hap : oi.apart ops oj = true)
    (hsi : ∀ cs b, oi.op ≠ .select cs b) (hsj : ∀ cs b, oj.op ≠ .select cs b)
    (hQ : ∀ c a w, Q (.panic c) (a.put oi.dst v) w → Q (.panic c) a w) {K : Act → World → Prop} {a : Act} {w : World}
    (hy : YieldsB P ops lt w oi v a) (h : wpOp P ops Q j (fun a' w' => (lt = true → TE w w') ∧ K a' w') (a.put oi.dst v) w) :
    wpOp P ops Q j (fun a' w' => (lt = true → TE w w') ∧ YieldsB P ops lt w' oi v a' ∧ K (a'.put oi.dst v) w') a w := by
  obtain ⟨h1, h2, h3⟩ := Oper.apart_spec hap
  have keep : ∀ (a : Act), YieldsB P ops lt w oi v a → ∀ u, YieldsB P ops lt w oi v (a.put oj.dst u) := fun a hy u =>
    hy.of_same (execOp_put oi hsi a oj.dst u h3) (wanted_put oi a oj.dst u h3)
  have keepD : ∀ d, YieldsB P ops lt w oi v { a with defers := d :: a.defers } := fun d => hy.of_same rfl rfl
  unfold wpOp at *
  simp only [hj] at *
  rw [wanted_put oj a oi.dst v h1] at h
  split
  · rename_i hw
    simp only [hw, if_true] at h
    rcases h with h | ⟨hasks, hlets⟩
    case inr => exact .inr ⟨by unfold Oper.asks at *; rw [execOp_put oj hsj a oi.dst v h1] at hasks; exact hasks, hlets⟩
    refine .inl ?_
    unfold Oper.wp at *
    rw [execOp_put oj hsj a oi.dst v h1] at h
    generalize (execOp a.eval oj).run P w = r at *
    cases r with
    | ok n w' =>
      cases n <;> simp only [Oper.upon] at h ⊢
      case value u => exact ⟨h.1, (keep a hy u).later h.1, by rw [← Act.put_comm a v u h2]; exact h.2⟩
      case skip => exact ⟨h.1, (keep a hy _).later h.1, by rw [← Act.put_comm a v undef h2]; exact h.2⟩
      case defer d =>
        refine ⟨h.1, ((keepD d).of_same (execOp_put oi hsi _ oj.dst undef h3) (wanted_put oi _ oj.dst undef h3)).later h.1, ?_⟩
        rw [← Act.put_comm _ v undef h2, ← Act.put_defers]
        exact h.2
      case enter f args =>
        refine Calls.mono h fun e w'' he => ?_
        cases e with
        | returned u => exact ⟨he.1, (keep a hy u).later he.1, by rw [← Act.put_comm a v u h2]; exact he.2⟩
        | panicked c => exact hQ _ _ _ he
        | outgrown => exact he
      case row row args => exact Rows.mono h fun u w'' he => ⟨he.1, (keep a hy u).later he.1, by rw [← Act.put_comm a v u h2]; exact he.2⟩
    | halt x w' =>
      cases x <;> simp only [Oper.upon] at h ⊢
      case panic u => exact hQ _ _ _ h
  · rename_i hw
    simp only [hw] at h
    exact ⟨h.1, (keep a hy _).later h.1, by rw [← Act.put_comm a v undef h2]; exact h.2⟩

/-- Whatever order is picked from here on, the operations that T names leave what was there as it was. -/
def wpAnyT (P : Program) (ops : Array Oper) (Q : Exit → Act → World → Prop) (T : Nat → Bool) : Nat → Array Bool → Act → World → Prop
  | 0, listed, a, w => Region.ready .any ops listed = [] ∧ Q .normal a w
  | fuel + 1, listed, a, w =>
    (Region.ready .any ops listed = [] → Q .normal a w) ∧
    ∀ i ∈ Region.ready .any ops listed, wpOp P ops Q i (fun a' w' => (T i = true → TE w w') ∧ wpAnyT P ops Q T fuel (listed.setIfInBounds i true) a' w') a w

theorem wpAny_of_T {T : Nat → Bool} : ∀ (fuel : Nat) (listed : Array Bool) (a : Act) (w : World), wpAnyT P ops Q T fuel listed a w → wpAny P .any ops Q fuel listed a w
  | 0, _, _, _, h => h
  | fuel + 1, _, _, _, h => ⟨h.1, fun i hi => wpOp_mono (fun a' w' h' => wpAny_of_T fuel _ a' w' h'.2) (h.2 i hi)⟩

/-- **A light operation may be taken first.** -/
theorem wpAnyT_first {T : Nat → Bool} {lt : Bool} {m : List Nat} (hm : tableOk ops m = true) {i : Nat} {oi : Oper} {v : Value} (hi : ops[i]? = some oi) (hsel : ∀ (j : Nat) (o : Oper) cs b, ops[j]? = some o → o.op ≠ .select cs b)
    (hQ : ∀ c a w, Q (.panic c) (a.put oi.dst v) w → Q (.panic c) a w) :
    ∀ (fuel : Nat) (listed : Array Bool) (a : Act) (w : World), Closed ops listed →
      (∀ j oj, ops[j]? = some oj → j ≠ i → listed.getD j true = false → waits m j i = false → oi.apart ops oj = true ∧ (lt = true → T j = true)) →
      (∀ j oj, ops[j]? = some oj → (∃ e ∈ oj.after, Region.binds .any e = true ∧ e.on = i) → waits m j i = true) →
      i ∈ Region.ready .any ops listed → YieldsB P ops lt w oi v a →
      wpAnyT P ops Q T fuel (listed.setIfInBounds i true) (a.put oi.dst v) w → wpAnyT P ops Q T (fuel + 1) listed a w := by
  intro fuel
  induction fuel with
  | zero =>
    intro listed a w _ _ _ hr hy H
    refine ⟨fun h => (by rw [h] at hr; cases hr), fun j hj => ?_⟩
    by_cases hji : j = i
    · subst hji; exact hy.wpOp hi ⟨fun _ => TE.refl w, H⟩
    · have := ready_mono hj hji
      rw [H.1] at this
      cases this
  | succ fuel ih =>
    intro listed a w hcl hfree hdir hr hy H
    refine ⟨fun h => (by rw [h] at hr; cases hr), fun j hj => ?_⟩
    by_cases hji : j = i
    · subst hji; exact hy.wpOp hi ⟨fun _ => TE.refl w, H⟩
    · have h1 := H.2 j (ready_mono hj hji)
      obtain ⟨hjun, oj, hoj, hall⟩ := mem_ready.1 hj
      have hi0 := (mem_ready.1 hr).1
      have hnw : waits m j i = false := by
        cases hw : waits m j i with
        | false => rfl
        | true =>
          have h2 := closed_waits hm hcl j oj i hoj hall hw
          rcases Nat.lt_or_ge i listed.size with h' | h'
          · simp [h'] at hi0 h2; rw [hi0] at h2; cases h2
          · simp [Array.getElem?_eq_none h'] at h2
      obtain ⟨hap, hT⟩ := hfree j oj hoj hji hjun hnw
      have h1' : wpOp P ops Q j (fun a' w' => (lt = true → TE w w') ∧ (T j = true → TE w w') ∧ wpAnyT P ops Q T fuel ((listed.setIfInBounds i true).setIfInBounds j true) a' w') (a.put oi.dst v) w :=
        wpOp_mono (fun a' w' h => ⟨fun hl => h.1 (hT hl), h⟩) h1
      have h2 := wpOp_putB hoj hap (fun cs b => hsel i oi cs b hi) (fun cs b => hsel j oj cs b hoj) hQ hy h1'
      refine wpOp_mono (fun a' w' h3 => ⟨h3.2.2.1, ih (listed.setIfInBounds j true) a' w' (hcl.add hj) (fun k ok hk hki hun hnw' => ?_) hdir (ready_mono hr (Ne.symm hji)) h3.2.1 ?_⟩) h2
      · refine hfree k ok hk hki ?_ hnw'
        by_cases hjk : j = k
        · subst hjk; exact hjun
        · rw [getD_set_ne true hjk] at hun; exact hun
      · rw [Array.setIfInBounds_comm _ _ hji]
        exact h3.2.2.2

def wpPlan (P : Program) (ops : Array Oper) (Q : Exit → Act → World → Prop) : List PS → Act → World → Prop
  | [], a, w => Q .normal a w
  | .p i :: rest, a, w => ∃ o, ops[i]? = some o ∧ if Region.wanted o (yielded ops a.tmps) then ∃ v, (∀ w', (execOp a.eval o).run P w' = .ok (.value v) w') ∧ wpPlan P ops Q rest (a.put o.dst v) w else wpPlan P ops Q rest (a.put o.dst undef) w
  | .l _ :: _, _, _ => False
  | .e i :: rest, a, w => ∃ o, ops[i]? = some o ∧ if Region.wanted o (yielded ops a.tmps) then ∃ v, (∀ w', TE w w' → (execOp a.eval o).run P w' = .ok (.value v) w') ∧ wpPlan P ops Q rest (a.put o.dst v) w else wpPlan P ops Q rest (a.put o.dst undef) w
  | .h i tr :: rest, a, w => wpOp P ops Q i (fun a' w' => (tr = true → TE w w') ∧ wpPlan P ops Q rest a' w') a w

theorem planOk_sound {m : List Nat} {T : Nat → Bool} (hm : tableOk ops m = true) (hd : dirOk ops m = true) (hs : Region.noSelect ops = true)
    (hQ : ∀ (i : Nat) (o : Oper), ops[i]? = some o → ∀ c a v w, Q (.panic c) (a.put o.dst v) w → Q (.panic c) a w) :
    ∀ (plan : List PS) (listed : Array Bool) (a : Act) (w : World), (∀ i tr, PS.h i tr ∈ plan → T i = true → tr = true) → Closed ops listed →
      planOk ops m T plan listed = true → wpPlan P ops Q plan a w → wpAnyT P ops Q T plan.length listed a w := by
  have hdir : ∀ i j oj, ops[j]? = some oj → (∃ e ∈ oj.after, Region.binds .any e = true ∧ e.on = i) → waits m j i = true := by
    rintro i j oj hj ⟨e, he, hb, rfl⟩
    unfold dirOk at hd
    rw [List.all_eq_true] at hd
    have h1 := hd j (by simp; exact (Array.getElem?_eq_some_iff.1 hj).1)
    simp only [hj] at h1
    have h2 := (Array.all_eq_true_iff_forall_mem.1 h1) e he
    simpa [hb] using h2
  have hl : ∀ {lt : Bool} {i : Nat} {rest : List PS} {listed : Array Bool} {a : Act} {w : World} {o : Oper} {v : Value}, Closed ops listed → ops[i]? = some o →
      lightOk ops m T listed i lt = true → YieldsB P ops lt w o v a → wpAnyT P ops Q T rest.length (listed.setIfInBounds i true) (a.put o.dst v) w →
      wpAnyT P ops Q T (rest.length + 1) listed a w := by
    intro lt i rest listed a w o v hc ho hk hy h
    unfold lightOk at hk
    simp only [ho, Bool.and_eq_true] at hk
    obtain ⟨hr, hk⟩ := hk
    refine wpAnyT_first hm ho (Region.noSelect_spec hs) (fun c a w => hQ _ _ ho c a _ w) _ listed a w hc (fun j oj hj hji hun hnw => ?_) (fun j oj => hdir i j oj) (by simpa using hr) hy h
    rw [List.all_eq_true] at hk
    have h1 := hk j (by simp; exact (Array.getElem?_eq_some_iff.1 hj).1)
    simp only [hj, Bool.or_eq_true, beq_iff_eq, hji, false_or, hun, Bool.false_eq_true, hnw, Bool.and_eq_true, Bool.not_eq_true'] at h1
    exact ⟨h1.1, fun hlt => h1.2.resolve_left (by simp [hlt])⟩
  intro plan
  induction plan with
  | nil => intro listed a w _ _ hk h; exact ⟨by simpa [planOk] using hk, h⟩
  | cons s rest ih =>
    intro listed a w hT hc hk h
    have hT' : ∀ i tr, PS.h i tr ∈ rest → T i = true → tr = true := fun i tr hm => hT i tr (List.mem_cons_of_mem _ hm)
    cases s with
    | p i =>
      simp only [planOk, Bool.and_eq_true] at hk
      obtain ⟨o, ho, h⟩ := h
      have hr : i ∈ Region.ready .any ops listed := by have := hk.1; unfold lightOk at this; simp only [Bool.and_eq_true] at this; simpa using this.1
      split at h
      · rename_i hw
        obtain ⟨v, hv, h⟩ := h
        exact hl (rest := rest) hc ho hk.1 (by simp only [YieldsB, Bool.false_eq_true, if_false]; exact .inl ⟨hw, hv⟩) (ih _ _ _ hT' (hc.add hr) hk.2 h)
      · rename_i hw
        exact hl (rest := rest) hc ho hk.1 (by simp only [YieldsB, Bool.false_eq_true, if_false]; exact .inr ⟨by simpa using hw, rfl⟩) (ih _ _ _ hT' (hc.add hr) hk.2 h)
    | l i => exact h.elim
    | e i =>
      simp only [planOk, Bool.and_eq_true] at hk
      obtain ⟨o, ho, h⟩ := h
      have hr : i ∈ Region.ready .any ops listed := by have := hk.1; unfold lightOk at this; simp only [Bool.and_eq_true] at this; simpa using this.1
      split at h
      · rename_i hw
        obtain ⟨v, hv, h⟩ := h
        exact hl (rest := rest) hc ho hk.1 (by simp only [YieldsB, if_true]; exact .inl ⟨hw, hv⟩) (ih _ _ _ hT' (hc.add hr) hk.2 h)
      · rename_i hw
        exact hl (rest := rest) hc ho hk.1 (by simp only [YieldsB, if_true]; exact .inr ⟨by simpa using hw, rfl⟩) (ih _ _ _ hT' (hc.add hr) hk.2 h)
    | h i tr =>
      simp only [planOk, Bool.and_eq_true, beq_iff_eq] at hk
      obtain ⟨hr, hk⟩ := hk
      refine ⟨fun h0 => by rw [hr] at h0; simp at h0, fun j hj => ?_⟩
      rw [hr] at hj
      simp only [List.mem_singleton] at hj
      subst hj
      exact wpOp_mono (fun a' w' h' => ⟨fun ht => h'.1 (hT j tr (by simp) ht), ih _ _ _ hT' (hc.add (by rw [hr]; simp)) hk h'.2⟩) h

/-- **The law**: a region that draws its order, in a program under wide orders. -/
theorem region_plan {id : Nat} {a : Act} {w : World} (plan : List PS) (hf : P.follows .mixedOrders = true) (hk : regionOk ops plan = true) (hn : decide ((plan.map PS.no).Nodup) = true)
    (hQ : ∀ (i : Nat) (o : Oper), ops[i]? = some o → ∀ c a v w, Q (.panic c) (a.put o.dst v) w → Q (.panic c) a w) (h : wpPlan P ops Q plan a w.drew) : (Code.region id ops true).wp P Q a w := by
  unfold regionOk at hk
  simp only [Bool.and_eq_true, beq_iff_eq] at hk
  obtain ⟨⟨⟨⟨hs, hm⟩, hd⟩, hlen⟩, hp⟩ := hk
  refine wp_region_any hf (wpAny_of_T (T := planT plan) _ _ _ _ ?_)
  have h0 := planOk_sound hm hd hs hQ plan (Array.replicate ops.size false) a w.drew (planT_spec (of_decide_eq_true hn)) ?_ hp h
  · rw [hlen] at h0; exact h0
  intro j o hj hl e _ _
  exfalso
  simp only [Array.getD_eq_getD_getElem?, Array.getElem?_replicate] at hl
  split at hl <;> simp at hl

theorem wpPlan_monoQ {Q Q' : Exit → Act → World → Prop} (hq : ∀ e a w, Q e a w → Q' e a w) : ∀ (plan : List PS) (a : Act) (w : World), wpPlan P ops Q plan a w → wpPlan P ops Q' plan a w := by
  intro plan
  induction plan with
  | nil => intro a w h; exact hq _ _ _ h
  | cons s rest ih =>
    intro a w h
    cases s with
    | h i tr => exact wpOp_mono (fun a' w' h' => ⟨h'.1, ih _ _ h'.2⟩) (wpOp_monoQ hq h)
    | l i => exact h.elim
    | _ =>
      obtain ⟨o, ho, h⟩ := h
      refine ⟨o, ho, ?_⟩
      split at h
      · rename_i hw
        obtain ⟨v, hv, h⟩ := h
        rw [if_pos hw]
        exact ⟨v, hv, ih _ _ h⟩
      · rename_i hw
        rw [if_neg hw]
        exact ih _ _ h

/-- .. where nothing in the region panics. -/
theorem region_calm {id : Nat} {a : Act} {w : World} (plan : List PS) (hf : P.follows .mixedOrders = true) (hk : regionOk ops plan = true) (hn : decide ((plan.map PS.no).Nodup) = true)
    (h : wpPlan P ops (calm Q) plan a w.drew) : (Code.region id ops true).wp P Q a w := by
  have h1 : (Code.region id ops true).wp P (calm Q) a w := region_plan plan hf hk hn (fun _ _ _ _ _ _ _ h => h) h
  exact Code.wp_mono (fun e a w he => by cases e <;> first | exact he | exact he.elim) h1

theorem plan_p {i : Nat} {o : Oper} {rest : List PS} {a : Act} {w : World} {r : List Oper} (ho : ops.toList.drop i = o :: r)
    (h : ∀ K : Act → Prop, (∀ a, wpPlan P ops Q rest a w → K a) → if Region.wanted o (yielded ops a.tmps) then ∃ v, (∀ w', (execOp a.eval o).run P w' = .ok (.value v) w') ∧ K (a.put o.dst v) else K (a.put o.dst undef)) :
    wpPlan P ops Q (.p i :: rest) a w := ⟨o, at_drop ho, h _ fun _ h => h⟩
theorem plan_e {i : Nat} {o : Oper} {rest : List PS} {a : Act} {w : World} {r : List Oper} (ho : ops.toList.drop i = o :: r)
    (h : ∀ K : Act → Prop, (∀ a, wpPlan P ops Q rest a w → K a) → if Region.wanted o (yielded ops a.tmps) then ∃ v, (∀ w', TE w w' → (execOp a.eval o).run P w' = .ok (.value v) w') ∧ K (a.put o.dst v) else K (a.put o.dst undef)) :
    wpPlan P ops Q (.e i :: rest) a w := ⟨o, at_drop ho, h _ fun _ h => h⟩
theorem plan_e1 {i : Nat} {o : Oper} {rest : List PS} {a : Act} {w : World} {r : List Oper} (ho : ops.toList.drop i = o :: r) (hg : o.guard = none) (v : Value)
    (h : ∀ w', TE w w' → (execOp a.eval o).run P w' = .ok (.value v) w') (h2 : ∀ K : Act → Prop, (∀ a, wpPlan P ops Q rest a w → K a) → K (a.put o.dst v)) :
    wpPlan P ops Q (.e i :: rest) a w := ⟨o, at_drop ho, by
      rw [if_pos (by simp [Region.wanted, hg])]
      exact ⟨v, h, h2 _ fun _ h => h⟩⟩
theorem plan_h {i : Nat} {o : Oper} {rest : List PS} {a : Act} {w : World} {r : List Oper} (ho : ops.toList.drop i = o :: r)
    (h : ∀ K : Act → World → Prop, (∀ a' w', wpPlan P ops Q rest a' w' → K a' w') → wpList P ops (Exit.then K Q) [o] a w) :
    wpPlan P ops Q (.h i false :: rest) a w :=
  wpOp_mono (K := fun a' w' => wpPlan P ops Q rest a' w') (fun _ _ h => ⟨fun h0 => (by cases h0), h⟩) (wpOp_of_list ho (h _ fun _ _ h => h))
theorem plan_t {i : Nat} {o : Oper} {rest : List PS} {a : Act} {w : World} {r : List Oper} (ho : ops.toList.drop i = o :: r)
    (h : ∀ K : Act → World → Prop, (∀ a' w', TE w w' → wpPlan P ops Q rest a' w' → K a' w') → wpList P ops (Exit.then K Q) [o] a w) :
    wpPlan P ops Q (.h i true :: rest) a w :=
  wpOp_mono (K := fun a' w' => TE w w' ∧ wpPlan P ops Q rest a' w') (fun _ _ h => ⟨fun _ => h.1, h.2⟩) (wpOp_of_list ho (h _ fun _ _ h1 h2 => ⟨h1, h2⟩))
/-- A heavy operation without a guard: the goal is small: it names no region. Nothing may panic in it. -/
theorem plan_c {i : Nat} {o : Oper} {rest : List PS} {a : Act} {w : World} {r : List Oper} (ho : ops.toList.drop i = o :: r) (hg : o.guard = none)
    (h : ∀ (K : Act → World → Prop) (Q' : Exit → Act → World → Prop), (∀ a' w', wpPlan P ops (calm Q) rest a' w' → K a' w') → wpList P #[o] (Exit.then K Q') [o] a w) :
    wpPlan P ops (calm Q) (.h i false :: rest) a w := by
  refine plan_h ho fun K hK => ?_
  have h1 := h K (fun _ _ _ => False) hK
  simp only [wpList, Region.wanted, hg, if_true] at h1 ⊢
  refine .inl ?_
  rcases h1 with h1 | ⟨_, a0, w0, h1⟩
  · exact upon_swap (fun _ _ _ h => h.elim) (fun _ _ h => h.elim) _ h1
  · exact h1.elim
theorem plan_ct {i : Nat} {o : Oper} {rest : List PS} {a : Act} {w : World} {r : List Oper} (ho : ops.toList.drop i = o :: r) (hg : o.guard = none)
    (h : ∀ (K : Act → World → Prop) (Q' : Exit → Act → World → Prop), (∀ a' w', TE w w' → wpPlan P ops (calm Q) rest a' w' → K a' w') → wpList P #[o] (Exit.then K Q') [o] a w) :
    wpPlan P ops (calm Q) (.h i true :: rest) a w := by
  refine plan_t ho fun K hK => ?_
  have h1 := h K (fun _ _ _ => False) hK
  simp only [wpList, Region.wanted, hg, if_true] at h1 ⊢
  refine .inl ?_
  rcases h1 with h1 | ⟨_, a0, w0, h1⟩
  · exact upon_swap (fun _ _ _ h => h.elim) (fun _ _ h => h.elim) _ h1
  · exact h1.elim
theorem plan_nil {a : Act} {w : World} (h : Q .normal a w) : wpPlan P ops Q [] a w := h

end
end Go.Proofs.Ytkejjahlglldlaa.Tch
