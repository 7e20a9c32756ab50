/- bag.order, slices.SortFunc at facts of one row. -/
import Derived.Test.YtkejjahlglldlaaPe8
import Derived.Test.YtkejjahlglldlaaPeC
namespace Go.Proofs.Ytkejjahlglldlaa
open Go.RowKit Go.Shelf Go.Lib Go.Sort

def cmpF (p q : Per) : Int := orL [cmpI p.1 q.1, cmpI p.2 q.2]
theorem cmpF_or {c : Int} (h : c = 0) (x1 x2 y1 y2 : Int) : orL [c, cmpI x1 x2, cmpI y1 y2] = cmpF (x1, y1) (x2, y2) := by
  subst h; simp [cmpF, orL]
theorem cmpF_lt (p q : Per) : (cmpF p q < 0) ↔ (p.1 < q.1 ∨ p.1 = q.1 ∧ p.2 < q.2) := by
  simp only [cmpF, orL, cmpI]
  repeat' split
  all_goals omega
theorem swoF {α : Type} (f : α → Per) : SWO (ltOf fun x y : α => cmpF (f x) (f y)) where
  irrefl x := by simp [ltOf, cmpF_lt]
  trans x y z h1 h2 := by simp only [ltOf, cmpF_lt, decide_eq_true_eq] at *; omega
  ntrans x y z h1 h2 := by simp only [ltOf, cmpF_lt, decide_eq_false_iff_not] at *; omega

/-- A row of these values, its block one of values. -/
def RowU (us : List V) (w : World) (v : Value) : Prop := ∃ (a : Option Addr) (c : Nat), v = .slice a us.length c ∧ Vals w a us ∧ ∀ p, a = some p → ∃ (cur : Array Value) (f : Nat × Nat), w.heap[p.block]? = some (.cells cur 93 f)
theorem RowU.of {w : World} {v : Value} (h : RowOk w v) : RowU oneVs w v := by
  obtain ⟨b, cap, cur, f, h1, h2, h3⟩ := h
  exact ⟨_, cap, h1, h3, fun p hp => by cases hp; exact ⟨cur, f, h2⟩⟩
theorem RowU.nil (w : World) : RowU [] w (.slice none 0 0) := ⟨none, 0, rfl, fun h => absurd h (by simp), fun p hp => by cases hp⟩
theorem RowU.touch {us : List V} {S : Nat → Prop} {w w' : World} {v : Value} (h : RowU us w v) (ht : Touch S w w') (hn : ∀ k, S k → ∃ (cur : Array Value) (t : TypeId) (f : Nat × Nat), w.heap[k]? = some (.cells cur t f) ∧ t ≠ 93) : RowU us w' v := by
  obtain ⟨a, c, rfl, hv, hb⟩ := h
  have he : ∀ p, a = some p → w'.heap[p.block]? = w.heap[p.block]? := fun p hp => by
    obtain ⟨cur, f, h1⟩ := hb p hp
    refine ht.block _ (blk_lt h1) fun hs => ?_
    obtain ⟨cur', t, f', h2, h3⟩ := hn _ hs
    rw [h1] at h2
    cases h2
    exact h3 rfl
  refine ⟨a, c, rfl, fun hp => ?_, fun p hp => ?_⟩
  · obtain ⟨lb, off, h1, h2⟩ := hv hp
    refine ⟨lb, off, h1, fun i v hi => ?_⟩
    have he' : w'.heap[lb]? = w.heap[lb]? := he _ h1
    obtain ⟨c0, c1, c2⟩ := h2 i v hi
    exact ⟨(World.cell?_of_block (w := w) he').trans c0, (World.cell?_of_block (w := w) he').trans c1, (World.cell?_of_block (w := w) he').trans c2⟩
  · obtain ⟨cur, f, h1⟩ := hb p hp
    exact ⟨cur, f, (he p hp).trans h1⟩
def encF (f : Fct) : List Value := [f.1, .int .i64 f.2.1, .int .i64 f.2.2]
theorem flatF_map : ∀ fs : List Fct, flatF fs = fs.flatMap encF
  | [] => rfl
  | f :: fs => by rw [List.flatMap_cons, ← flatF_map fs]; rfl

set_option maxHeartbeats 8000000 in
theorem order_gr (a b : Option Addr) (n c c' : Nat) (us : List V) (x1 y1 x2 y2 : Int) (w : World) (hn : us.length = n) (hu : Vals w a us) (hv : Vals w b us) (hsz : n ≤ 1000000000) (hz : cmpL us us = 0) :
    Calls Try.prog 74 #[.agg #[.slice a n c, .int .i64 x1, .int .i64 y1], .agg #[.slice b n c', .int .i64 x2, .int .i64 y2]] w (fun e w' => e = .returned (.int .i64 (cmpF (x1, y1) (x2, y2))) ∧ Gr w w') := by
  have HU := Lib.hid hu; clear hu
  have HV := Lib.hid hv; clear hv
  go_enter Try.func74, Try.ntmps74
  go_wp2
  refine region_calm [.p 0, .l 1, .p 2, .l 3, .p 5, .p 6, .l 7, .p 8, .p 9, .l 10, .p 12, .p 13, .l 14, .p 15, .p 16, .l 17, .h 4 true, .h 11 true, .h 18 false, .h 19 false, .h 20 false, .p 21] f_mixed (by kernel_rfl) (by kernel_rfl) ?_
  repeat (first | (refine plan_p rfl (fun K hK => ?_); go_simp; refine hK _ ?_; clear hK K) | (refine plan_l rfl (fun K hK => ?_); go_simp; refine hK _ ?_; clear hK K))
  refine plan_ct rfl rfl (fun K _ hK => ?_)
  go_wp2_with fail
  refine (Compare_gr a b n n c c' us us _ hn hn (HU.out.ext ((((Ext.refl w).alloc _).alloc _).drew)) (HV.out.ext ((((Ext.refl w).alloc _).alloc _).drew)) hsz hsz).mono ?_
  rintro e w2 ⟨rfl, hG⟩
  have HG : Hid (Gr w w2) := ((((Gr.refl w).alloc _).alloc _).drew).trans hG
  go_wp2_with fail
  refine hK _ _ (hG.ext) ?_; clear hK K
  clear hG
  refine plan_ct rfl rfl (fun K _ hK => ?_)
  go_wp2_with (go_at_call 48; refine (compare_i64 _ _ _).mono ?_; rintro e w' ⟨rfl, rfl⟩)
  refine hK _ _ (Ext.refl _) ?_; clear hK K
  refine plan_c rfl rfl (fun K _ hK => ?_)
  go_wp2_with (go_at_call 48; refine (compare_i64 _ _ _).mono ?_; rintro e w' ⟨rfl, rfl⟩)
  refine plan_c rfl rfl (fun K _ hK => ?_)
  go_wp2
  refine plan_c rfl rfl (fun K _ hK => ?_)
  go_wp2_with fail
  refine (or_any _ [cmpL us us, cmpI x1 x2, cmpI y1 y2] 3 _ rfl (by omega) ?_).mono ?_
  · intro j hj
    obtain rfl | rfl | rfl : j = 0 ∨ j = 1 ∨ j = 2 := by omega
    all_goals go_simp
  rintro e w3 ⟨rfl, rfl⟩
  rw [cmpF_or hz]
  go_wp2
  repeat (first | (refine plan_p rfl (fun K hK => ?_); go_simp; refine hK _ ?_; clear hK K) | (refine plan_l rfl (fun K hK => ?_); go_simp; refine hK _ ?_; clear hK K))
  refine plan_done ?_
  go_wp2
  go_ret
  exact ⟨rfl, HG.out.alloc _⟩

set_option maxHeartbeats 4000000 in
theorem sortU_ok (us : List V) (hl : us.length ≤ 1000000000) (hz : cmpL us us = 0) (f0 : Fct) (b n cap : Nat) (fs : List Fct) (w : World) (h0 : RowU us w f0.1) (hr : ∀ f ∈ fs, RowU us w f.1) (hS : Sl w 70 3 (some b) n cap (flatF fs)) (hsz : n ≤ 2199023255552) :
    Calls Try.prog 73 #[slv (some b) n cap, .func (.func 74) #[] #[]] w (fun e w' => e = .returned (.tuple #[]) ∧ ∃ gs : List Fct, gs.Perm fs ∧ (gs.map (·.2)).Pairwise leP ∧ Sl w' 70 3 (some b) n cap (flatF gs) ∧ Touch (fun k => k = b) w w') := by
  have hcnt : fs.length = n := by have := hS.len; rw [flatF_len] at this; omega
  let α := {f : Fct // RowU us w f.1}
  letI : Inhabited α := ⟨⟨f0, h0⟩⟩
  let enc : α → List Value := fun f => encF f.1
  have hk : ∀ x : α, (enc x).length = 3 := fun _ => rfl
  obtain ⟨L, hL⟩ : ∃ L : List α, L.map (·.1) = fs := ⟨fs.attach.map fun f => ⟨f.1, hr f.1 f.2⟩, by rw [List.map_map]; exact List.attach_map_subtype_val fs⟩
  have hflat : ∀ M : List α, flatF (M.map (·.1)) = M.flatMap enc := fun M => by rw [flatF_map, List.flatMap_map]
  have hown : ∀ k, k = b → ∃ (cur : Array Value) (t : TypeId) (f : Nat × Nat), w.heap[k]? = some (.cells cur t f) ∧ t ≠ 93 := by
    rintro k rfl
    obtain ⟨cur, hb, _⟩ := hS.raw
    exact ⟨cur, _, _, hb, by decide⟩
  have hS' : Sl w 70 3 (some b) n cap (L.flatMap enc) := by rw [← hflat, hL]; exact hS
  have hLn : L.length = n := by rw [← hcnt, ← hL, List.length_map]
  have eg : ∀ args w, (callFunc 74 args).run Try.prog w = .ok (.enter 74 args) w := enters_of Try.func74 (by kernel_rfl) rfl
  have hlay : CmpLays Try.prog 74 #[] enc 3 (fun x y : α => cmpF x.1.2 y.1.2) b 0 L.toArray.size w := by
    rintro m os dk _ ⟨⟨v, x1, y1⟩, hx⟩ ⟨⟨v2, x2, y2⟩, hy⟩
    have ht := sortWorld_touch enc 3 w b 0 m dk os
    obtain ⟨a, c, e1, k1, _⟩ := hx.touch ht hown
    obtain ⟨a2, c2, e2, k2, _⟩ := hy.touch ht hown
    simp only at e1 e2
    subst e1 e2
    exact (order_gr a a2 us.length c c2 us x1 y1 x2 y2 _ rfl k1 k2 hl hz).mono fun e w' ⟨h1, h2⟩ => ⟨h1, h2⟩
  have hcon := AnyQ.slices_SortFunc Try.sortFact 3 Try.isAgg70 Try.sizeOf70 enc hk (fun x v hv => by
    obtain ⟨⟨v1, x1, y1⟩, hx⟩ := x
    obtain ⟨a, c, e1, _⟩ := hx
    simp only at e1
    subst e1
    simp [enc, encF] at hv
    rcases hv with rfl | rfl | rfl <;> rfl) (fun x y : α => cmpF x.1.2 y.1.2) (swoF fun x : α => x.1.2) 74 #[] b 0 cap L.toArray w eg hlay (holdsK_of hk (by omega) hS') hS'.block_lt (by simp; omega)
  have hsize : L.toArray.size = n := by simpa using hLn
  rw [hsize] at hcon
  refine Calls.mono (show Calls Try.prog 73 _ _ _ from hcon) ?_
  rintro e w' ⟨rfl, d', m, os, hp, hs, rfl⟩
  have hd : d'.size = n := by have := hp.1; omega
  refine ⟨rfl, d'.toList.map (·.1), ?_, ?_, ?_, sortWorld_touch enc 3 w b 0 m d' os⟩
  · have hp' : PermIn 0 L.toArray.size L.toArray d' := by rw [hsize]; exact hp
    have := (perm_list hp').map (·.1)
    rw [← hL]
    simpa using this
  · rw [List.map_map, List.pairwise_map]
    have := sorted_list hd hs
    refine this.imp fun {x y} h => ?_
    simp only [ltOf, decide_eq_false_iff_not, cmpF_lt] at h
    simp only [leP, Function.comp]
    omega
  · rw [hflat]
    exact sortWorld_sl hk (by omega) hS' d' hd m os
/-- Facts in order. -/
theorem sortF_ok (g : Option Nat) (n cap : Nat) (ps : List Per) (w : World) (hS : FSl w g n cap ps) (hsz : n ≤ 2199023255552) :
    Calls Try.prog 73 #[slv g n cap, .func (.func 74) #[] #[]] w (fun e w' => e = .returned (.tuple #[]) ∧ ∃ qs : List Per, qs.Perm ps ∧ qs.Pairwise leP ∧ FSl w' g n cap qs ∧ Touch (fun b => g = some b) w w') := by
  have hcnt := hS.count
  have hown := hS.ownT
  obtain ⟨fs, h1, h2, h3⟩ := hS
  have fin : ∀ e w' b, g = some b → (e = Ending.returned (.tuple #[]) ∧ ∃ gs : List Fct, gs.Perm fs ∧ (gs.map (·.2)).Pairwise leP ∧ Sl w' 70 3 (some b) n cap (flatF gs) ∧ Touch (fun k => k = b) w w') → e = .returned (.tuple #[]) ∧ ∃ qs : List Per, qs.Perm ps ∧ qs.Pairwise leP ∧ FSl w' g n cap qs ∧ Touch (fun b => g = some b) w w' := by
    rintro e w' b rfl ⟨rfl, gs, k1, k2, k3, k4⟩
    have k5 : Touch (fun k => some b = some k) w w' := k4.mono fun k _ e => by rw [e]
    exact ⟨rfl, gs.map (·.2), by rw [← h2]; exact k1.map _, k2, ⟨gs, k3, rfl, fun f hf => (h3 f (k1.mem_iff.1 hf)).touch k5 hown⟩, k5⟩
  cases g with
  | none =>
    obtain ⟨_, rfl, rfl⟩ := h1
    have hps : ps = [] := List.eq_nil_of_length_eq_zero hcnt
    subst hps
    refine (AnyF.slices_SortFunc_none { Try.sortFact with } none 0 (.func (.func 74) #[] #[]) w).mono ?_
    rintro e w' ⟨rfl, rfl⟩
    exact ⟨rfl, [], List.Perm.refl _, List.Pairwise.nil, FSl.nil _, Touch.refl _ _⟩
  | some b =>
    cases fs with
    | nil => exact (sortU_ok [] (by simp) rfl (.slice none 0 0, 0, 0) b n cap [] w (RowU.nil w) (by simp) h1 hsz).mono fun e w' h => fin e w' b rfl h
    | cons f fs => exact (sortU_ok oneVs (by simp) rfl f b n cap (f :: fs) w (.of (h3 f (List.mem_cons_self ..))) (fun q hq => .of (h3 q hq)) h1 hsz).mono fun e w' h => fin e w' b rfl h
end Go.Proofs.Ytkejjahlglldlaa
