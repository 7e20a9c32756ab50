/- The copy of a slice of periods, its periods that are none struck: walked. -/
import Derived.Test.YtkejjahlglldlaaPe2
import Derived.Lib.SliceRun
namespace Go.Proofs.Ytkejjahlglldlaa
open Go.RowKit

/-- A slice whose cells have turned. -/
theorem Sl.of_cells {w w' : World} {e : TypeId} {size b n n' cap : Nat} {xs xs' : List Value} (h : Sl w e size (some b) n cap xs) (hn : n' ≤ n) {cur' : Array Value} (hb : w'.heap[b]? = some (.cells cur' e (0, 0))) (hs : cur'.size = cap * size) (hl : xs'.length = n' * size)
    (hc : ∀ (j : Nat) (u : Value), xs'[j]? = some u → cur'[j]? = some u) : Sl w' e size (some b) n' cap xs' := by
  obtain ⟨_, cur, _, h1, h2, h3, h4⟩ := h
  refine ⟨hl, cur', hb, by omega, h2, hs, ?_⟩
  apply List.ext_getElem?
  intro j
  rw [List.getElem?_take]
  have hle : n' * size ≤ cap * size := Nat.mul_le_mul_right size (by omega)
  split
  · rename_i hj
    have hj2 : j < xs'.length := by omega
    have := hc j _ (List.getElem?_eq_getElem hj2)
    rw [List.getElem?_eq_getElem hj2, Array.getElem?_toList, this]
  · rename_i hj
    rw [List.getElem?_eq_none (by omega)]
theorem Sl.raw {w : World} {e : TypeId} {size b n cap : Nat} {xs : List Value} (h : Sl w e size (some b) n cap xs) : ∃ cur : Array Value, w.heap[b]? = some (.cells cur e (0, 0)) ∧ cur.size = cap * size ∧ ∀ (j : Nat) (u : Value), xs[j]? = some u → cur[j]? = some u := by
  obtain ⟨_, cur, hb, h1, h2, h3, h4⟩ := h
  refine ⟨cur, hb, h3, fun j u hu => ?_⟩
  rw [← h4, List.getElem?_take] at hu
  split at hu
  · simpa using hu
  · cases hu
theorem PSl.set {w : World} {b n cap : Nat} {ps : List Per} (h : PSl w (some b) n cap ps) {i : Nat} (hi : i < n) (q : Per) : PSl ((w.setCell ⟨b, i * 2, none⟩ (.int .i64 q.1)).setCell ⟨b, i * 2 + 1, none⟩ (.int .i64 q.2)) (some b) n cap (ps.set i q) := by
  obtain ⟨cur, hb, hs, hc⟩ := h.raw
  have hcnt := h.count
  refine Sl.of_cells h (Nat.le_refl _) (blk_set (blk_set hb (i * 2) (.int .i64 q.1)) (i * 2 + 1) (.int .i64 q.2)) (by simp [hs]) (by rw [flatQ_len, List.length_set, hcnt]) ?_
  intro j u hu
  have hj : j < (ps.set i q).length * 2 := by rw [← flatQ_len]; exact (List.getElem?_eq_some_iff.1 hu).1
  rw [List.length_set] at hj
  have hjs : j < cur.size := by rw [hs]; have := h.le; omega
  obtain ⟨k, r, hk, hr⟩ : ∃ k r, j = k * 2 + r ∧ r < 2 := ⟨j / 2, j % 2, by omega, by omega⟩
  have hkl : k < ps.length := by omega
  by_cases hki : k = i
  · subst hki
    have hg := flatQ_get (ps.set k q) k q (by rw [List.getElem?_set_self hkl])
    obtain rfl | rfl : r = 0 ∨ r = 1 := by omega
    · rw [Nat.add_zero] at hk
      rw [hk] at hu ⊢
      rw [hg.1] at hu
      cases hu
      rw [Array.getElem?_setIfInBounds_ne (by omega), Array.getElem?_setIfInBounds_self_of_lt (by omega)]
    · rw [hk] at hu ⊢
      rw [hg.2] at hu
      cases hu
      rw [Array.getElem?_setIfInBounds_self_of_lt (by simp; omega)]
  · have hps : (ps.set i q)[k]? = some (ps[k]'hkl) := by rw [List.getElem?_set_ne (Ne.symm hki), List.getElem?_eq_getElem hkl]
    have hg := flatQ_get (ps.set i q) k _ hps
    have hg' := flatQ_get ps k _ (List.getElem?_eq_getElem hkl)
    obtain rfl | rfl : r = 0 ∨ r = 1 := by omega
    · rw [Nat.add_zero] at hk
      rw [hk] at hu ⊢
      rw [hg.1] at hu
      cases hu
      rw [Array.getElem?_setIfInBounds_ne (by omega), Array.getElem?_setIfInBounds_ne (by omega)]
      exact hc _ _ hg'.1
    · rw [hk] at hu ⊢
      rw [hg.2] at hu
      cases hu
      rw [Array.getElem?_setIfInBounds_ne (by omega), Array.getElem?_setIfInBounds_ne (by omega)]
      exact hc _ _ hg'.2

/-- A run of stores: the block stays a block. -/
theorem setCells_blk (b : Nat) (e : TypeId) (f : Nat × Nat) : ∀ (vs : List Value) (o : Nat) (w : World) (cur : Array Value), w.heap[b]? = some (.cells cur e f) → ∃ cur' : Array Value, (w.setCells b o vs).heap[b]? = some (.cells cur' e f) ∧ cur'.size = cur.size ∧ ∀ j, j < o → cur'[j]? = cur[j]?
  | [], o, w, cur, h => ⟨cur, h, rfl, fun _ _ => rfl⟩
  | v :: vs, o, w, cur, h => by
    obtain ⟨cur', h1, h2, h3⟩ := setCells_blk b e f vs (o + 1) (w.setCell ⟨b, o, none⟩ v) _ (blk_set h o v)
    refine ⟨cur', h1, by rw [h2]; simp, fun j hj => ?_⟩
    rw [h3 j (by omega), Array.getElem?_setIfInBounds_ne (by omega)]
theorem setCells_touch (b : Nat) : ∀ (vs : List Value) (o : Nat) (w : World), Touch (fun k => k = b) w (w.setCells b o vs)
  | [], _, w => Touch.refl _ w
  | v :: vs, o, w => (show Touch (fun k => k = b) w (w.setCell ⟨b, o, none⟩ v) from Touch.setCell (S := fun k => k = b) (Touch.refl _ w) (p := ⟨b, o, none⟩) (fun _ => rfl) v).trans (setCells_touch b vs (o + 1) _)
theorem run_clear_per (w : World) (ty : TypeId) (b o n c : Nat) (hn : 0 < n) (hc : ∀ j, j < n * 2 → (w.cell? ⟨b, o + j, none⟩).isSome = true) (hf : ∀ j, j < n * 2 → w.frozen? ⟨b, o + j, none⟩ = false) :
    ∃ vs : List Value, (Builtin.clear_ #[43] ty #[.slice (some ⟨b, o, none⟩) n c]).run Try.prog w = .ok (.tuple #[]) (w.setCells b o vs) := by
  have hz : (Value.agg #[.int .i64 0, .int .i64 0]).cells = #[.int .i64 0, .int .i64 0] := rfl
  refine ⟨(Builtin.zeroCells #[.int .i64 0, .int .i64 0] n).toList, ?_⟩
  have hlen : (Builtin.zeroCells #[Value.int .i64 0, .int .i64 0] n).toList.length = n * 2 := by simp [Builtin.zeroCells]
  have hst := run_storeCells_cells (P := Try.prog) b o (Builtin.zeroCells #[Value.int .i64 0, .int .i64 0] n).toList 0 w (by rw [hlen]; simpa using hc) (by rw [hlen]; simpa using hf) (by
    intro v hv'
    simp [Builtin.zeroCells] at hv'
    obtain ⟨i, hi, rfl⟩ := hv'
    have : i % 2 = 0 ∨ i % 2 = 1 := by omega
    rcases this with h | h <;> simp [h, Value.oneCell'])
  simp only [Nat.add_zero] at hst
  obtain ⟨m, rfl⟩ : ∃ m, n = m + 1 := ⟨n - 1, by omega⟩
  have hzv := fun w : World => Try.zeroValue45 w
  simp [Builtin.clear_, run_underlying Try.underlying43, hzv, hz, hst]

/-- append of no element: whatever the slice's address. -/
theorem app_none {P : Program} {w : World} {ops : Array Oper} {rest : List Oper} {o : Oper} {a : Act} {Q : Exit → Act → World → Prop} {t e : TypeId} {size bytes : Nat} (E : EI P t e size bytes) (hgd : o.guard = none) (s x : Operand)
    (ho : o.op = .call { callee := .builtin .append, args := #[s, x], argTypes := #[t, t] })
    {g n cap : Nat} {xs : List Value} (hs : a.eval s = slv (some g) n cap) (hown : Sl w e size (some g) n cap xs) {p : Addr} {c : Nat} (hx : a.eval x = .slice (some p) 0 c) (hb : n * bytes ≤ 140737488355328)
    (h : ∀ g' cap' w', Sl w' e size g' n cap' xs → Touch (fun k => some g = some k) w w' → (g' = some g ∨ g' = some w.heap.size) → wpList P ops Q rest (a.put o.dst (slv g' n cap')) w') : wpList P ops Q (o :: rest) a w := by
  obtain ⟨i, z, hi, hz, h2, h3, h4⟩ := E.info
  have h63 : n + 0 ≤ maxLen := by
    have := Nat.le_mul_of_pos_right n E.bpos
    simp only [maxLen]
    omega
  refine wpList_append_own_at w hgd s x t ho 0 e i z size bytes E.und hi hz h2 h3 h4 E.pos (slv (some g) n cap) n xs hs hown.owns p 0 c [] hx (by simp) (by simp) (by simp) h63 hb (Nat.zero_le _) ?_
  intro v' w' hown' hgr hnil hat
  have hgr' : Touch (fun k => some g = some k) w w' := by
    rw [ownBlock_slv] at hgr
    exact ⟨hgr.os, hgr.tape, hgr.output, hgr.size, fun k hk hn => hgr.block k hk fun e => hn e.symm⟩
  rcases hown'.2 with ⟨rfl, h0⟩ | ⟨g', cap', cur, rfl, _, hgg, h5, h6, h7, h8⟩
  · have := hnil.1 rfl
    simp [slv, adr] at this
  · refine h (some g') cap' w' (by simpa using Sl.of_owns hown') hgr' ?_
    rw [ownBlock_slv] at hat
    exact hat

/-- What the copy gives. -/
def ClonePost (n : Nat) (ps : List Per) (w : World) (e : Ending) (w' : World) : Prop :=
  ∃ g cap', e = .returned (slv g n cap') ∧ PSl w' g n cap' ps ∧ (∀ b, g = some b → w.heap.size ≤ b) ∧ Ext w w'
set_option maxRecDepth 100000 in
set_option maxHeartbeats 8000000 in
theorem Clone_ok (sv : Option Addr) (n cap : Nat) (ps : List Per) (w : World) (hn : ps.length = n) (hp : Pers w sv ps) (hnil : sv = none → n = 0) (hsz : n ≤ 2199023255552) :
    Calls Try.prog 66 #[.slice sv n cap] w (ClonePost n ps w) := by
  cases sv with
  | none =>
    obtain rfl := hnil rfl
    have hps : ps = [] := List.eq_nil_of_length_eq_zero hn
    subst hps
    have hnl : ∀ u : World, (binOp .eql 43 (.slice none 0 cap) (.slice none 0 0)).run Try.prog u = .ok (.bool true) u := fun u => Lib.run_eql_slice_nil u _ _ none 0 cap 0 0 Try.underlying43
    go_enter Try.func66, Try.ntmps66
    go_wp2
    go_ret
    exact ⟨none, 0, rfl, Sl.nil _ _ _, by simp, Ext.refl _⟩
  | some p =>
    have hempty : ∀ u : World, Sl (u.alloc (.cells #[] 45)) 45 2 (some u.heap.size) 0 0 [] := fun u => ⟨by simp, #[], blk_new u _, Nat.le_refl _, by simp [maxLen], rfl, rfl⟩
    have hnl : ∀ u : World, (binOp .eql 43 (.slice (some p) n cap) (.slice none 0 0)).run Try.prog u = .ok (.bool false) u := fun u => Lib.run_eql_slice_nil u _ _ (some p) n cap 0 0 Try.underlying43
    go_enter Try.func66, Try.ntmps66
    go_wp2_with (at_builtin; refine (fun (h : True → _) => h trivial) ?_)
    intro _
    by_cases hn0 : n = 0
    · subst hn0
      have hps : ps = [] := List.eq_nil_of_length_eq_zero hn
      subst hps
      refine app_none ei_per rfl (.tmp 5) (.tmp 6) rfl (g := w.heap.size) (n := 0) (cap := 0) (by rfl) (hempty w) (by rfl) (by omega) ?_
      intro g5 cap5 w5 hS5 hT5 hat5
      clear hnl hempty
      go_wp2
      go_ret
      refine ⟨g5, cap5, rfl, hS5, ?_, Touch.freshX ((Ext.refl w).alloc _) hT5 (fun k hk => by cases hk; exact Nat.le_refl _)⟩
      intro b hb
      subst hb
      rcases hat5 with h | h
      · cases h; exact Nat.le_refl _
      · cases h; simp
    · obtain ⟨lb, off, hsv, hcell⟩ := hp (by omega)
      cases hsv
      have hcl : ∀ j u, (flatQ ps)[j]? = some u → (w.alloc (.cells #[] 45)).cell? ⟨lb, off + j, none⟩ = some u := by
        intro j u hu
        refine Ext.cell ((Ext.refl w).alloc _) ?_
        have hj : j < ps.length * 2 := by rw [← flatQ_len]; exact (List.getElem?_eq_some_iff.1 hu).1
        obtain ⟨k, r, hk, hr⟩ : ∃ k r, j = k * 2 + r ∧ r < 2 := ⟨j / 2, j % 2, by omega, by omega⟩
        have hkl : k < ps.length := by omega
        have hg := flatQ_get ps k _ (List.getElem?_eq_getElem hkl)
        have hc := hcell k _ (List.getElem?_eq_getElem hkl)
        obtain rfl | rfl : r = 0 ∨ r = 1 := by omega
        · rw [Nat.add_zero] at hk
          rw [hk] at hu ⊢
          rw [hg.1] at hu; cases hu; exact hc.1
        · rw [hk] at hu ⊢
          rw [hg.2] at hu; cases hu
          rw [← Nat.add_assoc]; exact hc.2
      refine app_from ei_per rfl (.tmp 5) (.tmp 6) rfl (g := some w.heap.size) (n := 0) (cap := 0) (by rfl) (hempty w) (b := lb) (off := off) (m := n) (c := cap) (news := flatQ ps) (by rfl) (by rw [flatQ_len, hn]) hcl ?_ (by omega) (by omega) ?_
      · intro u hu
        obtain ⟨j, hj, rfl⟩ := List.getElem_of_mem hu
        have hj2 : j < ps.length * 2 := by rw [← flatQ_len]; exact hj
        obtain ⟨k, r, hk, hr⟩ : ∃ k r, j = k * 2 + r ∧ r < 2 := ⟨j / 2, j % 2, by omega, by omega⟩
        have hg := flatQ_get ps k _ (List.getElem?_eq_getElem (show k < ps.length by omega))
        have hg3 := List.getElem?_eq_getElem hj
        obtain rfl | rfl : r = 0 ∨ r = 1 := by omega
        · rw [Nat.add_zero] at hk
          subst hk
          rw [hg.1] at hg3
          rw [← Option.some.inj hg3]; rfl
        · subst hk
          rw [hg.2] at hg3
          rw [← Option.some.inj hg3]; rfl
      · intro g5 cap5 w5 hS5 hT5 hat5
        rw [Nat.zero_add] at hS5 ⊢
        clear hnl hempty hcl hcell
        go_wp2
        go_ret
        refine ⟨some g5, cap5, rfl, by simpa using hS5, ?_, Touch.freshX ((Ext.refl w).alloc _) hT5 (fun k hk => by cases hk; exact Nat.le_refl _)⟩
        intro b hb
        cases hb
        rcases hat5 with h | h
        · cases h; exact Nat.le_refl _
        · rw [h]; simp
end Go.Proofs.Ytkejjahlglldlaa
