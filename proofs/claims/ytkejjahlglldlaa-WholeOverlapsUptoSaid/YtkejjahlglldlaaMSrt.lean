/- slices.Sort and slices.Compact at int64, out of the kit's contracts. -/
import Derived.Test.YtkejjahlglldlaaMC
import Derived.Test.YtkejjahlglldlaaMShf
import Derived.Test.YtkejjahlglldlaaMRi1
namespace Go.Proofs.Ytkejjahlglldlaa
open Go.RowKit Go.Shelf Go.Lib Go.Sort

abbrev intsV (es : List Int) : List Value := es.map (Value.int .i64)
abbrev ISl (w : World) (g : Option Nat) (n cap : Nat) (es : List Int) : Prop := Sl w 2 1 g n cap (intsV es)
theorem ISl.count {w : World} {g : Option Nat} {n cap : Nat} {es : List Int} (h : ISl w g n cap es) : es.length = n := by
  have hl := h.len
  simpa using hl
theorem ISl.holds {w : World} {b n cap : Nat} {es : List Int} (h : ISl w (some b) n cap es) : Holds (Value.int .i64) w b 0 es.toArray := by
  intro j hj
  have hj' : j < es.length := by simpa using hj
  obtain ⟨cur, hb, hs, hc⟩ := h.raw
  refine ⟨?_, blk_frozen hb _⟩
  have := h.cell (j := j) (u := .int .i64 (es[j]'hj')) (by simp [hj'])
  rw [getElem!_pos es.toArray j hj]
  simpa using this
theorem ISl.put {w : World} {b n cap : Nat} {es : List Int} (h : ISl w (some b) n cap es) (d : Array Int) (hd : d.size = n) (q : Nat) (os : Array Obj) (L : List Int) (hL : L.length ≤ n) (hLd : ∀ (j : Nat) (x : Int), L[j]? = some x → d[j]? = some x) :
    ISl (grow (putRow (Value.int .i64) (Sort.ahead w q) b 0 d) os) (some b) L.length cap L ∧ Touch (fun j => j = b) w (grow (putRow (Value.int .i64) (Sort.ahead w q) b 0 d) os) := by
  obtain ⟨cur, hb, hs, hc⟩ := h.raw
  have hle := h.le
  have hsz : (putRow (Value.int .i64) (Sort.ahead w q) b 0 d).heap.size = w.heap.size := by simp [putRow, mapBlock, Sort.ahead]
  constructor
  · refine Sl.of_cells h hL (cur' := putCells (Value.int .i64) 0 d cur) ?_ (by simp [putCells, hs]) (by simp) ?_
    · rw [heap_grow_old _ _ (by rw [hsz]; exact blk_lt hb)]
      have hb' : (Sort.ahead w q).heap[b]? = some (.cells cur 2 (0, 0)) := hb
      simp [putRow, mapBlock, Array.getElem?_modify, hb', onCells]
      exact ⟨_, hb, rfl⟩
    · intro j u hu
      simp only [intsV, List.getElem?_map, Option.map_eq_some_iff] at hu
      obtain ⟨x, hx, rfl⟩ := hu
      have hdj := hLd j x hx
      have hj : j < d.size := (Array.getElem?_eq_some_iff.1 hdj).1
      have hjc : j < cur.size := by omega
      unfold putCells
      rw [Array.getElem?_mapIdx, Array.getElem?_eq_getElem hjc]
      simp only [Option.map_some, Nat.zero_le, true_and, Nat.zero_add, Nat.sub_zero, hj, if_true, Option.some.injEq]
      rw [getElem!_pos d j hj]
      rw [Array.getElem?_eq_getElem hj] at hdj
      rw [Option.some.inj hdj]
  · refine ⟨rfl, rfl, rfl, by rw [size_grow, hsz]; exact Nat.le_add_right _ _, fun j hj hn => ?_⟩
    rw [heap_grow_old _ _ (by rw [hsz]; exact hj)]
    have hn' : ¬ b = j := fun e => hn e.symm
    simp [putRow, mapBlock, Array.getElem?_modify, hn', Sort.ahead]

theorem compact_spec (d : Array Int) (hs : ∀ i j, i < j → j < d.size → d[i]! ≤ d[j]!) : ∀ m, m ≤ d.size → ((compactUpTo d m).Pairwise fun a b => a < b) ∧ ∀ x, x ∈ compactUpTo d m ↔ ∃ j, j < m ∧ d[j]! = x
  | 0, _ => ⟨by simp [compactUpTo], by simp [compactUpTo]⟩
  | m + 1, h => by
    obtain ⟨h1, h2⟩ := compact_spec d hs m (by omega)
    rw [compactUpTo_succ]
    by_cases hk : keeps d m = true
    · rw [if_pos hk]
      have hk' : m = 0 ∨ d[m]! ≠ d[m - 1]! := by simpa [keeps] using hk
      refine ⟨List.pairwise_append.2 ⟨h1, by simp, fun a ha b hb => ?_⟩, fun x => ?_⟩
      · rw [List.mem_singleton.1 hb]
        obtain ⟨j, hj, rfl⟩ := (h2 a).1 ha
        rcases hk' with hk' | hk'
        · omega
        · have k1 := hs (m - 1) m (by omega) (by omega)
          by_cases hjm : j = m - 1
          · subst hjm; omega
          · have k2 := hs j (m - 1) (by omega) (by omega)
            omega
      · rw [List.mem_append, h2, List.mem_singleton]
        constructor
        · rintro (⟨j, hj, e⟩ | e)
          · exact ⟨j, by omega, e⟩
          · exact ⟨m, by omega, e.symm⟩
        · rintro ⟨j, hj, e⟩
          by_cases hjm : j = m
          · subst hjm; exact .inr e.symm
          · exact .inl ⟨j, by omega, e⟩
    · rw [if_neg hk, List.append_nil]
      have hk' : ¬ (m = 0 ∨ d[m]! ≠ d[m - 1]!) := by simpa [keeps] using hk
      have hm0 : m ≠ 0 := fun e => hk' (.inl e)
      have he : d[m]! = d[m - 1]! := Classical.byContradiction fun e => hk' (.inr e)
      refine ⟨h1, fun x => ?_⟩
      rw [h2]
      constructor
      · rintro ⟨j, hj, e⟩; exact ⟨j, by omega, e⟩
      · rintro ⟨j, hj, e⟩
        by_cases hjm : j = m
        · subst hjm; exact ⟨j - 1, by omega, by rw [← he]; exact e⟩
        · exact ⟨j, by omega, e⟩

theorem sortI_ok (g : Option Nat) (m cap : Nat) (es : List Int) (w : World) (h : ISl w g m cap es) (hsz : m ≤ 4398046511104) :
    Calls Try.prog 59 #[slv g m cap] w (fun e w' => e = .returned (.tuple #[]) ∧ ISl w' g m cap (es.mergeSort fun x y => decide (x ≤ y)) ∧ Touch (fun k => g = some k) w w') := by
  have hc := h.count
  cases g with
  | none =>
    obtain ⟨_, rfl, rfl⟩ := h
    have hes : es = [] := List.eq_nil_of_length_eq_zero hc
    subst hes
    refine (Try.slices_Sort_int_none none 0 w).mono ?_
    rintro e w' ⟨rfl, rfl⟩
    exact ⟨rfl, by rw [List.mergeSort_nil]; exact Sl.nil _ _ _, Touch.refl _ _⟩
  | some b =>
    have hcon := Try.slices_Sort_int b 0 cap es w h.holds h.block_lt (by omega)
    rw [hc] at hcon
    refine Calls.mono (show Calls Try.prog 59 _ _ _ from hcon) ?_
    rintro e w' ⟨rfl, q, os, rfl⟩
    have hl : (es.mergeSort fun x y => decide (x ≤ y)).length = m := by rw [List.length_mergeSort, hc]
    obtain ⟨h1, h2⟩ := ISl.put h (es.mergeSort fun x y => decide (x ≤ y)).toArray (by simpa using hl) q os (es.mergeSort fun x y => decide (x ≤ y)) (by omega) (fun j x hx => by simpa using hx)
    rw [hl] at h1
    exact ⟨rfl, h1, h2.mono fun k _ e => by rw [e]⟩
set_option maxHeartbeats 4000000 in
theorem compactI_ok (g : Option Nat) (m cap : Nat) (es : List Int) (w : World) (h : ISl w g m cap es) (hs : es.Pairwise fun a b => a ≤ b) (hsz : m ≤ 4398046511104) :
    Calls Try.prog 93 #[slv g m cap] w (fun e w' => ∃ m' es', e = .returned (slv g m' cap) ∧ ISl w' g m' cap es' ∧ m' ≤ m ∧ es'.Pairwise (fun a b => a < b) ∧ (∀ x, x ∈ es' ↔ x ∈ es) ∧ Touch (fun k => g = some k) w w') := by
  have hc := h.count
  cases g with
  | none =>
    obtain ⟨_, rfl, rfl⟩ := h
    have hes : es = [] := List.eq_nil_of_length_eq_zero hc
    subst hes
    go_enter Try.func93, Try.ntmps93
    go_wp2
    go_ret
    exact ⟨0, [], rfl, Sl.nil _ _ _, Nat.le_refl _, List.Pairwise.nil, by simp, Touch.refl _ _⟩
  | some b =>
    have hd : es.toArray.size = m := by simpa using hc
    have hcon := Try.slices_Compact (Value.int .i64) (fun _ => rfl) (EqlAt.intD _ _ .i64) (NeqAt.intD _ _ .i64) 0 Try.zeroValue2 b 0 cap es.toArray w h.holds (by omega) (by rw [hd]; exact h.le)
    rw [hd] at hcon
    refine Calls.mono (show Calls Try.prog 93 _ _ _ from hcon) ?_
    rintro e w' ⟨rfl, q, rfl⟩
    have hget : ∀ i, i < m → es.toArray[i]! = es[i]! := fun i hi => by
      rw [getElem!_pos es.toArray i (by omega), getElem!_pos es i (by omega)]; simp
    obtain ⟨k1, k2⟩ := compact_spec es.toArray (fun i j hij hj => by
      rw [hd] at hj
      rw [hget i (by omega), hget j hj, getElem!_pos es i (by omega), getElem!_pos es j (by omega)]
      exact List.pairwise_iff_getElem.1 hs i j _ _ hij) m (by omega)
    have hlen : (compactUpTo es.toArray m).length ≤ m := by
      unfold compactUpTo
      rw [List.length_map]
      have := List.length_filter_le (keeps es.toArray) (List.range m)
      rw [List.length_range] at this
      exact this
    generalize hL : compactUpTo es.toArray m = L at *
    obtain ⟨h1, h2⟩ := ISl.put h (L ++ List.replicate (m - L.length) 0).toArray (by simp; omega) q #[] L hlen (fun j x hx => by
      have hj : j < L.length := (List.getElem?_eq_some_iff.1 hx).1
      rw [← hx]
      simp [List.getElem?_append_left hj])
    rw [grow_empty] at h1 h2
    refine ⟨L.length, L, rfl, h1, hlen, k1, fun x => ?_, h2.mono fun k _ e => by rw [e]⟩
    rw [k2]
    constructor
    · rintro ⟨j, hj, rfl⟩
      rw [hget j hj, getElem!_pos es j (by omega)]
      exact List.getElem_mem _
    · intro hx
      obtain ⟨j, hj, rfl⟩ := List.getElem_of_mem hx
      exact ⟨j, by omega, by rw [hget j (by omega), getElem!_pos es j hj]⟩

end Go.Proofs.Ytkejjahlglldlaa
