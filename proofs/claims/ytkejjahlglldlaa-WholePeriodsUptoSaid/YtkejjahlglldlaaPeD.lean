/- period.Edges: walked. -/
import Derived.Test.YtkejjahlglldlaaPe5
import Derived.Test.YtkejjahlglldlaaPeC
namespace Go.Proofs.Ytkejjahlglldlaa
open Go.RowKit Go.Shelf Go.Lib Go.Sort

abbrev intsV (es : List Int) : List Value := es.map (Value.int .i64)
theorem ei_int64 : EI Try.prog 46 2 1 8 :=
  ⟨Try.underlying46, by
    obtain ⟨i, h1, h2, h3, h4⟩ := info_parts (P := Try.prog) (e := 2) (z := .int .i64 0) (size := 1) (bytes := 8) (by kernel_rfl)
    exact ⟨i, _, h1, h2, h3, h4, rfl⟩, by omega, by omega⟩
abbrev ISl (w : World) (g : Option Nat) (n cap : Nat) (es : List Int) : Prop := Sl w 2 1 g n cap (intsV es)
theorem ISl.count {w : World} {g : Option Nat} {n cap : Nat} {es : List Int} (h : ISl w g n cap es) : es.length = n := by
  have hl := h.len
  simpa using hl
theorem ISl.holds {w : World} {b n cap : Nat} {es : List Int} (h : ISl w (some b) n cap es) : Holds (Value.int .i64) w b 0 es.toArray := by
  intro j hj
  have hj' : j < es.length := by simpa using hj
  obtain ⟨cur, hb, hs, hc⟩ := h.raw
  refine ⟨?_, blk_frozen hb _⟩
  have := h.cell (j := j) (u := .int .i64 (es[j]'hj')) (by simp [hj'])
  rw [getElem!_pos es.toArray j hj]
  simpa using this
theorem ISl.put {w : World} {b n cap : Nat} {es : List Int} (h : ISl w (some b) n cap es) (d : Array Int) (hd : d.size = n) (q : Nat) (os : Array Obj) (L : List Int) (hL : L.length ≤ n) (hLd : ∀ (j : Nat) (x : Int), L[j]? = some x → d[j]? = some x) :
    ISl (grow (putRow (Value.int .i64) (Sort.ahead w q) b 0 d) os) (some b) L.length cap L ∧ Touch (fun j => j = b) w (grow (putRow (Value.int .i64) (Sort.ahead w q) b 0 d) os) := by
  obtain ⟨cur, hb, hs, hc⟩ := h.raw
  have hle := h.le
  have hsz : (putRow (Value.int .i64) (Sort.ahead w q) b 0 d).heap.size = w.heap.size := by simp [putRow, mapBlock, Sort.ahead]
  constructor
  · refine Sl.of_cells h hL (cur' := putCells (Value.int .i64) 0 d cur) ?_ (by simp [putCells, hs]) (by simp) ?_
    · rw [heap_grow_old _ _ (by rw [hsz]; exact blk_lt hb)]
      have hb' : (Sort.ahead w q).heap[b]? = some (.cells cur 2 (0, 0)) := hb
      simp [putRow, mapBlock, Array.getElem?_modify, hb', onCells]
      exact ⟨_, hb, rfl⟩
    · intro j u hu
      simp only [intsV, List.getElem?_map, Option.map_eq_some_iff] at hu
      obtain ⟨x, hx, rfl⟩ := hu
      have hdj := hLd j x hx
      have hj : j < d.size := (Array.getElem?_eq_some_iff.1 hdj).1
      have hjc : j < cur.size := by omega
      unfold putCells
      rw [Array.getElem?_mapIdx, Array.getElem?_eq_getElem hjc]
      simp only [Option.map_some, Nat.zero_le, true_and, Nat.zero_add, Nat.sub_zero, hj, if_true, Option.some.injEq]
      rw [getElem!_pos d j hj]
      rw [Array.getElem?_eq_getElem hj] at hdj
      rw [Option.some.inj hdj]
  · refine ⟨rfl, rfl, rfl, by rw [size_grow, hsz]; exact Nat.le_add_right _ _, fun j hj hn => ?_⟩
    rw [heap_grow_old _ _ (by rw [hsz]; exact hj)]
    have hn' : ¬ b = j := fun e => hn e.symm
    simp [putRow, mapBlock, Array.getElem?_modify, hn', Sort.ahead]

theorem compact_spec (d : Array Int) (hs : ∀ i j, i < j → j < d.size → d[i]! ≤ d[j]!) : ∀ m, m ≤ d.size → ((compactUpTo d m).Pairwise fun a b => a < b) ∧ ∀ x, x ∈ compactUpTo d m ↔ ∃ j, j < m ∧ d[j]! = x
  | 0, _ => ⟨by simp [compactUpTo], by simp [compactUpTo]⟩
  | m + 1, h => by
    obtain ⟨h1, h2⟩ := compact_spec d hs m (by omega)
    rw [compactUpTo_succ]
    by_cases hk : keeps d m = true
    · rw [if_pos hk]
      have hk' : m = 0 ∨ d[m]! ≠ d[m - 1]! := by simpa [keeps] using hk
      refine ⟨List.pairwise_append.2 ⟨h1, by simp, fun a ha b hb => ?_⟩, fun x => ?_⟩
      · rw [List.mem_singleton.1 hb]
        obtain ⟨j, hj, rfl⟩ := (h2 a).1 ha
        rcases hk' with hk' | hk'
        · omega
        · have k1 := hs (m - 1) m (by omega) (by omega)
          by_cases hjm : j = m - 1
          · subst hjm; omega
          · have k2 := hs j (m - 1) (by omega) (by omega)
            omega
      · rw [List.mem_append, h2, List.mem_singleton]
        constructor
        · rintro (⟨j, hj, e⟩ | e)
          · exact ⟨j, by omega, e⟩
          · exact ⟨m, by omega, e.symm⟩
        · rintro ⟨j, hj, e⟩
          by_cases hjm : j = m
          · subst hjm; exact .inr e.symm
          · exact .inl ⟨j, by omega, e⟩
    · rw [if_neg hk, List.append_nil]
      have hk' : ¬ (m = 0 ∨ d[m]! ≠ d[m - 1]!) := by simpa [keeps] using hk
      have hm0 : m ≠ 0 := fun e => hk' (.inl e)
      have he : d[m]! = d[m - 1]! := Classical.byContradiction fun e => hk' (.inr e)
      refine ⟨h1, fun x => ?_⟩
      rw [h2]
      constructor
      · rintro ⟨j, hj, e⟩; exact ⟨j, by omega, e⟩
      · rintro ⟨j, hj, e⟩
        by_cases hjm : j = m
        · subst hjm; exact ⟨j - 1, by omega, by rw [← he]; exact e⟩
        · exact ⟨j, by omega, e⟩

theorem sortI_ok (g : Option Nat) (m cap : Nat) (es : List Int) (w : World) (h : ISl w g m cap es) (hsz : m ≤ 4398046511104) :
    Calls Try.prog 59 #[slv g m cap] w (fun e w' => e = .returned (.tuple #[]) ∧ ISl w' g m cap (es.mergeSort fun x y => decide (x ≤ y)) ∧ Touch (fun k => g = some k) w w') := by
  have hc := h.count
  cases g with
  | none =>
    obtain ⟨_, rfl, rfl⟩ := h
    have hes : es = [] := List.eq_nil_of_length_eq_zero hc
    subst hes
    refine (Try.slices_Sort_int_none none 0 w).mono ?_
    rintro e w' ⟨rfl, rfl⟩
    exact ⟨rfl, by rw [List.mergeSort_nil]; exact Sl.nil _ _ _, Touch.refl _ _⟩
  | some b =>
    have hcon := Try.slices_Sort_int b 0 cap es w h.holds h.block_lt (by omega)
    rw [hc] at hcon
    refine Calls.mono (show Calls Try.prog 59 _ _ _ from hcon) ?_
    rintro e w' ⟨rfl, q, os, rfl⟩
    have hl : (es.mergeSort fun x y => decide (x ≤ y)).length = m := by rw [List.length_mergeSort, hc]
    obtain ⟨h1, h2⟩ := ISl.put h (es.mergeSort fun x y => decide (x ≤ y)).toArray (by simpa using hl) q os (es.mergeSort fun x y => decide (x ≤ y)) (by omega) (fun j x hx => by simpa using hx)
    rw [hl] at h1
    exact ⟨rfl, h1, h2.mono fun k _ e => by rw [e]⟩
set_option maxHeartbeats 4000000 in
theorem compactI_ok (g : Option Nat) (m cap : Nat) (es : List Int) (w : World) (h : ISl w g m cap es) (hs : es.Pairwise fun a b => a ≤ b) (hsz : m ≤ 4398046511104) :
    Calls Try.prog 93 #[slv g m cap] w (fun e w' => ∃ m' es', e = .returned (slv g m' cap) ∧ ISl w' g m' cap es' ∧ m' ≤ m ∧ es'.Pairwise (fun a b => a < b) ∧ (∀ x, x ∈ es' ↔ x ∈ es) ∧ Touch (fun k => g = some k) w w') := by
  have hc := h.count
  cases g with
  | none =>
    obtain ⟨_, rfl, rfl⟩ := h
    have hes : es = [] := List.eq_nil_of_length_eq_zero hc
    subst hes
    go_enter Try.func93, Try.ntmps93
    go_wp2
    go_ret
    exact ⟨0, [], rfl, Sl.nil _ _ _, Nat.le_refl _, List.Pairwise.nil, by simp, Touch.refl _ _⟩
  | some b =>
    have hd : es.toArray.size = m := by simpa using hc
    have hcon := Try.slices_Compact (Value.int .i64) (fun _ => rfl) (EqlAt.intD _ _ .i64) (NeqAt.intD _ _ .i64) 0 Try.zeroValue2 b 0 cap es.toArray w h.holds (by omega) (by rw [hd]; exact h.le)
    rw [hd] at hcon
    refine Calls.mono (show Calls Try.prog 93 _ _ _ from hcon) ?_
    rintro e w' ⟨rfl, q, rfl⟩
    have hget : ∀ i, i < m → es.toArray[i]! = es[i]! := fun i hi => by
      rw [getElem!_pos es.toArray i (by omega), getElem!_pos es i (by omega)]; simp
    obtain ⟨k1, k2⟩ := compact_spec es.toArray (fun i j hij hj => by
      rw [hd] at hj
      rw [hget i (by omega), hget j hj, getElem!_pos es i (by omega), getElem!_pos es j (by omega)]
      exact List.pairwise_iff_getElem.1 hs i j _ _ hij) m (by omega)
    have hlen : (compactUpTo es.toArray m).length ≤ m := by
      unfold compactUpTo
      rw [List.length_map]
      have := List.length_filter_le (keeps es.toArray) (List.range m)
      rw [List.length_range] at this
      exact this
    generalize hL : compactUpTo es.toArray m = L at *
    obtain ⟨h1, h2⟩ := ISl.put h (L ++ List.replicate (m - L.length) 0).toArray (by simp; omega) q #[] L hlen (fun j x hx => by
      have hj : j < L.length := (List.getElem?_eq_some_iff.1 hx).1
      rw [← hx]
      simp [List.getElem?_append_left hj])
    rw [grow_empty] at h1 h2
    refine ⟨L.length, L, rfl, h1, hlen, k1, fun x => ?_, h2.mono fun k _ e => by rw [e]⟩
    rw [k2]
    constructor
    · rintro ⟨j, hj, rfl⟩
      rw [hget j hj, getElem!_pos es j (by omega)]
      exact List.getElem_mem _
    · intro hx
      obtain ⟨j, hj, rfl⟩ := List.getElem_of_mem hx
      exact ⟨j, by omega, by rw [hget j (by omega), getElem!_pos es j hj]⟩

theorem ends_take {ps : List Per} {i : Nat} {x y : Int} (h : ps[i]? = some (x, y)) : endsL (ps.take (i + 1)) = if okP (x, y) then endsL (ps.take i) ++ [x, y] else endsL (ps.take i) := by
  unfold endsL okL
  rw [List.take_add_one, h, List.filter_append, List.flatMap_append]
  split
  · rename_i hk; simp [hk]
  · rename_i hk; simp [hk]
/-- What Edges gives. -/
def EdgPost (ps : List Per) (w : World) (e : Ending) (w' : World) : Prop :=
  ∃ g m cap es, e = .returned (slv g m cap) ∧ ISl w' g m cap es ∧ IsEdges ps es ∧ m ≤ 2 * ps.length ∧ (∀ b, g = some b → w.heap.size ≤ b) ∧ Ext w w'
def EdgInv (W : World) (ps : List Per) (n gk : Nat) (v3 v8 : Value) (wr : World) : Prop :=
  ∃ (i m : Nat) (g : Option Nat) (cap : Nat), i + gk = n ∧ v8 = .int .i64 (i : Int) ∧ v3 = slv g m cap ∧ ISl wr g m cap (endsL (ps.take i)) ∧ m ≤ 2 * i ∧ (∀ b, g = some b → W.heap.size ≤ b) ∧ Ext W wr
set_option maxRecDepth 100000 in
set_option maxHeartbeats 16000000 in
theorem Edges_ok (g : Option Nat) (n cap : Nat) (ps : List Per) (w : World) (hS : PSl w g n cap ps) (hn : n ≤ 2199023255552) :
    Calls Try.prog 98 #[slv g n cap] w (EdgPost ps w) := by
  have HS := Lib.hid hS; clear hS
  have HN := Lib.hid HS.out.count
  go_enter Try.func98, Try.ntmps98
  go_wp2
  go_loopg [3, 8] n (fun gk v3 v8 wr => EdgInv w ps n gk v3 v8 wr)
  case atStart => exact ⟨0, 0, none, 0, by omega, rfl, rfl, Sl.nil _ _ _, by omega, by simp, Ext.refl _⟩
  case round =>
    obtain ⟨i, m, g2, cap2, hik, rfl, rfl, hI, hmi, hg, hE⟩ := hrel
    have HIK := Lib.hid hik; clear hik
    have HI := Lib.hid hI; clear hI
    have HG := Lib.hid hg; clear hg
    have HE := Lib.hid hE; clear hE
    by_cases hlt : i < n
    · obtain ⟨b, x, y, e1, l1, p1, c0, c1⟩ := PSl.at' (HS.out.ext HE.out) hlt
      have z1 := fun u => run_index_slv ei_per (cap := cap) e1 hlt u
      have HH := Lib.hid (ends_take p1)
      clear p1 e1
      by_cases hok : okP (x, y)
      · have HH2 := Lib.hid (HH.out.trans (if_pos hok))
        clear HH
        go_wp2_with fail
        refine (Check_yes (x, y) _ hok).mono ?_
        rintro e w2 ⟨rfl, hE2⟩
        have HE2 : Hid (Ext wr w2) := (((Ext.refl wr).alloc _)).trans hE2
        have hb2 : w2.heap[wr.heap.size]? = _ := Ext.block hE2 (blk_new wr _)
        obtain ⟨d0, d1⟩ := blk2 hb2
        clear hE2 hb2 hok
        go_wp2_with (at_builtin; refine (fun (h : True → _) => h trivial) ?_)
        intro _
        have hnew := blk_new w2 (.cells #[.int .i64 x, .int .i64 y] 2)
        refine app_from ei_int64 rfl (.tmp 15) (.tmp 20) rfl (g := g2) (n := m) (cap := cap2) (by rfl) (HI.out.ext (HE2.out.alloc _)) (b := w2.heap.size) (off := 0) (m := 2) (c := 2) (news := [.int .i64 x, .int .i64 y]) (by rfl) rfl ?_ ?_ (by omega) (by omega) ?_
        · intro j u hu
          rw [Nat.zero_add]
          exact blk_cell hnew (by simpa using hu)
        · intro u hu
          simp at hu
          rcases hu with rfl | rfl <;> rfl
        intro g5 cap5 w5 hS5 hT5 hat5
        have hI5 : ISl w5 (some g5) (m + 2) cap5 (endsL (ps.take (i + 1))) := by
          show Sl _ _ _ _ _ _ _
          rw [HH2.out, intsV, List.map_append]
          exact hS5
        have HI5 := Lib.hid hI5
        have HG5 : Hid (∀ b, some g5 = some b → w.heap.size ≤ b) := by
          intro k hk
          cases hk
          rcases hat5 with h | h
          · exact HG.out _ h
          · have := HE.out.size; have := HE2.out.size; simp at h; omega
        have HE5 : Hid (Ext w w5) := Touch.freshX ((HE.out.trans HE2.out).alloc _) hT5 (fun k hk => HG.out k hk)
        clear hS5 hT5 hat5 hI5 d0 d1 hnew
        go_wp2
        go_roundg (gk - 1)
        case measure => have := HIK.out; omega
        case rel => exact ⟨i + 1, m + 2, some g5, cap5, by have := HIK.out; omega, by go_num, rfl, HI5.out, by omega, HG5.out, HE5.out⟩
      · have HH2 := Lib.hid (HH.out.trans (if_neg hok))
        clear HH
        go_wp2_with fail
        refine (Check_no (x, y) _ hok).mono ?_
        rintro e w2 ⟨rfl, hE2⟩
        have HE2 : Hid (Ext wr w2) := (((Ext.refl wr).alloc _)).trans hE2
        clear hE2 hok
        go_wp2
        go_roundg (gk - 1)
        case measure => have := HIK.out; omega
        case rel => exact ⟨i + 1, m, g2, cap2, by have := HIK.out; omega, by go_num, rfl, by rw [HH2.out]; exact HI.out.ext HE2.out, by omega, HG.out, HE.out.trans HE2.out⟩
    · have hin : i = n := by have := HIK.out; omega
      subst hin
      have hI2 := HI.out
      rw [List.take_of_length_le (by rw [HN.out]; exact Nat.le_refl _)] at hI2
      have HI2 := Lib.hid hI2
      clear hI2
      go_wp2_with fail
      refine (sortI_ok g2 m cap2 _ _ HI2.out (by omega)).mono ?_
      rintro e w2 ⟨rfl, hI3, hT3⟩
      have HI3 := Lib.hid hI3
      have HE3 := Lib.hid (Touch.freshX HE.out hT3 (fun k hk => HG.out k hk))
      have hsort : ((endsL ps).mergeSort fun x y => decide (x ≤ y)).Pairwise fun a b => a ≤ b := by
        have := List.pairwise_mergeSort (le := fun x y : Int => decide (x ≤ y)) (fun a b c h1 h2 => by simp at *; omega) (fun a b => by simp; omega) (endsL ps)
        exact this.imp fun h => by simpa using h
      have HSORT := Lib.hid hsort
      clear hI3 hT3 hsort
      go_wp2_with fail
      refine (compactI_ok g2 m cap2 _ _ HI3.out HSORT.out (by omega)).mono ?_
      rintro e w3 ⟨m', es', rfl, hI4, hm', hup, hmem, hT4⟩
      have HI4 := Lib.hid hI4
      have HE4 := Lib.hid (Touch.freshX HE3.out hT4 (fun k hk => HG.out k hk))
      have HED : Hid (IsEdges ps es') := ⟨hup, fun x => by rw [hmem x, List.mem_mergeSort]⟩
      clear hI4 hup hmem hT4
      go_wp2
      go_ret
      exact ⟨g2, m', cap2, es', rfl, HI4.out, HED.out, by rw [HN.out]; omega, HG.out, HE4.out⟩
end Go.Proofs.Ytkejjahlglldlaa
