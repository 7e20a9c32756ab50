/- slices.Insert, slices.Clone at texts, numbers, nodes; slices.BinarySearch at texts: walked over owned slices. -/
import Derived.Test.YtkejjahlglldlaaMB1
import Derived.Shelf.Spec.SlicesInsertGrow
namespace Go.Proofs.Ytkejjahlglldlaa
open Go.RowKit Go.Lib

theorem ei_string : EI Try.prog 79 9 1 16 :=
  ⟨Try.underlying79, by
    obtain ⟨i, h1, h2, h3, h4⟩ := info_parts (P := Try.prog) (e := 9) (z := .string ⟨#[]⟩) (size := 1) (bytes := 16) (by kernel_rfl)
    exact ⟨i, _, h1, h2, h3, h4, rfl⟩, by omega, by omega⟩
theorem ei_int64 : EI Try.prog 46 2 1 8 :=
  ⟨Try.underlying46, by
    obtain ⟨i, h1, h2, h3, h4⟩ := info_parts (P := Try.prog) (e := 2) (z := .int .i64 0) (size := 1) (bytes := 8) (by kernel_rfl)
    exact ⟨i, _, h1, h2, h3, h4, rfl⟩, by omega, by omega⟩
theorem ei_node : EI Try.prog 80 78 1 8 :=
  ⟨Try.underlying80, by
    obtain ⟨i, h1, h2, h3, h4⟩ := info_parts (P := Try.prog) (e := 78) (z := .pointer none) (size := 1) (bytes := 8) (by kernel_rfl)
    exact ⟨i, _, h1, h2, h3, h4, rfl⟩, by omega, by omega⟩
/-- Cells of a block written in a row. -/
def sets (cs : Array Value) : Nat → List Value → Array Value
  | _, [] => cs
  | o, v :: r => sets (cs.setIfInBounds o v) (o + 1) r
theorem blk_sets {b : Nat} {t : TypeId} {f : Nat × Nat} : ∀ (vs : List Value) (o : Nat) (cs : Array Value) (w : World), w.heap[b]? = some (.cells cs t f) → (w.setCells b o vs).heap[b]? = some (.cells (sets cs o vs) t f)
  | [], _, _, _, h => h
  | v :: r, o, cs, w, h => blk_sets r (o + 1) _ _ (blk_set h o v)
theorem sets_size : ∀ (vs : List Value) (o : Nat) (cs : Array Value), (sets cs o vs).size = cs.size
  | [], _, _ => rfl
  | v :: r, o, cs => by rw [sets, sets_size]; simp
theorem sets_list : ∀ (vs : List Value) (o : Nat) (cs : Array Value), o + vs.length ≤ cs.size → (sets cs o vs).toList = cs.toList.take o ++ vs ++ cs.toList.drop (o + vs.length)
  | [], o, cs, _ => by simp [sets]
  | v :: r, o, cs, h => by
    simp only [List.length_cons] at h
    have ho : o < cs.toList.length := by simp; omega
    have h1 : (cs.setIfInBounds o v).toList = cs.toList.set o v := by simp
    have h2 : (cs.toList.set o v).take (o + 1) = cs.toList.take o ++ [v] := by
      rw [List.take_add_one, List.take_set, List.set_eq_of_length_le (by rw [List.length_take]; omega), List.getElem?_set_self ho]
      rfl
    have h3 : (cs.toList.set o v).drop (o + 1 + r.length) = cs.toList.drop (o + (r.length + 1)) := by
      rw [List.drop_set, if_pos (by omega)]
      congr 1; omega
    rw [sets, sets_list r (o + 1) _ (by simp; omega), h1, h2, h3]
    simp
theorem touch_sets {S : Nat → Prop} {b : Nat} {a : World} : ∀ (vs : List Value) (o : Nat) (w : World), Touch S a w → (b < a.heap.size → S b) → Touch S a (w.setCells b o vs)
  | [], _, _, h, _ => h
  | v :: r, o, w, h, hb => touch_sets r (o + 1) _ (h.setCell (p := ⟨b, o, none⟩) hb v) hb
theorem ins_cells {cur : Array Value} {xs : List Value} (x : Value) {i n : Nat} (hl : xs.length = n) (hi : i ≤ n) (hc : n + 1 ≤ cur.size) (ht : cur.toList.take n = xs) :
    (sets (sets cur (i + 1) (xs.drop i)) i [x]).toList.take (n + 1) = xs.take i ++ x :: xs.drop i := by
  have hd : (xs.drop i).length = n - i := by rw [List.length_drop, hl]
  rw [sets_list [x] i _ (by rw [sets_size]; simp; omega), sets_list _ (i + 1) _ (by rw [hd]; omega)]
  have h1 : (cur.toList.take (i + 1) ++ xs.drop i ++ cur.toList.drop (i + 1 + (xs.drop i).length)).take i = xs.take i := by
    rw [List.append_assoc, List.take_append_of_le_length (by rw [List.length_take]; simp; omega), List.take_take, ← ht, List.take_take]
    congr 1; omega
  have h2 : (cur.toList.take (i + 1) ++ xs.drop i ++ cur.toList.drop (i + 1 + (xs.drop i).length)).drop (i + [x].length) = xs.drop i ++ cur.toList.drop (i + 1 + (xs.drop i).length) := by
    rw [List.append_assoc]
    exact List.drop_left' (by rw [List.length_take]; simp; omega)
  rw [h1, h2]
  have h3 : xs.take i ++ [x] ++ (xs.drop i ++ cur.toList.drop (i + 1 + (xs.drop i).length)) = (xs.take i ++ x :: xs.drop i) ++ cur.toList.drop (i + 1 + (xs.drop i).length) := by simp
  rw [h3]
  exact List.take_left' (by simp; omega)
theorem ins_cells2 {xs z1 z2 : List Value} (x : Value) {i n : Nat} (hl : xs.length = n) (hi : i ≤ n) (hz : z1.length = n + 1 - i) :
    (sets (sets (xs.take i ++ z1 ++ z2).toArray i [x]) (i + 1) (xs.drop i)).toList.take (n + 1) = xs.take i ++ x :: xs.drop i := by
  have hd : (xs.drop i).length = n - i := by rw [List.length_drop, hl]
  have ht : (xs.take i).length = i := by rw [List.length_take]; omega
  have hs : (xs.take i ++ z1 ++ z2).toArray.size = n + 1 + z2.length := by simp; omega
  rw [sets_list (xs.drop i) (i + 1) _ (by rw [sets_size, hs, hd]; omega), sets_list [x] i _ (by rw [hs]; simp; omega)]
  have h1 : (((xs.take i ++ z1 ++ z2).toArray.toList.take i ++ [x]) ++ (xs.take i ++ z1 ++ z2).toArray.toList.drop (i + [x].length)).take (i + 1) = xs.take i ++ [x] := by
    rw [List.take_left' (by simp; omega)]
    congr 1
    rw [List.toList_toArray, List.append_assoc]
    exact List.take_left' ht
  rw [h1, List.append_assoc, List.append_assoc]
  have h3 : xs.take i ++ ([x] ++ (xs.drop i ++ List.drop (i + 1 + (xs.drop i).length) ((xs.take i ++ z1 ++ z2).toArray.toList.take i ++ [x] ++ (xs.take i ++ z1 ++ z2).toArray.toList.drop (i + [x].length)))) = (xs.take i ++ x :: xs.drop i) ++ List.drop (i + 1 + (xs.drop i).length) ((xs.take i ++ z1 ++ z2).toArray.toList.take i ++ [x] ++ (xs.take i ++ z1 ++ z2).toArray.toList.drop (i + [x].length)) := by simp
  rw [h3]
  exact List.take_left' (by simp; omega)
theorem Sl.cells {w : World} {e : TypeId} {b n cap : Nat} {xs : List Value} (h : Sl w e 1 (some b) n cap xs) {j : Nat} (hj : j < cap) : (w.cell? ⟨b, j, none⟩).isSome = true := by
  obtain ⟨_, cur, hb, _, _, h3, _⟩ := h
  rw [blk_cell hb (Array.getElem?_eq_getElem (by omega))]; rfl
theorem Sl.frozen {w : World} {e : TypeId} {b n cap sz : Nat} {xs : List Value} (h : Sl w e sz (some b) n cap xs) (j : Nat) : w.frozen? ⟨b, j, none⟩ = false := by
  obtain ⟨_, cur, hb, _⟩ := h; exact blk_frozen hb j
theorem Sl.cap_le {w : World} {e : TypeId} {g : Option Nat} {n cap sz : Nat} {xs : List Value} (h : Sl w e sz g n cap xs) : cap ≤ maxLen := by
  cases g with
  | none => obtain ⟨_, rfl, rfl⟩ := h; simp [maxLen]
  | some b => obtain ⟨_, cur, hb, _, h2, _⟩ := h; exact h2

set_option maxHeartbeats 4000000 in
set_option maxRecDepth 100000 in
theorem InsS (g : Option Nat) (n cap i vb vc : Nat) (xs : List Value) (x : Value) (w : World) (hs : Sl w 9 1 g n cap xs) (hx : w.heap[vb]? = some (.cells #[x] 9 (0, 0))) (hne : g ≠ some vb) (hi : i ≤ n)
    (h1 : ∀ u ∈ xs, u.oneCell' = true) (h1x : x.oneCell' = true) (hbig : (n + 1) * 16 ≤ 140737488355328) :
    Calls Try.prog 35 #[slv g n cap, .int .i64 (i : Int), .slice (some ⟨vb, 0, none⟩) 1 vc] w fun e w' => ∃ g' cap', e = .returned (slv (some g') (n + 1) cap') ∧
      Sl w' 9 1 (some g') (n + 1) cap' (xs.take i ++ x :: xs.drop i) ∧ Touch (fun k => g = some k) w w' ∧ (g = some g' ∨ w.heap.size ≤ g') := by
  have hlen := hs.len
  have hle := hs.le
  have hcm := hs.cap_le
  unfold maxLen at hcm
  rw [Nat.mul_one] at hlen
  have HLEN := Lib.hid hlen
  have H1 := Lib.hid h1
  have H1X := Lib.hid h1x
  have HX := Lib.hid hx
  have HS := Lib.hid hs
  clear hlen h1 h1x hx hs
  by_cases hin : i = n
  · subst hin
    have htk : xs.take i = xs := List.take_of_length_le (by have := HLEN.out; omega)
    have hdk : xs.drop i = [] := List.drop_eq_nil_of_le (by have := HLEN.out; omega)
    rw [htk, hdk]
    clear htk hdk
    cases g with
    | none =>
      obtain ⟨_, h0, h0'⟩ := HS.out
      subst h0 h0'
      go_enter Try.func35, Try.ntmps35
      go_wp2_with (at_builtin; refine app_lit ei_string rfl (.tmp 23) (.tmp 24) rfl (g := none) (n := 0) (cap := 0) (by rfl) HS.out (by rfl) (by rfl) HX.out (by intro u hu; simp at hu; subst hu; exact H1X.out) (by omega) (by omega) ?_)
      intro g' cap' w' hS hT hat
      go_wp2
      go_ret
      exact ⟨g', cap', rfl, hS, hT.mono (fun _ _ h => h.elim), .inr (by omega)⟩
    | some b =>
      by_cases hic : cap = i
      · subst hic
        go_enter Try.func35, Try.ntmps35
        go_wp2_with (at_builtin; refine app_lit ei_string rfl (.tmp 23) (.tmp 24) rfl (g := some b) (n := cap) (cap := cap) (by rfl) HS.out (by rfl) (by rfl) HX.out (by intro u hu; simp at hu; subst hu; exact H1X.out) (by omega) (by omega) ?_)
        intro g' cap' w' hS hT hat
        go_wp2
        go_ret
        exact ⟨g', cap', rfl, hS, hT.mono (fun _ _ h => by rw [h]), hat.imp (fun e => by rw [e]) (fun h => by omega)⟩
      · go_enter Try.func35, Try.ntmps35
        go_wp2_with (at_builtin; refine app_lit ei_string rfl (.tmp 23) (.tmp 24) rfl (g := some b) (n := i) (cap := cap) (by rfl) HS.out (by rfl) (by rfl) HX.out (by intro u hu; simp at hu; subst hu; exact H1X.out) (by omega) (by omega) ?_)
        intro g' cap' w' hS hT hat
        go_wp2
        go_ret
        exact ⟨g', cap', rfl, hS, hT.mono (fun _ _ h => by rw [h]), hat.imp (fun e => by rw [e]) (fun h => by omega)⟩
  · have hlt : i < n := by omega
    obtain ⟨b, hb⟩ := HS.out.some_of_pos (by omega)
    subst hb
    have hvb : vb ≠ b := fun e => hne (by rw [e])
    have hbw := HS.out.block_lt
    have hvw : vb < w.heap.size := blk_lt HX.out
    have hz2 : ((i : Int) == (n : Int)) = false := by simp; omega
    show Calls Try.prog 35 #[.slice (some ⟨b, 0, none⟩) n cap, .int .i64 (i : Int), .slice (some ⟨vb, 0, none⟩) 1 vc] w _
    obtain ⟨i0, z, hi0, hz0, hzs, hzb, hzc⟩ := ei_string.info
    have hsz : (Try.prog.info? 9).map (·.size) = some 1 := by rw [hi0]; simp [hzs]
    have hdl : (xs.drop i).length = n - i := by rw [List.length_drop, HLEN.out]
    have hgm : Try.prog.underlying 79 = some (.slice 9) := Try.underlying79
    have hw1 : IntKind.i64.wrap ((i : Int) + 1) = (i : Int) + 1 := by rw [IntKind.wrap_i64]; omega
    have hb1 : (0 : Int) ≤ (i : Int) + 1 := by omega
    have hb3 : (i : Int) + 1 ≤ (n : Int) + 1 := by omega
    have hb5 : (i : Int) ≤ (n : Int) + 1 := by omega
    have htn : ((i : Int) + 1).toNat = i + 1 := by omega
    by_cases hroom : n + 1 ≤ cap
    · have hz3 : ¬ ((cap : Int) < (n : Int) + 1) := by omega
      obtain ⟨hsl, cur, hbk, hc1, hc2, hc3, hc4⟩ := HS.out
      have hov : ∀ lb cb, (callFunc 81 #[.slice (some ⟨vb, 0, none⟩) 1 vc, .slice (some ⟨b, i + 1, none⟩) lb cb]).run Try.prog w = .ok (.value (.bool false)) w := fun lb cb => by
        rw [run_callFunc_extern Try.func81 (by kernel_rfl) (by kernel_rfl) (by kernel_rfl) (e := Extern.SlicesOverlaps.overlaps #[79, 79] #[4]) (by kernel_rfl),
          Lib.run_overlaps_apart w 79 4 9 hgm 1 (fun w => by simp [sizeOf, typeInfo, hi0, hzs]) ⟨vb, 0, none⟩ ⟨b, i + 1, none⟩ 1 vc lb cb hvb 9 9 1 (cap * 1)
            (by simp [World.shape?, HX.out]) (by simp [World.shape?, hbk, hc3]) (by omega) (blk_frozen HX.out 0) (blk_frozen HX.out 1)]
        rfl
      have hcp1 : ∀ (W : World), (∀ x, W.cell? x = w.cell? x) → (∀ x, W.frozen? x = w.frozen? x) → ∀ ty dc sc, (Builtin.copy_ #[79, 79] ty #[.slice (some ⟨b, i + 1, none⟩) (n + 1 - (i + 1)) dc, .slice (some ⟨b, i, none⟩) (n + 1 - i) sc]).run Try.prog W = .ok (goInt (xs.drop i).length) (W.setCells b (i + 1) (xs.drop i)) := fun W hWc hWf ty dc sc =>
        run_copy_cells W _ _ ty 9 b (i + 1) (n + 1 - (i + 1)) dc ⟨b, i, none⟩ (n + 1 - i) sc (xs.drop i) hgm hsz (by rw [hdl]; simp only [Nat.min_def]; split <;> omega)
          (fun j v hj => by rw [Addr.add_lit, hWc]; exact HS.out.cell (by rwa [List.getElem?_drop] at hj))
          (fun j hj => by rw [hWc]; exact HS.out.cells (by omega)) (fun j hj => by rw [hWf]; exact HS.out.frozen _) (fun v hv => H1.out v (List.mem_of_mem_drop hv))
      obtain ⟨W1, hW1⟩ : ∃ W1, W1 = w.drew.setCells b (i + 1) (xs.drop i) := ⟨_, rfl⟩
      have hbk1 : W1.heap[b]? = some (.cells (sets cur (i + 1) (xs.drop i)) 9 (0, 0)) := by rw [hW1]; exact blk_sets _ _ _ _ hbk
      have hT1 : Touch (fun k => some b = some k) w W1 := by rw [hW1]; exact touch_sets _ _ _ ((Touch.refl _ w).drew) (fun _ => rfl)
      have hxv : W1.heap[vb]? = some (.cells #[x] 9 (0, 0)) := by rw [hT1.block vb hvw (by simp; exact fun e => hvb e.symm)]; exact HX.out
      have hcp2 : ∀ (W : World), W.heap = W1.heap → ∀ ty dc, (Builtin.copy_ #[79, 79] ty #[.slice (some ⟨b, i, none⟩) (n + 1 - i) dc, .slice (some ⟨vb, 0, none⟩) 1 vc]).run Try.prog W = .ok (goInt [x].length) (W.setCells b i [x]) := fun W hW ty dc =>
        run_copy_cells W _ _ ty 9 b i (n + 1 - i) dc ⟨vb, 0, none⟩ 1 vc [x] hgm hsz (by simp only [Nat.min_def]; split <;> simp <;> omega)
          (fun j v hj => by rw [Addr.add_lit]; refine blk_cell (by rw [hW]; exact hxv) ?_; rw [Nat.zero_add]; simpa using hj)
          (fun j hj => by
            have hj0 : j = 0 := by simpa using hj
            subst hj0
            rw [blk_cell (by rw [hW]; exact hbk1) (Array.getElem?_eq_getElem (by rw [sets_size]; omega))]; rfl)
          (fun j hj => blk_frozen (by rw [hW]; exact hbk1) _) (by intro u hu; simp at hu; subst hu; exact H1X.out)
      have hb2 : ¬ (cap = i + 1) := by omega
      have hb4 : ¬ (cap = i) := by omega
      have hfin : ∀ W, W.heap = (W1.setCells b i [x]).heap → Sl W 9 1 (some b) (n + 1) cap (xs.take i ++ x :: xs.drop i) := fun W hW => by
        refine ⟨by simp; omega, sets (sets cur (i + 1) (xs.drop i)) i [x], by rw [hW]; exact blk_sets _ _ _ _ hbk1, by omega, hc2, by rw [sets_size, sets_size]; exact hc3, ?_⟩
        rw [Nat.mul_one]
        exact ins_cells x HLEN.out (by omega) (by omega) (by rw [Nat.mul_one] at hc4; exact hc4)
      have hT2 : Touch (fun k => some b = some k) w (W1.setCells b i [x]) := touch_sets _ _ _ hT1 (fun _ => rfl)
      have HFIN := Lib.hid hfin
      have HT2 := Lib.hid hT2
      have HCP1 := Lib.hid hcp1
      have HCP2 := Lib.hid hcp2
      have HW1 := Lib.hid hW1
      clear hfin hT2 hT1 hxv hbk1 hcp1 hcp2 hW1 hsl hbk hc1 hc2 hc3 hc4
      go_enter Try.func35, Try.ntmps35
      go_wp2_with (simp only [hov])
      refine region_calm [.p 0, .p 1, .p 2, .p 3, .p 4, .p 5, .p 6, .p 7, .h 8 false] f_mixed (by kernel_rfl) (by kernel_rfl) ?_
      repeat (first | (refine plan_p rfl (fun K hK => ?_); go_simp; refine hK _ ?_; clear hK K) | (refine plan_l rfl (fun K hK => ?_); go_simp; refine hK _ ?_; clear hK K))
      refine plan_c rfl rfl (fun K _ hK => ?_)
      refine wpList_copy_runI _ rfl _ _ 79 79 rfl _ _ (by simp [Act.eval, Act.put]; rfl) (by simp [Act.eval, Act.put]; rfl) (HCP1.out _ (by exact fun _ => rfl) (by exact fun _ => rfl) _ _ _) ?_
      rw [← HW1.out]
      go_wp2
      refine plan_done ?_
      go_wp2_with (rw [HCP2.out W1 rfl])
      go_ret
      exact ⟨b, cap, rfl, HFIN.out _ rfl, HT2.out, .inl rfl⟩
    · have hz3 : (cap : Int) < (n : Int) + 1 := by omega
      have hkk : (n : Int) + 1 - (i : Int) = ((n + 1 - i : Nat) : Int) := by omega
      have hik : i + (n + 1 - i) = n + 1 := by omega
      have hold : (Builtin.firstCells i0.size i (.slice (some ⟨b, 0, none⟩) i cap)).run Try.prog w.drew = .ok (xs.take i).toArray w.drew := by
        rw [hzs]
        exact run_firstCells_some w.drew 1 i ⟨b, 0, none⟩ i cap (xs.take i) (by rw [List.length_take]; have := HLEN.out; omega) (fun j v hj => by
          rw [Addr.add_lit, Nat.zero_add]
          rw [List.getElem?_take] at hj
          split at hj
          · exact (HS.out.cell hj : w.cell? _ = _)
          · cases hj)
      have hrz : ∀ ty, (Builtin.append_ #[79, 3] ty #[.slice (some ⟨b, 0, none⟩) i cap, .int .i64 ((n : Int) + 1 - (i : Int))]).run Try.prog w =
          .ok (.slice (some ⟨w.heap.size, 0, none⟩) (n + 1) (grownCap w (n + 1) cap 9)) (w.drew.alloc (.cells ((xs.take i).toArray ++ Builtin.zeroCells z.cells (n + 1 - i) ++ Builtin.zeroCells z.cells (grownCap w (n + 1) cap 9 - (n + 1))) 9)) := fun ty => by
        have h := Lib.run_append_grow_zeros w 79 3 ty 9 i0 _ .i64 .i64 hgm Try.underlying3 hi0 hz0 (some ⟨b, 0, none⟩) i cap (xs.take i) hold (n + 1 - i) (by omega) (by omega) (by omega) (by omega) (by rw [hzb]; omega) (by rw [hzb, hik]; exact growslice_fits (by omega) hbig)
        rw [hik] at h
        rw [hkk]
        exact h
      obtain ⟨G, hG⟩ : ∃ G, G = grownCap w (n + 1) cap 9 := ⟨_, rfl⟩
      have hGn : n + 1 ≤ G := by rw [hG]; exact grownCap_ge w _ _ _
      have hG63 : G ≤ maxLen := by rw [hG]; exact grownCap_le_maxLen w (n + 1) cap 9 (by unfold maxLen; omega)
      rw [← hG] at hrz
      have hzl : ∀ k, (Builtin.zeroCells z.cells k).size = k := fun k => by simp [Builtin.zeroCells, hzc]
      obtain ⟨ROW, hROW⟩ : ∃ ROW : Array Value, ROW = (xs.take i).toArray ++ Builtin.zeroCells z.cells (n + 1 - i) ++ Builtin.zeroCells z.cells (G - (n + 1)) := ⟨_, rfl⟩
      have hRs : ROW.size = G := by rw [hROW]; simp [hzl]; have := HLEN.out; omega
      have hRl : ROW = (xs.take i ++ (Builtin.zeroCells z.cells (n + 1 - i)).toList ++ (Builtin.zeroCells z.cells (G - (n + 1))).toList).toArray := by rw [hROW]; simp
      have hrowf : (sets (sets ROW i [x]) (i + 1) (xs.drop i)).toList.take (n + 1) = xs.take i ++ x :: xs.drop i := by
        rw [hRl]; exact ins_cells2 x HLEN.out (by omega) (by rw [Array.length_toList]; exact hzl _)
      rw [← hROW] at hrz
      obtain ⟨W1, hW1⟩ : ∃ W1, W1 = w.drew.alloc (.cells ROW 9) := ⟨_, rfl⟩
      have hN : W1.heap[w.heap.size]? = some (.cells ROW 9 (0, 0)) := by rw [hW1]; exact blk_new w.drew _
      have hE1 : Ext w W1 := by rw [hW1]; exact ((Ext.refl w).drew).alloc _
      have hHe : ∀ W : World, W.heap = W1.heap → ∀ j, j < n + 1 → (W.cell? ⟨w.heap.size, j, none⟩).isSome = true := fun W hW j hj => by
        rw [blk_cell (by rw [hW]; exact hN) (Array.getElem?_eq_getElem (by omega))]; rfl
      have hcpA : ∀ (W : World), W.heap = W1.heap → ∀ ty dc, (Builtin.copy_ #[79, 79] ty #[.slice (some ⟨w.heap.size, i, none⟩) (n + 1 - i) dc, .slice (some ⟨vb, 0, none⟩) 1 vc]).run Try.prog W = .ok (goInt [x].length) (W.setCells w.heap.size i [x]) := fun W hW ty dc =>
        run_copy_cells W _ _ ty 9 w.heap.size i (n + 1 - i) dc ⟨vb, 0, none⟩ 1 vc [x] hgm hsz (by simp only [Nat.min_def]; split <;> simp <;> omega)
          (fun j v hj => by rw [Addr.add_lit]; refine blk_cell (by rw [hW]; exact Ext.block hE1 HX.out) ?_; rw [Nat.zero_add]; simpa using hj)
          (fun j hj => hHe W hW _ (by simp at hj; omega)) (fun j hj => blk_frozen (by rw [hW]; exact hN) _) (by intro u hu; simp at hu; subst hu; exact H1X.out)
      have hN2 : ∀ W : World, W.heap = W1.heap → (W.setCells w.heap.size i [x]).heap[w.heap.size]? = some (.cells (sets ROW i [x]) 9 (0, 0)) := fun W hW => blk_sets _ _ _ _ (by rw [hW]; exact hN)
      have hT2 : ∀ W : World, W.heap = W1.heap → W.os = W1.os → W.tape = W1.tape → W.output = W1.output → Touch (fun _ => False) w (W.setCells w.heap.size i [x]) := fun W hW h1 h2 h3 =>
        touch_sets _ _ _ ⟨h1.trans hE1.os, h2.trans hE1.tape, h3.trans hE1.output, by rw [hW]; exact hE1.size, fun k hk _ => by rw [hW]; exact Below.block hE1 k hk⟩ (fun h => by omega)
      have hcpB : ∀ (V : World), V.heap = (W1.setCells w.heap.size i [x]).heap → ∀ ty dc sc, (Builtin.copy_ #[79, 79] ty #[.slice (some ⟨w.heap.size, i + 1, none⟩) (n + 1 - (i + 1)) dc, .slice (some ⟨b, i, none⟩) (n - i) sc]).run Try.prog V = .ok (goInt (xs.drop i).length) (V.setCells w.heap.size (i + 1) (xs.drop i)) := fun V hV ty dc sc =>
        run_copy_cells V _ _ ty 9 w.heap.size (i + 1) (n + 1 - (i + 1)) dc ⟨b, i, none⟩ (n - i) sc (xs.drop i) hgm hsz (by rw [hdl]; simp only [Nat.min_def]; split <;> omega)
          (fun j v hj => by
            rw [Addr.add_lit]
            have h0 := HS.out.cell (by rwa [List.getElem?_drop] at hj)
            refine World.cell?_of_block (w := w) ?_ ▸ h0
            rw [hV]
            exact (hT2 W1 rfl rfl rfl rfl).block b hbw (fun h => h))
          (fun j hj => by rw [blk_cell (by rw [hV]; exact hN2 W1 rfl) (Array.getElem?_eq_getElem (by rw [sets_size, hRs]; omega))]; rfl)
          (fun j hj => blk_frozen (by rw [hV]; exact hN2 W1 rfl) _) (fun v hv => H1.out v (List.mem_of_mem_drop hv))
      have hfin : ∀ V, V.heap = ((W1.setCells w.heap.size i [x]).drew.setCells w.heap.size (i + 1) (xs.drop i)).heap → Sl V 9 1 (some w.heap.size) (n + 1) G (xs.take i ++ x :: xs.drop i) := fun V hV => by
        refine ⟨by simp; have := HLEN.out; omega, sets (sets ROW i [x]) (i + 1) (xs.drop i), by rw [hV]; exact blk_sets _ _ _ _ (hN2 W1 rfl), hGn, hG63, by rw [sets_size, sets_size, hRs, Nat.mul_one], ?_⟩
        rw [Nat.mul_one]; exact hrowf
      have hT3 : Touch (fun k => some b = some k) w ((W1.setCells w.heap.size i [x]).drew.setCells w.heap.size (i + 1) (xs.drop i)) := (touch_sets _ _ _ ((hT2 W1 rfl rfl rfl rfl).drew) (fun h => by omega)).mono (fun _ _ h => h.elim)
      unfold maxLen at hG63
      have hGi : ¬ (G = i) := by omega
      have hGim : ¬ (G = i + 1) := by omega
      have hci : ¬ (cap = i) := by omega
      have HFIN := Lib.hid hfin
      have HT3 := Lib.hid hT3
      have HRZ := Lib.hid hrz
      have HCPA := Lib.hid hcpA
      have HCPB := Lib.hid hcpB
      have HW1 := Lib.hid hW1
      clear hfin hT3 hrz hcpA hcpB hW1 hT2 hN2 hHe hE1 hN hrowf hRl hRs hROW hzl hG hold hik hkk hi0 hz0 hzs hzb hzc hsz hdl
      go_enter Try.func35, Try.ntmps35
      go_wp2_with (first | (at_builtin; refine Lib.wpList_append_run _ rfl _ _ _ _ rfl _ _ rfl rfl _ _ (HRZ.out _) ?_; rw [← HW1.out]) | (rw [HCPA.out W1 rfl]))
      refine region_calm [.p 0, .p 1, .p 2, .p 3, .p 4, .p 5, .p 6, .p 7, .h 8 false] f_mixed (by kernel_rfl) (by kernel_rfl) ?_
      repeat (first | (refine plan_p rfl (fun K hK => ?_); go_simp; refine hK _ ?_; clear hK K) | (refine plan_l rfl (fun K hK => ?_); go_simp; refine hK _ ?_; clear hK K))
      refine plan_c rfl rfl (fun K _ hK => ?_)
      refine wpList_copy_runI _ rfl _ _ 79 79 rfl _ _ (by simp [Act.eval, Act.put]; rfl) (by simp [Act.eval, Act.put]; rfl) (HCPB.out _ (by rfl) _ _ _) ?_
      go_wp2
      refine plan_done ?_
      go_wp2
      go_ret
      exact ⟨w.heap.size, G, rfl, HFIN.out _ rfl, HT3.out, .inr (Nat.le_refl _)⟩
set_option maxHeartbeats 4000000 in
set_option maxRecDepth 100000 in
theorem InsI (g : Option Nat) (n cap i vb vc : Nat) (xs : List Value) (x : Value) (w : World) (hs : Sl w 2 1 g n cap xs) (hx : w.heap[vb]? = some (.cells #[x] 2 (0, 0))) (hne : g ≠ some vb) (hi : i ≤ n)
    (h1 : ∀ u ∈ xs, u.oneCell' = true) (h1x : x.oneCell' = true) (hbig : (n + 1) * 8 ≤ 140737488355328) :
    Calls Try.prog 36 #[slv g n cap, .int .i64 (i : Int), .slice (some ⟨vb, 0, none⟩) 1 vc] w fun e w' => ∃ g' cap', e = .returned (slv (some g') (n + 1) cap') ∧
      Sl w' 2 1 (some g') (n + 1) cap' (xs.take i ++ x :: xs.drop i) ∧ Touch (fun k => g = some k) w w' ∧ (g = some g' ∨ w.heap.size ≤ g') := by
  have hlen := hs.len
  have hle := hs.le
  have hcm := hs.cap_le
  unfold maxLen at hcm
  rw [Nat.mul_one] at hlen
  have HLEN := Lib.hid hlen
  have H1 := Lib.hid h1
  have H1X := Lib.hid h1x
  have HX := Lib.hid hx
  have HS := Lib.hid hs
  clear hlen h1 h1x hx hs
  by_cases hin : i = n
  · subst hin
    have htk : xs.take i = xs := List.take_of_length_le (by have := HLEN.out; omega)
    have hdk : xs.drop i = [] := List.drop_eq_nil_of_le (by have := HLEN.out; omega)
    rw [htk, hdk]
    clear htk hdk
    cases g with
    | none =>
      obtain ⟨_, h0, h0'⟩ := HS.out
      subst h0 h0'
      go_enter Try.func36, Try.ntmps36
      go_wp2_with (at_builtin; refine app_lit ei_int64 rfl (.tmp 23) (.tmp 24) rfl (g := none) (n := 0) (cap := 0) (by rfl) HS.out (by rfl) (by rfl) HX.out (by intro u hu; simp at hu; subst hu; exact H1X.out) (by omega) (by omega) ?_)
      intro g' cap' w' hS hT hat
      go_wp2
      go_ret
      exact ⟨g', cap', rfl, hS, hT.mono (fun _ _ h => h.elim), .inr (by omega)⟩
    | some b =>
      by_cases hic : cap = i
      · subst hic
        go_enter Try.func36, Try.ntmps36
        go_wp2_with (at_builtin; refine app_lit ei_int64 rfl (.tmp 23) (.tmp 24) rfl (g := some b) (n := cap) (cap := cap) (by rfl) HS.out (by rfl) (by rfl) HX.out (by intro u hu; simp at hu; subst hu; exact H1X.out) (by omega) (by omega) ?_)
        intro g' cap' w' hS hT hat
        go_wp2
        go_ret
        exact ⟨g', cap', rfl, hS, hT.mono (fun _ _ h => by rw [h]), hat.imp (fun e => by rw [e]) (fun h => by omega)⟩
      · go_enter Try.func36, Try.ntmps36
        go_wp2_with (at_builtin; refine app_lit ei_int64 rfl (.tmp 23) (.tmp 24) rfl (g := some b) (n := i) (cap := cap) (by rfl) HS.out (by rfl) (by rfl) HX.out (by intro u hu; simp at hu; subst hu; exact H1X.out) (by omega) (by omega) ?_)
        intro g' cap' w' hS hT hat
        go_wp2
        go_ret
        exact ⟨g', cap', rfl, hS, hT.mono (fun _ _ h => by rw [h]), hat.imp (fun e => by rw [e]) (fun h => by omega)⟩
  · have hlt : i < n := by omega
    obtain ⟨b, hb⟩ := HS.out.some_of_pos (by omega)
    subst hb
    have hvb : vb ≠ b := fun e => hne (by rw [e])
    have hbw := HS.out.block_lt
    have hvw : vb < w.heap.size := blk_lt HX.out
    have hz2 : ((i : Int) == (n : Int)) = false := by simp; omega
    show Calls Try.prog 36 #[.slice (some ⟨b, 0, none⟩) n cap, .int .i64 (i : Int), .slice (some ⟨vb, 0, none⟩) 1 vc] w _
    obtain ⟨i0, z, hi0, hz0, hzs, hzb, hzc⟩ := ei_int64.info
    have hsz : (Try.prog.info? 2).map (·.size) = some 1 := by rw [hi0]; simp [hzs]
    have hdl : (xs.drop i).length = n - i := by rw [List.length_drop, HLEN.out]
    have hgm : Try.prog.underlying 46 = some (.slice 2) := Try.underlying46
    have hw1 : IntKind.i64.wrap ((i : Int) + 1) = (i : Int) + 1 := by rw [IntKind.wrap_i64]; omega
    have hb1 : (0 : Int) ≤ (i : Int) + 1 := by omega
    have hb3 : (i : Int) + 1 ≤ (n : Int) + 1 := by omega
    have hb5 : (i : Int) ≤ (n : Int) + 1 := by omega
    have htn : ((i : Int) + 1).toNat = i + 1 := by omega
    by_cases hroom : n + 1 ≤ cap
    · have hz3 : ¬ ((cap : Int) < (n : Int) + 1) := by omega
      obtain ⟨hsl, cur, hbk, hc1, hc2, hc3, hc4⟩ := HS.out
      have hov : ∀ lb cb, (callFunc 83 #[.slice (some ⟨vb, 0, none⟩) 1 vc, .slice (some ⟨b, i + 1, none⟩) lb cb]).run Try.prog w = .ok (.value (.bool false)) w := fun lb cb => by
        rw [run_callFunc_extern Try.func83 (by kernel_rfl) (by kernel_rfl) (by kernel_rfl) (e := Extern.SlicesOverlaps.overlaps #[46, 46] #[4]) (by kernel_rfl),
          Lib.run_overlaps_apart w 46 4 2 hgm 1 (fun w => by simp [sizeOf, typeInfo, hi0, hzs]) ⟨vb, 0, none⟩ ⟨b, i + 1, none⟩ 1 vc lb cb hvb 2 2 1 (cap * 1)
            (by simp [World.shape?, HX.out]) (by simp [World.shape?, hbk, hc3]) (by omega) (blk_frozen HX.out 0) (blk_frozen HX.out 1)]
        rfl
      have hcp1 : ∀ (W : World), (∀ x, W.cell? x = w.cell? x) → (∀ x, W.frozen? x = w.frozen? x) → ∀ ty dc sc, (Builtin.copy_ #[46, 46] ty #[.slice (some ⟨b, i + 1, none⟩) (n + 1 - (i + 1)) dc, .slice (some ⟨b, i, none⟩) (n + 1 - i) sc]).run Try.prog W = .ok (goInt (xs.drop i).length) (W.setCells b (i + 1) (xs.drop i)) := fun W hWc hWf ty dc sc =>
        run_copy_cells W _ _ ty 2 b (i + 1) (n + 1 - (i + 1)) dc ⟨b, i, none⟩ (n + 1 - i) sc (xs.drop i) hgm hsz (by rw [hdl]; simp only [Nat.min_def]; split <;> omega)
          (fun j v hj => by rw [Addr.add_lit, hWc]; exact HS.out.cell (by rwa [List.getElem?_drop] at hj))
          (fun j hj => by rw [hWc]; exact HS.out.cells (by omega)) (fun j hj => by rw [hWf]; exact HS.out.frozen _) (fun v hv => H1.out v (List.mem_of_mem_drop hv))
      obtain ⟨W1, hW1⟩ : ∃ W1, W1 = w.drew.setCells b (i + 1) (xs.drop i) := ⟨_, rfl⟩
      have hbk1 : W1.heap[b]? = some (.cells (sets cur (i + 1) (xs.drop i)) 2 (0, 0)) := by rw [hW1]; exact blk_sets _ _ _ _ hbk
      have hT1 : Touch (fun k => some b = some k) w W1 := by rw [hW1]; exact touch_sets _ _ _ ((Touch.refl _ w).drew) (fun _ => rfl)
      have hxv : W1.heap[vb]? = some (.cells #[x] 2 (0, 0)) := by rw [hT1.block vb hvw (by simp; exact fun e => hvb e.symm)]; exact HX.out
      have hcp2 : ∀ (W : World), W.heap = W1.heap → ∀ ty dc, (Builtin.copy_ #[46, 46] ty #[.slice (some ⟨b, i, none⟩) (n + 1 - i) dc, .slice (some ⟨vb, 0, none⟩) 1 vc]).run Try.prog W = .ok (goInt [x].length) (W.setCells b i [x]) := fun W hW ty dc =>
        run_copy_cells W _ _ ty 2 b i (n + 1 - i) dc ⟨vb, 0, none⟩ 1 vc [x] hgm hsz (by simp only [Nat.min_def]; split <;> simp <;> omega)
          (fun j v hj => by rw [Addr.add_lit]; refine blk_cell (by rw [hW]; exact hxv) ?_; rw [Nat.zero_add]; simpa using hj)
          (fun j hj => by
            have hj0 : j = 0 := by simpa using hj
            subst hj0
            rw [blk_cell (by rw [hW]; exact hbk1) (Array.getElem?_eq_getElem (by rw [sets_size]; omega))]; rfl)
          (fun j hj => blk_frozen (by rw [hW]; exact hbk1) _) (by intro u hu; simp at hu; subst hu; exact H1X.out)
      have hb2 : ¬ (cap = i + 1) := by omega
      have hb4 : ¬ (cap = i) := by omega
      have hfin : ∀ W, W.heap = (W1.setCells b i [x]).heap → Sl W 2 1 (some b) (n + 1) cap (xs.take i ++ x :: xs.drop i) := fun W hW => by
        refine ⟨by simp; omega, sets (sets cur (i + 1) (xs.drop i)) i [x], by rw [hW]; exact blk_sets _ _ _ _ hbk1, by omega, hc2, by rw [sets_size, sets_size]; exact hc3, ?_⟩
        rw [Nat.mul_one]
        exact ins_cells x HLEN.out (by omega) (by omega) (by rw [Nat.mul_one] at hc4; exact hc4)
      have hT2 : Touch (fun k => some b = some k) w (W1.setCells b i [x]) := touch_sets _ _ _ hT1 (fun _ => rfl)
      have HFIN := Lib.hid hfin
      have HT2 := Lib.hid hT2
      have HCP1 := Lib.hid hcp1
      have HCP2 := Lib.hid hcp2
      have HW1 := Lib.hid hW1
      clear hfin hT2 hT1 hxv hbk1 hcp1 hcp2 hW1 hsl hbk hc1 hc2 hc3 hc4
      go_enter Try.func36, Try.ntmps36
      go_wp2_with (simp only [hov])
      refine region_calm [.p 0, .p 1, .p 2, .p 3, .p 4, .p 5, .p 6, .p 7, .h 8 false] f_mixed (by kernel_rfl) (by kernel_rfl) ?_
      repeat (first | (refine plan_p rfl (fun K hK => ?_); go_simp; refine hK _ ?_; clear hK K) | (refine plan_l rfl (fun K hK => ?_); go_simp; refine hK _ ?_; clear hK K))
      refine plan_c rfl rfl (fun K _ hK => ?_)
      refine wpList_copy_runI _ rfl _ _ 46 46 rfl _ _ (by simp [Act.eval, Act.put]; rfl) (by simp [Act.eval, Act.put]; rfl) (HCP1.out _ (by exact fun _ => rfl) (by exact fun _ => rfl) _ _ _) ?_
      rw [← HW1.out]
      go_wp2
      refine plan_done ?_
      go_wp2_with (rw [HCP2.out W1 rfl])
      go_ret
      exact ⟨b, cap, rfl, HFIN.out _ rfl, HT2.out, .inl rfl⟩
    · have hz3 : (cap : Int) < (n : Int) + 1 := by omega
      have hkk : (n : Int) + 1 - (i : Int) = ((n + 1 - i : Nat) : Int) := by omega
      have hik : i + (n + 1 - i) = n + 1 := by omega
      have hold : (Builtin.firstCells i0.size i (.slice (some ⟨b, 0, none⟩) i cap)).run Try.prog w.drew = .ok (xs.take i).toArray w.drew := by
        rw [hzs]
        exact run_firstCells_some w.drew 1 i ⟨b, 0, none⟩ i cap (xs.take i) (by rw [List.length_take]; have := HLEN.out; omega) (fun j v hj => by
          rw [Addr.add_lit, Nat.zero_add]
          rw [List.getElem?_take] at hj
          split at hj
          · exact (HS.out.cell hj : w.cell? _ = _)
          · cases hj)
      have hrz : ∀ ty, (Builtin.append_ #[46, 3] ty #[.slice (some ⟨b, 0, none⟩) i cap, .int .i64 ((n : Int) + 1 - (i : Int))]).run Try.prog w =
          .ok (.slice (some ⟨w.heap.size, 0, none⟩) (n + 1) (grownCap w (n + 1) cap 2)) (w.drew.alloc (.cells ((xs.take i).toArray ++ Builtin.zeroCells z.cells (n + 1 - i) ++ Builtin.zeroCells z.cells (grownCap w (n + 1) cap 2 - (n + 1))) 2)) := fun ty => by
        have h := Lib.run_append_grow_zeros w 46 3 ty 2 i0 _ .i64 .i64 hgm Try.underlying3 hi0 hz0 (some ⟨b, 0, none⟩) i cap (xs.take i) hold (n + 1 - i) (by omega) (by omega) (by omega) (by omega) (by rw [hzb]; omega) (by rw [hzb, hik]; exact growslice_fits (by omega) hbig)
        rw [hik] at h
        rw [hkk]
        exact h
      obtain ⟨G, hG⟩ : ∃ G, G = grownCap w (n + 1) cap 2 := ⟨_, rfl⟩
      have hGn : n + 1 ≤ G := by rw [hG]; exact grownCap_ge w _ _ _
      have hG63 : G ≤ maxLen := by rw [hG]; exact grownCap_le_maxLen w (n + 1) cap 2 (by unfold maxLen; omega)
      rw [← hG] at hrz
      have hzl : ∀ k, (Builtin.zeroCells z.cells k).size = k := fun k => by simp [Builtin.zeroCells, hzc]
      obtain ⟨ROW, hROW⟩ : ∃ ROW : Array Value, ROW = (xs.take i).toArray ++ Builtin.zeroCells z.cells (n + 1 - i) ++ Builtin.zeroCells z.cells (G - (n + 1)) := ⟨_, rfl⟩
      have hRs : ROW.size = G := by rw [hROW]; simp [hzl]; have := HLEN.out; omega
      have hRl : ROW = (xs.take i ++ (Builtin.zeroCells z.cells (n + 1 - i)).toList ++ (Builtin.zeroCells z.cells (G - (n + 1))).toList).toArray := by rw [hROW]; simp
      have hrowf : (sets (sets ROW i [x]) (i + 1) (xs.drop i)).toList.take (n + 1) = xs.take i ++ x :: xs.drop i := by
        rw [hRl]; exact ins_cells2 x HLEN.out (by omega) (by rw [Array.length_toList]; exact hzl _)
      rw [← hROW] at hrz
      obtain ⟨W1, hW1⟩ : ∃ W1, W1 = w.drew.alloc (.cells ROW 2) := ⟨_, rfl⟩
      have hN : W1.heap[w.heap.size]? = some (.cells ROW 2 (0, 0)) := by rw [hW1]; exact blk_new w.drew _
      have hE1 : Ext w W1 := by rw [hW1]; exact ((Ext.refl w).drew).alloc _
      have hHe : ∀ W : World, W.heap = W1.heap → ∀ j, j < n + 1 → (W.cell? ⟨w.heap.size, j, none⟩).isSome = true := fun W hW j hj => by
        rw [blk_cell (by rw [hW]; exact hN) (Array.getElem?_eq_getElem (by omega))]; rfl
      have hcpA : ∀ (W : World), W.heap = W1.heap → ∀ ty dc, (Builtin.copy_ #[46, 46] ty #[.slice (some ⟨w.heap.size, i, none⟩) (n + 1 - i) dc, .slice (some ⟨vb, 0, none⟩) 1 vc]).run Try.prog W = .ok (goInt [x].length) (W.setCells w.heap.size i [x]) := fun W hW ty dc =>
        run_copy_cells W _ _ ty 2 w.heap.size i (n + 1 - i) dc ⟨vb, 0, none⟩ 1 vc [x] hgm hsz (by simp only [Nat.min_def]; split <;> simp <;> omega)
          (fun j v hj => by rw [Addr.add_lit]; refine blk_cell (by rw [hW]; exact Ext.block hE1 HX.out) ?_; rw [Nat.zero_add]; simpa using hj)
          (fun j hj => hHe W hW _ (by simp at hj; omega)) (fun j hj => blk_frozen (by rw [hW]; exact hN) _) (by intro u hu; simp at hu; subst hu; exact H1X.out)
      have hN2 : ∀ W : World, W.heap = W1.heap → (W.setCells w.heap.size i [x]).heap[w.heap.size]? = some (.cells (sets ROW i [x]) 2 (0, 0)) := fun W hW => blk_sets _ _ _ _ (by rw [hW]; exact hN)
      have hT2 : ∀ W : World, W.heap = W1.heap → W.os = W1.os → W.tape = W1.tape → W.output = W1.output → Touch (fun _ => False) w (W.setCells w.heap.size i [x]) := fun W hW h1 h2 h3 =>
        touch_sets _ _ _ ⟨h1.trans hE1.os, h2.trans hE1.tape, h3.trans hE1.output, by rw [hW]; exact hE1.size, fun k hk _ => by rw [hW]; exact Below.block hE1 k hk⟩ (fun h => by omega)
      have hcpB : ∀ (V : World), V.heap = (W1.setCells w.heap.size i [x]).heap → ∀ ty dc sc, (Builtin.copy_ #[46, 46] ty #[.slice (some ⟨w.heap.size, i + 1, none⟩) (n + 1 - (i + 1)) dc, .slice (some ⟨b, i, none⟩) (n - i) sc]).run Try.prog V = .ok (goInt (xs.drop i).length) (V.setCells w.heap.size (i + 1) (xs.drop i)) := fun V hV ty dc sc =>
        run_copy_cells V _ _ ty 2 w.heap.size (i + 1) (n + 1 - (i + 1)) dc ⟨b, i, none⟩ (n - i) sc (xs.drop i) hgm hsz (by rw [hdl]; simp only [Nat.min_def]; split <;> omega)
          (fun j v hj => by
            rw [Addr.add_lit]
            have h0 := HS.out.cell (by rwa [List.getElem?_drop] at hj)
            refine World.cell?_of_block (w := w) ?_ ▸ h0
            rw [hV]
            exact (hT2 W1 rfl rfl rfl rfl).block b hbw (fun h => h))
          (fun j hj => by rw [blk_cell (by rw [hV]; exact hN2 W1 rfl) (Array.getElem?_eq_getElem (by rw [sets_size, hRs]; omega))]; rfl)
          (fun j hj => blk_frozen (by rw [hV]; exact hN2 W1 rfl) _) (fun v hv => H1.out v (List.mem_of_mem_drop hv))
      have hfin : ∀ V, V.heap = ((W1.setCells w.heap.size i [x]).drew.setCells w.heap.size (i + 1) (xs.drop i)).heap → Sl V 2 1 (some w.heap.size) (n + 1) G (xs.take i ++ x :: xs.drop i) := fun V hV => by
        refine ⟨by simp; have := HLEN.out; omega, sets (sets ROW i [x]) (i + 1) (xs.drop i), by rw [hV]; exact blk_sets _ _ _ _ (hN2 W1 rfl), hGn, hG63, by rw [sets_size, sets_size, hRs, Nat.mul_one], ?_⟩
        rw [Nat.mul_one]; exact hrowf
      have hT3 : Touch (fun k => some b = some k) w ((W1.setCells w.heap.size i [x]).drew.setCells w.heap.size (i + 1) (xs.drop i)) := (touch_sets _ _ _ ((hT2 W1 rfl rfl rfl rfl).drew) (fun h => by omega)).mono (fun _ _ h => h.elim)
      unfold maxLen at hG63
      have hGi : ¬ (G = i) := by omega
      have hGim : ¬ (G = i + 1) := by omega
      have hci : ¬ (cap = i) := by omega
      have HFIN := Lib.hid hfin
      have HT3 := Lib.hid hT3
      have HRZ := Lib.hid hrz
      have HCPA := Lib.hid hcpA
      have HCPB := Lib.hid hcpB
      have HW1 := Lib.hid hW1
      clear hfin hT3 hrz hcpA hcpB hW1 hT2 hN2 hHe hE1 hN hrowf hRl hRs hROW hzl hG hold hik hkk hi0 hz0 hzs hzb hzc hsz hdl
      go_enter Try.func36, Try.ntmps36
      go_wp2_with (first | (at_builtin; refine Lib.wpList_append_run _ rfl _ _ _ _ rfl _ _ rfl rfl _ _ (HRZ.out _) ?_; rw [← HW1.out]) | (rw [HCPA.out W1 rfl]))
      refine region_calm [.p 0, .p 1, .p 2, .p 3, .p 4, .p 5, .p 6, .p 7, .h 8 false] f_mixed (by kernel_rfl) (by kernel_rfl) ?_
      repeat (first | (refine plan_p rfl (fun K hK => ?_); go_simp; refine hK _ ?_; clear hK K) | (refine plan_l rfl (fun K hK => ?_); go_simp; refine hK _ ?_; clear hK K))
      refine plan_c rfl rfl (fun K _ hK => ?_)
      refine wpList_copy_runI _ rfl _ _ 46 46 rfl _ _ (by simp [Act.eval, Act.put]; rfl) (by simp [Act.eval, Act.put]; rfl) (HCPB.out _ (by rfl) _ _ _) ?_
      go_wp2
      refine plan_done ?_
      go_wp2
      go_ret
      exact ⟨w.heap.size, G, rfl, HFIN.out _ rfl, HT3.out, .inr (Nat.le_refl _)⟩
set_option maxHeartbeats 4000000 in
set_option maxRecDepth 100000 in
theorem InsN (g : Option Nat) (n cap i vb vc : Nat) (xs : List Value) (x : Value) (w : World) (hs : Sl w 78 1 g n cap xs) (hx : w.heap[vb]? = some (.cells #[x] 78 (0, 0))) (hne : g ≠ some vb) (hi : i ≤ n)
    (h1 : ∀ u ∈ xs, u.oneCell' = true) (h1x : x.oneCell' = true) (hbig : (n + 1) * 8 ≤ 140737488355328) :
    Calls Try.prog 79 #[slv g n cap, .int .i64 (i : Int), .slice (some ⟨vb, 0, none⟩) 1 vc] w fun e w' => ∃ g' cap', e = .returned (slv (some g') (n + 1) cap') ∧
      Sl w' 78 1 (some g') (n + 1) cap' (xs.take i ++ x :: xs.drop i) ∧ Touch (fun k => g = some k) w w' ∧ (g = some g' ∨ w.heap.size ≤ g') := by
  have hlen := hs.len
  have hle := hs.le
  have hcm := hs.cap_le
  unfold maxLen at hcm
  rw [Nat.mul_one] at hlen
  have HLEN := Lib.hid hlen
  have H1 := Lib.hid h1
  have H1X := Lib.hid h1x
  have HX := Lib.hid hx
  have HS := Lib.hid hs
  clear hlen h1 h1x hx hs
  by_cases hin : i = n
  · subst hin
    have htk : xs.take i = xs := List.take_of_length_le (by have := HLEN.out; omega)
    have hdk : xs.drop i = [] := List.drop_eq_nil_of_le (by have := HLEN.out; omega)
    rw [htk, hdk]
    clear htk hdk
    cases g with
    | none =>
      obtain ⟨_, h0, h0'⟩ := HS.out
      subst h0 h0'
      go_enter Try.func79, Try.ntmps79
      go_wp2_with (at_builtin; refine app_lit ei_node rfl (.tmp 23) (.tmp 24) rfl (g := none) (n := 0) (cap := 0) (by rfl) HS.out (by rfl) (by rfl) HX.out (by intro u hu; simp at hu; subst hu; exact H1X.out) (by omega) (by omega) ?_)
      intro g' cap' w' hS hT hat
      go_wp2
      go_ret
      exact ⟨g', cap', rfl, hS, hT.mono (fun _ _ h => h.elim), .inr (by omega)⟩
    | some b =>
      by_cases hic : cap = i
      · subst hic
        go_enter Try.func79, Try.ntmps79
        go_wp2_with (at_builtin; refine app_lit ei_node rfl (.tmp 23) (.tmp 24) rfl (g := some b) (n := cap) (cap := cap) (by rfl) HS.out (by rfl) (by rfl) HX.out (by intro u hu; simp at hu; subst hu; exact H1X.out) (by omega) (by omega) ?_)
        intro g' cap' w' hS hT hat
        go_wp2
        go_ret
        exact ⟨g', cap', rfl, hS, hT.mono (fun _ _ h => by rw [h]), hat.imp (fun e => by rw [e]) (fun h => by omega)⟩
      · go_enter Try.func79, Try.ntmps79
        go_wp2_with (at_builtin; refine app_lit ei_node rfl (.tmp 23) (.tmp 24) rfl (g := some b) (n := i) (cap := cap) (by rfl) HS.out (by rfl) (by rfl) HX.out (by intro u hu; simp at hu; subst hu; exact H1X.out) (by omega) (by omega) ?_)
        intro g' cap' w' hS hT hat
        go_wp2
        go_ret
        exact ⟨g', cap', rfl, hS, hT.mono (fun _ _ h => by rw [h]), hat.imp (fun e => by rw [e]) (fun h => by omega)⟩
  · have hlt : i < n := by omega
    obtain ⟨b, hb⟩ := HS.out.some_of_pos (by omega)
    subst hb
    have hvb : vb ≠ b := fun e => hne (by rw [e])
    have hbw := HS.out.block_lt
    have hvw : vb < w.heap.size := blk_lt HX.out
    have hz2 : ((i : Int) == (n : Int)) = false := by simp; omega
    show Calls Try.prog 79 #[.slice (some ⟨b, 0, none⟩) n cap, .int .i64 (i : Int), .slice (some ⟨vb, 0, none⟩) 1 vc] w _
    obtain ⟨i0, z, hi0, hz0, hzs, hzb, hzc⟩ := ei_node.info
    have hsz : (Try.prog.info? 78).map (·.size) = some 1 := by rw [hi0]; simp [hzs]
    have hdl : (xs.drop i).length = n - i := by rw [List.length_drop, HLEN.out]
    have hgm : Try.prog.underlying 80 = some (.slice 78) := Try.underlying80
    have hw1 : IntKind.i64.wrap ((i : Int) + 1) = (i : Int) + 1 := by rw [IntKind.wrap_i64]; omega
    have hb1 : (0 : Int) ≤ (i : Int) + 1 := by omega
    have hb3 : (i : Int) + 1 ≤ (n : Int) + 1 := by omega
    have hb5 : (i : Int) ≤ (n : Int) + 1 := by omega
    have htn : ((i : Int) + 1).toNat = i + 1 := by omega
    by_cases hroom : n + 1 ≤ cap
    · have hz3 : ¬ ((cap : Int) < (n : Int) + 1) := by omega
      obtain ⟨hsl, cur, hbk, hc1, hc2, hc3, hc4⟩ := HS.out
      have hov : ∀ lb cb, (callFunc 103 #[.slice (some ⟨vb, 0, none⟩) 1 vc, .slice (some ⟨b, i + 1, none⟩) lb cb]).run Try.prog w = .ok (.value (.bool false)) w := fun lb cb => by
        rw [run_callFunc_extern Try.func103 (by kernel_rfl) (by kernel_rfl) (by kernel_rfl) (e := Extern.SlicesOverlaps.overlaps #[80, 80] #[4]) (by kernel_rfl),
          Lib.run_overlaps_apart w 80 4 78 hgm 1 (fun w => by simp [sizeOf, typeInfo, hi0, hzs]) ⟨vb, 0, none⟩ ⟨b, i + 1, none⟩ 1 vc lb cb hvb 78 78 1 (cap * 1)
            (by simp [World.shape?, HX.out]) (by simp [World.shape?, hbk, hc3]) (by omega) (blk_frozen HX.out 0) (blk_frozen HX.out 1)]
        rfl
      have hcp1 : ∀ (W : World), (∀ x, W.cell? x = w.cell? x) → (∀ x, W.frozen? x = w.frozen? x) → ∀ ty dc sc, (Builtin.copy_ #[80, 80] ty #[.slice (some ⟨b, i + 1, none⟩) (n + 1 - (i + 1)) dc, .slice (some ⟨b, i, none⟩) (n + 1 - i) sc]).run Try.prog W = .ok (goInt (xs.drop i).length) (W.setCells b (i + 1) (xs.drop i)) := fun W hWc hWf ty dc sc =>
        run_copy_cells W _ _ ty 78 b (i + 1) (n + 1 - (i + 1)) dc ⟨b, i, none⟩ (n + 1 - i) sc (xs.drop i) hgm hsz (by rw [hdl]; simp only [Nat.min_def]; split <;> omega)
          (fun j v hj => by rw [Addr.add_lit, hWc]; exact HS.out.cell (by rwa [List.getElem?_drop] at hj))
          (fun j hj => by rw [hWc]; exact HS.out.cells (by omega)) (fun j hj => by rw [hWf]; exact HS.out.frozen _) (fun v hv => H1.out v (List.mem_of_mem_drop hv))
      obtain ⟨W1, hW1⟩ : ∃ W1, W1 = w.drew.setCells b (i + 1) (xs.drop i) := ⟨_, rfl⟩
      have hbk1 : W1.heap[b]? = some (.cells (sets cur (i + 1) (xs.drop i)) 78 (0, 0)) := by rw [hW1]; exact blk_sets _ _ _ _ hbk
      have hT1 : Touch (fun k => some b = some k) w W1 := by rw [hW1]; exact touch_sets _ _ _ ((Touch.refl _ w).drew) (fun _ => rfl)
      have hxv : W1.heap[vb]? = some (.cells #[x] 78 (0, 0)) := by rw [hT1.block vb hvw (by simp; exact fun e => hvb e.symm)]; exact HX.out
      have hcp2 : ∀ (W : World), W.heap = W1.heap → ∀ ty dc, (Builtin.copy_ #[80, 80] ty #[.slice (some ⟨b, i, none⟩) (n + 1 - i) dc, .slice (some ⟨vb, 0, none⟩) 1 vc]).run Try.prog W = .ok (goInt [x].length) (W.setCells b i [x]) := fun W hW ty dc =>
        run_copy_cells W _ _ ty 78 b i (n + 1 - i) dc ⟨vb, 0, none⟩ 1 vc [x] hgm hsz (by simp only [Nat.min_def]; split <;> simp <;> omega)
          (fun j v hj => by rw [Addr.add_lit]; refine blk_cell (by rw [hW]; exact hxv) ?_; rw [Nat.zero_add]; simpa using hj)
          (fun j hj => by
            have hj0 : j = 0 := by simpa using hj
            subst hj0
            rw [blk_cell (by rw [hW]; exact hbk1) (Array.getElem?_eq_getElem (by rw [sets_size]; omega))]; rfl)
          (fun j hj => blk_frozen (by rw [hW]; exact hbk1) _) (by intro u hu; simp at hu; subst hu; exact H1X.out)
      have hb2 : ¬ (cap = i + 1) := by omega
      have hb4 : ¬ (cap = i) := by omega
      have hfin : ∀ W, W.heap = (W1.setCells b i [x]).heap → Sl W 78 1 (some b) (n + 1) cap (xs.take i ++ x :: xs.drop i) := fun W hW => by
        refine ⟨by simp; omega, sets (sets cur (i + 1) (xs.drop i)) i [x], by rw [hW]; exact blk_sets _ _ _ _ hbk1, by omega, hc2, by rw [sets_size, sets_size]; exact hc3, ?_⟩
        rw [Nat.mul_one]
        exact ins_cells x HLEN.out (by omega) (by omega) (by rw [Nat.mul_one] at hc4; exact hc4)
      have hT2 : Touch (fun k => some b = some k) w (W1.setCells b i [x]) := touch_sets _ _ _ hT1 (fun _ => rfl)
      have HFIN := Lib.hid hfin
      have HT2 := Lib.hid hT2
      have HCP1 := Lib.hid hcp1
      have HCP2 := Lib.hid hcp2
      have HW1 := Lib.hid hW1
      clear hfin hT2 hT1 hxv hbk1 hcp1 hcp2 hW1 hsl hbk hc1 hc2 hc3 hc4
      go_enter Try.func79, Try.ntmps79
      go_wp2_with (simp only [hov])
      refine region_calm [.p 0, .p 1, .p 2, .p 3, .p 4, .p 5, .p 6, .p 7, .h 8 false] f_mixed (by kernel_rfl) (by kernel_rfl) ?_
      repeat (first | (refine plan_p rfl (fun K hK => ?_); go_simp; refine hK _ ?_; clear hK K) | (refine plan_l rfl (fun K hK => ?_); go_simp; refine hK _ ?_; clear hK K))
      refine plan_c rfl rfl (fun K _ hK => ?_)
      refine wpList_copy_runI _ rfl _ _ 80 80 rfl _ _ (by simp [Act.eval, Act.put]; rfl) (by simp [Act.eval, Act.put]; rfl) (HCP1.out _ (by exact fun _ => rfl) (by exact fun _ => rfl) _ _ _) ?_
      rw [← HW1.out]
      go_wp2
      refine plan_done ?_
      go_wp2_with (rw [HCP2.out W1 rfl])
      go_ret
      exact ⟨b, cap, rfl, HFIN.out _ rfl, HT2.out, .inl rfl⟩
    · have hz3 : (cap : Int) < (n : Int) + 1 := by omega
      have hkk : (n : Int) + 1 - (i : Int) = ((n + 1 - i : Nat) : Int) := by omega
      have hik : i + (n + 1 - i) = n + 1 := by omega
      have hold : (Builtin.firstCells i0.size i (.slice (some ⟨b, 0, none⟩) i cap)).run Try.prog w.drew = .ok (xs.take i).toArray w.drew := by
        rw [hzs]
        exact run_firstCells_some w.drew 1 i ⟨b, 0, none⟩ i cap (xs.take i) (by rw [List.length_take]; have := HLEN.out; omega) (fun j v hj => by
          rw [Addr.add_lit, Nat.zero_add]
          rw [List.getElem?_take] at hj
          split at hj
          · exact (HS.out.cell hj : w.cell? _ = _)
          · cases hj)
      have hrz : ∀ ty, (Builtin.append_ #[80, 3] ty #[.slice (some ⟨b, 0, none⟩) i cap, .int .i64 ((n : Int) + 1 - (i : Int))]).run Try.prog w =
          .ok (.slice (some ⟨w.heap.size, 0, none⟩) (n + 1) (grownCap w (n + 1) cap 78)) (w.drew.alloc (.cells ((xs.take i).toArray ++ Builtin.zeroCells z.cells (n + 1 - i) ++ Builtin.zeroCells z.cells (grownCap w (n + 1) cap 78 - (n + 1))) 78)) := fun ty => by
        have h := Lib.run_append_grow_zeros w 80 3 ty 78 i0 _ .i64 .i64 hgm Try.underlying3 hi0 hz0 (some ⟨b, 0, none⟩) i cap (xs.take i) hold (n + 1 - i) (by omega) (by omega) (by omega) (by omega) (by rw [hzb]; omega) (by rw [hzb, hik]; exact growslice_fits (by omega) hbig)
        rw [hik] at h
        rw [hkk]
        exact h
      obtain ⟨G, hG⟩ : ∃ G, G = grownCap w (n + 1) cap 78 := ⟨_, rfl⟩
      have hGn : n + 1 ≤ G := by rw [hG]; exact grownCap_ge w _ _ _
      have hG63 : G ≤ maxLen := by rw [hG]; exact grownCap_le_maxLen w (n + 1) cap 78 (by unfold maxLen; omega)
      rw [← hG] at hrz
      have hzl : ∀ k, (Builtin.zeroCells z.cells k).size = k := fun k => by simp [Builtin.zeroCells, hzc]
      obtain ⟨ROW, hROW⟩ : ∃ ROW : Array Value, ROW = (xs.take i).toArray ++ Builtin.zeroCells z.cells (n + 1 - i) ++ Builtin.zeroCells z.cells (G - (n + 1)) := ⟨_, rfl⟩
      have hRs : ROW.size = G := by rw [hROW]; simp [hzl]; have := HLEN.out; omega
      have hRl : ROW = (xs.take i ++ (Builtin.zeroCells z.cells (n + 1 - i)).toList ++ (Builtin.zeroCells z.cells (G - (n + 1))).toList).toArray := by rw [hROW]; simp
      have hrowf : (sets (sets ROW i [x]) (i + 1) (xs.drop i)).toList.take (n + 1) = xs.take i ++ x :: xs.drop i := by
        rw [hRl]; exact ins_cells2 x HLEN.out (by omega) (by rw [Array.length_toList]; exact hzl _)
      rw [← hROW] at hrz
      obtain ⟨W1, hW1⟩ : ∃ W1, W1 = w.drew.alloc (.cells ROW 78) := ⟨_, rfl⟩
      have hN : W1.heap[w.heap.size]? = some (.cells ROW 78 (0, 0)) := by rw [hW1]; exact blk_new w.drew _
      have hE1 : Ext w W1 := by rw [hW1]; exact ((Ext.refl w).drew).alloc _
      have hHe : ∀ W : World, W.heap = W1.heap → ∀ j, j < n + 1 → (W.cell? ⟨w.heap.size, j, none⟩).isSome = true := fun W hW j hj => by
        rw [blk_cell (by rw [hW]; exact hN) (Array.getElem?_eq_getElem (by omega))]; rfl
      have hcpA : ∀ (W : World), W.heap = W1.heap → ∀ ty dc, (Builtin.copy_ #[80, 80] ty #[.slice (some ⟨w.heap.size, i, none⟩) (n + 1 - i) dc, .slice (some ⟨vb, 0, none⟩) 1 vc]).run Try.prog W = .ok (goInt [x].length) (W.setCells w.heap.size i [x]) := fun W hW ty dc =>
        run_copy_cells W _ _ ty 78 w.heap.size i (n + 1 - i) dc ⟨vb, 0, none⟩ 1 vc [x] hgm hsz (by simp only [Nat.min_def]; split <;> simp <;> omega)
          (fun j v hj => by rw [Addr.add_lit]; refine blk_cell (by rw [hW]; exact Ext.block hE1 HX.out) ?_; rw [Nat.zero_add]; simpa using hj)
          (fun j hj => hHe W hW _ (by simp at hj; omega)) (fun j hj => blk_frozen (by rw [hW]; exact hN) _) (by intro u hu; simp at hu; subst hu; exact H1X.out)
      have hN2 : ∀ W : World, W.heap = W1.heap → (W.setCells w.heap.size i [x]).heap[w.heap.size]? = some (.cells (sets ROW i [x]) 78 (0, 0)) := fun W hW => blk_sets _ _ _ _ (by rw [hW]; exact hN)
      have hT2 : ∀ W : World, W.heap = W1.heap → W.os = W1.os → W.tape = W1.tape → W.output = W1.output → Touch (fun _ => False) w (W.setCells w.heap.size i [x]) := fun W hW h1 h2 h3 =>
        touch_sets _ _ _ ⟨h1.trans hE1.os, h2.trans hE1.tape, h3.trans hE1.output, by rw [hW]; exact hE1.size, fun k hk _ => by rw [hW]; exact Below.block hE1 k hk⟩ (fun h => by omega)
      have hcpB : ∀ (V : World), V.heap = (W1.setCells w.heap.size i [x]).heap → ∀ ty dc sc, (Builtin.copy_ #[80, 80] ty #[.slice (some ⟨w.heap.size, i + 1, none⟩) (n + 1 - (i + 1)) dc, .slice (some ⟨b, i, none⟩) (n - i) sc]).run Try.prog V = .ok (goInt (xs.drop i).length) (V.setCells w.heap.size (i + 1) (xs.drop i)) := fun V hV ty dc sc =>
        run_copy_cells V _ _ ty 78 w.heap.size (i + 1) (n + 1 - (i + 1)) dc ⟨b, i, none⟩ (n - i) sc (xs.drop i) hgm hsz (by rw [hdl]; simp only [Nat.min_def]; split <;> omega)
          (fun j v hj => by
            rw [Addr.add_lit]
            have h0 := HS.out.cell (by rwa [List.getElem?_drop] at hj)
            refine World.cell?_of_block (w := w) ?_ ▸ h0
            rw [hV]
            exact (hT2 W1 rfl rfl rfl rfl).block b hbw (fun h => h))
          (fun j hj => by rw [blk_cell (by rw [hV]; exact hN2 W1 rfl) (Array.getElem?_eq_getElem (by rw [sets_size, hRs]; omega))]; rfl)
          (fun j hj => blk_frozen (by rw [hV]; exact hN2 W1 rfl) _) (fun v hv => H1.out v (List.mem_of_mem_drop hv))
      have hfin : ∀ V, V.heap = ((W1.setCells w.heap.size i [x]).drew.setCells w.heap.size (i + 1) (xs.drop i)).heap → Sl V 78 1 (some w.heap.size) (n + 1) G (xs.take i ++ x :: xs.drop i) := fun V hV => by
        refine ⟨by simp; have := HLEN.out; omega, sets (sets ROW i [x]) (i + 1) (xs.drop i), by rw [hV]; exact blk_sets _ _ _ _ (hN2 W1 rfl), hGn, hG63, by rw [sets_size, sets_size, hRs, Nat.mul_one], ?_⟩
        rw [Nat.mul_one]; exact hrowf
      have hT3 : Touch (fun k => some b = some k) w ((W1.setCells w.heap.size i [x]).drew.setCells w.heap.size (i + 1) (xs.drop i)) := (touch_sets _ _ _ ((hT2 W1 rfl rfl rfl rfl).drew) (fun h => by omega)).mono (fun _ _ h => h.elim)
      unfold maxLen at hG63
      have hGi : ¬ (G = i) := by omega
      have hGim : ¬ (G = i + 1) := by omega
      have hci : ¬ (cap = i) := by omega
      have HFIN := Lib.hid hfin
      have HT3 := Lib.hid hT3
      have HRZ := Lib.hid hrz
      have HCPA := Lib.hid hcpA
      have HCPB := Lib.hid hcpB
      have HW1 := Lib.hid hW1
      clear hfin hT3 hrz hcpA hcpB hW1 hT2 hN2 hHe hE1 hN hrowf hRl hRs hROW hzl hG hold hik hkk hi0 hz0 hzs hzb hzc hsz hdl
      go_enter Try.func79, Try.ntmps79
      go_wp2_with (first | (at_builtin; refine Lib.wpList_append_run _ rfl _ _ _ _ rfl _ _ rfl rfl _ _ (HRZ.out _) ?_; rw [← HW1.out]) | (rw [HCPA.out W1 rfl]))
      refine region_calm [.p 0, .p 1, .p 2, .p 3, .p 4, .p 5, .p 6, .p 7, .h 8 false] f_mixed (by kernel_rfl) (by kernel_rfl) ?_
      repeat (first | (refine plan_p rfl (fun K hK => ?_); go_simp; refine hK _ ?_; clear hK K) | (refine plan_l rfl (fun K hK => ?_); go_simp; refine hK _ ?_; clear hK K))
      refine plan_c rfl rfl (fun K _ hK => ?_)
      refine wpList_copy_runI _ rfl _ _ 80 80 rfl _ _ (by simp [Act.eval, Act.put]; rfl) (by simp [Act.eval, Act.put]; rfl) (HCPB.out _ (by rfl) _ _ _) ?_
      go_wp2
      refine plan_done ?_
      go_wp2
      go_ret
      exact ⟨w.heap.size, G, rfl, HFIN.out _ rfl, HT3.out, .inr (Nat.le_refl _)⟩
end Go.Proofs.Ytkejjahlglldlaa
