/- slices.Delete of one element, at texts, numbers, nodes: walked over owned slices. -/
import Derived.Test.YtkejjahlglldlaaME
import Derived.Deep.RegionLaw
import Derived.Lib.SliceRun
namespace Go.Proofs.Ytkejjahlglldlaa
open Go.RowKit Go.Lib

theorem del_cells {cur : Array Value} {xs : List Value} (z : Value) {i n : Nat} (hl : xs.length = n) (hi : i < n) (hc : n ≤ cur.size) (ht : cur.toList.take n = xs) :
    (sets (sets cur i (xs.drop (i + 1))) (i + (n - (i + 1))) [z]).toList.take (n - 1) = xs.take i ++ xs.drop (i + 1) := by
  have hd : (xs.drop (i + 1)).length = n - (i + 1) := by rw [List.length_drop, hl]
  rw [sets_list [z] _ _ (by rw [sets_size]; simp; omega), sets_list _ i _ (by rw [hd]; omega)]
  have h1 : cur.toList.take i = xs.take i := by rw [← ht, List.take_take]; congr 1; omega
  rw [h1, List.append_assoc, List.take_append_of_le_length (by simp; omega), List.take_take, List.take_left' (by simp; omega)]

set_option maxHeartbeats 4000000 in
set_option maxRecDepth 1000000 in
theorem DelS (b n cap i j : Nat) (xs : List Value) (w : World) (hs : Sl w 9 1 (some b) n cap xs) (hi : i < n) (hj : j = i + 1) (h1 : ∀ u ∈ xs, u.oneCell' = true) :
    Calls Try.prog 110 #[.slice (some ⟨b, 0, none⟩) n cap, .int .i64 (i : Int), .int .i64 (j : Int)] w fun e w' => e = .returned (.slice (some ⟨b, 0, none⟩) (n - 1) cap) ∧
      Sl w' 9 1 (some b) (n - 1) cap (xs.take i ++ xs.drop (i + 1)) ∧ Touch (fun k => k = b) w w' := by
  have hlen := hs.len
  have hle := hs.le
  have hcm := hs.cap_le
  have hbw := hs.block_lt
  unfold maxLen at hcm
  rw [Nat.mul_one] at hlen
  obtain ⟨i0, hi0, hz0, hzs, hzb⟩ := info_parts (P := Try.prog) (e := 9) (z := (.string ⟨#[]⟩)) (size := 1) (bytes := 16) (by kernel_rfl)
  have hgm : Try.prog.underlying 79 = some (.slice 9) := Try.underlying79
  have hdl : (xs.drop j).length = n - j := by rw [List.length_drop, hlen]
  obtain ⟨A, hA, hsrc⟩ : ∃ A : Addr, (if cap = j then some (⟨b, 0, none⟩ : Addr) else some ⟨b, j, none⟩) = some A ∧ Hid (∀ t u, (xs.drop j)[t]? = some u → w.drew.cell? (A.add t) = some u) := by
    by_cases h : cap = j
    · refine ⟨⟨b, 0, none⟩, by simp [h], fun t u hu => ?_⟩
      have := (List.getElem?_eq_some_iff.1 hu).1
      omega
    · refine ⟨⟨b, j, none⟩, by simp [h], fun t u hu => ?_⟩
      rw [Addr.add_lit]
      exact hs.cell (by rwa [List.getElem?_drop] at hu)
  have s1 : Hid ((xs.drop j).length = (n - j) * 1) := by rw [Nat.mul_one]; exact hdl
  have s2 : Hid (∀ u ∈ xs.drop j, u.oneCell' = true) := fun u hu => h1 u (List.mem_of_mem_drop hu)
  have s3 : Hid (∀ t, t < (xs.drop j).length → (w.drew.cell? ⟨b, 0 + i * 1 + t, none⟩).isSome = true ∧ w.drew.frozen? ⟨b, 0 + i * 1 + t, none⟩ = false) := by
    intro t ht
    exact ⟨hs.cells (by omega), hs.frozen _⟩
  obtain ⟨_, cur, hbk, hc1, hc2, hc3, hc4⟩ := hs
  rw [Nat.mul_one] at hc3 hc4
  obtain ⟨W1, hW1⟩ : ∃ W1, W1 = w.drew.setCells b (0 + i * 1) (xs.drop j) := ⟨_, rfl⟩
  have e0 : 0 + i * 1 = i := by omega
  have hbk1 : W1.heap[b]? = some (.cells (sets cur i (xs.drop j)) 9 (0, 0)) := by rw [hW1, e0]; exact blk_sets _ _ _ _ hbk
  have hT1 : Touch (fun k => k = b) w W1 := by rw [hW1]; exact touch_sets _ _ _ ((Touch.refl _ w).drew) (fun _ => rfl)
  have hcl : ∀ ty c, (Builtin.clear_ #[79] ty #[.slice (some ⟨b, i + (n - j), none⟩) (n - (i + (n - j))) c]).run Try.prog W1 = .ok (.tuple #[]) (W1.setCells b (i + (n - j)) [(.string ⟨#[]⟩)]) := by
    intro ty c
    have := Lib.run_clear_slice W1 79 9 ty (.string ⟨#[]⟩) hgm (fun w => by simp [zeroValue, typeInfo, hi0, hz0]) rfl rfl b (i + (n - j)) (n - (i + (n - j))) c (by omega)
      (fun t ht => by rw [blk_cell hbk1 (Array.getElem?_eq_getElem (by rw [sets_size]; omega))]; rfl) (fun t ht => blk_frozen hbk1 _)
    have e1 : n - (i + (n - j)) = 1 := by omega
    rw [e1] at this ⊢
    exact this
  have hfin : Sl (W1.setCells b (i + (n - j)) [(.string ⟨#[]⟩)]) 9 1 (some b) (n - 1) cap (xs.take i ++ xs.drop (i + 1)) := by
    refine ⟨by simp; omega, sets (sets cur i (xs.drop j)) (i + (n - j)) [(.string ⟨#[]⟩)], blk_sets _ _ _ _ hbk1, by omega, hc2, by rw [sets_size, sets_size, Nat.mul_one]; exact hc3, ?_⟩
    rw [Nat.mul_one, hj]
    exact del_cells (.string ⟨#[]⟩) hlen hi (by omega) hc4
  have hT2 : Touch (fun k => k = b) w (W1.setCells b (i + (n - j)) [(.string ⟨#[]⟩)]) := touch_sets _ _ _ hT1 (fun _ => rfl)
  have hn1 : i + (n - j) = n - 1 := by omega
  have HFIN := Lib.hid hfin
  have HT2 := Lib.hid hT2
  have HCL := Lib.hid hcl
  have HW1 := Lib.hid hW1
  have HN1 := Lib.hid hn1
  have hij : ((i : Int) == (j : Int)) = false := by simp; omega
  have hJ := Lib.hid hj
  have hne : ¬ cap = i + (n - j) := by omega
  have hji : i ≤ j := by omega
  have hjn : j ≤ n := by omega
  have hic : i ≤ cap := by omega
  have hjc : j ≤ cap := by omega
  clear hj hn1 hfin hT2 hT1 hbk1 hbk hcl hW1 hc1 hc2 hc3 hc4 h1 e0 hlen hdl
  have hmixed := f_mixed
  go_enter Try.func110, Try.ntmps110
  go_wp2_with fail
  go_region_law_o (refine step_append_room rfl (.tmp 22) (.tmp 25) 79 rfl 9 i0 1 hgm hi0 hzs b 0 i cap (by simp [Act.eval, Act.put]) A (n - j) (cap - j) (xs.drop j) (by simp [Act.eval, Act.put]) s1.out hsrc.out s2.out (by omega) s3.out ?_; rw [← HW1.out])
  go_wp2_with (rw [HCL.out])
  go_ret
  exact ⟨by rw [HN1.out]; rfl, HFIN.out, HT2.out⟩
theorem DelS_at {g : Option Nat} {n cap i : Nat} {xs : List Value} {w : World} {I J : Int} (hs : Sl w 9 1 g n cap xs) (hi : i < n) (hI : I = (i : Int)) (hJ : J = (i : Int) + 1) (h1 : ∀ u ∈ xs, u.oneCell' = true) :
    Calls Try.prog 110 #[slv g n cap, .int .i64 I, .int .i64 J] w fun e w' => e = .returned (slv g (n - 1) cap) ∧ Sl w' 9 1 g (n - 1) cap (xs.take i ++ xs.drop (i + 1)) ∧ Touch (fun k => g = some k) w w' := by
  subst hI hJ
  obtain ⟨b, rfl⟩ := hs.some_of_pos (by omega)
  refine (DelS b n cap i (i + 1) xs w hs hi rfl h1).mono ?_
  rintro e w' ⟨h1, h2, h3⟩
  exact ⟨h1, h2, h3.mono fun k _ h => by rw [h]⟩
set_option maxHeartbeats 4000000 in
set_option maxRecDepth 1000000 in
theorem DelI (b n cap i j : Nat) (xs : List Value) (w : World) (hs : Sl w 2 1 (some b) n cap xs) (hi : i < n) (hj : j = i + 1) (h1 : ∀ u ∈ xs, u.oneCell' = true) :
    Calls Try.prog 111 #[.slice (some ⟨b, 0, none⟩) n cap, .int .i64 (i : Int), .int .i64 (j : Int)] w fun e w' => e = .returned (.slice (some ⟨b, 0, none⟩) (n - 1) cap) ∧
      Sl w' 2 1 (some b) (n - 1) cap (xs.take i ++ xs.drop (i + 1)) ∧ Touch (fun k => k = b) w w' := by
  have hlen := hs.len
  have hle := hs.le
  have hcm := hs.cap_le
  have hbw := hs.block_lt
  unfold maxLen at hcm
  rw [Nat.mul_one] at hlen
  obtain ⟨i0, hi0, hz0, hzs, hzb⟩ := info_parts (P := Try.prog) (e := 2) (z := (.int .i64 0)) (size := 1) (bytes := 8) (by kernel_rfl)
  have hgm : Try.prog.underlying 46 = some (.slice 2) := Try.underlying46
  have hdl : (xs.drop j).length = n - j := by rw [List.length_drop, hlen]
  obtain ⟨A, hA, hsrc⟩ : ∃ A : Addr, (if cap = j then some (⟨b, 0, none⟩ : Addr) else some ⟨b, j, none⟩) = some A ∧ Hid (∀ t u, (xs.drop j)[t]? = some u → w.drew.cell? (A.add t) = some u) := by
    by_cases h : cap = j
    · refine ⟨⟨b, 0, none⟩, by simp [h], fun t u hu => ?_⟩
      have := (List.getElem?_eq_some_iff.1 hu).1
      omega
    · refine ⟨⟨b, j, none⟩, by simp [h], fun t u hu => ?_⟩
      rw [Addr.add_lit]
      exact hs.cell (by rwa [List.getElem?_drop] at hu)
  have s1 : Hid ((xs.drop j).length = (n - j) * 1) := by rw [Nat.mul_one]; exact hdl
  have s2 : Hid (∀ u ∈ xs.drop j, u.oneCell' = true) := fun u hu => h1 u (List.mem_of_mem_drop hu)
  have s3 : Hid (∀ t, t < (xs.drop j).length → (w.drew.cell? ⟨b, 0 + i * 1 + t, none⟩).isSome = true ∧ w.drew.frozen? ⟨b, 0 + i * 1 + t, none⟩ = false) := by
    intro t ht
    exact ⟨hs.cells (by omega), hs.frozen _⟩
  obtain ⟨_, cur, hbk, hc1, hc2, hc3, hc4⟩ := hs
  rw [Nat.mul_one] at hc3 hc4
  obtain ⟨W1, hW1⟩ : ∃ W1, W1 = w.drew.setCells b (0 + i * 1) (xs.drop j) := ⟨_, rfl⟩
  have e0 : 0 + i * 1 = i := by omega
  have hbk1 : W1.heap[b]? = some (.cells (sets cur i (xs.drop j)) 2 (0, 0)) := by rw [hW1, e0]; exact blk_sets _ _ _ _ hbk
  have hT1 : Touch (fun k => k = b) w W1 := by rw [hW1]; exact touch_sets _ _ _ ((Touch.refl _ w).drew) (fun _ => rfl)
  have hcl : ∀ ty c, (Builtin.clear_ #[46] ty #[.slice (some ⟨b, i + (n - j), none⟩) (n - (i + (n - j))) c]).run Try.prog W1 = .ok (.tuple #[]) (W1.setCells b (i + (n - j)) [(.int .i64 0)]) := by
    intro ty c
    have := Lib.run_clear_slice W1 46 2 ty (.int .i64 0) hgm (fun w => by simp [zeroValue, typeInfo, hi0, hz0]) rfl rfl b (i + (n - j)) (n - (i + (n - j))) c (by omega)
      (fun t ht => by rw [blk_cell hbk1 (Array.getElem?_eq_getElem (by rw [sets_size]; omega))]; rfl) (fun t ht => blk_frozen hbk1 _)
    have e1 : n - (i + (n - j)) = 1 := by omega
    rw [e1] at this ⊢
    exact this
  have hfin : Sl (W1.setCells b (i + (n - j)) [(.int .i64 0)]) 2 1 (some b) (n - 1) cap (xs.take i ++ xs.drop (i + 1)) := by
    refine ⟨by simp; omega, sets (sets cur i (xs.drop j)) (i + (n - j)) [(.int .i64 0)], blk_sets _ _ _ _ hbk1, by omega, hc2, by rw [sets_size, sets_size, Nat.mul_one]; exact hc3, ?_⟩
    rw [Nat.mul_one, hj]
    exact del_cells (.int .i64 0) hlen hi (by omega) hc4
  have hT2 : Touch (fun k => k = b) w (W1.setCells b (i + (n - j)) [(.int .i64 0)]) := touch_sets _ _ _ hT1 (fun _ => rfl)
  have hn1 : i + (n - j) = n - 1 := by omega
  have HFIN := Lib.hid hfin
  have HT2 := Lib.hid hT2
  have HCL := Lib.hid hcl
  have HW1 := Lib.hid hW1
  have HN1 := Lib.hid hn1
  have hij : ((i : Int) == (j : Int)) = false := by simp; omega
  have hJ := Lib.hid hj
  have hne : ¬ cap = i + (n - j) := by omega
  have hji : i ≤ j := by omega
  have hjn : j ≤ n := by omega
  have hic : i ≤ cap := by omega
  have hjc : j ≤ cap := by omega
  clear hj hn1 hfin hT2 hT1 hbk1 hbk hcl hW1 hc1 hc2 hc3 hc4 h1 e0 hlen hdl
  have hmixed := f_mixed
  go_enter Try.func111, Try.ntmps111
  go_wp2_with fail
  go_region_law_o (refine step_append_room rfl (.tmp 22) (.tmp 25) 46 rfl 2 i0 1 hgm hi0 hzs b 0 i cap (by simp [Act.eval, Act.put]) A (n - j) (cap - j) (xs.drop j) (by simp [Act.eval, Act.put]) s1.out hsrc.out s2.out (by omega) s3.out ?_; rw [← HW1.out])
  go_wp2_with (rw [HCL.out])
  go_ret
  exact ⟨by rw [HN1.out]; rfl, HFIN.out, HT2.out⟩
theorem DelI_at {g : Option Nat} {n cap i : Nat} {xs : List Value} {w : World} {I J : Int} (hs : Sl w 2 1 g n cap xs) (hi : i < n) (hI : I = (i : Int)) (hJ : J = (i : Int) + 1) (h1 : ∀ u ∈ xs, u.oneCell' = true) :
    Calls Try.prog 111 #[slv g n cap, .int .i64 I, .int .i64 J] w fun e w' => e = .returned (slv g (n - 1) cap) ∧ Sl w' 2 1 g (n - 1) cap (xs.take i ++ xs.drop (i + 1)) ∧ Touch (fun k => g = some k) w w' := by
  subst hI hJ
  obtain ⟨b, rfl⟩ := hs.some_of_pos (by omega)
  refine (DelI b n cap i (i + 1) xs w hs hi rfl h1).mono ?_
  rintro e w' ⟨h1, h2, h3⟩
  exact ⟨h1, h2, h3.mono fun k _ h => by rw [h]⟩
set_option maxHeartbeats 4000000 in
set_option maxRecDepth 1000000 in
theorem DelN (b n cap i j : Nat) (xs : List Value) (w : World) (hs : Sl w 78 1 (some b) n cap xs) (hi : i < n) (hj : j = i + 1) (h1 : ∀ u ∈ xs, u.oneCell' = true) :
    Calls Try.prog 146 #[.slice (some ⟨b, 0, none⟩) n cap, .int .i64 (i : Int), .int .i64 (j : Int)] w fun e w' => e = .returned (.slice (some ⟨b, 0, none⟩) (n - 1) cap) ∧
      Sl w' 78 1 (some b) (n - 1) cap (xs.take i ++ xs.drop (i + 1)) ∧ Touch (fun k => k = b) w w' := by
  have hlen := hs.len
  have hle := hs.le
  have hcm := hs.cap_le
  have hbw := hs.block_lt
  unfold maxLen at hcm
  rw [Nat.mul_one] at hlen
  obtain ⟨i0, hi0, hz0, hzs, hzb⟩ := info_parts (P := Try.prog) (e := 78) (z := (.pointer none)) (size := 1) (bytes := 8) (by kernel_rfl)
  have hgm : Try.prog.underlying 80 = some (.slice 78) := Try.underlying80
  have hdl : (xs.drop j).length = n - j := by rw [List.length_drop, hlen]
  obtain ⟨A, hA, hsrc⟩ : ∃ A : Addr, (if cap = j then some (⟨b, 0, none⟩ : Addr) else some ⟨b, j, none⟩) = some A ∧ Hid (∀ t u, (xs.drop j)[t]? = some u → w.drew.cell? (A.add t) = some u) := by
    by_cases h : cap = j
    · refine ⟨⟨b, 0, none⟩, by simp [h], fun t u hu => ?_⟩
      have := (List.getElem?_eq_some_iff.1 hu).1
      omega
    · refine ⟨⟨b, j, none⟩, by simp [h], fun t u hu => ?_⟩
      rw [Addr.add_lit]
      exact hs.cell (by rwa [List.getElem?_drop] at hu)
  have s1 : Hid ((xs.drop j).length = (n - j) * 1) := by rw [Nat.mul_one]; exact hdl
  have s2 : Hid (∀ u ∈ xs.drop j, u.oneCell' = true) := fun u hu => h1 u (List.mem_of_mem_drop hu)
  have s3 : Hid (∀ t, t < (xs.drop j).length → (w.drew.cell? ⟨b, 0 + i * 1 + t, none⟩).isSome = true ∧ w.drew.frozen? ⟨b, 0 + i * 1 + t, none⟩ = false) := by
    intro t ht
    exact ⟨hs.cells (by omega), hs.frozen _⟩
  obtain ⟨_, cur, hbk, hc1, hc2, hc3, hc4⟩ := hs
  rw [Nat.mul_one] at hc3 hc4
  obtain ⟨W1, hW1⟩ : ∃ W1, W1 = w.drew.setCells b (0 + i * 1) (xs.drop j) := ⟨_, rfl⟩
  have e0 : 0 + i * 1 = i := by omega
  have hbk1 : W1.heap[b]? = some (.cells (sets cur i (xs.drop j)) 78 (0, 0)) := by rw [hW1, e0]; exact blk_sets _ _ _ _ hbk
  have hT1 : Touch (fun k => k = b) w W1 := by rw [hW1]; exact touch_sets _ _ _ ((Touch.refl _ w).drew) (fun _ => rfl)
  have hcl : ∀ ty c, (Builtin.clear_ #[80] ty #[.slice (some ⟨b, i + (n - j), none⟩) (n - (i + (n - j))) c]).run Try.prog W1 = .ok (.tuple #[]) (W1.setCells b (i + (n - j)) [(.pointer none)]) := by
    intro ty c
    have := Lib.run_clear_slice W1 80 78 ty (.pointer none) hgm (fun w => by simp [zeroValue, typeInfo, hi0, hz0]) rfl rfl b (i + (n - j)) (n - (i + (n - j))) c (by omega)
      (fun t ht => by rw [blk_cell hbk1 (Array.getElem?_eq_getElem (by rw [sets_size]; omega))]; rfl) (fun t ht => blk_frozen hbk1 _)
    have e1 : n - (i + (n - j)) = 1 := by omega
    rw [e1] at this ⊢
    exact this
  have hfin : Sl (W1.setCells b (i + (n - j)) [(.pointer none)]) 78 1 (some b) (n - 1) cap (xs.take i ++ xs.drop (i + 1)) := by
    refine ⟨by simp; omega, sets (sets cur i (xs.drop j)) (i + (n - j)) [(.pointer none)], blk_sets _ _ _ _ hbk1, by omega, hc2, by rw [sets_size, sets_size, Nat.mul_one]; exact hc3, ?_⟩
    rw [Nat.mul_one, hj]
    exact del_cells (.pointer none) hlen hi (by omega) hc4
  have hT2 : Touch (fun k => k = b) w (W1.setCells b (i + (n - j)) [(.pointer none)]) := touch_sets _ _ _ hT1 (fun _ => rfl)
  have hn1 : i + (n - j) = n - 1 := by omega
  have HFIN := Lib.hid hfin
  have HT2 := Lib.hid hT2
  have HCL := Lib.hid hcl
  have HW1 := Lib.hid hW1
  have HN1 := Lib.hid hn1
  have hij : ((i : Int) == (j : Int)) = false := by simp; omega
  have hJ := Lib.hid hj
  have hne : ¬ cap = i + (n - j) := by omega
  have hji : i ≤ j := by omega
  have hjn : j ≤ n := by omega
  have hic : i ≤ cap := by omega
  have hjc : j ≤ cap := by omega
  clear hj hn1 hfin hT2 hT1 hbk1 hbk hcl hW1 hc1 hc2 hc3 hc4 h1 e0 hlen hdl
  have hmixed := f_mixed
  go_enter Try.func146, Try.ntmps146
  go_wp2_with fail
  go_region_law_o (refine step_append_room rfl (.tmp 22) (.tmp 25) 80 rfl 78 i0 1 hgm hi0 hzs b 0 i cap (by simp [Act.eval, Act.put]) A (n - j) (cap - j) (xs.drop j) (by simp [Act.eval, Act.put]) s1.out hsrc.out s2.out (by omega) s3.out ?_; rw [← HW1.out])
  go_wp2_with (rw [HCL.out])
  go_ret
  exact ⟨by rw [HN1.out]; rfl, HFIN.out, HT2.out⟩
theorem DelN_at {g : Option Nat} {n cap i : Nat} {xs : List Value} {w : World} {I J : Int} (hs : Sl w 78 1 g n cap xs) (hi : i < n) (hI : I = (i : Int)) (hJ : J = (i : Int) + 1) (h1 : ∀ u ∈ xs, u.oneCell' = true) :
    Calls Try.prog 146 #[slv g n cap, .int .i64 I, .int .i64 J] w fun e w' => e = .returned (slv g (n - 1) cap) ∧ Sl w' 78 1 g (n - 1) cap (xs.take i ++ xs.drop (i + 1)) ∧ Touch (fun k => g = some k) w w' := by
  subst hI hJ
  obtain ⟨b, rfl⟩ := hs.some_of_pos (by omega)
  refine (DelN b n cap i (i + 1) xs w hs hi rfl h1).mono ?_
  rintro e w' ⟨h1, h2, h3⟩
  exact ⟨h1, h2, h3.mono fun k _ h => by rw [h]⟩
end Go.Proofs.Ytkejjahlglldlaa
