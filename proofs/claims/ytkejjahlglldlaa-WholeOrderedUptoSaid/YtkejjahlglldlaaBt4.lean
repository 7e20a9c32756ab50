/- slices.BinarySearch at texts; a node's find and leaf; sizes.most: walked. -/
import Derived.Test.YtkejjahlglldlaaBt1
import Derived.Test.YtkejjahlglldlaaBt2
namespace Go.Proofs.Ytkejjahlglldlaa
open Go.RowKit Go.Lib

set_option maxRecDepth 100000 in
set_option maxHeartbeats 400000 in
theorem isNaN_cs (a : List UInt8) (w : World) : Calls Try.prog 143 #[str a] w fun e w' => e = .returned (.bool false) ∧ w = w' := by
  go_enter Try.func143, Try.ntmps143
  go_wp2
  go_ret
  exact ⟨by simp, rfl⟩
set_option maxRecDepth 100000 in
set_option maxHeartbeats 400000 in
theorem isNaN_ss (a : List UInt8) (w : World) : Calls Try.prog 106 #[str a] w fun e w' => e = .returned (.bool false) ∧ w = w' := by
  go_enter Try.func106, Try.ntmps106
  go_wp2
  go_ret
  exact ⟨by simp, rfl⟩
set_option maxRecDepth 100000 in
set_option maxHeartbeats 400000 in
theorem less_s (a b : List UInt8) (w : World) : Calls Try.prog 105 #[str a, str b] w fun e w' => e = .returned (.bool (Op.bytesLess a b)) ∧ w = w' := by
  go_enter Try.func105, Try.ntmps105
  go_wp2_with (go_at_call 143; refine (isNaN_cs _ _).mono ?_; rintro e w' ⟨rfl, rfl⟩)
  go_ret
  exact ⟨by simp [bs_toList], rfl⟩
theorem sK_get {es : List Ent} {i : Nat} {e : Ent} (h : es[i]? = some e) : (sK es)[i]? = some (str e.1) := by simp [sK, h]
theorem sV_get {es : List Ent} {i : Nat} {e : Ent} (h : es[i]? = some e) : (sV es)[i]? = some (.int .i64 e.2) := by simp [sV, h]
theorem sP_get {ps : List Nat} {i : Nat} {b : Nat} (h : ps[i]? = some b) : (sP ps)[i]? = some (.pointer (some ⟨b, 0, none⟩)) := by simp [sP, h, adr]

theorem Srt.below {es : List Ent} (h : Srt es) {j : Nat} {x : Ent} {k : List UInt8} (hx : es[j]? = some x) (hk : Op.bytesLess x.1 k = true) : ∀ e ∈ es.take (j + 1), blt e.1 k := by
  intro e he
  obtain ⟨i, hi, rfl⟩ := List.getElem_of_mem he
  rw [List.length_take] at hi
  rw [List.getElem_take]
  obtain ⟨hj, rfl⟩ := List.getElem?_eq_some_iff.1 hx
  by_cases hij : i = j
  · subst hij; exact hk
  · exact bl_trans _ _ _ ((List.pairwise_iff_getElem.1 h) i j (by omega) hj (by omega)) hk

set_option maxRecDepth 100000 in
set_option maxHeartbeats 2000000 in
theorem search_ok (g : Option Nat) (cap : Nat) (es : List Ent) (k : List UInt8) (w : World) (hs : Sl w 9 1 g es.length cap (sK es)) (hsz : es.length ≤ 1000000000) (hsrt : Srt es) :
    Calls Try.prog 80 #[slv g es.length cap, str k] w fun e w' => e = .returned (.tuple #[.int .i64 (pos k es : Int), .bool (at_ k es)]) ∧ w = w' := by
  have HS := Lib.hid hs; clear hs
  have HSRT := Lib.hid hsrt; clear hsrt
  obtain ⟨n, hn⟩ : ∃ n, n = es.length := ⟨_, rfl⟩
  rw [← hn] at hsz ⊢
  have HN := Lib.hid hn; clear hn
  go_enter Try.func80, Try.ntmps80
  go_wp2
  go_loopg [7, 8] n (fun m v7 v8 wr => ∃ i j : Nat, v7 = .int .i64 (i : Int) ∧ v8 = .int .i64 (j : Int) ∧ i + m = j ∧ j ≤ n ∧ (∀ e ∈ es.take i, blt e.1 k) ∧ (∀ e, es[j]? = some e → Op.bytesLess e.1 k = false) ∧ w = wr)
  case atStart => exact ⟨0, n, rfl, rfl, by omega, Nat.le_refl _, by simp, fun e he => absurd (List.getElem?_eq_some_iff.1 he).1 (by have := HN.out; omega), rfl⟩
  case round =>
    obtain ⟨i, j, rfl, rfl, hij, hjn, hlo, hhi, hw⟩ := hrel
    have HLO := Lib.hid hlo; clear hlo
    have HHI := Lib.hid hhi; clear hhi
    have HW := Lib.hid hw; clear hw
    by_cases hlt : i < j
    · obtain ⟨h, hh⟩ : ∃ h : Nat, h = (i + j) / 2 := ⟨_, rfl⟩
      have hh1 : i ≤ h ∧ h < j := by omega
      obtain ⟨b, hb⟩ := HS.out.some_of_pos (by have := HN.out; omega)
      obtain ⟨e, he⟩ : ∃ e, es[h]? = some e := ⟨es[h]'(by have := HN.out; omega), List.getElem?_eq_getElem _⟩
      have hc := HS.out
      rw [hb] at hc
      have hc2 := hc.cell (sK_get he)
      rw [HW.out] at hc2
      have HE := Lib.hid he
      have HB := Lib.hid hb
      have hdiv : ((i : Int) + (j : Int)) / 2 = (h : Int) := by omega
      have hri := fun W => run_index_slv (P := Try.prog) ei_string (cap := cap) HB.out (j := h) (n := n) (by omega) W
      have HH := Lib.hid hh
      clear hc he hb hh
      cases hbl : Op.bytesLess e.1 k
      · go_wp2_with (first | (go_at_call 105; refine (less_s _ _ _).mono ?_; rintro e w' ⟨rfl, rfl⟩))
        go_roundg (h - i)
        case measure => omega
        case rel => exact ⟨i, h, rfl, rfl, by omega, by omega, HLO.out, fun e' he' => by rw [HE.out] at he'; cases he'; exact hbl, HW.out⟩
      · go_wp2_with (first | (go_at_call 105; refine (less_s _ _ _).mono ?_; rintro e w' ⟨rfl, rfl⟩))
        go_roundg (j - (h + 1))
        case measure => omega
        case rel => exact ⟨h + 1, j, by go_num, rfl, by omega, hjn, Srt.below HSRT.out HE.out hbl, HHI.out, HW.out⟩
    · obtain rfl : i = j := by omega
      have hpos : i = pos k es := pos_unique k (by have := HN.out; omega) HLO.out HHI.out
      have HPOS := Lib.hid hpos; clear hpos
      by_cases hin : i < n
      · obtain ⟨b, hb⟩ := HS.out.some_of_pos (by have := HN.out; omega)
        obtain ⟨e, he⟩ : ∃ e, es[i]? = some e := ⟨es[i]'(by have := HN.out; omega), List.getElem?_eq_getElem _⟩
        have hc := HS.out
        rw [hb] at hc
        have hc2 := hc.cell (sK_get he)
        rw [HW.out] at hc2
        have HE := Lib.hid he
        have HB := Lib.hid hb
        have hri := fun W => run_index_slv (P := Try.prog) ei_string (cap := cap) HB.out (j := i) (n := n) (by omega) W
        clear hc he hb
        go_wp2_with (first | (go_at_call 106; refine (isNaN_ss _ _).mono ?_; rintro e w' ⟨rfl, rfl⟩))
        · rename_i h
          rw [bs_toList, bs_toList] at h
          go_ret2
          refine ⟨?_, HW.out⟩
          have : at_ k es = true := by unfold at_; rw [← HPOS.out, HE.out]; exact decide_eq_true h
          rw [this, ← HPOS.out]
          rfl
        · rename_i h
          rw [bs_toList, bs_toList] at h
          have hb2 : ((bs e.1).toList == (bs k).toList) = false := by rw [bs_toList, bs_toList]; simpa using h
          rw [hb2]
          go_ret2
          refine ⟨?_, HW.out⟩
          have : at_ k es = false := by unfold at_; rw [← HPOS.out, HE.out]; exact decide_eq_false h
          rw [this, ← HPOS.out]
          rfl
      · go_wp2
        go_ret2
        refine ⟨?_, HW.out⟩
        have : at_ k es = false := by unfold at_; rw [← HPOS.out, List.getElem?_eq_none (by have := HN.out; omega)]
        rw [this, ← HPOS.out]
        rfl

theorem blk3' {w : World} {b : Nat} {t : TypeId} {f : Nat × Nat} {v0 v1 v2 : Value} (h : w.heap[b]? = some (.cells #[v0, v1, v2] t f)) : w.cell? ⟨b, 0, none⟩ = some v0 ∧ w.cell? ⟨b, 1, none⟩ = some v1 ∧ w.cell? ⟨b, 2, none⟩ = some v2 := blk3 h
set_option maxRecDepth 100000 in
set_option maxHeartbeats 1000000 in
theorem find_ok {b : Nat} {es : List Ent} {ps : List Nat} {gk gv gc : Option Nat} {ck cv cc : Nat} {w : World} (hn : NodeAt w b es ps gk gv gc ck cv cc) (k : List UInt8) (hsz : es.length ≤ 1000000000) (hsrt : Srt es) :
    Calls Try.prog 33 #[.pointer (some ⟨b, 0, none⟩), str k] w fun e w' => e = .returned (.tuple #[.int .i64 (pos k es : Int), .bool (at_ k es)]) ∧ w = w' := by
  obtain ⟨c0, c1, c2⟩ := blk3 hn.blk
  have HK := Lib.hid hn.keys
  have HS := Lib.hid hsrt
  clear hn hsrt
  go_enter Try.func33, Try.ntmps33
  go_wp2_with (first | (go_at_call 80; refine (search_ok gk ck es k w HK.out hsz HS.out).mono ?_; rintro e w' ⟨rfl, rfl⟩))
  go_ret2
  exact ⟨rfl, rfl⟩
set_option maxRecDepth 100000 in
set_option maxHeartbeats 1000000 in
theorem leaf_ok {b : Nat} {es : List Ent} {ps : List Nat} {gk gv gc : Option Nat} {ck cv cc : Nat} {w : World} (hn : NodeAt w b es ps gk gv gc ck cv cc) :
    Calls Try.prog 34 #[.pointer (some ⟨b, 0, none⟩)] w fun e w' => e = .returned (.bool (decide (ps = []))) ∧ w = w' := by
  obtain ⟨c0, c1, c2⟩ := blk3 hn.blk
  clear hn
  cases ps with
  | nil =>
    go_enter Try.func34, Try.ntmps34
    go_wp2
    go_ret
    exact ⟨rfl, rfl⟩
  | cons p ps =>
    have hz : (((p :: ps).length : Int) == 0) = false := by simp; omega
    generalize (p :: ps).length = n at *
    go_enter Try.func34, Try.ntmps34
    go_wp2
    go_ret
    exact ⟨rfl, rfl⟩
set_option maxRecDepth 100000 in
set_option maxHeartbeats 1000000 in
theorem most_ok (m : Nat) (hm : m ≤ 64) (w : World) :
    Calls Try.prog 31 #[.agg #[.int .i64 (m : Int)]] w fun e w' => e = .returned (.int .i64 (2 * (m : Int) - 1)) ∧ Ext w w' := by
  go_enter Try.func31, Try.ntmps31
  go_wp2
  go_ret
  exact ⟨rfl, (Ext.refl w).alloc _⟩
end Go.Proofs.Ytkejjahlglldlaa
