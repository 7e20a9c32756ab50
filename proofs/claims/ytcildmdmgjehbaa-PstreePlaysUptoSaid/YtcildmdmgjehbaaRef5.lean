/- annalsref11.Top; annalslaw11.points: walked. -/
import Derived.Test.YtcildmdmgjehbaaRef1
namespace Go.Proofs.Ytcildmdmgjehbaa
open Go.RowKit

set_option maxRecDepth 100000 in
set_option maxHeartbeats 4000000 in
theorem RTop_none (g : Option Nat) (cap : Nat) (w : World) :
    Calls Try.prog 23 #[slv g 0 cap] w (fun e w' => e = .returned (.tuple #[pt 0 0 0, .int .i64 5]) ∧ Ext w w') := by
  go_enter Try.func23, Try.ntmps23
  go_wp2
  exact bodyPost_ret (v := .tuple #[pt 0 0 0, .int .i64 5]) (by simp [results, Try.results23, go_sem]) rfl ⟨rfl, (Ext.refl _).alloc _⟩

def TopInv (w W : World) (L : List Pt) (n k : Nat) (v5 : Value) (wr : World) : Prop :=
  ∃ i : Nat, i + k = n ∧ 1 ≤ i ∧ v5 = .int .i64 (i : Int) ∧ wr.heap[w.heap.size + 1]? = some (.cells #[.int .i64 (topUp L i).1, .int .i64 (topUp L i).2.1, .int .i64 (topUp L i).2.2] 66 (0, 0)) ∧ Touch (fun b => b = w.heap.size + 1) W wr

set_option maxRecDepth 100000 in
set_option maxHeartbeats 4000000 in
theorem RTop_some (g : Option Nat) (n cap : Nat) (L : List Pt) (w : World) (hn : L.length = n) (hS : Sl w 66 3 g n cap (flatP L)) (h0 : 0 < n) (hsz : n * 24 ≤ 140737488355328) :
    Calls Try.prog 23 #[slv g n cap] w (fun e w' => e = .returned (.tuple #[pt (topUp L n).1 (topUp L n).2.1 (topUp L n).2.2, .int .i64 0]) ∧ Ext w w') := by
  have HN := Lib.hid hn; clear hn
  have HS := Lib.hid hS; clear hS
  obtain ⟨b, hgb⟩ := HS.out.some_of_pos h0
  have HGB := Lib.hid hgb
  have z0 : ∀ u : World, (Instr.indexAt 41 (slv g n cap) (.int .i64 0)).run Try.prog u = .ok (.pointer (some ⟨b, 0, none⟩)) u := fun u => by
    have := run_index_slv ei_rpt (cap := cap) hgb h0 u
    simpa using this
  obtain ⟨⟨px, py, pid⟩, hq⟩ : ∃ q, L[0]? = some q := ⟨L[0]'(by rw [HN.out]; exact h0), by rw [List.getElem?_eq_getElem]⟩
  obtain ⟨k0, k1, k2⟩ := flatP_get L 0 _ hq
  have HS' := HS.out
  rw [hgb] at HS'
  have hlb := HS'.block_lt
  have x0 := HS'.cell k0
  have x1 := HS'.cell k1
  have x2 := HS'.cell k2
  simp only [Nat.zero_mul, Nat.zero_add] at x0 x1 x2
  have h1 : Hid (topUp L 1 = (px, py, pid)) := by
    cases L with
    | nil => simp at hq
    | cons y M => simp at hq; subst hq; exact topUp_one _ _
  have hz : ((n : Int) == 0) = false := by simp; omega
  clear k0 k1 k2 HS' hgb hq
  go_enter Try.func23, Try.ntmps23
  go_wp2
  clear x0 x1 x2 z0 hz
  refine wp_at (fun W => Ext w W ∧ W.heap[w.heap.size]? = some (.cells #[.int .i64 0, .int .i64 0, .int .i64 0] 66 (0, 0)) ∧ W.heap[w.heap.size + 1]? = some (.cells #[.int .i64 px, .int .i64 py, .int .i64 pid] 66 (0, 0))) ⟨((Ext.refl w).alloc _).alloc _, ?_, ?_⟩ ?_
  · exact blk_alloc (blk_new w _)
  · have := blk_new (w.alloc (.cells #[.int .i64 0, .int .i64 0, .int .i64 0] 66)) (.cells #[.int .i64 px, .int .i64 py, .int .i64 pid] 66)
    simpa using this
  rintro W ⟨hW, hr, hb⟩
  have HR := Lib.hid hr; clear hr
  have HB := Lib.hid hb; clear hb
  have hws : w.heap.size + 1 < W.heap.size := blk_lt HB.out
  go_loopg [5] (n - 1) (fun k v5 wr => TopInv w W L n k v5 wr)
  case atStart => exact ⟨1, by omega, Nat.le_refl _, rfl, by rw [h1.out]; exact HB.out, Touch.refl _ _⟩
  case round =>
    obtain ⟨i, hik, hi1, rfl, hB, hT⟩ := hrel
    have HIK := Lib.hid hik
    obtain ⟨c0, c1, c2⟩ := blk3 hB
    have f0 := blk_frozen hB 0
    have f1 := blk_frozen hB 1
    have f2 := blk_frozen hB 2
    have HB2 := Lib.hid hB
    have HT := Lib.hid hT
    clear hB hT
    by_cases hlt : i < n
    · have z := run_index_slv ei_rpt (cap := cap) HGB.out hlt
      obtain ⟨⟨qx, qy, qid⟩, hq⟩ : ∃ q, L[i]? = some q := ⟨L[i]'(by rw [HN.out]; exact hlt), by rw [List.getElem?_eq_getElem]⟩
      obtain ⟨k0, k1, k2⟩ := flatP_get L i _ hq
      have HS' := HS.out
      rw [HGB.out] at HS'
      have hne : b ≠ w.heap.size + 1 := by omega
      have x0 := HT.out.cell (Ext.cell hW (HS'.cell k0)) hne
      have x1 := HT.out.cell (Ext.cell hW (HS'.cell k1)) hne
      have x2 := HT.out.cell (Ext.cell hW (HS'.cell k2)) hne
      simp only at x0 x1 x2
      have hsuc := topUp_succ L i _ hq
      simp only at hsuc
      have HSUC := Lib.hid hsuc
      clear k0 k1 k2 HS' hq hik hsuc
      by_cases h : (topUp L i).2.1 < qy
      · have HF : Hid (topUp L (i + 1) = (qx, qy, qid)) := by have := HSUC.out; rw [if_pos h] at this; exact this
        go_wp2
        refine region_calm [.p 0, .p 1, .p 2, .p 3, .l 4, .p 5, .l 6, .p 7] f_mixed (by kernel_rfl) (by kernel_rfl) ?_
        repeat (first | (refine plan_p rfl (fun K hK => ?_); go_simp; refine hK _ ?_; clear hK K) | (refine plan_l rfl (fun K hK => ?_); go_simp; refine hK _ ?_; clear hK K))
        refine plan_done ?_
        go_wp2
        go_roundg (gk - 1)
        case measure => have := HIK.out; omega
        case rel =>
          refine ⟨i + 1, by have := HIK.out; omega, by omega, by go_num, ?_, ?_⟩
          · rw [HF.out]
            exact blk_set (blk_set (blk_set HB2.out 0 _) 1 _) 2 _
          · exact (((HT.out.drew).setCell (p := ⟨w.heap.size + 1, 0, none⟩) (fun _ => rfl) _).setCell (p := ⟨w.heap.size + 1, 1, none⟩) (fun _ => rfl) _).setCell (p := ⟨w.heap.size + 1, 2, none⟩) (fun _ => rfl) _
      · have HF : Hid (topUp L (i + 1) = topUp L i) := by have := HSUC.out; rw [if_neg h] at this; exact this
        have h' : decide ((topUp L i).2.1 < qy) = false := by simp; omega
        clear h
        go_wp2
        refine region_calm [.p 0, .p 1, .p 2, .p 3, .l 4, .p 5, .l 6, .p 7] f_mixed (by kernel_rfl) (by kernel_rfl) ?_
        repeat (first | (refine plan_p rfl (fun K hK => ?_); go_simp; refine hK _ ?_; clear hK K) | (refine plan_l rfl (fun K hK => ?_); go_simp; refine hK _ ?_; clear hK K))
        refine plan_done ?_
        go_wp2
        go_roundg (gk - 1)
        case measure => have := HIK.out; omega
        case rel => exact ⟨i + 1, by have := HIK.out; omega, by omega, by go_num, by rw [HF.out]; exact HB2.out, HT.out.drew⟩
    · have hin : n = i := by omega
      subst hin
      have hr := Touch.old HT.out HR.out (by omega)
      obtain ⟨r0, r1, r2⟩ := blk3 hr
      have e0 := blk_frozen hr 0
      have e1 := blk_frozen hr 1
      have e2 := blk_frozen hr 2
      have hrs := blk_lt hr
      have HR2 := Lib.hid hr
      clear hr hik
      have HE : Hid (Ext w wr) := Touch.fresh hW HT.out (fun k hk => by omega)
      have d0 := blk_frozen HR2.out 0
      go_wp2
      exact bodyPost_ret (v := .tuple #[pt (topUp L n).1 (topUp L n).2.1 (topUp L n).2.2, .int .i64 0]) (by simp [results, Try.results23, go_sem, r0, r1, r2, c0, c1, c2]) rfl ⟨rfl, Below.setCell (p := ⟨w.heap.size, 2, none⟩) (Below.setCell (p := ⟨w.heap.size, 1, none⟩) (Below.setCell (p := ⟨w.heap.size, 0, none⟩) HE.out (Nat.le_refl _) _) (Nat.le_refl _) _) (Nat.le_refl _) _⟩

def PtsInv (w : World) (n k : Nat) (v13 : Value) (wr : World) : Prop := ∃ i : Nat, i + k = n ∧ v13 = .int .i64 (i : Int) ∧ Ext w wr

set_option maxRecDepth 100000 in
set_option maxHeartbeats 4000000 in
theorem points_eq (g1 g2 : Option Nat) (n c1 c2 : Nat) (L : List Pt) (w : World) (hn : L.length = n) (hS1 : Sl w 31 3 g1 n c1 (flatP L)) (hS2 : Sl w 66 3 g2 n c2 (flatP L)) (hsz : n * 24 ≤ 140737488355328) :
    Calls Try.prog 13 #[slv g1 n c1, slv g2 n c2] w (fun e w' => e = .returned (.bool true) ∧ Ext w w') := by
  have HN := Lib.hid hn; clear hn
  have HS1 := Lib.hid hS1; clear hS1
  have HS2 := Lib.hid hS2; clear hS2
  go_enter Try.func13, Try.ntmps13
  go_wp2
  go_loopg [13] n (fun k v13 wr => PtsInv w n k v13 wr)
  case atStart => exact ⟨0, by omega, rfl, Ext.refl _⟩
  case round =>
    obtain ⟨i, hik, rfl, hE⟩ := hrel
    have HIK := Lib.hid hik
    by_cases hlt : i < n
    · obtain ⟨b1, hb1⟩ := HS1.out.some_of_pos (by omega)
      obtain ⟨b2, hb2⟩ := HS2.out.some_of_pos (by omega)
      have z1 := run_index_slv ei_point (cap := c1) hb1 hlt
      have z2 := run_index_slv ei_rpt (cap := c2) hb2 hlt
      obtain ⟨⟨qx, qy, qid⟩, hq⟩ : ∃ q, L[i]? = some q := ⟨L[i]'(by rw [HN.out]; exact hlt), by rw [List.getElem?_eq_getElem]⟩
      obtain ⟨k0, k1, k2⟩ := flatP_get L i _ hq
      have h1 := HS1.out
      have h2 := HS2.out
      rw [hb1] at h1
      rw [hb2] at h2
      have x0 := Ext.cell hE (h1.cell k0)
      have x1 := Ext.cell hE (h1.cell k1)
      have x2 := Ext.cell hE (h1.cell k2)
      have y0 := Ext.cell hE (h2.cell k0)
      have y1 := Ext.cell hE (h2.cell k1)
      have y2 := Ext.cell hE (h2.cell k2)
      simp only at x0 x1 x2 y0 y1 y2
      clear k0 k1 k2 h1 h2 hb1 hb2 hq hik
      go_wp2
      refine region_calm [.p 0, .p 1, .p 2, .p 3, .l 4, .p 5, .p 6, .p 7, .p 8, .l 9, .p 10, .p 11, .p 12, .p 13, .l 14, .p 15, .p 16, .p 17, .p 18, .l 19, .p 20] f_mixed (by kernel_rfl) (by kernel_rfl) ?_
      repeat (first | (refine plan_p rfl (fun K hK => ?_); go_simp; refine hK _ ?_; clear hK K) | (refine plan_l rfl (fun K hK => ?_); go_simp; refine hK _ ?_; clear hK K))
      refine plan_done ?_
      go_wp2
      go_roundg (gk - 1)
      case measure => have := HIK.out; omega
      case rel => exact ⟨i + 1, by have := HIK.out; omega, by go_num, hE.drew⟩
    · go_wp2
      go_ret
      exact ⟨rfl, hE⟩
end Go.Proofs.Ytcildmdmgjehbaa
