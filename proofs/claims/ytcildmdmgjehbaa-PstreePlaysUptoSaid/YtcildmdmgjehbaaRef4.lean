/- annalsref11.Add where the number is new: walked. -/
import Derived.Test.YtcildmdmgjehbaaRef3
namespace Go.Proofs.Ytcildmdmgjehbaa
open Go.RowKit

theorem room2 {l i n : Nat} (h : l ≤ i + 1) (hi : i < n) (hs : (n + 2) * 24 ≤ 140737488355328) : (l + 1 + 1) * 24 ≤ 140737488355328 :=
  Nat.le_trans (Nat.mul_le_mul_right 24 (show l + 1 + 1 ≤ n + 2 by omega)) hs
theorem stepk {i k n : Nat} (h : i + k = n) (hi : i < n) : i + 1 + (k - 1) = n := by omega
theorem stepm {i k n : Nat} (h : i + k = n) (hi : i < n) : k - 1 < k := by omega

/-- The list so far. -/
def InsInv (W : World) (p : Pt) (L : List Pt) (n k : Nat) (v7 v8 v9 : Value) (wr : World) : Prop :=
  ∃ (i : Nat) (g : Option Nat) (cap : Nat), i + k = n ∧ v9 = .int .i64 (i : Int) ∧ v8 = .bool (insUp p L i).2 ∧ v7 = slv g (insUp p L i).1.length cap ∧ Sl wr 66 3 g (insUp p L i).1.length cap (flatP (insUp p L i).1) ∧
    (∀ b, g = some b → W.heap.size ≤ b) ∧ Ext W wr

set_option maxRecDepth 100000 in
set_option maxHeartbeats 16000000 in
theorem RAdd_new (px py pid : Int) (g : Option Nat) (n cap : Nat) (L : List Pt) (w : World) (hn : L.length = n) (hS : Sl w 66 3 g n cap (flatP L)) (hid : ∀ q ∈ L, q.2.2 ≠ pid) (hsz : (n + 2) * 24 ≤ 140737488355328) :
    Calls Try.prog 20 #[slv g n cap, pt px py pid] w (fun e w' => ∃ g' cap', e = .returned (.tuple #[slv g' (n + 1) cap', .int .i64 0]) ∧
      Sl w' 66 3 g' (n + 1) cap' (flatP (insSorted (px, py, pid) L)) ∧ (∀ b, g' = some b → w.heap.size ≤ b) ∧ Ext w w') := by
  have HN := Lib.hid hn; clear hn
  have HS := Lib.hid hS; clear hS
  have HID := Lib.hid hid; clear hid
  go_enter Try.func20, Try.ntmps20
  go_wp2
  go_loopg [6] n (fun k v6 wr => ∃ (i : Nat), i + k = n ∧ v6 = .int .i64 (i : Int) ∧ Ext (w.alloc (.cells #[.int .i64 px, .int .i64 py, .int .i64 pid] 66)) wr)
  case atStart => exact ⟨0, by omega, rfl, Ext.refl _⟩
  case round =>
    obtain ⟨i, hik, rfl, hE⟩ := hrel
    have HIK := Lib.hid hik
    have hp2 := (blk3 (Ext.block hE (blk_new w _))).2.2
    by_cases hlt : i < n
    · obtain ⟨b, hgb⟩ := HS.out.some_of_pos (by omega)
      have z := run_index_slv ei_rpt (cap := cap) hgb hlt
      obtain ⟨⟨qx, qy, qid⟩, hq⟩ : ∃ q, L[i]? = some q := ⟨L[i]'(by rw [HN.out]; exact hlt), by rw [List.getElem?_eq_getElem]⟩
      obtain ⟨k0, k1, k2⟩ := flatP_get L i _ hq
      have HS' := HS.out
      rw [hgb] at HS'
      have x2 := Ext.cell (((Ext.refl w).alloc _).trans hE) (HS'.cell k2)
      simp only at x2
      have hpz : (qid == pid) = false := by
        have := HID.out _ (List.mem_of_getElem? hq)
        simp; exact this
      clear k0 k1 k2 HS' hgb hq hik
      go_wp2
      refine region_calm [.p 0, .p 1, .p 2, .p 3, .l 4, .p 5, .l 6, .p 7] f_mixed (by kernel_rfl) (by kernel_rfl) ?_
      repeat (first | (refine plan_p rfl (fun K hK => ?_); go_simp; refine hK _ ?_; clear hK K) | (refine plan_l rfl (fun K hK => ?_); go_simp; refine hK _ ?_; clear hK K))
      refine plan_done ?_
      go_wp2
      go_roundg (gk - 1)
      case measure => have := HIK.out; omega
      case rel => exact ⟨i + 1, by have := HIK.out; omega, by go_num, hE.drew⟩
    · have hin : n = i := by omega
      subst hin
      clear hik HIK hp2
      refine wp_at (fun W => Ext w W ∧ W.heap[w.heap.size]? = some (.cells #[.int .i64 px, .int .i64 py, .int .i64 pid] 66 (0, 0))) ⟨((Ext.refl w).alloc _).trans hE, Ext.block hE (blk_new w _)⟩ ?_
      rintro W ⟨hW, hpb⟩
      have HPB := Lib.hid hpb; clear hpb
      clear hE
      go_wp2
      go_loopg [7, 8, 9] n (fun k v7 v8 v9 wr => InsInv W (px, py, pid) L n k v7 v8 v9 wr)
      case atStart => exact ⟨0, none, 0, by omega, rfl, rfl, by simp [insUp, adr], by simpa [insUp, flatP] using Sl.nil _ _ _, by simp, Ext.refl _⟩
      case round =>
        obtain ⟨i, g1, cap1, hik, rfl, rfl, rfl, hS1, hg1, hE⟩ := hrel
        have HIK := Lib.hid hik
        obtain ⟨p0, p1, p2⟩ := blk3 (Ext.block hE HPB.out)
        by_cases hlt : i < n
        · obtain ⟨b, hgb⟩ := HS.out.some_of_pos (by omega)
          have z := run_index_slv ei_rpt (cap := cap) hgb hlt
          obtain ⟨⟨qx, qy, qid⟩, hq⟩ : ∃ q, L[i]? = some q := ⟨L[i]'(by rw [HN.out]; exact hlt), by rw [List.getElem?_eq_getElem]⟩
          obtain ⟨k0, k1, k2⟩ := flatP_get L i _ hq
          have HS' := HS.out
          rw [hgb] at HS'
          have x0 := Ext.cell (hW.trans hE) (HS'.cell k0)
          have x1 := Ext.cell (hW.trans hE) (HS'.cell k1)
          have x2 := Ext.cell (hW.trans hE) (HS'.cell k2)
          simp only at x0 x1 x2
          have hbg : Hid (g1 ≠ some b) := fun h => by have := hg1 b h; have := HS'.block_lt; have := hW.size; omega
          have hle := insUp_len (px, py, pid) L i
          have HLE : Hid ((insUp (px, py, pid) L i).1.length ≤ i + 1) := hle.1
          have HQ := Lib.hid hq
          have HG1 := Lib.hid hg1
          clear hg1 hle k0 k1 k2 HS' hgb hq hik
          cases hd : (insUp (px, py, pid) L i).2 with
          | true =>
            have HC : Hid (¬ ((insUp (px, py, pid) L i).2 = false ∧ (px < qx ∨ (px = qx ∧ pid < qid)))) := fun h => by rw [hd] at h; simp at h
            have HD := Lib.hid hd
            clear hd
            go_wp2
            refine region_calm [.p 0, .p 1, .p 2, .p 3, .l 4, .p 5, .p 6, .p 7, .p 8, .l 9, .p 10, .p 11, .p 12, .l 13, .p 14, .p 15, .p 16, .p 17, .l 18, .p 19, .p 20, .p 21, .l 22, .p 23, .p 24, .p 25, .p 26, .l 27, .p 28, .p 29, .p 30, .p 31] f_mixed (by kernel_rfl) (by kernel_rfl) ?_
            repeat (first | (refine plan_p rfl (fun K hK => ?_); go_simp; refine hK _ ?_; clear hK K) | (refine plan_l rfl (fun K hK => ?_); go_simp; refine hK _ ?_; clear hK K))
            refine plan_done ?_
            have hf : insUp (px, py, pid) L (i + 1) = ((insUp (px, py, pid) L i).1 ++ [(qx, qy, qid)], (insUp (px, py, pid) L i).2) := by
              rw [insUp_succ _ L i _ HQ.out, insStep, if_neg (fun h => HC.out h)]
            have HF := Lib.hid hf; clear hf
            have HS1 := Lib.hid hS1; clear hS1
            go_wp2_with (at_builtin; refine app_lit ei_rpt rfl (.tmp 67) (.tmp 72) rfl (g := g1) (n := (insUp (px, py, pid) L i).1.length) (cap := cap1) (by rfl) (HS1.out.ext (((Ext.refl wr).drew).alloc _)) (by rfl) rfl (blk_new wr.drew _) (by simp [Value.oneCell']) (by omega) (by have := HLE.out; omega) ?_)
            intro g3 cap3 w3 hS3 hT3 hat3
            have hEN : Ext W w3 := Touch.fresh (hE.drew.alloc _) hT3 (fun k hk => HG1.out k hk)
            have hg3 : W.heap.size ≤ g3 := by
              rcases hat3 with h | h
              · exact HG1.out g3 h
              · have := hE.size; (try simp at h); omega
            have HSN := Lib.hid hS3
            clear hS3 hT3 hat3 x0 x1 x2 p0 p1 p2
            go_wp2
            go_roundg (gk - 1)
            case measure => have := HIK.out; omega
            case rel =>
              refine ⟨i + 1, some g3, cap3, by have := HIK.out; omega, by go_num, by rw [HF.out]; exact congrArg Value.bool HD.out.symm, ?_, ?_, fun b hb => by cases hb; exact hg3, hEN⟩
              · rw [HF.out, List.length_append]; rfl
              · rw [HF.out, List.length_append, flatP_append]; exact HSN.out
          | false =>
            by_cases h1 : px < qx
            · have HC : Hid (px < qx ∨ (px = qx ∧ pid < qid)) := .inl h1
              have HD := Lib.hid hd; clear hd
              go_wp2
              refine region_calm [.p 0, .p 1, .p 2, .p 3, .l 4, .p 5, .p 6, .p 7, .p 8, .l 9, .p 10, .p 11, .p 12, .l 13, .p 14, .p 15, .p 16, .p 17, .l 18, .p 19, .p 20, .p 21, .l 22, .p 23, .p 24, .p 25, .p 26, .l 27, .p 28, .p 29, .p 30, .p 31] f_mixed (by kernel_rfl) (by kernel_rfl) ?_
              repeat (first | (refine plan_p rfl (fun K hK => ?_); go_simp; refine hK _ ?_; clear hK K) | (refine plan_l rfl (fun K hK => ?_); go_simp; refine hK _ ?_; clear hK K))
              refine plan_done ?_
              have hf : insUp (px, py, pid) L (i + 1) = ((insUp (px, py, pid) L i).1 ++ [(px, py, pid)] ++ [(qx, qy, qid)], true) := by
                rw [insUp_succ _ L i _ HQ.out, insStep, if_pos ⟨HD.out, HC.out⟩]
              have HF := Lib.hid hf; clear hf
              have HS1 := Lib.hid hS1; clear hS1
              go_wp2_with (at_builtin; refine app_lit ei_rpt rfl (.tmp 63) (.tmp 65) rfl (g := g1) (n := (insUp (px, py, pid) L i).1.length) (cap := cap1) (by rfl) (HS1.out.ext (((Ext.refl wr).drew).alloc _)) (by rfl) rfl (blk_new wr.drew _) (by simp [Value.oneCell']) (by omega) (by have := HLE.out; omega) ?_)
              intro g2 cap2 w2 hS2 hT2 hat2
              have hE2 : Ext W w2 := Touch.fresh (hE.drew.alloc _) hT2 (fun k hk => HG1.out k hk)
              have hg2 : W.heap.size ≤ g2 := by
                rcases hat2 with h | h
                · exact HG1.out g2 h
                · have := hE.size; (try simp at h); omega
              have hx2 : Touch (fun k => g1 = some k) wr w2 := Touch.trans (Ext.touch (by repeat (first | exact Ext.refl _ | refine Ext.drew ?_ | refine Ext.alloc ?_ _)) _) hT2
              have y0 := hx2.cell x0 (fun h => hbg h)
              have y1 := hx2.cell x1 (fun h => hbg h)
              have y2 := hx2.cell x2 (fun h => hbg h)
              have HS2 := Lib.hid hS2
              clear hS2 hT2 hx2 hat2 x0 x1 x2 p0 p1 p2
              go_wp2_with (at_builtin; refine app_lit ei_rpt rfl (.tmp 67) (.tmp 72) rfl (g := some g2) (n := (insUp (px, py, pid) L i).1.length + 1) (cap := cap2) (b := w2.heap.size) (m := 1) (c := 1) (news := [.int .i64 qx, .int .i64 qy, .int .i64 qid]) (by rfl) (HS2.out.ext ((Ext.refl w2).alloc _)) (by rfl) rfl (blk_new w2 _) (by simp [Value.oneCell']) (Nat.succ_pos 0) (room2 HLE.out hlt hsz) ?_)
              intro g3 cap3 w3 hS3 hT3 hat3
              have hEN : Ext W w3 := Touch.fresh (hE2.alloc _) hT3 (fun k hk => by cases hk; exact hg2)
              have hg3 : W.heap.size ≤ g3 := by
                rcases hat3 with h | h
                · cases h; exact hg2
                · rw [h]; exact Nat.le_trans hE2.size (Nat.le_succ _)
              have HSN : Hid (Sl w3 66 3 (some g3) ((insUp (px, py, pid) L i).1.length + 1 + 1) cap3 (flatP (insUp (px, py, pid) L i).1 ++ flatP [(px, py, pid)] ++ flatP [(qx, qy, qid)])) := by
                have e : flatP (insUp (px, py, pid) L i).1 ++ flatP [(px, py, pid)] ++ flatP [(qx, qy, qid)] = flatP (insUp (px, py, pid) L i).1 ++ [.int .i64 px, .int .i64 py, .int .i64 pid, .int .i64 qx, .int .i64 qy, .int .i64 qid] := by simp [flatP]
                show Sl _ _ _ _ _ _ _
                rw [e]; exact hS3
              clear hS3 hT3 hat3 y0 y1 y2
              go_wp2
              go_roundg (gk - 1)
              case measure => exact stepm HIK.out hlt
              case rel =>
                refine ⟨i + 1, some g3, cap3, stepk HIK.out hlt, by go_num, by rw [HF.out], ?_, ?_, fun b hb => by cases hb; exact hg3, hEN⟩
                · rw [HF.out, List.length_append, List.length_append]; rfl
                · rw [HF.out, List.length_append, List.length_append, flatP_append, flatP_append]; exact HSN.out
            · by_cases h2 : px = qx
              · have hz1 : decide (px < qx) = false := by simp; omega
                have hz2 : (px == qx) = true := by simp; exact h2
                by_cases h3 : pid < qid
                · have HC : Hid (px < qx ∨ (px = qx ∧ pid < qid)) := .inr ⟨h2, h3⟩
                  have HD := Lib.hid hd; clear hd h2
                  go_wp2
                  refine region_calm [.p 0, .p 1, .p 2, .p 3, .l 4, .p 5, .p 6, .p 7, .p 8, .l 9, .p 10, .p 11, .p 12, .l 13, .p 14, .p 15, .p 16, .p 17, .l 18, .p 19, .p 20, .p 21, .l 22, .p 23, .p 24, .p 25, .p 26, .l 27, .p 28, .p 29, .p 30, .p 31] f_mixed (by kernel_rfl) (by kernel_rfl) ?_
                  repeat (first | (refine plan_p rfl (fun K hK => ?_); go_simp; refine hK _ ?_; clear hK K) | (refine plan_l rfl (fun K hK => ?_); go_simp; refine hK _ ?_; clear hK K))
                  refine plan_done ?_
                  have hf : insUp (px, py, pid) L (i + 1) = ((insUp (px, py, pid) L i).1 ++ [(px, py, pid)] ++ [(qx, qy, qid)], true) := by
                    rw [insUp_succ _ L i _ HQ.out, insStep, if_pos ⟨HD.out, HC.out⟩]
                  have HF := Lib.hid hf; clear hf
                  have HS1 := Lib.hid hS1; clear hS1
                  go_wp2_with (at_builtin; refine app_lit ei_rpt rfl (.tmp 63) (.tmp 65) rfl (g := g1) (n := (insUp (px, py, pid) L i).1.length) (cap := cap1) (by rfl) (HS1.out.ext (((Ext.refl wr).drew).alloc _)) (by rfl) rfl (blk_new wr.drew _) (by simp [Value.oneCell']) (by omega) (by have := HLE.out; omega) ?_)
                  intro g2 cap2 w2 hS2 hT2 hat2
                  have hE2 : Ext W w2 := Touch.fresh (hE.drew.alloc _) hT2 (fun k hk => HG1.out k hk)
                  have hg2 : W.heap.size ≤ g2 := by
                    rcases hat2 with h | h
                    · exact HG1.out g2 h
                    · have := hE.size; (try simp at h); omega
                  have hx2 : Touch (fun k => g1 = some k) wr w2 := Touch.trans (Ext.touch (by repeat (first | exact Ext.refl _ | refine Ext.drew ?_ | refine Ext.alloc ?_ _)) _) hT2
                  have y0 := hx2.cell x0 (fun h => hbg h)
                  have y1 := hx2.cell x1 (fun h => hbg h)
                  have y2 := hx2.cell x2 (fun h => hbg h)
                  have HS2 := Lib.hid hS2
                  clear hS2 hT2 hx2 hat2 x0 x1 x2 p0 p1 p2
                  go_wp2_with (at_builtin; refine app_lit ei_rpt rfl (.tmp 67) (.tmp 72) rfl (g := some g2) (n := (insUp (px, py, pid) L i).1.length + 1) (cap := cap2) (b := w2.heap.size) (m := 1) (c := 1) (news := [.int .i64 qx, .int .i64 qy, .int .i64 qid]) (by rfl) (HS2.out.ext ((Ext.refl w2).alloc _)) (by rfl) rfl (blk_new w2 _) (by simp [Value.oneCell']) (Nat.succ_pos 0) (room2 HLE.out hlt hsz) ?_)
                  intro g3 cap3 w3 hS3 hT3 hat3
                  have hEN : Ext W w3 := Touch.fresh (hE2.alloc _) hT3 (fun k hk => by cases hk; exact hg2)
                  have hg3 : W.heap.size ≤ g3 := by
                    rcases hat3 with h | h
                    · cases h; exact hg2
                    · rw [h]; exact Nat.le_trans hE2.size (Nat.le_succ _)
                  have HSN : Hid (Sl w3 66 3 (some g3) ((insUp (px, py, pid) L i).1.length + 1 + 1) cap3 (flatP (insUp (px, py, pid) L i).1 ++ flatP [(px, py, pid)] ++ flatP [(qx, qy, qid)])) := by
                    have e : flatP (insUp (px, py, pid) L i).1 ++ flatP [(px, py, pid)] ++ flatP [(qx, qy, qid)] = flatP (insUp (px, py, pid) L i).1 ++ [.int .i64 px, .int .i64 py, .int .i64 pid, .int .i64 qx, .int .i64 qy, .int .i64 qid] := by simp [flatP]
                    show Sl _ _ _ _ _ _ _
                    rw [e]; exact hS3
                  clear hS3 hT3 hat3 y0 y1 y2
                  go_wp2
                  go_roundg (gk - 1)
                  case measure => exact stepm HIK.out hlt
                  case rel =>
                    refine ⟨i + 1, some g3, cap3, stepk HIK.out hlt, by go_num, by rw [HF.out], ?_, ?_, fun b hb => by cases hb; exact hg3, hEN⟩
                    · rw [HF.out, List.length_append, List.length_append]; rfl
                    · rw [HF.out, List.length_append, List.length_append, flatP_append, flatP_append]; exact HSN.out
                · have HC : Hid (¬ ((insUp (px, py, pid) L i).2 = false ∧ (px < qx ∨ (px = qx ∧ pid < qid)))) := fun h => by omega
                  have HD := Lib.hid hd; clear hd h2
                  go_wp2
                  refine region_calm [.p 0, .p 1, .p 2, .p 3, .l 4, .p 5, .p 6, .p 7, .p 8, .l 9, .p 10, .p 11, .p 12, .l 13, .p 14, .p 15, .p 16, .p 17, .l 18, .p 19, .p 20, .p 21, .l 22, .p 23, .p 24, .p 25, .p 26, .l 27, .p 28, .p 29, .p 30, .p 31] f_mixed (by kernel_rfl) (by kernel_rfl) ?_
                  repeat (first | (refine plan_p rfl (fun K hK => ?_); go_simp; refine hK _ ?_; clear hK K) | (refine plan_l rfl (fun K hK => ?_); go_simp; refine hK _ ?_; clear hK K))
                  refine plan_done ?_
                  have hf : insUp (px, py, pid) L (i + 1) = ((insUp (px, py, pid) L i).1 ++ [(qx, qy, qid)], (insUp (px, py, pid) L i).2) := by
                    rw [insUp_succ _ L i _ HQ.out, insStep, if_neg (fun h => HC.out h)]
                  have HF := Lib.hid hf; clear hf
                  have HS1 := Lib.hid hS1; clear hS1
                  go_wp2_with (at_builtin; refine app_lit ei_rpt rfl (.tmp 67) (.tmp 72) rfl (g := g1) (n := (insUp (px, py, pid) L i).1.length) (cap := cap1) (by rfl) (HS1.out.ext (((Ext.refl wr).drew).alloc _)) (by rfl) rfl (blk_new wr.drew _) (by simp [Value.oneCell']) (by omega) (by have := HLE.out; omega) ?_)
                  intro g3 cap3 w3 hS3 hT3 hat3
                  have hEN : Ext W w3 := Touch.fresh (hE.drew.alloc _) hT3 (fun k hk => HG1.out k hk)
                  have hg3 : W.heap.size ≤ g3 := by
                    rcases hat3 with h | h
                    · exact HG1.out g3 h
                    · have := hE.size; (try simp at h); omega
                  have HSN := Lib.hid hS3
                  clear hS3 hT3 hat3 x0 x1 x2 p0 p1 p2
                  go_wp2
                  go_roundg (gk - 1)
                  case measure => have := HIK.out; omega
                  case rel =>
                    refine ⟨i + 1, some g3, cap3, by have := HIK.out; omega, by go_num, by rw [HF.out]; exact congrArg Value.bool HD.out.symm, ?_, ?_, fun b hb => by cases hb; exact hg3, hEN⟩
                    · rw [HF.out, List.length_append]; rfl
                    · rw [HF.out, List.length_append, flatP_append]; exact HSN.out
              · have hz1 : decide (px < qx) = false := by simp; omega
                have hz2 : (px == qx) = false := by simp; exact h2
                have HC : Hid (¬ ((insUp (px, py, pid) L i).2 = false ∧ (px < qx ∨ (px = qx ∧ pid < qid)))) := fun h => by omega
                have HD := Lib.hid hd; clear hd h2
                go_wp2
                refine region_calm [.p 0, .p 1, .p 2, .p 3, .l 4, .p 5, .p 6, .p 7, .p 8, .l 9, .p 10, .p 11, .p 12, .l 13, .p 14, .p 15, .p 16, .p 17, .l 18, .p 19, .p 20, .p 21, .l 22, .p 23, .p 24, .p 25, .p 26, .l 27, .p 28, .p 29, .p 30, .p 31] f_mixed (by kernel_rfl) (by kernel_rfl) ?_
                repeat (first | (refine plan_p rfl (fun K hK => ?_); go_simp; refine hK _ ?_; clear hK K) | (refine plan_l rfl (fun K hK => ?_); go_simp; refine hK _ ?_; clear hK K))
                refine plan_done ?_
                have hf : insUp (px, py, pid) L (i + 1) = ((insUp (px, py, pid) L i).1 ++ [(qx, qy, qid)], (insUp (px, py, pid) L i).2) := by
                  rw [insUp_succ _ L i _ HQ.out, insStep, if_neg (fun h => HC.out h)]
                have HF := Lib.hid hf; clear hf
                have HS1 := Lib.hid hS1; clear hS1
                go_wp2_with (at_builtin; refine app_lit ei_rpt rfl (.tmp 67) (.tmp 72) rfl (g := g1) (n := (insUp (px, py, pid) L i).1.length) (cap := cap1) (by rfl) (HS1.out.ext (((Ext.refl wr).drew).alloc _)) (by rfl) rfl (blk_new wr.drew _) (by simp [Value.oneCell']) (by omega) (by have := HLE.out; omega) ?_)
                intro g3 cap3 w3 hS3 hT3 hat3
                have hEN : Ext W w3 := Touch.fresh (hE.drew.alloc _) hT3 (fun k hk => HG1.out k hk)
                have hg3 : W.heap.size ≤ g3 := by
                  rcases hat3 with h | h
                  · exact HG1.out g3 h
                  · have := hE.size; (try simp at h); omega
                have HSN := Lib.hid hS3
                clear hS3 hT3 hat3 x0 x1 x2 p0 p1 p2
                go_wp2
                go_roundg (gk - 1)
                case measure => have := HIK.out; omega
                case rel =>
                  refine ⟨i + 1, some g3, cap3, by have := HIK.out; omega, by go_num, by rw [HF.out]; exact congrArg Value.bool HD.out.symm, ?_, ?_, fun b hb => by cases hb; exact hg3, hEN⟩
                  · rw [HF.out, List.length_append]; rfl
                  · rw [HF.out, List.length_append, flatP_append]; exact HSN.out
        · have hin : n = i := by omega
          subst hin
          have hle := insUp_len (px, py, pid) L n
          have HLE : Hid ((insUp (px, py, pid) L n).1.length ≤ n + 1) := hle.1
          have hall := insAll (px, py, pid) L
          have hpm := (insSorted_perm (px, py, pid) L).length_eq
          rw [HN.out] at hall
          have HALL := Lib.hid hall
          have HPM : Hid ((insSorted (px, py, pid) L).length = n + 1) := by rw [List.length_cons, HN.out] at hpm; exact hpm
          have HS1 := Lib.hid hS1
          have HG1 := Lib.hid hg1
          clear hle hall hpm hS1 hg1 hik
          cases hd : (insUp (px, py, pid) L n).2 with
          | true =>
            have HE : Hid ((insUp (px, py, pid) L n).1 = insSorted (px, py, pid) L) := by
              have := HALL.out
              rwa [insEnd, hd, if_pos rfl] at this
            clear hd
            have hlen : (insUp (px, py, pid) L n).1.length = n + 1 := by rw [HE.out, HPM.out]
            have HLEN := Lib.hid hlen; clear hlen
            go_wp2
            go_ret2
            have := HS1.out
            rw [HE.out, HPM.out] at this
            rw [HLEN.out]
            exact ⟨g1, cap1, rfl, this, fun b hb => by have := HG1.out b hb; have := hW.size; omega, hW.trans hE⟩
          | false =>
            have HE : Hid ((insUp (px, py, pid) L n).1 ++ [(px, py, pid)] = insSorted (px, py, pid) L) := by
              have := HALL.out
              rwa [insEnd, hd, if_neg (by simp)] at this
            clear hd
            have hlen : (insUp (px, py, pid) L n).1.length = n := by have := congrArg List.length HE.out; rw [HPM.out] at this; simpa using this
            have HLEN := Lib.hid hlen; clear hlen
            go_wp2_with (at_builtin; refine app_lit ei_rpt rfl (.tmp 76) (.tmp 78) rfl (g := g1) (n := (insUp (px, py, pid) L n).1.length) (cap := cap1) (by rfl) (HS1.out.ext ((Ext.refl wr).alloc _)) (by rfl) rfl (blk_new wr _) (by simp [Value.oneCell']) (by omega) (by have := HLE.out; omega) ?_)
            intro g2 cap2 w2 hS2 hT2 hat2
            have hE2 : Ext W w2 := Touch.fresh (hE.alloc _) hT2 (fun k hk => HG1.out k hk)
            have hg2 : W.heap.size ≤ g2 := by
              rcases hat2 with h | h
              · exact HG1.out g2 h
              · have := hE.size; (try simp at h); omega
            have hS3 : Sl w2 66 3 (some g2) ((insUp (px, py, pid) L n).1.length + 1) cap2 (flatP ((insUp (px, py, pid) L n).1 ++ [(px, py, pid)])) := by rw [flatP_append]; exact hS2
            rw [HE.out, HLEN.out] at hS3
            have HS3 := Lib.hid hS3
            clear hS2 hT2 hat2 hS3
            rw [HLEN.out]
            go_wp2
            go_ret2
            exact ⟨some g2, cap2, rfl, HS3.out, fun b hb => by cases hb; have := hW.size; omega, hW.trans hE2⟩
end Go.Proofs.Ytcildmdmgjehbaa
