/- bag.group at facts of one row: walked. -/
import Derived.Test.YtkejjahlglldlaaPe9
namespace Go.Proofs.Ytkejjahlglldlaa
open Go.RowKit

def GrpInv (W : World) (Q : World → Prop) (n k : Nat) (v4 : Value) (wr : World) : Prop :=
  (k = 1 ∧ v4 = .int .i64 0 ∧ Ext W wr) ∨ (k = 0 ∧ v4 = .int .i64 (n : Int) ∧ Q wr)
def GrpIn (W : World) (ps : List Per) (n k : Nat) (v5 v6 : Value) (wr : World) : Prop :=
  ∃ (i : Nat) (g : Option Nat) (cap : Nat), i + k = n ∧ v6 = .int .i64 (i : Int) ∧ v5 = slv g i cap ∧ PSl wr g i cap (ps.take i) ∧ (∀ b, g = some b → W.heap.size ≤ b) ∧ Ext W wr
set_option maxRecDepth 100000 in
set_option maxHeartbeats 8000000 in
theorem group_ok (f : FuncId) (binds : Array Value) (heg : ∀ args w, (callFunc f args).run Try.prog w = .ok (.enter f args) w) (g1 : Option Nat) (n c1 : Nat) (ps : List Per) (w : World) (h1 : FSl w g1 n c1 ps) (hn0 : 0 < n) (hsz : n ≤ 2199023255552) (Q : World → Prop)
    (hdo : ∀ (r : Value) (g : Option Nat) (cap : Nat) (w1 : World), RowOk w1 r → PSl w1 g n cap ps → (∀ b, g = some b → w.heap.size ≤ b) → Ext w w1 → Calls Try.prog f (#[r, slv g n cap] ++ binds) w1 (fun e w2 => e = .returned (.tuple #[]) ∧ Q w2)) :
    Calls Try.prog 61 #[slv g1 n c1, .func (.func f) #[] binds] w (fun e w' => e = .returned (.tuple #[]) ∧ Q w') := by
  have H1 := Lib.hid h1; clear h1
  have HDO := Lib.hid hdo; clear hdo
  go_enter Try.func61, Try.ntmps61
  go_wp2
  go_loopg [4] 1 (fun k v4 wr => GrpInv w Q n k v4 wr)
  case atStart => exact .inl ⟨rfl, rfl, Ext.refl _⟩
  case round =>
    rcases hrel with ⟨rfl, rfl, hE⟩ | ⟨rfl, rfl, hq⟩
    · have HE := Lib.hid hE; clear hE
      go_wp2
      go_loopg [5, 6] n (fun k v5 v6 wr2 => GrpIn w ps n k v5 v6 wr2)
      case atStart => exact ⟨0, none, 0, by omega, rfl, rfl, Sl.nil _ _ _, by simp, HE.out⟩
      case round =>
        obtain ⟨i, g, cap', hik, rfl, rfl, hS, hg, hE⟩ := hrel
        have HIK := Lib.hid hik; clear hik
        have HS := Lib.hid hS; clear hS
        have HG := Lib.hid hg; clear hg
        have HE2 := Lib.hid hE; clear hE
        obtain ⟨b1, r1, x0, y0, e1, l1, p0, rr0, d0, d1, d2⟩ := (H1.out.ext HE2.out).at' hn0
        rw [Nat.zero_mul] at d0
        have z0 : ∀ u, (Instr.indexAt 65 (slv g1 n c1) (.int .i64 0)).run Try.prog u = .ok (.pointer (some ⟨b1, 0, none⟩)) u := fun u => by simpa using run_index_slv ei_fact (cap := c1) e1 hn0 u
        by_cases hlt : i < n
        · obtain ⟨b2, r2, x, y, e2, l2, p2, rr2, c20, c21, c22⟩ := (H1.out.ext HE2.out).at' hlt
          rw [e1] at e2
          cases e2
          obtain ⟨rb1, rc1, rfl, v1⟩ := rr0.out
          obtain ⟨rb2, rc2, rfl, v2⟩ := rr2.out
          have HV1 := Lib.hid v1
          have HV2 := Lib.hid v2
          have z2 := fun u => run_index_slv ei_fact (cap := c1) e1 hlt u
          have HQ2 : Hid (ps.take (i + 1) = ps.take i ++ [(x, y)]) := by show _ = _; rw [List.take_add_one, p2]; rfl
          clear v1 v2 rr0 rr2 p0 p2 e1 d1 d2
          go_wp2
          refine region_calm [.p 0, .p 1, .p 2, .p 3, .p 4, .p 5, .p 6, .p 7, .p 8, .l 9, .p 10, .p 11, .p 12, .p 13, .l 14, .h 15 false, .p 16, .p 17] f_mixed (by kernel_rfl) (by kernel_rfl) ?_
          repeat (first | (refine plan_p rfl (fun K hK => ?_); go_simp; refine hK _ ?_; clear hK K) | (refine plan_l rfl (fun K hK => ?_); go_simp; refine hK _ ?_; clear hK K))
          refine plan_h rfl (fun K hK => ?_)
          go_wp2_with fail
          refine (Compare_ok (some ⟨rb2, 0, none⟩) (some ⟨rb1, 0, none⟩) 1 1 rc2 rc1 oneVs oneVs _ rfl rfl (HV2.out.ext ((Ext.refl _).drew)) (HV1.out.ext ((Ext.refl _).drew)) (by omega) (by omega)).mono ?_
          rintro e w2 ⟨rfl, hE2⟩
          have hone : cmpL oneVs oneVs = 0 := rfl
          rw [hone]
          have c21' := Ext.cell ((Ext.refl _).drew.trans hE2) c21
          have c22' := Ext.cell ((Ext.refl _).drew.trans hE2) c22
          have hb1 : b1 < w2.heap.size := by have := hE2.size; simp at this; omega
          have HEW : Hid (Ext _ w2) := (Ext.refl _).drew.trans hE2
          have HE3 : Hid (Ext w w2) := HE2.out.drew.trans hE2
          clear hE2 d0 c20 c21 c22 hone l1 l2
          go_wp2_with fail
          repeat (first | (refine plan_p rfl (fun K hK => ?_); go_simp; refine hK _ ?_; clear hK K) | (refine plan_l rfl (fun K hK => ?_); go_simp; refine hK _ ?_; clear hK K))
          refine plan_done ?_
          go_wp2_with (at_builtin; refine (fun (h : True → _) => h trivial) ?_)
          intro _
          refine app_lit ei_per rfl (.tmp 32) (.tmp 38) rfl (g := g) (n := i) (cap := cap') (b := w2.heap.size) (by rfl) (HS.out.ext (HEW.out.alloc _)) (by rfl) rfl (blk_new_at _ rfl) (by simp [Value.oneCell']) (by omega) (by omega) ?_
          intro g5 cap5 w5 hS5 hT5 hat5
          have hPS5 : PSl w5 (some g5) (i + 1) cap5 (ps.take (i + 1)) := by
            show Sl _ _ _ _ _ _ _
            rw [HQ2.out, flatQ_append]
            exact hS5
          have HS5 := Lib.hid hPS5
          have HG5 : Hid (∀ b, some g5 = some b → w.heap.size ≤ b) := by
            intro k hk
            cases hk
            rcases hat5 with h | h
            · exact HG.out _ h
            · have := HE3.out.size; simp at h; omega
          have HE5 : Hid (Ext w w5) := Touch.freshX (HE3.out.alloc _) hT5 (fun k hk => HG.out k hk)
          clear hS5 hT5 hat5 c21' c22' hPS5
          go_wp2
          go_roundg (gk - 1)
          case measure => have := HIK.out; omega
          case rel => exact ⟨i + 1, some g5, cap5, by have := HIK.out; omega, by go_num, rfl, HS5.out, HG5.out, HE5.out⟩
        · have hin : i = n := by have := HIK.out; omega
          subst hin
          have hS0 := HS.out
          rw [List.take_of_length_le (by rw [H1.out.count]; exact Nat.le_refl _)] at hS0
          have HS0 := Lib.hid hS0
          obtain ⟨rb1, rc1, rfl, v1⟩ := rr0.out
          have HRR := Lib.hid rr0
          clear hS0 v1 rr0 p0 e1 d1 d2
          go_wp2
          refine region_calm [.p 0, .p 1, .p 2, .p 3, .p 4, .p 5, .p 6, .p 7, .p 8, .l 9, .p 10, .p 11, .p 12, .p 13, .l 14, .h 15 false, .p 16, .p 17] f_mixed (by kernel_rfl) (by kernel_rfl) ?_
          repeat (first | (refine plan_p rfl (fun K hK => ?_); go_simp; refine hK _ ?_; clear hK K) | (refine plan_l rfl (fun K hK => ?_); go_simp; refine hK _ ?_; clear hK K))
          refine plan_h rfl (fun K hK => ?_)
          go_wp2_with fail
          repeat (first | (refine plan_p rfl (fun K hK => ?_); go_simp; refine hK _ ?_; clear hK K) | (refine plan_l rfl (fun K hK => ?_); go_simp; refine hK _ ?_; clear hK K))
          refine plan_done ?_
          go_wp2_with fail
          refine (HDO.out _ _ _ _ (HRR.out.ext (Ext.refl _).drew) (HS0.out.ext (Ext.refl _).drew) HG.out HE2.out.drew).mono ?_
          rintro e w2 ⟨rfl, hq⟩
          have HQ := Lib.hid hq
          clear hq d0 z0
          go_wp2
          go_roundg 0
          case measure => omega
          case rel => exact .inr ⟨rfl, rfl, HQ.out⟩
    · have HQ := Lib.hid hq; clear hq
      go_wp2
      (try simp only [Exit.inBlock, Exit.then]); refine bodyPost_end (results_none rfl _ _ _) rfl ?_
      exact ⟨rfl, HQ.out⟩
end Go.Proofs.Ytkejjahlglldlaa
