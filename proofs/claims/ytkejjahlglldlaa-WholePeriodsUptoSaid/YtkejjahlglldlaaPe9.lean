/- annalsref13.Same at facts of one row; bag.copied: walked. -/
import Derived.Test.YtkejjahlglldlaaPe4
namespace Go.Proofs.Ytkejjahlglldlaa
open Go.RowKit

abbrev oneVs : List V := [(1, 1, [])]
theorem RowOk.out {w : World} {v : Value} (h : RowOk w v) : ∃ (b cap : Nat), v = .slice (some ⟨b, 0, none⟩) 1 cap ∧ Vals w (some ⟨b, 0, none⟩) oneVs := by
  obtain ⟨b, cap, _, _, h1, _, h3⟩ := h
  exact ⟨b, cap, h1, h3⟩
theorem FSl.at' {w : World} {g : Option Nat} {n cap : Nat} {ps : List Per} (h : FSl w g n cap ps) {i : Nat} (hi : i < n) : ∃ (b : Nat) (r : Value) (x y : Int), g = some b ∧ b < w.heap.size ∧ ps[i]? = some (x, y) ∧ RowOk w r ∧ w.cell? ⟨b, i * 3, none⟩ = some r ∧ w.cell? ⟨b, i * 3 + 1, none⟩ = some (.int .i64 x) ∧ w.cell? ⟨b, i * 3 + 2, none⟩ = some (.int .i64 y) := by
  obtain ⟨fs, h1, h2, h3⟩ := h
  have hl := h1.len
  rw [flatF_len] at hl
  obtain ⟨b, rfl⟩ := h1.some_of_pos (by omega)
  obtain ⟨⟨r, x, y⟩, hf⟩ : ∃ f, fs[i]? = some f := ⟨fs[i]'(by omega), List.getElem?_eq_getElem _⟩
  obtain ⟨k0, k1, k2⟩ := flatF_get fs i _ hf
  refine ⟨b, r, x, y, rfl, h1.block_lt, ?_, h3 _ (List.mem_of_getElem? hf), h1.cell k0, h1.cell k1, h1.cell k2⟩
  rw [← h2, List.getElem?_map, hf]
  rfl
set_option maxRecDepth 100000 in
set_option maxHeartbeats 8000000 in
theorem SameF_ok (g1 g2 : Option Nat) (n c1 c2 : Nat) (ps : List Per) (w : World) (h1 : FSl w g1 n c1 ps) (h2 : FSl w g2 n c2 ps) (hsz : n ≤ 2199023255552) :
    Calls Try.prog 28 #[slv g1 n c1, slv g2 n c2] w (fun e w' => e = .returned (.bool true) ∧ Ext w w') := by
  have H1 := Lib.hid h1; clear h1
  have H2 := Lib.hid h2; clear h2
  go_enter Try.func28, Try.ntmps28
  go_wp2
  go_loopg [5] n (fun k v5 wr => ∃ i : Nat, i + k = n ∧ v5 = .int .i64 i ∧ Ext w wr)
  case atStart => exact ⟨0, by omega, rfl, Ext.refl _⟩
  case round =>
    obtain ⟨i, hik, rfl, hE⟩ := hrel
    have HIK := Lib.hid hik; clear hik
    have HE := Lib.hid hE; clear hE
    by_cases hlt : i < n
    · obtain ⟨b1, r1, x, y, e1, l1, p1, rr1, c10, c11, c12⟩ := (H1.out.ext HE.out).at' hlt
      obtain ⟨b2, r2, x2, y2, e2, l2, p2, rr2, c20, c21, c22⟩ := (H2.out.ext HE.out).at' hlt
      rw [p1] at p2
      cases p2
      obtain ⟨rb1, rc1, rfl, v1⟩ := rr1.out
      obtain ⟨rb2, rc2, rfl, v2⟩ := rr2.out
      have HV1 := Lib.hid v1
      have HV2 := Lib.hid v2
      have z1 := fun u => run_index_slv ei_fact (cap := c1) e1 hlt u
      have z2 := fun u => run_index_slv ei_fact (cap := c2) e2 hlt u
      clear v1 v2 rr1 rr2 p1 e1 e2
      go_wp2
      refine region_calm [.p 0, .p 1, .p 2, .p 3, .l 4, .p 5, .p 6, .p 7, .p 8, .l 9, .p 10, .p 11, .p 12, .p 13, .p 14, .p 15, .l 16, .p 17, .p 18, .p 19, .p 20, .l 21, .h 22 false, .p 23, .p 24] f_mixed (by kernel_rfl) (by kernel_rfl) ?_
      repeat (first | (refine plan_p rfl (fun K hK => ?_); go_simp; refine hK _ ?_; clear hK K) | (refine plan_l rfl (fun K hK => ?_); go_simp; refine hK _ ?_; clear hK K))
      refine plan_h rfl (fun K hK => ?_)
      go_wp2_with fail
      refine (Same_ok (some ⟨rb1, 0, none⟩) (some ⟨rb2, 0, none⟩) 1 1 rc1 rc2 oneVs oneVs _ rfl rfl (HV1.out.ext ((Ext.refl _).drew)) (HV2.out.ext ((Ext.refl _).drew)) (by omega) (by omega)).mono ?_
      rintro e w2 ⟨rfl, hE2⟩
      have hone : (decide (oneVs.length = oneVs.length) && (cmpL oneVs oneVs == 0)) = true := rfl
      rw [hone]
      clear hone
      have HE2 : Hid (Ext w w2) := HE.out.drew.trans hE2
      clear hE2 c10 c11 c12 c20 c21 c22
      go_wp2_with fail
      repeat (first | (refine plan_p rfl (fun K hK => ?_); go_simp; refine hK _ ?_; clear hK K) | (refine plan_l rfl (fun K hK => ?_); go_simp; refine hK _ ?_; clear hK K))
      refine plan_done ?_
      go_wp2
      go_roundg (gk - 1)
      case measure => have := HIK.out; omega
      case rel => exact ⟨i + 1, by have := HIK.out; omega, by go_num, HE2.out⟩
    · go_wp2
      go_ret
      exact ⟨rfl, HE.out⟩

/-- What the copy of a row gives. -/
def CopPost (w : World) (e : Ending) (w' : World) : Prop := ∃ v, e = .returned v ∧ RowOk w' v ∧ Ext w w'
set_option maxRecDepth 100000 in
set_option maxHeartbeats 8000000 in
theorem copied_ok (b : Nat) (cp : Nat) (v : Value) (w : World) (hc : w.cell? ⟨b, 0, none⟩ = some v) (hv : RowOk w v) :
    Calls Try.prog 64 #[.slice (some ⟨b, 0, none⟩) 1 cp] w (CopPost w) := by
  obtain ⟨rb, rc, rfl, v1⟩ := hv.out
  have HV := Lib.hid v1
  clear v1 hv
  go_enter Try.func64, Try.ntmps64
  go_wp2
  go_loopg [3, 8] 1 (fun k v3 v8 wr => (k = 1 ∧ v8 = .int .i64 0 ∧ v3 = .slice none 0 0 ∧ wr = w) ∨ (k = 0 ∧ v8 = .int .i64 1 ∧ RowOk wr v3 ∧ Ext w wr))
  case atStart => exact .inl ⟨rfl, rfl, rfl, rfl⟩
  case round =>
    rcases hrel with ⟨rfl, rfl, rfl, rfl⟩ | ⟨rfl, rfl, hr, hE⟩
    · go_wp2_with (at_builtin; refine (fun (h : True → _) => h trivial) ?_)
      intro _
      obtain ⟨lb, off, e1, hcell⟩ := HV.out (by simp)
      cases e1
      obtain ⟨c0, c1, c2⟩ := hcell 0 _ rfl
      simp only at c0 c1 c2
      refine app_from ei_value rfl (.tmp 12) (.tmp 13) rfl (g := none) (n := 0) (cap := 0) (xs := []) (by rfl) (Sl.nil _ _ _) (b := rb) (off := 0) (m := 1) (c := rc) (news := [.int .i64 1, .int .i64 1, str []]) (by rfl) rfl ?_ ?_ (by omega) (by omega) ?_
      · intro j u hu
        match j, hu with
        | 0, hu => cases hu; simpa using c0
        | 1, hu => cases hu; simpa using c1
        | 2, hu => cases hu; simpa using c2
        | j + 3, hu => simp at hu
      · intro u hu
        simp at hu
        rcases hu with rfl | rfl | rfl <;> rfl
      · intro g5 cap5 w5 hS5 hT5 hat5
        have hR5 : RowOk w5 (.slice (some ⟨g5, 0, none⟩) 1 cap5) := by
          obtain ⟨cur, hb, hs, hc⟩ := hS5.raw
          refine ⟨g5, cap5, cur, _, rfl, hb, fun _ => ⟨g5, 0, rfl, fun i u hi => ?_⟩⟩
          match i, hi with
          | 0, hi =>
            cases hi
            exact ⟨by simpa using hS5.cell (j := 0) rfl, by simpa using hS5.cell (j := 1) rfl, by simpa using hS5.cell (j := 2) rfl⟩
          | i + 1, hi => simp at hi
        have HR5 := Lib.hid hR5
        have HE5 : Hid (Ext wr w5) := Touch.freshX (Ext.refl wr) hT5 (fun k hk => by cases hk)
        clear hS5 hT5 hat5 hR5 c0 c1 c2 hcell
        go_wp2
        go_roundg 0
        case measure => omega
        case rel => exact .inr ⟨rfl, rfl, HR5.out, HE5.out⟩
    · have HR := Lib.hid hr
      have HE := Lib.hid hE
      clear hr hE
      go_wp2
      go_ret
      exact ⟨_, rfl, HR.out, HE.out⟩
end Go.Proofs.Ytkejjahlglldlaa
