/- bag.steps: walked. -/
import Derived.Test.YtkejjahlglldlaaPeD
import Derived.Test.YtkejjahlglldlaaPeB
import Derived.Test.YtkejjahlglldlaaPeM
namespace Go.Proofs.Ytkejjahlglldlaa
open Go.RowKit

theorem flatQ_one : ∀ (ps : List Per), ∀ u ∈ flatQ ps, u.oneCell' = true
  | [], u, hu => by simp [flatQ] at hu
  | q :: ps, u, hu => by
    simp only [flatQ, List.mem_cons] at hu
    rcases hu with rfl | rfl | hu
    · rfl
    · rfl
    · exact flatQ_one ps u hu
/-- The first steps. -/
def stL (ps ms : List Per) (es : List Int) (i : Nat) : List Stp := (List.range i).map fun j => ((es[j]!, es[j + 1]!), (cntP ps es[j]! : Int) - (cntP ms es[j]! : Int))
theorem stL_more {ps ms : List Per} {es : List Int} {i : Nat} {a b : Int} (ha : es[i]? = some a) (hb : es[i + 1]? = some b) : stL ps ms es (i + 1) = stL ps ms es i ++ [((a, b), (cntP ps a : Int) - (cntP ms a : Int))] := by
  unfold stL
  rw [List.range_succ, List.map_append]
  obtain ⟨h1, rfl⟩ := List.getElem?_eq_some_iff.1 ha
  obtain ⟨h2, rfl⟩ := List.getElem?_eq_some_iff.1 hb
  simp [getElem!_pos, h1, h2]
theorem stL_is (ps ms : List Per) (es : List Int) : IsSteps ps ms es (stL ps ms es (es.length - 1)) := by
  refine ⟨by simp [stL], fun i a b ha hb => ?_⟩
  obtain ⟨h1, rfl⟩ := List.getElem?_eq_some_iff.1 ha
  obtain ⟨h2, rfl⟩ := List.getElem?_eq_some_iff.1 hb
  unfold stL
  rw [List.getElem?_map, List.getElem?_range (by omega)]
  simp [getElem!_pos, h1, h2]
theorem ISl.at' {w : World} {g : Option Nat} {n cap : Nat} {es : List Int} (h : ISl w g n cap es) {i : Nat} (hi : i < n) : ∃ (b : Nat) (x : Int), g = some b ∧ b < w.heap.size ∧ es[i]? = some x ∧ w.cell? ⟨b, i, none⟩ = some (.int .i64 x) := by
  have hl := ISl.count h
  obtain ⟨b, rfl⟩ := h.some_of_pos (by omega)
  obtain ⟨x, hx⟩ : ∃ x, es[i]? = some x := ⟨es[i]'(by omega), List.getElem?_eq_getElem _⟩
  exact ⟨b, x, rfl, h.block_lt, hx, h.cell (by simp [intsV, hx])⟩
abbrev stepB (a b q : Int) : Obj := .cells #[.int .i64 a, .int .i64 b, .int .i64 q] 177 (0, 0)
def CntInv (wr : World) (sb : Nat) (a b : Int) (f : Nat → Int) (n gk : Nat) (v : Value) (w2 : World) : Prop :=
  ∃ (j : Nat) (q : Int), j + gk = n ∧ v = .int .i64 (j : Int) ∧ q = f j ∧ w2.heap[sb]? = some (stepB a b q) ∧ Ext wr w2
def StpInv (W : World) (ps ms : List Per) (es : List Int) (k gk : Nat) (v6 v22 : Value) (wr : World) : Prop :=
  ∃ (i : Nat) (g : Option Nat) (cap : Nat), i + gk = k ∧ v22 = .int .i64 (i : Int) ∧ v6 = slv g i cap ∧ SSl wr g i cap (stL ps ms es i) ∧ (∀ b, g = some b → W.heap.size ≤ b) ∧ Ext W wr
/-- What steps gives. -/
def StpPost (ps ms : List Per) (w : World) (e : Ending) (w' : World) : Prop :=
  ∃ g m cap es st, e = .returned (slv g m cap) ∧ SSl w' g m cap st ∧ IsEdges (ps ++ ms) es ∧ IsSteps ps ms es st ∧ m ≤ 2 * (ps.length + ms.length) ∧ (∀ b, g = some b → w.heap.size ≤ b) ∧ Ext w w'
set_option maxRecDepth 100000 in
set_option maxHeartbeats 16000000 in
theorem steps_ok (g : Option Nat) (n cap : Nat) (ps : List Per) (g2 : Option Nat) (n2 cap2 : Nat) (ms : List Per) (w : World) (hS : PSl w g n cap ps) (hM : PSl w g2 n2 cap2 ms) (hn : n + n2 ≤ 1099511627776) :
    Calls Try.prog 72 #[slv g n cap, slv g2 n2 cap2] w (StpPost ps ms w) := by
  have HN := Lib.hid hS.count
  have HN2 := Lib.hid hM.count
  have HS := Lib.hid hS; clear hS
  have HM := Lib.hid hM; clear hM
  go_enter Try.func72, Try.ntmps72
  go_wp2_with fail
  refine (Clone_ok (adr g) n cap ps _ HN.out HS.out.pers HS.out.nilOf (by omega)).mono ?_
  rintro e w1 ⟨g3, cap3, rfl, hC, hg3, hE1⟩
  have HC := Lib.hid hC
  have HG3 := Lib.hid hg3
  have HE1 := Lib.hid hE1
  clear hC hg3 hE1
  go_wp2_with (at_builtin; refine (fun (h : True → _) => h trivial) ?_)
  intro _
  refine app_slice ei_per rfl (.tmp 14) (.tmp 15) rfl (g := g3) (n := n) (cap := cap3) (by rfl) HC.out (by rfl) (HM.out.ext HE1.out) (flatQ_one ms) (by omega) ?_
  intro g5 cap5 w5 hS5 hT5 hat5
  rw [← flatQ_append] at hS5
  have HS5 : Hid (PSl w5 g5 (n + n2) cap5 (ps ++ ms)) := hS5
  have HE5 : Hid (Ext w w5) := Touch.freshX HE1.out hT5 (fun k hk => HG3.out k hk)
  clear hS5 hT5 hat5
  go_wp2_with fail
  refine (Edges_ok g5 (n + n2) cap5 (ps ++ ms) _ HS5.out (by omega)).mono ?_
  rintro e w6 ⟨gE, mE, capE, es, rfl, hI, hED, hmE, hgE, hE6⟩
  have HI := Lib.hid hI
  have HED := Lib.hid hED
  have HE6 := Lib.hid (HE5.out.trans hE6)
  have HCE := Lib.hid (ISl.count hI)
  rw [List.length_append, HN.out, HN2.out] at hmE
  have HX6 := Lib.hid hE6
  clear hI hED hgE hE6
  have hw0 : IntKind.i64.wrap ((mE : Int) - 1) = (mE : Int) - 1 := by rw [IntKind.wrap_i64]; omega
  obtain ⟨k, hmax, hk⟩ : ∃ k : Nat, max ((mE : Int) - 1) 0 = (k : Int) ∧ k = mE - 1 := ⟨mE - 1, by omega, rfl⟩
  have HK := Lib.hid hk
  have hk1 : k ≤ mE := by omega
  have hk2 : ∀ i, i < k → i + 1 < mE := fun i h => by omega
  have HK2 := Lib.hid hk2
  clear hk hk2
  go_wp2
  clear hmax hw0
  go_loopg [6, 22] k (fun gk v6 v22 wr => StpInv w6 ps ms es k gk v6 v22 wr)
  case atStart => exact ⟨0, none, 0, by omega, rfl, rfl, Sl.nil _ _ _, by simp, Ext.refl _⟩
  case round =>
    rename World => wr0
    rename Nat => gk0
    obtain ⟨i, g4, cap4, hik, rfl, rfl, hSS, hg, hE⟩ := hrel
    have HIK := Lib.hid hik; clear hik
    have HSS := Lib.hid hSS; clear hSS
    have HG := Lib.hid hg; clear hg
    have HE := Lib.hid hE; clear hE
    by_cases hlt : i < k
    · obtain ⟨be, a, e1, l1, p1, c1⟩ := ISl.at' (HI.out.ext HE.out) (i := i) (by have := HK2.out i hlt; omega)
      obtain ⟨be', b, e2, _, p2, c2⟩ := ISl.at' (HI.out.ext HE.out) (i := i + 1) (HK2.out i hlt)
      rw [e1] at e2
      cases e2
      have z1 : ∀ u, (Instr.indexAt 46 (slv gE mE capE) (.int .i64 (i : Int))).run Try.prog u = .ok (.pointer (some ⟨be, i, none⟩)) u := fun u => by simpa using run_index_slv ei_int64 (cap := capE) e1 (j := i) (by have := HK2.out i hlt; omega) u
      have z2 : ∀ u, (Instr.indexAt 46 (slv gE mE capE) (.int .i64 ((i : Int) + 1))).run Try.prog u = .ok (.pointer (some ⟨be, i + 1, none⟩)) u := fun u => by simpa using run_index_slv ei_int64 (cap := capE) e1 (j := i + 1) (HK2.out i hlt) u
      have hw : IntKind.i64.wrap ((i : Int) + 1) = (i : Int) + 1 := by rw [IntKind.wrap_i64]; omega
      have HM1 := Lib.hid (stL_more (ps := ps) (ms := ms) p1 p2)
      clear p1 p2 e1
      go_wp2
      refine region_calm [.p 0, .p 1, .p 2, .l 3, .p 4, .p 5, .p 6, .p 7, .l 8, .p 9, .p 10, .h 11 true, .h 12 false] f_mixed (by kernel_rfl) (by kernel_rfl) ?_
      repeat (first | (refine plan_p rfl (fun K hK => ?_); go_simp; refine hK _ ?_; clear hK K) | (refine plan_l rfl (fun K hK => ?_); go_simp; refine hK _ ?_; clear hK K))
      refine plan_ct rfl rfl (fun K _ hK => ?_)
      go_wp2
      refine hK _ _ ((Ext.refl _).alloc _) ?_; clear hK K
      refine plan_c rfl rfl (fun K _ hK => ?_)
      go_wp2_with fail
      repeat (first | (refine plan_p rfl (fun K hK => ?_); go_simp; refine hK _ ?_; clear hK K) | (refine plan_l rfl (fun K hK => ?_); go_simp; refine hK _ ?_; clear hK K))
      refine plan_done ?_
      clear z1 z2 c1 c2 l1 hw
      have HSP := Lib.hid (HS.out.ext (HE6.out.trans HE.out))
      have HMP := Lib.hid (HM.out.ext (HE6.out.trans HE.out))
      have HC0 := Lib.hid (show cntP ps a ≤ n by have := cntP_le ps a; rw [HN.out] at this; exact this)
      go_wp2
      go_loopg [38] n (fun gk v38 wr => CntInv wr0 wr0.heap.size a b (fun j => (cntP (ps.take j) a : Int)) n gk v38 wr)
      case atStart => exact ⟨0, 0, by omega, rfl, by simp [cntP], by rw [blk_drew]; exact blk_new _ _, ((Ext.refl _).alloc _).drew⟩
      case round =>
        obtain ⟨j, q, hjk, rfl, hq, hB, hX⟩ := hrel
        have HPP := HSP
        have HJK := Lib.hid hjk; clear hjk
        have HQ := Lib.hid hq; clear hq
        have HB := Lib.hid hB; clear hB
        have HX := Lib.hid hX; clear hX
        by_cases hlt2 : j < n
        · obtain ⟨b2, x, y, e2, l2, p2, c20, c21⟩ := PSl.at' (HPP.out.ext HX.out) hlt2
          have zz := fun u => run_index_slv ei_per (cap := cap) e2 hlt2 u
          have HT := Lib.hid (cntP_take p2 a)
          have HLQ := Lib.hid (cntP_le (ps.take j) a)
          obtain ⟨d0, d1, d2⟩ := blk3 HB.out
          have ls := blk_lt HB.out
          clear p2 e2
          go_wp2_with fail
          refine (Has_ok (x, y) a _).mono ?_
          rintro e w5 ⟨rfl, hE5⟩
          have HE5 : Hid (Ext wr w5) := ((Ext.refl wr).alloc _).trans hE5
          have HB5 := Lib.hid (Ext.block HE5.out HB.out)
          obtain ⟨f0, f1, f2⟩ := blk3 HB5.out
          have fz := blk_frozen HB5.out 2
          clear hE5 d0 d1 d2 c20 c21 zz l2 ls
          cases hh : has (x, y) a
          · have HT2 := Lib.hid (show cntP (ps.take (j + 1)) a = cntP (ps.take j) a from by have h2 := HT.out; rw [hh] at h2; simpa using h2)
            clear hh
            go_wp2
            go_roundg (gk - 1)
            case measure => have := HJK.out; omega
            case rel => exact ⟨j + 1, q, by have := HJK.out; omega, by go_num, by rw [HQ.out]; simp only [HT2.out], HB5.out, HX.out.trans HE5.out⟩
          · have HT2 := Lib.hid (show cntP (ps.take (j + 1)) a = cntP (ps.take j) a + 1 from by have h2 := HT.out; rw [hh] at h2; simpa using h2)
            have hwr : IntKind.i64.wrap (q+1) = q+1 := by
              rw [IntKind.wrap_i64]
              have h1 := HQ.out
              have h2 := HLQ.out
              have h3 : (ps.take j).length ≤ n := by rw [List.length_take]; omega
              have h4 := HC0.out
              omega
            clear hh
            go_wp2
            go_roundg (gk - 1)
            case measure => have := HJK.out; omega
            case rel => exact ⟨j + 1, q+1, by have := HJK.out; omega, by go_num, by have h1 := HQ.out; have h2 := HT2.out; rw [h1]; simp only [h2]; omega, by simpa using blk_set HB5.out 2 (.int .i64 (q+1)), Below.setCell (p := ⟨wr0.heap.size, 2, none⟩) (HX.out.trans HE5.out) (Nat.le_refl _) _⟩
        · have hjn : j = n := by have := HJK.out; omega
          subst hjn
          have HQ1 := Lib.hid (show q = (cntP ps a : Int) from by
            have h : q = (cntP (ps.take j) a : Int) := HQ.out
            rw [List.take_of_length_le (by rw [HN.out]; exact Nat.le_refl _)] at h
            exact h)
          go_wp2
          go_loopg [54] n2 (fun gk v54 wr => CntInv wr0 wr0.heap.size a b (fun j => (cntP ps a : Int) - (cntP (ms.take j) a : Int)) n2 gk v54 wr)
          case atStart => exact ⟨0, q, by omega, rfl, by rw [HQ1.out]; simp [cntP], HB.out, HX.out⟩
          case round =>
            clear HQ1 HQ HB HX HPP HJK
            obtain ⟨j, q, hjk, rfl, hq, hB, hX⟩ := hrel
            have HPP := HMP
            have HJK := Lib.hid hjk; clear hjk
            have HQ := Lib.hid hq; clear hq
            have HB := Lib.hid hB; clear hB
            have HX := Lib.hid hX; clear hX
            by_cases hlt2 : j < n2
            · obtain ⟨b2, x, y, e2, l2, p2, c20, c21⟩ := PSl.at' (HPP.out.ext HX.out) hlt2
              have zz := fun u => run_index_slv ei_per (cap := cap2) e2 hlt2 u
              have HT := Lib.hid (cntP_take p2 a)
              have HLQ := Lib.hid (cntP_le (ms.take j) a)
              obtain ⟨d0, d1, d2⟩ := blk3 HB.out
              have ls := blk_lt HB.out
              clear p2 e2
              go_wp2_with fail
              refine (Has_ok (x, y) a _).mono ?_
              rintro e w5 ⟨rfl, hE5⟩
              have HE5 : Hid (Ext wr w5) := ((Ext.refl wr).alloc _).trans hE5
              have HB5 := Lib.hid (Ext.block HE5.out HB.out)
              obtain ⟨f0, f1, f2⟩ := blk3 HB5.out
              have fz := blk_frozen HB5.out 2
              clear hE5 d0 d1 d2 c20 c21 zz l2 ls
              cases hh : has (x, y) a
              · have HT2 := Lib.hid (show cntP (ms.take (j + 1)) a = cntP (ms.take j) a from by have h2 := HT.out; rw [hh] at h2; simpa using h2)
                clear hh
                go_wp2
                go_roundg (gk - 1)
                case measure => have := HJK.out; omega
                case rel => exact ⟨j + 1, q, by have := HJK.out; omega, by go_num, by rw [HQ.out]; simp only [HT2.out], HB5.out, HX.out.trans HE5.out⟩
              · have HT2 := Lib.hid (show cntP (ms.take (j + 1)) a = cntP (ms.take j) a + 1 from by have h2 := HT.out; rw [hh] at h2; simpa using h2)
                have hwr : IntKind.i64.wrap (q-1) = q-1 := by
                  rw [IntKind.wrap_i64]
                  have h1 := HQ.out
                  have h2 := HLQ.out
                  have h3 : (ms.take j).length ≤ n2 := by rw [List.length_take]; omega
                  have h4 := HC0.out
                  omega
                clear hh
                go_wp2
                go_roundg (gk - 1)
                case measure => have := HJK.out; omega
                case rel => exact ⟨j + 1, q-1, by have := HJK.out; omega, by go_num, by have h1 := HQ.out; have h2 := HT2.out; rw [h1]; simp only [h2]; omega, by simpa using blk_set HB5.out 2 (.int .i64 (q-1)), Below.setCell (p := ⟨wr0.heap.size, 2, none⟩) (HX.out.trans HE5.out) (Nat.le_refl _) _⟩
            · have hjn : j = n2 := by have := HJK.out; omega
              subst hjn
              have HQ1 := Lib.hid (show q = (cntP ps a : Int) - (cntP ms a : Int) from by
                have h : q = (cntP ps a : Int) - (cntP (ms.take j) a : Int) := HQ.out
                rw [List.take_of_length_le (by rw [HN2.out]; exact Nat.le_refl _)] at h
                exact h)
              obtain ⟨d0, d1, d2⟩ := blk3 HB.out
              have ls := blk_lt HB.out
              have HSS2 := Lib.hid (HSS.out.ext HX.out)
              go_wp2_with (at_builtin; refine (fun (h : True → _) => h trivial) ?_)
              intro _
              refine app_lit ei_step rfl (.tmp 68) (.tmp 70) rfl (g := g4) (n := i) (cap := cap4) (b := wr.heap.size) (by rfl) (HSS2.out.ext ((Ext.refl _).alloc _)) (by rfl) rfl (blk_new_at _ rfl) (by simp [Value.oneCell']) (by omega) (by omega) ?_
              intro g6 cap6 w7 hS7 hT7 hat7
              have hS8 : SSl w7 (some g6) (i + 1) cap6 (stL ps ms es (i + 1)) := by
                show Sl _ _ _ _ _ _ _
                rw [HM1.out, flatS_append, ← HQ1.out]
                exact hS7
              have HS8 := Lib.hid hS8
              have HG6 : Hid (∀ b, some g6 = some b → w6.heap.size ≤ b) := by
                intro k hk
                cases hk
                rcases hat7 with h | h
                · exact HG.out _ h
                · have := HE.out.size; have := HX.out.size; simp at h; omega
              have HE7 : Hid (Ext w6 w7) := Touch.freshX ((HE.out.trans HX.out).alloc _) hT7 (fun k hk => HG.out k hk)
              clear hS7 hT7 hat7 hS8 d0 d1 d2 ls
              go_wp2
              go_roundg (k - i - 1)
              case measure => have := HIK.out; omega
              case rel => exact ⟨i + 1, some g6, cap6, by have := HIK.out; omega, by go_num, rfl, HS8.out, HG6.out, HE7.out⟩
    · have hin : i = k := by have := HIK.out; omega
      subst hin
      go_wp2
      go_ret
      refine ⟨g4, i, cap4, es, stL ps ms es i, rfl, HSS.out, HED.out, ?_, ?_, fun b hb => Nat.le_trans HE6.out.size (HG.out b hb), HE6.out.trans HE.out⟩
      · have := stL_is ps ms es
        rw [HCE.out, ← HK.out] at this
        exact this
      · rw [HN.out, HN2.out]
        omega
end Go.Proofs.Ytkejjahlglldlaa
