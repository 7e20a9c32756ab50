/- annalslaw15.ParseRights: walked at every input. -/
import Derived.Test.YtkhnpmeohjafiaaGreatDoorMX
import Derived.Test.YtkhnpmeohjafiaaGreatDoorMPuV
import Derived.Test.YtkhnpmeohjafiaaGreatDoorMPuS
namespace Go.Proofs.YtkhnpmeohjafiaaGreatDoor
open Go.RowKit

theorem at3 {a b c : Str} {w : World} {fz : Nat × Nat} {bk : Nat} (h : w.heap[bk]? = some (.cells #[str a, str b, str c] 9 fz)) {i : Nat} {u : Str} (hu : [a, b, c][i]? = some u) : w.cell? ⟨bk, i, none⟩ = some (str u) := by
  refine blk_cell h ?_
  have : (#[str a, str b, str c] : Array Value) = ([a, b, c].map str).toArray := rfl
  rw [this, List.getElem?_toArray, List.getElem?_map, hu]; rfl
/-- One word of the three is weighed. -/
structure RtInv (a b c : Str) (bk : Nat) (w wr : World) (i : Nat) : Prop where
  ext : Ext w wr
  words : ∀ j u, j < i → [a, b, c][j]? = some u → Wd u
set_option maxRecDepth 100000 in
set_option maxHeartbeats 32000000 in
theorem rights_any (a b c : Str) (w : World) (hg : Gl w) (ha : a.length ≤ 1048576) (hb : b.length ≤ 1048576) (hc : c.length ≤ 1048576) :
    Calls Tryz.prog 6 #[str a, str b, str c] w (fun e w' => e = .returned (.bool true) ∧ Ext w w') := by
  have HG := Lib.hid hg
  have HLA := Lib.hid ha
  have HLB := Lib.hid hb
  have HLC := Lib.hid hc
  clear hg
  go_enter Tryz.func6, Tryz.ntmps6
  go_wp2_with fail
  refine (awake_ok w HG.out).mono ?_
  rintro e w1 ⟨rfl, hE1⟩
  have HE1 := Lib.hid hE1
  clear hE1
  go_wp2_with fail
  have hB0 : (w1.alloc (.cells #[str a, str b, str c] 9)).heap[w1.heap.size]? = some (.cells #[str a, str b, str c] 9 (0, 0)) := blk_new _ _
  have HB0 := Lib.hid hB0
  obtain ⟨W, hW⟩ : ∃ z, z = w1.alloc (.cells #[str a, str b, str c] 9) := ⟨_, rfl⟩
  rw [← hW] at HB0
  have HEW : Hid (Ext w W) := Lib.hid (by rw [hW]; exact HE1.out.trans ((Ext.refl _).alloc _))
  rw [← hW]
  clear hB0 hW
  go_loopg [18] 3 (fun gk vj wr => ∃ i : Nat, i + gk = 3 ∧ vj = .int .i64 (i : Int) ∧ RtInv a b c w1.heap.size W wr i)
  case atStart => exact ⟨0, by omega, rfl, Ext.refl _, fun j u h => absurd h (by omega)⟩
  case round =>
    obtain ⟨i, hik, rfl, hI⟩ := hrel
    have HIK := Lib.hid hik
    have HI := Lib.hid hI
    clear hik hI
    by_cases hlt : i < 3
    · obtain ⟨u, hu⟩ : ∃ u, [a, b, c][i]? = some u := ⟨_, List.getElem?_eq_getElem hlt⟩
      have HU := Lib.hid hu
      have hul : u.length ≤ 1048576 := by
        have := List.mem_of_getElem? hu
        simp only [List.mem_cons, List.not_mem_nil, or_false] at this
        rcases this with rfl | rfl | rfl
        · exact HLA.out
        · exact HLB.out
        · exact HLC.out
      have c0 : wr.cell? ⟨w1.heap.size, i, none⟩ = some (str u) := at3 (Ext.block HI.out.ext HB0.out) hu
      obtain ⟨s1, h1⟩ : ∃ z : Str, z = [115, 101, 108, 101, 99, 116, 32] ++ u := ⟨_, rfl⟩
      obtain ⟨s2, h2⟩ : ∃ z : Str, z = s1 ++ [32, 102, 114, 111, 109, 32, 116] := ⟨_, rfl⟩
      have hc1 : ∀ v : World, (Op.stringOp .add ⟨#[115, 101, 108, 101, 99, 116, 32]⟩ (bs u)).run Tryz.prog v = .ok (str s1) v := fun v => by rw [h1]; exact cat_ok [115, 101, 108, 101, 99, 116, 32] u v (by simp; omega)
      have hl1 : s1.length ≤ 2000000 := by rw [h1]; simp; omega
      have hc2 : ∀ v : World, (Op.stringOp .add (bs s1) ⟨#[32, 102, 114, 111, 109, 32, 116]⟩).run Tryz.prog v = .ok (str s2) v := fun v => by rw [h2]; exact cat_ok s1 [32, 102, 114, 111, 109, 32, 116] v (by simp; omega)
      have HL2 : Hid (s2.length ≤ 1000000000) := Lib.hid (by rw [h2]; simp; omega)
      have HS2 : Hid (s2 = flatP selP ++ (u ++ 32 :: [102, 114, 111, 109, 32, 116])) := Lib.hid (by rw [h2, h1, show flatP selP = [115, 101, 108, 101, 99, 116, 32] from by decide, List.append_assoc])
      obtain ⟨x, hx⟩ : ∃ x, stOf (parseOf s2) = x := ⟨_, rfl⟩
      obtain ⟨f1, hf1⟩ : ∃ x, (flOf (parseOf s2)).1 = x := ⟨_, rfl⟩
      obtain ⟨f2, hf2⟩ : ∃ x, (flOf (parseOf s2)).2 = x := ⟨_, rfl⟩
      have HX := Lib.hid hx
      have HF1 := Lib.hid hf1
      have HF2 := Lib.hid hf2
      clear hu hul h1 h2 hl1 hx hf1 hf2
      go_wp2_with fail
      refine (Parse_any s2 wr HL2.out x f1 f2 HX.out HF1.out HF2.out).mono ?_
      rintro e w2 ⟨hE, gg1, gg2, gg3, gg4, gg5, gg6, gg7, gg8, gg9, gg10, cc1, cc2, cc3, cc4, cc5, cc6, cc7, cc8, cc9, cc10, rfl, hok⟩
      have HO2 := Lib.hid hok
      have HE2 := Lib.hid hE
      clear hE hok
      clear c0 hc1 hc2
      by_cases hf : f1 = 0
      · by_cases hq1 : x.query.length = 1
        · obtain ⟨q, hq⟩ : ∃ q, x.query = [q] := by
            match h : x.query, hq1 with
            | [q], _ => exact ⟨q, rfl⟩
          have HXQ := Lib.hid hq
          obtain ⟨ga, ca, ba, csa, hva, hga, hla, hca, hcc⟩ := HO2.out.qu.rd.at (i := 0) (x := q) (by rw [hq]; rfl)
          obtain ⟨rfl, rfl⟩ := slv_inj hva
          obtain ⟨via, vta, vca, rfl, hvi, -, -⟩ := hca
          obtain ⟨gi, ci, rfl⟩ := hvi.slice
          have d4 : w2.cell? ⟨ba, 4, none⟩ = some (slv gi q.items.length ci) := hcc 4 (by decide) _ rfl
          have z1 : ∀ v : World, (Instr.indexAt 29 (slv gg6 x.query.length cc6) (.int .i64 0)).run Tryz.prog v = .ok (.pointer (some ⟨ba, 0, none⟩)) v := fun v => run_index_slv ei_qu (cap := cc6) (j := 0) hga (by omega) v
          have hqn : ((x.query.length : Int) != 1) = false := by simp [hq1]
          have lb : ba < w2.heap.size + 1 := by omega
          clear hvi hcc hga hva hq hq1
          by_cases hi1 : q.items.length = 1
          · have HI1 := Lib.hid hi1
            have hin : ((q.items.length : Int) != 1) = false := by simp [hi1]
            clear hi1
            have HW : Hid (Wd u) := Lib.hid (by
              obtain ⟨x', hx'⟩ := fl_ok (HF1.out.trans hf)
              have hxx : x' = x := by have := HX.out; rw [hx'] at this; exact this
              subst hxx
              rw [HS2.out] at hx'
              obtain ⟨A, o, h1, h2⟩ := word_opd hx' HXQ.out HI1.out
              exact ⟨A, o, h1, h2⟩)
            go_wp2
            go_roundg (gk - 1)
            case measure => have := HIK.out; omega
            case rel => exact ⟨i + 1, by have := HIK.out; omega, by go_num, HI.out.ext.trans ((HE2.out.alloc _).alloc _), fun j v hj hv => by
              rcases Nat.lt_succ_iff_lt_or_eq.1 hj with h | rfl
              · exact HI.out.words j v h hv
              · have := HU.out; rw [hv] at this; cases this; exact HW.out⟩
          · have hin : ((q.items.length : Int) != 1) = true := by simp; omega
            go_wp2
            go_ret
            exact ⟨rfl, ((HEW.out.trans (HI.out.ext.trans HE2.out)).alloc _).alloc _⟩
        · have hqn : ((x.query.length : Int) != 1) = true := by simp; omega
          go_wp2
          go_ret
          exact ⟨rfl, ((HEW.out.trans (HI.out.ext.trans HE2.out)).alloc _).alloc _⟩
      · go_wp2
        go_ret
        exact ⟨rfl, ((HEW.out.trans (HI.out.ext.trans HE2.out)).alloc _).alloc _⟩
    · have HA : Hid (Wd a) := Lib.hid (HI.out.words 0 a (by omega) rfl)
      have HB : Hid (Wd b) := Lib.hid (HI.out.words 1 b (by omega) rfl)
      have HC : Hid (Wd c) := Lib.hid (HI.out.words 2 c (by omega) rfl)
      have HEB := Lib.hid (HEW.out.trans HI.out.ext)
      clear HIK HB0 HEW HE1 HG
      obtain ⟨z1, e1⟩ : ∃ z : Str, z = a ++ [43] := ⟨_, rfl⟩
      have l1 : z1.length ≤ 1048577 := by rw [e1, List.length_append]; (try simp only [List.length_cons, List.length_nil]); omega
      have q1 : ∀ v : World, (Op.stringOp .add (bs a) ⟨#[43]⟩).run Tryz.prog v = .ok (str z1) v := fun v => by rw [e1]; exact cat_ok (a) ([43]) v (by (try simp only [List.length_cons, List.length_nil]); omega)
      obtain ⟨z2, e2⟩ : ∃ z : Str, z = z1 ++ b := ⟨_, rfl⟩
      have l2 : z2.length ≤ 2097153 := by rw [e2, List.length_append]; (try simp only [List.length_cons, List.length_nil]); omega
      have q2 : ∀ v : World, (Op.stringOp .add (bs z1) (bs b)).run Tryz.prog v = .ok (str z2) v := fun v => by rw [e2]; exact cat_ok (z1) (b) v (by (try simp only [List.length_cons, List.length_nil]); omega)
      obtain ⟨z3, e3⟩ : ∃ z : Str, z = z2 ++ [42] := ⟨_, rfl⟩
      have l3 : z3.length ≤ 2097154 := by rw [e3, List.length_append]; (try simp only [List.length_cons, List.length_nil]); omega
      have q3 : ∀ v : World, (Op.stringOp .add (bs z2) ⟨#[42]⟩).run Tryz.prog v = .ok (str z3) v := fun v => by rw [e3]; exact cat_ok (z2) ([42]) v (by (try simp only [List.length_cons, List.length_nil]); omega)
      obtain ⟨z4, e4⟩ : ∃ z : Str, z = z3 ++ c := ⟨_, rfl⟩
      have l4 : z4.length ≤ 3145730 := by rw [e4, List.length_append]; (try simp only [List.length_cons, List.length_nil]); omega
      have q4 : ∀ v : World, (Op.stringOp .add (bs z3) (bs c)).run Tryz.prog v = .ok (str z4) v := fun v => by rw [e4]; exact cat_ok (z3) (c) v (by (try simp only [List.length_cons, List.length_nil]); omega)
      obtain ⟨z5, e5⟩ : ∃ z : Str, z = a ++ [43, 40] := ⟨_, rfl⟩
      have l5 : z5.length ≤ 1048578 := by rw [e5, List.length_append]; (try simp only [List.length_cons, List.length_nil]); omega
      have q5 : ∀ v : World, (Op.stringOp .add (bs a) ⟨#[43, 40]⟩).run Tryz.prog v = .ok (str z5) v := fun v => by rw [e5]; exact cat_ok (a) ([43, 40]) v (by (try simp only [List.length_cons, List.length_nil]); omega)
      obtain ⟨z6, e6⟩ : ∃ z : Str, z = z5 ++ b := ⟨_, rfl⟩
      have l6 : z6.length ≤ 2097154 := by rw [e6, List.length_append]; (try simp only [List.length_cons, List.length_nil]); omega
      have q6 : ∀ v : World, (Op.stringOp .add (bs z5) (bs b)).run Tryz.prog v = .ok (str z6) v := fun v => by rw [e6]; exact cat_ok (z5) (b) v (by (try simp only [List.length_cons, List.length_nil]); omega)
      obtain ⟨z7, e7⟩ : ∃ z : Str, z = z6 ++ [42] := ⟨_, rfl⟩
      have l7 : z7.length ≤ 2097155 := by rw [e7, List.length_append]; (try simp only [List.length_cons, List.length_nil]); omega
      have q7 : ∀ v : World, (Op.stringOp .add (bs z6) ⟨#[42]⟩).run Tryz.prog v = .ok (str z7) v := fun v => by rw [e7]; exact cat_ok (z6) ([42]) v (by (try simp only [List.length_cons, List.length_nil]); omega)
      obtain ⟨z8, e8⟩ : ∃ z : Str, z = z7 ++ c := ⟨_, rfl⟩
      have l8 : z8.length ≤ 3145731 := by rw [e8, List.length_append]; (try simp only [List.length_cons, List.length_nil]); omega
      have q8 : ∀ v : World, (Op.stringOp .add (bs z7) (bs c)).run Tryz.prog v = .ok (str z8) v := fun v => by rw [e8]; exact cat_ok (z7) (c) v (by (try simp only [List.length_cons, List.length_nil]); omega)
      obtain ⟨z9, e9⟩ : ∃ z : Str, z = z8 ++ [41] := ⟨_, rfl⟩
      have l9 : z9.length ≤ 3145732 := by rw [e9, List.length_append]; (try simp only [List.length_cons, List.length_nil]); omega
      have q9 : ∀ v : World, (Op.stringOp .add (bs z8) ⟨#[41]⟩).run Tryz.prog v = .ok (str z9) v := fun v => by rw [e9]; exact cat_ok (z8) ([41]) v (by (try simp only [List.length_cons, List.length_nil]); omega)
      have P1 : Hid (∀ x y, parseOf (hdW ++ z4) = .inr x → parseOf (hdW ++ z9) = .inr y → x = y) := Lib.hid (by rw [show z4 = a ++ 43 :: (b ++ 42 :: c) by rw [e4, e3, e2, e1]; simp, show z9 = a ++ 43 :: 40 :: (b ++ 42 :: (c ++ [41])) by rw [e9, e8, e7, e6, e5]; simp]; exact pair1 HA.out HB.out HC.out)
      have L1 := Lib.hid (And.intro l4 l9)
      obtain ⟨z10, e10⟩ : ∃ z : Str, z = a ++ [45] := ⟨_, rfl⟩
      have l10 : z10.length ≤ 1048577 := by rw [e10, List.length_append]; (try simp only [List.length_cons, List.length_nil]); omega
      have q10 : ∀ v : World, (Op.stringOp .add (bs a) ⟨#[45]⟩).run Tryz.prog v = .ok (str z10) v := fun v => by rw [e10]; exact cat_ok (a) ([45]) v (by (try simp only [List.length_cons, List.length_nil]); omega)
      obtain ⟨z11, e11⟩ : ∃ z : Str, z = z10 ++ b := ⟨_, rfl⟩
      have l11 : z11.length ≤ 2097153 := by rw [e11, List.length_append]; (try simp only [List.length_cons, List.length_nil]); omega
      have q11 : ∀ v : World, (Op.stringOp .add (bs z10) (bs b)).run Tryz.prog v = .ok (str z11) v := fun v => by rw [e11]; exact cat_ok (z10) (b) v (by (try simp only [List.length_cons, List.length_nil]); omega)
      obtain ⟨z12, e12⟩ : ∃ z : Str, z = z11 ++ [45] := ⟨_, rfl⟩
      have l12 : z12.length ≤ 2097154 := by rw [e12, List.length_append]; (try simp only [List.length_cons, List.length_nil]); omega
      have q12 : ∀ v : World, (Op.stringOp .add (bs z11) ⟨#[45]⟩).run Tryz.prog v = .ok (str z12) v := fun v => by rw [e12]; exact cat_ok (z11) ([45]) v (by (try simp only [List.length_cons, List.length_nil]); omega)
      obtain ⟨z13, e13⟩ : ∃ z : Str, z = z12 ++ c := ⟨_, rfl⟩
      have l13 : z13.length ≤ 3145730 := by rw [e13, List.length_append]; (try simp only [List.length_cons, List.length_nil]); omega
      have q13 : ∀ v : World, (Op.stringOp .add (bs z12) (bs c)).run Tryz.prog v = .ok (str z13) v := fun v => by rw [e13]; exact cat_ok (z12) (c) v (by (try simp only [List.length_cons, List.length_nil]); omega)
      obtain ⟨z14, e14⟩ : ∃ z : Str, z = [40] ++ a := ⟨_, rfl⟩
      have l14 : z14.length ≤ 1048577 := by rw [e14, List.length_append]; (try simp only [List.length_cons, List.length_nil]); omega
      have q14 : ∀ v : World, (Op.stringOp .add ⟨#[40]⟩ (bs a)).run Tryz.prog v = .ok (str z14) v := fun v => by rw [e14]; exact cat_ok ([40]) (a) v (by (try simp only [List.length_cons, List.length_nil]); omega)
      obtain ⟨z15, e15⟩ : ∃ z : Str, z = z14 ++ [45] := ⟨_, rfl⟩
      have l15 : z15.length ≤ 1048578 := by rw [e15, List.length_append]; (try simp only [List.length_cons, List.length_nil]); omega
      have q15 : ∀ v : World, (Op.stringOp .add (bs z14) ⟨#[45]⟩).run Tryz.prog v = .ok (str z15) v := fun v => by rw [e15]; exact cat_ok (z14) ([45]) v (by (try simp only [List.length_cons, List.length_nil]); omega)
      obtain ⟨z16, e16⟩ : ∃ z : Str, z = z15 ++ b := ⟨_, rfl⟩
      have l16 : z16.length ≤ 2097154 := by rw [e16, List.length_append]; (try simp only [List.length_cons, List.length_nil]); omega
      have q16 : ∀ v : World, (Op.stringOp .add (bs z15) (bs b)).run Tryz.prog v = .ok (str z16) v := fun v => by rw [e16]; exact cat_ok (z15) (b) v (by (try simp only [List.length_cons, List.length_nil]); omega)
      obtain ⟨z17, e17⟩ : ∃ z : Str, z = z16 ++ [41, 45] := ⟨_, rfl⟩
      have l17 : z17.length ≤ 2097156 := by rw [e17, List.length_append]; (try simp only [List.length_cons, List.length_nil]); omega
      have q17 : ∀ v : World, (Op.stringOp .add (bs z16) ⟨#[41, 45]⟩).run Tryz.prog v = .ok (str z17) v := fun v => by rw [e17]; exact cat_ok (z16) ([41, 45]) v (by (try simp only [List.length_cons, List.length_nil]); omega)
      obtain ⟨z18, e18⟩ : ∃ z : Str, z = z17 ++ c := ⟨_, rfl⟩
      have l18 : z18.length ≤ 3145732 := by rw [e18, List.length_append]; (try simp only [List.length_cons, List.length_nil]); omega
      have q18 : ∀ v : World, (Op.stringOp .add (bs z17) (bs c)).run Tryz.prog v = .ok (str z18) v := fun v => by rw [e18]; exact cat_ok (z17) (c) v (by (try simp only [List.length_cons, List.length_nil]); omega)
      have P2 : Hid (∀ x y, parseOf (hdW ++ z13) = .inr x → parseOf (hdW ++ z18) = .inr y → x = y) := Lib.hid (by rw [show z13 = a ++ 45 :: (b ++ 45 :: c) by rw [e13, e12, e11, e10]; simp, show z18 = 40 :: (a ++ 45 :: (b ++ 41 :: 45 :: c)) by rw [e18, e17, e16, e15, e14]; simp]; exact pair2 HA.out HB.out HC.out)
      have L2 := Lib.hid (And.intro l13 l18)
      obtain ⟨z19, e19⟩ : ∃ z : Str, z = z2 ++ [60] := ⟨_, rfl⟩
      have l19 : z19.length ≤ 2097154 := by rw [e19, List.length_append]; (try simp only [List.length_cons, List.length_nil]); omega
      have q19 : ∀ v : World, (Op.stringOp .add (bs z2) ⟨#[60]⟩).run Tryz.prog v = .ok (str z19) v := fun v => by rw [e19]; exact cat_ok (z2) ([60]) v (by (try simp only [List.length_cons, List.length_nil]); omega)
      obtain ⟨z20, e20⟩ : ∃ z : Str, z = z19 ++ c := ⟨_, rfl⟩
      have l20 : z20.length ≤ 3145730 := by rw [e20, List.length_append]; (try simp only [List.length_cons, List.length_nil]); omega
      have q20 : ∀ v : World, (Op.stringOp .add (bs z19) (bs c)).run Tryz.prog v = .ok (str z20) v := fun v => by rw [e20]; exact cat_ok (z19) (c) v (by (try simp only [List.length_cons, List.length_nil]); omega)
      obtain ⟨z21, e21⟩ : ∃ z : Str, z = z14 ++ [43] := ⟨_, rfl⟩
      have l21 : z21.length ≤ 1048578 := by rw [e21, List.length_append]; (try simp only [List.length_cons, List.length_nil]); omega
      have q21 : ∀ v : World, (Op.stringOp .add (bs z14) ⟨#[43]⟩).run Tryz.prog v = .ok (str z21) v := fun v => by rw [e21]; exact cat_ok (z14) ([43]) v (by (try simp only [List.length_cons, List.length_nil]); omega)
      obtain ⟨z22, e22⟩ : ∃ z : Str, z = z21 ++ b := ⟨_, rfl⟩
      have l22 : z22.length ≤ 2097154 := by rw [e22, List.length_append]; (try simp only [List.length_cons, List.length_nil]); omega
      have q22 : ∀ v : World, (Op.stringOp .add (bs z21) (bs b)).run Tryz.prog v = .ok (str z22) v := fun v => by rw [e22]; exact cat_ok (z21) (b) v (by (try simp only [List.length_cons, List.length_nil]); omega)
      obtain ⟨z23, e23⟩ : ∃ z : Str, z = z22 ++ [41, 60] := ⟨_, rfl⟩
      have l23 : z23.length ≤ 2097156 := by rw [e23, List.length_append]; (try simp only [List.length_cons, List.length_nil]); omega
      have q23 : ∀ v : World, (Op.stringOp .add (bs z22) ⟨#[41, 60]⟩).run Tryz.prog v = .ok (str z23) v := fun v => by rw [e23]; exact cat_ok (z22) ([41, 60]) v (by (try simp only [List.length_cons, List.length_nil]); omega)
      obtain ⟨z24, e24⟩ : ∃ z : Str, z = z23 ++ c := ⟨_, rfl⟩
      have l24 : z24.length ≤ 3145732 := by rw [e24, List.length_append]; (try simp only [List.length_cons, List.length_nil]); omega
      have q24 : ∀ v : World, (Op.stringOp .add (bs z23) (bs c)).run Tryz.prog v = .ok (str z24) v := fun v => by rw [e24]; exact cat_ok (z23) (c) v (by (try simp only [List.length_cons, List.length_nil]); omega)
      have P3 : Hid (∀ x y, parseOf (hdW ++ z20) = .inr x → parseOf (hdW ++ z24) = .inr y → x = y) := Lib.hid (by rw [show z20 = a ++ 43 :: (b ++ 60 :: c) by rw [e20, e19, e2, e1]; simp, show z24 = 40 :: (a ++ 43 :: (b ++ 41 :: 60 :: c)) by rw [e24, e23, e22, e21, e14]; simp]; exact pair3 HA.out HB.out HC.out)
      have L3 := Lib.hid (And.intro l20 l24)
      obtain ⟨z25, e25⟩ : ∃ z : Str, z = [110, 111, 116, 32] ++ a := ⟨_, rfl⟩
      have l25 : z25.length ≤ 1048580 := by rw [e25, List.length_append]; (try simp only [List.length_cons, List.length_nil]); omega
      have q25 : ∀ v : World, (Op.stringOp .add ⟨#[110, 111, 116, 32]⟩ (bs a)).run Tryz.prog v = .ok (str z25) v := fun v => by rw [e25]; exact cat_ok ([110, 111, 116, 32]) (a) v (by (try simp only [List.length_cons, List.length_nil]); omega)
      obtain ⟨z26, e26⟩ : ∃ z : Str, z = z25 ++ [61] := ⟨_, rfl⟩
      have l26 : z26.length ≤ 1048581 := by rw [e26, List.length_append]; (try simp only [List.length_cons, List.length_nil]); omega
      have q26 : ∀ v : World, (Op.stringOp .add (bs z25) ⟨#[61]⟩).run Tryz.prog v = .ok (str z26) v := fun v => by rw [e26]; exact cat_ok (z25) ([61]) v (by (try simp only [List.length_cons, List.length_nil]); omega)
      obtain ⟨z27, e27⟩ : ∃ z : Str, z = z26 ++ b := ⟨_, rfl⟩
      have l27 : z27.length ≤ 2097157 := by rw [e27, List.length_append]; (try simp only [List.length_cons, List.length_nil]); omega
      have q27 : ∀ v : World, (Op.stringOp .add (bs z26) (bs b)).run Tryz.prog v = .ok (str z27) v := fun v => by rw [e27]; exact cat_ok (z26) (b) v (by (try simp only [List.length_cons, List.length_nil]); omega)
      obtain ⟨z28, e28⟩ : ∃ z : Str, z = [110, 111, 116, 32, 40] ++ a := ⟨_, rfl⟩
      have l28 : z28.length ≤ 1048581 := by rw [e28, List.length_append]; (try simp only [List.length_cons, List.length_nil]); omega
      have q28 : ∀ v : World, (Op.stringOp .add ⟨#[110, 111, 116, 32, 40]⟩ (bs a)).run Tryz.prog v = .ok (str z28) v := fun v => by rw [e28]; exact cat_ok ([110, 111, 116, 32, 40]) (a) v (by (try simp only [List.length_cons, List.length_nil]); omega)
      obtain ⟨z29, e29⟩ : ∃ z : Str, z = z28 ++ [61] := ⟨_, rfl⟩
      have l29 : z29.length ≤ 1048582 := by rw [e29, List.length_append]; (try simp only [List.length_cons, List.length_nil]); omega
      have q29 : ∀ v : World, (Op.stringOp .add (bs z28) ⟨#[61]⟩).run Tryz.prog v = .ok (str z29) v := fun v => by rw [e29]; exact cat_ok (z28) ([61]) v (by (try simp only [List.length_cons, List.length_nil]); omega)
      obtain ⟨z30, e30⟩ : ∃ z : Str, z = z29 ++ b := ⟨_, rfl⟩
      have l30 : z30.length ≤ 2097158 := by rw [e30, List.length_append]; (try simp only [List.length_cons, List.length_nil]); omega
      have q30 : ∀ v : World, (Op.stringOp .add (bs z29) (bs b)).run Tryz.prog v = .ok (str z30) v := fun v => by rw [e30]; exact cat_ok (z29) (b) v (by (try simp only [List.length_cons, List.length_nil]); omega)
      obtain ⟨z31, e31⟩ : ∃ z : Str, z = z30 ++ [41] := ⟨_, rfl⟩
      have l31 : z31.length ≤ 2097159 := by rw [e31, List.length_append]; (try simp only [List.length_cons, List.length_nil]); omega
      have q31 : ∀ v : World, (Op.stringOp .add (bs z30) ⟨#[41]⟩).run Tryz.prog v = .ok (str z31) v := fun v => by rw [e31]; exact cat_ok (z30) ([41]) v (by (try simp only [List.length_cons, List.length_nil]); omega)
      have P4 : Hid (∀ x y, parseOf (hdW ++ z27) = .inr x → parseOf (hdW ++ z31) = .inr y → x = y) := Lib.hid (by rw [show z27 = [110, 111, 116] ++ 32 :: (a ++ 61 :: b) by rw [e27, e26, e25]; simp, show z31 = [110, 111, 116] ++ 32 :: 40 :: (a ++ 61 :: (b ++ [41])) by rw [e31, e30, e29, e28]; simp]; exact pair4 HA.out HB.out)
      have L4 := Lib.hid (And.intro l27 l31)
      obtain ⟨z32, e32⟩ : ∃ z : Str, z = z25 ++ [32, 97, 110, 100, 32] := ⟨_, rfl⟩
      have l32 : z32.length ≤ 1048585 := by rw [e32, List.length_append]; (try simp only [List.length_cons, List.length_nil]); omega
      have q32 : ∀ v : World, (Op.stringOp .add (bs z25) ⟨#[32, 97, 110, 100, 32]⟩).run Tryz.prog v = .ok (str z32) v := fun v => by rw [e32]; exact cat_ok (z25) ([32, 97, 110, 100, 32]) v (by (try simp only [List.length_cons, List.length_nil]); omega)
      obtain ⟨z33, e33⟩ : ∃ z : Str, z = z32 ++ b := ⟨_, rfl⟩
      have l33 : z33.length ≤ 2097161 := by rw [e33, List.length_append]; (try simp only [List.length_cons, List.length_nil]); omega
      have q33 : ∀ v : World, (Op.stringOp .add (bs z32) (bs b)).run Tryz.prog v = .ok (str z33) v := fun v => by rw [e33]; exact cat_ok (z32) (b) v (by (try simp only [List.length_cons, List.length_nil]); omega)
      obtain ⟨z34, e34⟩ : ∃ z : Str, z = [40, 110, 111, 116, 32] ++ a := ⟨_, rfl⟩
      have l34 : z34.length ≤ 1048581 := by rw [e34, List.length_append]; (try simp only [List.length_cons, List.length_nil]); omega
      have q34 : ∀ v : World, (Op.stringOp .add ⟨#[40, 110, 111, 116, 32]⟩ (bs a)).run Tryz.prog v = .ok (str z34) v := fun v => by rw [e34]; exact cat_ok ([40, 110, 111, 116, 32]) (a) v (by (try simp only [List.length_cons, List.length_nil]); omega)
      obtain ⟨z35, e35⟩ : ∃ z : Str, z = z34 ++ [41, 32, 97, 110, 100, 32] := ⟨_, rfl⟩
      have l35 : z35.length ≤ 1048587 := by rw [e35, List.length_append]; (try simp only [List.length_cons, List.length_nil]); omega
      have q35 : ∀ v : World, (Op.stringOp .add (bs z34) ⟨#[41, 32, 97, 110, 100, 32]⟩).run Tryz.prog v = .ok (str z35) v := fun v => by rw [e35]; exact cat_ok (z34) ([41, 32, 97, 110, 100, 32]) v (by (try simp only [List.length_cons, List.length_nil]); omega)
      obtain ⟨z36, e36⟩ : ∃ z : Str, z = z35 ++ b := ⟨_, rfl⟩
      have l36 : z36.length ≤ 2097163 := by rw [e36, List.length_append]; (try simp only [List.length_cons, List.length_nil]); omega
      have q36 : ∀ v : World, (Op.stringOp .add (bs z35) (bs b)).run Tryz.prog v = .ok (str z36) v := fun v => by rw [e36]; exact cat_ok (z35) (b) v (by (try simp only [List.length_cons, List.length_nil]); omega)
      have P5 : Hid (∀ x y, parseOf (hdW ++ z33) = .inr x → parseOf (hdW ++ z36) = .inr y → x = y) := Lib.hid (by rw [show z33 = [110, 111, 116] ++ 32 :: (a ++ 32 :: ([97, 110, 100] ++ 32 :: b)) by rw [e33, e32, e25]; simp, show z36 = 40 :: ([110, 111, 116] ++ 32 :: (a ++ 41 :: 32 :: ([97, 110, 100] ++ 32 :: b))) by rw [e36, e35, e34]; simp]; exact pair5 HA.out HB.out)
      have L5 := Lib.hid (And.intro l33 l36)
      obtain ⟨z37, e37⟩ : ∃ z : Str, z = a ++ [32, 111, 114, 32] := ⟨_, rfl⟩
      have l37 : z37.length ≤ 1048580 := by rw [e37, List.length_append]; (try simp only [List.length_cons, List.length_nil]); omega
      have q37 : ∀ v : World, (Op.stringOp .add (bs a) ⟨#[32, 111, 114, 32]⟩).run Tryz.prog v = .ok (str z37) v := fun v => by rw [e37]; exact cat_ok (a) ([32, 111, 114, 32]) v (by (try simp only [List.length_cons, List.length_nil]); omega)
      obtain ⟨z38, e38⟩ : ∃ z : Str, z = z37 ++ b := ⟨_, rfl⟩
      have l38 : z38.length ≤ 2097156 := by rw [e38, List.length_append]; (try simp only [List.length_cons, List.length_nil]); omega
      have q38 : ∀ v : World, (Op.stringOp .add (bs z37) (bs b)).run Tryz.prog v = .ok (str z38) v := fun v => by rw [e38]; exact cat_ok (z37) (b) v (by (try simp only [List.length_cons, List.length_nil]); omega)
      obtain ⟨z39, e39⟩ : ∃ z : Str, z = z38 ++ [32, 97, 110, 100, 32] := ⟨_, rfl⟩
      have l39 : z39.length ≤ 2097161 := by rw [e39, List.length_append]; (try simp only [List.length_cons, List.length_nil]); omega
      have q39 : ∀ v : World, (Op.stringOp .add (bs z38) ⟨#[32, 97, 110, 100, 32]⟩).run Tryz.prog v = .ok (str z39) v := fun v => by rw [e39]; exact cat_ok (z38) ([32, 97, 110, 100, 32]) v (by (try simp only [List.length_cons, List.length_nil]); omega)
      obtain ⟨z40, e40⟩ : ∃ z : Str, z = z39 ++ c := ⟨_, rfl⟩
      have l40 : z40.length ≤ 3145737 := by rw [e40, List.length_append]; (try simp only [List.length_cons, List.length_nil]); omega
      have q40 : ∀ v : World, (Op.stringOp .add (bs z39) (bs c)).run Tryz.prog v = .ok (str z40) v := fun v => by rw [e40]; exact cat_ok (z39) (c) v (by (try simp only [List.length_cons, List.length_nil]); omega)
      obtain ⟨z41, e41⟩ : ∃ z : Str, z = a ++ [32, 111, 114, 32, 40] := ⟨_, rfl⟩
      have l41 : z41.length ≤ 1048581 := by rw [e41, List.length_append]; (try simp only [List.length_cons, List.length_nil]); omega
      have q41 : ∀ v : World, (Op.stringOp .add (bs a) ⟨#[32, 111, 114, 32, 40]⟩).run Tryz.prog v = .ok (str z41) v := fun v => by rw [e41]; exact cat_ok (a) ([32, 111, 114, 32, 40]) v (by (try simp only [List.length_cons, List.length_nil]); omega)
      obtain ⟨z42, e42⟩ : ∃ z : Str, z = z41 ++ b := ⟨_, rfl⟩
      have l42 : z42.length ≤ 2097157 := by rw [e42, List.length_append]; (try simp only [List.length_cons, List.length_nil]); omega
      have q42 : ∀ v : World, (Op.stringOp .add (bs z41) (bs b)).run Tryz.prog v = .ok (str z42) v := fun v => by rw [e42]; exact cat_ok (z41) (b) v (by (try simp only [List.length_cons, List.length_nil]); omega)
      obtain ⟨z43, e43⟩ : ∃ z : Str, z = z42 ++ [32, 97, 110, 100, 32] := ⟨_, rfl⟩
      have l43 : z43.length ≤ 2097162 := by rw [e43, List.length_append]; (try simp only [List.length_cons, List.length_nil]); omega
      have q43 : ∀ v : World, (Op.stringOp .add (bs z42) ⟨#[32, 97, 110, 100, 32]⟩).run Tryz.prog v = .ok (str z43) v := fun v => by rw [e43]; exact cat_ok (z42) ([32, 97, 110, 100, 32]) v (by (try simp only [List.length_cons, List.length_nil]); omega)
      obtain ⟨z44, e44⟩ : ∃ z : Str, z = z43 ++ c := ⟨_, rfl⟩
      have l44 : z44.length ≤ 3145738 := by rw [e44, List.length_append]; (try simp only [List.length_cons, List.length_nil]); omega
      have q44 : ∀ v : World, (Op.stringOp .add (bs z43) (bs c)).run Tryz.prog v = .ok (str z44) v := fun v => by rw [e44]; exact cat_ok (z43) (c) v (by (try simp only [List.length_cons, List.length_nil]); omega)
      obtain ⟨z45, e45⟩ : ∃ z : Str, z = z44 ++ [41] := ⟨_, rfl⟩
      have l45 : z45.length ≤ 3145739 := by rw [e45, List.length_append]; (try simp only [List.length_cons, List.length_nil]); omega
      have q45 : ∀ v : World, (Op.stringOp .add (bs z44) ⟨#[41]⟩).run Tryz.prog v = .ok (str z45) v := fun v => by rw [e45]; exact cat_ok (z44) ([41]) v (by (try simp only [List.length_cons, List.length_nil]); omega)
      have P6 : Hid (∀ x y, parseOf (hdW ++ z40) = .inr x → parseOf (hdW ++ z45) = .inr y → x = y) := Lib.hid (by rw [show z40 = a ++ 32 :: ([111, 114] ++ 32 :: (b ++ 32 :: ([97, 110, 100] ++ 32 :: c))) by rw [e40, e39, e38, e37]; simp, show z45 = a ++ 32 :: ([111, 114] ++ 32 :: 40 :: (b ++ 32 :: ([97, 110, 100] ++ 32 :: (c ++ [41])))) by rw [e45, e44, e43, e42, e41]; simp]; exact pair6 HA.out HB.out HC.out)
      have L6 := Lib.hid (And.intro l40 l45)
      obtain ⟨z46, e46⟩ : ∃ z : Str, z = [45] ++ a := ⟨_, rfl⟩
      have l46 : z46.length ≤ 1048577 := by rw [e46, List.length_append]; (try simp only [List.length_cons, List.length_nil]); omega
      have q46 : ∀ v : World, (Op.stringOp .add ⟨#[45]⟩ (bs a)).run Tryz.prog v = .ok (str z46) v := fun v => by rw [e46]; exact cat_ok ([45]) (a) v (by (try simp only [List.length_cons, List.length_nil]); omega)
      obtain ⟨z47, e47⟩ : ∃ z : Str, z = z46 ++ [42] := ⟨_, rfl⟩
      have l47 : z47.length ≤ 1048578 := by rw [e47, List.length_append]; (try simp only [List.length_cons, List.length_nil]); omega
      have q47 : ∀ v : World, (Op.stringOp .add (bs z46) ⟨#[42]⟩).run Tryz.prog v = .ok (str z47) v := fun v => by rw [e47]; exact cat_ok (z46) ([42]) v (by (try simp only [List.length_cons, List.length_nil]); omega)
      obtain ⟨z48, e48⟩ : ∃ z : Str, z = z47 ++ b := ⟨_, rfl⟩
      have l48 : z48.length ≤ 2097154 := by rw [e48, List.length_append]; (try simp only [List.length_cons, List.length_nil]); omega
      have q48 : ∀ v : World, (Op.stringOp .add (bs z47) (bs b)).run Tryz.prog v = .ok (str z48) v := fun v => by rw [e48]; exact cat_ok (z47) (b) v (by (try simp only [List.length_cons, List.length_nil]); omega)
      obtain ⟨z49, e49⟩ : ∃ z : Str, z = [40, 45] ++ a := ⟨_, rfl⟩
      have l49 : z49.length ≤ 1048578 := by rw [e49, List.length_append]; (try simp only [List.length_cons, List.length_nil]); omega
      have q49 : ∀ v : World, (Op.stringOp .add ⟨#[40, 45]⟩ (bs a)).run Tryz.prog v = .ok (str z49) v := fun v => by rw [e49]; exact cat_ok ([40, 45]) (a) v (by (try simp only [List.length_cons, List.length_nil]); omega)
      obtain ⟨z50, e50⟩ : ∃ z : Str, z = z49 ++ [41, 42] := ⟨_, rfl⟩
      have l50 : z50.length ≤ 1048580 := by rw [e50, List.length_append]; (try simp only [List.length_cons, List.length_nil]); omega
      have q50 : ∀ v : World, (Op.stringOp .add (bs z49) ⟨#[41, 42]⟩).run Tryz.prog v = .ok (str z50) v := fun v => by rw [e50]; exact cat_ok (z49) ([41, 42]) v (by (try simp only [List.length_cons, List.length_nil]); omega)
      obtain ⟨z51, e51⟩ : ∃ z : Str, z = z50 ++ b := ⟨_, rfl⟩
      have l51 : z51.length ≤ 2097156 := by rw [e51, List.length_append]; (try simp only [List.length_cons, List.length_nil]); omega
      have q51 : ∀ v : World, (Op.stringOp .add (bs z50) (bs b)).run Tryz.prog v = .ok (str z51) v := fun v => by rw [e51]; exact cat_ok (z50) (b) v (by (try simp only [List.length_cons, List.length_nil]); omega)
      have P7 : Hid (∀ x y, parseOf (hdW ++ z48) = .inr x → parseOf (hdW ++ z51) = .inr y → x = y) := Lib.hid (by rw [show z48 = 45 :: (a ++ 42 :: b) by rw [e48, e47, e46]; simp, show z51 = 40 :: 45 :: (a ++ 41 :: 42 :: b) by rw [e51, e50, e49]; simp]; exact pair7 HA.out HB.out)
      have L7 := Lib.hid (And.intro l48 l51)
      clear e1 e2 e3 e4 e5 e6 e7 e8 e9 e10 e11 e12 e13 e14 e15 e16 e17 e18 e19 e20 e21 e22 e23 e24 e25 e26 e27 e28 e29 e30 e31 e32 e33 e34 e35 e36 e37 e38 e39 e40 e41 e42 e43 e44 e45 e46 e47 e48 e49 e50 e51 l1 l2 l3 l4 l5 l6 l7 l8 l9 l10 l11 l12 l13 l14 l15 l16 l17 l18 l19 l20 l21 l22 l23 l24 l25 l26 l27 l28 l29 l30 l31 l32 l33 l34 l35 l36 l37 l38 l39 l40 l41 l42 l43 l44 l45 l46 l47 l48 l49 l50 l51 ha hb hc
      go_wp2_with fail
      refine (same_ok z4 z9 (Nat.le_trans L1.out.1 (by omega)) (Nat.le_trans L1.out.2 (by omega)) P1.out _).mono ?_
      rintro e y1 ⟨rfl, hE⟩
      have HY1 := Lib.hid (HEB.out.trans hE)
      clear hE
      go_wp2_with fail
      refine (same_ok z13 z18 (Nat.le_trans L2.out.1 (by omega)) (Nat.le_trans L2.out.2 (by omega)) P2.out _).mono ?_
      rintro e y2 ⟨rfl, hE⟩
      have HY2 := Lib.hid (HY1.out.trans hE)
      clear hE
      go_wp2_with fail
      refine (same_ok z20 z24 (Nat.le_trans L3.out.1 (by omega)) (Nat.le_trans L3.out.2 (by omega)) P3.out _).mono ?_
      rintro e y3 ⟨rfl, hE⟩
      have HY3 := Lib.hid (HY2.out.trans hE)
      clear hE
      go_wp2_with fail
      refine (same_ok z27 z31 (Nat.le_trans L4.out.1 (by omega)) (Nat.le_trans L4.out.2 (by omega)) P4.out _).mono ?_
      rintro e y4 ⟨rfl, hE⟩
      have HY4 := Lib.hid (HY3.out.trans hE)
      clear hE
      go_wp2_with fail
      refine (same_ok z33 z36 (Nat.le_trans L5.out.1 (by omega)) (Nat.le_trans L5.out.2 (by omega)) P5.out _).mono ?_
      rintro e y5 ⟨rfl, hE⟩
      have HY5 := Lib.hid (HY4.out.trans hE)
      clear hE
      go_wp2_with fail
      refine (same_ok z40 z45 (Nat.le_trans L6.out.1 (by omega)) (Nat.le_trans L6.out.2 (by omega)) P6.out _).mono ?_
      rintro e y6 ⟨rfl, hE⟩
      have HY6 := Lib.hid (HY5.out.trans hE)
      clear hE
      go_wp2_with fail
      refine (same_ok z48 z51 (Nat.le_trans L7.out.1 (by omega)) (Nat.le_trans L7.out.2 (by omega)) P7.out _).mono ?_
      rintro e y7 ⟨rfl, hE⟩
      have HY7 := Lib.hid (HY6.out.trans hE)
      clear hE
      go_wp2
      go_ret
      exact ⟨rfl, HY7.out⟩
end Go.Proofs.YtkhnpmeohjafiaaGreatDoor
