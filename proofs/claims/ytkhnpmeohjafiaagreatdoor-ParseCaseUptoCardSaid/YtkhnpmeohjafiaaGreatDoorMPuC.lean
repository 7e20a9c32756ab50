/- annalslaw15.ParseCase: walked at every input. -/
import Derived.Test.YtkhnpmeohjafiaaGreatDoorMPuV
import Derived.Test.YtkhnpmeohjafiaaGreatDoorMV
import Derived.Laws.IdiomStrings
namespace Go.Proofs.YtkhnpmeohjafiaaGreatDoor
open Go.RowKit

/-- The text in capitals so far: a state of quotes, what is done, the bytes in memory. -/
structure CapInv (l : List UInt8) (kf cb : Nat) (w wr : World) (i : Nat) (q : Bool) (done : List UInt8) (cs : Array Value) : Prop where
  touch : Touch (fun b => b = cb) w wr
  blk : wr.heap[cb]? = some (.cells cs 5 (kf, kf + 1))
  len : done.length = i
  cap : capL false l = done ++ capL q (l.drop i)
  at' : ∀ (j : Nat) (x : UInt8), (done ++ l.drop i)[j]? = some x → cs[j]? = some (.int .u8 (x.toNat : Int))
theorem CapInv.start {l : List UInt8} {kf cb : Nat} {w : World} {cs : Array Value} (hb : w.heap[cb]? = some (.cells cs 5 (kf, kf + 1))) (hc : ∀ (j : Nat) (x : UInt8), l[j]? = some x → cs[j]? = some (.int .u8 (x.toNat : Int))) : CapInv l kf cb w w 0 false [] cs :=
  ⟨Touch.refl _ _, hb, rfl, by simp, by simpa using hc⟩
theorem CapInv.keep {l : List UInt8} {kf cb : Nat} {w wr : World} {i : Nat} {q : Bool} {done : List UInt8} {cs : Array Value} (h : CapInv l kf cb w wr i q done cs) {x : UInt8} (hx : l[i]? = some x) {q' : Bool} {y : UInt8} (hy : y = x)
    (hs : capL q (x :: l.drop (i + 1)) = y :: capL q' (l.drop (i + 1))) : CapInv l kf cb w wr (i + 1) q' (done ++ [y]) cs := by
  have hd := drop_at' hx
  refine ⟨h.touch, h.blk, by simp [h.len], ?_, ?_⟩
  · rw [h.cap, hd, hs]; simp
  · intro j z hz
    refine h.at' j z ?_
    rw [hd, ← hy]
    simpa using hz
theorem CapInv.set {l : List UInt8} {kf cb : Nat} {w wr : World} {i : Nat} {q : Bool} {done : List UInt8} {cs : Array Value} (h : CapInv l kf cb w wr i q done cs) {x : UInt8} (hx : l[i]? = some x) {q' : Bool} {y : UInt8}
    (hs : capL q (x :: l.drop (i + 1)) = y :: capL q' (l.drop (i + 1))) : CapInv l kf cb w (wr.setCell ⟨cb, i, none⟩ (.int .u8 (y.toNat : Int))) (i + 1) q' (done ++ [y]) (cs.set! i (.int .u8 (y.toNat : Int))) := by
  have hd := drop_at' hx
  have hlen := h.len
  have hlt : i < cs.size := by
    have := h.at' i x (by rw [hd]; simp [h.len])
    exact (Array.getElem?_eq_some_iff.1 this).1
  refine ⟨h.touch.setCell (p := ⟨cb, i, none⟩) (fun _ => rfl) _, ?_, by simp [h.len], ?_, ?_⟩
  · have := blk_set h.blk i (.int .u8 (y.toNat : Int))
    simpa using this
  · rw [h.cap, hd, hs]; simp
  · intro j z hz
    by_cases hj : j = i
    · subst hj
      have : z = y := by
        rw [List.append_assoc, List.getElem?_append_right (by omega), h.len] at hz
        simpa using hz.symm
      subst this
      simp [hlt]
    · have h1 : (done ++ l.drop i)[j]? = some z := by
        rw [← hz, hd]
        rcases Nat.lt_or_gt_of_ne hj with h2 | h2
        · rw [List.append_assoc, List.getElem?_append_left (by omega), List.getElem?_append_left (by omega)]
        · rw [List.append_assoc, List.getElem?_append_right (by omega), List.getElem?_append_right (by omega), h.len]
          obtain ⟨k, hk⟩ : ∃ k, j - i = k + 1 := ⟨j - i - 1, by omega⟩
          rw [hk]; simp
      have := h.at' j z h1
      rw [Array.set!_eq_setIfInBounds, Array.getElem?_setIfInBounds_ne (by omega)]
      exact this
theorem frz_at {w : World} {b k i : Nat} {cs : Array Value} {T : TypeId} (h : w.heap[b]? = some (.cells cs T (k, k + 1))) (hi : i < k) : w.frozen? ⟨b, i, none⟩ = false := by
  simp [World.frozen?, h]
  omega
theorem up_low {x : UInt8} (h : 97 ≤ x.toNat ∧ x.toNat ≤ 122) : (up x).toNat = x.toNat - 32 := by
  unfold up
  rw [if_pos h]
  simp
  omega
theorem up_id {x : UInt8} (h : ¬ (97 ≤ x.toNat ∧ x.toNat ≤ 122)) : up x = x := by unfold up; rw [if_neg h]
set_option maxRecDepth 100000 in
set_option maxHeartbeats 16000000 in
theorem case_any (l : List UInt8) (w : World) (hg : Gl w) (hl : l.length ≤ 1048576) :
    Calls Tryz.prog 7 #[str l] w (fun e w' => e = .returned (.bool true) ∧ Ext w w') := by
  have HG := Lib.hid hg
  have HL := Lib.hid hl
  obtain ⟨x, hx⟩ : ∃ x, stOf (parseOf l) = x := ⟨_, rfl⟩
  obtain ⟨f1, hf1⟩ : ∃ x, (flOf (parseOf l)).1 = x := ⟨_, rfl⟩
  obtain ⟨f2, hf2⟩ : ∃ x, (flOf (parseOf l)).2 = x := ⟨_, rfl⟩
  have HX := Lib.hid hx
  have HF1 := Lib.hid hf1
  have HF2 := Lib.hid hf2
  clear hg hx hf1 hf2
  go_enter Tryz.func7, Tryz.ntmps7
  go_wp2_with fail
  refine (awake_ok w HG.out).mono ?_
  rintro e w1 ⟨rfl, hE1⟩
  have HE1 := Lib.hid hE1
  clear hE1
  go_wp2_with fail
  refine (Parse_any l w1 (by omega) x f1 f2 HX.out HF1.out HF2.out).mono ?_
  rintro e w2 ⟨hE, gg1, gg2, gg3, gg4, gg5, gg6, gg7, gg8, gg9, gg10, cc1, cc2, cc3, cc4, cc5, cc6, cc7, cc8, cc9, cc10, rfl, hok⟩
  have HO2 := Lib.hid hok
  have HE2 := Lib.hid hE
  clear hE hok
  have hcv := fun u : World => run_bytes_of_string (P := Tryz.prog) u 9 54 5 (bs l) Tryz.underlying9 Tryz.underlying54 Tryz.underlying5
  have hsz := bs_size l
  go_wp2_with fail
  clear hcv
  refine wp_at (fun W => ∃ cs kf, l.length ≤ kf ∧ Ext w2 W ∧ W.heap[w2.heap.size]? = some (.cells #[str x.kind, str x.table, slv gg1 x.columns.length cc1, slv gg2 x.keys.length cc2, slv gg3 x.values.length cc3, slv gg4 x.sets.length cc4, .int .i64 (x.period.1 : Int), .int .i64 (x.period.2 : Int), slv gg5 x.cond.length cc5, slv gg6 x.query.length cc6, slv gg7 x.ops.length cc7, slv gg8 x.asOf.length cc8, slv gg9 x.during.length cc9, slv gg10 x.order.length cc10] 33 (0, 0)) ∧
      W.heap[w2.heap.size + 1]? = some (.cells #[.int .i64 (f1 : Int), .int .i64 (f2 : Int)] 36 (0, 0)) ∧ W.heap[w2.heap.size + 1 + 1]? = some (.cells cs 5 (kf, kf + 1)) ∧ ∀ (j : Nat) (y : UInt8), l[j]? = some y → cs[j]? = some (.int .u8 (y.toNat : Int))) ?_ ?_
  · refine ⟨_, _, ?_, ?_, ?_, ?_, blk_dr (blk_new_at _ ?_), ?_⟩
    · unfold bytesRow; simp [bs]
    · exact ((((Ext.refl w2).alloc _).alloc _).alloc _).drew
    · exact blk_dr (blk_alloc (blk_alloc (blk_new _ _)))
    · exact blk_dr (blk_alloc (blk_new_at _ (by simp)))
    · simp
    intro j y hy
    have hj : j < l.length := (List.getElem?_eq_some_iff.1 hy).1
    unfold bytesRow
    rw [Array.getElem?_append_left (by simp [bs]; exact hj)]
    simp [bs, hy]
  rintro W ⟨cs0, kf, hkf, hW, hB1, hB2, hB3, hat⟩
  have HW := Lib.hid hW
  have HB1 := Lib.hid hB1
  have HB2 := Lib.hid hB2
  have HC0 := Lib.hid (CapInv.start hB3 hat)
  clear hW hB1 hB2 hB3 hat
  generalize grownCap _ _ _ _ = gc
  go_loopg [6, 26] l.length (fun gk v6 v26 wr => ∃ (i : Nat) (q : Bool) (done : List UInt8) (cs : Array Value), i + gk = l.length ∧ v6 = .bool q ∧ v26 = .int .i64 (i : Int) ∧ CapInv l kf (w2.heap.size + 1 + 1) W wr i q done cs)
  case atStart => exact ⟨0, false, [], cs0, by omega, rfl, rfl, HC0.out⟩
  case round =>
    obtain ⟨i, q, done, cs, hik, rfl, rfl, hI⟩ := hrel
    have HIK := Lib.hid hik
    have HI := Lib.hid hI
    clear hik hI
    by_cases hlt : i < l.length
    · obtain ⟨y, hy⟩ : ∃ y, l[i]? = some y := ⟨_, List.getElem?_eq_getElem hlt⟩
      have HY := Lib.hid hy
      have c0 : wr.cell? ⟨w2.heap.size + 1 + 1, i, none⟩ = some (.int .u8 (y.toNat : Int)) := blk_cell HI.out.blk (HI.out.at' i y (by rw [drop_at' hy]; simp [HI.out.len]))
      have fz := frz_at HI.out.blk (i := i) (by omega)
      have hsl : capL q (y :: l.drop (i + 1)) = if y = 39 then 39 :: capL (!q) (l.drop (i + 1)) else (if q then y else up y) :: capL q (l.drop (i + 1)) := rfl
      clear hy
      by_cases h39 : y = 39
      · have h1 : ((y.toNat : Int) == 39) = true := by rw [h39]; rfl
        have h2 : (y.toNat : Int) < 97 := by rw [h39]; decide
        have HC := Lib.hid (HI.out.keep HY.out (q' := !q) (y := 39) h39.symm (by rw [hsl, if_pos h39]))
        clear hsl h39
        cases q
        · go_wp2
          go_roundg (gk - 1)
          case measure => have := HIK.out; omega
          case rel => exact ⟨i + 1, true, _, _, by have := HIK.out; omega, rfl, by go_num, HC.out⟩
        · go_wp2
          go_roundg (gk - 1)
          case measure => have := HIK.out; omega
          case rel => exact ⟨i + 1, false, _, _, by have := HIK.out; omega, rfl, by go_num, HC.out⟩
      · have h1 : ((y.toNat : Int) == 39) = false := by
          have h3 : y.toNat ≠ 39 := fun h => h39 (by rw [← UInt8.toNat_inj]; exact h)
          simp; omega
        cases q
        · by_cases hlo : 97 ≤ y.toNat ∧ y.toNat ≤ 122
          · have h2 : (97 : Int) ≤ (y.toNat : Int) := by omega
            have h3 : (y.toNat : Int) ≤ 122 := by omega
            have hw : IntKind.u8.wrap ((y.toNat : Int) - 32) = ((up y).toNat : Int) := by rw [up_low hlo, IntKind.wrap_u8]; omega
            have HC := Lib.hid (HI.out.set HY.out (q' := false) (y := up y) (by rw [hsl, if_neg h39]; rfl))
            clear hsl h39 hlo
            go_wp2
            go_roundg (gk - 1)
            case measure => have := HIK.out; omega
            case rel => exact ⟨i + 1, false, _, _, by have := HIK.out; omega, rfl, by go_num, HC.out⟩
          · have HC := Lib.hid (HI.out.keep HY.out (q' := false) (y := up y) (up_id hlo) (by rw [hsl, if_neg h39]; rfl))
            by_cases hl9 : 97 ≤ y.toNat
            · have h2 : (97 : Int) ≤ (y.toNat : Int) := by omega
              have h3 : (122 : Int) < (y.toNat : Int) := by omega
              clear hsl h39 hlo hl9
              go_wp2
              go_roundg (gk - 1)
              case measure => have := HIK.out; omega
              case rel => exact ⟨i + 1, false, _, _, by have := HIK.out; omega, rfl, by go_num, HC.out⟩
            · have h2 : (y.toNat : Int) < 97 := by omega
              clear hsl h39 hlo hl9
              go_wp2
              go_roundg (gk - 1)
              case measure => have := HIK.out; omega
              case rel => exact ⟨i + 1, false, _, _, by have := HIK.out; omega, rfl, by go_num, HC.out⟩
        · have HC := Lib.hid (HI.out.keep HY.out (q' := true) (y := y) rfl (by rw [hsl, if_neg h39]; rfl))
          clear hsl h39
          go_wp2
          go_roundg (gk - 1)
          case measure => have := HIK.out; omega
          case rel => exact ⟨i + 1, true, _, _, by have := HIK.out; omega, rfl, by go_num, HC.out⟩
    · have hin : i = l.length := by have := HIK.out; omega
      have hcap : capL false l = done := by
        have := HI.out.cap
        rw [List.drop_eq_nil_of_le (by omega)] at this
        rw [this]; cases q <;> simp [capL]
      obtain ⟨m, hm⟩ : ∃ m, m = capL false l := ⟨_, rfl⟩
      have hml : m.length = l.length := by rw [hm, capL_len]
      have hcv2 : (convert 54 9 (.slice (some ⟨w2.heap.size + 1 + 1, 0, none⟩) l.length gc)).run Tryz.prog wr = .ok (str m) wr := by
        have := run_convert_bytes_back (P := Tryz.prog) wr 54 9 5 ⟨w2.heap.size + 1 + 1, 0, none⟩ gc m Tryz.underlying54 Tryz.underlying5 Tryz.underlying9 (fun j hj => by
          have h1 := HI.out.at' j m[j] (by rw [List.drop_eq_nil_of_le (by omega), List.append_nil, ← hcap, ← hm]; exact List.getElem?_eq_getElem hj)
          have h2 := blk_cell HI.out.blk h1
          unfold Addr.add
          split
          · rename_i h0; subst h0; exact h2
          · simpa using h2)
        rw [hml] at this
        exact this
      have HM := Lib.hid hm
      have HML := Lib.hid hml
      clear hin hcap hm hml
      go_wp2_with fail
      have HE3 : Hid (Ext w2 wr) := Lib.hid (Touch.ext ((HW.out.touch _).trans HI.out.touch) (fun i hi e => by omega))
      have HB1' := Lib.hid (HI.out.touch.old HB1.out (by omega))
      have HB2' := Lib.hid (HI.out.touch.old HB2.out (by omega))
      have hpm : parseOf m = parseOf l := by rw [HM.out]; exact parse_cap l
      have HPM := Lib.hid hpm
      clear hpm hcv2 hlt
      refine (Parse_any m wr (by rw [HML.out]; omega) x f1 f2 (by rw [HPM.out]; exact HX.out) (by rw [HPM.out]; exact HF1.out) (by rw [HPM.out]; exact HF2.out)).mono ?_
      rintro e w4 ⟨hE4, hg1, hg2, hg3, hg4, hg5, hg6, hg7, hg8, hg9, hg10, hc1, hc2, hc3, hc4, hc5, hc6, hc7, hc8, hc9, hc10, rfl, hok4⟩
      have HO4 := Lib.hid hok4
      have HE4 := Lib.hid hE4
      obtain ⟨a0, a1, a2, a3, a4, a5, a6, a7, a8, a9, a10, a11, a12, a13⟩ := blk14 (Ext.block hE4 HB1'.out)
      obtain ⟨b0, b1⟩ := blk2 (Ext.block hE4 HB2'.out)
      have la : w2.heap.size < w4.heap.size := blk_lt (Ext.block hE4 HB1'.out)
      have lb : w2.heap.size + 1 < w4.heap.size := blk_lt (Ext.block hE4 HB2'.out)
      clear hE4 hok4
      go_wp2_with fail
      have HU4 : Hid (Ext w4 ((w4.alloc (.cells #[str x.kind, str x.table, slv hg1 x.columns.length hc1, slv hg2 x.keys.length hc2, slv hg3 x.values.length hc3, slv hg4 x.sets.length hc4, .int .i64 (x.period.1 : Int), .int .i64 (x.period.2 : Int), slv hg5 x.cond.length hc5, slv hg6 x.query.length hc6, slv hg7 x.ops.length hc7, slv hg8 x.asOf.length hc8, slv hg9 x.during.length hc9, slv hg10 x.order.length hc10] 33)).alloc (.cells #[.int .i64 (f1 : Int), .int .i64 (f2 : Int)] 36))) := Lib.hid (((Ext.refl w4).alloc _).alloc _)
      have HP4 : Hid (((w4.alloc (.cells #[str x.kind, str x.table, slv hg1 x.columns.length hc1, slv hg2 x.keys.length hc2, slv hg3 x.values.length hc3, slv hg4 x.sets.length hc4, .int .i64 (x.period.1 : Int), .int .i64 (x.period.2 : Int), slv hg5 x.cond.length hc5, slv hg6 x.query.length hc6, slv hg7 x.ops.length hc7, slv hg8 x.asOf.length hc8, slv hg9 x.during.length hc9, slv hg10 x.order.length hc10] 33)).alloc (.cells #[.int .i64 (f1 : Int), .int .i64 (f2 : Int)] 36)).heap[w4.heap.size]? = some (.cells #[str x.kind, str x.table, slv hg1 x.columns.length hc1, slv hg2 x.keys.length hc2, slv hg3 x.values.length hc3, slv hg4 x.sets.length hc4, .int .i64 (x.period.1 : Int), .int .i64 (x.period.2 : Int), slv hg5 x.cond.length hc5, slv hg6 x.query.length hc6, slv hg7 x.ops.length hc7, slv hg8 x.asOf.length hc8, slv hg9 x.during.length hc9, slv hg10 x.order.length hc10] 33 (0, 0))) := Lib.hid (blk_alloc (blk_new _ _))
      have HQ4 : Hid (((w4.alloc (.cells #[str x.kind, str x.table, slv hg1 x.columns.length hc1, slv hg2 x.keys.length hc2, slv hg3 x.values.length hc3, slv hg4 x.sets.length hc4, .int .i64 (x.period.1 : Int), .int .i64 (x.period.2 : Int), slv hg5 x.cond.length hc5, slv hg6 x.query.length hc6, slv hg7 x.ops.length hc7, slv hg8 x.asOf.length hc8, slv hg9 x.during.length hc9, slv hg10 x.order.length hc10] 33)).alloc (.cells #[.int .i64 (f1 : Int), .int .i64 (f2 : Int)] 36)).heap[w4.heap.size + 1]? = some (.cells #[.int .i64 (f1 : Int), .int .i64 (f2 : Int)] 36 (0, 0))) := Lib.hid (blk_new_at _ (by simp))
      refine (Same_ok x ⟨slv gg1 x.columns.length cc1, slv gg2 x.keys.length cc2, slv gg3 x.values.length cc3, slv gg4 x.sets.length cc4, slv gg5 x.cond.length cc5, slv gg6 x.query.length cc6, slv gg7 x.ops.length cc7, slv gg8 x.asOf.length cc8, slv gg9 x.during.length cc9, slv gg10 x.order.length cc10⟩ ⟨slv hg1 x.columns.length hc1, slv hg2 x.keys.length hc2, slv hg3 x.values.length hc3, slv hg4 x.sets.length hc4, slv hg5 x.cond.length hc5, slv hg6 x.query.length hc6, slv hg7 x.ops.length hc7, slv hg8 x.asOf.length hc8, slv hg9 x.during.length hc9, slv hg10 x.order.length hc10⟩ ((w4.alloc (.cells #[str x.kind, str x.table, slv hg1 x.columns.length hc1, slv hg2 x.keys.length hc2, slv hg3 x.values.length hc3, slv hg4 x.sets.length hc4, .int .i64 (x.period.1 : Int), .int .i64 (x.period.2 : Int), slv hg5 x.cond.length hc5, slv hg6 x.query.length hc6, slv hg7 x.ops.length hc7, slv hg8 x.asOf.length hc8, slv hg9 x.during.length hc9, slv hg10 x.order.length hc10] 33)).alloc (.cells #[.int .i64 (f1 : Int), .int .i64 (f2 : Int)] 36)) (HO2.out.keep (A' := fun _ => True) (fun b hb _ => ⟨Below.block (HE3.out.trans (HE4.out.trans HU4.out)) b hb, trivial⟩)) (HO4.out.keep (A' := fun _ => True) (fun b hb _ => ⟨Below.block HU4.out b hb, trivial⟩))).mono ?_
      rintro e w5 ⟨rfl, hE5⟩
      have HE5 := Lib.hid (HE4.out.trans (HU4.out.trans hE5))
      clear hE5 a0 a1 a2 a3 a4 a5 a6 a7 a8 a9 a10 a11 a12 a13 b0 b1 la lb
      obtain ⟨s1, hs1⟩ : ∃ t : Str, t = l ++ [59] := ⟨_, rfl⟩
      obtain ⟨s2, hs2⟩ : ∃ t : Str, t = l ++ [59, 59] := ⟨_, rfl⟩
      have hk1 : ∀ u : World, (Op.stringOp .add (bs l) ⟨#[59]⟩).run Tryz.prog u = .ok (str s1) u := fun u => by rw [hs1]; exact cat_ok l [59] u (by simp; omega)
      have hk2 : ∀ u : World, (Op.stringOp .add (bs l) ⟨#[59, 59]⟩).run Tryz.prog u = .ok (str s2) u := fun u => by rw [hs2]; exact cat_ok l [59, 59] u (by simp; omega)
      have HS1 := Lib.hid hs1
      have HS2 := Lib.hid hs2
      have HSL1 : Hid (s1.length ≤ 1000000000) := Lib.hid (by rw [hs1]; simp; omega)
      have HSL2 : Hid (s2.length ≤ 1000000000) := Lib.hid (by rw [hs2]; simp; omega)
      clear hs1 hs2
      obtain ⟨z, hz⟩ : ∃ x, stOf (parseOf s1) = x := ⟨_, rfl⟩
      obtain ⟨h1, hh1⟩ : ∃ x, (flOf (parseOf s1)).1 = x := ⟨_, rfl⟩
      obtain ⟨h2, hh2⟩ : ∃ x, (flOf (parseOf s1)).2 = x := ⟨_, rfl⟩
      obtain ⟨y, hy⟩ : ∃ x, stOf (parseOf s2) = x := ⟨_, rfl⟩
      obtain ⟨k1, hkk1⟩ : ∃ x, (flOf (parseOf s2)).1 = x := ⟨_, rfl⟩
      obtain ⟨k2, hkk2⟩ : ∃ x, (flOf (parseOf s2)).2 = x := ⟨_, rfl⟩
      have HZ := Lib.hid hz
      have HH1 := Lib.hid hh1
      have HH2 := Lib.hid hh2
      have HYY := Lib.hid hy
      have HK1 := Lib.hid hkk1
      have HK2 := Lib.hid hkk2
      clear hz hh1 hh2 hy hkk1 hkk2
      go_wp2_with fail
      refine (Parse_any s1 w5 HSL1.out z h1 h2 HZ.out HH1.out HH2.out).mono ?_
      rintro e w6 ⟨hE6, kg1, kg2, kg3, kg4, kg5, kg6, kg7, kg8, kg9, kg10, kc1, kc2, kc3, kc4, kc5, kc6, kc7, kc8, kc9, kc10, rfl, hok6⟩
      have HO6 := Lib.hid hok6
      have HE6 := Lib.hid (HE5.out.trans hE6)
      obtain ⟨b0, b1⟩ := blk2 (Ext.block HE6.out HB2'.out)
      have lb : w2.heap.size + 1 < w6.heap.size := blk_lt (Ext.block HE6.out HB2'.out)
      have la : w2.heap.size < w6.heap.size := by omega
      clear hE6 hok6
      by_cases hf : f1 = 0
      · by_cases hlen : 4090 < l.length
        · go_wp2
          go_ret
          exact ⟨rfl, ((HE1.out.trans (HE2.out.trans (HE3.out.trans HE6.out))).alloc _).alloc _⟩
        · have HFF := Lib.hid hf
          have HSEM : Hid (parseOf s1 = .inr x ∨ ∃ p q, parseOf s1 = .inl (150, p) ∧ parseOf s2 = .inl (150, q)) := Lib.hid (by
            obtain ⟨x', hx'⟩ := fl_ok (HF1.out.trans hf)
            have : x = x' := by have := HX.out; rw [hx'] at this; exact this.symm
            rw [HS1.out, HS2.out, this]
            exact parse_semi hx' (by omega))
          go_wp2_with fail
          have HU6 : Hid (Ext w6 ((w6.alloc (.cells #[str z.kind, str z.table, slv kg1 z.columns.length kc1, slv kg2 z.keys.length kc2, slv kg3 z.values.length kc3, slv kg4 z.sets.length kc4, .int .i64 (z.period.1 : Int), .int .i64 (z.period.2 : Int), slv kg5 z.cond.length kc5, slv kg6 z.query.length kc6, slv kg7 z.ops.length kc7, slv kg8 z.asOf.length kc8, slv kg9 z.during.length kc9, slv kg10 z.order.length kc10] 33)).alloc (.cells #[.int .i64 (h1 : Int), .int .i64 (h2 : Int)] 36))) := Lib.hid (((Ext.refl w6).alloc _).alloc _)
          have HP6 : Hid (((w6.alloc (.cells #[str z.kind, str z.table, slv kg1 z.columns.length kc1, slv kg2 z.keys.length kc2, slv kg3 z.values.length kc3, slv kg4 z.sets.length kc4, .int .i64 (z.period.1 : Int), .int .i64 (z.period.2 : Int), slv kg5 z.cond.length kc5, slv kg6 z.query.length kc6, slv kg7 z.ops.length kc7, slv kg8 z.asOf.length kc8, slv kg9 z.during.length kc9, slv kg10 z.order.length kc10] 33)).alloc (.cells #[.int .i64 (h1 : Int), .int .i64 (h2 : Int)] 36)).heap[w6.heap.size]? = some (.cells #[str z.kind, str z.table, slv kg1 z.columns.length kc1, slv kg2 z.keys.length kc2, slv kg3 z.values.length kc3, slv kg4 z.sets.length kc4, .int .i64 (z.period.1 : Int), .int .i64 (z.period.2 : Int), slv kg5 z.cond.length kc5, slv kg6 z.query.length kc6, slv kg7 z.ops.length kc7, slv kg8 z.asOf.length kc8, slv kg9 z.during.length kc9, slv kg10 z.order.length kc10] 33 (0, 0))) := Lib.hid (blk_alloc (blk_new _ _))
          have HQ6 : Hid (((w6.alloc (.cells #[str z.kind, str z.table, slv kg1 z.columns.length kc1, slv kg2 z.keys.length kc2, slv kg3 z.values.length kc3, slv kg4 z.sets.length kc4, .int .i64 (z.period.1 : Int), .int .i64 (z.period.2 : Int), slv kg5 z.cond.length kc5, slv kg6 z.query.length kc6, slv kg7 z.ops.length kc7, slv kg8 z.asOf.length kc8, slv kg9 z.during.length kc9, slv kg10 z.order.length kc10] 33)).alloc (.cells #[.int .i64 (h1 : Int), .int .i64 (h2 : Int)] 36)).heap[w6.heap.size + 1]? = some (.cells #[.int .i64 (h1 : Int), .int .i64 (h2 : Int)] 36 (0, 0))) := Lib.hid (blk_new_at _ (by simp))
          refine (Parse_any s2 ((w6.alloc (.cells #[str z.kind, str z.table, slv kg1 z.columns.length kc1, slv kg2 z.keys.length kc2, slv kg3 z.values.length kc3, slv kg4 z.sets.length kc4, .int .i64 (z.period.1 : Int), .int .i64 (z.period.2 : Int), slv kg5 z.cond.length kc5, slv kg6 z.query.length kc6, slv kg7 z.ops.length kc7, slv kg8 z.asOf.length kc8, slv kg9 z.during.length kc9, slv kg10 z.order.length kc10] 33)).alloc (.cells #[.int .i64 (h1 : Int), .int .i64 (h2 : Int)] 36)) HSL2.out y k1 k2 HYY.out HK1.out HK2.out).mono ?_
          rintro e w8 ⟨hE8, mg1, mg2, mg3, mg4, mg5, mg6, mg7, mg8, mg9, mg10, mc1, mc2, mc3, mc4, mc5, mc6, mc7, mc8, mc9, mc10, rfl, hok8⟩
          have HE8 := Lib.hid (HU6.out.trans hE8)
          obtain ⟨a0, a1, a2, a3, a4, a5, a6, a7, a8, a9, a10, a11, a12, a13⟩ := blk14 (Ext.block (HE6.out.trans HE8.out) HB1'.out)
          obtain ⟨d0, d1, d2, d3, d4, d5, d6, d7, d8, d9, d10, d11, d12, d13⟩ := blk14 (Ext.block hE8 HP6.out)
          obtain ⟨e0, e1⟩ := blk2 (Ext.block hE8 HQ6.out)
          have n1 : w2.heap.size < w8.heap.size := by have := HE8.out.size; omega
          have n2 : w6.heap.size < w8.heap.size := blk_lt (Ext.block hE8 HP6.out)
          have n3 : w6.heap.size + 1 < w8.heap.size := blk_lt (Ext.block hE8 HQ6.out)
          clear hE8 hok8 b0 b1 la lb hf
          rcases HSEM.out with hs | ⟨p, q', hs, ht⟩
          · have hz : z = x := by have := HZ.out; rw [hs] at this; exact this.symm
            have hh : h1 = 0 := by have := HH1.out; rw [hs] at this; exact this.symm
            subst hz hh
            clear hs
            go_wp2_with fail
            have HU8 : Hid (Ext w8 ((w8.alloc (.cells #[str y.kind, str y.table, slv mg1 y.columns.length mc1, slv mg2 y.keys.length mc2, slv mg3 y.values.length mc3, slv mg4 y.sets.length mc4, .int .i64 (y.period.1 : Int), .int .i64 (y.period.2 : Int), slv mg5 y.cond.length mc5, slv mg6 y.query.length mc6, slv mg7 y.ops.length mc7, slv mg8 y.asOf.length mc8, slv mg9 y.during.length mc9, slv mg10 y.order.length mc10] 33)).alloc (.cells #[.int .i64 (k1 : Int), .int .i64 (k2 : Int)] 36))) := Lib.hid (((Ext.refl w8).alloc _).alloc _)
            refine (Same_ok z ⟨slv gg1 z.columns.length cc1, slv gg2 z.keys.length cc2, slv gg3 z.values.length cc3, slv gg4 z.sets.length cc4, slv gg5 z.cond.length cc5, slv gg6 z.query.length cc6, slv gg7 z.ops.length cc7, slv gg8 z.asOf.length cc8, slv gg9 z.during.length cc9, slv gg10 z.order.length cc10⟩ ⟨slv kg1 z.columns.length kc1, slv kg2 z.keys.length kc2, slv kg3 z.values.length kc3, slv kg4 z.sets.length kc4, slv kg5 z.cond.length kc5, slv kg6 z.query.length kc6, slv kg7 z.ops.length kc7, slv kg8 z.asOf.length kc8, slv kg9 z.during.length kc9, slv kg10 z.order.length kc10⟩ ((w8.alloc (.cells #[str y.kind, str y.table, slv mg1 y.columns.length mc1, slv mg2 y.keys.length mc2, slv mg3 y.values.length mc3, slv mg4 y.sets.length mc4, .int .i64 (y.period.1 : Int), .int .i64 (y.period.2 : Int), slv mg5 y.cond.length mc5, slv mg6 y.query.length mc6, slv mg7 y.ops.length mc7, slv mg8 y.asOf.length mc8, slv mg9 y.during.length mc9, slv mg10 y.order.length mc10] 33)).alloc (.cells #[.int .i64 (k1 : Int), .int .i64 (k2 : Int)] 36)) (HO2.out.keep (A' := fun _ => True) (fun b hb _ => ⟨Below.block (HE3.out.trans (HE6.out.trans (HE8.out.trans HU8.out))) b hb, trivial⟩)) (HO6.out.keep (A' := fun _ => True) (fun b hb _ => ⟨Below.block (HE8.out.trans HU8.out) b hb, trivial⟩))).mono ?_
            rintro e w9 ⟨rfl, hE9⟩
            have HE9 := Lib.hid (HE8.out.trans (HU8.out.trans hE9))
            clear hE9 a0 a1 a2 a3 a4 a5 a6 a7 a8 a9 a10 a11 a12 a13 d0 d1 d2 d3 d4 d5 d6 d7 d8 d9 d10 d11 d12 d13 e0 e1 n1 n2 n3
            go_wp2
            go_ret
            exact ⟨rfl, HE1.out.trans (HE2.out.trans (HE3.out.trans (HE6.out.trans HE9.out)))⟩
          · have hh : h1 = 150 := by have := HH1.out; rw [hs] at this; exact this.symm
            have hk : k1 = 150 := by have := HK1.out; rw [ht] at this; exact this.symm
            subst hh hk
            clear hs ht
            go_wp2
            go_ret
            exact ⟨rfl, (((HE1.out.trans (HE2.out.trans (HE3.out.trans HE6.out))).trans HE8.out).alloc _).alloc _⟩
      · go_wp2
        go_ret
        exact ⟨rfl, ((HE1.out.trans (HE2.out.trans (HE3.out.trans HE6.out))).alloc _).alloc _⟩
end Go.Proofs.YtkhnpmeohjafiaaGreatDoor
