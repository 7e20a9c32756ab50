/- annalsref02.Sum, walked: bit by bit. -/
import Derived.Test.YtlmlkphdalkfdaaSum
import Derived.Test.YtlmlkphdalkfdaaReg
import Derived.Laws.MakeOwn
import Derived.Great.BuildSlice
import Derived.Deep.WholeRow
import Derived.WalkSpells
import Derived.WalkLawsBesides
namespace Go.Proofs.Ytlmlkphdalkfdaa
open Go.RowKit

theorem f_mixed : Try.prog.follows .mixedOrders = true := by kernel_rfl
/-- A string of these bytes. -/
def bs (l : List UInt8) : ByteArray := ByteArray.mk l.toArray
abbrev str (l : List UInt8) : Value := .string (bs l)
theorem bs_size (l : List UInt8) : (bs l).size = l.length := by simp [bs, ByteArray.size]
theorem bs_toList (l : List UInt8) : (bs l).toList = l := ByteArray.toList_mk l
theorem bs_get {l : List UInt8} {j : Nat} {x : UInt8} (hj : l[j]? = some x) (h : j < (bs l).size) : (bs l)[j]'h = x := by
  have hl : j < l.length := (List.getElem?_eq_some_iff.1 hj).1
  have : l[j] = x := (List.getElem?_eq_some_iff.1 hj).2
  rw [← this]
  rfl
theorem empty_toList : (ByteArray.mk #[]).toList = [] := ByteArray.toList_mk []

set_option maxHeartbeats 4000000 in
theorem bit_ok (l : List UInt8) (i : Nat) (w : World) (hl : l.length ≤ 140737488355328) (hi : i < 8 * l.length) :
    Calls Try.prog 26 #[str l, .int .i64 (i : Int)] w (fun e w' => e = .returned (.int .i64 ((l.getD (i / 8) 0).toNat / 2 ^ (i % 8) % 2 : Nat)) ∧ w' = w) := by
  have hlt : i / 8 < l.length := by omega
  have hsz := bs_size l
  have hx := bs_get (List.getElem?_eq_getElem hlt)
  rw [List.getD_eq_getElem?_getD, List.getElem?_eq_getElem hlt, Option.getD_some]
  have hb := byte_lt l[i / 8]
  generalize l[i / 8] = x at hx hb ⊢
  have hv : x.toNat / 2 ^ (i % 8) ≤ x.toNat := Nat.div_le_self _ _
  have hd : (x.toNat : Int) / 2 ^ (i % 8) = ((x.toNat / 2 ^ (i % 8) : Nat) : Int) := by rw [Int.natCast_ediv, Int.natCast_pow]; rfl
  generalize x.toNat / 2 ^ (i % 8) = y at hv hd ⊢
  have hw : wrap64 (y : Int) = (y : Int) := by unfold wrap64; omega
  have hr : (y : Int).tmod 2 = ((y % 2 : Nat) : Int) := by rw [Int.tmod_eq_emod_of_nonneg (by omega)]; omega
  go_enter Try.func26, Try.ntmps26
  go_wp2
  go_ret
  exact ⟨by simp [hr], rfl⟩

/-- n ints in a row. -/
def row (n : Nat) (f : Nat → Int) : Array Value := ((List.range n).map fun i => Value.int .i64 (f i)).toArray
theorem row_get {n i : Nat} (f : Nat → Int) (h : i < n) : (row n f)[i]? = some (.int .i64 (f i)) := by
  simp [row, h]
theorem row_set (n k : Nat) (f : Nat → Int) (v : Int) : (row n f).setIfInBounds k (.int .i64 v) = row n (fun i => if i = k then v else f i) := by
  apply Array.ext
  · simp [row]
  · intro i h1 h2
    rw [Array.getElem_setIfInBounds (by simpa using h1)]
    by_cases h : k = i
    · subst h; simp [row]
    · have h' : ¬ i = k := fun e => h e.symm
      simp [row, h, h']
/-- The block b holds 32 ints, the first k of them by f. -/
def Row (w : World) (b k : Nat) (f : Nat → Int) : Prop := ∃ g, w.heap[b]? = some (.cells (row 32 g) 3 (0, 0)) ∧ ∀ i, i < k → g i = f i
theorem Row.set {w : World} {b k : Nat} {f : Nat → Int} (h : Row w b k f) : Row (w.setCell ⟨b, k, none⟩ (.int .i64 (f k))) b (k + 1) f := by
  obtain ⟨g, h1, h2⟩ := h
  refine ⟨_, by rw [blk_set h1, row_set], fun i hi => ?_⟩
  by_cases hk : i = k
  · subst hk; simp
  · rw [if_neg hk]; exact h2 i (by omega)
theorem Row.set' {w : World} {b k : Nat} {f : Nat → Int} {v : Int} (h : Row w b k f) (e : v = f k) : Row (w.setCell ⟨b, k, none⟩ (.int .i64 v)) b (k + 1) f := by
  subst e; exact h.set
theorem Row.ext {w w' : World} {b k : Nat} {f : Nat → Int} (h : Row w b k f) (he : Ext w w') : Row w' b k f := by
  obtain ⟨g, h1, h2⟩ := h; exact ⟨g, Ext.block he h1, h2⟩
theorem Row.touch {S : Nat → Prop} {w w' : World} {b k : Nat} {f : Nat → Int} (h : Row w b k f) (he : Touch S w w') (hn : ¬ S b) : Row w' b k f := by
  obtain ⟨g, h1, h2⟩ := h; exact ⟨g, Touch.old he h1 hn, h2⟩
theorem Row.cell {w : World} {b k i : Nat} {f : Nat → Int} (h : Row w b k f) (hi : i < k) (h32 : k ≤ 32) : w.cell? ⟨b, i, none⟩ = some (.int .i64 (f i)) := by
  obtain ⟨g, h1, h2⟩ := h
  rw [blk_cell h1 (row_get g (by omega)), h2 i hi]
theorem Row.frozen {w : World} {b k : Nat} {f : Nat → Int} (h : Row w b k f) (i : Nat) : w.frozen? ⟨b, i, none⟩ = false := by
  obtain ⟨g, h1, _⟩ := h; exact blk_frozen h1 i
theorem Row.has {w : World} {b k i : Nat} {f : Nat → Int} (h : Row w b k f) (hi : i < 32) : ∃ v, w.cell? ⟨b, i, none⟩ = some v := by
  obtain ⟨g, h1, _⟩ := h; exact ⟨_, blk_cell h1 (row_get g hi)⟩
theorem madeCells_row (n : Nat) : madeCells #[.int .i64 0] n = row n (fun _ => 0) := by
  apply Array.ext
  · simp [madeCells, row]
  · intro i h1 h2
    simp [madeCells, row, Nat.mod_one]

theorem info_int : (Try.prog.info? 3).map (fun i => (i.zero, i.size, i.bytes)) = some (some (.int .i64 0), 1, 8) := by kernel_rfl

def pws : List Int := [0, 0, 0, 0, 0, 1, 0, 0, 1, 1, 0, 0, 0, 0, 0, 1, 0, 0, 0, 1, 1, 1, 0, 1, 1, 0, 1, 1, 0, 1, 1, 1]
theorem pws_at (k : Nat) (h : k < 32) : pws[k]? = some ((bitOf 3988292384 k : Nat) : Int) := by
  have : ∀ k : Fin 32, pws[k.val]? = some ((bitOf 3988292384 k.val : Nat) : Int) := by decide
  exact this ⟨k, h⟩
def pwc : Array Value := (pws.map (Value.int .i64)).toArray
theorem pwc_at (k : Nat) (h : k < 32) : pwc[k]? = some (.int .i64 ((bitOf 3988292384 k : Nat) : Int)) := by
  simp [pwc, pws_at k h]

theorem top_eq (p b : Nat) (hp : p < 2) (hb : b < 2) : (IntKind.i64.wrap ((p : Int) + (b : Int))).tmod 2 = (((p + b) % 2 : Nat) : Int) := by
  rw [IntKind.wrap_i64, Int.tmod_eq_emod_of_nonneg (by omega)]; omega

theorem val_eq (x t p : Nat) (hx : x < 2) (ht : t < 2) (hp : p < 2) : ((x : Int) + (t : Int) * (p : Int)) % 2 = (((x + t * p) % 2 : Nat) : Int) := by
  omega

set_option maxHeartbeats 4000000 in
theorem RSum_ok (l : List UInt8) (w : World) (hl : l.length ≤ 140737488355328) :
    Calls Try.prog 12 #[str l] w (fun e w' => e = .returned (.int .u32 ((crcOf l : Nat) : Int)) ∧ Ext w w') := by
  have hlen := bs_size l
  have h8 : wrap64 ((l.length : Int) * 8) = ((8 * l.length : Nat) : Int) := by unfold wrap64; omega
  have hmk : ∀ u : World, (Instr.makeSlice 57 (.int .i64 32) (.int .i64 32)).run Try.prog u =
      .ok (.slice (some ⟨u.heap.size, 0, none⟩) 32 32) (u.alloc (.cells (row 32 fun _ => 0) 3)) := fun u => by
    obtain ⟨i0, hi0, hz0, hz1, hz2⟩ := info_parts info_int
    have h := run_make (P := Try.prog) (w := u) 57 3 i0 (.int .i64 0) Try.underlying57 hi0 hz0 .i64 .i64 32 32 (by omega) (by omega) (by rw [hz2]; omega) (by omega)
    rw [← madeCells_row]
    simpa [hz1, Value.cells] using h
  go_enter Try.func12, Try.ntmps12
  go_wp2
  have hR0 : Row (w.alloc (.cells (row 32 fun _ => 0) 3)) w.heap.size 0 (fun _ => 1) := ⟨_, blk_new _ _, fun i hi => by omega⟩
  have HR0 := Lib.hid hR0; clear hR0
  have HMK := Lib.hid hmk; clear hmk
  go_loopg [5] 32 (fun k v5 wr => ∃ i : Nat, i + k = 32 ∧ v5 = .int .i64 i ∧ Row wr w.heap.size i (fun _ => 1) ∧ Ext w wr)
  case atStart => exact ⟨0, by omega, rfl, HR0.out, (Ext.refl w).alloc _⟩
  case round =>
    obtain ⟨i, hik, rfl, hR, hE⟩ := hrel
    by_cases hlt : i < 32
    · obtain ⟨v0, c0⟩ := hR.has hlt
      have fr := hR.frozen i
      have hset := hR.set
      have HSET := Lib.hid hset; clear hset
      have HIK := Lib.hid hik; clear hik
      have HR := Lib.hid hR; clear hR
      have hji : (0 : Int) ≤ (i : Int) ∧ (i : Int) < 32 := by omega
      go_wp2
      go_roundg (gk - 1)
      case measure => have := HIK.out; omega
      case rel => exact ⟨i + 1, by have := HIK.out; omega, by go_num, HSET.out, Touch.ext ((hE.touch fun b => b = w.heap.size).setCell (fun h => by simp at h) _) (fun j hj e => by omega)⟩
    · have hi : i = 32 := by omega
      subst hi
      have HR := Lib.hid hR; clear hR
      have hst : ∀ (u : World) (zs : Array Value), zs.size = 32 → (storeCells ⟨u.heap.size, 0, none⟩ (pws.map (Value.int .i64))).run Try.prog (u.alloc (.cells zs 58)) = .ok () (u.alloc (.cells pwc 58)) := fun u zs hz => by
        have h := run_storeCells_from (P := Try.prog) u.heap.size 58 (pws.map (Value.int .i64)) 0 zs (u.alloc (.cells zs 58)) (blk_new u _) (by rw [hz]; rfl) (fun v hv => by
          simp only [List.mem_map] at hv
          obtain ⟨x, _, rfl⟩ := hv
          rfl)
        rw [World.setRow_alloc_new] at h
        exact h
      have hpl : pws.length = 32 := rfl
      go_wp2_with (refine wpList_buildFlatArrTo rfl 58 3 32 _ rfl .i64 pws (some 25) rfl Try.underlying58 (by kernel_rfl) (by kernel_rfl) rfl ?_)
      have hpw : ∀ k, k < 32 → (wr.alloc (.cells pwc 58)).cell? ⟨wr.heap.size, k, none⟩ = some (.int .i64 ((bitOf 3988292384 k : Nat) : Int)) := fun k hk => blk_cell (blk_new wr _) (pwc_at k hk)
      have hE1 : Ext w (wr.alloc (.cells pwc 58)) := hE.alloc _
      have hR1 : Row (wr.alloc (.cells pwc 58)) w.heap.size 32 (fun k => ((bitOf (rst l 0) k : Nat) : Int)) := by
        obtain ⟨g, h1, h2⟩ := HR.out.ext ((Ext.refl wr).alloc _)
        refine ⟨g, h1, fun i hi => ?_⟩
        rw [h2 i hi]
        have : ∀ i : Fin 32, bitOf 4294967295 i.val = 1 := by decide
        have := this ⟨i, hi⟩
        show (1 : Int) = ((bitOf 4294967295 i : Nat) : Int)
        rw [show bitOf 4294967295 i = 1 from this]; rfl
      have hpbl : wr.heap.size < (wr.alloc (.cells pwc 58)).heap.size := by simp
      clear HR hst hpl hE hik
      generalize wr.alloc (.cells pwc 58) = W1 at *
      generalize wr.heap.size = pb at *
      have HPW := Lib.hid hpw; clear hpw
      have HR1 := Lib.hid hR1; clear hR1
      have HE1 := Lib.hid hE1; clear hE1
      go_loopg [4, 7] (8 * l.length) (fun k v4 v7 wr => ∃ i rb : Nat, i + k = 8 * l.length ∧ v4 = .slice (some ⟨rb, 0, none⟩) 32 32 ∧ v7 = .int .i64 i ∧ Row wr rb 32 (fun k => ((bitOf (rst l i) k : Nat) : Int)) ∧ Ext W1 wr)
      case atStart => exact ⟨0, _, by omega, rfl, rfl, HR1.out, Ext.refl _⟩
      case round =>
        obtain ⟨i, rb, hik, rfl, rfl, hR, hE⟩ := hrel
        by_cases hlt : i < 8 * l.length
        · have hlt' : (i : Int) < (l.length : Int) * 8 := by omega
          have HIK := Lib.hid hik; clear hik
          have c0 : wr.cell? ⟨rb, 0, none⟩ = some (.int .i64 ((bitOf (rst l i) 0 : Nat) : Int)) := hR.cell (show 0 < 32 by decide) (by decide)
          have HR := Lib.hid hR; clear hR
          have hb0 := bitOf_le (rst l i) 0
          have hsl := rst_lt l i
          have hrs : rst l (i + 1) = shl1 (rst l i ^^^ ((l.getD (i / 8) 0).toNat / 2 ^ (i % 8) % 2)) := rfl
          have hbt : (l.getD (i / 8) 0).toNat / 2 ^ (i % 8) % 2 < 2 := Nat.mod_lt _ (by decide)
          have hbc := bit_ok l i wr.drew hl hlt
          generalize (l.getD (i / 8) 0).toNat / 2 ^ (i % 8) % 2 = bt at *
          generalize rst l i = s at *
          have hT : (IntKind.i64.wrap (((bitOf s 0 : Nat) : Int) + (bt : Int))).tmod 2 = (((bitOf s 0 + bt) % 2 : Nat) : Int) := top_eq _ _ hb0 hbt
          have hT1 : (bitOf s 0 + bt) % 2 < 2 := Nat.mod_lt _ (by decide)
          have hsb : ∀ k, bitOf (shl1 (s ^^^ bt)) k = (bitOf s (k + 1) + (bitOf s 0 + bt) % 2 * bitOf 3988292384 k) % 2 := fun k => bitOf_shl1 s bt k hbt
          generalize (bitOf s 0 + bt) % 2 = T at *
          have HSB := Lib.hid hsb; clear hsb
          have HRS := Lib.hid hrs; clear hrs
          have HBC := Lib.hid hbc; clear hbc
          go_wp2_with fail
          refine region_calm [.p 0, .p 1, .l 2, .p 3, .p 4, .h 5 true, .p 6, .p 7, .p 8] f_mixed (by kernel_rfl) (by kernel_rfl) ?_
          repeat (first | (refine plan_p rfl (fun K hK => ?_); go_simp; refine hK _ ?_; clear hK K) | (refine plan_l rfl (fun K hK => ?_); go_simp; refine hK _ ?_; clear hK K))
          refine plan_ct rfl rfl (fun K _ hK => ?_)
          go_wp2_with fail
          refine HBC.out.mono ?_
          rintro e w3 ⟨rfl, rfl⟩
          go_wp2_with fail
          refine hK _ _ ((Ext.refl _)) ?_; clear hK K
          repeat (first | (refine plan_p rfl (fun K hK => ?_); go_simp; refine hK _ ?_; clear hK K) | (refine plan_l rfl (fun K hK => ?_); go_simp; refine hK _ ?_; clear hK K))
          refine plan_done ?_
          have hmk := HMK.out
          have hE2 : Ext W1 wr.drew := hE.drew
          have HR2 : Hid (Row wr.drew rb 32 (fun k => ((bitOf s k : Nat) : Int))) := HR.out.ext ((Ext.refl wr).drew)
          clear hE HR c0 hbt hb0 hT HBC
          have hrl : rb < wr.drew.heap.size := by obtain ⟨g, h1, _⟩ := HR2.out; exact blk_lt h1
          generalize wr.drew = W2 at *
          go_wp2
          clear hmk
          have hnb : W2.heap.size = W2.heap.size := rfl
          generalize hnbe : W2.heap.size = nb at *
          have HN0 : Hid (Row (W2.alloc (.cells (row 32 fun _ => 0) 3)) nb 0 (fun k => ((bitOf (shl1 (s ^^^ bt)) k : Nat) : Int))) := by
            subst hnbe; exact ⟨_, blk_new _ _, fun i hi => by omega⟩
          go_loopg [10] 32 (fun k v10 wr => ∃ j : Nat, j + k = 32 ∧ v10 = .int .i64 j ∧ Row wr nb j (fun k => ((bitOf (shl1 (s ^^^ bt)) k : Nat) : Int)) ∧ Touch (fun b => b = nb) W2 wr)
          case atStart => exact ⟨0, by omega, rfl, HN0.out, ((Ext.refl W2).alloc _).touch _⟩
          case round =>
            obtain ⟨j, hjk, rfl, hN, hTo⟩ := hrel
            by_cases hjl : j < 32
            · have HJK := Lib.hid hjk; clear hjk
              obtain ⟨v0, c0⟩ := hN.has hjl
              have fr := hN.frozen j
              have c1 : wr.cell? ⟨pb, j, none⟩ = some (.int .i64 ((bitOf 3988292384 j : Nat) : Int)) := Touch.cell hTo (Ext.cell hE2 (HPW.out j hjl)) (by have := hE2.size; simp only; omega)
              have hb := HSB.out j
              have hrow := HR2.out.touch hTo (by omega)
              have hbl := bitOf_le 3988292384 j
              have hbs := bitOf_le s (j + 1)
              have hset : ∀ v : Int, v = ((bitOf (shl1 (s ^^^ bt)) j : Nat) : Int) → Row (wr.setCell ⟨nb, j, none⟩ (.int .i64 v)) nb (j + 1) (fun k => ((bitOf (shl1 (s ^^^ bt)) k : Nat) : Int)) := fun v hv => hN.set' hv
              have hto' : ∀ v, Touch (fun b => b = nb) W2 (wr.setCell ⟨nb, j, none⟩ v) := fun v => hTo.setCell (fun _ => rfl) v
              have HSET := Lib.hid hset; clear hset
              have HTO := Lib.hid hto'; clear hto' hN hTo
              have h32 : (0 : Int) ≤ (j : Int) ∧ (j : Int) < 32 := by omega
              by_cases hj31 : j < 31
              · have c2 : wr.cell? ⟨rb, j + 1, none⟩ = some (.int .i64 ((bitOf s (j + 1) : Nat) : Int)) := hrow.cell (by omega) (by decide)
                have h33 : (0 : Int) ≤ (j : Int) + 1 ∧ (j : Int) + 1 < 32 := by omega
                clear hrow
                have HB := Lib.hid hb; clear hb
                generalize bitOf 3988292384 j = pj at *
                generalize bitOf s (j + 1) = xj at *
                obtain rfl | rfl : T = 0 ∨ T = 1 := by omega
                · go_wp2
                  go_roundg (gk - 1)
                  case measure => have := HJK.out; omega
                  case rel => exact ⟨j + 1, by have := HJK.out; omega, by go_num, HSET.out _ (by rw [HB.out]; omega), HTO.out _⟩
                · go_wp2
                  go_roundg (gk - 1)
                  case measure => have := HJK.out; omega
                  case rel => exact ⟨j + 1, by have := HJK.out; omega, by go_num, HSET.out _ (by rw [HB.out]; omega), HTO.out _⟩
              · have hj : j = 31 := by omega
                subst hj
                clear hrow
                have hx0 : bitOf s (31 + 1) = 0 := bitOf_high hsl
                rw [hx0] at hb
                have HB := Lib.hid hb; clear hb hx0 hbs
                generalize bitOf 3988292384 31 = pj at *
                obtain rfl | rfl : T = 0 ∨ T = 1 := by omega
                · go_wp2
                  go_roundg (gk - 1)
                  case measure => have := HJK.out; omega
                  case rel => exact ⟨31 + 1, by have := HJK.out; omega, rfl, HSET.out _ (by rw [HB.out]; omega), HTO.out _⟩
                · go_wp2
                  go_roundg (gk - 1)
                  case measure => have := HJK.out; omega
                  case rel => exact ⟨31 + 1, by have := HJK.out; omega, rfl, HSET.out _ (by rw [HB.out]; omega), HTO.out _⟩
            · have hj : j = 32 := by omega
              subst hj
              have hE3 : Ext W1 wr := hE2.trans (Touch.ext hTo (fun i hi e => by omega))
              have HN := Lib.hid hN; clear hN hTo
              go_wp2
              go_roundg (8 * l.length - i - 1)
              case measure => have := HIK.out; omega
              case rel => exact ⟨i + 1, nb, by have := HIK.out; omega, rfl, by go_num, by rw [HRS.out]; exact HN.out, hE3⟩
        · have hi : i = 8 * l.length := by omega
          subst hi
          rw [rst_all] at hR
          have hs : crc 4294967295 l < 4294967296 := crc_lt _ (by decide)
          have hfin : outTo (crc 4294967295 l) 32 = crcOf l := outTo_all hs
          generalize crc 4294967295 l = s at *
          have hE2 : Ext w wr := HE1.out.trans hE
          have HR := Lib.hid hR; clear hR hE
          have HFIN := Lib.hid hfin; clear hfin
          go_wp2
          go_loopg [12, 13] 32 (fun k v12 v13 w' => ∃ j : Nat, j + k = 32 ∧ v12 = .int .u32 ((outTo s j : Nat) : Int) ∧ v13 = .int .i64 j ∧ w' = wr)
          case atStart => exact ⟨0, by omega, rfl, rfl, rfl⟩
          case round =>
            obtain ⟨j, hjk, rfl, rfl, rfl⟩ := hrel
            by_cases hjl : j < 32
            · have c0 : wr.cell? ⟨rb, j, none⟩ = some (.int .i64 ((bitOf s j : Nat) : Int)) := HR.out.cell hjl (by decide)
              have HJK := Lib.hid hjk; clear hjk
              have hb := bitOf_le s j
              have ho := outTo_eq s j
              have hos : outTo s (j + 1) = if bitOf s j = 0 then outTo s j + 2 ^ j else outTo s j := rfl
              have h32 : (0 : Int) ≤ (j : Int) ∧ (j : Int) < 32 := by omega
              have hp : 2 ^ j ≤ 2147483648 := Nat.pow_le_pow_right (n := 2) (by decide) (show j ≤ 31 by omega)
              have hoj : outTo s j < 2 ^ j := by
                have := Nat.two_pow_pos j
                omega
              have hsh : IntKind.u32.wrap (2 ^ j : Int) = ((2 ^ j : Nat) : Int) := by
                rw [IntKind.wrap_u32', show ((2 : Int) ^ j) = ((2 ^ j : Nat) : Int) from (Int.natCast_pow 2 j).symm]; omega
              have hsum : ((outTo s j : Int) + 2 ^ j) % 4294967296 = ((outTo s j + 2 ^ j : Nat) : Int) := by
                rw [show ((2 : Int) ^ j) = ((2 ^ j : Nat) : Int) from (Int.natCast_pow 2 j).symm]; omega
              have HSUM := Lib.hid hsum; clear hsum
              have hmin : min j 32 = j := Nat.min_eq_left (by omega)
              have HOS := Lib.hid hos; clear hos ho
              by_cases h0 : bitOf s j = 0
              · have h0' : (((bitOf s j : Nat) : Int) == 0) = true := by rw [h0]; rfl
                go_wp2
                go_roundg (gk - 1)
                case measure => have := HJK.out; omega
                case rel => exact ⟨j + 1, by have := HJK.out; omega, by rw [HOS.out, if_pos h0, HSUM.out], by go_num, rfl⟩
              · have h0' : (((bitOf s j : Nat) : Int) == 0) = false := by
                  have : bitOf s j = 1 := by omega
                  rw [this]; rfl
                go_wp2
                go_roundg (gk - 1)
                case measure => have := HJK.out; omega
                case rel => exact ⟨j + 1, by have := HJK.out; omega, by rw [HOS.out, if_neg h0], by go_num, rfl⟩
            · have hj : j = 32 := by omega
              subst hj
              have hf := HFIN.out
              go_wp2
              go_ret
              exact ⟨by simp [hf], hE2⟩

end Go.Proofs.Ytlmlkphdalkfdaa
