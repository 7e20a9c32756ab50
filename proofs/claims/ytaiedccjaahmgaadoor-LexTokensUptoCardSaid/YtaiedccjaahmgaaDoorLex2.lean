/- The scanner: while, walked at its three kinds. -/
import Derived.Test.YtaiedccjaahmgaaDoorLex1
import Derived.Laws.IdiomStrings
import Derived.LoopTactic
import Derived.Deep.LoopGhost
import Derived.Lib.Hide
import Derived.Laws.StructEq
import Derived.Laws.Pointers
namespace Go.Proofs.YtaiedccjaahmgaaDoor
open Go.RowKit

/-- A string of these bytes. -/
def bs (l : List UInt8) : ByteArray := ByteArray.mk l.toArray
abbrev str (l : List UInt8) : Value := .string (bs l)
theorem bs_size (l : List UInt8) : (bs l).size = l.length := by simp [bs, ByteArray.size]
theorem bs_toList (l : List UInt8) : (bs l).toList = l := ByteArray.toList_mk l
theorem bs_get {l : List UInt8} {j : Nat} {x : UInt8} (hj : l[j]? = some x) (h : j < (bs l).size) : (bs l)[j]'h = x := by
  have hl : j < l.length := (List.getElem?_eq_some_iff.1 hj).1
  have : l[j] = x := (List.getElem?_eq_some_iff.1 hj).2
  rw [← this]
  rfl

/-- The scanner at block cb reads the text l from place p on. -/
def Scn (w : World) (cb : Nat) (l : List UInt8) (p : Nat) : Prop := w.heap[cb]? = some (.cells #[str l, .int .i64 (p : Int)] 44 (0, 0)) ∧ p ≤ l.length
theorem Scn.ext {w w' : World} {cb : Nat} {l : List UInt8} {p : Nat} (h : Scn w cb l p) (he : Ext w w') : Scn w' cb l p := ⟨Ext.block he h.1, h.2⟩
theorem Scn.touch {S : Nat → Prop} {w w' : World} {cb : Nat} {l : List UInt8} {p : Nat} (h : Scn w cb l p) (ht : Touch S w w') (hn : ¬ S cb) : Scn w' cb l p := ⟨Touch.old ht h.1 hn, h.2⟩
theorem Scn.set {w : World} {cb : Nat} {l : List UInt8} {p : Nat} (h : Scn w cb l p) {q : Nat} (hq : q ≤ l.length) : Scn (w.setCell ⟨cb, 1, none⟩ (.int .i64 (q : Int))) cb l q := ⟨blk_set h.1 1 _, hq⟩

theorem tw_cons {p : UInt8 → Bool} {l : List UInt8} {q : Nat} {x : UInt8} (hx : l[q]? = some x) : (l.drop q).takeWhile p = if p x then x :: (l.drop (q + 1)).takeWhile p else [] := by
  have hl : q < l.length := (List.getElem?_eq_some_iff.1 hx).1
  rw [List.drop_eq_getElem_cons hl, List.takeWhile_cons]
  rw [List.getElem?_eq_getElem hl] at hx
  cases hx
  rfl
theorem tw_end {p : UInt8 → Bool} {l : List UInt8} {q : Nat} (hq : l.length ≤ q) : (l.drop q).takeWhile p = [] := by
  rw [List.drop_eq_nil_of_le hq]; rfl
theorem take_tw (p : UInt8 → Bool) : ∀ l : List UInt8, l.take (l.takeWhile p).length = l.takeWhile p
  | [] => rfl
  | x :: r => by
    rw [List.takeWhile_cons]
    split
    · simp [take_tw p r]
    · simp
theorem bs_extract (l : List UInt8) (a b : Nat) : (bs l).extract a b = bs ((l.drop a).take (b - a)) := by
  apply ByteArray.ext
  simp [bs, ByteArray.data_extract, List.extract_toArray, List.extract_eq_take_drop]

/-- What 'while' gives. -/
def WhilePost (P : UInt8 → Bool) (w : World) (cb : Nat) (l : List UInt8) (p : Nat) (e : Ending) (w' : World) : Prop :=
  e = .returned (str ((l.drop p).takeWhile P)) ∧ Scn w' cb l (p + ((l.drop p).takeWhile P).length) ∧ Touch (fun b => b = cb) w w'

set_option maxHeartbeats 8000000 in
theorem while_blank (cb : Nat) (l : List UInt8) (p : Nat) (w : World) (h : Scn w cb l p) (hl : l.length ≤ 1000000000) :
    Calls Tryd.prog 14 #[.pointer (some ⟨cb, 0, none⟩), .func (.func 15) #[] #[]] w (WhilePost isB w cb l p) := by
  generalize hR : p + ((l.drop p).takeWhile isB).length = R
  have HR := Lib.hid hR; clear hR
  obtain ⟨c0, c1⟩ := blk2 h.1
  have H := Lib.hid h; clear h
  have hsz := bs_size l
  go_enter Tryd.func14, Tryd.ntmps14
  go_wp2
  go_loopg [] (l.length - p) (fun k wr => ∃ (q : Nat), k = l.length - q ∧ p ≤ q ∧ Scn wr cb l q ∧ Touch (fun b => b = cb) w wr ∧ q + ((l.drop q).takeWhile isB).length = R)
  case atStart => exact ⟨p, rfl, Nat.le_refl _, H.out, Touch.refl _ _, HR.out⟩
  case round =>
    clear c0 c1
    obtain ⟨q, hk, hpq, hS, hT, hD⟩ := hrel
    obtain ⟨c0, c1⟩ := blk2 hS.1
    have hql := hS.2
    have HS := Lib.hid hS; clear hS
    have HT := Lib.hid hT; clear hT
    have HK := Lib.hid hk; clear hk
    by_cases hlt : q < l.length
    · obtain ⟨x, hx⟩ : ∃ x, l[q]? = some x := ⟨_, List.getElem?_eq_getElem hlt⟩
      rw [tw_cons hx] at hD
      have HD := Lib.hid hD; clear hD
      have hxg := bs_get hx
      have HX := Lib.hid hx; clear hx
      go_wp2
      refine region_calm [.p 0, .p 1, .p 2, .l 3, .p 4, .p 5, .p 6, .l 7, .p 8, .p 9, .p 10, .p 11, .p 12, .p 13, .p 14, .l 15, .p 16, .p 17, .p 18, .l 19, .p 20, .h 21 false, .p 22] f_mixed (by kernel_rfl) (by kernel_rfl) ?_
      repeat (first | (refine plan_p rfl (fun K hK => ?_); go_simp; refine hK _ ?_; clear hK K) | (refine plan_l rfl (fun K hK => ?_); go_simp; refine hK _ ?_; clear hK K))
      refine plan_h rfl (fun K hK => ?_)
      go_wp2_with fail
      refine (blank_ok _ _).mono ?_
      rintro e w2 ⟨rfl, rfl⟩
      cases hb : isB x with
      | true =>
        have HD2 : Hid (q + 1 + ((l.drop (q + 1)).takeWhile isB).length = R) := by have := HD.out; rw [if_pos hb, List.length_cons] at this; show q + 1 + _ = R; omega
        clear HD
        have hf1 := blk_frozen HS.out.1 1
        go_wp2
        repeat (first | (refine plan_p rfl (fun K hK => ?_); go_simp; refine hK _ ?_; clear hK K) | (refine plan_l rfl (fun K hK => ?_); go_simp; refine hK _ ?_; clear hK K))
        refine plan_done ?_
        go_wp2
        go_roundg (l.length - (q + 1))
        case measure => have := HK.out; omega
        case rel => exact ⟨q + 1, rfl, by omega, by have h5 := HS.out.set (q := q + 1) (by omega); rw [Int.natCast_add] at h5; exact h5, HT.out.drew.setCell (p := ⟨cb, 1, none⟩) (fun _ => rfl) _, HD2.out⟩
      | false =>
        have HD2 : Hid (q = R) := by have := HD.out; rw [if_neg (by rw [hb]; simp)] at this; exact this
        clear HD
        go_wp2
        repeat (first | (refine plan_p rfl (fun K hK => ?_); go_simp; refine hK _ ?_; clear hK K) | (refine plan_l rfl (fun K hK => ?_); go_simp; refine hK _ ?_; clear hK K))
        refine plan_done ?_
        go_wp2
        refine region_calm [.p 0, .p 1, .p 2, .l 3, .p 4, .p 5, .p 6, .p 7, .l 8, .p 9, .p 10] f_mixed (by kernel_rfl) (by kernel_rfl) ?_
        repeat (first | (refine plan_p rfl (fun K hK => ?_); go_simp; refine hK _ ?_; clear hK K) | (refine plan_l rfl (fun K hK => ?_); go_simp; refine hK _ ?_; clear hK K))
        refine plan_done ?_
        have hR : p + ((l.drop p).takeWhile isB).length = q := by have := HR.out; have := HD2.out; omega
        have hE : (bs l).extract p q = bs ((l.drop p).takeWhile isB) := by
          rw [bs_extract, show q - p = ((l.drop p).takeWhile isB).length by omega, take_tw]
        rw [hE]
        go_wp2
        go_ret
        unfold WhilePost
        rw [hR]
        exact ⟨rfl, HS.out, by repeat (first | exact HT.out | refine Touch.drew ?_)⟩
    · have hq : q = l.length := by omega
      have HD2 : Hid (q = R) := by rw [tw_end (by omega)] at hD; exact hD
      clear hD hq
      go_wp2
      refine region_calm [.p 0, .p 1, .p 2, .l 3, .p 4, .p 5, .p 6, .l 7, .p 8, .p 9, .p 10, .p 11, .p 12, .p 13, .p 14, .l 15, .p 16, .p 17, .p 18, .l 19, .p 20, .h 21 false, .p 22] f_mixed (by kernel_rfl) (by kernel_rfl) ?_
      repeat (first | (refine plan_p rfl (fun K hK => ?_); go_simp; refine hK _ ?_; clear hK K) | (refine plan_l rfl (fun K hK => ?_); go_simp; refine hK _ ?_; clear hK K))
      refine plan_h rfl (fun K hK => ?_)
      go_wp2
      repeat (first | (refine plan_p rfl (fun K hK => ?_); go_simp; refine hK _ ?_; clear hK K) | (refine plan_l rfl (fun K hK => ?_); go_simp; refine hK _ ?_; clear hK K))
      refine plan_done ?_
      go_wp2
      refine region_calm [.p 0, .p 1, .p 2, .l 3, .p 4, .p 5, .p 6, .p 7, .l 8, .p 9, .p 10] f_mixed (by kernel_rfl) (by kernel_rfl) ?_
      repeat (first | (refine plan_p rfl (fun K hK => ?_); go_simp; refine hK _ ?_; clear hK K) | (refine plan_l rfl (fun K hK => ?_); go_simp; refine hK _ ?_; clear hK K))
      refine plan_done ?_
      have hR : p + ((l.drop p).takeWhile isB).length = q := by have := HR.out; have := HD2.out; omega
      have hE : (bs l).extract p q = bs ((l.drop p).takeWhile isB) := by
        rw [bs_extract, show q - p = ((l.drop p).takeWhile isB).length by omega, take_tw]
      rw [hE]
      go_wp2
      go_ret
      unfold WhilePost
      rw [hR]
      exact ⟨rfl, HS.out, by repeat (first | exact HT.out | refine Touch.drew ?_)⟩
set_option maxHeartbeats 8000000 in
theorem while_word (cb : Nat) (l : List UInt8) (p : Nat) (w : World) (h : Scn w cb l p) (hl : l.length ≤ 1000000000) :
    Calls Tryd.prog 14 #[.pointer (some ⟨cb, 0, none⟩), .func (.func 18) #[] #[]] w (WhilePost isW w cb l p) := by
  generalize hR : p + ((l.drop p).takeWhile isW).length = R
  have HR := Lib.hid hR; clear hR
  obtain ⟨c0, c1⟩ := blk2 h.1
  have H := Lib.hid h; clear h
  have hsz := bs_size l
  go_enter Tryd.func14, Tryd.ntmps14
  go_wp2
  go_loopg [] (l.length - p) (fun k wr => ∃ (q : Nat), k = l.length - q ∧ p ≤ q ∧ Scn wr cb l q ∧ Touch (fun b => b = cb) w wr ∧ q + ((l.drop q).takeWhile isW).length = R)
  case atStart => exact ⟨p, rfl, Nat.le_refl _, H.out, Touch.refl _ _, HR.out⟩
  case round =>
    clear c0 c1
    obtain ⟨q, hk, hpq, hS, hT, hD⟩ := hrel
    obtain ⟨c0, c1⟩ := blk2 hS.1
    have hql := hS.2
    have HS := Lib.hid hS; clear hS
    have HT := Lib.hid hT; clear hT
    have HK := Lib.hid hk; clear hk
    by_cases hlt : q < l.length
    · obtain ⟨x, hx⟩ : ∃ x, l[q]? = some x := ⟨_, List.getElem?_eq_getElem hlt⟩
      rw [tw_cons hx] at hD
      have HD := Lib.hid hD; clear hD
      have hxg := bs_get hx
      have HX := Lib.hid hx; clear hx
      go_wp2
      refine region_calm [.p 0, .p 1, .p 2, .l 3, .p 4, .p 5, .p 6, .l 7, .p 8, .p 9, .p 10, .p 11, .p 12, .p 13, .p 14, .l 15, .p 16, .p 17, .p 18, .l 19, .p 20, .h 21 false, .p 22] f_mixed (by kernel_rfl) (by kernel_rfl) ?_
      repeat (first | (refine plan_p rfl (fun K hK => ?_); go_simp; refine hK _ ?_; clear hK K) | (refine plan_l rfl (fun K hK => ?_); go_simp; refine hK _ ?_; clear hK K))
      refine plan_h rfl (fun K hK => ?_)
      go_wp2_with fail
      refine (wordc_ok _ _).mono ?_
      rintro e w2 ⟨rfl, rfl⟩
      cases hb : isW x with
      | true =>
        have HD2 : Hid (q + 1 + ((l.drop (q + 1)).takeWhile isW).length = R) := by have := HD.out; rw [if_pos hb, List.length_cons] at this; show q + 1 + _ = R; omega
        clear HD
        have hf1 := blk_frozen HS.out.1 1
        go_wp2
        repeat (first | (refine plan_p rfl (fun K hK => ?_); go_simp; refine hK _ ?_; clear hK K) | (refine plan_l rfl (fun K hK => ?_); go_simp; refine hK _ ?_; clear hK K))
        refine plan_done ?_
        go_wp2
        go_roundg (l.length - (q + 1))
        case measure => have := HK.out; omega
        case rel => exact ⟨q + 1, rfl, by omega, by have h5 := HS.out.set (q := q + 1) (by omega); rw [Int.natCast_add] at h5; exact h5, HT.out.drew.setCell (p := ⟨cb, 1, none⟩) (fun _ => rfl) _, HD2.out⟩
      | false =>
        have HD2 : Hid (q = R) := by have := HD.out; rw [if_neg (by rw [hb]; simp)] at this; exact this
        clear HD
        go_wp2
        repeat (first | (refine plan_p rfl (fun K hK => ?_); go_simp; refine hK _ ?_; clear hK K) | (refine plan_l rfl (fun K hK => ?_); go_simp; refine hK _ ?_; clear hK K))
        refine plan_done ?_
        go_wp2
        refine region_calm [.p 0, .p 1, .p 2, .l 3, .p 4, .p 5, .p 6, .p 7, .l 8, .p 9, .p 10] f_mixed (by kernel_rfl) (by kernel_rfl) ?_
        repeat (first | (refine plan_p rfl (fun K hK => ?_); go_simp; refine hK _ ?_; clear hK K) | (refine plan_l rfl (fun K hK => ?_); go_simp; refine hK _ ?_; clear hK K))
        refine plan_done ?_
        have hR : p + ((l.drop p).takeWhile isW).length = q := by have := HR.out; have := HD2.out; omega
        have hE : (bs l).extract p q = bs ((l.drop p).takeWhile isW) := by
          rw [bs_extract, show q - p = ((l.drop p).takeWhile isW).length by omega, take_tw]
        rw [hE]
        go_wp2
        go_ret
        unfold WhilePost
        rw [hR]
        exact ⟨rfl, HS.out, by repeat (first | exact HT.out | refine Touch.drew ?_)⟩
    · have hq : q = l.length := by omega
      have HD2 : Hid (q = R) := by rw [tw_end (by omega)] at hD; exact hD
      clear hD hq
      go_wp2
      refine region_calm [.p 0, .p 1, .p 2, .l 3, .p 4, .p 5, .p 6, .l 7, .p 8, .p 9, .p 10, .p 11, .p 12, .p 13, .p 14, .l 15, .p 16, .p 17, .p 18, .l 19, .p 20, .h 21 false, .p 22] f_mixed (by kernel_rfl) (by kernel_rfl) ?_
      repeat (first | (refine plan_p rfl (fun K hK => ?_); go_simp; refine hK _ ?_; clear hK K) | (refine plan_l rfl (fun K hK => ?_); go_simp; refine hK _ ?_; clear hK K))
      refine plan_h rfl (fun K hK => ?_)
      go_wp2
      repeat (first | (refine plan_p rfl (fun K hK => ?_); go_simp; refine hK _ ?_; clear hK K) | (refine plan_l rfl (fun K hK => ?_); go_simp; refine hK _ ?_; clear hK K))
      refine plan_done ?_
      go_wp2
      refine region_calm [.p 0, .p 1, .p 2, .l 3, .p 4, .p 5, .p 6, .p 7, .l 8, .p 9, .p 10] f_mixed (by kernel_rfl) (by kernel_rfl) ?_
      repeat (first | (refine plan_p rfl (fun K hK => ?_); go_simp; refine hK _ ?_; clear hK K) | (refine plan_l rfl (fun K hK => ?_); go_simp; refine hK _ ?_; clear hK K))
      refine plan_done ?_
      have hR : p + ((l.drop p).takeWhile isW).length = q := by have := HR.out; have := HD2.out; omega
      have hE : (bs l).extract p q = bs ((l.drop p).takeWhile isW) := by
        rw [bs_extract, show q - p = ((l.drop p).takeWhile isW).length by omega, take_tw]
      rw [hE]
      go_wp2
      go_ret
      unfold WhilePost
      rw [hR]
      exact ⟨rfl, HS.out, by repeat (first | exact HT.out | refine Touch.drew ?_)⟩
set_option maxHeartbeats 8000000 in
theorem while_digit (cb : Nat) (l : List UInt8) (p : Nat) (w : World) (h : Scn w cb l p) (hl : l.length ≤ 1000000000) :
    Calls Tryd.prog 14 #[.pointer (some ⟨cb, 0, none⟩), .func (.func 19) #[] #[]] w (WhilePost isD w cb l p) := by
  generalize hR : p + ((l.drop p).takeWhile isD).length = R
  have HR := Lib.hid hR; clear hR
  obtain ⟨c0, c1⟩ := blk2 h.1
  have H := Lib.hid h; clear h
  have hsz := bs_size l
  go_enter Tryd.func14, Tryd.ntmps14
  go_wp2
  go_loopg [] (l.length - p) (fun k wr => ∃ (q : Nat), k = l.length - q ∧ p ≤ q ∧ Scn wr cb l q ∧ Touch (fun b => b = cb) w wr ∧ q + ((l.drop q).takeWhile isD).length = R)
  case atStart => exact ⟨p, rfl, Nat.le_refl _, H.out, Touch.refl _ _, HR.out⟩
  case round =>
    clear c0 c1
    obtain ⟨q, hk, hpq, hS, hT, hD⟩ := hrel
    obtain ⟨c0, c1⟩ := blk2 hS.1
    have hql := hS.2
    have HS := Lib.hid hS; clear hS
    have HT := Lib.hid hT; clear hT
    have HK := Lib.hid hk; clear hk
    by_cases hlt : q < l.length
    · obtain ⟨x, hx⟩ : ∃ x, l[q]? = some x := ⟨_, List.getElem?_eq_getElem hlt⟩
      rw [tw_cons hx] at hD
      have HD := Lib.hid hD; clear hD
      have hxg := bs_get hx
      have HX := Lib.hid hx; clear hx
      go_wp2
      refine region_calm [.p 0, .p 1, .p 2, .l 3, .p 4, .p 5, .p 6, .l 7, .p 8, .p 9, .p 10, .p 11, .p 12, .p 13, .p 14, .l 15, .p 16, .p 17, .p 18, .l 19, .p 20, .h 21 false, .p 22] f_mixed (by kernel_rfl) (by kernel_rfl) ?_
      repeat (first | (refine plan_p rfl (fun K hK => ?_); go_simp; refine hK _ ?_; clear hK K) | (refine plan_l rfl (fun K hK => ?_); go_simp; refine hK _ ?_; clear hK K))
      refine plan_h rfl (fun K hK => ?_)
      go_wp2_with fail
      refine (digit_ok _ _).mono ?_
      rintro e w2 ⟨rfl, rfl⟩
      cases hb : isD x with
      | true =>
        have HD2 : Hid (q + 1 + ((l.drop (q + 1)).takeWhile isD).length = R) := by have := HD.out; rw [if_pos hb, List.length_cons] at this; show q + 1 + _ = R; omega
        clear HD
        have hf1 := blk_frozen HS.out.1 1
        go_wp2
        repeat (first | (refine plan_p rfl (fun K hK => ?_); go_simp; refine hK _ ?_; clear hK K) | (refine plan_l rfl (fun K hK => ?_); go_simp; refine hK _ ?_; clear hK K))
        refine plan_done ?_
        go_wp2
        go_roundg (l.length - (q + 1))
        case measure => have := HK.out; omega
        case rel => exact ⟨q + 1, rfl, by omega, by have h5 := HS.out.set (q := q + 1) (by omega); rw [Int.natCast_add] at h5; exact h5, HT.out.drew.setCell (p := ⟨cb, 1, none⟩) (fun _ => rfl) _, HD2.out⟩
      | false =>
        have HD2 : Hid (q = R) := by have := HD.out; rw [if_neg (by rw [hb]; simp)] at this; exact this
        clear HD
        go_wp2
        repeat (first | (refine plan_p rfl (fun K hK => ?_); go_simp; refine hK _ ?_; clear hK K) | (refine plan_l rfl (fun K hK => ?_); go_simp; refine hK _ ?_; clear hK K))
        refine plan_done ?_
        go_wp2
        refine region_calm [.p 0, .p 1, .p 2, .l 3, .p 4, .p 5, .p 6, .p 7, .l 8, .p 9, .p 10] f_mixed (by kernel_rfl) (by kernel_rfl) ?_
        repeat (first | (refine plan_p rfl (fun K hK => ?_); go_simp; refine hK _ ?_; clear hK K) | (refine plan_l rfl (fun K hK => ?_); go_simp; refine hK _ ?_; clear hK K))
        refine plan_done ?_
        have hR : p + ((l.drop p).takeWhile isD).length = q := by have := HR.out; have := HD2.out; omega
        have hE : (bs l).extract p q = bs ((l.drop p).takeWhile isD) := by
          rw [bs_extract, show q - p = ((l.drop p).takeWhile isD).length by omega, take_tw]
        rw [hE]
        go_wp2
        go_ret
        unfold WhilePost
        rw [hR]
        exact ⟨rfl, HS.out, by repeat (first | exact HT.out | refine Touch.drew ?_)⟩
    · have hq : q = l.length := by omega
      have HD2 : Hid (q = R) := by rw [tw_end (by omega)] at hD; exact hD
      clear hD hq
      go_wp2
      refine region_calm [.p 0, .p 1, .p 2, .l 3, .p 4, .p 5, .p 6, .l 7, .p 8, .p 9, .p 10, .p 11, .p 12, .p 13, .p 14, .l 15, .p 16, .p 17, .p 18, .l 19, .p 20, .h 21 false, .p 22] f_mixed (by kernel_rfl) (by kernel_rfl) ?_
      repeat (first | (refine plan_p rfl (fun K hK => ?_); go_simp; refine hK _ ?_; clear hK K) | (refine plan_l rfl (fun K hK => ?_); go_simp; refine hK _ ?_; clear hK K))
      refine plan_h rfl (fun K hK => ?_)
      go_wp2
      repeat (first | (refine plan_p rfl (fun K hK => ?_); go_simp; refine hK _ ?_; clear hK K) | (refine plan_l rfl (fun K hK => ?_); go_simp; refine hK _ ?_; clear hK K))
      refine plan_done ?_
      go_wp2
      refine region_calm [.p 0, .p 1, .p 2, .l 3, .p 4, .p 5, .p 6, .p 7, .l 8, .p 9, .p 10] f_mixed (by kernel_rfl) (by kernel_rfl) ?_
      repeat (first | (refine plan_p rfl (fun K hK => ?_); go_simp; refine hK _ ?_; clear hK K) | (refine plan_l rfl (fun K hK => ?_); go_simp; refine hK _ ?_; clear hK K))
      refine plan_done ?_
      have hR : p + ((l.drop p).takeWhile isD).length = q := by have := HR.out; have := HD2.out; omega
      have hE : (bs l).extract p q = bs ((l.drop p).takeWhile isD) := by
        rw [bs_extract, show q - p = ((l.drop p).takeWhile isD).length by omega, take_tw]
      rw [hE]
      go_wp2
      go_ret
      unfold WhilePost
      rw [hR]
      exact ⟨rfl, HS.out, by repeat (first | exact HT.out | refine Touch.drew ?_)⟩
end Go.Proofs.YtaiedccjaahmgaaDoor
