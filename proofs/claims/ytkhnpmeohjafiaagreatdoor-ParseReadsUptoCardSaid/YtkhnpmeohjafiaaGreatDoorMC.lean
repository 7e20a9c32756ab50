/- Lemmas. -/
import Derived.Test.YtkhnpmeohjafiaaGreatDoorProg
import Derived.Test.YtkhnpmeohjafiaaGreatDoorMA
import Derived.Test.YtkhnpmeohjafiaaGreatDoorMB
import Derived.WalkSpells
import Derived.WalkLawsBesides
import Derived.Laws.IdiomStrings
import Derived.LoopTactic
import Derived.Deep.LoopGhost
import Derived.Lib.Hide
import Derived.Laws.StructEq
import Derived.Laws.Pointers
import Derived.Test.YtkhnpmeohjafiaaGreatDoorMShf
set_option maxHeartbeats 8000000
set_option maxRecDepth 100000
namespace Go.Proofs.YtkhnpmeohjafiaaGreatDoor
open Go.RowKit
theorem f_mixed : Tryz.prog.follows .mixedOrders = true := by kernel_rfl
theorem letter_ok (x : UInt8) (w : World) : Calls Tryz.prog 45 #[.int .u8 (x.toNat : Int)] w (fun e w' => e = .returned (.bool (isL x)) ∧ w' = w) := by
 go_enter Tryz.func45, Tryz.ntmps45
 go_wp2
 all_goals (go_ret; refine ⟨congrArg (fun b => Ending.returned (Value.bool b)) ?_, rfl⟩; rw [Bool.eq_iff_iff]; simp [isL] <;> omega)
theorem digit_ok (x : UInt8) (w : World) : Calls Tryz.prog 48 #[.int .u8 (x.toNat : Int)] w (fun e w' => e = .returned (.bool (isD x)) ∧ w' = w) := by
 go_enter Tryz.func48, Tryz.ntmps48
 go_wp2
 all_goals (go_ret; refine ⟨congrArg (fun b => Ending.returned (Value.bool b)) ?_, rfl⟩; rw [Bool.eq_iff_iff]; simp [isD] <;> omega)
theorem rletter_ok (x : UInt8) (w : World) : Calls Tryz.prog 95 #[.int .u8 (x.toNat : Int)] w (fun e w' => e = .returned (.bool (isL x)) ∧ w' = w) := by
 go_enter Tryz.func95, Tryz.ntmps95
 go_wp2
 all_goals (go_ret; refine ⟨congrArg (fun b => Ending.returned (Value.bool b)) ?_, rfl⟩; rw [Bool.eq_iff_iff]; simp [isL] <;> omega)
theorem rdigit_ok (x : UInt8) (w : World) : Calls Tryz.prog 96 #[.int .u8 (x.toNat : Int)] w (fun e w' => e = .returned (.bool (isD x)) ∧ w' = w) := by
 go_enter Tryz.func96, Tryz.ntmps96
 go_wp2
 all_goals (go_ret; refine ⟨congrArg (fun b => Ending.returned (Value.bool b)) ?_, rfl⟩; rw [Bool.eq_iff_iff]; simp [isD] <;> omega)
theorem blank_ok (x : UInt8) (w : World) : Calls Tryz.prog 44 #[.int .u8 (x.toNat : Int)] w (fun e w' => e = .returned (.bool (isB x)) ∧ w' = w) := by
 go_enter Tryz.func44, Tryz.ntmps44
 go_wp2
 all_goals (go_ret; refine ⟨congrArg (fun b => Ending.returned (Value.bool b)) ?_, rfl⟩; rw [Bool.eq_iff_iff]; simp [isB] <;> omega)
theorem wordc_ok (x : UInt8) (w : World) : Calls Tryz.prog 47 #[.int .u8 (x.toNat : Int)] w (fun e w' => e = .returned (.bool (isW x)) ∧ w' = w) := by
 go_enter Tryz.func47, Tryz.ntmps47
 cases hl : isL x
 · go_wp2_with (first | (go_at_call 45; refine (letter_ok _ _).mono ?_; rintro e w' ⟨rfl, rfl⟩; rw [hl]) | (go_at_call 48; refine (digit_ok _ _).mono ?_; rintro e w' ⟨rfl, rfl⟩))
   go_ret
   exact ⟨by simp [isW, hl], rfl⟩
 · go_wp2_with (first | (go_at_call 45; refine (letter_ok _ _).mono ?_; rintro e w' ⟨rfl, rfl⟩; rw [hl]) | (go_at_call 48; refine (digit_ok _ _).mono ?_; rintro e w' ⟨rfl, rfl⟩))
   go_ret
   exact ⟨by simp [isW, hl], rfl⟩
def bs (l : List UInt8) : ByteArray := ByteArray.mk l.toArray
abbrev str (l : List UInt8) : Value := .string (bs l)
theorem bs_size (l : List UInt8) : (bs l).size = l.length := by simp [bs, ByteArray.size]
theorem bs_toList (l : List UInt8) : (bs l).toList = l := ByteArray.toList_mk l
theorem bs_get {l : List UInt8} {j : Nat} {x : UInt8} (hj : l[j]? = some x) (h : j < (bs l).size) : (bs l)[j]'h = x := by
 have hl : j < l.length := (List.getElem?_eq_some_iff.1 hj).1
 have : l[j] = x := (List.getElem?_eq_some_iff.1 hj).2
 rw [← this]
 rfl
def Scn (w : World) (cb : Nat) (l : List UInt8) (p : Nat) : Prop := w.heap[cb]? = some (.cells #[str l, .int .i64 (p : Int)] 98 (0, 0)) ∧ p ≤ l.length
theorem Scn.ext {w w' : World} {cb : Nat} {l : List UInt8} {p : Nat} (h : Scn w cb l p) (he : Ext w w') : Scn w' cb l p := ⟨Ext.block he h.1, h.2⟩
theorem Scn.touch {S : Nat → Prop} {w w' : World} {cb : Nat} {l : List UInt8} {p : Nat} (h : Scn w cb l p) (ht : Touch S w w') (hn : ¬ S cb) : Scn w' cb l p := ⟨Touch.old ht h.1 hn, h.2⟩
theorem Scn.set {w : World} {cb : Nat} {l : List UInt8} {p : Nat} (h : Scn w cb l p) {q : Nat} (hq : q ≤ l.length) : Scn (w.setCell ⟨cb, 1, none⟩ (.int .i64 (q : Int))) cb l q := ⟨blk_set h.1 1 _, hq⟩
theorem tw_cons {p : UInt8 → Bool} {l : List UInt8} {q : Nat} {x : UInt8} (hx : l[q]? = some x) : (l.drop q).takeWhile p = if p x then x :: (l.drop (q + 1)).takeWhile p else [] := by
 have hl : q < l.length := (List.getElem?_eq_some_iff.1 hx).1
 rw [List.drop_eq_getElem_cons hl, List.takeWhile_cons]
 rw [List.getElem?_eq_getElem hl] at hx
 cases hx
 rfl
theorem tw_end {p : UInt8 → Bool} {l : List UInt8} {q : Nat} (hq : l.length ≤ q) : (l.drop q).takeWhile p = [] := by
 rw [List.drop_eq_nil_of_le hq]; rfl
theorem take_tw (p : UInt8 → Bool) : ∀ l : List UInt8, l.take (l.takeWhile p).length = l.takeWhile p
 | [] => rfl
 | x :: r => by
   rw [List.takeWhile_cons]
   split
   · simp [take_tw p r]
   · simp
theorem bs_extract (l : List UInt8) (a b : Nat) : (bs l).extract a b = bs ((l.drop a).take (b - a)) := by
 apply ByteArray.ext
 simp [bs, ByteArray.data_extract, List.extract_toArray, List.extract_eq_take_drop]
def WhilePost (P : UInt8 → Bool) (w : World) (cb : Nat) (l : List UInt8) (p : Nat) (e : Ending) (w' : World) : Prop :=
 e = .returned (str ((l.drop p).takeWhile P)) ∧ Scn w' cb l (p + ((l.drop p).takeWhile P).length) ∧ Touch (fun b => b = cb) w w'
theorem while_blank (cb : Nat) (l : List UInt8) (p : Nat) (w : World) (h : Scn w cb l p) (hl : l.length ≤ 1000000000) :
  Calls Tryz.prog 43 #[.pointer (some ⟨cb, 0, none⟩), .func (.func 44) #[] #[]] w (WhilePost isB w cb l p) := by
 generalize hR : p + ((l.drop p).takeWhile isB).length = R
 have HR := Lib.hid hR; clear hR
 obtain ⟨c0, c1⟩ := blk2 h.1
 have H := Lib.hid h; clear h
 have hsz := bs_size l
 go_enter Tryz.func43, Tryz.ntmps43
 go_wp2
 go_loopg [] (l.length - p) (fun k wr => ∃ (q : Nat), k = l.length - q ∧ p ≤ q ∧ Scn wr cb l q ∧ Touch (fun b => b = cb) w wr ∧ q + ((l.drop q).takeWhile isB).length = R)
 case atStart => exact ⟨p, rfl, Nat.le_refl _, H.out, Touch.refl _ _, HR.out⟩
 case round =>
  clear c0 c1
  obtain ⟨q, hk, hpq, hS, hT, hD⟩ := hrel
  obtain ⟨c0, c1⟩ := blk2 hS.1
  have hql := hS.2
  have HS := Lib.hid hS; clear hS
  have HT := Lib.hid hT; clear hT
  have HK := Lib.hid hk; clear hk
  by_cases hlt : q < l.length
  · obtain ⟨x, hx⟩ : ∃ x, l[q]? = some x := ⟨_, List.getElem?_eq_getElem hlt⟩
    rw [tw_cons hx] at hD
    have HD := Lib.hid hD; clear hD
    have hxg := bs_get hx
    have HX := Lib.hid hx; clear hx
    go_wp2
    refine region_calm [.p 0, .p 1, .p 2, .l 3, .p 4, .p 5, .p 6, .l 7, .p 8, .p 9, .p 10, .p 11, .p 12, .p 13, .p 14, .l 15, .p 16, .p 17, .p 18, .l 19, .p 20, .h 21 false, .p 22] f_mixed (by kernel_rfl) (by kernel_rfl) ?_
    repeat ((first | refine plan_p rfl (fun K hK => ?_) | refine plan_l rfl (fun K hK => ?_)); go_simp; refine hK _ ?_; clear hK K)
    refine plan_h rfl (fun K hK => ?_)
    go_wp2_with fail
    refine (blank_ok _ _).mono ?_
    rintro e w2 ⟨rfl, rfl⟩
    cases hb : isB x with
    | true =>
      have HD2 : Hid (q + 1 + ((l.drop (q + 1)).takeWhile isB).length = R) := by have := HD.out; rw [if_pos hb, List.length_cons] at this; show q + 1 + _ = R; omega
      clear HD
      have hf1 := blk_frozen HS.out.1 1
      go_wp2
      repeat ((first | refine plan_p rfl (fun K hK => ?_) | refine plan_l rfl (fun K hK => ?_)); go_simp; refine hK _ ?_; clear hK K)
      refine plan_done ?_
      go_wp2
      go_roundg (l.length - (q + 1))
      case measure => have := HK.out; omega
      case rel => exact ⟨q + 1, rfl, by omega, by have h5 := HS.out.set (q := q + 1) (by omega); rw [Int.natCast_add] at h5; exact h5, HT.out.drew.setCell (p := ⟨cb, 1, none⟩) (fun _ => rfl) _, HD2.out⟩
    | false =>
      have HD2 : Hid (q = R) := by have := HD.out; rw [if_neg (by rw [hb]; simp)] at this; exact this
      clear HD
      go_wp2
      repeat ((first | refine plan_p rfl (fun K hK => ?_) | refine plan_l rfl (fun K hK => ?_)); go_simp; refine hK _ ?_; clear hK K)
      refine plan_done ?_
      go_wp2
      refine region_calm [.p 0, .p 1, .p 2, .l 3, .p 4, .p 5, .p 6, .p 7, .l 8, .p 9, .p 10] f_mixed (by kernel_rfl) (by kernel_rfl) ?_
      repeat ((first | refine plan_p rfl (fun K hK => ?_) | refine plan_l rfl (fun K hK => ?_)); go_simp; refine hK _ ?_; clear hK K)
      refine plan_done ?_
      have hR : p + ((l.drop p).takeWhile isB).length = q := by have := HR.out; have := HD2.out; omega
      have hE : (bs l).extract p q = bs ((l.drop p).takeWhile isB) := by
       rw [bs_extract, show q - p = ((l.drop p).takeWhile isB).length by omega, take_tw]
      rw [hE]
      go_wp2
      go_ret
      unfold WhilePost
      rw [hR]
      exact ⟨rfl, HS.out, by repeat (first | exact HT.out | refine Touch.drew ?_)⟩
  · have hq : q = l.length := by omega
    have HD2 : Hid (q = R) := by rw [tw_end (by omega)] at hD; exact hD
    clear hD hq
    go_wp2
    refine region_calm [.p 0, .p 1, .p 2, .l 3, .p 4, .p 5, .p 6, .l 7, .p 8, .p 9, .p 10, .p 11, .p 12, .p 13, .p 14, .l 15, .p 16, .p 17, .p 18, .l 19, .p 20, .h 21 false, .p 22] f_mixed (by kernel_rfl) (by kernel_rfl) ?_
    repeat ((first | refine plan_p rfl (fun K hK => ?_) | refine plan_l rfl (fun K hK => ?_)); go_simp; refine hK _ ?_; clear hK K)
    refine plan_h rfl (fun K hK => ?_)
    go_wp2
    repeat ((first | refine plan_p rfl (fun K hK => ?_) | refine plan_l rfl (fun K hK => ?_)); go_simp; refine hK _ ?_; clear hK K)
    refine plan_done ?_
    go_wp2
    refine region_calm [.p 0, .p 1, .p 2, .l 3, .p 4, .p 5, .p 6, .p 7, .l 8, .p 9, .p 10] f_mixed (by kernel_rfl) (by kernel_rfl) ?_
    repeat ((first | refine plan_p rfl (fun K hK => ?_) | refine plan_l rfl (fun K hK => ?_)); go_simp; refine hK _ ?_; clear hK K)
    refine plan_done ?_
    have hR : p + ((l.drop p).takeWhile isB).length = q := by have := HR.out; have := HD2.out; omega
    have hE : (bs l).extract p q = bs ((l.drop p).takeWhile isB) := by
      rw [bs_extract, show q - p = ((l.drop p).takeWhile isB).length by omega, take_tw]
    rw [hE]
    go_wp2
    go_ret
    unfold WhilePost
    rw [hR]
    exact ⟨rfl, HS.out, by repeat (first | exact HT.out | refine Touch.drew ?_)⟩
theorem while_word (cb : Nat) (l : List UInt8) (p : Nat) (w : World) (h : Scn w cb l p) (hl : l.length ≤ 1000000000) :
  Calls Tryz.prog 43 #[.pointer (some ⟨cb, 0, none⟩), .func (.func 47) #[] #[]] w (WhilePost isW w cb l p) := by
 generalize hR : p + ((l.drop p).takeWhile isW).length = R
 have HR := Lib.hid hR; clear hR
 obtain ⟨c0, c1⟩ := blk2 h.1
 have H := Lib.hid h; clear h
 have hsz := bs_size l
 go_enter Tryz.func43, Tryz.ntmps43
 go_wp2
 go_loopg [] (l.length - p) (fun k wr => ∃ (q : Nat), k = l.length - q ∧ p ≤ q ∧ Scn wr cb l q ∧ Touch (fun b => b = cb) w wr ∧ q + ((l.drop q).takeWhile isW).length = R)
 case atStart => exact ⟨p, rfl, Nat.le_refl _, H.out, Touch.refl _ _, HR.out⟩
 case round =>
  clear c0 c1
  obtain ⟨q, hk, hpq, hS, hT, hD⟩ := hrel
  obtain ⟨c0, c1⟩ := blk2 hS.1
  have hql := hS.2
  have HS := Lib.hid hS; clear hS
  have HT := Lib.hid hT; clear hT
  have HK := Lib.hid hk; clear hk
  by_cases hlt : q < l.length
  · obtain ⟨x, hx⟩ : ∃ x, l[q]? = some x := ⟨_, List.getElem?_eq_getElem hlt⟩
    rw [tw_cons hx] at hD
    have HD := Lib.hid hD; clear hD
    have hxg := bs_get hx
    have HX := Lib.hid hx; clear hx
    go_wp2
    refine region_calm [.p 0, .p 1, .p 2, .l 3, .p 4, .p 5, .p 6, .l 7, .p 8, .p 9, .p 10, .p 11, .p 12, .p 13, .p 14, .l 15, .p 16, .p 17, .p 18, .l 19, .p 20, .h 21 false, .p 22] f_mixed (by kernel_rfl) (by kernel_rfl) ?_
    repeat ((first | refine plan_p rfl (fun K hK => ?_) | refine plan_l rfl (fun K hK => ?_)); go_simp; refine hK _ ?_; clear hK K)
    refine plan_h rfl (fun K hK => ?_)
    go_wp2_with fail
    refine (wordc_ok _ _).mono ?_
    rintro e w2 ⟨rfl, rfl⟩
    cases hb : isW x with
    | true =>
      have HD2 : Hid (q + 1 + ((l.drop (q + 1)).takeWhile isW).length = R) := by have := HD.out; rw [if_pos hb, List.length_cons] at this; show q + 1 + _ = R; omega
      clear HD
      have hf1 := blk_frozen HS.out.1 1
      go_wp2
      repeat ((first | refine plan_p rfl (fun K hK => ?_) | refine plan_l rfl (fun K hK => ?_)); go_simp; refine hK _ ?_; clear hK K)
      refine plan_done ?_
      go_wp2
      go_roundg (l.length - (q + 1))
      case measure => have := HK.out; omega
      case rel => exact ⟨q + 1, rfl, by omega, by have h5 := HS.out.set (q := q + 1) (by omega); rw [Int.natCast_add] at h5; exact h5, HT.out.drew.setCell (p := ⟨cb, 1, none⟩) (fun _ => rfl) _, HD2.out⟩
    | false =>
      have HD2 : Hid (q = R) := by have := HD.out; rw [if_neg (by rw [hb]; simp)] at this; exact this
      clear HD
      go_wp2
      repeat ((first | refine plan_p rfl (fun K hK => ?_) | refine plan_l rfl (fun K hK => ?_)); go_simp; refine hK _ ?_; clear hK K)
      refine plan_done ?_
      go_wp2
      refine region_calm [.p 0, .p 1, .p 2, .l 3, .p 4, .p 5, .p 6, .p 7, .l 8, .p 9, .p 10] f_mixed (by kernel_rfl) (by kernel_rfl) ?_
      repeat ((first | refine plan_p rfl (fun K hK => ?_) | refine plan_l rfl (fun K hK => ?_)); go_simp; refine hK _ ?_; clear hK K)
      refine plan_done ?_
      have hR : p + ((l.drop p).takeWhile isW).length = q := by have := HR.out; have := HD2.out; omega
      have hE : (bs l).extract p q = bs ((l.drop p).takeWhile isW) := by
       rw [bs_extract, show q - p = ((l.drop p).takeWhile isW).length by omega, take_tw]
      rw [hE]
      go_wp2
      go_ret
      unfold WhilePost
      rw [hR]
      exact ⟨rfl, HS.out, by repeat (first | exact HT.out | refine Touch.drew ?_)⟩
  · have hq : q = l.length := by omega
    have HD2 : Hid (q = R) := by rw [tw_end (by omega)] at hD; exact hD
    clear hD hq
    go_wp2
    refine region_calm [.p 0, .p 1, .p 2, .l 3, .p 4, .p 5, .p 6, .l 7, .p 8, .p 9, .p 10, .p 11, .p 12, .p 13, .p 14, .l 15, .p 16, .p 17, .p 18, .l 19, .p 20, .h 21 false, .p 22] f_mixed (by kernel_rfl) (by kernel_rfl) ?_
    repeat ((first | refine plan_p rfl (fun K hK => ?_) | refine plan_l rfl (fun K hK => ?_)); go_simp; refine hK _ ?_; clear hK K)
    refine plan_h rfl (fun K hK => ?_)
    go_wp2
    repeat ((first | refine plan_p rfl (fun K hK => ?_) | refine plan_l rfl (fun K hK => ?_)); go_simp; refine hK _ ?_; clear hK K)
    refine plan_done ?_
    go_wp2
    refine region_calm [.p 0, .p 1, .p 2, .l 3, .p 4, .p 5, .p 6, .p 7, .l 8, .p 9, .p 10] f_mixed (by kernel_rfl) (by kernel_rfl) ?_
    repeat ((first | refine plan_p rfl (fun K hK => ?_) | refine plan_l rfl (fun K hK => ?_)); go_simp; refine hK _ ?_; clear hK K)
    refine plan_done ?_
    have hR : p + ((l.drop p).takeWhile isW).length = q := by have := HR.out; have := HD2.out; omega
    have hE : (bs l).extract p q = bs ((l.drop p).takeWhile isW) := by
      rw [bs_extract, show q - p = ((l.drop p).takeWhile isW).length by omega, take_tw]
    rw [hE]
    go_wp2
    go_ret
    unfold WhilePost
    rw [hR]
    exact ⟨rfl, HS.out, by repeat (first | exact HT.out | refine Touch.drew ?_)⟩
theorem while_digit (cb : Nat) (l : List UInt8) (p : Nat) (w : World) (h : Scn w cb l p) (hl : l.length ≤ 1000000000) :
  Calls Tryz.prog 43 #[.pointer (some ⟨cb, 0, none⟩), .func (.func 48) #[] #[]] w (WhilePost isD w cb l p) := by
 generalize hR : p + ((l.drop p).takeWhile isD).length = R
 have HR := Lib.hid hR; clear hR
 obtain ⟨c0, c1⟩ := blk2 h.1
 have H := Lib.hid h; clear h
 have hsz := bs_size l
 go_enter Tryz.func43, Tryz.ntmps43
 go_wp2
 go_loopg [] (l.length - p) (fun k wr => ∃ (q : Nat), k = l.length - q ∧ p ≤ q ∧ Scn wr cb l q ∧ Touch (fun b => b = cb) w wr ∧ q + ((l.drop q).takeWhile isD).length = R)
 case atStart => exact ⟨p, rfl, Nat.le_refl _, H.out, Touch.refl _ _, HR.out⟩
 case round =>
  clear c0 c1
  obtain ⟨q, hk, hpq, hS, hT, hD⟩ := hrel
  obtain ⟨c0, c1⟩ := blk2 hS.1
  have hql := hS.2
  have HS := Lib.hid hS; clear hS
  have HT := Lib.hid hT; clear hT
  have HK := Lib.hid hk; clear hk
  by_cases hlt : q < l.length
  · obtain ⟨x, hx⟩ : ∃ x, l[q]? = some x := ⟨_, List.getElem?_eq_getElem hlt⟩
    rw [tw_cons hx] at hD
    have HD := Lib.hid hD; clear hD
    have hxg := bs_get hx
    have HX := Lib.hid hx; clear hx
    go_wp2
    refine region_calm [.p 0, .p 1, .p 2, .l 3, .p 4, .p 5, .p 6, .l 7, .p 8, .p 9, .p 10, .p 11, .p 12, .p 13, .p 14, .l 15, .p 16, .p 17, .p 18, .l 19, .p 20, .h 21 false, .p 22] f_mixed (by kernel_rfl) (by kernel_rfl) ?_
    repeat ((first | refine plan_p rfl (fun K hK => ?_) | refine plan_l rfl (fun K hK => ?_)); go_simp; refine hK _ ?_; clear hK K)
    refine plan_h rfl (fun K hK => ?_)
    go_wp2_with fail
    refine (digit_ok _ _).mono ?_
    rintro e w2 ⟨rfl, rfl⟩
    cases hb : isD x with
    | true =>
      have HD2 : Hid (q + 1 + ((l.drop (q + 1)).takeWhile isD).length = R) := by have := HD.out; rw [if_pos hb, List.length_cons] at this; show q + 1 + _ = R; omega
      clear HD
      have hf1 := blk_frozen HS.out.1 1
      go_wp2
      repeat ((first | refine plan_p rfl (fun K hK => ?_) | refine plan_l rfl (fun K hK => ?_)); go_simp; refine hK _ ?_; clear hK K)
      refine plan_done ?_
      go_wp2
      go_roundg (l.length - (q + 1))
      case measure => have := HK.out; omega
      case rel => exact ⟨q + 1, rfl, by omega, by have h5 := HS.out.set (q := q + 1) (by omega); rw [Int.natCast_add] at h5; exact h5, HT.out.drew.setCell (p := ⟨cb, 1, none⟩) (fun _ => rfl) _, HD2.out⟩
    | false =>
      have HD2 : Hid (q = R) := by have := HD.out; rw [if_neg (by rw [hb]; simp)] at this; exact this
      clear HD
      go_wp2
      repeat ((first | refine plan_p rfl (fun K hK => ?_) | refine plan_l rfl (fun K hK => ?_)); go_simp; refine hK _ ?_; clear hK K)
      refine plan_done ?_
      go_wp2
      refine region_calm [.p 0, .p 1, .p 2, .l 3, .p 4, .p 5, .p 6, .p 7, .l 8, .p 9, .p 10] f_mixed (by kernel_rfl) (by kernel_rfl) ?_
      repeat ((first | refine plan_p rfl (fun K hK => ?_) | refine plan_l rfl (fun K hK => ?_)); go_simp; refine hK _ ?_; clear hK K)
      refine plan_done ?_
      have hR : p + ((l.drop p).takeWhile isD).length = q := by have := HR.out; have := HD2.out; omega
      have hE : (bs l).extract p q = bs ((l.drop p).takeWhile isD) := by
       rw [bs_extract, show q - p = ((l.drop p).takeWhile isD).length by omega, take_tw]
      rw [hE]
      go_wp2
      go_ret
      unfold WhilePost
      rw [hR]
      exact ⟨rfl, HS.out, by repeat (first | exact HT.out | refine Touch.drew ?_)⟩
  · have hq : q = l.length := by omega
    have HD2 : Hid (q = R) := by rw [tw_end (by omega)] at hD; exact hD
    clear hD hq
    go_wp2
    refine region_calm [.p 0, .p 1, .p 2, .l 3, .p 4, .p 5, .p 6, .l 7, .p 8, .p 9, .p 10, .p 11, .p 12, .p 13, .p 14, .l 15, .p 16, .p 17, .p 18, .l 19, .p 20, .h 21 false, .p 22] f_mixed (by kernel_rfl) (by kernel_rfl) ?_
    repeat ((first | refine plan_p rfl (fun K hK => ?_) | refine plan_l rfl (fun K hK => ?_)); go_simp; refine hK _ ?_; clear hK K)
    refine plan_h rfl (fun K hK => ?_)
    go_wp2
    repeat ((first | refine plan_p rfl (fun K hK => ?_) | refine plan_l rfl (fun K hK => ?_)); go_simp; refine hK _ ?_; clear hK K)
    refine plan_done ?_
    go_wp2
    refine region_calm [.p 0, .p 1, .p 2, .l 3, .p 4, .p 5, .p 6, .p 7, .l 8, .p 9, .p 10] f_mixed (by kernel_rfl) (by kernel_rfl) ?_
    repeat ((first | refine plan_p rfl (fun K hK => ?_) | refine plan_l rfl (fun K hK => ?_)); go_simp; refine hK _ ?_; clear hK K)
    refine plan_done ?_
    have hR : p + ((l.drop p).takeWhile isD).length = q := by have := HR.out; have := HD2.out; omega
    have hE : (bs l).extract p q = bs ((l.drop p).takeWhile isD) := by
      rw [bs_extract, show q - p = ((l.drop p).takeWhile isD).length by omega, take_tw]
    rw [hE]
    go_wp2
    go_ret
    unfold WhilePost
    rw [hR]
    exact ⟨rfl, HS.out, by repeat (first | exact HT.out | refine Touch.drew ?_)⟩
def NumPost (l : List UInt8) (w : World) (e : Ending) (w' : World) : Prop :=
 Ext w w' ∧ ∃ n : Int, e = .returned (.tuple #[.int .i64 n, .bool (decide (l.length ≤ 18))]) ∧ (l.length ≤ 18 → n = (val l : Int))
def NumInv (W : World) (l : List UInt8) (k : Nat) (v4 v10 : Value) (wr : World) : Prop :=
 ∃ (i : Nat) (n : Int), i + k = l.length ∧ v10 = .int .i64 (i : Int) ∧ (i ≤ 18 → n = (val (l.take i) : Int)) ∧ v4 = .int .i64 n ∧ Ext W wr
theorem val_take (l : List UInt8) (i : Nat) (x : UInt8) (h : l[i]? = some x) : val (l.take (i + 1)) = val (l.take i) * 10 + (x.toNat - 48) := by
 rw [List.take_add_one, h]
 simp [val]
theorem val_small {l : List UInt8} (hd : ∀ x ∈ l, isD x = true) {i : Nat} (hi : i ≤ 17) : val (l.take i) < 100000000000000000 := by
 have h1 := val_lt (l.take i) (fun x hx => hd x (List.mem_of_mem_take hx))
 have h2 : (l.take i).length ≤ 17 := by rw [List.length_take]; omega
 have h3 : 10 ^ (l.take i).length ≤ 10 ^ 17 := Nat.pow_le_pow_right (by omega) h2
 omega
theorem number_ok (l : List UInt8) (w : World) (hd : ∀ x ∈ l, isD x = true) (hl : l.length ≤ 1000000000) :
   Calls Tryz.prog 49 #[str l] w (NumPost l w) := by
 have hcv := fun u : World => run_bytes_of_string (P := Tryz.prog) u 9 54 5 (bs l) Tryz.underlying9 Tryz.underlying54 Tryz.underlying5
 have hsz := bs_size l
 have HD := Lib.hid hd; clear hd
 go_enter Tryz.func49, Tryz.ntmps49
 go_wp2_with fail
 clear hcv
 refine wp_at (fun W => Ext w W ∧ ∀ (j : Nat) (x : UInt8), l[j]? = some x → W.cell? ⟨w.heap.size, j, none⟩ = some (.int .u8 (x.toNat : Int))) ⟨(Ext.refl w).drew.alloc _, ?_⟩ ?_
 · intro j x hx
   refine blk_cell (blk_new w.drew _) ?_
   have hj : j < l.length := (List.getElem?_eq_some_iff.1 hx).1
   unfold bytesRow
   rw [Array.getElem?_append_left (by simp [bs]; exact hj)]
   simp [bs, hx]
 rintro W ⟨hW, hc⟩
 have HC := Lib.hid hc; clear hc
 generalize grownCap w (bs l).size 0 5 = gc
 go_loopg [4, 10] l.length (fun k v4 v10 wr => NumInv W l k v4 v10 wr)
 case atStart => exact ⟨0, 0, by omega, rfl, fun _ => rfl, rfl, Ext.refl _⟩
 case round =>
   obtain ⟨i, n, hik, rfl, hv, rfl, hE⟩ := hrel
   have HIK := Lib.hid hik
   have HV := Lib.hid hv; clear hv
   by_cases hlt : i < l.length
   · obtain ⟨x, hx⟩ : ∃ x, l[i]? = some x := ⟨_, List.getElem?_eq_getElem hlt⟩
     have c0 := Ext.cell hE (HC.out i x hx)
     have hxd := HD.out x (List.mem_of_getElem? hx)
     simp only [isD, decide_eq_true_eq] at hxd
     have HS := Lib.hid (val_take l i x hx)
     obtain ⟨hx1, hx2⟩ := hxd
     have hb1 : 48 ≤ (x.toNat : Int) := by omega
     have hb2 : (x.toNat : Int) ≤ 57 := by omega
     by_cases h17 : i ≤ 17
     · have hv := HV.out (by omega)
       subst hv
       generalize hvv : val (l.take i) = v at HV HS ⊢
       have HVV := Lib.hid hvv
       have hsm := val_small HD.out h17
       rw [hvv] at hsm
       have hn1 : (0 : Int) ≤ (v : Int) := by omega
       have hw1 : IntKind.i64.wrap ((v : Int) * 10) = (v : Int) * 10 := by rw [IntKind.wrap_i64]; omega
       have hw2 : IntKind.i64.wrap ((v : Int) * 10 + ((x.toNat : Int) - 48)) = (v : Int) * 10 + ((x.toNat : Int) - 48) := by rw [IntKind.wrap_i64]; omega
       have HE : Hid (((v * 10 + (x.toNat - 48) : Nat) : Int) = (v : Int) * 10 + ((x.toNat : Int) - 48)) := by show _ = _; omega
       have ht : decide ((1000000000000000000 : Int) ≤ (v : Int) * 10 + ((x.toNat : Int) - 48)) = false := by rw [decide_eq_false_iff_not]; omega
       clear hx hik hx1 hx2 hvv hsm
       go_wp2
       go_roundg (gk - 1)
       case measure => have := HIK.out; omega
       case rel =>
         refine ⟨i + 1, (v : Int) * 10 + ((x.toNat : Int) - 48), by have := HIK.out; omega, by go_num, fun _ => ?_, rfl, hE⟩
         rw [HS.out, HE.out]
     · have HL : Hid (¬ l.length ≤ 18) := by show ¬ _; omega
       have HI : Hid (¬ i + 1 ≤ 18) := by show ¬ _; omega
       clear hx hik hx1 hx2 h17 HV HS
       go_wp2
       · go_ret2
         refine ⟨hW.trans hE, 0, ?_, fun h => absurd h HL.out⟩
         have h2 : decide (l.length ≤ 18) = false := by simpa using HL.out
         rw [h2]; rfl
       · go_roundg (gk - 1)
         case measure => have := HIK.out; omega
         case rel => exact ⟨i + 1, _, by have := HIK.out; omega, by go_num, fun h => absurd h HI.out, rfl, hE⟩
   · have hin : i = l.length := by omega
     subst hin
     rw [List.take_length] at HV
     clear hik hlt
     by_cases h18 : l.length ≤ 18
     · go_wp2
       go_ret2
       refine ⟨hW.trans hE, n, ?_, fun h => HV.out h⟩
       have h2 : decide (l.length ≤ 18) = true := by simpa using h18
       have h3 : decide ((l.length : Int) ≤ 18) = true := by simp; omega
       rw [h2, ← h3]; rfl
     · have h18' : decide ((l.length : Int) ≤ 18) = false := by simp; omega
       go_wp2
       go_ret2
       refine ⟨hW.trans hE, n, ?_, fun h => absurd h h18⟩
       have h2 : decide (l.length ≤ 18) = false := by simpa using h18
       rw [h2]; rfl
theorem BuilderAt.low {T e : TypeId} {B b : Nat} {p : Value} {bs : List Value} {w w' : World} (h : Lib.BuilderAt T e B b p bs w) (hb : ∀ k, B ≤ k → k < w.heap.size → w'.heap[k]? = w.heap[k]?) : Lib.BuilderAt T e B b p bs w' := by
 obtain ⟨h1, v, h2, h3, h4⟩ := h
 refine ⟨h1, v, (hb b h1 (blk_lt h2)).trans h2, ?_, h4⟩
 obtain ⟨h5, h6⟩ := h3
 refine ⟨h5, ?_⟩
 rcases h6 with h6 | ⟨g, cap, cur, k1, k2, k3, k4⟩
 · exact .inl h6
 · exact .inr ⟨g, cap, cur, k1, k2, (hb g k2 (blk_lt k3)).trans k3, k4⟩
theorem IsBuilder.low {T e : TypeId} {B b : Nat} {bs : List Value} {w w' : World} (h : Lib.IsBuilder T e B b bs w) (hb : ∀ k, B ≤ k → k < w.heap.size → w'.heap[k]? = w.heap[k]?) : Lib.IsBuilder T e B b bs w' :=
 h.imp (fun h => BuilderAt.low h hb) (fun h => BuilderAt.low h hb)
theorem IsBuilder.store {T e : TypeId} {B b : Nat} {bs : List Value} {w : World} (h : Lib.IsBuilder T e B b bs w) {p : Addr} (hp : p.block < B) (v : Value) : Lib.IsBuilder T e B b bs (w.setCell p v) :=
 IsBuilder.low h fun k hk _ => Below.heap_setCell _ _ _ _ (by omega)
theorem Touch.ends {S : Nat → Prop} {a b c : World} {B : Nat} (h : Touch S a b) (k : Below B b c) (hB : a.heap.size ≤ B) : Touch S a c :=
 ⟨k.os.trans h.os, k.tape.trans h.tape, k.output.trans h.output, Nat.le_trans h.size k.size, fun i hi hn => (k.block i (Nat.lt_of_lt_of_le hi hB)).trans (h.block i hi hn)⟩
theorem Scn.below {w w' : World} {cb : Nat} {l : List UInt8} {p B : Nat} (h : Scn w cb l p) (k : Below B w w') (hB : cb < B) : Scn w' cb l p := ⟨(k.block cb hB).trans h.1, h.2⟩
theorem drop_at {l : List UInt8} {q : Nat} {x : UInt8} (h : l[q]? = some x) : l.drop q = x :: l.drop (q + 1) := by
 obtain ⟨h1, rfl⟩ := List.getElem?_eq_some_iff.1 h
 exact List.drop_eq_getElem_cons h1
theorem quo_ne {l : List UInt8} {q : Nat} {x : UInt8} (h : l[q]? = some x) (hx : x ≠ 39) : quo (l.drop q) = (quo (l.drop (q + 1))).map (fun r => (x :: r.1, r.2 + 1)) := by
 rw [drop_at h, quo.eq_def]
 simp only [if_neg hx]
theorem quo_end {l : List UInt8} {q : Nat} (h : l[q]? = some 39) (he : ∀ y, l[q + 1]? = some y → y ≠ 39) : quo (l.drop q) = some ([], 1) := by
 rw [drop_at h, quo.eq_def]
 simp only [if_true]
 cases hd : l.drop (q + 1) with
 | nil => rfl
 | cons y r =>
   have hy : l[q + 1]? = some y := by
    have := congrArg (fun m : List UInt8 => m[0]?) hd
    simpa using this
   simp only [if_neg (he y hy)]
theorem quo_two {l : List UInt8} {q : Nat} (h : l[q]? = some 39) (h' : l[q + 1]? = some 39) : quo (l.drop q) = (quo (l.drop (q + 2))).map (fun r => (39 :: r.1, r.2 + 2)) := by
 rw [drop_at h, drop_at h', quo.eq_def]
 simp
theorem quo_past {l : List UInt8} {q : Nat} (h : l.length ≤ q) : quo (l.drop q) = none := by
 rw [List.drop_eq_nil_of_le h]; rfl
def QuoPost (w : World) (cb : Nat) (l : List UInt8) (p : Nat) (e : Ending) (w' : World) : Prop :=
 ∃ q, Scn w' cb l q ∧ Touch (fun b => b = cb) w w' ∧
  match quo (l.drop (p + 1)) with
  | some (t, m) => e = .returned (.tuple #[str t, .bool true]) ∧ q = p + 1 + m
  | none => e = .returned (.tuple #[str [], .bool false])
def QuoSo (l : List UInt8) (p q : Nat) (acc : List UInt8) : Prop := quo (l.drop (p + 1)) = (quo (l.drop q)).map (fun r => (acc ++ r.1, r.2 + (q - (p + 1))))
theorem QuoSo.ne {l : List UInt8} {p q : Nat} {acc : List UInt8} {x : UInt8} (h : QuoSo l p q acc) (hp : p + 1 ≤ q) (hx : l[q]? = some x) (hn : x ≠ 39) : QuoSo l p (q + 1) (acc ++ [x]) := by
 unfold QuoSo at *
 rw [h, quo_ne hx hn]
 cases quo (l.drop (q + 1)) with
 | none => rfl
 | some r => simp; omega
theorem QuoSo.two {l : List UInt8} {p q : Nat} {acc : List UInt8} (h : QuoSo l p q acc) (hp : p + 1 ≤ q) (hx : l[q]? = some 39) (hy : l[q + 1]? = some 39) : QuoSo l p (q + 1 + 1) (acc ++ [39]) := by
 unfold QuoSo at *
 rw [h, quo_two hx hy]
 cases quo (l.drop (q + 2)) with
 | none => rfl
 | some r => simp; omega
def QuoInv (w : World) (cb : Nat) (l : List UInt8) (p k : Nat) (wr : World) : Prop :=
 ∃ (q : Nat) (acc : List UInt8), k = l.length - q ∧ p + 1 ≤ q ∧ acc.length ≤ q ∧ Scn wr cb l q ∧ Lib.IsBuilder 134 5 w.heap.size w.heap.size (Lib.byteCells acc) wr ∧ Touch (fun b => b = cb) w wr ∧ QuoSo l p q acc
theorem byteCells_snoc (l : List UInt8) (x : UInt8) : Lib.byteCells (l ++ [x]) = Lib.byteCells l ++ [.int .u8 (x.toNat : Int)] := by simp [Lib.byteCells]
theorem byteCells_len (l : List UInt8) : (Lib.byteCells l).length = l.length := by simp [Lib.byteCells]
theorem quoted_ok (cb : Nat) (l : List UInt8) (p : Nat) (w : World) (h : Scn w cb l p) (hp : p < l.length) (hl : l.length ≤ 1000000000) :
   Calls Tryz.prog 50 #[.pointer (some ⟨cb, 0, none⟩)] w (QuoPost w cb l p) := by
 obtain ⟨c0, c1⟩ := blk2 h.1
 have hcb := blk_lt h.1
 have hf1 := blk_frozen h.1 1
 have H := Lib.hid h; clear h
 have hsz := bs_size l
 go_enter Tryz.func50, Tryz.ntmps50
 go_wp2
 clear c0 c1 hf1
 refine wp_at (fun W => QuoInv w cb l p (l.length - (p + 1)) W) ?_ ?_
 · have hb : Lib.IsBuilder 134 5 w.heap.size w.heap.size [] ((w.setCell ⟨cb, 1, none⟩ (.int .i64 ((p : Int) + 1))).alloc (.cells #[.pointer none, .slice none 0 0] 134)) := by
     have := Lib.fresh_isBuilder 134 5 (w.setCell ⟨cb, 1, none⟩ (.int .i64 ((p : Int) + 1)))
     simpa [World.setCell] using this
   have hs := H.out.set (q := p + 1) (by omega)
   rw [Int.natCast_add] at hs
   refine ⟨p + 1, [], rfl, Nat.le_refl _, by simp, hs.ext ((Ext.refl _).alloc _), hb, (Touch.setCell (S := fun b => b = cb) (Touch.refl _ w) (p := ⟨cb, 1, none⟩) (fun _ => rfl) _).alloc _, ?_⟩
   unfold QuoSo
   cases quo (l.drop (p + 1)) <;> simp
 intro W hW
 go_loopg [] (l.length - (p + 1)) (fun k wr => QuoInv w cb l p k wr)
 case atStart => exact hW
 case round =>
   obtain ⟨q, acc, hk, hpq, hal, hS, hB, hT, hQ⟩ := hrel
   clear hW
   obtain ⟨c0, c1⟩ := blk2 hS.1
   have hf1 := blk_frozen hS.1 1
   have hql := hS.2
   have hws := hT.size
   have hcw : cb < wr.heap.size := by omega
   have HS := Lib.hid hS; clear hS
   have HB := Lib.hid hB; clear hB
   have HT := Lib.hid hT; clear hT
   have HQ := Lib.hid hQ; clear hQ
   have HK := Lib.hid hk; clear hk
   by_cases hlt : q < l.length
   · obtain ⟨x, hx⟩ : ∃ x, l[q]? = some x := ⟨_, List.getElem?_eq_getElem hlt⟩
     have hxg := bs_get hx
     have HX := Lib.hid hx; clear hx
     by_cases h39 : x = 39
     · subst h39
       have hx39 : (UInt8.toNat 39 : Int) = 39 := rfl
       by_cases hend : q + 1 = l.length
       · have hfz : ((q : Int) + 1 == (l.length : Int)) = true := by rw [beq_iff_eq]; omega
         go_wp2
         refine region_calm [.p 0, .p 1, .p 2, .l 3, .p 4, .p 5, .p 6, .l 7, .p 8, .p 9] f_mixed (by kernel_rfl) (by kernel_rfl) ?_
         repeat ((first | refine plan_p rfl (fun K hK => ?_) | refine plan_l rfl (fun K hK => ?_)); go_simp; refine hK _ ?_; clear hK K)
         refine plan_done ?_
         go_wp2
         refine region_calm [.p 0, .p 1, .p 2, .l 3, .p 4, .p 5, .p 6, .l 7, .p 8, .p 9] f_mixed (by kernel_rfl) (by kernel_rfl) ?_
         repeat ((first | refine plan_p rfl (fun K hK => ?_) | refine plan_l rfl (fun K hK => ?_)); go_simp; refine hK _ ?_; clear hK K)
         refine plan_done ?_
         go_wp2
         refine region_calm [.p 0, .p 1, .p 2, .l 3, .p 4, .p 5, .p 6, .l 7, .p 8, .p 9, .p 10, .p 11, .p 12, .p 13, .l 14, .p 15, .p 16, .p 17, .l 18, .p 19, .p 20, .p 21] f_mixed (by kernel_rfl) (by kernel_rfl) ?_
         repeat ((first | refine plan_p rfl (fun K hK => ?_) | refine plan_l rfl (fun K hK => ?_)); go_simp; refine hK _ ?_; clear hK K)
         refine plan_done ?_
         go_wp2_with fail
         refine (Tryz.Builder_String_any w.heap.size w.heap.size acc ((wr.setCell ⟨cb, 1, none⟩ (.int .i64 ((q : Int) + 1))).drew.drew.drew) (IsBuilder.store HB.out (p := ⟨cb, 1, none⟩) hcb _) (by simpa using hws)).mono ?_
         rintro e w2 ⟨rfl, hB2⟩
         have hS1 : Scn ((wr.setCell ⟨cb, 1, none⟩ (.int .i64 ((q : Int) + 1))).drew.drew.drew) cb l (q + 1) := by
           have := HS.out.set (q := q + 1) (by omega)
           rw [Int.natCast_add] at this
           exact this
         have HS2 := Lib.hid (Scn.below hS1 hB2 hcb)
         have HT2 : Hid (Touch (fun b => b = cb) w w2) := Touch.ends (((HT.out.setCell (p := ⟨cb, 1, none⟩) (fun _ => rfl) _).drew.drew.drew)) hB2 (Nat.le_refl _)
         clear hS1 hB2
         go_wp2
         go_ret2
         refine ⟨q + 1, HS2.out, HT2.out, ?_⟩
         have := HQ.out
         unfold QuoSo at this
         rw [quo_end HX.out (fun y hy => absurd (List.getElem?_eq_some_iff.1 hy).1 (by omega))] at this
         rw [this]
         simp
         exact ⟨rfl, by omega⟩
       · obtain ⟨y, hy⟩ : ∃ y, l[q + 1]? = some y := ⟨_, List.getElem?_eq_getElem (show q + 1 < l.length by omega)⟩
         have hfz : ((q : Int) + 1 == (l.length : Int)) = false := by rw [beq_eq_false_iff_ne]; omega
         have hyg := bs_get hy
         have HY := Lib.hid hy; clear hy
         have hq1 : q + 1 < l.length := by omega
         have hN1 : ((q : Int) + 1).toNat = q + 1 := by omega
         have hN2 : (0 : Int) ≤ (q : Int) + 1 := by omega
         have hN3 : (q : Int) + 1 < (l.length : Int) := by omega
         by_cases hy39 : y = 39
         · subst hy39
           have hS1 : Scn (wr.setCell ⟨cb, 1, none⟩ (.int .i64 ((q : Int) + 1))) cb l (q + 1) := by
             have := HS.out.set (q := q + 1) (by omega)
             rw [Int.natCast_add] at this
             exact this
           have HS1 := Lib.hid hS1; clear hS1
           go_wp2
           refine region_calm [.p 0, .p 1, .p 2, .l 3, .p 4, .p 5, .p 6, .l 7, .p 8, .p 9] f_mixed (by kernel_rfl) (by kernel_rfl) ?_
           repeat ((first | refine plan_p rfl (fun K hK => ?_) | refine plan_l rfl (fun K hK => ?_)); go_simp; refine hK _ ?_; clear hK K)
           refine plan_done ?_
           go_wp2
           refine region_calm [.p 0, .p 1, .p 2, .l 3, .p 4, .p 5, .p 6, .l 7, .p 8, .p 9] f_mixed (by kernel_rfl) (by kernel_rfl) ?_
           repeat ((first | refine plan_p rfl (fun K hK => ?_) | refine plan_l rfl (fun K hK => ?_)); go_simp; refine hK _ ?_; clear hK K)
           refine plan_done ?_
           go_wp2
           refine region_calm [.p 0, .p 1, .p 2, .l 3, .p 4, .p 5, .p 6, .l 7, .p 8, .p 9, .p 10, .p 11, .p 12, .p 13, .l 14, .p 15, .p 16, .p 17, .l 18, .p 19, .p 20, .p 21] f_mixed (by kernel_rfl) (by kernel_rfl) ?_
           repeat ((first | refine plan_p rfl (fun K hK => ?_) | refine plan_l rfl (fun K hK => ?_)); go_simp; refine hK _ ?_; clear hK K)
           refine plan_done ?_
           go_wp2_with fail
           refine (Tryz.Builder_WriteByte w.heap.size w.heap.size (Lib.byteCells acc) _ ((wr.setCell ⟨cb, 1, none⟩ (.int .i64 ((q : Int) + 1))).drew.drew.drew) (IsBuilder.store HB.out (p := ⟨cb, 1, none⟩) hcb _) (by rw [byteCells_len]; omega) (by simpa using hws)).mono ?_
           rintro e w2 ⟨rfl, hb2, hB2⟩
           have hS2 : Scn w2 cb l (q + 1) := Scn.below (HS1.out.ext ((Ext.refl _).drew.drew.drew)) hB2 (by omega)
           obtain ⟨d0, d1⟩ := blk2 hS2.1
           have hf2 := blk_frozen hS2.1 1
           have hcw2 : cb < w2.heap.size := blk_lt hS2.1
           have HS2 := Lib.hid hS2; clear hS2
           have HB2 : Hid (Lib.IsBuilder 134 5 w.heap.size w.heap.size (Lib.byteCells (acc ++ [39])) w2) := by
             show Lib.IsBuilder _ _ _ _ _ _
             rw [byteCells_snoc]; exact .inr hb2
           have HT2 : Hid (Touch (fun b => b = cb) w w2) := Touch.ends ((HT.out.setCell (p := ⟨cb, 1, none⟩) (fun _ => rfl) _).drew.drew.drew) hB2 (Nat.le_refl _)
           clear hb2 hB2
           clear c0 c1 hf1 hN1 hN2 hN3
           go_wp2
           go_roundg (l.length - ((q + 1) + 1))
           case measure => have := HK.out; omega
           case rel =>
             refine ⟨(q + 1) + 1, acc ++ [39], rfl, by omega, by simp; omega, ?_, ?_, ?_, HQ.out.two hpq HX.out HY.out⟩
             · have := HS2.out.set (q := (q + 1) + 1) (by omega)
               rw [Int.natCast_add] at this
               first | exact this | simpa using this
             · exact IsBuilder.store HB2.out (p := ⟨cb, 1, none⟩) hcb _
             · exact HT2.out.setCell (p := ⟨cb, 1, none⟩) (fun _ => rfl) _
         · have hne : ((y.toNat : Int) == 39) = false := by
             rw [beq_eq_false_iff_ne]
             intro h
             exact hy39 (by apply UInt8.toNat_inj.1; simpa using (by exact_mod_cast h : y.toNat = 39))
           have HN := Lib.hid hy39; clear hy39
           go_wp2
           refine region_calm [.p 0, .p 1, .p 2, .l 3, .p 4, .p 5, .p 6, .l 7, .p 8, .p 9] f_mixed (by kernel_rfl) (by kernel_rfl) ?_
           repeat ((first | refine plan_p rfl (fun K hK => ?_) | refine plan_l rfl (fun K hK => ?_)); go_simp; refine hK _ ?_; clear hK K)
           refine plan_done ?_
           go_wp2
           refine region_calm [.p 0, .p 1, .p 2, .l 3, .p 4, .p 5, .p 6, .l 7, .p 8, .p 9] f_mixed (by kernel_rfl) (by kernel_rfl) ?_
           repeat ((first | refine plan_p rfl (fun K hK => ?_) | refine plan_l rfl (fun K hK => ?_)); go_simp; refine hK _ ?_; clear hK K)
           refine plan_done ?_
           go_wp2
           refine region_calm [.p 0, .p 1, .p 2, .l 3, .p 4, .p 5, .p 6, .l 7, .p 8, .p 9, .p 10, .p 11, .p 12, .p 13, .l 14, .p 15, .p 16, .p 17, .l 18, .p 19, .p 20, .p 21] f_mixed (by kernel_rfl) (by kernel_rfl) ?_
           repeat ((first | refine plan_p rfl (fun K hK => ?_) | refine plan_l rfl (fun K hK => ?_)); go_simp; refine hK _ ?_; clear hK K)
           refine plan_done ?_
           go_wp2_with fail
           refine (Tryz.Builder_String_any w.heap.size w.heap.size acc ((wr.setCell ⟨cb, 1, none⟩ (.int .i64 ((q : Int) + 1))).drew.drew.drew) (IsBuilder.store HB.out (p := ⟨cb, 1, none⟩) hcb _) (by simpa using hws)).mono ?_
           rintro e w2 ⟨rfl, hB2⟩
           have hS1 : Scn ((wr.setCell ⟨cb, 1, none⟩ (.int .i64 ((q : Int) + 1))).drew.drew.drew) cb l (q + 1) := by
             have := HS.out.set (q := q + 1) (by omega)
             rw [Int.natCast_add] at this
             exact this
           have HS2 := Lib.hid (Scn.below hS1 hB2 hcb)
           have HT2 : Hid (Touch (fun b => b = cb) w w2) := Touch.ends (((HT.out.setCell (p := ⟨cb, 1, none⟩) (fun _ => rfl) _).drew.drew.drew)) hB2 (Nat.le_refl _)
           clear hS1 hB2
           go_wp2
           go_ret2
           refine ⟨q + 1, HS2.out, HT2.out, ?_⟩
           have := HQ.out
           unfold QuoSo at this
           rw [quo_end HX.out (fun u hu => by rw [HY.out] at hu; cases hu; exact HN.out)] at this
           rw [this]
           simp
           exact ⟨rfl, by omega⟩
     · have hne : ((x.toNat : Int) == 39) = false := by
         rw [beq_eq_false_iff_ne]
         intro h
         exact h39 (by apply UInt8.toNat_inj.1; simpa using (by exact_mod_cast h : x.toNat = 39))
       have HN := Lib.hid h39; clear h39
       go_wp2
       refine region_calm [.p 0, .p 1, .p 2, .l 3, .p 4, .p 5, .p 6, .l 7, .p 8, .p 9] f_mixed (by kernel_rfl) (by kernel_rfl) ?_
       repeat ((first | refine plan_p rfl (fun K hK => ?_) | refine plan_l rfl (fun K hK => ?_)); go_simp; refine hK _ ?_; clear hK K)
       refine plan_done ?_
       go_wp2
       refine region_calm [.p 0, .p 1, .p 2, .l 3, .p 4, .p 5, .p 6, .l 7, .p 8, .p 9] f_mixed (by kernel_rfl) (by kernel_rfl) ?_
       repeat ((first | refine plan_p rfl (fun K hK => ?_) | refine plan_l rfl (fun K hK => ?_)); go_simp; refine hK _ ?_; clear hK K)
       refine plan_done ?_
       go_wp2
       refine region_calm [.p 0, .p 1, .p 2, .l 3, .p 4, .p 5, .p 6, .l 7, .p 8, .h 9 false] f_mixed (by kernel_rfl) (by kernel_rfl) ?_
       repeat ((first | refine plan_p rfl (fun K hK => ?_) | refine plan_l rfl (fun K hK => ?_)); go_simp; refine hK _ ?_; clear hK K)
       refine plan_h rfl (fun K hK => ?_)
       go_wp2_with fail
       refine (Tryz.Builder_WriteByte w.heap.size w.heap.size (Lib.byteCells acc) _ (wr.drew.drew.drew) (HB.out) (by rw [byteCells_len]; omega) (by simpa using hws)).mono ?_
       rintro e w2 ⟨rfl, hb2, hB2⟩
       have hS2 : Scn w2 cb l q := Scn.below (HS.out.ext ((Ext.refl _).drew.drew.drew)) hB2 (by omega)
       obtain ⟨d0, d1⟩ := blk2 hS2.1
       have hf2 := blk_frozen hS2.1 1
       have hcw2 : cb < w2.heap.size := blk_lt hS2.1
       have HS2 := Lib.hid hS2; clear hS2
       have HB2 : Hid (Lib.IsBuilder 134 5 w.heap.size w.heap.size (Lib.byteCells (acc ++ [x])) w2) := by
         show Lib.IsBuilder _ _ _ _ _ _
         rw [byteCells_snoc]; exact .inr hb2
       have HT2 : Hid (Touch (fun b => b = cb) w w2) := Touch.ends (HT.out.drew.drew.drew) hB2 (Nat.le_refl _)
       clear hb2 hB2
       clear c0 c1 hf1
       go_wp2
       repeat ((first | refine plan_p rfl (fun K hK => ?_) | refine plan_l rfl (fun K hK => ?_)); go_simp; refine hK _ ?_; clear hK K)
       refine plan_done ?_
       go_wp2
       go_roundg (l.length - (q + 1))
       case measure => have := HK.out; omega
       case rel =>
         refine ⟨q + 1, acc ++ [x], rfl, by omega, by simp; omega, ?_, ?_, ?_, HQ.out.ne hpq HX.out HN.out⟩
         · have := HS2.out.set (q := q + 1) (by omega)
           rw [Int.natCast_add] at this
           first | exact this | simpa using this
         · exact IsBuilder.store HB2.out (p := ⟨cb, 1, none⟩) hcb _
         · exact HT2.out.setCell (p := ⟨cb, 1, none⟩) (fun _ => rfl) _
   · have hq : q = l.length := by omega
     go_wp2
     refine region_calm [.p 0, .p 1, .p 2, .l 3, .p 4, .p 5, .p 6, .l 7, .p 8, .p 9] f_mixed (by kernel_rfl) (by kernel_rfl) ?_
     repeat ((first | refine plan_p rfl (fun K hK => ?_) | refine plan_l rfl (fun K hK => ?_)); go_simp; refine hK _ ?_; clear hK K)
     refine plan_done ?_
     go_wp2
     go_ret2
     refine ⟨q, HS.out.ext (Ext.refl _).drew, HT.out.drew, ?_⟩
     have := HQ.out
     unfold QuoSo at this
     rw [quo_past (q := q) (by omega)] at this
     rw [this]
     rfl
end Go.Proofs.YtkhnpmeohjafiaaGreatDoor
