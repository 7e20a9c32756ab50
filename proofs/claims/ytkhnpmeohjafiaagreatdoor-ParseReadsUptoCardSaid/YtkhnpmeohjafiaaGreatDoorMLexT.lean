/- Lemmas. -/
import Derived.Test.YtkhnpmeohjafiaaGreatDoorMD
import Derived.Test.YtkhnpmeohjafiaaGreatDoorMA
set_option maxHeartbeats 8000000
set_option maxRecDepth 100000
namespace Go.Proofs.YtkhnpmeohjafiaaGreatDoor
open Go.RowKit
theorem up_nat (x : UInt8) : ((up x).toNat : Int) = if 97 ≤ x.toNat ∧ x.toNat ≤ 122 then (x.toNat : Int) - 32 else (x.toNat : Int) := by
 have := byte_lt' x
 unfold up
 split
 · rw [UInt8.toNat_ofNat']; omega
 · rfl
theorem rupper_ok (x : UInt8) (w : World) : Calls Tryz.prog 97 #[.int .u8 (x.toNat : Int)] w (fun e w' => e = .returned (.int .u8 ((up x).toNat : Int)) ∧ w' = w) := by
 have hu := Lib.hid (up_nat x)
 have hb := byte_lt' x
 by_cases h : 97 ≤ x.toNat ∧ x.toNat ≤ 122
 · obtain ⟨h1, h2⟩ := h
   have hw : IntKind.u8.wrap ((x.toNat : Int) - 32) = (x.toNat : Int) - 32 := by rw [IntKind.wrap_u8]; omega
   go_enter Tryz.func97, Tryz.ntmps97
   go_wp2
   all_goals (go_ret; exact ⟨by rw [hu.out, if_pos ⟨by omega, by omega⟩]; rfl, rfl⟩)
 · go_enter Tryz.func97, Tryz.ntmps97
   have h' : ¬ (97 ≤ x.toNat ∧ x.toNat ≤ 122) := h
   have HN := Lib.hid h'
   clear h h'
   by_cases h1 : 97 ≤ x.toNat
   · have h2 : 122 < x.toNat := by have := HN.out; omega
     go_wp2
     all_goals (go_ret; exact ⟨by rw [hu.out, if_neg HN.out]; rfl, rfl⟩)
   · go_wp2
     all_goals (go_ret; exact ⟨by rw [hu.out, if_neg HN.out]; rfl, rfl⟩)
def Past (P : UInt8 → Bool) (l : List UInt8) (q e : Nat) (acc : List UInt8) : Prop := e = q + acc.length ∧ (l.drop q).takeWhile P = acc ++ (l.drop e).takeWhile P
theorem Past.start (P : UInt8 → Bool) (l : List UInt8) (q : Nat) : Past P l q q [] := ⟨rfl, rfl⟩
theorem Past.next {P : UInt8 → Bool} {l : List UInt8} {q e : Nat} {acc : List UInt8} {y : UInt8} (h : Past P l q e acc) (hy : l[e]? = some y) (hp : P y = true) : Past P l q (e + 1) (acc ++ [y]) := by
 obtain ⟨h1, h2⟩ := h
 refine ⟨by rw [List.length_append, h1]; simp; omega, ?_⟩
 rw [h2, tw_cons hy, if_pos hp]; simp
theorem Past.stop {P : UInt8 → Bool} {l : List UInt8} {q e : Nat} {acc : List UInt8} (h : Past P l q e acc) (hs : ∀ y, l[e]? = some y → P y = false) : (l.drop q).takeWhile P = acc := by
 rw [h.2]
 by_cases he : e < l.length
 · rw [tw_cons (List.getElem?_eq_getElem he), hs _ (List.getElem?_eq_getElem he)]; simp
 · rw [tw_end (by omega)]; simp
def OnePost (l : List UInt8) (q : Nat) (w : World) (e : Ending) (w' : World) : Prop :=
 Ext w w' ∧ match one (l.drop q) with
  | some (k, t, n, m) => e = .returned (.tuple #[.agg #[.int .i64 (k : Int), str t, .int .i64 (n : Int), .int .i64 (q : Int)], .int .i64 ((q + m : Nat) : Int), .bool true])
  | none => ∃ (k : Int) (t : ByteArray) (n p r : Int), e = .returned (.tuple #[.agg #[.int .i64 k, .string t, .int .i64 n, .int .i64 p], .int .i64 r, .bool false])
theorem onePost_of {l : List UInt8} {q k n m : Nat} {t : List UInt8} {w : World} {e : Ending} {w' : World} (h : one (l.drop q) = some (k, t, n, m)) (hE : Ext w w')
  (he : e = .returned (.tuple #[.agg #[.int .i64 (k : Int), str t, .int .i64 (n : Int), .int .i64 (q : Int)], .int .i64 ((q + m : Nat) : Int), .bool true])) : OnePost l q w e w' := by
 unfold OnePost; rw [h]; exact ⟨hE, he⟩
theorem onePost_no {l : List UInt8} {q : Nat} {w : World} {e : Ending} {w' : World} (h : one (l.drop q) = none) (hE : Ext w w')
  (he : ∃ (k : Int) (t : ByteArray) (n p r : Int), e = .returned (.tuple #[.agg #[.int .i64 k, .string t, .int .i64 n, .int .i64 p], .int .i64 r, .bool false])) : OnePost l q w e w' := by
 unfold OnePost; rw [h]; exact ⟨hE, he⟩
theorem conv_one {W : World} {b : Nat} {y : UInt8} (h : W.cell? ⟨b, 0, none⟩ = some (.int .u8 (y.toNat : Int))) : (convert 54 9 (.slice (some ⟨b, 0, none⟩) 1 1)).run Tryz.prog W = .ok (str [y]) W := by
 refine run_convert_bytes_back W _ _ 5 ⟨b, 0, none⟩ 1 [y] Tryz.underlying54 Tryz.underlying5 Tryz.underlying9 (fun j hj => ?_)
 have : j = 0 := by simp at hj; omega
 subst this
 exact h
theorem cat_okR {P : Program} (a b : List UInt8) (u : World) (h : a.length + b.length ≤ 4000000000) : (Op.stringOp .add (bs a) (bs b)).run P u = .ok (str (a ++ b)) u := by
 rw [run_string_add_sum u _ _ (by rw [bs_size, bs_size]; omega)]
 unfold bs
 rw [ByteArray.mk_append_mk]
 rfl
def WordInv (w : World) (l : List UInt8) (q k : Nat) (v8 : Value) (wr : World) : Prop :=
 ∃ (e : Nat) (acc : List UInt8), k = l.length - e ∧ v8 = .int .i64 (e : Int) ∧ e ≤ l.length ∧ Past isW l q e acc ∧ Ext w wr ∧
  wr.heap[w.heap.size]? = some (.cells #[.int .i64 0, str [], .int .i64 0, .int .i64 0] 120 (0, 0)) ∧
  wr.heap[w.heap.size + 1]? = some (.cells #[.int .i64 1, str (acc.map up), .int .i64 0, .int .i64 (q : Int)] 120 (0, 0))
theorem rone_word (l : List UInt8) (q : Nat) (x : UInt8) (w : World) (hx : l[q]? = some x) (hL : isL x = true) (hl : l.length ≤ 1000000000) :
  Calls Tryz.prog 68 #[str l, .int .i64 (q : Int)] w (OnePost l q w) := by
 have HONE := Lib.hid (one_word hx hL)
 have hq : q < l.length := (List.getElem?_eq_some_iff.1 hx).1
 have hxg := bs_get hx
 have hsz := bs_size l
 go_enter Tryz.func68, Tryz.ntmps68
 go_wp2_with fail
 refine (rletter_ok x _).mono ?_
 rintro e w2 ⟨rfl, rfl⟩
 rw [hL]
 go_wp2_with fail
 clear hxg hx
 go_loopg [8] (l.length - q) (fun k v8 wr => WordInv w l q k v8 wr)
 case atStart => exact ⟨q, [], rfl, rfl, by omega, Past.start _ _ _, ((Ext.refl w).alloc _).alloc _, blk_alloc (blk_new w _), blk_new_at _ (by simp)⟩
 case round =>
  obtain ⟨e, acc, hk, rfl, hel, hP, hE, hb0, hb1⟩ := hrel
  have HK := Lib.hid hk; clear hk
  have HP := Lib.hid hP; clear hP
  have HB0 := Lib.hid hb0
  have HB1 := Lib.hid hb1
  have HE := Lib.hid hE
  have c1 : wr.cell? ⟨w.heap.size + 1, 1, none⟩ = some (str (acc.map up)) := blk_cell hb1 rfl
  have f1 := blk_frozen hb1 1
  have hbl := blk_lt hb1
  clear hb0 hb1 hE
  by_cases hlt : e < l.length
  · obtain ⟨y, hy⟩ : ∃ y, l[e]? = some y := ⟨_, List.getElem?_eq_getElem hlt⟩
    have hyg := bs_get hy
    have HY := Lib.hid hy; clear hy
    have hal : acc.length ≤ 1000000000 := by have := HP.out.1; omega
    have hc := fun u : World => cat_okR (P := Tryz.prog) (acc.map up) [up y] u (by simp; omega)
    go_wp2_with fail
    refine (rletter_ok y _).mono ?_
    rintro e2 w3 ⟨rfl, h⟩
    have h := h.symm; subst h
    cases hisL : isL y with
    | true =>
      have HW : Hid (isW y = true) := by show isW y = true; simp [isW, hisL]
      go_wp2
      refine region_calm [.p 0, .l 1, .p 2, .p 3, .p 4, .h 5 true, .h 6 true, .e 7, .p 8, .p 9, .h 10 false] f_mixed (by kernel_rfl) (by kernel_rfl) ?_
      repeat ((first | refine plan_p rfl (fun K hK => ?_) | refine plan_l rfl (fun K hK => ?_)); go_simp; refine hK _ ?_; clear hK K)
      refine plan_ct rfl rfl (fun K _ hK => ?_)
      go_wp2_with (go_at_call 97; refine (rupper_ok _ _).mono ?_; rintro e w' ⟨rfl, rfl⟩)
      refine hK _ _ (Ext.refl _) ?_; clear hK K
      refine plan_ct rfl rfl (fun K _ hK => ?_)
      go_wp2
      refine hK _ _ (((Ext.refl _).alloc _)) ?_; clear hK K
      refine plan_at (fun W => Ext wr W ∧ W.cell? ⟨wr.heap.size, 0, none⟩ = some (.int .u8 ((up y).toNat : Int))) ⟨by repeat (first | exact Ext.refl _ | refine Ext.alloc ?_ _ | refine Ext.drew ?_), blk_cell (blk_new_at _ (by simp)) rfl⟩ ?_
      rintro W ⟨hW, hcW⟩
      refine plan_e1 rfl rfl (str [up y]) (fun w' he => ?_) (fun K hK => ?_)
      · have h := conv_one (Ext.cell he hcW)
        go_simp
      go_simp; refine hK _ ?_; clear hK K
      have c1' := Ext.cell hW c1
      have f1' := blk_frozen (Ext.block hW HB1.out) 1
      have hblW : w.heap.size + 1 < W.heap.size := by have := hW.size; omega
      clear c1 f1
      repeat ((first | refine plan_p rfl (fun K hK => ?_) | refine plan_l rfl (fun K hK => ?_)); go_simp; refine hK _ ?_; clear hK K)
      refine plan_c rfl rfl (fun K _ hK => ?_)
      go_wp2
      refine plan_done ?_
      go_wp2
      go_roundg (l.length - (e + 1))
      case measure => have := HK.out; omega
      case rel =>
        refine ⟨e + 1, acc ++ [y], rfl, by go_num, by omega, HP.out.next HY.out HW.out, Below.setCell (p := ⟨w.heap.size + 1, 1, none⟩) (HE.out.trans hW) (Nat.le_succ _) _, ?_, ?_⟩
        · exact blk_set_ne (Ext.block hW HB0.out) (by simp) _
        · have h5 := blk_set (Ext.block hW HB1.out) 1 (str (acc.map up ++ [up y]))
          simpa using h5
    | false =>
      go_wp2_with fail
      refine (rdigit_ok y _).mono ?_
      rintro e2 w3 ⟨rfl, h⟩
      have h := h.symm; subst h
      cases hisD : isD y with
      | true =>
        have HW : Hid (isW y = true) := by show isW y = true; simp [isW, hisD]
        go_wp2
        refine region_calm [.p 0, .l 1, .p 2, .p 3, .p 4, .h 5 true, .h 6 true, .e 7, .p 8, .p 9, .h 10 false] f_mixed (by kernel_rfl) (by kernel_rfl) ?_
        repeat ((first | refine plan_p rfl (fun K hK => ?_) | refine plan_l rfl (fun K hK => ?_)); go_simp; refine hK _ ?_; clear hK K)
        refine plan_ct rfl rfl (fun K _ hK => ?_)
        go_wp2_with (go_at_call 97; refine (rupper_ok _ _).mono ?_; rintro e w' ⟨rfl, rfl⟩)
        refine hK _ _ (Ext.refl _) ?_; clear hK K
        refine plan_ct rfl rfl (fun K _ hK => ?_)
        go_wp2
        refine hK _ _ (((Ext.refl _).alloc _)) ?_; clear hK K
        refine plan_at (fun W => Ext wr W ∧ W.cell? ⟨wr.heap.size, 0, none⟩ = some (.int .u8 ((up y).toNat : Int))) ⟨by repeat (first | exact Ext.refl _ | refine Ext.alloc ?_ _ | refine Ext.drew ?_), blk_cell (blk_new_at _ (by simp)) rfl⟩ ?_
        rintro W ⟨hW, hcW⟩
        refine plan_e1 rfl rfl (str [up y]) (fun w' he => ?_) (fun K hK => ?_)
        · have h := conv_one (Ext.cell he hcW)
          go_simp
        go_simp; refine hK _ ?_; clear hK K
        have c1' := Ext.cell hW c1
        have f1' := blk_frozen (Ext.block hW HB1.out) 1
        have hblW : w.heap.size + 1 < W.heap.size := by have := hW.size; omega
        clear c1 f1
        repeat ((first | refine plan_p rfl (fun K hK => ?_) | refine plan_l rfl (fun K hK => ?_)); go_simp; refine hK _ ?_; clear hK K)
        refine plan_c rfl rfl (fun K _ hK => ?_)
        go_wp2
        refine plan_done ?_
        go_wp2
        go_roundg (l.length - (e + 1))
        case measure => have := HK.out; omega
        case rel =>
          refine ⟨e + 1, acc ++ [y], rfl, by go_num, by omega, HP.out.next HY.out HW.out, Below.setCell (p := ⟨w.heap.size + 1, 1, none⟩) (HE.out.trans hW) (Nat.le_succ _) _, ?_, ?_⟩
          · exact blk_set_ne (Ext.block hW HB0.out) (by simp) _
          · have h5 := blk_set (Ext.block hW HB1.out) 1 (str (acc.map up ++ [up y]))
            simpa using h5
      | false =>
        have HST : Hid ((l.drop q).takeWhile isW = acc) := HP.out.stop fun z hz => by rw [HY.out] at hz; cases hz; simp [isW, hisL, hisD]
        have b0 : wr.cell? ⟨w.heap.size, 0, none⟩ = some (.int .i64 0) := blk_cell HB0.out rfl
        have b1 : wr.cell? ⟨w.heap.size, 1, none⟩ = some (str []) := blk_cell HB0.out rfl
        have b2 : wr.cell? ⟨w.heap.size, 2, none⟩ = some (.int .i64 0) := blk_cell HB0.out rfl
        have b3 : wr.cell? ⟨w.heap.size, 3, none⟩ = some (.int .i64 0) := blk_cell HB0.out rfl
        have d0 : wr.cell? ⟨w.heap.size + 1, 0, none⟩ = some (.int .i64 1) := blk_cell HB1.out rfl
        have d2 : wr.cell? ⟨w.heap.size + 1, 2, none⟩ = some (.int .i64 0) := blk_cell HB1.out rfl
        have d3 : wr.cell? ⟨w.heap.size + 1, 3, none⟩ = some (.int .i64 (q : Int)) := blk_cell HB1.out rfl
        have f0 := blk_frozen HB0.out 0
        have f1 := blk_frozen HB0.out 1
        have f2 := blk_frozen HB0.out 2
        have f3 := blk_frozen HB0.out 3
        go_wp2
        (try simp only [Exit.inBlock, Exit.then])
        refine bodyPost_ret (v := .tuple #[.agg #[.int .i64 1, str (acc.map up), .int .i64 0, .int .i64 (q : Int)], .int .i64 (e : Int), .bool true]) (by simp [results, Tryz.results68, go_sem, b0, b1, b2, b3]) rfl ?_
        refine onePost_of HONE.out ?_ ?_
        · exact Below.setCell (p := ⟨w.heap.size, 3, none⟩) (Below.setCell (p := ⟨w.heap.size, 2, none⟩) (Below.setCell (p := ⟨w.heap.size, 1, none⟩) (Below.setCell (p := ⟨w.heap.size, 0, none⟩) HE.out (Nat.le_refl _) _) (Nat.le_refl _) _) (Nat.le_refl _) _) (Nat.le_refl _) _
        · rw [HST.out, HP.out.1]; rfl
  · have HST : Hid ((l.drop q).takeWhile isW = acc) := HP.out.stop fun z hz => absurd (List.getElem?_eq_some_iff.1 hz).1 (by omega)
    have b0 : wr.cell? ⟨w.heap.size, 0, none⟩ = some (.int .i64 0) := blk_cell HB0.out rfl
    have b1 : wr.cell? ⟨w.heap.size, 1, none⟩ = some (str []) := blk_cell HB0.out rfl
    have b2 : wr.cell? ⟨w.heap.size, 2, none⟩ = some (.int .i64 0) := blk_cell HB0.out rfl
    have b3 : wr.cell? ⟨w.heap.size, 3, none⟩ = some (.int .i64 0) := blk_cell HB0.out rfl
    have d0 : wr.cell? ⟨w.heap.size + 1, 0, none⟩ = some (.int .i64 1) := blk_cell HB1.out rfl
    have d2 : wr.cell? ⟨w.heap.size + 1, 2, none⟩ = some (.int .i64 0) := blk_cell HB1.out rfl
    have d3 : wr.cell? ⟨w.heap.size + 1, 3, none⟩ = some (.int .i64 (q : Int)) := blk_cell HB1.out rfl
    have f0 := blk_frozen HB0.out 0
    have f1 := blk_frozen HB0.out 1
    have f2 := blk_frozen HB0.out 2
    have f3 := blk_frozen HB0.out 3
    go_wp2
    (try simp only [Exit.inBlock, Exit.then])
    refine bodyPost_ret (v := .tuple #[.agg #[.int .i64 1, str (acc.map up), .int .i64 0, .int .i64 (q : Int)], .int .i64 (e : Int), .bool true]) (by simp [results, Tryz.results68, go_sem, b0, b1, b2, b3]) rfl ?_
    refine onePost_of HONE.out ?_ ?_
    · exact Below.setCell (p := ⟨w.heap.size, 3, none⟩) (Below.setCell (p := ⟨w.heap.size, 2, none⟩) (Below.setCell (p := ⟨w.heap.size, 1, none⟩) (Below.setCell (p := ⟨w.heap.size, 0, none⟩) HE.out (Nat.le_refl _) _) (Nat.le_refl _) _) (Nat.le_refl _) _) (Nat.le_refl _) _
    · rw [HST.out, HP.out.1]; rfl
def NumRv (w : World) (l : List UInt8) (q k : Nat) (v8 v10 : Value) (wr : World) : Prop :=
 ∃ (e : Nat) (acc : List UInt8), k = l.length - e ∧ v8 = .int .i64 (e : Int) ∧ v10 = .int .i64 (val acc : Int) ∧ e ≤ l.length ∧ acc.length ≤ 18 ∧ (∀ x ∈ acc, isD x = true) ∧ Past isD l q e acc ∧
  wr = w.alloc (.cells #[.int .i64 0, str [], .int .i64 0, .int .i64 0] 120)
theorem rone_num (l : List UInt8) (q : Nat) (x : UInt8) (w : World) (hx : l[q]? = some x) (hL : isL x = false) (hD : isD x = true) (hl : l.length ≤ 1000000000) :
    Calls Tryz.prog 68 #[str l, .int .i64 (q : Int)] w (OnePost l q w) := by
  have HO := Lib.hid (one_num hx hD)
  have hq : q < l.length := (List.getElem?_eq_some_iff.1 hx).1
  have hxg := bs_get hx
  have hsz := bs_size l
  go_enter Tryz.func68, Tryz.ntmps68
  go_wp2_with fail
  refine (rletter_ok x _).mono ?_
  rintro e w2 ⟨rfl, rfl⟩
  rw [hL]
  go_wp2_with fail
  refine (rdigit_ok x _).mono ?_
  rintro e w2 ⟨rfl, rfl⟩
  rw [hD]
  go_wp2_with fail
  clear hxg hx
  go_loopg [8, 10] (l.length - q) (fun k v8 v10 wr => NumRv w l q k v8 v10 wr)
  case atStart => exact ⟨q, [], rfl, rfl, rfl, by omega, by simp, by simp, Past.start _ _ _, rfl⟩
  case round =>
    obtain ⟨e, acc, hk, rfl, rfl, hel, ha18, hda, hP, hwr⟩ := hrel
    subst hwr
    have HK := Lib.hid hk; clear hk
    have HP := Lib.hid hP; clear hP
    have HDA := Lib.hid hda; clear hda
    obtain ⟨a, hae⟩ : ∃ a, a = acc.length := ⟨_, rfl⟩
    have hea : e = q + a := by rw [hae]; exact HP.out.1
    rw [← hae] at ha18
    have HAE := Lib.hid hae; clear hae
    have hsub : (e : Int) - (q : Int) = (a : Int) := by omega
    have HEA := Lib.hid hea; clear hea
    by_cases hlt : e < l.length
    · obtain ⟨y, hy⟩ : ∃ y, l[e]? = some y := ⟨_, List.getElem?_eq_getElem hlt⟩
      have hyg := bs_get hy
      have HY := Lib.hid hy; clear hy
      have hez : ((e : Int) == (l.length : Int)) = false := by rw [beq_eq_false_iff_ne]; omega
      go_wp2_with fail
      refine (rdigit_ok y _).mono ?_
      rintro e2 w3 ⟨rfl, h⟩
      subst h
      cases hisD : isD y with
      | true =>
        by_cases h17 : a < 18
        · have hd := hisD
          simp only [isD, decide_eq_true_eq] at hd
          obtain ⟨hx1, hx2⟩ := hd
          have hb1 : 48 ≤ (y.toNat : Int) := by omega
          have hb2 : (y.toNat : Int) ≤ 57 := by omega
          have hsm : val acc < 100000000000000000 := by
            have h1 := val_lt acc HDA.out
            have h2 : acc.length ≤ 17 := by have := HAE.out; omega
            have h3 : 10 ^ acc.length ≤ 10 ^ 17 := Nat.pow_le_pow_right (by omega) h2
            omega
          have HS := Lib.hid (val_snoc acc y)
          generalize hvv : val acc = v at HS hsm ⊢
          have HVV := Lib.hid hvv
          have hw1 : IntKind.i64.wrap ((v : Int) * 10) = (v : Int) * 10 := by rw [IntKind.wrap_i64]; omega
          have hw2 : IntKind.i64.wrap ((v : Int) * 10 + ((y.toNat : Int) - 48)) = (v : Int) * 10 + ((y.toNat : Int) - 48) := by rw [IntKind.wrap_i64]; omega
          have HE : Hid (((v * 10 + (y.toNat - 48) : Nat) : Int) = (v : Int) * 10 + ((y.toNat : Int) - 48)) := by show _ = _; omega
          clear hx1 hx2 hvv hsm
          go_wp2
          go_roundg (l.length - (e + 1))
          case measure => have := HK.out; omega
          case rel =>
            refine ⟨e + 1, acc ++ [y], rfl, by go_num, ?_, by omega, by rw [List.length_append, ← HAE.out]; simp; omega, ?_, HP.out.next HY.out hisD, rfl⟩
            · rw [HS.out, HE.out]
            · intro z hz
              rcases List.mem_append.1 hz with h | h
              · exact HDA.out z h
              · rw [List.mem_singleton.1 h]; exact hisD
        · have HONE : Hid (one (l.drop q) = none) := by
            show _ = _
            rw [HO.out, if_neg]
            rintro ⟨h1, -⟩
            rw [HP.out.2, tw_cons HY.out, if_pos hisD, List.length_append, ← HAE.out] at h1
            simp at h1
            omega
          go_wp2_with fail
          refine (rdigit_ok y _).mono ?_
          rintro e2 w3 ⟨rfl, h⟩
          subst h
          rw [hisD]
          go_wp2
          (try simp only [Exit.inBlock, Exit.then])
          refine bodyPost_ret (v := .tuple #[.agg #[.int .i64 2, str [], .int .i64 (val acc : Int), .int .i64 (q : Int)], .int .i64 (e : Int), .bool false]) (by simp [results, Tryz.results68, go_sem, hez]; try rfl) rfl ?_
          exact onePost_no HONE.out ((Ext.refl w).alloc _) ⟨_, _, _, _, _, rfl⟩
      | false =>
        have HTW : Hid ((l.drop q).takeWhile isD = acc) := HP.out.stop fun z hz => by rw [HY.out] at hz; cases hz; exact hisD
        go_wp2_with fail
        refine (rdigit_ok y _).mono ?_
        rintro e2 w3 ⟨rfl, h⟩
        subst h
        rw [hisD]
        go_wp2_with fail
        refine (rletter_ok y _).mono ?_
        rintro e2 w3 ⟨rfl, h⟩
        subst h
        cases hisL : isL y with
        | true =>
          have HONE : Hid (one (l.drop q) = none) := by
            show _ = _
            rw [HO.out, HTW.out, if_neg]
            rintro ⟨-, h1⟩
            rw [← HP.out.1, headL_at HY.out, hisL] at h1
            cases h1
          go_wp2
          (try simp only [Exit.inBlock, Exit.then])
          refine bodyPost_ret (v := .tuple #[.agg #[.int .i64 2, str [], .int .i64 (val acc : Int), .int .i64 (q : Int)], .int .i64 (e : Int), .bool false]) (by simp [results, Tryz.results68, go_sem, hez]; try rfl) rfl ?_
          exact onePost_no HONE.out ((Ext.refl w).alloc _) ⟨_, _, _, _, _, rfl⟩
        | false =>
          have HONE : Hid (one (l.drop q) = some (2, [], val acc, acc.length)) := by
            show _ = _
            rw [HO.out, HTW.out, if_pos ⟨by rw [← HAE.out]; exact ha18, by rw [← HP.out.1, headL_at HY.out, hisL]⟩]
          go_wp2
          (try simp only [Exit.inBlock, Exit.then])
          refine bodyPost_ret (v := .tuple #[.agg #[.int .i64 2, str [], .int .i64 (val acc : Int), .int .i64 (q : Int)], .int .i64 (e : Int), .bool true]) (by simp [results, Tryz.results68, go_sem, hez]; try rfl) rfl ?_
          refine onePost_of HONE.out ((Ext.refl w).alloc _) ?_
          rw [HP.out.1]; rfl
    · have HTW : Hid ((l.drop q).takeWhile isD = acc) := HP.out.stop fun z hz => absurd (List.getElem?_eq_some_iff.1 hz).1 (by omega)
      have HONE : Hid (one (l.drop q) = some (2, [], val acc, acc.length)) := by
        show _ = _
        rw [HO.out, HTW.out, if_pos ⟨by rw [← HAE.out]; exact ha18, by rw [← HP.out.1, headL_end (by omega)]⟩]
      have hee : e = l.length := by omega
      have hez : ((e : Int) == (l.length : Int)) = true := by rw [beq_iff_eq]; omega
      clear hee
      go_wp2
      (try simp only [Exit.inBlock, Exit.then])
      refine bodyPost_ret (v := .tuple #[.agg #[.int .i64 2, str [], .int .i64 (val acc : Int), .int .i64 (q : Int)], .int .i64 (e : Int), .bool true]) (by simp [results, Tryz.results68, go_sem, hez]; try rfl) rfl ?_
      refine onePost_of HONE.out ((Ext.refl w).alloc _) ?_
      rw [HP.out.1]; rfl
end Go.Proofs.YtkhnpmeohjafiaaGreatDoor
