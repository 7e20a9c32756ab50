/- Lemmas. -/
import Derived.Test.YtkhnpmeohjafiaaGreatDoorMI
set_option maxHeartbeats 16000000
set_option maxRecDepth 100000
namespace Go.Proofs.YtkhnpmeohjafiaaGreatDoor
open Go.RowKit
def dp (E d : Nat) (f : List Tok → Res Ex) (ts : List Tok) : Res Ex := if d < 32 then f ts else bad E 151 ts
theorem one_cells {w : World} {nb : Nat} {A : Nat → Prop} {c1 : List Value} {x : Ex} {op : Str} (h : w.heap[nb]? = some (.cells c1.toArray 45 (0, 0))) (hx : ExC w A c1 x) (hA : A nb) :
  ExC w A (exCells op 0 [] [] (slv (some nb) 1 1)) (eOne op x) := by
 have hl := hx.len
 refine ⟨some nb, 1, c1, rfl, ⟨by simp [hl], _, h, Nat.le_refl _, by simp [maxLen], by simp [hl], ?_⟩, fun b hb => by cases hb; exact hA, ExsC.one hx⟩
 rw [List.take_of_length_le]
 show c1.length ≤ _
 simp [hl]
theorem fin_ex' {w w2 w' : World} {c : Cx} {i d j : Nat} {x : Ex} {cs : List Value} {r : Res Ex} (h0 : Src w c i d) (hT : Touch (onlyB c) w w2) (hS : Src w2 c j d) (hx : ExC w' (fun b => w.heap.size < b) cs x)
  (hl : Touch (fun b => b = w.heap.size) w2 w') (hr : r = .ok (x, c.ts j)) : RdPost VEx w c d r (.returned (.agg cs.toArray)) w' := by
 have h1 := blk_lt h0.blk
 refine RdPost.ok hr (hT.trans' hl (fun b hb e => by omega)) ⟨cs, rfl, hx.weak (fun b _ hb => by omega)⟩ (hS.touch hl (by omega) (fun b hb e => ?_))
 have := h0.toks
 rw [hb] at this
 have := this.block_lt
 omega
theorem factor_ok (c : Cx) (d : Nat) (hd : d ≤ 32) (fs es : List Tok → Res Ex) (hfs : d + 1 ≤ 32 → Rdr 153 c (d + 1) fs) (hes : d + 1 ≤ 32 → Rdr 59 c (d + 1) es) :
   Rdr 153 c d (factorOf c.E (dp c.E d fs) (dp c.E d es)) := by
 intro w i h
 have H := Lib.hid h
 have HFS := Lib.hid hfs
 have HES := Lib.hid hes
 have lb := blk_lt h.blk
 have HB0 : Hid ((w.alloc zEx).heap[w.heap.size]? = some zEx) := blk_new w _
 have hne : w.heap.size ≠ c.sb := by omega
 clear h hfs hes
 go_enter Tryz.func153, Tryz.ntmps153
 go_wp2_with fail
 refine (is_ok c i d _ (H.out.ext ((Ext.refl w).alloc zEx)) 2 none [] rfl (by simp)).mono ?_
 rintro e w2 ⟨rfl, hE2⟩
 rw [isR_nil]
 have HE2 := Lib.hid (((Ext.refl w).alloc zEx).trans hE2)
 have HB2 := Lib.hid (Ext.block hE2 HB0.out)
 have HS2 := Lib.hid (H.out.ext HE2.out)
 clear hE2
 cases hk2 : isK 2 (c.ts i) with
 | true =>
   have HRR : Hid (factorOf c.E (dp c.E d fs) (dp c.E d es) (c.ts i) = .ok (eNum (nmb (c.ts i)), c.ts (i + 1))) := by show _ = _; rw [factorOf, if_pos hk2, Src.tail]
   have HNU : Hid (number c.E (c.ts i) = .ok (nmb (c.ts i), c.ts (i + 1))) := by show _ = _; rw [number, if_pos hk2, Src.tail]
   clear hk2
   go_wp2_with fail
   refine (number_ok' c i d _ HS2.out).mono ?_
   rintro e w3 ⟨hT, hp⟩
   rw [HNU.out] at hp
   obtain ⟨v, j, rfl, rfl, hj, hS⟩ := hp
   have HJ := Lib.hid hj
   have HS := Lib.hid hS
   have HT := Lib.hid ((HE2.out.touch _).trans hT)
   have HB := Lib.hid (hT.old HB2.out (fun e => hne e))
   clear hT hS hj
   obtain ⟨e0, e1, e2, e3, e4⟩ := blk5 HB.out
   have f0 := blk_frozen HB.out 0
   have f1 := blk_frozen HB.out 1
   have f2 := blk_frozen HB.out 2
   have f3 := blk_frozen HB.out 3
   have f4 := blk_frozen HB.out 4
   have lbr := blk_lt HB.out
   go_wp2
   refine bodyPost_ret (v := .agg (exCells [110, 117, 109, 98, 101, 114] (nmb (c.ts i)) [] [] (slv none 0 0)).toArray) (results_ex rfl rfl (set5 HB.out _ _ _ _ _)) rfl ?_
   exact fin_ex (w2 := w3) H.out HT.out HS.out (leaf_cells _ _ _ _ _ _) (late5 (Touch.refl _ _) _ _ _ _ _) (by rw [HRR.out, HJ.out]; rfl)
 | false =>
   go_wp2_with fail
   refine (is_ok c i d _ HS2.out 3 none [] rfl (by simp)).mono ?_
   rintro e w3 ⟨rfl, hE3⟩
   rw [isR_nil]
   have HE3 := Lib.hid (HE2.out.trans hE3)
   have HB3 := Lib.hid (Ext.block hE3 HB2.out)
   have HS3 := Lib.hid (H.out.ext HE3.out)
   clear hE3
   cases hk3 : isK 3 (c.ts i) with
   | true =>
     have hi := nxt_lt hk3
     obtain ⟨b, t, hg, ht, hb, hbn, hts, c0, c1, c2, c3⟩ := HS3.out.at hi
     have z := tidx_ok hg hi
     have HRR : Hid (factorOf c.E (dp c.E d fs) (dp c.E d es) (c.ts i) = .ok (eText t.2.1, c.ts (i + 1))) := by
       show _ = _
       rw [factorOf, if_neg (by simp [hk2]), if_pos hk3, Src.tail, hts]; rfl
     obtain ⟨q0, q1, q2, q3⟩ := blk4 HS3.out.blk
     have lb3 := blk_lt HS3.out.blk
     have fz := blk_frozen HS3.out.blk 1
     have hsm := HS3.out.small
     have hS4 := HS3.out.move (j := i + 1) (by omega)
     rw [Int.natCast_add] at hS4
     have HS4 := Lib.hid hS4
     clear hS4
     have hw1 : IntKind.i64.wrap ((i : Int) + 1) = (i : Int) + 1 := by rw [IntKind.wrap_i64]; omega
     have hw2 : IntKind.i64.wrap (i : Int) = (i : Int) := by rw [IntKind.wrap_i64]; omega
     clear hk2 hk3 hg ht hts c0 c2 c3
     obtain ⟨e0, e1, e2, e3, e4⟩ := blk5 HB3.out
     have f0 := blk_frozen HB3.out 0
     have f1 := blk_frozen HB3.out 1
     have f2 := blk_frozen HB3.out 2
     have f3 := blk_frozen HB3.out 3
     have f4 := blk_frozen HB3.out 4
     have lbr := blk_lt HB3.out
     go_wp2
     refine region_calm [.p 0, .p 1, .p 2, .l 3, .p 4, .p 5, .p 6, .l 7, .p 8, .p 9, .p 10, .l 11, .p 12, .h 13 false] f_mixed (by kernel_rfl) (by kernel_rfl) ?_
     repeat ((first | refine plan_p rfl (fun K hK => ?_) | refine plan_l rfl (fun K hK => ?_)); go_simp; refine hK _ ?_; clear hK K)
     refine plan_c rfl rfl (fun K _ hK => ?_)
     go_wp2_with fail
     refine plan_done ?_
     go_wp2
     refine bodyPost_ret (v := .agg (exCells [116, 101, 120, 116] 0 t.2.1 [] (slv none 0 0)).toArray) (results_ex rfl rfl (Ext.block (Ext.refl _).drew (set5 (blk_set_ne HB3.out (by simp; omega) _) _ _ _ _ _))) rfl ?_
     exact fin_ex (w2 := w3.setCell ⟨c.sb, 1, none⟩ (.int .i64 ((i : Int) + 1))) H.out ((HE3.out.touch (onlyB c)).setCell (p := ⟨c.sb, 1, none⟩) (fun _ => rfl) _) HS4.out (leaf_cells _ _ _ _ _ _) (late5 (Touch.refl _ _) _ _ _ _ _).drew HRR.out
   | false =>
     have HTP : Hid (Touch (onlyB c) w w3) := Lib.hid (HE3.out.touch _)
     go_wp2_with fail
     refine (may_ok c i d _ (HS3.out.ext ((Ext.refl w3).alloc _)) (some w3.heap.size) [[45]] (txts_new w3 [[45]]) (by simp)).mono ?_
     rintro e w4 ⟨rfl, hS4, hT4⟩
     rw [mayN_one] at hS4 ⊢
     have hT4' : Touch (onlyB c) w3 w4 := (((Ext.refl w3).alloc _).touch _).trans hT4
     have HT4 := Lib.hid (HTP.out.trans hT4')
     have HB4 := Lib.hid (hT4'.old HB3.out (fun e => hne e))
     clear hT4 hT4'
     cases hm : isT [45] (c.ts i) with
     | true =>
       rw [hm, if_pos rfl] at hS4
       have HS4 := Lib.hid hS4
       have HRR : Hid (factorOf c.E (dp c.E d fs) (dp c.E d es) (c.ts i) = fin (eOne [45]) (dp c.E d fs (c.ts (i + 1)))) := by
         show _ = _
         rw [factorOf, if_neg (by simp [hk2]), if_neg (by simp [hk3]), if_pos hm, Src.tail]
       clear hS4 hm hk2 hk3
       go_wp2_with fail
       refine (deeper_ok c (i + 1) d _ HS4.out hd _ ent_factor fs (fun h w => HFS.out h w (i + 1))).mono ?_
       rintro e w5 ⟨hT, hp⟩
       have HT := Lib.hid (HT4.out.trans hT)
       have HB := Lib.hid (hT.old HB4.out (fun e => hne e))
       cases hr : (if d < 32 then fs (c.ts (i + 1)) else bad c.E 151 (c.ts (i + 1))) with
       | error kp =>
         obtain ⟨k, p⟩ := kp
         rw [hr] at hp
         obtain rfl := hp
         exact bodyPost_panic rfl (RdPost.bad (by rw [HRR.out, dp, hr]; rfl) HT.out)
       | ok xt =>
         obtain ⟨x, ts⟩ := xt
         rw [hr] at hp
         obtain ⟨v, j, rfl, ⟨cs, rfl, hx⟩, rfl, hS⟩ := hp
         have HS := Lib.hid hS
         have HR : Hid (factorOf c.E (dp c.E d fs) (dp c.E d es) (c.ts i) = .ok (eOne [45] x, c.ts j)) := by show _ = _; rw [HRR.out, dp, hr]; rfl
         have hX := ExC.weak (A' := fun b => w.heap.size < b) hx (fun b _ hb => by have := HB4.out; have := blk_lt this; omega)
         obtain ⟨op, n, t, o, args⟩ := x
         obtain ⟨g, cap, fl, rfl, hX2⟩ := hX
         have HX : Hid (ExC w5 (fun b => w.heap.size < b) (exCells op n t o (slv g args.length cap)) (.mk op n t o args)) := Lib.hid ⟨g, cap, fl, rfl, hX2⟩
         have hcl : (exCells op n t o (slv g args.length cap)).toArray = #[str op, .int .i64 (n : Int), str t, str o, slv g args.length cap] := rfl
         rw [hcl]
         clear hT hx hS hX2 hr
         obtain ⟨e0, e1, e2, e3, e4⟩ := blk5 HB.out
         have f0 := blk_frozen HB.out 0
         have f1 := blk_frozen HB.out 1
         have f2 := blk_frozen HB.out 2
         have f3 := blk_frozen HB.out 3
         have f4 := blk_frozen HB.out 4
         have lbr := blk_lt HB.out
         go_wp2
         refine bodyPost_ret (v := .agg (exCells [45] 0 [] [] (slv (some w5.heap.size) 1 1)).toArray) (results_ex rfl rfl (blk_alloc (set5 HB.out _ _ _ _ _))) rfl ?_
         have hl : Touch (fun b => b = w.heap.size) w5 ((((((w5.setCell ⟨w.heap.size, 0, none⟩ (str [45])).setCell ⟨w.heap.size, 1, none⟩ (.int .i64 0)).setCell ⟨w.heap.size, 2, none⟩ (str [])).setCell ⟨w.heap.size, 3, none⟩ (str [])).setCell ⟨w.heap.size, 4, none⟩ (slv (some w5.heap.size) 1 1)).alloc (.cells #[str op, .int .i64 (n : Int), str t, str o, slv g args.length cap] 45)) := (late5 (Touch.refl _ _) _ _ _ _ _).alloc _
         exact fin_ex' H.out HT.out HS.out (one_cells (c1 := exCells op n t o (slv g args.length cap)) (blk_new_at _ (by simp only [size_set])) (HX.out.touch hl (fun b _ hb e => by omega)) (by omega)) hl HR.out
     | false =>
       rw [hm, if_neg (by simp)] at hS4
       have HS4 := Lib.hid hS4
       clear hS4
       go_wp2_with fail
       refine (may_ok c i d _ (HS4.out.ext ((Ext.refl w4).alloc _)) (some w4.heap.size) [[40]] (txts_new w4 [[40]]) (by simp)).mono ?_
       rintro e w5 ⟨rfl, hS5, hT5⟩
       rw [mayN_one] at hS5 ⊢
       have hT5' : Touch (onlyB c) w4 w5 := (((Ext.refl w4).alloc _).touch _).trans hT5
       have HT5 := Lib.hid (HT4.out.trans hT5')
       have HB5 := Lib.hid (hT5'.old HB4.out (fun e => hne e))
       clear hT5 hT5'
       cases ho : isT [40] (c.ts i) with
       | false =>
         rw [ho, if_neg (by simp)] at hS5
         have HS5 := Lib.hid hS5
         have HRR : Hid (factorOf c.E (dp c.E d fs) (dp c.E d es) (c.ts i) = item c.E (c.ts i)) := by
           show _ = _
           rw [factorOf, if_neg (by simp [hk2]), if_neg (by simp [hk3]), if_neg (by simp [hm]), if_neg (by simp [ho])]
         clear hS5 ho hm hk2 hk3
         go_wp2_with fail
         refine (item_ok c i d _ HS5.out).mono ?_
         rintro e w6 ⟨hT, hp⟩
         have HT := Lib.hid (HT5.out.trans hT)
         have HB := Lib.hid (hT.old HB5.out (fun e => hne e))
         cases hr : item c.E (c.ts i) with
         | error kp =>
           obtain ⟨k, p⟩ := kp
           rw [hr] at hp
           obtain rfl := hp
           exact bodyPost_panic rfl (RdPost.bad (by rw [HRR.out, hr]) HT.out)
         | ok xt =>
           obtain ⟨x, ts⟩ := xt
           rw [hr] at hp
           obtain ⟨v, j, rfl, ⟨cs, rfl, hx⟩, rfl, hS⟩ := hp
           have HS := Lib.hid hS
           have HR : Hid (factorOf c.E (dp c.E d fs) (dp c.E d es) (c.ts i) = .ok (x, c.ts j)) := by show _ = _; rw [HRR.out, hr]
           have hX := ExC.weak (A' := fun b => w.heap.size < b) hx (fun b _ hb => by have := HB5.out; have := blk_lt this; omega)
           obtain ⟨op, n, t, o, args⟩ := x
           obtain ⟨g, cap, fl, rfl, hX2⟩ := hX
           have HX : Hid (ExC w6 (fun b => w.heap.size < b) (exCells op n t o (slv g args.length cap)) (.mk op n t o args)) := Lib.hid ⟨g, cap, fl, rfl, hX2⟩
           have hcl : (exCells op n t o (slv g args.length cap)).toArray = #[str op, .int .i64 (n : Int), str t, str o, slv g args.length cap] := rfl
           rw [hcl]
           clear hT hx hS hX2 hr
           obtain ⟨e0, e1, e2, e3, e4⟩ := blk5 HB.out
           have f0 := blk_frozen HB.out 0
           have f1 := blk_frozen HB.out 1
           have f2 := blk_frozen HB.out 2
           have f3 := blk_frozen HB.out 3
           have f4 := blk_frozen HB.out 4
           have lbr := blk_lt HB.out
           go_wp2
           refine bodyPost_ret (v := .agg (exCells op n t o (slv g args.length cap)).toArray) (results_ex rfl rfl (set5 HB.out _ _ _ _ _)) rfl ?_
           exact fin_ex (w2 := w6) H.out HT.out HS.out HX.out (late5 (Touch.refl _ _) _ _ _ _ _) HR.out
       | true =>
         rw [ho, if_pos rfl] at hS5
         have HS5 := Lib.hid hS5
         have HRR : Hid (factorOf c.E (dp c.E d fs) (dp c.E d es) (c.ts i) = bnd (dp c.E d es (c.ts (i + 1))) fun e r => bnd (must c.E [41] r) fun _ r' => .ok (e, r')) := by
           show _ = _
           rw [factorOf, if_neg (by simp [hk2]), if_neg (by simp [hk3]), if_neg (by simp [hm]), if_pos ho, Src.tail]
         clear hS5 ho hm hk2 hk3
         go_wp2_with fail
         refine (deeper_ok c (i + 1) d _ HS5.out hd _ ent_expr es (fun h w => HES.out h w (i + 1))).mono ?_
         rintro e w6 ⟨hT, hp⟩
         have HT := Lib.hid (HT5.out.trans hT)
         have HB := Lib.hid (hT.old HB5.out (fun e => hne e))
         cases hr : (if d < 32 then es (c.ts (i + 1)) else bad c.E 151 (c.ts (i + 1))) with
         | error kp =>
           obtain ⟨k, p⟩ := kp
           rw [hr] at hp
           obtain rfl := hp
           exact bodyPost_panic rfl (RdPost.bad (by rw [HRR.out, dp, hr]; rfl) HT.out)
         | ok xt =>
           obtain ⟨x, ts⟩ := xt
           rw [hr] at hp
           obtain ⟨v, j, rfl, ⟨cs, rfl, hx⟩, rfl, hS⟩ := hp
           have HS := Lib.hid hS
           have HR : Hid (factorOf c.E (dp c.E d fs) (dp c.E d es) (c.ts i) = bnd (must c.E [41] (c.ts j)) fun _ r' => .ok (x, r')) := by show _ = _; rw [HRR.out, dp, hr]; rfl
           have hX := ExC.weak (A' := fun b => w.heap.size < b) hx (fun b _ hb => by have := HB5.out; have := blk_lt this; omega)
           obtain ⟨op, n, t, o, args⟩ := x
           obtain ⟨g, cap, fl, rfl, hX2⟩ := hX
           have HX : Hid (ExC w6 (fun b => w.heap.size < b) (exCells op n t o (slv g args.length cap)) (.mk op n t o args)) := Lib.hid ⟨g, cap, fl, rfl, hX2⟩
           have hcl : (exCells op n t o (slv g args.length cap)).toArray = #[str op, .int .i64 (n : Int), str t, str o, slv g args.length cap] := rfl
           have hcb := blk_lt hS.blk
           have hr6 := blk_lt HB.out
           rw [hcl]
           clear hT hx hS hX2 hr
           go_wp2_with fail
           have HEB : Hid (((w6.alloc (.cells #[str op, .int .i64 (n : Int), str t, str o, slv g args.length cap] 45)).alloc (.cells #[str [41]] 9)).heap[w6.heap.size]? = some (.cells #[str op, .int .i64 (n : Int), str t, str o, slv g args.length cap] 45 (0, 0))) := blk_alloc (blk_new w6 _)
           have HEE : Hid (Ext w6 ((w6.alloc (.cells #[str op, .int .i64 (n : Int), str t, str o, slv g args.length cap] 45)).alloc (.cells #[str [41]] 9))) := Lib.hid (((Ext.refl _).alloc _).alloc _)
           refine (must_ok c j d _ (HS.out.ext HEE.out) (some (w6.heap.size + 1)) [[41]] (txts_new2 w6 _ [[41]]) (by simp)).mono ?_
           rintro e w7 ⟨hT7, hp⟩
           have HT7 := Lib.hid (HT.out.trans ((HEE.out.touch _).trans hT7))
           have HB7 := Lib.hid (hT7.old (Ext.block HEE.out HB.out) (fun e => hne e))
           have HEB7 := Lib.hid (hT7.old HEB.out (fun e => by have h1 : w6.heap.size = c.sb := e; omega))
           have HX7 := Lib.hid ((HX.out.ext HEE.out).touch hT7 (fun b _ hb e => by have h1 : b = c.sb := e; omega))
           clear hT7
           rw [mustN_one] at hp
           cases hr : must c.E [41] (c.ts j) with
           | error kp =>
             obtain ⟨k, p⟩ := kp
             rw [hr] at hp
             obtain rfl := hp
             exact bodyPost_panic rfl (RdPost.bad (by rw [HR.out, hr]; rfl) HT7.out)
           | ok xt =>
             obtain ⟨u, ts⟩ := xt
             rw [hr] at hp
             obtain ⟨v, j', rfl, rfl, rfl, hS⟩ := hp
             have HS7 := Lib.hid hS
             have HR7 : Hid (factorOf c.E (dp c.E d fs) (dp c.E d es) (c.ts i) = .ok (.mk op n t o args, c.ts j')) := by show _ = _; rw [HR.out, hr]; rfl
             obtain ⟨d0, d1, d2, d3, d4⟩ := blk5 HEB7.out
             clear hS hr hcb hr6
             obtain ⟨e0, e1, e2, e3, e4⟩ := blk5 HB7.out
             have f0 := blk_frozen HB7.out 0
             have f1 := blk_frozen HB7.out 1
             have f2 := blk_frozen HB7.out 2
             have f3 := blk_frozen HB7.out 3
             have f4 := blk_frozen HB7.out 4
             have lbr := blk_lt HB7.out
             go_wp2
             refine bodyPost_ret (v := .agg (exCells op n t o (slv g args.length cap)).toArray) (results_ex rfl rfl (set5 HB7.out _ _ _ _ _)) rfl ?_
             exact fin_ex (w2 := w7) H.out HT7.out HS7.out HX7.out (late5 (Touch.refl _ _) _ _ _ _ _) HR7.out
structure NotInv (w : World) (c : Cx) (j d eb xb gk : Nat) (v19 : Value) (op : Str) (n : Nat) (t o : Str) (args : List Ex) (g : Option Nat) (cap : Nat) (wr : World) (k : Nat) : Prop where
 kk : k + gk = 6
 v : v19 = .int .i64 (k : Int)
 src : Src wr c j d
 touch : Touch (onlyB c) w wr
 e : wr.heap[eb]? = some (.cells #[str op, .int .i64 (n : Int), str t, str o, slv g args.length cap] 45 (0, 0))
 ex : ExC wr (fun b => w.heap.size < b) (exCells op n t o (slv g args.length cap)) (.mk op n t o args)
 res : wr.heap[w.heap.size]? = some zEx
 txts : wr.heap[xb]? = some (.cells (cmpL.map str).toArray 9 (0, 0))
 no : ∀ (k' : Nat) (s : Str), k' < k → cmpL[k']? = some s → isT s (c.ts j) = false
theorem isT_txt {s : Str} {ts : List Tok} (h : isT s ts = true) : txt ts = s := by
 cases ts with
 | nil => cases h
 | cons t r =>
   simp only [isT, Bool.and_eq_true, beq_iff_eq] at h
   exact h.2
theorem isT_lt {c : Cx} {j : Nat} {s : Str} (h : isT s (c.ts j) = true) : j < c.all.length := by
 by_cases hi : j < c.all.length
 · exact hi
 · rw [show c.ts j = [] from List.drop_eq_nil_of_le (by omega)] at h
   cases h
theorem not_ok (c : Cx) (d : Nat) (hd : d ≤ 32) (ns sm : List Tok → Res Ex) (hns : d + 1 ≤ 32 → Rdr 116 c (d + 1) ns) (hsm : Rdr 134 c d sm) :
    Rdr 116 c d (fun ts => if isT [78, 79, 84] ts then fin (eOne [78, 79, 84]) (dp c.E d ns ts.tail) else cmpOf sm ts) := by
  intro w i h
  show Calls _ _ _ _ (RdPost VEx w c d (if isT [78, 79, 84] (c.ts i) then fin (eOne [78, 79, 84]) (dp c.E d ns (c.ts i).tail) else cmpOf sm (c.ts i)))
  obtain ⟨R, hR⟩ : ∃ R, R = (if isT [78, 79, 84] (c.ts i) then fin (eOne [78, 79, 84]) (dp c.E d ns (c.ts i).tail) else cmpOf sm (c.ts i)) := ⟨_, rfl⟩
  rw [← hR]
  have HR0 := Lib.hid hR
  clear hR
  have H := Lib.hid h
  have HNS := Lib.hid hns
  have HSM := Lib.hid hsm
  have lb := blk_lt h.blk
  have HB0 : Hid ((w.alloc zEx).heap[w.heap.size]? = some zEx) := blk_new w _
  have hne : w.heap.size ≠ c.sb := by omega
  have HS0 := Lib.hid (h.ext ((Ext.refl w).alloc zEx))
  have HT0 : Hid (Touch (onlyB c) w (w.alloc zEx)) := Lib.hid (((Ext.refl w).alloc zEx).touch _)
  clear h hns hsm
  go_enter Tryz.func116, Tryz.ntmps116
  go_wp2_with fail
  refine (may_ok c i d _ (HS0.out.ext ((Ext.refl _).alloc _)) (some (w.heap.size + 1)) [[78, 79, 84]] (txts_new2 w zEx [[78, 79, 84]]) (by simp)).mono ?_
  rintro e w2 ⟨rfl, hS2, hT2⟩
  rw [mayN_one] at hS2 ⊢
  have hT2' : Touch (onlyB c) (w.alloc zEx) w2 := (((Ext.refl (w.alloc zEx)).alloc _).touch _).trans hT2
  have HT2 := Lib.hid (HT0.out.trans hT2')
  have HB2 := Lib.hid (hT2'.old HB0.out (fun e => hne e))
  clear hT2 hT2'
  cases h1 : isT [78, 79, 84] (c.ts i) with
  | true =>
    rw [h1, if_pos rfl] at hS2
    have HS2 := Lib.hid hS2
    have HRR : Hid (R = fin (eOne [78, 79, 84]) (dp c.E d ns (c.ts (i + 1)))) := by show _ = _; rw [HR0.out, if_pos h1, Src.tail]
    clear hS2 h1
    go_wp2_with fail
    refine (deeper_ok c (i + 1) d _ HS2.out hd _ ent_not ns (fun h w => HNS.out h w (i + 1))).mono ?_
    rintro e w5 ⟨hT, hp⟩
    have HT := Lib.hid (HT2.out.trans hT)
    have HB := Lib.hid (hT.old HB2.out (fun e => hne e))
    cases hr : (if d < 32 then ns (c.ts (i + 1)) else bad c.E 151 (c.ts (i + 1))) with
    | error kp =>
      obtain ⟨k, p⟩ := kp
      rw [hr] at hp
      obtain rfl := hp
      exact bodyPost_panic rfl (RdPost.bad (by rw [HRR.out, dp, hr]; rfl) HT.out)
    | ok xt =>
      obtain ⟨x, ts⟩ := xt
      rw [hr] at hp
      obtain ⟨v, j, rfl, ⟨cs, rfl, hx⟩, rfl, hS⟩ := hp
      have HS := Lib.hid hS
      have HR : Hid (R = .ok (eOne [78, 79, 84] x, c.ts j)) := by show _ = _; rw [HRR.out, dp, hr]; rfl
      have hX := ExC.weak (A' := fun b => w.heap.size < b) hx (fun b _ hb => by have := HB2.out; have := blk_lt this; omega)
      obtain ⟨op, n, t, o, args⟩ := x
      obtain ⟨g, cap, fl, rfl, hX2⟩ := hX
      have HX : Hid (ExC w5 (fun b => w.heap.size < b) (exCells op n t o (slv g args.length cap)) (.mk op n t o args)) := Lib.hid ⟨g, cap, fl, rfl, hX2⟩
      have hcl : (exCells op n t o (slv g args.length cap)).toArray = #[str op, .int .i64 (n : Int), str t, str o, slv g args.length cap] := rfl
      rw [hcl]
      clear hT hx hS hX2 hr hcl
      obtain ⟨e0, e1, e2, e3, e4⟩ := blk5 HB.out
      have f0 := blk_frozen HB.out 0
      have f1 := blk_frozen HB.out 1
      have f2 := blk_frozen HB.out 2
      have f3 := blk_frozen HB.out 3
      have f4 := blk_frozen HB.out 4
      have lbr := blk_lt HB.out
      go_wp2
      refine bodyPost_ret (v := .agg (exCells [78, 79, 84] 0 [] [] (slv (some w5.heap.size) 1 1)).toArray) (results_ex rfl rfl (blk_alloc (set5 HB.out _ _ _ _ _))) rfl ?_
      have hl : Touch (fun b => b = w.heap.size) w5 ((((((w5.setCell ⟨w.heap.size, 0, none⟩ (str [78, 79, 84])).setCell ⟨w.heap.size, 1, none⟩ (.int .i64 0)).setCell ⟨w.heap.size, 2, none⟩ (str [])).setCell ⟨w.heap.size, 3, none⟩ (str [])).setCell ⟨w.heap.size, 4, none⟩ (slv (some w5.heap.size) 1 1)).alloc (.cells #[str op, .int .i64 (n : Int), str t, str o, slv g args.length cap] 45)) := (late5 (Touch.refl _ _) _ _ _ _ _).alloc _
      exact fin_ex' H.out HT.out HS.out (one_cells (c1 := exCells op n t o (slv g args.length cap)) (blk_new_at _ (by simp only [size_set])) (HX.out.touch hl (fun b _ hb e => by omega)) (by omega)) hl HR.out
  | false =>
    rw [h1, if_neg (by simp)] at hS2
    have HS2 := Lib.hid hS2
    clear hS2
    go_wp2_with fail
    refine (HSM.out _ i HS2.out).mono ?_
    rintro e w3 ⟨hT, hp⟩
    have HT3 := Lib.hid (HT2.out.trans hT)
    have HB3 := Lib.hid (hT.old HB2.out (fun e => hne e))
    cases hr : sm (c.ts i) with
    | error kp =>
      obtain ⟨k, p⟩ := kp
      rw [hr] at hp
      obtain rfl := hp
      exact bodyPost_panic rfl (RdPost.bad (by rw [HR0.out, if_neg (by simp [h1]), cmpOf, hr]; rfl) HT3.out)
    | ok xt =>
      obtain ⟨x, ts⟩ := xt
      rw [hr] at hp
      obtain ⟨v, j, rfl, ⟨cs, rfl, hx⟩, rfl, hS⟩ := hp
      have HS := Lib.hid hS
      have HR : Hid (R = if anyT cmpL (c.ts j) then fin (eTwo (txt (c.ts j)) x) (sm (c.ts (j + 1))) else .ok (x, c.ts j)) := by
        show _ = _
        rw [HR0.out, if_neg (by simp [h1]), cmpOf, hr, bnd_ok, Src.tail]
      have hX := ExC.weak (A' := fun b => w.heap.size < b) hx (fun b _ hb => by have := HB2.out; have := blk_lt this; omega)
      obtain ⟨op, n, t, o, args⟩ := x
      obtain ⟨g, cap, fl, rfl, hX2⟩ := hX
      have HX : Hid (ExC w3 (fun b => w.heap.size < b) (exCells op n t o (slv g args.length cap)) (.mk op n t o args)) := Lib.hid ⟨g, cap, fl, rfl, hX2⟩
      have hcl : (exCells op n t o (slv g args.length cap)).toArray = #[str op, .int .i64 (n : Int), str t, str o, slv g args.length cap] := rfl
      rw [hcl]
      clear hT hx hS hX2 hr h1 hcl
      go_wp2
      refine wp_at (fun W => NotInv w c j d w3.heap.size (w3.heap.size + 1) 6 (.int .i64 0) op n t o args g cap W 0)
        ⟨rfl, rfl, HS.out.ext (((Ext.refl _).alloc _).alloc _), HT3.out.trans ((((Ext.refl _).alloc _).alloc _).touch _), blk_alloc (blk_new _ _), HX.out.ext (((Ext.refl _).alloc _).alloc _), blk_alloc (blk_alloc HB3.out), blk_new_at _ (by simp), fun k s hk => absurd hk (by omega)⟩ ?_
      intro W hI0
      go_loopg [19] 6 (fun gk v19 wr => ∃ k, NotInv w c j d w3.heap.size (w3.heap.size + 1) gk v19 op n t o args g cap wr k)
      case atStart => exact ⟨0, hI0⟩
      case round =>
        clear hI0
        obtain ⟨k, hI⟩ := hrel
        obtain rfl := hI.v
        have HI := Lib.hid hI
        have hk6 := hI.kk
        clear hI
        have hne1 : w3.heap.size ≠ c.sb := by
          intro e0
          have h1 := HI.out.e
          rw [e0, HI.out.src.blk] at h1
          simp at h1
        by_cases hk : k < 6
        · obtain ⟨s, hs⟩ : ∃ s, cmpL[k]? = some s := ⟨cmpL[k]'hk, List.getElem?_eq_getElem _⟩
          have hc : wr.cell? ⟨w3.heap.size + 1, k, none⟩ = some (str s) := blk_cell HI.out.txts (by simp [hs])
          have HSS := Lib.hid hs
          clear hs
          go_wp2_with fail
          refine (may_ok c j d _ (HI.out.src.ext ((Ext.refl wr).alloc _)) (some wr.heap.size) [s] (txts_new wr [s]) (by simp)).mono ?_
          rintro e w5 ⟨rfl, hS5, hT5⟩
          rw [mayN_one] at hS5 ⊢
          have hT5' : Touch (onlyB c) wr w5 := (((Ext.refl wr).alloc _).touch _).trans hT5
          have HT5 := Lib.hid (HI.out.touch.trans hT5')
          have HB5 := Lib.hid (hT5'.old HI.out.res (fun e => hne e))
          have HE5 := Lib.hid (hT5'.old HI.out.e (fun e => hne1 e))
          have HX5 := Lib.hid (HI.out.ex.touch hT5' (fun b _ hb e => by have h1 : b = c.sb := e; omega))
          have HTX5 := Lib.hid (hT5'.old HI.out.txts (fun e => by
            have h1 : w3.heap.size + 1 = c.sb := e
            have h2 := HI.out.txts
            rw [h1, HI.out.src.blk] at h2
            simp at h2))
          clear hT5 hT5' hc
          cases h1 : isT s (c.ts j) with
          | false =>
            rw [h1, if_neg (by simp)] at hS5
            have HS5 := Lib.hid hS5
            have H1 := Lib.hid h1
            clear hS5 h1
            go_wp2
            go_roundg (gk - 1)
            case measure => omega
            case rel =>
              refine ⟨k + 1, by omega, by go_num, HS5.out, HT5.out, HE5.out, HX5.out, HB5.out, HTX5.out, fun k' s' hk' hs' => ?_⟩
              by_cases hkk : k' = k
              · subst hkk
                rw [HSS.out] at hs'; cases hs'
                exact H1.out
              · exact HI.out.no k' s' (by omega) hs'
          | true =>
            rw [h1, if_pos rfl] at hS5
            have HS5 := Lib.hid hS5
            have HR5 : Hid (R = fin (eTwo s (.mk op n t o args)) (sm (c.ts (j + 1)))) := by
              show _ = _
              have h2 : anyT cmpL (c.ts j) = true := by
                simp only [anyT, List.any_eq_true]
                exact ⟨s, List.mem_of_getElem? HSS.out, h1⟩
              rw [HR.out, if_pos h2, isT_txt h1]
            obtain ⟨e0, e1, e2, e3, e4⟩ := blk5 HE5.out
            have hW := blk_lt HE5.out
            have hB5 := blk_lt HB5.out
            clear hS5 h1
            go_wp2
            letI : Tch.TS := ⟨onlyB c⟩
            cases hr : sm (c.ts (j + 1)) with
            | error kp =>
              obtain ⟨k2, p⟩ := kp
              have HR := Lib.hid hr
              refine region_gives [.p 0, .e 1, .p 2, .h 3 true, .h 4 false, .p 5, .h 6 false] f_mixed (by kernel_rfl) (by kernel_rfl) (fun ch w' => Ending.panicked ch = thrown k2 p ∧ Touch (onlyB c) w5 w') [] ?_ ?_
              · repeat (refine Tch.plan_p rfl (fun K hK => ?_); go_simp; refine hK _ ?_; clear hK K)
                refine Tch.plan_e1 rfl rfl (.agg #[str op, .int .i64 (n : Int), str t, str o, slv g args.length cap]) (fun w' he => ?_) (fun K hK => ?_)
                · have d0 := Touch.cell he e0 (fun e => hne1 e)
                  have d1 := Touch.cell he e1 (fun e => hne1 e)
                  have d2 := Touch.cell he e2 (fun e => hne1 e)
                  have d3 := Touch.cell he e3 (fun e => hne1 e)
                  have d4 := Touch.cell he e4 (fun e => hne1 e)
                  clear e0 e1 e2 e3 e4 he
                  go_simp
                go_simp; refine hK _ ?_; clear hK K
                repeat (refine Tch.plan_p rfl (fun K hK => ?_); go_simp; refine hK _ ?_; clear hK K)
                refine Tch.plan_t rfl (fun K hK => ?_)
                clear hK
                go_wp2_with fail
                refine (HSM.out _ (j + 1) (HS5.out.ext (Ext.refl w5).drew)).mono ?_
                rintro e w6 ⟨hT6, hp⟩
                rw [hr] at hp
                obtain rfl := hp
                exact ⟨⟨rfl, ((Touch.refl _ w5).drew).trans hT6⟩, rfl⟩
              · rintro x ⟨tmps, ds⟩ w6 ⟨hx, hT6⟩ rfl
                obtain rfl := Ending.panicked.inj hx
                refine ⟨rfl, RdPost.bad ?_ (HT5.out.trans hT6)⟩
                rw [HR5.out, HR.out]; rfl
            | ok xt =>
              obtain ⟨y, ts⟩ := xt
              have HRs := Lib.hid hr
              refine Tch.region_calm [.p 0, .e 1, .p 2, .h 3 true, .h 4 false, .p 5, .h 6 false] f_mixed (by kernel_rfl) (by kernel_rfl) ?_
              repeat (refine Tch.plan_p rfl (fun K hK => ?_); go_simp; refine hK _ ?_; clear hK K)
              refine Tch.plan_e1 rfl rfl (.agg #[str op, .int .i64 (n : Int), str t, str o, slv g args.length cap]) (fun w' he => ?_) (fun K hK => ?_)
              · have d0 := Touch.cell he e0 (fun e => hne1 e)
                have d1 := Touch.cell he e1 (fun e => hne1 e)
                have d2 := Touch.cell he e2 (fun e => hne1 e)
                have d3 := Touch.cell he e3 (fun e => hne1 e)
                have d4 := Touch.cell he e4 (fun e => hne1 e)
                clear e0 e1 e2 e3 e4 he
                go_simp
              go_simp; refine hK _ ?_; clear hK K
              repeat (refine Tch.plan_p rfl (fun K hK => ?_); go_simp; refine hK _ ?_; clear hK K)
              refine Tch.plan_ct rfl rfl (fun K _ hK => ?_)
              go_wp2_with fail
              refine (HSM.out _ (j + 1) (HS5.out.ext (Ext.refl w5).drew)).mono ?_
              rintro e w6 ⟨hT6, hp⟩
              rw [hr] at hp
              obtain ⟨v, j', rfl, ⟨cs, rfl, hy⟩, rfl, hS6⟩ := hp
              have hT6' : Touch (onlyB c) w5 w6 := ((Touch.refl _ w5).drew).trans hT6
              have HTT := Lib.hid (HT5.out.trans hT6')
              have HB6 := Lib.hid (hT6'.old HB5.out (fun e => hne e))
              have HX6 := Lib.hid (HX5.out.touch hT6' (fun b _ hb e => by have h1 : b = c.sb := e; omega))
              have HY := Lib.hid (ExC.weak (A' := fun b => w.heap.size < b) hy (fun b _ hb => by simp at hb; omega))
              have HS6 := Lib.hid hS6
              obtain ⟨op', n', t', o', args'⟩ := y
              obtain ⟨g', cap', fl', rfl, _⟩ := HY.out
              have hcl : (exCells op' n' t' o' (slv g' args'.length cap')).toArray = #[str op', .int .i64 (n' : Int), str t', str o', slv g' args'.length cap'] := rfl
              rw [hcl]
              go_wp2_with fail
              refine hK _ _ hT6 ?_
              clear hK K hT6 hT6' hy hS6 e0 e1 e2 e3 e4 hr hcl
              obtain ⟨e0, e1, e2, e3, e4⟩ := blk5 HB6.out
              have f0 := blk_frozen HB6.out 0
              have f1 := blk_frozen HB6.out 1
              have f2 := blk_frozen HB6.out 2
              have f3 := blk_frozen HB6.out 3
              have f4 := blk_frozen HB6.out 4
              have lbr := blk_lt HB6.out
              refine Tch.plan_c rfl rfl (fun K _ hK => ?_)
              go_wp2_with fail
              repeat (refine Tch.plan_p rfl (fun K hK => ?_); go_simp; refine hK _ ?_; clear hK K)
              refine Tch.plan_c rfl rfl (fun K _ hK => ?_)
              go_wp2_with fail
              refine tch_done ?_
              go_wp2
              (try simp only [Exit.inBlock, Exit.then])
              have hl : Touch (fun b => b = w.heap.size) w6 ((((((w6.setCell ⟨w.heap.size, 0, none⟩ (str s)).setCell ⟨w.heap.size, 1, none⟩ (.int .i64 0)).setCell ⟨w.heap.size, 2, none⟩ (str [])).setCell ⟨w.heap.size, 3, none⟩ (str [])).setCell ⟨w.heap.size, 4, none⟩ (slv (some w6.heap.size) 2 2)).alloc (.cells #[str op, .int .i64 (n : Int), str t, str o, slv g args.length cap, str op', .int .i64 (n' : Int), str t', str o', slv g' args'.length cap'] 45)) := (late5 (Touch.refl _ _) _ _ _ _ _).alloc _
              refine bodyPost_ret (v := .agg (exCells s 0 [] [] (slv (some w6.heap.size) 2 2)).toArray) (results_ex rfl rfl (blk_alloc (set5 HB6.out _ _ _ _ _))) rfl ?_
              exact fin_ex' H.out HTT.out HS6.out (two_cells (c1 := exCells op n t o (slv g args.length cap)) (c2 := exCells op' n' t' o' (slv g' args'.length cap')) (blk_new_at _ (by simp only [size_set])) (HX6.out.touch hl (fun b _ hb e => by omega)) (HY.out.touch hl (fun b _ hb e => by omega)) (by omega)) hl (by rw [HR5.out, HRs.out]; rfl)
        · have hk6' : k = 6 := by omega
          have HRE : Hid (R = .ok (.mk op n t o args, c.ts j)) := by
            show _ = _
            have h2 : anyT cmpL (c.ts j) = false := by
              simp only [anyT, List.any_eq_false]
              intro s hs
              obtain ⟨k', hk', rfl⟩ := List.getElem_of_mem hs
              have := HI.out.no k' _ (by have h3 : cmpL.length = 6 := rfl; omega) (List.getElem?_eq_getElem hk')
              simp [this]
            rw [HR.out, if_neg (by simp [h2])]
          obtain ⟨d0, d1, d2, d3, d4⟩ := blk5 HI.out.e
          have HBW := Lib.hid HI.out.res
          obtain ⟨e0, e1, e2, e3, e4⟩ := blk5 HBW.out
          have f0 := blk_frozen HBW.out 0
          have f1 := blk_frozen HBW.out 1
          have f2 := blk_frozen HBW.out 2
          have f3 := blk_frozen HBW.out 3
          have f4 := blk_frozen HBW.out 4
          have lbr := blk_lt HBW.out
          go_wp2
          refine bodyPost_ret (v := .agg (exCells op n t o (slv g args.length cap)).toArray) (results_ex rfl rfl (set5 HBW.out _ _ _ _ _)) rfl ?_
          exact fin_ex (w2 := wr) H.out HI.out.touch HI.out.src HI.out.ex (late5 (Touch.refl _ _) _ _ _ _ _) HRE.out
theorem dp_deep (E : Nat) (f : List Tok → Res Ex) : dp E 32 f = bad E 151 := by funext ts; simp [dp]
theorem dp_in (E : Nat) {d : Nat} (h : d < 32) (f : List Tok → Res Ex) : dp E d f = f := by funext ts; simp [dp, h]
theorem lv_of (c : Cx) (d n : Nat) (hd : d ≤ 32) (fs ns es : List Tok → Res Ex) (hl : lv c.E n = lvOf c.E (dp c.E d fs) (dp c.E d ns) (dp c.E d es))
  (h1 : d + 1 ≤ 32 → Rdr 153 c (d + 1) fs) (h2 : d + 1 ≤ 32 → Rdr 116 c (d + 1) ns) (h3 : d + 1 ≤ 32 → Rdr 59 c (d + 1) es) :
  Rdr 153 c d (lv c.E n).fac ∧ Rdr 116 c d (lv c.E n).no ∧ Rdr 59 c d (lv c.E n).ex := by
 obtain ⟨s1, s2, s3⟩ := Suf.lv c.E n
 have k1 : Rdr 153 c d (lv c.E n).fac := by rw [hl]; exact factor_ok c d hd fs es h1 h3
 have kp : Rdr 145 c d (productOf (lv c.E n).fac) := fun w i h => product_ok c i d w h _ s1 k1
 have ks : Rdr 134 c d (sumOf (lv c.E n).fac) := fun w i h => sum_ok c i d w h _ (Suf.ch s1) kp
 have k2 : Rdr 116 c d (lv c.E n).no := by
  have := not_ok c d hd ns (sumOf (lv c.E n).fac) h2 ks
  rw [hl] at this ⊢
  exact this
 have kb : Rdr 92 c d (bothOf (lv c.E n).no) := fun w i h => both_ok c i d w h _ s2 k2
 exact ⟨k1, k2, fun w i h => expr_ok' c i d w h _ (Suf.ch s2) kb⟩
theorem lv_ok (c : Cx) : ∀ (n d : Nat), d + n = 32 → Rdr 153 c d (lv c.E n).fac ∧ Rdr 116 c d (lv c.E n).no ∧ Rdr 59 c d (lv c.E n).ex
 | 0, d, h => by
   obtain rfl : d = 32 := by omega
   refine lv_of c 32 0 (Nat.le_refl _) (bad c.E 151) (bad c.E 151) (bad c.E 151) ?_ (fun h => by omega) (fun h => by omega) (fun h => by omega)
   rw [dp_deep]; rfl
 | n + 1, d, h => by
   obtain ⟨k1, k2, k3⟩ := lv_ok c n (d + 1) (by omega)
   refine lv_of c d (n + 1) (by omega) (lv c.E n).fac (lv c.E n).no (lv c.E n).ex ?_ (fun _ => k1) (fun _ => k2) (fun _ => k3)
   rw [dp_in c.E (by omega), dp_in c.E (by omega), dp_in c.E (by omega)]; rfl
theorem expr_ok (c : Cx) : Rdr 59 c 0 (expr c.E) := (lv_ok c 32 0 rfl).2.2
end Go.Proofs.YtkhnpmeohjafiaaGreatDoor
