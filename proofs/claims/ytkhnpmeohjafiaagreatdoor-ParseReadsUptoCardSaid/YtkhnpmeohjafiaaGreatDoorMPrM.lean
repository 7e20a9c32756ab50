/- Lemmas. -/
import Derived.Test.YtkhnpmeohjafiaaGreatDoorML
import Derived.Deep.Cut
import Derived.Deep.CutBlock
import Derived.Deep.CutRange
namespace Go.Proofs.YtkhnpmeohjafiaaGreatDoor
open Go.RowKit
set_option maxRecDepth 100000 in
set_option maxHeartbeats 64000000 in
theorem selects_ok (c : Cx) (i : Nat) (w : World) (h : Src w c i 0) :
   Calls Tryz.prog 66 #[.pointer (some ⟨c.sb, 0, none⟩)] w (RdPost VSt w c 0 (selects c.E (c.ts i))) := by
 have H := Lib.hid h
 have lb := blk_lt h.blk
 have hne : w.heap.size ≠ c.sb := by omega
 have HT0 : Hid (Touch (onlyB c) w (w.alloc zSt)) := Lib.hid (((Ext.refl w).alloc _).touch _)
 have HB0 : Hid ((w.alloc zSt).heap[w.heap.size]? = some zSt) := blk_new w _
 obtain ⟨R, hR⟩ : ∃ R, R = selects c.E (c.ts i) := ⟨_, rfl⟩
 rw [← hR]
 rw [selects_eq] at hR
 have HR0 := Lib.hid hR
 clear hR h
 go_enter Tryz.func66, Tryz.ntmps66
 go_wp2_with fail
 refine (query_ok c i _ (H.out.ext ((Ext.refl w).alloc zSt))).mono ?_
 rintro e w1 ⟨hT, hp⟩
 have HT1 := Lib.hid (HT0.out.trans hT)
 have HB1 := Lib.hid (hT.old HB0.out (fun e => hne e))
 have hR := HR0.out
 rcases hr : query c.E (c.ts i) with ⟨k, p⟩ | ⟨q, ts⟩
 · rw [hr] at hp
   simp only [hr, bnd_error, fin_error] at hR
   obtain rfl := hp
   exact bodyPost_panic rfl (RdPost.bad hR HT1.out)
 rw [hr] at hp
 obtain ⟨v, j1, rfl, ⟨cs, rfl, hq⟩, rfl, hS⟩ := hp
 simp only [hr, bnd_ok, fin_ok] at hR
 have HS1 := Lib.hid hS
 have HR1 := Lib.hid hR
 clear hT hS hR hr
 have hlo := blk_lt HB1.out
 have hq' := QuK.keep (A' := fun b => w.heap.size < b ∧ b < w1.heap.size) (fun b hb ha => ⟨rfl, by (have h1 : w.heap.size + 1 ≤ b := (by simpa using ha)); omega, hb⟩) _ _ hq
 obtain ⟨vi, vt, vc, rfl, hv⟩ := hq'
 have HQ1 : Hid (QuK.C w1 (fun b => w.heap.size < b ∧ b < w1.heap.size) [.bool q.coalesce, .bool q.all, .bool q.count, str q.sum, vi, vt, vc] q) := Lib.hid ⟨vi, vt, vc, rfl, hv⟩
 rw [show ([.bool q.coalesce, .bool q.all, .bool q.count, str q.sum, vi, vt, vc] : List Value).toArray = #[.bool q.coalesce, .bool q.all, .bool q.count, str q.sum, vi, vt, vc] from rfl]
 clear hq hv
 have hs1 := blk_lt HS1.out.blk
 go_wp2_with fail
 obtain ⟨vb, hvb⟩ : ∃ vb, vb = w1.heap.size + 1 := ⟨_, rfl⟩
 have HI0 : Hid (∃ (f : Nat) (gq : Option Nat) (flq : List Value), SeInv w vb c R (c.all.length - j1) ((w1.alloc (.cells #[.bool q.coalesce, .bool q.all, .bool q.count, str q.sum, vi, vt, vc] 49)).alloc (.cells #[str [83, 69, 76, 69, 67, 84], str [], .slice none 0 0, .slice none 0 0, .slice none 0 0, .slice none 0 0, .int .i64 0, .int .i64 0, .slice none 0 0, .slice (some ⟨w1.heap.size, 0, none⟩) 1 1, .slice none 0 0, .slice none 0 0, .slice none 0 0, .slice none 0 0] 33)) j1 f [] none 0 [q] gq 1 flq) := by
   have hE : Ext w1 ((w1.alloc (.cells #[.bool q.coalesce, .bool q.all, .bool q.count, str q.sum, vi, vt, vc] 49)).alloc (.cells #[str [83, 69, 76, 69, 67, 84], str [], .slice none 0 0, .slice none 0 0, .slice none 0 0, .slice none 0 0, .int .i64 0, .int .i64 0, .slice none 0 0, .slice (some ⟨w1.heap.size, 0, none⟩) 1 1, .slice none 0 0, .slice none 0 0, .slice none 0 0, .slice none 0 0] 33)) := ((Ext.refl _).alloc _).alloc _
   refine Lib.hid ⟨(c.ts j1).length, some w1.heap.size, [.bool q.coalesce, .bool q.all, .bool q.count, str q.sum, vi, vt, vc], rfl, ⟨HS1.out.ext hE, HT1.out.trans (hE.touch _), Ext.block hE HB1.out, blk_new_at _ (by simp [hvb]), by omega, Sl.nil _ _ _, by simp, ⟨rfl, _, blk_alloc (blk_new _ _), Nat.le_refl _, by simp [maxLen], rfl, rfl⟩, fun b hb => by cases hb; omega, ?_⟩, by rw [ts_len]; omega, ?_, by simp, HR1.out⟩
   · exact LsC.one QuK (QuK.keep (fun b hb ha => ⟨Below.block hE b hb, ⟨ha.1, by omega⟩, by simp, fun e => by cases e; omega⟩) _ _ HQ1.out)
   · have := HS1.out.le; simp; omega
 rw [← hvb]
 obtain ⟨f0, gq0, flq0, hI0⟩ := HI0.out
 clear HI0 HQ1 HS1 HT1 HR1 HB1
 go_loopg [] (c.all.length - j1) (fun gk wr => ∃ (j f : Nat) (ops : List Str) (go : Option Nat) (capo : Nat) (qs : List Qu) (gq : Option Nat) (capq : Nat) (flq : List Value), SeInv w vb c R gk wr j f ops go capo qs gq capq flq)
 case atStart => exact ⟨j1, f0, [], none, 0, [q], gq0, 1, flq0, hI0⟩
 case round =>
   clear hI0 hlo hs1 hvb
   obtain ⟨j, f, ops, go, capo, qs, gq, capq, flq, hI⟩ := hrel
   have HI := Lib.hid hI
   have hvb := hI.w.hvb
   clear hI
   go_wp2_with fail
   refine (is_ok c j 0 _ (HI.out.w.src.ext ((Ext.refl wr).alloc _)) 1 (some wr.heap.size) [[85, 78, 73, 79, 78], [69, 88, 67, 69, 80, 84]] (txts_new wr [[85, 78, 73, 79, 78], [69, 88, 67, 69, 80, 84]]) (by simp)).mono ?_
   rintro e w2 ⟨rfl, hE2⟩
   have HE2 := Lib.hid (((Ext.refl wr).alloc _).trans hE2)
   clear hE2
   have hany := any_word (SignOk.suf HI.out.w.src.sign (List.drop_suffix j c.all)) (L := [[85, 78, 73, 79, 78], [69, 88, 67, 69, 80, 84]]) (by decide) (by simp)
   cases h1 : isR 1 [[85, 78, 73, 79, 78], [69, 88, 67, 69, 80, 84]] (c.ts j) with
   | true =>
     have HANY : Hid (anyT [[85, 78, 73, 79, 78], [69, 88, 67, 69, 80, 84]] (c.ts j) = true) := Lib.hid (hany.trans h1)
     clear hany h1
     have hj := any_lt HANY.out
     obtain ⟨tb, tk, hg, ht, hb, hbn, hts, c0, c1, c2, c3⟩ := (HI.out.w.src.ext HE2.out).at hj
     have z := tidx_ok hg hj
     have HT := Lib.hid hts
     have HSO : Hid (∃ f', f = f' + 1 ∧ c.all.length - (j + 1) ≤ f' ∧ R = bnd (bnd (query c.E (c.ts (j + 1))) fun x r => moreL c.E f' (ops ++ [tk.2.1]) (qs ++ [x]) r) (restS c.E)) := by
       have h1 := HI.out.few
       obtain ⟨f', rfl⟩ : ∃ f', f = f' + 1 := ⟨f - 1, by omega⟩
       refine Lib.hid ⟨f', rfl, by omega, ?_⟩
       rw [HI.out.so, moreL, if_pos HANY.out, Src.tail, HT.out]; rfl
     obtain ⟨q0, q1, q2, q3⟩ := blk4 (HI.out.w.src.ext HE2.out).blk
     have lb2 := blk_lt (HI.out.w.src.ext HE2.out).blk
     have fz := blk_frozen (HI.out.w.src.ext HE2.out).blk 1
     have HBW := Lib.hid (Ext.block HE2.out HI.out.w.blk)
     obtain ⟨a0, a1, a2, a3, a4, a5, a6, a7, a8, a9, a10, a11, a12, a13⟩ := blk14 HBW.out
     have la := blk_lt HBW.out
     have hsm := HI.out.w.src.small
     have hlen := HI.out.len
     have holen := HI.out.olen
     have hw1 : IntKind.i64.wrap ((j : Int) + 1) = (j : Int) + 1 := by rw [IntKind.wrap_i64]; omega
     clear hg ht hts c0 c2 c3 a0 a1 a2 a3 a4 a5 a6 a7 a8 a9 a11 a12 a13
     go_wp2
     refine region_calm [.p 0, .l 1, .p 2, .p 3, .p 4, .l 5, .p 6, .p 7, .p 8, .l 9, .p 10, .p 11, .l 12, .h 13 true, .h 14 false, .p 15, .h 16 false] f_mixed (by kernel_rfl) (by kernel_rfl) ?_
     repeat ((first | refine plan_p rfl (fun K hK => ?_) | refine plan_l rfl (fun K hK => ?_)); go_simp; refine hK _ ?_; clear hK K)
     refine plan_ct rfl rfl (fun K _ hK => ?_)
     go_wp2
     refine hK _ _ ((Ext.refl _).alloc _) ?_; clear hK K
     refine plan_c rfl rfl (fun K _ hK => ?_)
     refine app_lit ei_str rfl (.tmp 13) (.tmp 25) rfl (g := go) (n := ops.length) (cap := capo) (b := w2.heap.size) (by rfl) (HI.out.w.osl.ext (HE2.out.trans ((Ext.refl _).alloc _).drew)) (by rfl) (news := [str tk.2.1]) rfl (Ext.block (Ext.refl _).drew (blk_new_at (w := w2) (.cells #[str tk.2.1] 9) rfl)) (by simp [Value.oneCell']) (by omega) (by omega) ?_
     intro g6 cap6 w6 hS6 hT6 hat6
     have hE6 : Ext wr (w2.alloc (.cells #[str tk.2.1] 9)).drew := HE2.out.trans ((Ext.refl _).alloc _).drew
     have HSW := Lib.hid (HI.out.w.op H.out hE6 hj hS6 hT6 hat6)
     have HBW6 := Lib.hid (hT6.old (Ext.block hE6 HI.out.w.blk) (fun e => (HI.out.w.oown _ e).2 rfl))
     have HSB6 := Lib.hid (hT6.old (Ext.block hE6 HI.out.w.src.blk) (fun e => by have := (HI.out.w.oown _ e).1; omega))
     obtain ⟨a0, a1, a2, a3, a4, a5, a6, a7, a8, a9, a10', a11, a12, a13⟩ := blk14 HBW6.out
     have la6 := blk_lt HBW6.out
     have fa6 := blk_frozen HBW6.out 10
     obtain ⟨q0', q1', q2', q3'⟩ := blk4 HSB6.out
     have lb6 := blk_lt HSB6.out
     have fz6 := blk_frozen HSB6.out 1
     clear hS6 hT6 hat6 hE6 a0 a1 a2 a3 a4 a5 a6 a7 a8 a9 a10 a11 a12 a13 q0 q1 q2 q3 fz la lb2 c1 z hb
     go_wp2_with fail
     repeat ((first | refine plan_p rfl (fun K hK => ?_) | refine plan_l rfl (fun K hK => ?_)); go_simp; refine hK _ ?_; clear hK K)
     refine plan_c rfl rfl (fun K _ hK => ?_)
     go_wp2_with fail
     refine plan_done ?_
     go_wp2
     refine wp_at (fun W => SeW w vb c W (j + 1) (ops ++ [tk.2.1]) (some g6) cap6 qs gq capq flq) HSW.out ?_
     intro W hW
     have HW := Lib.hid hW
     clear hW a10' la6 fa6 q0' q1' q2' q3' lb6 fz6 HSW
     obtain ⟨a0, a1, a2, a3, a4, a5, a6, a7, a8, a9, a10, a11, a12, a13⟩ := blk14 HW.out.blk
     have la := blk_lt HW.out.blk
     have hvs : vb ≠ c.sb := by omega
     clear a0 a1 a2 a3 a4 a5 a6 a7 a8 a10 a11 a12 a13
     letI : Tch.TS := ⟨onlyB c⟩
     rcases hr : query c.E (c.ts (j + 1)) with ⟨k, p⟩ | ⟨q', ts⟩
     · have HRn := Lib.hid hr
       refine region_gives [.p 0, .e 1, .p 2, .h 3 true, .h 4 true, .h 5 false, .p 6, .h 7 false] f_mixed (by kernel_rfl) (by kernel_rfl) (fun ch w' => Ending.panicked ch = thrown k p ∧ Touch (onlyB c) W w') [] ?_ ?_
       · repeat (refine Tch.plan_p rfl (fun K hK => ?_); go_simp; refine hK _ ?_; clear hK K)
         refine Tch.plan_e1 rfl rfl (slv gq qs.length capq) (fun w' he => ?_) (fun K hK => ?_)
         · have d5 := Touch.cell he a9 (fun e => hvs e)
           clear a9 he
           go_simp
         go_simp; refine hK _ ?_; clear hK K
         repeat (refine Tch.plan_p rfl (fun K hK => ?_); go_simp; refine hK _ ?_; clear hK K)
         refine Tch.plan_t rfl (fun K hK => ?_)
         clear hK
         go_wp2_with fail
         refine (query_ok c (j + 1) _ (HW.out.src.ext (Ext.refl W).drew)).mono ?_
         rintro e w9 ⟨hT9, hp⟩
         rw [hr] at hp
         obtain rfl := hp
         exact ⟨⟨rfl, ((Touch.refl _ W).drew).trans hT9⟩, rfl⟩
       · rintro x ⟨tmps, ds⟩ w9 ⟨hx, hT9⟩ rfl
         obtain rfl := Ending.panicked.inj hx
         refine ⟨rfl, RdPost.bad ?_ (HW.out.touch.trans hT9)⟩
         obtain ⟨f', -, -, h1⟩ := HSO.out
         rw [h1, HRn.out]; rfl
     · have HRn := Lib.hid hr
       refine Tch.region_calm [.p 0, .e 1, .p 2, .h 3 true, .h 4 true, .h 5 false, .p 6, .h 7 false] f_mixed (by kernel_rfl) (by kernel_rfl) ?_
       repeat (refine Tch.plan_p rfl (fun K hK => ?_); go_simp; refine hK _ ?_; clear hK K)
       refine Tch.plan_e1 rfl rfl (slv gq qs.length capq) (fun w' he => ?_) (fun K hK => ?_)
       · have d5 := Touch.cell he a9 (fun e => hvs e)
         clear a9 he
         go_simp
       go_simp; refine hK _ ?_; clear hK K
       repeat (refine Tch.plan_p rfl (fun K hK => ?_); go_simp; refine hK _ ?_; clear hK K)
       refine Tch.plan_ct rfl rfl (fun K _ hK => ?_)
       go_wp2_with fail
       refine (query_ok c (j + 1) _ (HW.out.src.ext (Ext.refl W).drew)).mono ?_
       rintro e w9 ⟨hT9, hp⟩
       rw [hr] at hp
       obtain ⟨v, j9, rfl, ⟨cs, rfl, hq9⟩, rfl, hS9⟩ := hp
       have hT9' : Touch (onlyB c) W w9 := ((Touch.refl _ W).drew).trans hT9
       have HT9 := Lib.hid hT9'
       have HS9 := Lib.hid hS9
       have hq9' : QuK.C w9 (fun b => W.heap.size ≤ b) cs q' := hq9
       obtain ⟨vi', vt', vc', rfl, hv9⟩ := hq9'
       have HQ9 : Hid (QuK.C w9 (fun b => W.heap.size ≤ b) [.bool q'.coalesce, .bool q'.all, .bool q'.count, str q'.sum, vi', vt', vc'] q') := Lib.hid ⟨vi', vt', vc', rfl, hv9⟩
       have HQL9 := Lib.hid (HW.out.qsl.touch hT9' (fun b hb e => by have h1 : b = c.sb := e; have := (HW.out.qown b hb).1; omega))
       have HBW9 := Lib.hid (hT9'.old HW.out.blk (fun e => hvs e))
       have HJ : Hid (c.all.length - j9 ≤ c.all.length - (j + 1)) := by
         have h1 := (Suf.query c.E (c.ts (j + 1)) _ _ hr).length_le
         rw [ts_len, ts_len] at h1
         exact Lib.hid h1
       rw [show ([.bool q'.coalesce, .bool q'.all, .bool q'.count, str q'.sum, vi', vt', vc'] : List Value).toArray = #[.bool q'.coalesce, .bool q'.all, .bool q'.count, str q'.sum, vi', vt', vc'] from rfl]
       go_wp2_with fail
       refine hK _ _ hT9 ?_
       clear hK K hT9 hT9' hS9 hq9 hv9 hr a9 la
       refine Tch.plan_ct rfl rfl (fun K _ hK => ?_)
       go_wp2_with fail
       refine hK _ _ (((Ext.refl _).alloc _).touch _) ?_
       clear hK K
       refine Tch.plan_c rfl rfl (fun K _ hK => ?_)
       refine app_lit ei_qu rfl (.tmp 36) (.tmp 39) rfl (g := gq) (n := qs.length) (cap := capq) (b := w9.heap.size) (by rfl) (HQL9.out.ext ((Ext.refl _).alloc _)) (by rfl) (news := [.bool q'.coalesce, .bool q'.all, .bool q'.count, str q'.sum, vi', vt', vc']) rfl (blk_new_at _ rfl) (QuK.one HQ9.out) (by omega) (by omega) ?_
       intro g10 cap10 w10 hS10 hT10 hat10
       have HSW := Lib.hid (HW.out.qu H.out HT9.out HS9.out HQ9.out hS10 hT10 hat10)
       have HBB := Lib.hid (hT10.old (blk_alloc (o' := .cells #[.bool q'.coalesce, .bool q'.all, .bool q'.count, str q'.sum, vi', vt', vc'] 49) HBW9.out) (fun e => (HW.out.qown _ e).2 rfl))
       obtain ⟨a0, a1, a2, a3, a4, a5, a6, a7, a8, a9, a10, a11, a12, a13⟩ := blk14 HBB.out
       have la := blk_lt HBB.out
       have fa := blk_frozen HBB.out 9
       clear hS10 hT10 hat10 a0 a1 a2 a3 a4 a5 a6 a7 a8 a10 a11 a12 a13
       go_wp2_with fail
       repeat (refine Tch.plan_p rfl (fun K hK => ?_); go_simp; refine hK _ ?_; clear hK K)
       refine Tch.plan_c rfl rfl (fun K _ hK => ?_)
       go_wp2_with fail
       refine tch_done ?_
       go_wp2
       go_roundg (c.all.length - j9)
       case measure => have h1 := HI.out.k; have h2 := HJ.out; omega
       case rel =>
         obtain ⟨f', hf', hfew, hso⟩ := HSO.out
         refine ⟨j9, f', ops ++ [tk.2.1], some g6, cap6, qs ++ [q'], some g10, cap10, _, rfl, HSW.out, by have := HJ.out; omega, ?_, by simp; omega, ?_⟩
         · rw [List.length_append]; have := HJ.out; simp; omega
         · rw [hso, HRn.out]; rfl
   | false =>
     have HSO : Hid (R = restS c.E (ops, qs) (c.ts j)) := by
       show _ = _
       rw [HI.out.so]
       have h2 : anyT [[85, 78, 73, 79, 78], [69, 88, 67, 69, 80, 84]] (c.ts j) = false := hany.trans h1
       cases f <;> simp [moreL, h2]
     clear hany h1
     have HV0 : Hid (Vg StK 33 zSt w vb w2 c j 0 [str [83, 69, 76, 69, 67, 84], str [], .slice none 0 0, .slice none 0 0, .slice none 0 0, .slice none 0 0, .int .i64 0, .int .i64 0, .slice none 0 0, slv gq qs.length capq, slv go ops.length capo, (.slice none 0 0), (.slice none 0 0), (.slice none 0 0)] { St.none with kind := [83, 69, 76, 69, 67, 84], query := qs, ops := ops, asOf := [], during := [], order := [] }) := Lib.hid (HI.out.w.st.step lb (HE2.out.touch _) (HI.out.w.src.ext HE2.out))
     have hR0 := HSO.out
     unfold restS at hR0
     have HRa := Lib.hid hR0
     clear hR0
     go_wp2_with fail
     refine (may_ok c j 0 _ (HV0.out.src.ext ((Ext.refl _).alloc _)) (some _) [[65, 83]] (txts_at _ [[65, 83]] (by simp [size_set])) (by simp)).mono ?_
     rintro e s1 ⟨rfl, hS, hT0⟩
     have hT := (((Ext.refl _).alloc _).touch (onlyB c)).trans hT0
     rw [mayN_one] at hS ⊢
     have HA1 := Lib.hid (HV0.out.step lb hT hS)
     skip
     clear hT0 hT hS
     have hA1 := HA1.out
     have hRs := HRa.out
     unfold asOfP at hRs
     go_upto_if 44 with fail
     go_cut [] from 9 to 101 (fun wc => ∃ (jb : Nat) (la : List Nat) (vA : Value), Vg StK 33 zSt w vb wc c jb 0 [str [83, 69, 76, 69, 67, 84], str [], .slice none 0 0, .slice none 0 0, .slice none 0 0, .slice none 0 0, .int .i64 0, .int .i64 0, .slice none 0 0, slv gq qs.length capq, slv go ops.length capo, vA, (.slice none 0 0), (.slice none 0 0)] { St.none with kind := [83, 69, 76, 69, 67, 84], query := qs, ops := ops, asOf := la, during := [], order := [] } ∧ R = bnd (duringP c.E (c.ts jb)) fun d r => fin (fun o => { St.none with kind := [83, 69, 76, 69, 67, 84], query := qs, ops := ops, asOf := la, during := d, order := o }) (orderP c.E r))
     case first =>
       cases has : isT [65, 83] (c.ts j) with
       | false =>
         rw [has, if_neg (by simp)] at hA1
         simp only [has, Bool.false_eq_true, if_false, bnd_ok] at hRs
         have HA1b := Lib.hid hA1
         have HRs := Lib.hid hRs
         clear hA1 hRs has HA1
         go_wp2
         go_meet
         case rel => exact ⟨j, [], .slice none 0 0, HA1b.out, HRs.out⟩
       | true =>
         rw [has, if_pos rfl] at hA1
         simp only [has, if_true, Src.tail] at hRs
         have HA1b := Lib.hid hA1
         have HRs := Lib.hid hRs
         clear hA1 hRs has HA1
         go_wp2_with fail
         refine (must_ok c (j + 1) 0 _ (HA1b.out.src.ext ((Ext.refl _).alloc _)) (some _) [[79, 70]] (txts_at _ [[79, 70]] (by simp [size_set])) (by simp)).mono ?_
         rintro e s2 ⟨hT0, hp⟩
         have hT := (((Ext.refl _).alloc _).touch (onlyB c)).trans hT0
         rw [mustN_one] at hp
         have hR := HRs.out
         rcases hr : must c.E [79, 70] (c.ts (j + 1)) with ⟨k, p⟩ | ⟨⟨⟩, ts⟩
         · rw [hr] at hp
           simp only [hr, bnd_error, fin_error] at hR
           obtain rfl := hp
           exact ⟨rfl, RdPost.bad hR (HA1b.out.touch.trans hT)⟩
         rw [hr] at hp
         obtain ⟨v, ja, rfl, rfl, rfl, hS⟩ := hp
         simp only [hr, bnd_ok, fin_ok] at hR
         have HA2 := Lib.hid (HA1b.out.step lb hT hS)
         have HRs2 := Lib.hid hR
         skip
         clear hT0 hT hS hR hr
         go_wp2_with fail
         refine (number_ok' c ja 0 _ HA2.out.src).mono ?_
         rintro e s3 ⟨hT, hp⟩
         have hR := HRs2.out
         rcases hr : number c.E (c.ts ja) with ⟨k, p⟩ | ⟨an, ts⟩
         · rw [hr] at hp
           simp only [hr, bnd_error, fin_error] at hR
           obtain rfl := hp
           exact ⟨rfl, RdPost.bad hR (HA2.out.touch.trans hT)⟩
         rw [hr] at hp
         obtain ⟨v, jb, rfl, rfl, rfl, hS⟩ := hp
         simp only [hr, bnd_ok, fin_ok] at hR
         have HA3 := Lib.hid (HA2.out.step lb hT hS)
         have HRs3 := Lib.hid hR
         skip
         clear hT hS hR hr
         have HA4 : Hid (Vg StK 33 zSt w vb ((s3.setCell ⟨vb, 11, none⟩ (.slice (some ⟨s3.heap.size, 0, none⟩) 1 1)).alloc (.cells #[.int .i64 (an : Int)] 2)) c jb 0 [str [83, 69, 76, 69, 67, 84], str [], .slice none 0 0, .slice none 0 0, .slice none 0 0, .slice none 0 0, .int .i64 0, .int .i64 0, .slice none 0 0, slv gq qs.length capq, slv go ops.length capo, (.slice (some ⟨s3.heap.size, 0, none⟩) 1 1), (.slice none 0 0), (.slice none 0 0)] { St.none with kind := [83, 69, 76, 69, 67, 84], query := qs, ops := ops, asOf := [an], during := [], order := [] }) := by
           refine Lib.hid (HA3.out.put H.out 11 _ _ ?_)
           obtain ⟨vv, hcs, hok⟩ := HA3.out.q
           simp only [stCells, List.cons.injEq, and_true] at hcs
           obtain ⟨-, -, h2, h3, h4, h5, -, -, h8, h9, h10, h11, h12, h13⟩ := hcs
           exact ⟨⟨.slice none 0 0, .slice none 0 0, .slice none 0 0, .slice none 0 0, .slice none 0 0, slv gq qs.length capq, slv go ops.length capo, (.slice (some ⟨s3.heap.size, 0, none⟩) 1 1), (.slice none 0 0), (.slice none 0 0)⟩, rfl, ⟨h2 ▸ hok.col.keep _ (vput_old _ _ _), h3 ▸ hok.key.keep _ (vput_old _ _ _), h4 ▸ hok.val.keep _ (vput_old _ _ _), h5 ▸ hok.set.keep _ (vput_old _ _ _), h8 ▸ hok.cond.keep _ (vput_old _ _ _), h9 ▸ hok.qu.keep _ (vput_old _ _ _), h10 ▸ hok.op.keep _ (vput_old _ _ _), VLA.one NumK (cs := [.int .i64 (an : Int)]) (blk_new_at _ (by simp only [size_set])) rfl ⟨by have := HA3.out.vb; have := blk_lt HA3.out.blk; omega, by have := blk_lt HA3.out.blk; omega⟩, h12 ▸ hok.dur.keep _ (vput_old _ _ _), h13 ▸ hok.ord.keep _ (vput_old _ _ _)⟩⟩
         obtain ⟨a0, a1, a2, a3, a4, a5, a6, a7, a8, a9, a10, a11, a12, a13⟩ := blk14 HA3.out.blk
         have la9 := blk_lt HA3.out.blk
         have fa := fun k => blk_frozen HA3.out.blk k
         clear a0 a1 a2 a3 a4 a5 a6 a7 a8 a9 a10
         go_wp2
         go_meet
         case rel => exact ⟨jb, [an], .slice (some ⟨s3.heap.size, 0, none⟩) 1 1, HA4.out, HRs3.out⟩
     case rest =>
     clear HA1 hA1 hRs
     obtain ⟨jb, la, vA, hVA, hRA⟩ := hcut
     have HVA := Lib.hid hVA
     have HRA := Lib.hid hRA
     clear hVA hRA
     go_upto_block 2 with fail
     go_cut [] from 9 to 101 (fun wc => ∃ (jd : Nat) (ld : List (Nat × Nat)) (vD : Value), Vg StK 33 zSt w vb wc c jd 0 [str [83, 69, 76, 69, 67, 84], str [], .slice none 0 0, .slice none 0 0, .slice none 0 0, .slice none 0 0, .int .i64 0, .int .i64 0, .slice none 0 0, slv gq qs.length capq, slv go ops.length capo, vA, vD, (.slice none 0 0)] { St.none with kind := [83, 69, 76, 69, 67, 84], query := qs, ops := ops, asOf := la, during := ld, order := [] } ∧ R = fin (fun o => { St.none with kind := [83, 69, 76, 69, 67, 84], query := qs, ops := ops, asOf := la, during := ld, order := o }) (orderP c.E (c.ts jd)))
     case first =>
       go_wp2_with fail
       refine (may_ok c jb 0 _ (HVA.out.src.ext ((Ext.refl _).alloc _)) (some _) [[65, 84]] (txts_at _ [[65, 84]] (by simp [size_set])) (by simp)).mono ?_
       rintro e d1 ⟨rfl, hS, hT0⟩
       have hT := (((Ext.refl _).alloc _).touch (onlyB c)).trans hT0
       rw [mayN_one] at hS ⊢
       have HD1 := Lib.hid (HVA.out.step lb hT hS)
       skip
       clear hT0 hT hS
       have hRd := HRA.out
       unfold duringP at hRd
       have hD1 := HD1.out
       cases hat : isT [65, 84] (c.ts jb) with
       | true =>
         rw [hat, if_pos rfl, show ([[65, 84]] : List Str).length = 1 from rfl] at hD1
         simp only [hat, if_true, Src.tail] at hRd
         obtain ⟨J1, hJ1⟩ : ∃ J1, J1 = jb + 1 := ⟨_, rfl⟩
         rw [← hJ1] at hD1 hRd
         have HD1b := Lib.hid hD1
         have HRd := Lib.hid hRd
         clear hD1 hRd hat HD1 hJ1
         go_wp2
         refine region_calm [.p 0, .h 1 false, .p 2, .p 3, .p 4, .p 5, .l 6, .p 7, .p 8, .p 9, .l 10, .p 11, .p 12, .l 13, .p 14, .p 15] f_mixed (by kernel_rfl) (by kernel_rfl) ?_
         repeat ((first | refine plan_p rfl (fun K hK => ?_) | refine plan_l rfl (fun K hK => ?_)); go_simp; refine hK _ ?_; clear hK K)
         refine plan_c rfl rfl (fun K _ hK => ?_)
         go_wp2_with fail
         refine (is_ok c J1 0 _ (HD1b.out.src.ext (Ext.refl _).drew) 2 none [] rfl (by simp)).mono ?_
         rintro e d2 ⟨rfl, hE2⟩
         rw [isR_nil]
         have HE2 := Lib.hid ((Ext.refl _).drew.trans hE2)
         have HD2 := Lib.hid (HD1b.out.step lb (HE2.out.touch _) (HD1b.out.src.ext HE2.out))
         clear hE2
         cases hk : isK 2 (c.ts J1) with
         | false =>
           have HRx : Hid (number c.E (c.ts J1) = .error (150, plc c.E (c.ts J1)) ∧ R = .error (150, plc c.E (c.ts J1))) := by
             have h1 : number c.E (c.ts J1) = .error (150, plc c.E (c.ts J1)) := by rw [number, hk]; rfl
             have h2 := HRd.out
             rw [if_neg (by simp [hk]), h1] at h2
             exact Lib.hid ⟨h1, h2⟩
           clear hk
           go_wp2_with fail
           repeat ((first | refine plan_p rfl (fun K hK => ?_) | refine plan_l rfl (fun K hK => ?_)); go_simp; refine hK _ ?_; clear hK K)
           refine plan_done ?_
           go_wp2_with fail
           refine (number_ok' c J1 0 _ HD2.out.src).mono ?_
           rintro e d3 ⟨hT, hp⟩
           rw [HRx.out.1] at hp
           obtain rfl := hp
           exact ⟨rfl, RdPost.bad HRx.out.2 (HD2.out.touch.trans hT)⟩
         | true =>
           have hi := nxt_lt hk
           obtain ⟨b, tk, hg, ht, hb, hbn, hts, c0, c1, c2, c3⟩ := HD2.out.src.at hi
           have z := tidx_ok hg hi
           have HTS := Lib.hid hts
           have HK := Lib.hid hk
           obtain ⟨q0, q1, q2, q3⟩ := blk4 HD2.out.src.blk
           have lb2 := blk_lt HD2.out.src.blk
           obtain ⟨A, hA⟩ : ∃ A : Int, A = (tk.2.2.1 : Int) := ⟨_, rfl⟩
           rw [← hA] at c2
           have HA := Lib.hid hA
           clear hk hg ht hts c0 c1 c3 hA
           by_cases hf : 1099511627776 ≤ A
           · have t1 : decide ((1099511627776 : Int) ≤ A) = true := by simpa using hf
             have HRx : Hid (R = .error (40, plc c.E (c.ts J1))) := by
              have h2 := HRd.out
              rw [if_pos ⟨HK.out, by rw [HTS.out]; have h3 := HA.out; simp only [nmb, FOREVER]; omega⟩] at h2
              exact Lib.hid h2
             clear hf
             go_wp2_with fail
             repeat ((first | refine plan_p rfl (fun K hK => ?_) | refine plan_l rfl (fun K hK => ?_)); go_simp; refine hK _ ?_; clear hK K)
             refine plan_done ?_
             go_wp2_with fail
             refine (fail_ok c J1 0 _ HD2.out.src 40).mono ?_
             rintro e d3 ⟨rfl, hE3⟩
             go_wp2
             exact ⟨rfl, RdPost.bad HRx.out (HD2.out.touch.trans (hE3.touch _))⟩
           · have t1 : decide ((1099511627776 : Int) ≤ A) = false := by simpa using hf
             have HRx : Hid (R = fin (fun o => { St.none with kind := [83, 69, 76, 69, 67, 84], query := qs, ops := ops, asOf := la, during := [(tk.2.2.1, tk.2.2.1 + 1)], order := o }) (orderP c.E (c.ts (J1 + 1))) ∧ number c.E (c.ts J1) = .ok (tk.2.2.1, c.ts (J1 + 1))) := by
              have h1 : number c.E (c.ts J1) = .ok (tk.2.2.1, c.ts (J1 + 1)) := by rw [number, if_pos HK.out, Src.tail, HTS.out]; rfl
              have h2 := HRd.out
              rw [if_neg (by rintro ⟨-, h4⟩; rw [HTS.out] at h4; have h3 := HA.out; simp only [nmb, FOREVER] at h4; omega), h1, fin_ok, bnd_ok] at h2
              exact Lib.hid ⟨h2, h1⟩
             have hw1 : IntKind.i64.wrap ((tk.2.2.1 : Int) + 1) = (tk.2.2.1 : Int) + 1 := by have h3 := HA.out; rw [IntKind.wrap_i64]; omega
             have HW1 := Lib.hid hw1
             clear hf hw1
             go_wp2_with fail
             repeat ((first | refine plan_p rfl (fun K hK => ?_) | refine plan_l rfl (fun K hK => ?_)); go_simp; refine hK _ ?_; clear hK K)
             refine plan_done ?_
             go_wp2_with fail
             refine (number_ok' c J1 0 _ HD2.out.src).mono ?_
             rintro e d3 ⟨hT, hp⟩
             rw [HRx.out.2] at hp
             obtain ⟨v, jd, rfl, rfl, hjd, hS⟩ := hp
             have HD3 := Lib.hid (HD2.out.step lb hT hS)
             have HRy : Hid (R = fin (fun o => { St.none with kind := [83, 69, 76, 69, 67, 84], query := qs, ops := ops, asOf := la, during := [(tk.2.2.1, tk.2.2.1 + 1)], order := o }) (orderP c.E (c.ts jd))) := by have h1 := HRx.out.1; rw [hjd] at h1; exact Lib.hid h1
             clear hT hS hjd c2 z hb q0 q1 q2 q3 lb2 t1
             have hw1 := HW1.out
             have HD4 : Hid (Vg StK 33 zSt w vb ((d3.setCell ⟨vb, 12, none⟩ (.slice (some ⟨d3.heap.size, 0, none⟩) 1 1)).alloc (.cells #[.int .i64 (tk.2.2.1 : Int), .int .i64 ((tk.2.2.1 : Int) + 1)] 28)) c jd 0 [str [83, 69, 76, 69, 67, 84], str [], .slice none 0 0, .slice none 0 0, .slice none 0 0, .slice none 0 0, .int .i64 0, .int .i64 0, .slice none 0 0, slv gq qs.length capq, slv go ops.length capo, vA, (.slice (some ⟨d3.heap.size, 0, none⟩) 1 1), (.slice none 0 0)] { St.none with kind := [83, 69, 76, 69, 67, 84], query := qs, ops := ops, asOf := la, during := [(tk.2.2.1, tk.2.2.1 + 1)], order := [] }) := by
              refine Lib.hid (HD3.out.put H.out 12 _ _ ?_)
              obtain ⟨vv, hcs, hok⟩ := HD3.out.q
              simp only [stCells, List.cons.injEq, and_true] at hcs
              obtain ⟨-, -, h2, h3, h4, h5, -, -, h8, h9, h10, h11, h12, h13⟩ := hcs
              exact ⟨⟨.slice none 0 0, .slice none 0 0, .slice none 0 0, .slice none 0 0, .slice none 0 0, slv gq qs.length capq, slv go ops.length capo, vA, (.slice (some ⟨d3.heap.size, 0, none⟩) 1 1), (.slice none 0 0)⟩, rfl, ⟨h2 ▸ hok.col.keep _ (vput_old _ _ _), h3 ▸ hok.key.keep _ (vput_old _ _ _), h4 ▸ hok.val.keep _ (vput_old _ _ _), h5 ▸ hok.set.keep _ (vput_old _ _ _), h8 ▸ hok.cond.keep _ (vput_old _ _ _), h9 ▸ hok.qu.keep _ (vput_old _ _ _), h10 ▸ hok.op.keep _ (vput_old _ _ _), h11 ▸ hok.asof.keep _ (vput_old _ _ _), VLA.one PerK (cs := [.int .i64 (tk.2.2.1 : Int), .int .i64 ((tk.2.2.1 : Int) + 1)]) (blk_new_at _ (by simp only [size_set])) rfl ⟨by have := HD3.out.vb; have := blk_lt HD3.out.blk; omega, by have := blk_lt HD3.out.blk; omega⟩, h13 ▸ hok.ord.keep _ (vput_old _ _ _)⟩⟩
             obtain ⟨a0, a1, a2, a3, a4, a5, a6, a7, a8, a9, a10, a11, a12, a13⟩ := blk14 HD3.out.blk
             have la9 := blk_lt HD3.out.blk
             have fa := fun k => blk_frozen HD3.out.blk k
             clear a0 a1 a2 a3 a4 a5 a6 a7 a8 a9 a10
             go_wp2
             go_meet
             case rel => exact ⟨jd, [(tk.2.2.1, tk.2.2.1 + 1)], .slice (some ⟨d3.heap.size, 0, none⟩) 1 1, HD4.out, HRy.out⟩
       | false =>
         rw [hat, if_neg (by simp)] at hD1
         simp only [hat, Bool.false_eq_true, if_false] at hRd
         have HD1b := Lib.hid hD1
         have HRd := Lib.hid hRd
         clear hD1 hRd hat HD1
         go_wp2_with fail
         refine (may_ok c jb 0 _ (HD1b.out.src.ext ((Ext.refl _).alloc _)) (some _) [[68, 85, 82, 73, 78, 71]] (txts_at _ [[68, 85, 82, 73, 78, 71]] (by simp [size_set])) (by simp)).mono ?_
         rintro e d2 ⟨rfl, hS, hT0⟩
         have hT := (((Ext.refl _).alloc _).touch (onlyB c)).trans hT0
         rw [mayN_one] at hS ⊢
         have HD2 := Lib.hid (HD1b.out.step lb hT hS)
         skip
         clear hT0 hT hS
         have hD2 := HD2.out
         have hRd := HRd.out
         cases hdu : isT [68, 85, 82, 73, 78, 71] (c.ts jb) with
         | false =>
           rw [hdu, if_neg (by simp)] at hD2
           simp only [hdu, Bool.false_eq_true, if_false, bnd_ok] at hRd
           have HD2b := Lib.hid hD2
           have HRe := Lib.hid hRd
           clear hD2 hRd hdu HD2
           go_wp2
           go_meet
           case rel => exact ⟨jb, [], .slice none 0 0, HD2b.out, HRe.out⟩
         | true =>
           rw [hdu, if_pos rfl] at hD2
           simp only [hdu, if_true, Src.tail] at hRd
           have HD2b := Lib.hid hD2
           have HRe := Lib.hid hRd
           clear hD2 hRd hdu HD2
           go_wp2_with fail
           refine (period_ok c (jb + 1) 0 _ HD2b.out.src).mono ?_
           rintro e d3 ⟨hT, hp⟩
           have hR := HRe.out
           rcases hr : period c.E (c.ts (jb + 1)) with ⟨k, p⟩ | ⟨pz, ts⟩
           · rw [hr] at hp
             simp only [hr, bnd_error, fin_error] at hR
             obtain rfl := hp
             exact ⟨rfl, RdPost.bad hR (HD2b.out.touch.trans hT)⟩
           rw [hr] at hp
           obtain ⟨v, jd, rfl, rfl, rfl, hS⟩ := hp
           simp only [hr, bnd_ok, fin_ok] at hR
           have HD3 := Lib.hid (HD2b.out.step lb hT hS)
           have HRy := Lib.hid hR
           skip
           clear hT hS hR hr
           have HD4 : Hid (Vg StK 33 zSt w vb ((d3.setCell ⟨vb, 12, none⟩ (.slice (some ⟨d3.heap.size, 0, none⟩) 1 1)).alloc (.cells #[.int .i64 (pz.1 : Int), .int .i64 (pz.2 : Int)] 28)) c jd 0 [str [83, 69, 76, 69, 67, 84], str [], .slice none 0 0, .slice none 0 0, .slice none 0 0, .slice none 0 0, .int .i64 0, .int .i64 0, .slice none 0 0, slv gq qs.length capq, slv go ops.length capo, vA, (.slice (some ⟨d3.heap.size, 0, none⟩) 1 1), (.slice none 0 0)] { St.none with kind := [83, 69, 76, 69, 67, 84], query := qs, ops := ops, asOf := la, during := [pz], order := [] }) := by
             refine Lib.hid (HD3.out.put H.out 12 _ _ ?_)
             obtain ⟨vv, hcs, hok⟩ := HD3.out.q
             simp only [stCells, List.cons.injEq, and_true] at hcs
             obtain ⟨-, -, h2, h3, h4, h5, -, -, h8, h9, h10, h11, h12, h13⟩ := hcs
             exact ⟨⟨.slice none 0 0, .slice none 0 0, .slice none 0 0, .slice none 0 0, .slice none 0 0, slv gq qs.length capq, slv go ops.length capo, vA, (.slice (some ⟨d3.heap.size, 0, none⟩) 1 1), (.slice none 0 0)⟩, rfl, ⟨h2 ▸ hok.col.keep _ (vput_old _ _ _), h3 ▸ hok.key.keep _ (vput_old _ _ _), h4 ▸ hok.val.keep _ (vput_old _ _ _), h5 ▸ hok.set.keep _ (vput_old _ _ _), h8 ▸ hok.cond.keep _ (vput_old _ _ _), h9 ▸ hok.qu.keep _ (vput_old _ _ _), h10 ▸ hok.op.keep _ (vput_old _ _ _), h11 ▸ hok.asof.keep _ (vput_old _ _ _), VLA.one PerK (cs := [.int .i64 (pz.1 : Int), .int .i64 (pz.2 : Int)]) (blk_new_at _ (by simp only [size_set])) rfl ⟨by have := HD3.out.vb; have := blk_lt HD3.out.blk; omega, by have := blk_lt HD3.out.blk; omega⟩, h13 ▸ hok.ord.keep _ (vput_old _ _ _)⟩⟩
           obtain ⟨a0, a1, a2, a3, a4, a5, a6, a7, a8, a9, a10, a11, a12, a13⟩ := blk14 HD3.out.blk
           have la9 := blk_lt HD3.out.blk
           have fa := fun k => blk_frozen HD3.out.blk k
           clear a0 a1 a2 a3 a4 a5 a6 a7 a8 a9 a10
           go_wp2
           go_meet
           case rel => exact ⟨jd, [pz], .slice (some ⟨d3.heap.size, 0, none⟩) 1 1, HD4.out, HRy.out⟩
     case rest =>
     clear HVA HRA
     obtain ⟨jd, ld, vD, hVD, hRD⟩ := hcut
     have HVD := Lib.hid hVD
     have HRD := Lib.hid hRD
     clear hVD hRD
     go_wp2_with fail
     refine (may_ok c jd 0 _ (HVD.out.src.ext ((Ext.refl _).alloc _)) (some _) [[79, 82, 68, 69, 82]] (txts_at _ [[79, 82, 68, 69, 82]] (by simp [size_set])) (by simp)).mono ?_
     rintro e x1 ⟨rfl, hS, hT0⟩
     have hT := (((Ext.refl _).alloc _).touch (onlyB c)).trans hT0
     rw [mayN_one] at hS ⊢
     have HX1 := Lib.hid (HVD.out.step lb hT hS)
     skip
     clear hT0 hT hS
     have hX1 := HX1.out
     have hRo := HRD.out
     unfold orderP at hRo
     go_upto_if 92 with fail
     go_cut [] from 9 to 101 (fun wc => ∃ (je : Nat) (lr : List Str) (vR : Value), Vg StK 33 zSt w vb wc c je 0 [str [83, 69, 76, 69, 67, 84], str [], .slice none 0 0, .slice none 0 0, .slice none 0 0, .slice none 0 0, .int .i64 0, .int .i64 0, .slice none 0 0, slv gq qs.length capq, slv go ops.length capo, vA, vD, vR] { St.none with kind := [83, 69, 76, 69, 67, 84], query := qs, ops := ops, asOf := la, during := ld, order := lr } ∧ R = .ok ({ St.none with kind := [83, 69, 76, 69, 67, 84], query := qs, ops := ops, asOf := la, during := ld, order := lr }, c.ts je))
     case first =>
       cases ho : isT [79, 82, 68, 69, 82] (c.ts jd) with
       | false =>
         rw [ho, if_neg (by simp)] at hX1
         simp only [ho, Bool.false_eq_true, if_false, fin_ok] at hRo
         have HX1b := Lib.hid hX1
         have HRo := Lib.hid hRo
         clear hX1 hRo ho HX1
         go_wp2
         go_meet
         case rel => exact ⟨jd, [], .slice none 0 0, HX1b.out, HRo.out⟩
       | true =>
         rw [ho, if_pos rfl] at hX1
         simp only [ho, if_true, Src.tail] at hRo
         have HX1b := Lib.hid hX1
         have HRo := Lib.hid hRo
         clear hX1 hRo ho HX1
         go_wp2_with fail
         refine (must_ok c (jd + 1) 0 _ (HX1b.out.src.ext ((Ext.refl _).alloc _)) (some _) [[66, 89]] (txts_at _ [[66, 89]] (by simp [size_set])) (by simp)).mono ?_
         rintro e x2 ⟨hT0, hp⟩
         have hT := (((Ext.refl _).alloc _).touch (onlyB c)).trans hT0
         rw [mustN_one] at hp
         have hR := HRo.out
         rcases hr : must c.E [66, 89] (c.ts (jd + 1)) with ⟨k, p⟩ | ⟨⟨⟩, ts⟩
         · rw [hr] at hp
           simp only [hr, bnd_error, fin_error] at hR
           obtain rfl := hp
           exact ⟨rfl, RdPost.bad hR (HX1b.out.touch.trans hT)⟩
         rw [hr] at hp
         obtain ⟨v, k2, rfl, rfl, rfl, hS⟩ := hp
         simp only [hr, bnd_ok, fin_ok] at hR
         have HX2 := Lib.hid (HX1b.out.step lb hT hS)
         have HRo2 := Lib.hid hR
         skip
         clear hT0 hT hS hR hr
         go_wp2_with fail
         refine (list_str c k2 0 _ HX2.out.src _ ent_name (name c.E) (Suf.name c.E) (fun w i h => name_ok c i 0 w h)).mono ?_
         rintro e x3 ⟨hT, hp⟩
         have hR := HRo2.out
         rcases hr : sep (name c.E) (c.ts k2) with ⟨k, p⟩ | ⟨ol, ts⟩
         · rw [hr] at hp
           simp only [hr, bnd_error, fin_error] at hR
           obtain rfl := hp
           exact ⟨rfl, RdPost.bad hR (HX2.out.touch.trans hT)⟩
         rw [hr] at hp
         obtain ⟨v, k3, rfl, hv, rfl, hS⟩ := hp
         simp only [hr, bnd_ok, fin_ok] at hR
         have HX3 := Lib.hid (HX2.out.step lb hT hS)
         have HRo3 := Lib.hid hR
         have hv3 := VLA.of StrK (A := fun b => w.heap.size < b ∧ b ≠ vb) hv (fun b _ hb => by have := blk_lt HX2.out.blk; have := HX2.out.vb; omega)
         clear hT hS hR hr
         obtain ⟨gr, cr, rfl⟩ := hv3.slice
         have HX4 : Hid (Vg StK 33 zSt w vb (x3.setCell ⟨vb, 13, none⟩ (slv gr ol.length cr)) c k3 0 [str [83, 69, 76, 69, 67, 84], str [], .slice none 0 0, .slice none 0 0, .slice none 0 0, .slice none 0 0, .int .i64 0, .int .i64 0, .slice none 0 0, slv gq qs.length capq, slv go ops.length capo, vA, vD, slv gr ol.length cr] { St.none with kind := [83, 69, 76, 69, 67, 84], query := qs, ops := ops, asOf := la, during := ld, order := ol }) := by
           refine Lib.hid (HX3.out.set H.out 13 _ ?_)
           obtain ⟨vv, hcs, hok⟩ := HX3.out.q
           simp only [stCells, List.cons.injEq, and_true] at hcs
           obtain ⟨-, -, h2, h3, h4, h5, -, -, h8, h9, h10, h11, h12, h13⟩ := hcs
           exact ⟨⟨.slice none 0 0, .slice none 0 0, .slice none 0 0, .slice none 0 0, .slice none 0 0, slv gq qs.length capq, slv go ops.length capo, vA, vD, slv gr ol.length cr⟩, rfl, ⟨h2 ▸ hok.col, h3 ▸ hok.key, h4 ▸ hok.val, h5 ▸ hok.set, h8 ▸ hok.cond, h9 ▸ hok.qu, h10 ▸ hok.op, h11 ▸ hok.asof, h12 ▸ hok.dur, hv3⟩⟩
         clear hv hv3
         obtain ⟨a0, a1, a2, a3, a4, a5, a6, a7, a8, a9, a10, a11, a12, a13⟩ := blk14 HX3.out.blk
         have la9 := blk_lt HX3.out.blk
         have fa := fun k => blk_frozen HX3.out.blk k
         clear a0 a1 a2 a3 a4 a5 a6 a7 a8 a9 a10
         go_wp2
         go_meet
         case rel => exact ⟨k3, ol, slv gr ol.length cr, HX4.out, HRo3.out⟩
     case rest =>
     clear HX1 hX1 hRo
     obtain ⟨je, lr, vR, hVE, hRE⟩ := hcut
     have HVE := Lib.hid hVE
     have HRE := Lib.hid hRE
     clear hVE hRE
     have hsh : ∃ g1 n1 c1 g2 n2 c2 g3 n3 c3, vA = slv g1 n1 c1 ∧ vD = slv g2 n2 c2 ∧ vR = slv g3 n3 c3 := by
       obtain ⟨vv, hcs, hok⟩ := HVE.out.q
       simp only [stCells, List.cons.injEq, and_true] at hcs
       obtain ⟨-, -, h2, h3, h4, h5, -, -, h8, h9, h10, h11, h12, h13⟩ := hcs
       obtain ⟨g1, c1, e1⟩ := hok.asof.slice
       obtain ⟨g2, c2, e2⟩ := hok.dur.slice
       obtain ⟨g3, c3, e3⟩ := hok.ord.slice
       exact ⟨g1, _, c1, g2, _, c2, g3, _, c3, h11.trans e1, h12.trans e2, h13.trans e3⟩
     obtain ⟨g1, n1, c1, g2, n2, c2, g3, n3, c3, rfl, rfl, rfl⟩ := hsh
     obtain ⟨a0, a1, a2, a3, a4, a5, a6, a7, a8, a9, a10, a11, a12, a13⟩ := blk14 HVE.out.blk
     have la9 := blk_lt HVE.out.blk
     obtain ⟨b0, b1, b2, b3, b4, b5, b6, b7, b8, b9, b10, b11, b12, b13⟩ := blk14 HVE.out.res
     have lr9 := blk_lt HVE.out.res
     have fr := fun k => blk_frozen HVE.out.res k
     go_wp2
     refine bodyPost_ret (v := .agg [str [83, 69, 76, 69, 67, 84], str [], .slice none 0 0, .slice none 0 0, .slice none 0 0, .slice none 0 0, .int .i64 0, .int .i64 0, .slice none 0 0, slv gq qs.length capq, slv go ops.length capo, slv g1 n1 c1, slv g2 n2 c2, slv g3 n3 c3].toArray) (results_st rfl rfl (wr14_blk HVE.out.res _ _ _ _ _ _ _ _ _ _ _ _ _ _)) rfl ?_
     exact HVE.out.done H.out (wr14_touch _ _ _ _ _ _ _ _ _ _ _ _ _ _ _ _) (fun h => ⟨_, rfl, h⟩) HRE.out
end Go.Proofs.YtkhnpmeohjafiaaGreatDoor
