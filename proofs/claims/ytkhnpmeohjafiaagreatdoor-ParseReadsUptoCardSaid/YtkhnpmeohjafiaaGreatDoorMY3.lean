/- Lemmas. -/
import Derived.Test.YtkhnpmeohjafiaaGreatDoorMY2
import Derived.Test.YtkhnpmeohjafiaaGreatDoorMJ
set_option maxHeartbeats 16000000
set_option maxRecDepth 100000
namespace Go.Proofs.YtkhnpmeohjafiaaGreatDoor
open Go.RowKit
theorem run_deep {c : Rx} {d : Nat} {Y : Xs} {f : List Tok → Res Ex} : (deepX c d Y).run f = Y.run (dp c.E d f) := by
 unfold deepX dp
 by_cases h : 32 < d + 1
 · rw [if_pos h]
   cases Y with
   | error e => rfl
   | ok ts => show _ = (if d < 32 then _ else _); rw [if_neg (by omega)]; rfl
 · rw [if_neg h]
   cases Y with
   | error e => rfl
   | ok ts => show _ = (if d < 32 then _ else _); rw [if_pos (by omega)]; rfl
theorem Dp.deep {c : Rx} {d : Nat} {Y : Xs} (hd : d ≤ 32) : Dp (d + 1) (deepX c d Y) := by
 unfold deepX
 by_cases h : 32 < d + 1
 · rw [if_pos h]
   refine ⟨by omega, .inr ?_⟩
   cases Y with
   | error e => exact ⟨e, rfl⟩
   | ok ts => exact ⟨_, rfl⟩
 · exact ⟨by omega, .inl (by omega)⟩
theorem run_then {α : Type} {X : Xs} {f : List Tok → Res α} {x : α} (hx : Got X f x) : X.run f = (X.then f).run fun ts => .ok (x, ts) := by
 have h := run_bnd (g := fun x ts => .ok (x, ts)) hx
 rw [← h]
 cases X with
 | error e => rfl
 | ok ts => show f ts = bnd (f ts) _; cases f ts <;> rfl
theorem tok_kind {ts : List Tok} (k : Nat) (hk : k ≠ 0) : isK k ts = ((tokN (.ok ts)).1 == k) := by
 cases ts with
 | nil => show false = ((0 : Nat) == k); rw [eq_comm, beq_eq_false_iff_ne]; exact fun h => hk h.symm
 | cons t ts => rfl
section
variable {α β : Type} {Y Z : Xs} {x : α}
theorem run_fin2 {f : List Tok → Res α} {F : α → β} (h : Y.run f = Z.run fun ts => .ok (x, ts)) : Y.run (fun ts => fin F (f ts)) = Z.run fun ts => .ok (F x, ts) := by
 have h1 : Y.run (fun ts => fin F (f ts)) = fin F (Y.run f) := by cases Y <;> rfl
 rw [h1, h]
 cases Z <;> rfl
theorem run_bnd2 {f : List Tok → Res α} {g : α → List Tok → Res β} (h : Y.run f = Z.run fun ts => .ok (x, ts)) : Y.run (fun ts => bnd (f ts) g) = Z.run (g x) := by
 have h1 : Y.run (fun ts => bnd (f ts) g) = bnd (Y.run f) g := by cases Y <;> rfl
 rw [h1, h]
 cases Z <;> rfl
end
section
variable {E : Nat} {fs es : List Tok → Res Ex} {ts : List Tok} {tk tn tp : Nat} {tt : Str}
theorem fac_num (ht : tokN (.ok ts) = (tk, tt, tn, tp)) (h : tk = 2) : factorOf E fs es ts = .ok (eNum tn, ts.tail) := by
 have h1 : isK 2 ts = true := by rw [tok_kind 2 (by decide), ht]; simp [h]
 rw [factorOf, if_pos h1]
 cases ts with
 | nil => cases h1
 | cons t ts => have h2 : t = (tk, tt, tn, tp) := ht; subst h2; rfl
theorem fac_txt (ht : tokN (.ok ts) = (tk, tt, tn, tp)) (h : tk = 3) : factorOf E fs es ts = .ok (eText tt, ts.tail) := by
 have h1 : isK 2 ts = false := by rw [tok_kind 2 (by decide), ht]; simp [h]
 have h3 : isK 3 ts = true := by rw [tok_kind 3 (by decide), ht]; simp [h]
 rw [factorOf, if_neg (by simp [h1]), if_pos h3]
 cases ts with
 | nil => cases h3
 | cons t ts => have h2 : t = (tk, tt, tn, tp) := ht; subst h2; rfl
theorem fac_neg (ht : tokN (.ok ts) = (tk, tt, tn, tp)) (h2 : ¬ tk = 2) (h3 : ¬ tk = 3) (hm : isX [45] (.ok ts) = true) : Xs.run (.ok ts) (factorOf E fs es) = (behind (.ok ts)).run fun ts => fin (eOne [45]) (fs ts) := by
 have e2 : isK 2 ts = false := by rw [tok_kind 2 (by decide), ht]; simpa using h2
 have e3 : isK 3 ts = false := by rw [tok_kind 3 (by decide), ht]; simpa using h3
 have e4 : isT [45] ts = true := hm
 show factorOf E fs es ts = _
 rw [factorOf, if_neg (by simp [e2]), if_neg (by simp [e3]), if_pos e4]; rfl
theorem fac_par (ht : tokN (.ok ts) = (tk, tt, tn, tp)) (h2 : ¬ tk = 2) (h3 : ¬ tk = 3) (hm : isX [45] (.ok ts) = false) (hp : isX [40] (.ok ts) = true) : Xs.run (.ok ts) (factorOf E fs es) = (behind (.ok ts)).run fun ts => bnd (es ts) fun e r => bnd (must E [41] r) fun _ r' => .ok (e, r') := by
 have e2 : isK 2 ts = false := by rw [tok_kind 2 (by decide), ht]; simpa using h2
 have e3 : isK 3 ts = false := by rw [tok_kind 3 (by decide), ht]; simpa using h3
 have e4 : isT [45] ts = false := hm
 have e5 : isT [40] ts = true := hp
 show factorOf E fs es ts = _
 rw [factorOf, if_neg (by simp [e2]), if_neg (by simp [e3]), if_neg (by simp [e4]), if_pos e5]; rfl
theorem fac_item (ht : tokN (.ok ts) = (tk, tt, tn, tp)) (h2 : ¬ tk = 2) (h3 : ¬ tk = 3) (hm : isX [45] (.ok ts) = false) (hp : isX [40] (.ok ts) = false) : Xs.run (.ok ts) (factorOf E fs es) = Xs.run (.ok ts) (item E) := by
 have e2 : isK 2 ts = false := by rw [tok_kind 2 (by decide), ht]; simpa using h2
 have e3 : isK 3 ts = false := by rw [tok_kind 3 (by decide), ht]; simpa using h3
 have e4 : isT [45] ts = false := hm
 have e5 : isT [40] ts = false := hp
 show factorOf E fs es ts = _
 rw [factorOf, if_neg (by simp [e2]), if_neg (by simp [e3]), if_neg (by simp [e4]), if_neg (by simp [e5])]; rfl
end
theorem In.next {c : Rx} {ts : List Tok} {a k p : Nat} (h : In c (.ok ts) a k p) (hk : (tokN (.ok ts)).1 ≠ 0) : a < c.all.length ∧ In c (.ok ts.tail) (a + 1) k p := by
 obtain ⟨ha, h0, rfl⟩ := h
 have hlt : a < c.all.length := by
  apply Classical.byContradiction
  intro hn
  rw [List.drop_eq_nil_of_le (by omega)] at hk
  exact hk rfl
 exact ⟨hlt, ⟨by omega, h0, by rw [List.tail_drop]⟩⟩
theorem mayX_yes {s : Str} {X : Xs} (h : isX s X = true) : mayX s X = behind X := by unfold mayX; rw [if_pos h]
theorem mayX_no {s : Str} {X : Xs} (h : isX s X = false) : mayX s X = X := by unfold mayX; rw [if_neg (by simp [h])]
theorem rfactor_ok (c : Rx) (d : Nat) (fs es : List Tok → Res Ex) (hfs : d ≤ 32 → RdrX 157 c (d + 1) fs) (hes : d ≤ 32 → RdrX 100 c (d + 1) es) :
   RdrX 157 c d (factorOf c.E (dp c.E d fs) (dp c.E d es)) := by
 intro X a k p w h hx hd
 have H := Lib.hid h
 have HX := Lib.hid hx
 have HD := Lib.hid hd
 have HFS := Lib.hid hfs
 have HES := Lib.hid hes
 have hsm := h.small
 have hle := hx.1
 have hdd := hd.1
 clear h hx hd hfs hes
 unfold sv
 have E_w : Hid (Ext w w) := Lib.hid (Ext.refl w)
 go_enter Tryz.func157, Tryz.ntmps157
 rcases X with ⟨kf, pf⟩ | ts
 · obtain ⟨-, rfl, rfl, hk0⟩ := HX.out
   have hk1 : ((k : Int) != 0) = true := by simp; omega
   clear hk0
   go_wp2
   refine wp_nm (fun w2 hE => ?_)
   have n_ := nst3 w
   have E_w2 := aE E_w hE;have Bs_w2 := nk6 (w.heap.size) hE;have Bx_w2 := nk5 (w.heap.size + 1) hE;have Br_w2 := nk6 (w.heap.size + 1 + 1) hE
   clear hE
   have z_w2 := E_w2.out.size;have c_s := opn6 Bs_w2;have c_x := opn5 Bx_w2;have c_r := opn6 Br_w2
   letI : Tch.TS := ⟨fun b => b = w.heap.size + 1⟩
   refine Tch.region_calm [.p 0, .e 1, .h 2 true, .h 3 false] f_mixed (by kernel_rfl) (by kernel_rfl) ?_
   repeat (refine Tch.plan_p rfl (fun K hK => ?_); go_simp; refine hK _ ?_; clear hK K)
   refine Tch.plan_e1 rfl rfl (.agg #[slv c.g c.all.length c.cap, .int .i64 (a : Int), .int .i64 (c.E : Int), .int .i64 (d : Int), .int .i64 (k : Int), .int .i64 (p : Int)]) (fun w' he => ?_) (fun K hK => ?_)
   · have d := tch6 he c_s (fun (e : _ = _) => by omega)
     clear c_s he
     go_simp
   go_simp; refine hK _ ?_; clear hK K
   refine Tch.plan_ct rfl rfl (fun K _ hK => ?_)
   go_wp2
   refine hK _ _ (late5d _ _ _ _ _ _ _) ?_; clear hK K
   refine Tch.plan_c rfl rfl (fun K _ hK => ?_)
   go_wp2
   refine tch_done ?_
   go_wp2
   (try simp only [Exit.inBlock, Exit.then])
   refine bodyPost_ret (v := .tuple #[.agg #[str [], .int .i64 (0 : Int), str [], str [], slv none 0 0], .agg #[slv c.g c.all.length c.cap, .int .i64 (a : Int), .int .i64 (c.E : Int), .int .i64 (d : Int), .int .i64 (k : Int), .int .i64 (p : Int)]]) (res_cc rfl rfl (lv_ex (xb5 Bx_w2)) rfl (lv_src (xb6 Br_w2))) rfl ?_
   refine ⟨[], 0, [], [], [], none, 0, a, k, p, rfl, HX.out, (fun ts y r hX => by cases hX), leaf_cells _ _ _ _ _ _, ?_⟩
   exact (xE E_w2)
 · skip
   have hk1 : ((k : Int) != 0) = false := by have := HX.out.2.1; simp; omega
   obtain ⟨t, htt⟩ : ∃ t, tokN (.ok ts) = t := ⟨_, rfl⟩
   obtain ⟨tk, tt, tn, tp⟩ := t
   have HTT := Lib.hid htt
   clear htt
   go_wp2_with fail
   refine (rnext_ok c (.ok ts) a d k p _ (H.out.ext (xE E_w)) HX.out).mono ?_
   rintro e w2 ⟨rfl, hE⟩
   have n_ := nst3 w
   have E_w2 := aE E_w hE;have Bs_w2 := nk6 (w.heap.size) hE;have Bx_w2 := nk5 (w.heap.size + 1) hE;have Br_w2 := nk6 (w.heap.size + 1 + 1) hE
   clear hE
   have z_w2 := E_w2.out.size;have c_s := opn6 Bs_w2;have c_x := opn5 Bx_w2;have c_r := opn6 Br_w2
   rw [HTT.out]
   unfold tokV
   by_cases hq2 : tk = 2
   · have e2 : ((tk : Int) == 2) = true := by simp [hq2]
     have HK := Lib.hid hq2
     clear hq2
     have hlt : a < c.all.length ∧ In c (.ok ts.tail) (a + 1) k p := HX.out.next (by rw [HTT.out]; have := HK.out; dsimp only; omega)
     have HN := Lib.hid hlt.2
     have hlt := hlt.1
     go_wp2
     refine wp_nm (fun w3 hE => ?_)
     have n_s_t := ne2 (show w.heap.size ≠ w2.heap.size by omega);have n_x_t := ne2 (show w.heap.size + 1 ≠ w2.heap.size by omega);have n_r_t := ne2 (show w.heap.size + 1 + 1 ≠ w2.heap.size by omega)
     have E_w3 := aE E_w2 hE;have Bs_w3 := bk6 Bs_w2 hE;have Bx_w3 := bk5 Bx_w2 hE;have Br_w3 := bk6 Br_w2 hE;have Bt_w3 := nk4 (w2.heap.size) hE;have T_w3 : Hid (Touch (S3 w) w2 w3) := aT hE
     clear hE c_s c_x c_r Bs_w2 Bx_w2 Br_w2
     have z_w3 := E_w3.out.size;have c_s := opn6 Bs_w3;have c_x := opn5 Bx_w3;have c_r := opn6 Br_w3;have c_t := opn4 Bt_w3
     letI : Tch.TS := ⟨fun b => b = w.heap.size + 1⟩
     refine Tch.region_calm [.p 0, .e 1, .p 2, .e 3, .h 4 true, .h 5 false] f_mixed (by kernel_rfl) (by kernel_rfl) ?_
     repeat (refine Tch.plan_p rfl (fun K hK => ?_); go_simp; refine hK _ ?_; clear hK K)
     refine Tch.plan_e1 rfl rfl (.int .i64 (tn : Int)) (fun w' he => ?_) (fun K hK => ?_)
     · have d := tch4 he c_t (fun (e : _ = _) => by omega)
       clear c_t he
       go_simp
     go_simp; refine hK _ ?_; clear hK K
     repeat (refine Tch.plan_p rfl (fun K hK => ?_); go_simp; refine hK _ ?_; clear hK K)
     refine Tch.plan_e1 rfl rfl (.agg #[slv c.g c.all.length c.cap, .int .i64 (a + 1 : Int), .int .i64 (c.E : Int), .int .i64 (d : Int), .int .i64 (k : Int), .int .i64 (p : Int)]) (fun w' he => ?_) (fun K hK => ?_)
     · have d := tch6 he c_s (fun (e : _ = _) => by omega)
       clear c_s he
       go_simp
     go_simp; refine hK _ ?_; clear hK K
     repeat (refine Tch.plan_p rfl (fun K hK => ?_); go_simp; refine hK _ ?_; clear hK K)
     refine Tch.plan_ct rfl rfl (fun K _ hK => ?_)
     go_wp2
     refine hK _ _ (late5d _ _ _ _ _ _ _) ?_; clear hK K
     refine Tch.plan_c rfl rfl (fun K _ hK => ?_)
     go_wp2
     refine tch_done ?_
     go_wp2
     (try simp only [Exit.inBlock, Exit.then])
     refine bodyPost_ret (v := .tuple #[.agg #[str [110, 117, 109, 98, 101, 114], .int .i64 (tn : Int), str [], str [], slv none 0 0], .agg #[slv c.g c.all.length c.cap, .int .i64 (a + 1 : Int), .int .i64 (c.E : Int), .int .i64 (d : Int), .int .i64 (k : Int), .int .i64 (p : Int)]]) (res_cc rfl rfl (lv_ex (xb5 Bx_w3)) rfl (lv_src (xb6 Br_w3))) rfl ?_
     obtain ⟨h2, h3⟩ := run_end (X := .ok ts) (Y := .ok ts.tail) (F := factorOf c.E (dp c.E d fs) (dp c.E d es)) (by show factorOf c.E (dp c.E d fs) (dp c.E d es) ts = _; rw [fac_num HTT.out HK.out]; rfl) HN.out
     refine ⟨_, _, _, _, [], none, 0, a + 1, k, p, rfl, h2, h3, leaf_cells _ _ _ _ _ _, ?_⟩
     exact (xE E_w3)
   have e2 : ((tk : Int) == 2) = false := by simp; omega
   have HN2 := Lib.hid hq2
   clear hq2
   by_cases hq3 : tk = 3
   · have e3 : ((tk : Int) == 3) = true := by simp [hq3]
     have HK := Lib.hid hq3
     clear hq3
     have hlt : a < c.all.length ∧ In c (.ok ts.tail) (a + 1) k p := HX.out.next (by rw [HTT.out]; have := HK.out; dsimp only; omega)
     have HN := Lib.hid hlt.2
     have hlt := hlt.1
     go_wp2
     refine wp_nm (fun w3 hE => ?_)
     have n_s_t := ne2 (show w.heap.size ≠ w2.heap.size by omega);have n_x_t := ne2 (show w.heap.size + 1 ≠ w2.heap.size by omega);have n_r_t := ne2 (show w.heap.size + 1 + 1 ≠ w2.heap.size by omega)
     have E_w3 := aE E_w2 hE;have Bs_w3 := bk6 Bs_w2 hE;have Bx_w3 := bk5 Bx_w2 hE;have Br_w3 := bk6 Br_w2 hE;have Bt_w3 := nk4 (w2.heap.size) hE;have T_w3 : Hid (Touch (S3 w) w2 w3) := aT hE
     clear hE c_s c_x c_r Bs_w2 Bx_w2 Br_w2
     have z_w3 := E_w3.out.size;have c_s := opn6 Bs_w3;have c_x := opn5 Bx_w3;have c_r := opn6 Br_w3;have c_t := opn4 Bt_w3
     letI : Tch.TS := ⟨fun b => b = w.heap.size + 1⟩
     refine Tch.region_calm [.p 0, .e 1, .p 2, .e 3, .h 4 true, .h 5 false] f_mixed (by kernel_rfl) (by kernel_rfl) ?_
     repeat (refine Tch.plan_p rfl (fun K hK => ?_); go_simp; refine hK _ ?_; clear hK K)
     refine Tch.plan_e1 rfl rfl (str tt) (fun w' he => ?_) (fun K hK => ?_)
     · have d := tch4 he c_t (fun (e : _ = _) => by omega)
       clear c_t he
       go_simp
     go_simp; refine hK _ ?_; clear hK K
     repeat (refine Tch.plan_p rfl (fun K hK => ?_); go_simp; refine hK _ ?_; clear hK K)
     refine Tch.plan_e1 rfl rfl (.agg #[slv c.g c.all.length c.cap, .int .i64 (a + 1 : Int), .int .i64 (c.E : Int), .int .i64 (d : Int), .int .i64 (k : Int), .int .i64 (p : Int)]) (fun w' he => ?_) (fun K hK => ?_)
     · have d := tch6 he c_s (fun (e : _ = _) => by omega)
       clear c_s he
       go_simp
     go_simp; refine hK _ ?_; clear hK K
     repeat (refine Tch.plan_p rfl (fun K hK => ?_); go_simp; refine hK _ ?_; clear hK K)
     refine Tch.plan_ct rfl rfl (fun K _ hK => ?_)
     go_wp2
     refine hK _ _ (late5d _ _ _ _ _ _ _) ?_; clear hK K
     refine Tch.plan_c rfl rfl (fun K _ hK => ?_)
     go_wp2
     refine tch_done ?_
     go_wp2
     (try simp only [Exit.inBlock, Exit.then])
     refine bodyPost_ret (v := .tuple #[.agg #[str [116, 101, 120, 116], .int .i64 (0 : Int), str tt, str [], slv none 0 0], .agg #[slv c.g c.all.length c.cap, .int .i64 (a + 1 : Int), .int .i64 (c.E : Int), .int .i64 (d : Int), .int .i64 (k : Int), .int .i64 (p : Int)]]) (res_cc rfl rfl (lv_ex (xb5 Bx_w3)) rfl (lv_src (xb6 Br_w3))) rfl ?_
     obtain ⟨h2, h3⟩ := run_end (X := .ok ts) (Y := .ok ts.tail) (F := factorOf c.E (dp c.E d fs) (dp c.E d es)) (by show factorOf c.E (dp c.E d fs) (dp c.E d es) ts = _; rw [fac_txt HTT.out HK.out]; rfl) HN.out
     refine ⟨_, _, _, _, [], none, 0, a + 1, k, p, rfl, h2, h3, leaf_cells _ _ _ _ _ _, ?_⟩
     exact (xE E_w3)
   have e3 : ((tk : Int) == 3) = false := by simp; omega
   have HN3 := Lib.hid hq3
   clear hq3
   go_wp2_with fail
   refine (rmay_ok c (.ok ts) a d k p [45] _ (H.out.ext (xE E_w2)) HX.out).mono ?_
   rintro e w3 ⟨a1, rfl, h_I1, hE⟩
   have n_s_t := ne2 (show w.heap.size ≠ w2.heap.size by omega);have n_x_t := ne2 (show w.heap.size + 1 ≠ w2.heap.size by omega);have n_r_t := ne2 (show w.heap.size + 1 + 1 ≠ w2.heap.size by omega)
   have E_w3 := aE E_w2 hE;have Bs_w3 := bk6 Bs_w2 hE;have Bx_w3 := bk5 Bx_w2 hE;have Br_w3 := bk6 Br_w2 hE;have Bt_w3 := nk4 (w2.heap.size) hE;have T_w3 : Hid (Touch (S3 w) w2 w3) := aT hE
   clear hE c_s c_x c_r Bs_w2 Bx_w2 Br_w2
   have z_w3 := E_w3.out.size;have c_s := opn6 Bs_w3;have c_x := opn5 Bx_w3;have c_r := opn6 Br_w3;have c_t := opn4 Bt_w3
   (try unfold sv)
   have I1 := Lib.hid h_I1; clear h_I1
   have h3r : w.heap.size + 1 + 1 < w3.heap.size := by omega
   have hd32 : d ≤ 32 := by
     rcases HD.out.2 with h | ⟨e, h⟩
     · exact h
     · cases h
   cases hm : isX [45] (.ok ts) with
   | true =>
     have HM := Lib.hid hm
     clear hm
     have HI1 : Hid (In c (behind (.ok ts)) a1 k p) := Lib.hid (by have := I1.out; rwa [mayX_yes HM.out] at this)
     have hle1 := HI1.out.1
     go_wp2_with fail
     refine (rdeep_ok c (behind (.ok ts)) a1 d k p _ (H.out.ext (xE E_w3)) HI1.out (by omega)).mono ?_
     rintro e w4 ⟨k2, p2, rfl, h_I2, hE⟩
     have n_s_u := ne2 (show w.heap.size ≠ w3.heap.size by omega);have n_x_u := ne2 (show w.heap.size + 1 ≠ w3.heap.size by omega);have n_r_u := ne2 (show w.heap.size + 1 + 1 ≠ w3.heap.size by omega);have n_t_u := ne2 (show w2.heap.size ≠ w3.heap.size by omega)
     have E_w4 := aE E_w3 hE;have Bs_w4 := bk6 Bs_w3 hE;have Bx_w4 := bk5 Bx_w3 hE;have Br_w4 := bk6 Br_w3 hE;have Bt_w4 := bk4 Bt_w3 hE;have Bu_w4 := nk6 (w3.heap.size) hE;have T_w4 : Hid (Touch (fun b => b = w.heap.size ∨ b = w.heap.size + 1 ∨ b = w.heap.size + 1 + 1 ∨ b = w2.heap.size) w3 w4) := aT hE
     clear hE c_s c_x c_r c_t Bs_w3 Bx_w3 Br_w3 Bt_w3
     have z_w4 := E_w4.out.size;have c_s := opn6 Bs_w4;have c_x := opn5 Bx_w4;have c_r := opn6 Br_w4;have c_t := opn4 Bt_w4;have c_u := opn6 Bu_w4
     (try unfold sv)
     have I2 := Lib.hid h_I2; clear h_I2
     have h4r : w.heap.size + 1 + 1 < w4.heap.size := by omega
     clear c_t n_s_t n_x_t n_r_t n_t_u
     clear c_u n_s_u n_x_u n_r_u
     go_wp2_with fail
     refine (HFS.out hd32 _ a1 k2 p2 _ (H.out.ext (xE E_w4)) I2.out (Dp.deep hd32)).mono ?_
     rintro e w5 ⟨op, n, t, o, args, g, cap, a3, k3, p3, rfl, h_I3, h_G3, h_C3, hE⟩
     have E_w5 := aE E_w4 hE;have Bs_w5 := bk6 Bs_w4 hE;have Bx_w5 := bk5 Bx_w4 hE;have Br_w5 := bk6 Br_w4 hE;have T_w5 : Hid (Touch (S3 w) w4 w5) := aT hE
     clear hE c_s c_x c_r Bs_w4 Bx_w4 Br_w4
     have z_w5 := E_w5.out.size;have c_s := opn6 Bs_w5;have c_x := opn5 Bx_w5;have c_r := opn6 Br_w5
     (try unfold sv)
     have I3 := Lib.hid h_I3; clear h_I3
     have G3 := Lib.hid h_G3; clear h_G3
     have C3 := Lib.hid h_C3; clear h_C3
     have hle3 := I3.out.1
     have C5 := Lib.hid (ExC.weak (A' := fun b => w.heap.size + 1 + 1 < b) C3.out (fun b _ hb => by have : w4.heap.size ≤ b := hb; omega))
     go_wp2
     refine wp_nm (fun w6 hE => ?_)
     have n_s_e := ne2 (show w.heap.size ≠ w5.heap.size by omega);have n_s_v := ne2 (show w.heap.size ≠ w5.heap.size + 1 by omega);have n_x_e := ne2 (show w.heap.size + 1 ≠ w5.heap.size by omega);have n_x_v := ne2 (show w.heap.size + 1 ≠ w5.heap.size + 1 by omega);have n_r_e := ne2 (show w.heap.size + 1 + 1 ≠ w5.heap.size by omega);have n_r_v := ne2 (show w.heap.size + 1 + 1 ≠ w5.heap.size + 1 by omega);have n_e_v := ne2 (show w5.heap.size ≠ w5.heap.size + 1 by omega)
     have E_w6 := aE E_w5 hE;have Bs_w6 := bk6 Bs_w5 hE;have Bx_w6 := bk5 Bx_w5 hE;have Br_w6 := bk6 Br_w5 hE;have Be_w6 := nk5 (w5.heap.size) hE;have Bv_w6 := nk6 (w5.heap.size + 1) hE;have T_w6 : Hid (Touch (S3 w) w5 w6) := aT hE
     clear hE c_s c_x c_r Bs_w5 Bx_w5 Br_w5
     have z_w6 := E_w6.out.size;have c_s := opn6 Bs_w6;have c_x := opn5 Bx_w6;have c_r := opn6 Br_w6;have c_e := opn5 Be_w6;have c_v := opn6 Bv_w6
     have h6r : w.heap.size + 1 + 1 < w6.heap.size := by omega
     have C6 := Lib.hid (ExC.keep (fun b hb ha => ⟨T_w6.out.block b hb (fun e => by have := hb; omega), ha⟩) _ _ C5.out)
     trace_state
     letI : Tch.TS := ⟨fun b => b = w.heap.size + 1⟩
     refine Tch.region_calm [.e 0, .e 2, .h 1 true, .h 3 true, .h 4 false] f_mixed (by kernel_rfl) (by kernel_rfl) ?_
     refine Tch.plan_e1 rfl rfl (.agg #[str op, .int .i64 (n : Int), str t, str o, slv g args.length cap]) (fun w' he => ?_) (fun K hK => ?_)
     · have d := tch5 he c_e (fun (e : _ = _) => by omega)
       clear c_e he
       go_simp
     go_simp; refine hK _ ?_; clear hK K
     refine Tch.plan_e1 rfl rfl (.agg #[slv c.g c.all.length c.cap, .int .i64 (a3 : Int), .int .i64 (c.E : Int), .int .i64 (d : Int), .int .i64 (k3 : Int), .int .i64 (p3 : Int)]) (fun w' he => ?_) (fun K hK => ?_)
     · have d := tch6 he c_v (fun (e : _ = _) => by omega)
       clear c_v he
       go_simp
     go_simp; refine hK _ ?_; clear hK K
     refine Tch.plan_ct rfl rfl (fun K _ hK => ?_)
     clear c_e n_s_e n_x_e n_r_e n_e_v
     clear c_v n_s_v n_x_v n_r_v
     go_wp2_with fail
     refine (r1_ok _ [45] op t o n g args.length cap).mono ?_
     rintro e w7 ⟨b2, rfl, h_L2, hE, h_B2⟩
     have KE := Lib.hid hE
     have E_w7 := aE E_w6 hE;have Bs_w7 := bk6 Bs_w6 hE;have Bx_w7 := bk5 Bx_w6 hE;have Br_w7 := bk6 Br_w6 hE;have T_w7 : Hid (Touch (S3 w) w6 w7) := aT hE
     clear hE c_s c_x c_r Bs_w6 Bx_w6 Br_w6
     have z_w7 := E_w7.out.size;have c_s := opn6 Bs_w7;have c_x := opn5 Bx_w7;have c_r := opn6 Br_w7
     (try unfold sv)
     have L2 := Lib.hid h_L2; clear h_L2
     have B2 := Lib.hid h_B2; clear h_B2
     go_wp2_with fail
     refine hK _ _ (KE.out.touch _) ?_; clear hK K
     have HZ7 := Lib.hid (one_cells (A := fun b => w.heap.size + 1 + 1 < b) (op := [45]) (c1 := exCells op n t o (slv g args.length cap)) B2.out (ExC.keep (fun b hb ha => ⟨T_w7.out.block b hb (fun e => by omega), ha⟩) _ _ C6.out) (by have := L2.out; simp [size_set] at this; omega))
     refine Tch.plan_ct rfl rfl (fun K _ hK => ?_)
     go_wp2
     refine hK _ _ (late5 (Touch.refl _ _) _ _ _ _ _) ?_; clear hK K
     refine Tch.plan_c rfl rfl (fun K _ hK => ?_)
     go_wp2
     refine tch_done ?_
     go_wp2
     (try simp only [Exit.inBlock, Exit.then])
     refine bodyPost_ret (v := .tuple #[.agg #[str [45], .int .i64 (0 : Int), str [], str [], slv (some b2) 1 1], .agg #[slv c.g c.all.length c.cap, .int .i64 (a3 : Int), .int .i64 (c.E : Int), .int .i64 (d : Int), .int .i64 (k3 : Int), .int .i64 (p3 : Int)]]) (res_cc rfl rfl (lv_ex (xb5 Bx_w7)) rfl (lv_src (xb6 Br_w7))) rfl ?_
     obtain ⟨h2, h3⟩ := run_end (F := factorOf c.E (dp c.E d fs) (dp c.E d es)) (by rw [fac_neg HTT.out HN2.out HN3.out HM.out]; exact run_fin2 (by rw [← run_deep]; exact run_then G3.out)) I3.out
     refine ⟨_, 0, [], [], [.mk op n t o args], some b2, 1, _, _, _, rfl, h2, h3, ?_, ?_⟩
     · exact ExC.keep (fun b hb ha => ⟨Touch.block (S := (S3 w)) xT b hb (fun e => by omega), by omega⟩) _ _ HZ7.out
     · exact (xE E_w7)
   | false =>
     have HM := Lib.hid hm
     clear hm
     have hle1 := I1.out.1
     go_wp2_with fail
     refine (rmay_ok c (.ok ts) a d k p [40] _ (H.out.ext (xE E_w3)) HX.out).mono ?_
     rintro e w4 ⟨a4, rfl, h_I4, hE⟩
     have n_s_u := ne2 (show w.heap.size ≠ w3.heap.size by omega);have n_x_u := ne2 (show w.heap.size + 1 ≠ w3.heap.size by omega);have n_r_u := ne2 (show w.heap.size + 1 + 1 ≠ w3.heap.size by omega);have n_t_u := ne2 (show w2.heap.size ≠ w3.heap.size by omega)
     have E_w4 := aE E_w3 hE;have Bs_w4 := bk6 Bs_w3 hE;have Bx_w4 := bk5 Bx_w3 hE;have Br_w4 := bk6 Br_w3 hE;have Bt_w4 := bk4 Bt_w3 hE;have Bu_w4 := nk6 (w3.heap.size) hE;have T_w4 : Hid (Touch (fun b => b = w.heap.size ∨ b = w.heap.size + 1 ∨ b = w.heap.size + 1 + 1 ∨ b = w2.heap.size) w3 w4) := aT hE
     clear hE c_s c_x c_r c_t Bs_w3 Bx_w3 Br_w3 Bt_w3
     have z_w4 := E_w4.out.size;have c_s := opn6 Bs_w4;have c_x := opn5 Bx_w4;have c_r := opn6 Br_w4;have c_t := opn4 Bt_w4;have c_u := opn6 Bu_w4
     (try unfold sv)
     have I4 := Lib.hid h_I4; clear h_I4
     have h4r : w.heap.size + 1 + 1 < w4.heap.size := by omega
     cases hm : isX [40] (.ok ts) with
     | true =>
       have HP := Lib.hid hm
       clear hm
       have HI4 : Hid (In c (behind (.ok ts)) a4 k p) := Lib.hid (by have := I4.out; rwa [mayX_yes HP.out] at this)
       have hle4 := HI4.out.1
       go_wp2_with fail
       refine (rdeep_ok c (behind (.ok ts)) a4 d k p _ (H.out.ext (xE E_w4)) HI4.out (by omega)).mono ?_
       rintro e w5 ⟨k2, p2, rfl, h_I2, hE⟩
       have E_w5 := aE E_w4 hE;have Bs_w5 := bk6 Bs_w4 hE;have Bx_w5 := bk5 Bx_w4 hE;have Br_w5 := bk6 Br_w4 hE;have Bt_w5 := bk4 Bt_w4 hE;have Bu_w5 := bk6 Bu_w4 hE;have T_w5 : Hid (Touch (fun b => b = w.heap.size ∨ b = w.heap.size + 1 ∨ b = w.heap.size + 1 + 1 ∨ b = w2.heap.size ∨ b = w3.heap.size) w4 w5) := aT hE
       clear hE c_s c_x c_r c_t c_u Bs_w4 Bx_w4 Br_w4 Bt_w4 Bu_w4
       have z_w5 := E_w5.out.size;have c_s := opn6 Bs_w5;have c_x := opn5 Bx_w5;have c_r := opn6 Br_w5;have c_t := opn4 Bt_w5;have c_u := opn6 Bu_w5
       (try unfold sv)
       have I2 := Lib.hid h_I2; clear h_I2
       have h5r : w.heap.size + 1 + 1 < w5.heap.size := by omega
       clear c_t n_s_t n_x_t n_r_t n_t_u
       clear c_u n_s_u n_x_u n_r_u
       go_wp2_with fail
       refine (HES.out hd32 _ a4 k2 p2 _ (H.out.ext (xE E_w5)) I2.out (Dp.deep hd32)).mono ?_
       rintro e w6 ⟨op, n, t, o, args, g, cap, a3, k3, p3, rfl, h_I3, h_G3, h_C3, hE⟩
       have E_w6 := aE E_w5 hE;have Bs_w6 := bk6 Bs_w5 hE;have Bx_w6 := bk5 Bx_w5 hE;have Br_w6 := bk6 Br_w5 hE;have T_w6 : Hid (Touch (S3 w) w5 w6) := aT hE
       clear hE c_s c_x c_r Bs_w5 Bx_w5 Br_w5
       have z_w6 := E_w6.out.size;have c_s := opn6 Bs_w6;have c_x := opn5 Bx_w6;have c_r := opn6 Br_w6
       (try unfold sv)
       have I3 := Lib.hid h_I3; clear h_I3
       have G3 := Lib.hid h_G3; clear h_G3
       have C3 := Lib.hid h_C3; clear h_C3
       have hle3 := I3.out.1
       have C6 := Lib.hid (ExC.weak (A' := fun b => w.heap.size + 1 + 1 < b) C3.out (fun b _ hb => by have : w5.heap.size ≤ b := hb; omega))
       go_wp2_with fail
       refine (rmust_ok c _ a3 (d + 1) k3 p3 [41] _ (H.out.ext (xE E_w6)) I3.out).mono ?_
       rintro e w7 ⟨a6, k6, p6, rfl, h_I6, hE⟩
       have n_s_e := ne2 (show w.heap.size ≠ w6.heap.size by omega);have n_s_v := ne2 (show w.heap.size ≠ w6.heap.size + 1 by omega);have n_x_e := ne2 (show w.heap.size + 1 ≠ w6.heap.size by omega);have n_x_v := ne2 (show w.heap.size + 1 ≠ w6.heap.size + 1 by omega);have n_r_e := ne2 (show w.heap.size + 1 + 1 ≠ w6.heap.size by omega);have n_r_v := ne2 (show w.heap.size + 1 + 1 ≠ w6.heap.size + 1 by omega);have n_e_v := ne2 (show w6.heap.size ≠ w6.heap.size + 1 by omega)
       have E_w7 := aE E_w6 hE;have Bs_w7 := bk6 Bs_w6 hE;have Bx_w7 := bk5 Bx_w6 hE;have Br_w7 := bk6 Br_w6 hE;have Be_w7 := nk5 (w6.heap.size) hE;have Bv_w7 := nk6 (w6.heap.size + 1) hE;have T_w7 : Hid (Touch (S3 w) w6 w7) := aT hE
       clear hE c_s c_x c_r Bs_w6 Bx_w6 Br_w6
       have z_w7 := E_w7.out.size;have c_s := opn6 Bs_w7;have c_x := opn5 Bx_w7;have c_r := opn6 Br_w7;have c_e := opn5 Be_w7;have c_v := opn6 Bv_w7
       (try unfold sv)
       have I6 := Lib.hid h_I6; clear h_I6
       have hle6 := I6.out.1
       have C7 := Lib.hid (ExC.keep (A' := fun b => w.heap.size + 1 + 1 < b ∧ b < w6.heap.size) (fun b hb ha => ⟨T_w7.out.block b hb (fun e => by omega), ha, hb⟩) _ _ C6.out)
       go_wp2
       refine wp_nm (fun w8 hE => ?_)
       have E_w8 := aE E_w7 hE;have Bs_w8 := bk6 Bs_w7 hE;have Bx_w8 := bk5 Bx_w7 hE;have Br_w8 := bk6 Br_w7 hE;have Be_w8 := bk5 Be_w7 hE;have Bv_w8 := bk6 Bv_w7 hE;have T_w8 : Hid (Touch (fun b => b = w.heap.size ∨ b = w.heap.size + 1 ∨ b = w.heap.size + 1 + 1 ∨ b = w6.heap.size ∨ b = w6.heap.size + 1) w7 w8) := aT hE
       clear hE c_s c_x c_r c_e c_v Bs_w7 Bx_w7 Br_w7 Be_w7 Bv_w7
       have z_w8 := E_w8.out.size;have c_s := opn6 Bs_w8;have c_x := opn5 Bx_w8;have c_r := opn6 Br_w8;have c_e := opn5 Be_w8;have c_v := opn6 Bv_w8
       letI : Tch.TS := ⟨fun b => b = w.heap.size + 1⟩
       refine Tch.region_calm [.e 0, .e 1, .h 2 true, .h 3 false] f_mixed (by kernel_rfl) (by kernel_rfl) ?_
       refine Tch.plan_e1 rfl rfl (.agg #[str op, .int .i64 (n : Int), str t, str o, slv g args.length cap]) (fun w' he => ?_) (fun K hK => ?_)
       · have d := tch5 he c_e (fun (e : _ = _) => by omega)
         clear c_e he
         go_simp
       go_simp; refine hK _ ?_; clear hK K
       refine Tch.plan_e1 rfl rfl (.agg #[slv c.g c.all.length c.cap, .int .i64 (a6 : Int), .int .i64 (c.E : Int), .int .i64 (d : Int), .int .i64 (k6 : Int), .int .i64 (p6 : Int)]) (fun w' he => ?_) (fun K hK => ?_)
       · have d := tch6 he c_v (fun (e : _ = _) => by omega)
         clear c_v he
         go_simp
       go_simp; refine hK _ ?_; clear hK K
       have C8 := Lib.hid (ExC.keep (fun b hb ha => ⟨T_w8.out.block b hb (fun e => by have := ha.1; have := ha.2; omega), ha⟩) _ _ C7.out)
       refine Tch.plan_ct rfl rfl (fun K _ hK => ?_)
       go_wp2
       refine hK _ _ (late5d _ _ _ _ _ _ _) ?_; clear hK K
       refine Tch.plan_c rfl rfl (fun K _ hK => ?_)
       go_wp2
       refine tch_done ?_
       go_wp2
       (try simp only [Exit.inBlock, Exit.then])
       refine bodyPost_ret (v := .tuple #[.agg #[str op, .int .i64 (n : Int), str t, str o, slv g args.length cap], .agg #[slv c.g c.all.length c.cap, .int .i64 (a6 : Int), .int .i64 (c.E : Int), .int .i64 (d : Int), .int .i64 (k6 : Int), .int .i64 (p6 : Int)]]) (res_cc rfl rfl (lv_ex (xb5 Bx_w8)) rfl (lv_src (xb6 Br_w8))) rfl ?_
       obtain ⟨h2, h3⟩ := run_end (F := factorOf c.E (dp c.E d fs) (dp c.E d es)) (by rw [fac_par HTT.out HN2.out HN3.out HM.out HP.out, run_bnd2 (by rw [← run_deep]; exact run_then G3.out)]; exact run_must (g := fun r => .ok (_, r))) I6.out
       refine ⟨op, n, t, o, args, g, cap, _, _, _, rfl, h2, h3, ?_, ?_⟩
       · exact ExC.keep (fun b hb ha => ⟨Touch.block (S := (fun b => b = w.heap.size ∨ b = w.heap.size + 1 ∨ b = w.heap.size + 1 + 1 ∨ b = w6.heap.size ∨ b = w6.heap.size + 1)) xT b hb (fun e => by have := ha.1; have := ha.2; omega), by have := ha.1; omega⟩) _ _ C8.out
       · exact (xE E_w8)
     | false =>
       have HP := Lib.hid hm
       clear hm
       have hle4 := I4.out.1
       clear c_t n_s_t n_x_t n_r_t n_t_u
       go_wp2_with fail
       refine (ritem_ok c (.ok ts) a d k p _ (H.out.ext (xE E_w4)) HX.out).mono ?_
       rintro e w5 ⟨op, n, t, o, args, g, cap, a3, k3, p3, rfl, h_I3, h_G3, h_C3, hE⟩
       have E_w5 := aE E_w4 hE;have Bs_w5 := bk6 Bs_w4 hE;have Bx_w5 := bk5 Bx_w4 hE;have Br_w5 := bk6 Br_w4 hE;have Bu_w5 := bk6 Bu_w4 hE;have T_w5 : Hid (Touch (fun b => b = w.heap.size ∨ b = w.heap.size + 1 ∨ b = w.heap.size + 1 + 1 ∨ b = w3.heap.size) w4 w5) := aT hE
       clear hE c_s c_x c_r c_u Bs_w4 Bx_w4 Br_w4 Bu_w4
       have z_w5 := E_w5.out.size;have c_s := opn6 Bs_w5;have c_x := opn5 Bx_w5;have c_r := opn6 Br_w5;have c_u := opn6 Bu_w5
       (try unfold sv)
       have I3 := Lib.hid h_I3; clear h_I3
       have G3 := Lib.hid h_G3; clear h_G3
       have C3 := Lib.hid h_C3; clear h_C3
       have C5 := Lib.hid (ExC.weak (A' := fun b => w.heap.size + 1 + 1 < b) C3.out (fun b _ hb => by simp [size_set] at hb; omega))
       clear c_u n_s_u n_x_u n_r_u
       go_wp2
       (try simp only [Exit.inBlock, Exit.then])
       refine bodyPost_ret (v := .tuple #[.agg #[str op, .int .i64 (n : Int), str t, str o, slv g args.length cap], .agg #[slv c.g c.all.length c.cap, .int .i64 (a3 : Int), .int .i64 (c.E : Int), .int .i64 (d : Int), .int .i64 (k3 : Int), .int .i64 (p3 : Int)]]) (res_cc rfl rfl (lv_ex (xb5 Bx_w5)) rfl (lv_src (xb6 Br_w5))) rfl ?_
       obtain ⟨h2, h3⟩ := run_end (F := factorOf c.E (dp c.E d fs) (dp c.E d es)) (by rw [fac_item HTT.out HN2.out HN3.out HM.out HP.out]; exact run_then G3.out) I3.out
       refine ⟨op, n, t, o, args, g, cap, _, _, _, rfl, h2, h3, ?_, ?_⟩
       · exact ExC.keep (fun b hb ha => ⟨Touch.block (S := (S3 w)) xT b hb (fun e => by omega), by omega⟩) _ _ C5.out
       · exact (xE E_w5)
def notS (sm ns : List Tok → Res Ex) (ts : List Tok) : Res Ex := if isT [78, 79, 84] ts then fin (eOne [78, 79, 84]) (ns ts.tail) else cmpOf sm ts
theorem not_yes {X : Xs} {sm ns : List Tok → Res Ex} (h : isX [78, 79, 84] X = true) : X.run (notS sm ns) = (behind X).run fun ts => fin (eOne [78, 79, 84]) (ns ts) :=
 run_yes (A := fun ts => fin (eOne [78, 79, 84]) (ns ts)) (B := cmpOf sm) h
theorem not_no {X : Xs} {sm ns : List Tok → Res Ex} {e : Ex} (h : isX [78, 79, 84] X = false) (he : Got X sm e) : X.run (notS sm ns) = (X.then sm).run fun r => if anyT cmpL r then fin (eTwo (txt r) e) (sm r.tail) else .ok (e, r) := by
 have h1 : X.run (notS sm ns) = X.run (cmpOf sm) := run_no (A := fun ts => fin (eOne [78, 79, 84]) (ns ts.tail)) (B := cmpOf sm) h
 rw [h1]
 exact run_bnd (g := fun e r => if anyT cmpL r then fin (eTwo (txt r) e) (sm r.tail) else .ok (e, r)) he
theorem cmp_yes {Y : Xs} {q : Str} {e : Ex} {sm : List Tok → Res Ex} (hq : q ∈ cmpL) (h : isX q Y = true) : Y.run (fun r => if anyT cmpL r then fin (eTwo (txt r) e) (sm r.tail) else .ok (e, r)) = (behind Y).run fun ts => fin (eTwo q e) (sm ts) := by
 cases Y with
 | error e => cases h
 | ok ts =>
   have h' : isT q ts = true := h
   have h2 : anyT cmpL ts = true := List.any_eq_true.2 ⟨q, hq, h'⟩
   show (if anyT cmpL ts then _ else _) = _
   rw [if_pos h2, isT_txt' h']; rfl
theorem cmp_no {Y : Xs} {e : Ex} {sm : List Tok → Res Ex} (h : ∀ q ∈ cmpL, isX q Y = false) : Y.run (fun r => if anyT cmpL r then fin (eTwo (txt r) e) (sm r.tail) else .ok (e, r)) = Y.run fun r => .ok (e, r) := by
 cases Y with
 | error e => rfl
 | ok ts =>
   have h2 : anyT cmpL ts = false := by
    rw [← Bool.not_eq_true]
    intro h3
    obtain ⟨s, hs, h4⟩ := List.any_eq_true.1 h3
    rw [show isT s ts = false from h s hs] at h4
    cases h4
   show (if anyT cmpL ts then _ else _) = _
   rw [if_neg (by simp [h2])]; rfl
structure NrInv (w : World) (c : Rx) (d eb : Nat) (Y : Xs) (gk : Nat) (vi : Value) (wr : World) (i a k p : Nat) (op : Str) (n : Nat) (t o : Str) (args : List Ex) (g : Option Nat) (cap : Nat) : Prop where
 hk : i + gk = 6
 hv : vi = .int .i64 (i : Int)
 ext : Ext w wr
 bs : wr.heap[w.heap.size]? = some (.cells #[slv c.g c.all.length c.cap, .int .i64 (a : Int), .int .i64 (c.E : Int), .int .i64 (d : Int), .int .i64 (k : Int), .int .i64 (p : Int)] 71 (0, 0))
 bx : wr.heap[w.heap.size + 1]? = some (.cells #[str [], .int .i64 (0 : Int), str [], str [], .slice none 0 0] 45 (0, 0))
 br : wr.heap[w.heap.size + 1 + 1]? = some (.cells #[.slice none 0 0, .int .i64 (0 : Int), .int .i64 (0 : Int), .int .i64 (0 : Int), .int .i64 (0 : Int), .int .i64 (0 : Int)] 71 (0, 0))
 be : wr.heap[eb]? = some (.cells #[str op, .int .i64 (n : Int), str t, str o, slv g args.length cap] 45 (0, 0))
 no : ∀ j q, j < i → cmpL[j]? = some q → isX q Y = false
 ex : ExC wr (fun b => w.heap.size + 1 + 1 < b ∧ b ≠ eb) (exCells op n t o (slv g args.length cap)) (.mk op n t o args)
theorem rnot_ok (c : Rx) (d : Nat) (ns sm : List Tok → Res Ex) (hns : d ≤ 32 → RdrX 135 c (d + 1) ns) (hsm : RdrX 148 c d sm) :
   RdrX 135 c d (notS sm (dp c.E d ns)) := by
 intro X a k p w h hx hd
 have H := Lib.hid h
 have HX := Lib.hid hx
 have HD := Lib.hid hd
 have HNS := Lib.hid hns
 have HSM := Lib.hid hsm
 have hsml := h.small
 have hle := hx.1
 have hdd := hd.1
 clear h hx hd hns hsm
 unfold sv
 have E_w : Hid (Ext w w) := Lib.hid (Ext.refl w)
 go_enter Tryz.func135, Tryz.ntmps135
 go_wp2_with fail
 refine (rmay_ok c X a d k p [78, 79, 84] _ (H.out.ext (xE E_w)) HX.out).mono ?_
 rintro e w3 ⟨a1, rfl, h_I1, hE⟩
 have n_ := nst3 w
 have E_w3 := aE E_w hE;have Bs_w3 := nk6 (w.heap.size) hE;have Bx_w3 := nk5 (w.heap.size + 1) hE;have Br_w3 := nk6 (w.heap.size + 1 + 1) hE
 clear hE
 have z_w3 := E_w3.out.size;have c_s := opn6 Bs_w3;have c_x := opn5 Bx_w3;have c_r := opn6 Br_w3
 (try unfold sv)
 have I1 := Lib.hid h_I1; clear h_I1
 have h3r : w.heap.size + 1 + 1 < w3.heap.size := by omega
 cases hm : isX [78, 79, 84] X with
 | true =>
   have HM := Lib.hid hm
   clear hm
   have hd32 : d ≤ 32 := by
     rcases HD.out.2 with h | ⟨e, h⟩
     · exact h
     · have h1 := HM.out; rw [h] at h1; cases h1
   have HI1 : Hid (In c (behind X) a1 k p) := Lib.hid (by have := I1.out; rwa [mayX_yes HM.out] at this)
   have hle1 := HI1.out.1
   go_wp2_with fail
   refine (rdeep_ok c (behind X) a1 d k p _ (H.out.ext (xE E_w3)) HI1.out (by omega)).mono ?_
   rintro e w4 ⟨k2, p2, rfl, h_I2, hE⟩
   have n_s_u := ne2 (show w.heap.size ≠ w3.heap.size by omega);have n_x_u := ne2 (show w.heap.size + 1 ≠ w3.heap.size by omega);have n_r_u := ne2 (show w.heap.size + 1 + 1 ≠ w3.heap.size by omega)
   have E_w4 := aE E_w3 hE;have Bs_w4 := bk6 Bs_w3 hE;have Bx_w4 := bk5 Bx_w3 hE;have Br_w4 := bk6 Br_w3 hE;have Bu_w4 := nk6 (w3.heap.size) hE;have T_w4 : Hid (Touch (S3 w) w3 w4) := aT hE
   clear hE c_s c_x c_r Bs_w3 Bx_w3 Br_w3
   have z_w4 := E_w4.out.size;have c_s := opn6 Bs_w4;have c_x := opn5 Bx_w4;have c_r := opn6 Br_w4;have c_u := opn6 Bu_w4
   (try unfold sv)
   have I2 := Lib.hid h_I2; clear h_I2
   have h4r : w.heap.size + 1 + 1 < w4.heap.size := by omega
   clear c_u n_s_u n_x_u n_r_u
   go_wp2_with fail
   refine (HNS.out hd32 _ a1 k2 p2 _ (H.out.ext (xE E_w4)) I2.out (Dp.deep hd32)).mono ?_
   rintro e w5 ⟨op, n, t, o, args, g, cap, a3, k3, p3, rfl, h_I3, h_G3, h_C3, hE⟩
   have E_w5 := aE E_w4 hE;have Bs_w5 := bk6 Bs_w4 hE;have Bx_w5 := bk5 Bx_w4 hE;have Br_w5 := bk6 Br_w4 hE;have T_w5 : Hid (Touch (S3 w) w4 w5) := aT hE
   clear hE c_s c_x c_r Bs_w4 Bx_w4 Br_w4
   have z_w5 := E_w5.out.size;have c_s := opn6 Bs_w5;have c_x := opn5 Bx_w5;have c_r := opn6 Br_w5
   (try unfold sv)
   have I3 := Lib.hid h_I3; clear h_I3
   have G3 := Lib.hid h_G3; clear h_G3
   have C3 := Lib.hid h_C3; clear h_C3
   have hle3 := I3.out.1
   have C5 := Lib.hid (ExC.weak (A' := fun b => w.heap.size + 1 + 1 < b) C3.out (fun b _ hb => by have : w4.heap.size ≤ b := hb; omega))
   go_wp2
   refine wp_nm (fun w6 hE => ?_)
   have n_s_e := ne2 (show w.heap.size ≠ w5.heap.size by omega);have n_s_v := ne2 (show w.heap.size ≠ w5.heap.size + 1 by omega);have n_x_e := ne2 (show w.heap.size + 1 ≠ w5.heap.size by omega);have n_x_v := ne2 (show w.heap.size + 1 ≠ w5.heap.size + 1 by omega);have n_r_e := ne2 (show w.heap.size + 1 + 1 ≠ w5.heap.size by omega);have n_r_v := ne2 (show w.heap.size + 1 + 1 ≠ w5.heap.size + 1 by omega);have n_e_v := ne2 (show w5.heap.size ≠ w5.heap.size + 1 by omega)
   have E_w6 := aE E_w5 hE;have Bs_w6 := bk6 Bs_w5 hE;have Bx_w6 := bk5 Bx_w5 hE;have Br_w6 := bk6 Br_w5 hE;have Be_w6 := nk5 (w5.heap.size) hE;have Bv_w6 := nk6 (w5.heap.size + 1) hE;have T_w6 : Hid (Touch (S3 w) w5 w6) := aT hE
   clear hE c_s c_x c_r Bs_w5 Bx_w5 Br_w5
   have z_w6 := E_w6.out.size;have c_s := opn6 Bs_w6;have c_x := opn5 Bx_w6;have c_r := opn6 Br_w6;have c_e := opn5 Be_w6;have c_v := opn6 Bv_w6
   have h6r : w.heap.size + 1 + 1 < w6.heap.size := by omega
   have C6 := Lib.hid (ExC.keep (fun b hb ha => ⟨T_w6.out.block b hb (fun e => by have := hb; omega), ha⟩) _ _ C5.out)
   letI : Tch.TS := ⟨fun b => b = w.heap.size + 1⟩
   refine Tch.region_calm [.e 0, .e 2, .h 1 true, .h 3 true, .h 4 false] f_mixed (by kernel_rfl) (by kernel_rfl) ?_
   refine Tch.plan_e1 rfl rfl (.agg #[str op, .int .i64 (n : Int), str t, str o, slv g args.length cap]) (fun w' he => ?_) (fun K hK => ?_)
   · have d := tch5 he c_e (fun (e : _ = _) => by omega)
     clear c_e he
     go_simp
   go_simp; refine hK _ ?_; clear hK K
   refine Tch.plan_e1 rfl rfl (.agg #[slv c.g c.all.length c.cap, .int .i64 (a3 : Int), .int .i64 (c.E : Int), .int .i64 (d : Int), .int .i64 (k3 : Int), .int .i64 (p3 : Int)]) (fun w' he => ?_) (fun K hK => ?_)
   · have d := tch6 he c_v (fun (e : _ = _) => by omega)
     clear c_v he
     go_simp
   go_simp; refine hK _ ?_; clear hK K
   refine Tch.plan_ct rfl rfl (fun K _ hK => ?_)
   clear c_e n_s_e n_x_e n_r_e n_e_v
   clear c_v n_s_v n_x_v n_r_v
   go_wp2_with fail
   refine (r1_ok _ [78, 79, 84] op t o n g args.length cap).mono ?_
   rintro e w7 ⟨b2, rfl, h_L2, hE, h_B2⟩
   have KE := Lib.hid hE
   have E_w7 := aE E_w6 hE;have Bs_w7 := bk6 Bs_w6 hE;have Bx_w7 := bk5 Bx_w6 hE;have Br_w7 := bk6 Br_w6 hE;have T_w7 : Hid (Touch (S3 w) w6 w7) := aT hE
   clear hE c_s c_x c_r Bs_w6 Bx_w6 Br_w6
   have z_w7 := E_w7.out.size;have c_s := opn6 Bs_w7;have c_x := opn5 Bx_w7;have c_r := opn6 Br_w7
   (try unfold sv)
   have L2 := Lib.hid h_L2; clear h_L2
   have B2 := Lib.hid h_B2; clear h_B2
   go_wp2_with fail
   refine hK _ _ (KE.out.touch _) ?_; clear hK K
   have HZ7 := Lib.hid (one_cells (A := fun b => w.heap.size + 1 + 1 < b) (op := [78, 79, 84]) (c1 := exCells op n t o (slv g args.length cap)) B2.out (ExC.keep (fun b hb ha => ⟨T_w7.out.block b hb (fun e => by omega), ha⟩) _ _ C6.out) (by have := L2.out; simp [size_set] at this; omega))
   refine Tch.plan_ct rfl rfl (fun K _ hK => ?_)
   go_wp2
   refine hK _ _ (late5 (Touch.refl _ _) _ _ _ _ _) ?_; clear hK K
   refine Tch.plan_c rfl rfl (fun K _ hK => ?_)
   go_wp2
   refine tch_done ?_
   go_wp2
   (try simp only [Exit.inBlock, Exit.then])
   refine bodyPost_ret (v := .tuple #[.agg #[str [78, 79, 84], .int .i64 (0 : Int), str [], str [], slv (some b2) 1 1], .agg #[slv c.g c.all.length c.cap, .int .i64 (a3 : Int), .int .i64 (c.E : Int), .int .i64 (d : Int), .int .i64 (k3 : Int), .int .i64 (p3 : Int)]]) (res_cc rfl rfl (lv_ex (xb5 Bx_w7)) rfl (lv_src (xb6 Br_w7))) rfl ?_
   obtain ⟨h2, h3⟩ := run_end (F := notS sm (dp c.E d ns)) (by rw [not_yes HM.out]; exact run_fin2 (by rw [← run_deep]; exact run_then G3.out)) I3.out
   refine ⟨_, 0, [], [], [.mk op n t o args], some b2, 1, _, _, _, rfl, h2, h3, ?_, ?_⟩
   · exact ExC.keep (fun b hb ha => ⟨Touch.block (S := (S3 w)) xT b hb (fun e => by omega), by omega⟩) _ _ HZ7.out
   · exact (xE E_w7)
 | false =>
   have HM := Lib.hid hm
   clear hm
   go_wp2_with fail
   refine (HSM.out X a k p _ (H.out.ext (xE E_w3)) HX.out HD.out).mono ?_
   rintro e w4 ⟨op, n, t, o, args, g, cap, a3, k3, p3, rfl, h_I3, h_G3, h_C3, hE⟩
   have n_s_u := ne2 (show w.heap.size ≠ w3.heap.size by omega);have n_x_u := ne2 (show w.heap.size + 1 ≠ w3.heap.size by omega);have n_r_u := ne2 (show w.heap.size + 1 + 1 ≠ w3.heap.size by omega)
   have E_w4 := aE E_w3 hE;have Bs_w4 := bk6 Bs_w3 hE;have Bx_w4 := bk5 Bx_w3 hE;have Br_w4 := bk6 Br_w3 hE;have Bu_w4 := nk6 (w3.heap.size) hE;have T_w4 : Hid (Touch (S3 w) w3 w4) := aT hE
   clear hE c_s c_x c_r Bs_w3 Bx_w3 Br_w3
   have z_w4 := E_w4.out.size;have c_s := opn6 Bs_w4;have c_x := opn5 Bx_w4;have c_r := opn6 Br_w4;have c_u := opn6 Bu_w4
   (try unfold sv)
   have I3 := Lib.hid h_I3; clear h_I3
   have G3 := Lib.hid h_G3; clear h_G3
   have C3 := Lib.hid h_C3; clear h_C3
   clear c_u n_s_u n_x_u n_r_u
   have hle3 := I3.out.1
   have C4 := Lib.hid (ExC.weak (A' := fun b => w.heap.size + 1 + 1 < b) C3.out (fun b _ hb => by simp [size_set] at hb; omega))
   go_wp2
   refine wp_nm (fun w5 hE => ?_)
   have n_s_e := ne2 (show w.heap.size ≠ w4.heap.size by omega);have n_x_e := ne2 (show w.heap.size + 1 ≠ w4.heap.size by omega);have n_r_e := ne2 (show w.heap.size + 1 + 1 ≠ w4.heap.size by omega)
   have E_w5 := aE E_w4 hE;have Bs_w5 := bk6 Bs_w4 hE;have Bx_w5 := bk5 Bx_w4 hE;have Br_w5 := bk6 Br_w4 hE;have Be_w5 := nk5 (w4.heap.size) hE;have T_w5 : Hid (Touch (S3 w) w4 w5) := aT hE
   clear hE c_s c_x c_r Bs_w4 Bx_w4 Br_w4
   have z_w5 := E_w5.out.size;have c_s := opn6 Bs_w5;have c_x := opn5 Bx_w5;have c_r := opn6 Br_w5;have c_e := opn5 Be_w5
   have HC5 : Hid (ExC w5 (fun b => w.heap.size + 1 + 1 < b ∧ b ≠ w4.heap.size) (exCells op n t o (slv g args.length cap)) (.mk op n t o args)) := Lib.hid (ExC.keep (fun b hb ha => ⟨T_w5.out.block b hb (fun e => by omega), ha, by omega⟩) _ _ C4.out)
   go_loopg [38] 6 (fun gk vi wr => ∃ i, NrInv w c d w4.heap.size (X.then sm) gk vi wr i a3 k3 p3 op n t o args g cap)
   case atStart => exact ⟨0, rfl, rfl, E_w5.out, Bs_w5.out, Bx_w5.out, Br_w5.out, Be_w5.out, fun j q hj => absurd hj (by omega), HC5.out⟩
   case round =>
     clear HC5 C4 C3
     obtain ⟨i, hI⟩ := hrel
     obtain rfl := hI.hv
     have HI := Lib.hid hI
     have E_wr := Lib.hid hI.ext
     have Bs_wr := Lib.hid hI.bs
     have Bx_wr := Lib.hid hI.bx
     have Br_wr := Lib.hid hI.br
     have Be_wr := Lib.hid hI.be
     have z_wr : w.heap.size ≤ wr.heap.size := hI.ext.size
     have hik : i ≤ 6 := by have := hI.hk; omega
     clear hI
     clear c_s c_x c_r c_e
     have c_s := opn6 Bs_wr;have c_x := opn5 Bx_wr;have c_r := opn6 Br_wr;have c_e := opn5 Be_wr
     by_cases hi : i < 6
     · have hii : (i : Int) < 6 := by omega
       obtain ⟨q, hq⟩ : ∃ q, cmpL[i]? = some q := ⟨cmpL[i]'hi, List.getElem?_eq_getElem hi⟩
       have z1 : ∀ u : World, (Instr.index 203 (.agg #[.string ⟨#[61]⟩, .string ⟨#[60, 62]⟩, .string ⟨#[60, 61]⟩, .string ⟨#[62, 61]⟩, .string ⟨#[60]⟩, .string ⟨#[62]⟩]) (.int .i64 (i : Int))).run Tryz.prog u = .ok (str q) u := by
         match i, hi, hq with
         | 0, _, hq => cases hq; exact fun u => by kernel_rfl
         | 1, _, hq => cases hq; exact fun u => by kernel_rfl
         | 2, _, hq => cases hq; exact fun u => by kernel_rfl
         | 3, _, hq => cases hq; exact fun u => by kernel_rfl
         | 4, _, hq => cases hq; exact fun u => by kernel_rfl
         | 5, _, hq => cases hq; exact fun u => by kernel_rfl
       have HQ := Lib.hid hq
       clear hq
       go_wp2_with fail
       refine (ris_ok c _ a3 d k3 p3 q _ (H.out.ext (xE E_wr)) I3.out).mono ?_
       rintro e w6 ⟨rfl, hE⟩
       have E_w6 := aE E_wr hE;have Bs_w6 := bk6 Bs_wr hE;have Bx_w6 := bk5 Bx_wr hE;have Br_w6 := bk6 Br_wr hE;have Be_w6 := bk5 Be_wr hE;have T_w6 : Hid (Touch (fun b => b = w.heap.size ∨ b = w.heap.size + 1 ∨ b = w.heap.size + 1 + 1 ∨ b = w4.heap.size) wr w6) := aT hE
       clear hE c_s c_x c_r c_e Bs_wr Bx_wr Br_wr Be_wr
       have z_w6 := E_w6.out.size;have c_s := opn6 Bs_w6;have c_x := opn5 Bx_w6;have c_r := opn6 Br_w6;have c_e := opn5 Be_w6
       have h6e : w4.heap.size < w6.heap.size := by omega
       have h6r : w.heap.size + 1 + 1 < w6.heap.size := by omega
       have HX6 : Hid (ExC w6 (fun b => w.heap.size + 1 + 1 < b ∧ b ≠ w4.heap.size) (exCells op n t o (slv g args.length cap)) (.mk op n t o args)) := Lib.hid (ExC.keep (fun b hb ha => ⟨T_w6.out.block b hb (fun e => by have := ha.1; have := ha.2; omega), ha⟩) _ _ HI.out.ex)
       cases h1 : isX q (X.then sm) with
       | false =>
         have H1 := Lib.hid h1
         clear h1
         go_wp2
         go_roundg (gk - 1)
         case measure => have := HI.out.hk; omega
         case rel =>
           exact ⟨i + 1, by have := HI.out.hk; omega, by go_num, E_w6.out, Bs_w6.out, Bx_w6.out, Br_w6.out, Be_w6.out, fun j q' hj hq' => by
            rcases Nat.lt_succ_iff_lt_or_eq.1 hj with h | rfl
            · exact HI.out.no j q' h hq'
            · have h2 := HQ.out; rw [hq'] at h2; cases h2; exact H1.out, HX6.out⟩
       | true =>
         have H1 := Lib.hid h1
         clear h1
         have hlt : a3 < c.all.length := (I3.out.step H1.out).1
         go_wp2_with fail
         refine (HSM.out _ (a3 + 1) k3 p3 _ (H.out.ext (xE E_w6)) (I3.out.step H1.out).2.1 HD.out.then.behind).mono ?_
         rintro e w7 ⟨op', n', t', o', args', g', cap', a4, k4, p4, rfl, h_I4, h_G4, h_C4, hE⟩
         have E_w7 := aE E_w6 hE;have Bs_w7 := bk6 Bs_w6 hE;have Bx_w7 := bk5 Bx_w6 hE;have Br_w7 := bk6 Br_w6 hE;have Be_w7 := bk5 Be_w6 hE;have T_w7 : Hid (Touch (fun b => b = w.heap.size ∨ b = w.heap.size + 1 ∨ b = w.heap.size + 1 + 1 ∨ b = w4.heap.size) w6 w7) := aT hE
         clear hE c_s c_x c_r c_e Bs_w6 Bx_w6 Br_w6 Be_w6
         have z_w7 := E_w7.out.size;have c_s := opn6 Bs_w7;have c_x := opn5 Bx_w7;have c_r := opn6 Br_w7;have c_e := opn5 Be_w7
         (try unfold sv)
         have I4 := Lib.hid h_I4; clear h_I4
         have G4 := Lib.hid h_G4; clear h_G4
         have C4 := Lib.hid h_C4; clear h_C4
         have HX7 := Lib.hid (ExC.keep (A' := fun b => (w.heap.size + 1 + 1 < b ∧ b ≠ w4.heap.size) ∧ b < w7.heap.size) (fun b hb ha => ⟨T_w7.out.block b hb (fun e => by have := ha.1; have := ha.2; omega), ha, by have := T_w7.out.size; omega⟩) _ _ HX6.out)
         have hsz : ∀ b, (w6.setCell ⟨w.heap.size, 1, none⟩ (.int .i64 ((a3 : Int) + 1))).heap.size ≤ b → w6.heap.size ≤ b := fun b hb => by simpa [size_set] using hb
         have HY7 := Lib.hid (ExC.keep (A' := fun b => (w.heap.size + 1 + 1 < b ∧ b ≠ w4.heap.size) ∧ b < w7.heap.size) (fun b hb ha => ⟨rfl, by have := hsz b ha; omega, hb⟩) _ _ C4.out)
         clear hsz
         go_wp2
         refine wp_nm (fun w8 hE => ?_)
         have n_s_f := ne2 (show w.heap.size ≠ w7.heap.size by omega);have n_s_v := ne2 (show w.heap.size ≠ w7.heap.size + 1 by omega);have n_x_f := ne2 (show w.heap.size + 1 ≠ w7.heap.size by omega);have n_x_v := ne2 (show w.heap.size + 1 ≠ w7.heap.size + 1 by omega);have n_r_f := ne2 (show w.heap.size + 1 + 1 ≠ w7.heap.size by omega);have n_r_v := ne2 (show w.heap.size + 1 + 1 ≠ w7.heap.size + 1 by omega);have n_e_f := ne2 (show w4.heap.size ≠ w7.heap.size by omega);have n_e_v := ne2 (show w4.heap.size ≠ w7.heap.size + 1 by omega);have n_f_v := ne2 (show w7.heap.size ≠ w7.heap.size + 1 by omega)
         have E_w8 := aE E_w7 hE;have Bs_w8 := bk6 Bs_w7 hE;have Bx_w8 := bk5 Bx_w7 hE;have Br_w8 := bk6 Br_w7 hE;have Be_w8 := bk5 Be_w7 hE;have Bf_w8 := nk5 (w7.heap.size) hE;have Bv_w8 := nk6 (w7.heap.size + 1) hE;have T_w8 : Hid (Touch (fun b => b = w.heap.size ∨ b = w.heap.size + 1 ∨ b = w.heap.size + 1 + 1 ∨ b = w4.heap.size) w7 w8) := aT hE
         clear hE c_s c_x c_r c_e Bs_w7 Bx_w7 Br_w7 Be_w7
         have z_w8 := E_w8.out.size;have c_s := opn6 Bs_w8;have c_x := opn5 Bx_w8;have c_r := opn6 Br_w8;have c_e := opn5 Be_w8;have c_f := opn5 Bf_w8;have c_v := opn6 Bv_w8
         have h8r : w.heap.size + 1 + 1 < w8.heap.size := by omega
         have h8e : w4.heap.size < w8.heap.size := by omega
         have h8v : w7.heap.size + 1 < w8.heap.size := by omega
         letI : Tch.TS := ⟨fun b => b = w.heap.size + 1⟩
         refine Tch.region_calm [.p 0, .e 1, .e 2, .e 4, .h 3 true, .h 5 true, .h 6 false] f_mixed (by kernel_rfl) (by kernel_rfl) ?_
         repeat (refine Tch.plan_p rfl (fun K hK => ?_); go_simp; refine hK _ ?_; clear hK K)
         refine Tch.plan_e1 rfl rfl (.agg #[str op, .int .i64 (n : Int), str t, str o, slv g args.length cap]) (fun w' he => ?_) (fun K hK => ?_)
         · have d := tch5 he c_e (fun (e : _ = _) => by omega)
           clear c_e he
           go_simp
         go_simp; refine hK _ ?_; clear hK K
         refine Tch.plan_e1 rfl rfl (.agg #[str op', .int .i64 (n' : Int), str t', str o', slv g' args'.length cap']) (fun w' he => ?_) (fun K hK => ?_)
         · have d := tch5 he c_f (fun (e : _ = _) => by omega)
           clear c_f he
           go_simp
         go_simp; refine hK _ ?_; clear hK K
         refine Tch.plan_e1 rfl rfl (.agg #[slv c.g c.all.length c.cap, .int .i64 (a4 : Int), .int .i64 (c.E : Int), .int .i64 (d : Int), .int .i64 (k4 : Int), .int .i64 (p4 : Int)]) (fun w' he => ?_) (fun K hK => ?_)
         · have d := tch6 he c_v (fun (e : _ = _) => by omega)
           clear c_v he
           go_simp
         go_simp; refine hK _ ?_; clear hK K
         refine Tch.plan_ct rfl rfl (fun K _ hK => ?_)
         have HX8 := Lib.hid (ExC.keep (fun b hb ha => ⟨T_w8.out.block b hb (fun e => by have := ha.1.1; have := ha.1.2; omega), ha⟩) _ _ HX7.out)
         have HY8 := Lib.hid (ExC.keep (fun b hb ha => ⟨T_w8.out.block b hb (fun e => by have := ha.1.1; have := ha.1.2; omega), ha⟩) _ _ HY7.out)
         clear c_f n_s_f n_x_f n_r_f n_e_f n_f_v
         clear c_v n_s_v n_x_v n_r_v n_e_v
         go_wp2_with fail
         refine (r2_ok _ q op t o op' t' o' n n' g g' args.length cap args'.length cap').mono ?_
         rintro e w9 ⟨b2, rfl, h_L2, hE, h_B2⟩
         have KE := Lib.hid hE
         have E_w9 := aE E_w8 hE;have Bs_w9 := bk6 Bs_w8 hE;have Bx_w9 := bk5 Bx_w8 hE;have Br_w9 := bk6 Br_w8 hE;have Be_w9 := bk5 Be_w8 hE;have T_w9 : Hid (Touch (fun b => b = w.heap.size ∨ b = w.heap.size + 1 ∨ b = w.heap.size + 1 + 1 ∨ b = w4.heap.size) w8 w9) := aT hE
         clear hE c_s c_x c_r c_e Bs_w8 Bx_w8 Br_w8 Be_w8
         have z_w9 := E_w9.out.size;have c_s := opn6 Bs_w9;have c_x := opn5 Bx_w9;have c_r := opn6 Br_w9;have c_e := opn5 Be_w9
         (try unfold sv)
         have L2 := Lib.hid h_L2; clear h_L2
         have B2 := Lib.hid h_B2; clear h_B2
         go_wp2_with fail
         refine hK _ _ (KE.out.touch _) ?_; clear hK K
         have HZ9 := Lib.hid (two_cells (A := fun b => w.heap.size + 1 + 1 < b ∧ b ≠ w4.heap.size) (op := q) (c1 := exCells op n t o (slv g args.length cap)) (c2 := exCells op' n' t' o' (slv g' args'.length cap')) B2.out (ExC.keep (fun b hb ha => ⟨T_w9.out.block b hb (fun e => by have := ha.1.1; have := ha.1.2; omega), ha.1⟩) _ _ HX8.out) (ExC.keep (fun b hb ha => ⟨T_w9.out.block b hb (fun e => by have := ha.1.1; have := ha.1.2; omega), ha.1⟩) _ _ HY8.out) (by have := L2.out; simp [size_set] at this; omega))
         refine Tch.plan_ct rfl rfl (fun K _ hK => ?_)
         go_wp2
         refine hK _ _ (late5 (Touch.refl _ _) _ _ _ _ _) ?_; clear hK K
         refine Tch.plan_c rfl rfl (fun K _ hK => ?_)
         go_wp2
         refine tch_done ?_
         go_wp2
         (try simp only [Exit.inBlock, Exit.then])
         refine bodyPost_ret (v := .tuple #[.agg #[str q, .int .i64 (0 : Int), str [], str [], slv (some b2) 2 2], .agg #[slv c.g c.all.length c.cap, .int .i64 (a4 : Int), .int .i64 (c.E : Int), .int .i64 (d : Int), .int .i64 (k4 : Int), .int .i64 (p4 : Int)]]) (res_cc rfl rfl (lv_ex (xb5 Bx_w9)) rfl (lv_src (xb6 Br_w9))) rfl ?_
         obtain ⟨h2, h3⟩ := run_end (F := notS sm (dp c.E d ns)) (by rw [not_no HM.out G3.out, cmp_yes (List.mem_of_getElem? HQ.out) H1.out]; exact run_fin2 (run_then G4.out)) I4.out
         refine ⟨_, 0, [], [], [.mk op n t o args, .mk op' n' t' o' args'], some b2, 2, _, _, _, rfl, h2, h3, ?_, ?_⟩
         · exact ExC.keep (fun b hb ha => ⟨Touch.block (S := (fun b => b = w.heap.size ∨ b = w.heap.size + 1 ∨ b = w.heap.size + 1 + 1 ∨ b = w4.heap.size)) xT b hb (fun e => by have := ha.1; have := ha.2; omega), by have := ha.1; omega⟩) _ _ HZ9.out
         · exact (xE E_w9)
     · have hii : (6 : Int) ≤ (i : Int) := by omega
       have hi6 : i = 6 := by omega
       have HI6 := Lib.hid hi6
       clear hi6
       go_wp2
       letI : Tch.TS := ⟨fun b => b = w.heap.size + 1⟩
       refine Tch.region_calm [.e 0, .e 1, .h 2 true, .h 3 false] f_mixed (by kernel_rfl) (by kernel_rfl) ?_
       refine Tch.plan_e1 rfl rfl (.agg #[str op, .int .i64 (n : Int), str t, str o, slv g args.length cap]) (fun w' he => ?_) (fun K hK => ?_)
       · have d := tch5 he c_e (fun (e : _ = _) => by omega)
         clear c_e he
         go_simp
       go_simp; refine hK _ ?_; clear hK K
       refine Tch.plan_e1 rfl rfl (.agg #[slv c.g c.all.length c.cap, .int .i64 (a3 : Int), .int .i64 (c.E : Int), .int .i64 (d : Int), .int .i64 (k3 : Int), .int .i64 (p3 : Int)]) (fun w' he => ?_) (fun K hK => ?_)
       · have d := tch6 he c_s (fun (e : _ = _) => by omega)
         clear c_s he
         go_simp
       go_simp; refine hK _ ?_; clear hK K
       refine Tch.plan_ct rfl rfl (fun K _ hK => ?_)
       go_wp2
       refine hK _ _ (late5d _ _ _ _ _ _ _) ?_; clear hK K
       refine Tch.plan_c rfl rfl (fun K _ hK => ?_)
       go_wp2
       refine tch_done ?_
       go_wp2
       (try simp only [Exit.inBlock, Exit.then])
       refine bodyPost_ret (v := .tuple #[.agg #[str op, .int .i64 (n : Int), str t, str o, slv g args.length cap], .agg #[slv c.g c.all.length c.cap, .int .i64 (a3 : Int), .int .i64 (c.E : Int), .int .i64 (d : Int), .int .i64 (k3 : Int), .int .i64 (p3 : Int)]]) (res_cc rfl rfl (lv_ex (xb5 Bx_wr)) rfl (lv_src (xb6 Br_wr))) rfl ?_
       obtain ⟨h2, h3⟩ := run_end (F := notS sm (dp c.E d ns)) (by rw [not_no HM.out G3.out, cmp_no (fun q hq => by obtain ⟨j, hj, rfl⟩ := List.mem_iff_getElem.1 hq; exact HI.out.no j _ (by have h6 := HI6.out; have h7 : j < 6 := hj; omega) (List.getElem?_eq_getElem hj))]) I3.out
       refine ⟨op, n, t, o, args, g, cap, _, _, _, rfl, h2, h3, ?_, ?_⟩
       · exact ExC.keep (fun b hb ha => ⟨Touch.block (S := (fun b => b = w.heap.size ∨ b = w.heap.size + 1 ∨ b = w.heap.size + 1 + 1 ∨ b = w4.heap.size)) xT b hb (fun e => by have := ha.1; have := ha.2; omega), by have := ha.1; omega⟩) _ _ HI.out.ex
       · exact (xE E_wr)
theorem RdrX.any {F : FuncId} {c : Rx} {f : List Tok → Res Ex} (h : RdrX F c 33 f) (g : List Tok → Res Ex) : RdrX F c 33 g := by
 intro X a k p w hk hx hd
 refine (h X a k p w hk hx hd).mono ?_
 obtain ⟨e, rfl⟩ : ∃ e, X = .error e := hd.2.resolve_left (by omega)
 rintro e2 w2 ⟨op, n, t, o, args, g1, cap, a', k', p', h1, h2, -, h4, h5⟩
 exact ⟨op, n, t, o, args, g1, cap, a', k', p', h1, h2, (fun ts y r hX => by cases hX), h4, h5⟩
theorem lvx_step (c : Rx) (d : Nat) {fs ns es : List Tok → Res Ex} (s1 : ∀ ts, Suf ts (fs ts)) (s2 : ∀ ts, Suf ts (ns ts)) (s3 : ∀ ts, Suf ts (es ts)) (hfs : d ≤ 32 → RdrX 157 c (d + 1) fs) (hns : d ≤ 32 → RdrX 135 c (d + 1) ns) (hes : d ≤ 32 → RdrX 100 c (d + 1) es) :
  RdrX 157 c d (lvOf c.E (dp c.E d fs) (dp c.E d ns) (dp c.E d es)).fac ∧ RdrX 135 c d (lvOf c.E (dp c.E d fs) (dp c.E d ns) (dp c.E d es)).no ∧ RdrX 100 c d (lvOf c.E (dp c.E d fs) (dp c.E d ns) (dp c.E d es)).ex := by
 have sd : ∀ {f : List Tok → Res Ex}, (∀ ts, Suf ts (f ts)) → ∀ ts, Suf ts (dp c.E d f ts) := fun h ts => by
  unfold dp; split
  · exact h ts
  · exact Suf.bad
 obtain ⟨q1, q2, q3⟩ := Suf.lvOf (E := c.E) (sd s1) (sd s2) (sd s3)
 have h1 := rfactor_ok c d fs es hfs hes
 have h2 := rproduct_ok c d _ q1 h1
 have h3 := rsum_ok c d _ (Suf.ch q1) h2
 have h4 := rnot_ok c d ns _ hns h3
 have h5 := rand_ok c d _ q2 h4
 have h6 := ror_ok c d _ (Suf.ch q2) h5
 exact ⟨h1, h4, h6⟩
theorem lvx_ok (c : Rx) : ∀ (n d : Nat), d + n = 32 → RdrX 157 c d (lv c.E n).fac ∧ RdrX 135 c d (lv c.E n).no ∧ RdrX 100 c d (lv c.E n).ex
 | 0, d, hd => by
   have h0 : d = 32 := by omega
   subst h0
   have sb : ∀ ts, Suf ts (bad (α := Ex) c.E 151 ts) := fun _ => Suf.bad
   obtain ⟨b1, b2, b3⟩ := lvx_step c 33 sb sb sb (fun h => absurd h (by omega)) (fun h => absurd h (by omega)) (fun h => absurd h (by omega))
   have h := lvx_step c 32 sb sb sb (fun _ => b1.any _) (fun _ => b2.any _) (fun _ => b3.any _)
   rwa [dp_deep] at h
 | n + 1, d, hd => by
   obtain ⟨b1, b2, b3⟩ := lvx_ok c n (d + 1) (by omega)
   obtain ⟨s1, s2, s3⟩ := Suf.lv c.E n
   have h := lvx_step c d s1 s2 s3 (fun _ => b1) (fun _ => b2) (fun _ => b3)
   rwa [dp_in c.E (by omega), dp_in c.E (by omega), dp_in c.E (by omega)] at h
theorem rexpr_ok (c : Rx) (X : Xs) (a k p : Nat) (w : World) (h : Rk w c) (hx : In c X a k p) : Calls Tryz.prog 100 #[sv c a 0 k p] w (ExPost c w 0 X (expr c.E)) :=
 (lvx_ok c 32 0 rfl).2.2 X a k p w h hx ⟨by omega, .inl (by omega)⟩
theorem late2d (w : World) (b : Nat) (v0 v1 : Value) : Touch (fun k => k = b) w.drew ((w.setCell ⟨b, 0, none⟩ v0).setCell ⟨b, 1, none⟩ v1).drew :=
 Touch.drews (((Touch.refl (fun k => k = b) w).setCell (p := ⟨b, 0, none⟩) (fun _ => rfl) v0).setCell (p := ⟨b, 1, none⟩) (fun _ => rfl) v1)
def perF (E : Nat) (ts0 ts : List Tok) : Res (Nat × Nat) :=
 bnd (number E ts) fun a r => bnd (must E [84, 79] r) fun _ r =>
  bnd (if isT [70, 79, 82, 69, 86, 69, 82] r then .ok (FOREVER, r.tail) else number E r) fun z r' => if z ≤ a ∨ FOREVER < z then bad E 40 ts0 else .ok ((a, z), r')
theorem per_start (X : Xs) (E : Nat) : ∃ ts0, (∀ ts, X = .ok ts → ts0 = ts) ∧ X.run (period E) = X.run (perF E ts0) := by
 cases X with
 | error e => exact ⟨[], (fun ts h => by cases h), rfl⟩
 | ok ts => exact ⟨ts, (fun _ h => by cases h; rfl), rfl⟩
def perE (E : Nat) (ts0 : List Tok) (n m : Nat) (r' : List Tok) : Res (Nat × Nat) := if m ≤ n ∨ FOREVER < m then bad E 40 ts0 else .ok ((n, m), r')
theorem per_run {X Y Z : Xs} {c : Rx} {ts0 : List Tok} {n m : Nat} (h1 : Got X (number c.E) n) (hY : Y = mustX c [84, 79] (X.then (number c.E)))
  (h : (isX [70, 79, 82, 69, 86, 69, 82] Y = true ∧ Z = behind Y ∧ m = FOREVER) ∨ (isX [70, 79, 82, 69, 86, 69, 82] Y = false ∧ Z = Y.then (number c.E) ∧ Got Y (number c.E) m)) : X.run (perF c.E ts0) = Z.run (perE c.E ts0 n m) := by
 unfold perF
 rw [run_bnd h1, run_must, ← hY]
 have hp : ∀ r, (bnd (if isT [70, 79, 82, 69, 86, 69, 82] r then .ok (FOREVER, r.tail) else number c.E r) fun z r' => if z ≤ n ∨ FOREVER < z then bad c.E 40 ts0 else .ok ((n, z), r')) = if isT [70, 79, 82, 69, 86, 69, 82] r then perE c.E ts0 n FOREVER r.tail else bnd (number c.E r) (perE c.E ts0 n) := by
  intro r
  by_cases hi : isT [70, 79, 82, 69, 86, 69, 82] r = true
  · rw [if_pos hi, if_pos hi]; rfl
  · rw [if_neg hi, if_neg hi]; rfl
 simp only [hp]
 rcases h with ⟨hf, rfl, rfl⟩ | ⟨hf, rfl, hg⟩
 · exact run_yes (A := perE c.E ts0 n FOREVER) (B := fun r => bnd (number c.E r) (perE c.E ts0 n)) hf
 · rw [run_no (A := fun r => perE c.E ts0 n FOREVER r.tail) (B := fun r => bnd (number c.E r) (perE c.E ts0 n)) hf, run_bnd hg]
theorem then_up {α : Type} {X : Xs} {f : List Tok → Res α} {ts : List Tok} (h : X.then f = .ok ts) : ∃ us, X = .ok us := by
 cases X with
 | error e => cases h
 | ok us => exact ⟨us, rfl⟩
theorem behind_up {X : Xs} {ts : List Tok} (h : behind X = .ok ts) : ∃ us, X = .ok us := by
 cases X with
 | error e => cases h
 | ok us => exact ⟨us, rfl⟩
def PerPost (c : Rx) (w : World) (d : Nat) (X : Xs) (f : List Tok → Res (Nat × Nat)) (e : Ending) (w' : World) : Prop :=
 ∃ n m a' k' p' : Nat, e = .returned (.tuple #[.agg #[.int .i64 (n : Int), .int .i64 (m : Int)], sv c a' d k' p']) ∧ In c (X.then f) a' k' p' ∧ Got X f (n, m) ∧ Ext w w'
theorem rperiod_ok (c : Rx) (X : Xs) (a d k p : Nat) (w : World) (h : Rk w c) (hx : In c X a k p) :
   Calls Tryz.prog 101 #[sv c a d k p] w (PerPost c w d X (period c.E)) := by
 have H := Lib.hid h
 have HX := Lib.hid hx
 have hsm := h.small
 have hle := hx.1
 clear h hx
 obtain ⟨ts0, ht0⟩ := per_start X c.E
 have HT := Lib.hid ht0
 clear ht0
 unfold sv
 have E_w : Hid (Ext w w) := Lib.hid (Ext.refl w)
 go_enter Tryz.func101, Tryz.ntmps101
 go_wp2_with fail
 refine (rnumber_ok c X a d k p _ (H.out.ext (xE E_w)) HX.out).mono ?_
 rintro e w2 ⟨n, a1, k1, p1, rfl, h_I1, h_G1, hE⟩
 have n_s_x := ne2 (show w.heap.size ≠ w.heap.size + 1 by omega);have n_s_r := ne2 (show w.heap.size ≠ w.heap.size + 1 + 1 by omega);have n_s_b := ne2 (show w.heap.size ≠ w.heap.size + 1 + 1 + 1 by omega);have n_s_q := ne2 (show w.heap.size ≠ w.heap.size + 1 + 1 + 1 + 1 by omega);have n_x_r := ne2 (show w.heap.size + 1 ≠ w.heap.size + 1 + 1 by omega);have n_x_b := ne2 (show w.heap.size + 1 ≠ w.heap.size + 1 + 1 + 1 by omega);have n_x_q := ne2 (show w.heap.size + 1 ≠ w.heap.size + 1 + 1 + 1 + 1 by omega);have n_r_b := ne2 (show w.heap.size + 1 + 1 ≠ w.heap.size + 1 + 1 + 1 by omega);have n_r_q := ne2 (show w.heap.size + 1 + 1 ≠ w.heap.size + 1 + 1 + 1 + 1 by omega);have n_b_q := ne2 (show w.heap.size + 1 + 1 + 1 ≠ w.heap.size + 1 + 1 + 1 + 1 by omega)
 have E_w2 := aE E_w hE;have Bs_w2 := nk6 (w.heap.size) hE;have Bx_w2 := nk2 (w.heap.size + 1) hE;have Br_w2 := nk6 (w.heap.size + 1 + 1) hE;have Bb_w2 := nk6 (w.heap.size + 1 + 1 + 1) hE;have Bq_w2 := nk2 (w.heap.size + 1 + 1 + 1 + 1) hE
 clear hE
 have z_w2 := E_w2.out.size;have c_s := opn6 Bs_w2;have c_x := opn2 Bx_w2;have c_r := opn6 Br_w2;have c_b := opn6 Bb_w2;have c_q := opn2 Bq_w2
 (try unfold sv)
 have I1 := Lib.hid h_I1; clear h_I1
 have G1 := Lib.hid h_G1; clear h_G1
 go_wp2_with fail
 refine (rmust_ok c _ a1 d k1 p1 [84, 79] _ (H.out.ext (xE E_w2)) I1.out).mono ?_
 rintro e w3 ⟨a2, k2, p2, rfl, h_I2, hE⟩
 have E_w3 := aE E_w2 hE;have Bs_w3 := bk6 Bs_w2 hE;have Bx_w3 := bk2 Bx_w2 hE;have Br_w3 := bk6 Br_w2 hE;have Bb_w3 := bk6 Bb_w2 hE;have Bq_w3 := bk2 Bq_w2 hE
 clear hE c_s c_x c_r c_b c_q Bs_w2 Bx_w2 Br_w2 Bb_w2 Bq_w2
 have z_w3 := E_w3.out.size;have c_s := opn6 Bs_w3;have c_x := opn2 Bx_w3;have c_r := opn6 Br_w3;have c_b := opn6 Bb_w3;have c_q := opn2 Bq_w3
 (try unfold sv)
 have I2 := Lib.hid h_I2; clear h_I2
 go_wp2_with fail
 refine (rmay_ok c _ a2 d k2 p2 [70, 79, 82, 69, 86, 69, 82] _ (H.out.ext (xE E_w3)) I2.out).mono ?_
 rintro e w4 ⟨a3, rfl, h_I3, hE⟩
 have E_w4 := aE E_w3 hE;have Bs_w4 := bk6 Bs_w3 hE;have Bx_w4 := bk2 Bx_w3 hE;have Br_w4 := bk6 Br_w3 hE;have Bb_w4 := bk6 Bb_w3 hE;have Bq_w4 := bk2 Bq_w3 hE
 clear hE c_s c_x c_r c_b c_q Bs_w3 Bx_w3 Br_w3 Bb_w3 Bq_w3
 have z_w4 := E_w4.out.size;have c_s := opn6 Bs_w4;have c_x := opn2 Bx_w4;have c_r := opn6 Br_w4;have c_b := opn6 Bb_w4;have c_q := opn2 Bq_w4
 (try unfold sv)
 have I3 := Lib.hid h_I3; clear h_I3
 cases hm : isX [70, 79, 82, 69, 86, 69, 82] (mustX c [84, 79] (X.then (number c.E))) with
 | true =>
   have HM := Lib.hid hm
   clear hm
   have IZ : Hid (In c (behind (mustX c [84, 79] (X.then (number c.E)))) a3 k2 p2) := Lib.hid (by have := I3.out; rwa [mayX_yes HM.out] at this)
   obtain ⟨mm, hmm⟩ : ∃ mm : Nat, mm = 1099511627776 := ⟨_, rfl⟩
   have Bq_v : Hid (w4.heap[w.heap.size + 1 + 1 + 1 + 1]? = some (.cells #[.int .i64 (n : Int), .int .i64 (mm : Int)] 28 (0, 0))) := Lib.hid (by have h1 := Bq_w4.out; rw [show (1099511627776 : Int) = (mm : Int) by omega] at h1; exact h1)
   have HR : Hid (X.run (perF c.E ts0) = (behind (mustX c [84, 79] (X.then (number c.E)))).run (perE c.E ts0 n mm)) := Lib.hid (per_run G1.out rfl (.inl ⟨HM.out, rfl, hmm⟩))
   clear hmm
   clear c_s c_x c_r c_b c_q
   have c_s := opn6 Bs_w4;have c_x := opn2 Bx_w4;have c_r := opn6 Br_w4;have c_b := opn6 Bb_w4;have c_q := opn2 Bq_v
   have hleq := IZ.out.1
   obtain ⟨Z, hZ⟩ : ∃ Z, (behind (mustX c [84, 79] (X.then (number c.E)))) = Z := ⟨_, rfl⟩
   have HZ := Lib.hid hZ
   clear hZ
   rcases Z with ⟨ke, pe⟩ | rr
   · have hk3 : ((k2 : Int) == 0) = false := by
       have h1 := IZ.out.2
       rw [HZ.out] at h1
       have := h1.1; have := h1.2.2
       simp only [beq_eq_false_iff_ne, ne_eq]; omega
     go_wp2
     refine wp_nm (fun w8 hE => ?_)
     have n_s_t := ne2 (show w.heap.size ≠ w4.heap.size by omega);have n_x_t := ne2 (show w.heap.size + 1 ≠ w4.heap.size by omega);have n_r_t := ne2 (show w.heap.size + 1 + 1 ≠ w4.heap.size by omega);have n_b_t := ne2 (show w.heap.size + 1 + 1 + 1 ≠ w4.heap.size by omega);have n_q_t := ne2 (show w.heap.size + 1 + 1 + 1 + 1 ≠ w4.heap.size by omega)
     have E_w8 := aE E_w4 hE;have Bs_w8 := bk6 Bs_w4 hE;have Bx_w8 := bk2 Bx_w4 hE;have Br_w8 := bk6 Br_w4 hE;have Bb_w8 := bk6 Bb_w4 hE;have Bq_w8 := bk2 Bq_v hE;have Bt_w8 := nk6 (w4.heap.size) hE;have T_w8 : Hid (Touch (fun b => b = w.heap.size ∨ b = w.heap.size + 1 ∨ b = w.heap.size + 1 + 1 ∨ b = w.heap.size + 1 + 1 + 1 ∨ b = w.heap.size + 1 + 1 + 1 + 1) w4 w8) := aT hE
     clear hE c_s c_x c_r c_b c_q Bs_w4 Bx_w4 Br_w4 Bb_w4 Bq_v
     have z_w8 := E_w8.out.size;have c_s := opn6 Bs_w8;have c_x := opn2 Bx_w8;have c_r := opn6 Br_w8;have c_b := opn6 Bb_w8;have c_q := opn2 Bq_w8;have c_t := opn6 Bt_w8
     letI : Tch.TS := ⟨fun b => b = w.heap.size + 1⟩
     refine Tch.region_calm [.e 0, .e 1, .h 2 true, .h 3 false] f_mixed (by kernel_rfl) (by kernel_rfl) ?_
     refine Tch.plan_e1 rfl rfl (.agg #[.int .i64 (n : Int), .int .i64 (mm : Int)]) (fun w' he => ?_) (fun K hK => ?_)
     · have d := tch2 he c_q (fun (e : _ = _) => by omega)
       clear c_q he
       go_simp
     go_simp; refine hK _ ?_; clear hK K
     refine Tch.plan_e1 rfl rfl (.agg #[slv c.g c.all.length c.cap, .int .i64 (a3 : Int), .int .i64 (c.E : Int), .int .i64 (d : Int), .int .i64 (k2 : Int), .int .i64 (p2 : Int)]) (fun w' he => ?_) (fun K hK => ?_)
     · have d := tch6 he c_s (fun (e : _ = _) => by omega)
       clear c_s he
       go_simp
     go_simp; refine hK _ ?_; clear hK K
     refine Tch.plan_ct rfl rfl (fun K _ hK => ?_)
     go_wp2
     refine hK _ _ (late2d _ _ _ _) ?_; clear hK K
     refine Tch.plan_c rfl rfl (fun K _ hK => ?_)
     go_wp2
     refine tch_done ?_
     go_wp2
     (try simp only [Exit.inBlock, Exit.then])
     refine bodyPost_ret (v := .tuple #[.agg #[.int .i64 (n : Int), .int .i64 (mm : Int)], .agg #[slv c.g c.all.length c.cap, .int .i64 (a3 : Int), .int .i64 (c.E : Int), .int .i64 (d : Int), .int .i64 (k2 : Int), .int .i64 (p2 : Int)]]) (res_cc rfl rfl (lv_per (xb2 Bx_w8)) rfl (lv_src (xb6 Br_w8))) rfl ?_
     obtain ⟨h2, h3⟩ := run_end (F := period c.E) (z := (n, mm)) (by rw [HT.out.2, HR.out, HZ.out]; rfl) IZ.out
     exact ⟨n, mm, _, _, _, rfl, h2, h3, (xE E_w8)⟩
   · have hk3 : ((k2 : Int) == 0) = true := by
       have h1 := IZ.out.2
       rw [HZ.out] at h1
       have := h1.1
       simp only [beq_iff_eq]; omega
     by_cases hq : mm ≤ n ∨ 1099511627776 < mm
     · have HQ := Lib.hid hq
       obtain ⟨u0, hu0⟩ : ∃ us, X = .ok us := (by obtain ⟨u1, h1⟩ := behind_up HZ.out; rw [must_then] at h1; obtain ⟨u2, h2⟩ := then_up h1; exact then_up h2)
       have HU := Lib.hid hu0
       clear hu0 hq
       by_cases hq1 : mm ≤ n
       · have hq2 : (mm : Int) ≤ (n : Int) := by omega
         go_wp2
         refine wp_nm (fun w8 hE => ?_)
         have n_s_t := ne2 (show w.heap.size ≠ w4.heap.size by omega);have n_x_t := ne2 (show w.heap.size + 1 ≠ w4.heap.size by omega);have n_r_t := ne2 (show w.heap.size + 1 + 1 ≠ w4.heap.size by omega);have n_b_t := ne2 (show w.heap.size + 1 + 1 + 1 ≠ w4.heap.size by omega);have n_q_t := ne2 (show w.heap.size + 1 + 1 + 1 + 1 ≠ w4.heap.size by omega)
         have E_w8 := aE E_w4 hE;have Bs_w8 := bk6 Bs_w4 hE;have Bx_w8 := bk2 Bx_w4 hE;have Br_w8 := bk6 Br_w4 hE;have Bb_w8 := bk6 Bb_w4 hE;have Bq_w8 := bk2 Bq_v hE;have Bt_w8 := nk6 (w4.heap.size) hE;have T_w8 : Hid (Touch (fun b => b = w.heap.size ∨ b = w.heap.size + 1 ∨ b = w.heap.size + 1 + 1 ∨ b = w.heap.size + 1 + 1 + 1 ∨ b = w.heap.size + 1 + 1 + 1 + 1) w4 w8) := aT hE
         clear hE c_s c_x c_r c_b c_q Bs_w4 Bx_w4 Br_w4 Bb_w4 Bq_v
         have z_w8 := E_w8.out.size;have c_s := opn6 Bs_w8;have c_x := opn2 Bx_w8;have c_r := opn6 Br_w8;have c_b := opn6 Bb_w8;have c_q := opn2 Bq_w8;have c_t := opn6 Bt_w8
         letI : Tch.TS := ⟨fun b => b = w.heap.size + 1⟩
         refine Tch.region_calm [.e 0, .e 1, .h 2 true, .h 3 false, .h 4 false] f_mixed (by kernel_rfl) (by kernel_rfl) ?_
         refine Tch.plan_e1 rfl rfl (.agg #[.int .i64 (n : Int), .int .i64 (mm : Int)]) (fun w' he => ?_) (fun K hK => ?_)
         · have d := tch2 he c_q (fun (e : _ = _) => by omega)
           clear c_q he
           go_simp
         go_simp; refine hK _ ?_; clear hK K
         refine Tch.plan_e1 rfl rfl (.agg #[slv c.g c.all.length c.cap, .int .i64 (a : Int), .int .i64 (c.E : Int), .int .i64 (d : Int), .int .i64 (k : Int), .int .i64 (p : Int)]) (fun w' he => ?_) (fun K hK => ?_)
         · have d := tch6 he c_b (fun (e : _ = _) => by omega)
           clear c_b he
           go_simp
         go_simp; refine hK _ ?_; clear hK K
         refine Tch.plan_ct rfl rfl (fun K _ hK => ?_)
         go_wp2_with fail
         refine (rfail_ok c X a d k p 40 _ (H.out.ext (xE E_w8)) HX.out (by decide)).mono ?_
         rintro e w9 ⟨kb, pb, rfl, h_IB, hE⟩
         have KE := Lib.hid hE
         have E_w9 := aE E_w8 hE;have Bs_w9 := bk6 Bs_w8 hE;have Bx_w9 := bk2 Bx_w8 hE;have Br_w9 := bk6 Br_w8 hE;have Bb_w9 := bk6 Bb_w8 hE;have Bq_w9 := bk2 Bq_w8 hE;have Bt_w9 := bk6 Bt_w8 hE;have T_w9 : Hid (Touch (fun b => b = w.heap.size ∨ b = w.heap.size + 1 ∨ b = w.heap.size + 1 + 1 ∨ b = w.heap.size + 1 + 1 + 1 ∨ b = w.heap.size + 1 + 1 + 1 + 1 ∨ b = w4.heap.size) w8 w9) := aT hE
         clear hE c_s c_x c_r c_b c_q c_t Bs_w8 Bx_w8 Br_w8 Bb_w8 Bq_w8 Bt_w8
         have z_w9 := E_w9.out.size;have c_s := opn6 Bs_w9;have c_x := opn2 Bx_w9;have c_r := opn6 Br_w9;have c_b := opn6 Bb_w9;have c_q := opn2 Bq_w9;have c_t := opn6 Bt_w9
         (try unfold sv)
         have IB := Lib.hid h_IB; clear h_IB
         go_wp2_with fail
         refine hK _ _ (KE.out.touch _) ?_; clear hK K
         refine Tch.plan_c rfl rfl (fun K _ hK => ?_)
         go_wp2_with fail
         refine Tch.plan_c rfl rfl (fun K _ hK => ?_)
         go_wp2_with fail
         refine tch_done ?_
         go_wp2
         (try simp only [Exit.inBlock, Exit.then])
         refine bodyPost_ret (v := .tuple #[.agg #[.int .i64 (n : Int), .int .i64 (mm : Int)], .agg #[slv c.g c.all.length c.cap, .int .i64 (a : Int), .int .i64 (c.E : Int), .int .i64 (d : Int), .int .i64 (kb : Int), .int .i64 (pb : Int)]]) (res_cc rfl rfl (lv_per (xb2 Bx_w9)) rfl (lv_src (xb6 Br_w9))) rfl ?_
         obtain ⟨h2, h3⟩ := run_end (F := period c.E) (Y := failX c 40 X) (z := (n, mm)) (by rw [HT.out.2, HR.out, HZ.out]; show perE c.E ts0 n mm rr = _; unfold perE FOREVER; rw [if_pos HQ.out, HU.out, HT.out.1 _ HU.out]; rfl) IB.out
         exact ⟨n, mm, _, _, _, rfl, h2, h3, (xE E_w9)⟩
       · have hq2 : ¬ (mm : Int) ≤ (n : Int) := by omega
         have hq4 : (1099511627776 : Int) < (mm : Int) := by
           rcases HQ.out with h | h
           · exact absurd h hq1
           · omega
         go_wp2
         refine wp_nm (fun w8 hE => ?_)
         have n_s_t := ne2 (show w.heap.size ≠ w4.heap.size by omega);have n_x_t := ne2 (show w.heap.size + 1 ≠ w4.heap.size by omega);have n_r_t := ne2 (show w.heap.size + 1 + 1 ≠ w4.heap.size by omega);have n_b_t := ne2 (show w.heap.size + 1 + 1 + 1 ≠ w4.heap.size by omega);have n_q_t := ne2 (show w.heap.size + 1 + 1 + 1 + 1 ≠ w4.heap.size by omega)
         have E_w8 := aE E_w4 hE;have Bs_w8 := bk6 Bs_w4 hE;have Bx_w8 := bk2 Bx_w4 hE;have Br_w8 := bk6 Br_w4 hE;have Bb_w8 := bk6 Bb_w4 hE;have Bq_w8 := bk2 Bq_v hE;have Bt_w8 := nk6 (w4.heap.size) hE;have T_w8 : Hid (Touch (fun b => b = w.heap.size ∨ b = w.heap.size + 1 ∨ b = w.heap.size + 1 + 1 ∨ b = w.heap.size + 1 + 1 + 1 ∨ b = w.heap.size + 1 + 1 + 1 + 1) w4 w8) := aT hE
         clear hE c_s c_x c_r c_b c_q Bs_w4 Bx_w4 Br_w4 Bb_w4 Bq_v
         have z_w8 := E_w8.out.size;have c_s := opn6 Bs_w8;have c_x := opn2 Bx_w8;have c_r := opn6 Br_w8;have c_b := opn6 Bb_w8;have c_q := opn2 Bq_w8;have c_t := opn6 Bt_w8
         letI : Tch.TS := ⟨fun b => b = w.heap.size + 1⟩
         refine Tch.region_calm [.e 0, .e 1, .h 2 true, .h 3 false, .h 4 false] f_mixed (by kernel_rfl) (by kernel_rfl) ?_
         refine Tch.plan_e1 rfl rfl (.agg #[.int .i64 (n : Int), .int .i64 (mm : Int)]) (fun w' he => ?_) (fun K hK => ?_)
         · have d := tch2 he c_q (fun (e : _ = _) => by omega)
           clear c_q he
           go_simp
         go_simp; refine hK _ ?_; clear hK K
         refine Tch.plan_e1 rfl rfl (.agg #[slv c.g c.all.length c.cap, .int .i64 (a : Int), .int .i64 (c.E : Int), .int .i64 (d : Int), .int .i64 (k : Int), .int .i64 (p : Int)]) (fun w' he => ?_) (fun K hK => ?_)
         · have d := tch6 he c_b (fun (e : _ = _) => by omega)
           clear c_b he
           go_simp
         go_simp; refine hK _ ?_; clear hK K
         refine Tch.plan_ct rfl rfl (fun K _ hK => ?_)
         go_wp2_with fail
         refine (rfail_ok c X a d k p 40 _ (H.out.ext (xE E_w8)) HX.out (by decide)).mono ?_
         rintro e w9 ⟨kb, pb, rfl, h_IB, hE⟩
         have KE := Lib.hid hE
         have E_w9 := aE E_w8 hE;have Bs_w9 := bk6 Bs_w8 hE;have Bx_w9 := bk2 Bx_w8 hE;have Br_w9 := bk6 Br_w8 hE;have Bb_w9 := bk6 Bb_w8 hE;have Bq_w9 := bk2 Bq_w8 hE;have Bt_w9 := bk6 Bt_w8 hE;have T_w9 : Hid (Touch (fun b => b = w.heap.size ∨ b = w.heap.size + 1 ∨ b = w.heap.size + 1 + 1 ∨ b = w.heap.size + 1 + 1 + 1 ∨ b = w.heap.size + 1 + 1 + 1 + 1 ∨ b = w4.heap.size) w8 w9) := aT hE
         clear hE c_s c_x c_r c_b c_q c_t Bs_w8 Bx_w8 Br_w8 Bb_w8 Bq_w8 Bt_w8
         have z_w9 := E_w9.out.size;have c_s := opn6 Bs_w9;have c_x := opn2 Bx_w9;have c_r := opn6 Br_w9;have c_b := opn6 Bb_w9;have c_q := opn2 Bq_w9;have c_t := opn6 Bt_w9
         (try unfold sv)
         have IB := Lib.hid h_IB; clear h_IB
         go_wp2_with fail
         refine hK _ _ (KE.out.touch _) ?_; clear hK K
         refine Tch.plan_c rfl rfl (fun K _ hK => ?_)
         go_wp2_with fail
         refine Tch.plan_c rfl rfl (fun K _ hK => ?_)
         go_wp2_with fail
         refine tch_done ?_
         go_wp2
         (try simp only [Exit.inBlock, Exit.then])
         refine bodyPost_ret (v := .tuple #[.agg #[.int .i64 (n : Int), .int .i64 (mm : Int)], .agg #[slv c.g c.all.length c.cap, .int .i64 (a : Int), .int .i64 (c.E : Int), .int .i64 (d : Int), .int .i64 (kb : Int), .int .i64 (pb : Int)]]) (res_cc rfl rfl (lv_per (xb2 Bx_w9)) rfl (lv_src (xb6 Br_w9))) rfl ?_
         obtain ⟨h2, h3⟩ := run_end (F := period c.E) (Y := failX c 40 X) (z := (n, mm)) (by rw [HT.out.2, HR.out, HZ.out]; show perE c.E ts0 n mm rr = _; unfold perE FOREVER; rw [if_pos HQ.out, HU.out, HT.out.1 _ HU.out]; rfl) IB.out
         exact ⟨n, mm, _, _, _, rfl, h2, h3, (xE E_w9)⟩
     · have hq2 : ¬ (mm : Int) ≤ (n : Int) := by omega
       have hq4 : ¬ (1099511627776 : Int) < (mm : Int) := by
         intro h
         exact hq (.inr (by omega))
       have HQ := Lib.hid hq
       clear hq
       go_wp2
       refine wp_nm (fun w8 hE => ?_)
       have n_s_t := ne2 (show w.heap.size ≠ w4.heap.size by omega);have n_x_t := ne2 (show w.heap.size + 1 ≠ w4.heap.size by omega);have n_r_t := ne2 (show w.heap.size + 1 + 1 ≠ w4.heap.size by omega);have n_b_t := ne2 (show w.heap.size + 1 + 1 + 1 ≠ w4.heap.size by omega);have n_q_t := ne2 (show w.heap.size + 1 + 1 + 1 + 1 ≠ w4.heap.size by omega)
       have E_w8 := aE E_w4 hE;have Bs_w8 := bk6 Bs_w4 hE;have Bx_w8 := bk2 Bx_w4 hE;have Br_w8 := bk6 Br_w4 hE;have Bb_w8 := bk6 Bb_w4 hE;have Bq_w8 := bk2 Bq_v hE;have Bt_w8 := nk6 (w4.heap.size) hE;have T_w8 : Hid (Touch (fun b => b = w.heap.size ∨ b = w.heap.size + 1 ∨ b = w.heap.size + 1 + 1 ∨ b = w.heap.size + 1 + 1 + 1 ∨ b = w.heap.size + 1 + 1 + 1 + 1) w4 w8) := aT hE
       clear hE c_s c_x c_r c_b c_q Bs_w4 Bx_w4 Br_w4 Bb_w4 Bq_v
       have z_w8 := E_w8.out.size;have c_s := opn6 Bs_w8;have c_x := opn2 Bx_w8;have c_r := opn6 Br_w8;have c_b := opn6 Bb_w8;have c_q := opn2 Bq_w8;have c_t := opn6 Bt_w8
       letI : Tch.TS := ⟨fun b => b = w.heap.size + 1⟩
       refine Tch.region_calm [.e 0, .e 1, .h 2 true, .h 3 false] f_mixed (by kernel_rfl) (by kernel_rfl) ?_
       refine Tch.plan_e1 rfl rfl (.agg #[.int .i64 (n : Int), .int .i64 (mm : Int)]) (fun w' he => ?_) (fun K hK => ?_)
       · have d := tch2 he c_q (fun (e : _ = _) => by omega)
         clear c_q he
         go_simp
       go_simp; refine hK _ ?_; clear hK K
       refine Tch.plan_e1 rfl rfl (.agg #[slv c.g c.all.length c.cap, .int .i64 (a3 : Int), .int .i64 (c.E : Int), .int .i64 (d : Int), .int .i64 (k2 : Int), .int .i64 (p2 : Int)]) (fun w' he => ?_) (fun K hK => ?_)
       · have d := tch6 he c_s (fun (e : _ = _) => by omega)
         clear c_s he
         go_simp
       go_simp; refine hK _ ?_; clear hK K
       refine Tch.plan_ct rfl rfl (fun K _ hK => ?_)
       go_wp2
       refine hK _ _ (late2d _ _ _ _) ?_; clear hK K
       refine Tch.plan_c rfl rfl (fun K _ hK => ?_)
       go_wp2
       refine tch_done ?_
       go_wp2
       (try simp only [Exit.inBlock, Exit.then])
       refine bodyPost_ret (v := .tuple #[.agg #[.int .i64 (n : Int), .int .i64 (mm : Int)], .agg #[slv c.g c.all.length c.cap, .int .i64 (a3 : Int), .int .i64 (c.E : Int), .int .i64 (d : Int), .int .i64 (k2 : Int), .int .i64 (p2 : Int)]]) (res_cc rfl rfl (lv_per (xb2 Bx_w8)) rfl (lv_src (xb6 Br_w8))) rfl ?_
       obtain ⟨h2, h3⟩ := run_end (F := period c.E) (z := (n, mm)) (by rw [HT.out.2, HR.out, HZ.out]; show perE c.E ts0 n mm rr = _; unfold perE FOREVER; rw [if_neg HQ.out]; rfl) IZ.out
       exact ⟨n, mm, _, _, _, rfl, h2, h3, (xE E_w8)⟩
 | false =>
   have HM := Lib.hid hm
   clear hm
   go_wp2_with fail
   refine (rnumber_ok c _ a2 d k2 p2 _ (H.out.ext (xE E_w4)) I2.out).mono ?_
   rintro e w5 ⟨m, a4, k4, p4, rfl, h_IZ, h_GZ, hE⟩
   have n_s_t := ne2 (show w.heap.size ≠ w4.heap.size by omega);have n_x_t := ne2 (show w.heap.size + 1 ≠ w4.heap.size by omega);have n_r_t := ne2 (show w.heap.size + 1 + 1 ≠ w4.heap.size by omega);have n_b_t := ne2 (show w.heap.size + 1 + 1 + 1 ≠ w4.heap.size by omega);have n_q_t := ne2 (show w.heap.size + 1 + 1 + 1 + 1 ≠ w4.heap.size by omega)
   have E_w5 := aE E_w4 hE;have Bs_w5 := bk6 Bs_w4 hE;have Bx_w5 := bk2 Bx_w4 hE;have Br_w5 := bk6 Br_w4 hE;have Bb_w5 := bk6 Bb_w4 hE;have Bq_w5 := bk2 Bq_w4 hE;have Bt_w5 := nk6 (w4.heap.size) hE
   clear hE c_s c_x c_r c_b c_q Bs_w4 Bx_w4 Br_w4 Bb_w4 Bq_w4
   have z_w5 := E_w5.out.size;have c_s := opn6 Bs_w5;have c_x := opn2 Bx_w5;have c_r := opn6 Br_w5;have c_b := opn6 Bb_w5;have c_q := opn2 Bq_w5;have c_t := opn6 Bt_w5
   (try unfold sv)
   have IZ := Lib.hid h_IZ; clear h_IZ
   have GZ := Lib.hid h_GZ; clear h_GZ
   have HR : Hid (X.run (perF c.E ts0) = ((mustX c [84, 79] (X.then (number c.E))).then (number c.E)).run (perE c.E ts0 n m)) := Lib.hid (per_run G1.out rfl (.inr ⟨HM.out, rfl, GZ.out⟩))
   have hleq := IZ.out.1
   obtain ⟨Z, hZ⟩ : ∃ Z, ((mustX c [84, 79] (X.then (number c.E))).then (number c.E)) = Z := ⟨_, rfl⟩
   have HZ := Lib.hid hZ
   clear hZ
   rcases Z with ⟨ke, pe⟩ | rr
   · have hk3 : ((k4 : Int) == 0) = false := by
       have h1 := IZ.out.2
       rw [HZ.out] at h1
       have := h1.1; have := h1.2.2
       simp only [beq_eq_false_iff_ne, ne_eq]; omega
     go_wp2
     refine wp_nm (fun w8 hE => ?_)
     have E_w8 := aE E_w5 hE;have Bs_w8 := bk6 Bs_w5 hE;have Bx_w8 := bk2 Bx_w5 hE;have Br_w8 := bk6 Br_w5 hE;have Bb_w8 := bk6 Bb_w5 hE;have Bq_w8 := bk2 Bq_w5 hE;have Bt_w8 := bk6 Bt_w5 hE;have T_w8 : Hid (Touch (fun b => b = w.heap.size ∨ b = w.heap.size + 1 ∨ b = w.heap.size + 1 + 1 ∨ b = w.heap.size + 1 + 1 + 1 ∨ b = w.heap.size + 1 + 1 + 1 + 1 ∨ b = w4.heap.size) w5 w8) := aT hE
     clear hE c_s c_x c_r c_b c_q c_t Bs_w5 Bx_w5 Br_w5 Bb_w5 Bq_w5 Bt_w5
     have z_w8 := E_w8.out.size;have c_s := opn6 Bs_w8;have c_x := opn2 Bx_w8;have c_r := opn6 Br_w8;have c_b := opn6 Bb_w8;have c_q := opn2 Bq_w8;have c_t := opn6 Bt_w8
     letI : Tch.TS := ⟨fun b => b = w.heap.size + 1⟩
     refine Tch.region_calm [.e 0, .e 1, .h 2 true, .h 3 false] f_mixed (by kernel_rfl) (by kernel_rfl) ?_
     refine Tch.plan_e1 rfl rfl (.agg #[.int .i64 (n : Int), .int .i64 (m : Int)]) (fun w' he => ?_) (fun K hK => ?_)
     · have d := tch2 he c_q (fun (e : _ = _) => by omega)
       clear c_q he
       go_simp
     go_simp; refine hK _ ?_; clear hK K
     refine Tch.plan_e1 rfl rfl (.agg #[slv c.g c.all.length c.cap, .int .i64 (a4 : Int), .int .i64 (c.E : Int), .int .i64 (d : Int), .int .i64 (k4 : Int), .int .i64 (p4 : Int)]) (fun w' he => ?_) (fun K hK => ?_)
     · have d := tch6 he c_s (fun (e : _ = _) => by omega)
       clear c_s he
       go_simp
     go_simp; refine hK _ ?_; clear hK K
     refine Tch.plan_ct rfl rfl (fun K _ hK => ?_)
     go_wp2
     refine hK _ _ (late2d _ _ _ _) ?_; clear hK K
     refine Tch.plan_c rfl rfl (fun K _ hK => ?_)
     go_wp2
     refine tch_done ?_
     go_wp2
     (try simp only [Exit.inBlock, Exit.then])
     refine bodyPost_ret (v := .tuple #[.agg #[.int .i64 (n : Int), .int .i64 (m : Int)], .agg #[slv c.g c.all.length c.cap, .int .i64 (a4 : Int), .int .i64 (c.E : Int), .int .i64 (d : Int), .int .i64 (k4 : Int), .int .i64 (p4 : Int)]]) (res_cc rfl rfl (lv_per (xb2 Bx_w8)) rfl (lv_src (xb6 Br_w8))) rfl ?_
     obtain ⟨h2, h3⟩ := run_end (F := period c.E) (z := (n, m)) (by rw [HT.out.2, HR.out, HZ.out]; rfl) IZ.out
     exact ⟨n, m, _, _, _, rfl, h2, h3, (xE E_w8)⟩
   · have hk3 : ((k4 : Int) == 0) = true := by
       have h1 := IZ.out.2
       rw [HZ.out] at h1
       have := h1.1
       simp only [beq_iff_eq]; omega
     by_cases hq : m ≤ n ∨ 1099511627776 < m
     · have HQ := Lib.hid hq
       obtain ⟨u0, hu0⟩ : ∃ us, X = .ok us := (by obtain ⟨u1, h1⟩ := then_up HZ.out; rw [must_then] at h1; obtain ⟨u2, h2⟩ := then_up h1; exact then_up h2)
       have HU := Lib.hid hu0
       clear hu0 hq
       by_cases hq1 : m ≤ n
       · have hq2 : (m : Int) ≤ (n : Int) := by omega
         go_wp2
         refine wp_nm (fun w8 hE => ?_)
         have E_w8 := aE E_w5 hE;have Bs_w8 := bk6 Bs_w5 hE;have Bx_w8 := bk2 Bx_w5 hE;have Br_w8 := bk6 Br_w5 hE;have Bb_w8 := bk6 Bb_w5 hE;have Bq_w8 := bk2 Bq_w5 hE;have Bt_w8 := bk6 Bt_w5 hE;have T_w8 : Hid (Touch (fun b => b = w.heap.size ∨ b = w.heap.size + 1 ∨ b = w.heap.size + 1 + 1 ∨ b = w.heap.size + 1 + 1 + 1 ∨ b = w.heap.size + 1 + 1 + 1 + 1 ∨ b = w4.heap.size) w5 w8) := aT hE
         clear hE c_s c_x c_r c_b c_q c_t Bs_w5 Bx_w5 Br_w5 Bb_w5 Bq_w5 Bt_w5
         have z_w8 := E_w8.out.size;have c_s := opn6 Bs_w8;have c_x := opn2 Bx_w8;have c_r := opn6 Br_w8;have c_b := opn6 Bb_w8;have c_q := opn2 Bq_w8;have c_t := opn6 Bt_w8
         letI : Tch.TS := ⟨fun b => b = w.heap.size + 1⟩
         refine Tch.region_calm [.e 0, .e 1, .h 2 true, .h 3 false, .h 4 false] f_mixed (by kernel_rfl) (by kernel_rfl) ?_
         refine Tch.plan_e1 rfl rfl (.agg #[.int .i64 (n : Int), .int .i64 (m : Int)]) (fun w' he => ?_) (fun K hK => ?_)
         · have d := tch2 he c_q (fun (e : _ = _) => by omega)
           clear c_q he
           go_simp
         go_simp; refine hK _ ?_; clear hK K
         refine Tch.plan_e1 rfl rfl (.agg #[slv c.g c.all.length c.cap, .int .i64 (a : Int), .int .i64 (c.E : Int), .int .i64 (d : Int), .int .i64 (k : Int), .int .i64 (p : Int)]) (fun w' he => ?_) (fun K hK => ?_)
         · have d := tch6 he c_b (fun (e : _ = _) => by omega)
           clear c_b he
           go_simp
         go_simp; refine hK _ ?_; clear hK K
         refine Tch.plan_ct rfl rfl (fun K _ hK => ?_)
         go_wp2_with fail
         refine (rfail_ok c X a d k p 40 _ (H.out.ext (xE E_w8)) HX.out (by decide)).mono ?_
         rintro e w9 ⟨kb, pb, rfl, h_IB, hE⟩
         have KE := Lib.hid hE
         have E_w9 := aE E_w8 hE;have Bs_w9 := bk6 Bs_w8 hE;have Bx_w9 := bk2 Bx_w8 hE;have Br_w9 := bk6 Br_w8 hE;have Bb_w9 := bk6 Bb_w8 hE;have Bq_w9 := bk2 Bq_w8 hE;have Bt_w9 := bk6 Bt_w8 hE;have T_w9 : Hid (Touch (fun b => b = w.heap.size ∨ b = w.heap.size + 1 ∨ b = w.heap.size + 1 + 1 ∨ b = w.heap.size + 1 + 1 + 1 ∨ b = w.heap.size + 1 + 1 + 1 + 1 ∨ b = w4.heap.size) w8 w9) := aT hE
         clear hE c_s c_x c_r c_b c_q c_t Bs_w8 Bx_w8 Br_w8 Bb_w8 Bq_w8 Bt_w8
         have z_w9 := E_w9.out.size;have c_s := opn6 Bs_w9;have c_x := opn2 Bx_w9;have c_r := opn6 Br_w9;have c_b := opn6 Bb_w9;have c_q := opn2 Bq_w9;have c_t := opn6 Bt_w9
         (try unfold sv)
         have IB := Lib.hid h_IB; clear h_IB
         go_wp2_with fail
         refine hK _ _ (KE.out.touch _) ?_; clear hK K
         refine Tch.plan_c rfl rfl (fun K _ hK => ?_)
         go_wp2_with fail
         refine Tch.plan_c rfl rfl (fun K _ hK => ?_)
         go_wp2_with fail
         refine tch_done ?_
         go_wp2
         (try simp only [Exit.inBlock, Exit.then])
         refine bodyPost_ret (v := .tuple #[.agg #[.int .i64 (n : Int), .int .i64 (m : Int)], .agg #[slv c.g c.all.length c.cap, .int .i64 (a : Int), .int .i64 (c.E : Int), .int .i64 (d : Int), .int .i64 (kb : Int), .int .i64 (pb : Int)]]) (res_cc rfl rfl (lv_per (xb2 Bx_w9)) rfl (lv_src (xb6 Br_w9))) rfl ?_
         obtain ⟨h2, h3⟩ := run_end (F := period c.E) (Y := failX c 40 X) (z := (n, m)) (by rw [HT.out.2, HR.out, HZ.out]; show perE c.E ts0 n m rr = _; unfold perE FOREVER; rw [if_pos HQ.out, HU.out, HT.out.1 _ HU.out]; rfl) IB.out
         exact ⟨n, m, _, _, _, rfl, h2, h3, (xE E_w9)⟩
       · have hq2 : ¬ (m : Int) ≤ (n : Int) := by omega
         have hq4 : (1099511627776 : Int) < (m : Int) := by
           rcases HQ.out with h | h
           · exact absurd h hq1
           · omega
         go_wp2
         refine wp_nm (fun w8 hE => ?_)
         have E_w8 := aE E_w5 hE;have Bs_w8 := bk6 Bs_w5 hE;have Bx_w8 := bk2 Bx_w5 hE;have Br_w8 := bk6 Br_w5 hE;have Bb_w8 := bk6 Bb_w5 hE;have Bq_w8 := bk2 Bq_w5 hE;have Bt_w8 := bk6 Bt_w5 hE;have T_w8 : Hid (Touch (fun b => b = w.heap.size ∨ b = w.heap.size + 1 ∨ b = w.heap.size + 1 + 1 ∨ b = w.heap.size + 1 + 1 + 1 ∨ b = w.heap.size + 1 + 1 + 1 + 1 ∨ b = w4.heap.size) w5 w8) := aT hE
         clear hE c_s c_x c_r c_b c_q c_t Bs_w5 Bx_w5 Br_w5 Bb_w5 Bq_w5 Bt_w5
         have z_w8 := E_w8.out.size;have c_s := opn6 Bs_w8;have c_x := opn2 Bx_w8;have c_r := opn6 Br_w8;have c_b := opn6 Bb_w8;have c_q := opn2 Bq_w8;have c_t := opn6 Bt_w8
         letI : Tch.TS := ⟨fun b => b = w.heap.size + 1⟩
         refine Tch.region_calm [.e 0, .e 1, .h 2 true, .h 3 false, .h 4 false] f_mixed (by kernel_rfl) (by kernel_rfl) ?_
         refine Tch.plan_e1 rfl rfl (.agg #[.int .i64 (n : Int), .int .i64 (m : Int)]) (fun w' he => ?_) (fun K hK => ?_)
         · have d := tch2 he c_q (fun (e : _ = _) => by omega)
           clear c_q he
           go_simp
         go_simp; refine hK _ ?_; clear hK K
         refine Tch.plan_e1 rfl rfl (.agg #[slv c.g c.all.length c.cap, .int .i64 (a : Int), .int .i64 (c.E : Int), .int .i64 (d : Int), .int .i64 (k : Int), .int .i64 (p : Int)]) (fun w' he => ?_) (fun K hK => ?_)
         · have d := tch6 he c_b (fun (e : _ = _) => by omega)
           clear c_b he
           go_simp
         go_simp; refine hK _ ?_; clear hK K
         refine Tch.plan_ct rfl rfl (fun K _ hK => ?_)
         go_wp2_with fail
         refine (rfail_ok c X a d k p 40 _ (H.out.ext (xE E_w8)) HX.out (by decide)).mono ?_
         rintro e w9 ⟨kb, pb, rfl, h_IB, hE⟩
         have KE := Lib.hid hE
         have E_w9 := aE E_w8 hE;have Bs_w9 := bk6 Bs_w8 hE;have Bx_w9 := bk2 Bx_w8 hE;have Br_w9 := bk6 Br_w8 hE;have Bb_w9 := bk6 Bb_w8 hE;have Bq_w9 := bk2 Bq_w8 hE;have Bt_w9 := bk6 Bt_w8 hE;have T_w9 : Hid (Touch (fun b => b = w.heap.size ∨ b = w.heap.size + 1 ∨ b = w.heap.size + 1 + 1 ∨ b = w.heap.size + 1 + 1 + 1 ∨ b = w.heap.size + 1 + 1 + 1 + 1 ∨ b = w4.heap.size) w8 w9) := aT hE
         clear hE c_s c_x c_r c_b c_q c_t Bs_w8 Bx_w8 Br_w8 Bb_w8 Bq_w8 Bt_w8
         have z_w9 := E_w9.out.size;have c_s := opn6 Bs_w9;have c_x := opn2 Bx_w9;have c_r := opn6 Br_w9;have c_b := opn6 Bb_w9;have c_q := opn2 Bq_w9;have c_t := opn6 Bt_w9
         (try unfold sv)
         have IB := Lib.hid h_IB; clear h_IB
         go_wp2_with fail
         refine hK _ _ (KE.out.touch _) ?_; clear hK K
         refine Tch.plan_c rfl rfl (fun K _ hK => ?_)
         go_wp2_with fail
         refine Tch.plan_c rfl rfl (fun K _ hK => ?_)
         go_wp2_with fail
         refine tch_done ?_
         go_wp2
         (try simp only [Exit.inBlock, Exit.then])
         refine bodyPost_ret (v := .tuple #[.agg #[.int .i64 (n : Int), .int .i64 (m : Int)], .agg #[slv c.g c.all.length c.cap, .int .i64 (a : Int), .int .i64 (c.E : Int), .int .i64 (d : Int), .int .i64 (kb : Int), .int .i64 (pb : Int)]]) (res_cc rfl rfl (lv_per (xb2 Bx_w9)) rfl (lv_src (xb6 Br_w9))) rfl ?_
         obtain ⟨h2, h3⟩ := run_end (F := period c.E) (Y := failX c 40 X) (z := (n, m)) (by rw [HT.out.2, HR.out, HZ.out]; show perE c.E ts0 n m rr = _; unfold perE FOREVER; rw [if_pos HQ.out, HU.out, HT.out.1 _ HU.out]; rfl) IB.out
         exact ⟨n, m, _, _, _, rfl, h2, h3, (xE E_w9)⟩
     · have hq2 : ¬ (m : Int) ≤ (n : Int) := by omega
       have hq4 : ¬ (1099511627776 : Int) < (m : Int) := by
         intro h
         exact hq (.inr (by omega))
       have HQ := Lib.hid hq
       clear hq
       go_wp2
       refine wp_nm (fun w8 hE => ?_)
       have E_w8 := aE E_w5 hE;have Bs_w8 := bk6 Bs_w5 hE;have Bx_w8 := bk2 Bx_w5 hE;have Br_w8 := bk6 Br_w5 hE;have Bb_w8 := bk6 Bb_w5 hE;have Bq_w8 := bk2 Bq_w5 hE;have Bt_w8 := bk6 Bt_w5 hE;have T_w8 : Hid (Touch (fun b => b = w.heap.size ∨ b = w.heap.size + 1 ∨ b = w.heap.size + 1 + 1 ∨ b = w.heap.size + 1 + 1 + 1 ∨ b = w.heap.size + 1 + 1 + 1 + 1 ∨ b = w4.heap.size) w5 w8) := aT hE
       clear hE c_s c_x c_r c_b c_q c_t Bs_w5 Bx_w5 Br_w5 Bb_w5 Bq_w5 Bt_w5
       have z_w8 := E_w8.out.size;have c_s := opn6 Bs_w8;have c_x := opn2 Bx_w8;have c_r := opn6 Br_w8;have c_b := opn6 Bb_w8;have c_q := opn2 Bq_w8;have c_t := opn6 Bt_w8
       letI : Tch.TS := ⟨fun b => b = w.heap.size + 1⟩
       refine Tch.region_calm [.e 0, .e 1, .h 2 true, .h 3 false] f_mixed (by kernel_rfl) (by kernel_rfl) ?_
       refine Tch.plan_e1 rfl rfl (.agg #[.int .i64 (n : Int), .int .i64 (m : Int)]) (fun w' he => ?_) (fun K hK => ?_)
       · have d := tch2 he c_q (fun (e : _ = _) => by omega)
         clear c_q he
         go_simp
       go_simp; refine hK _ ?_; clear hK K
       refine Tch.plan_e1 rfl rfl (.agg #[slv c.g c.all.length c.cap, .int .i64 (a4 : Int), .int .i64 (c.E : Int), .int .i64 (d : Int), .int .i64 (k4 : Int), .int .i64 (p4 : Int)]) (fun w' he => ?_) (fun K hK => ?_)
       · have d := tch6 he c_s (fun (e : _ = _) => by omega)
         clear c_s he
         go_simp
       go_simp; refine hK _ ?_; clear hK K
       refine Tch.plan_ct rfl rfl (fun K _ hK => ?_)
       go_wp2
       refine hK _ _ (late2d _ _ _ _) ?_; clear hK K
       refine Tch.plan_c rfl rfl (fun K _ hK => ?_)
       go_wp2
       refine tch_done ?_
       go_wp2
       (try simp only [Exit.inBlock, Exit.then])
       refine bodyPost_ret (v := .tuple #[.agg #[.int .i64 (n : Int), .int .i64 (m : Int)], .agg #[slv c.g c.all.length c.cap, .int .i64 (a4 : Int), .int .i64 (c.E : Int), .int .i64 (d : Int), .int .i64 (k4 : Int), .int .i64 (p4 : Int)]]) (res_cc rfl rfl (lv_per (xb2 Bx_w8)) rfl (lv_src (xb6 Br_w8))) rfl ?_
       obtain ⟨h2, h3⟩ := run_end (F := period c.E) (z := (n, m)) (by rw [HT.out.2, HR.out, HZ.out]; show perE c.E ts0 n m rr = _; unfold perE FOREVER; rw [if_neg HQ.out]; rfl) IZ.out
       exact ⟨n, m, _, _, _, rfl, h2, h3, (xE E_w8)⟩
end Go.Proofs.YtkhnpmeohjafiaaGreatDoor
