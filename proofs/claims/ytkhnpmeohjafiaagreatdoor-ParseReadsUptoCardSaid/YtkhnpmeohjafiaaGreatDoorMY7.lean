/- Lemmas. -/
import Derived.Test.YtkhnpmeohjafiaaGreatDoorMY5
import Derived.Test.YtkhnpmeohjafiaaGreatDoorMY6
import Derived.Test.YtkhnpmeohjafiaaGreatDoorMP
import Derived.Test.YtkhnpmeohjafiaaGreatDoorMG
set_option maxHeartbeats 32000000
set_option maxRecDepth 100000
namespace Go.Proofs.YtkhnpmeohjafiaaGreatDoor
open Go.RowKit
section
variable {X : Xs} {c : Rx}
theorem st_create (h : isX [67, 82, 69, 65, 84, 69] X = true) (h2 : isX [84, 65, 66, 76, 69] (behind X) = true) : X.run (stmt c.E) = (behind (behind X)).run (create c.E) := by
 cases X with
 | error e => cases h
 | ok ts =>
   have h' : isT [67, 82, 69, 65, 84, 69] ts = true := h
   have h2' : isT [84, 65, 66, 76, 69] ts.tail = true := h2
   show stmt c.E ts = _
   unfold stmt; rw [if_pos h', if_pos h2']; rfl
theorem st_index (h : isX [67, 82, 69, 65, 84, 69] X = true) (h2 : isX [84, 65, 66, 76, 69] (behind X) = false) : X.run (stmt c.E) = (behind X).run (index c.E) := by
 cases X with
 | error e => cases h
 | ok ts =>
   have h' : isT [67, 82, 69, 65, 84, 69] ts = true := h
   have h2' : isT [84, 65, 66, 76, 69] ts.tail = false := h2
   show stmt c.E ts = _
   unfold stmt; rw [if_pos h', if_neg (by rw [h2']; decide)]; rfl
theorem st_insert (h0 : isX [67, 82, 69, 65, 84, 69] X = false) (h : isX [73, 78, 83, 69, 82, 84] X = true) : X.run (stmt c.E) = (behind X).run (insert c.E) := by
 cases X with
 | error e => cases h
 | ok ts =>
   have h0' : isT [67, 82, 69, 65, 84, 69] ts = false := h0
   have h' : isT [73, 78, 83, 69, 82, 84] ts = true := h
   show stmt c.E ts = _
   unfold stmt; rw [if_neg (by rw [h0']; decide), if_pos h']; rfl
theorem st_update (h0 : isX [67, 82, 69, 65, 84, 69] X = false) (h1 : isX [73, 78, 83, 69, 82, 84] X = false) (h : isX [85, 80, 68, 65, 84, 69] X = true) : X.run (stmt c.E) = (behind X).run (update c.E) := by
 cases X with
 | error e => cases h
 | ok ts =>
   have h0' : isT [67, 82, 69, 65, 84, 69] ts = false := h0
   have h1' : isT [73, 78, 83, 69, 82, 84] ts = false := h1
   have h' : isT [85, 80, 68, 65, 84, 69] ts = true := h
   show stmt c.E ts = _
   unfold stmt; rw [if_neg (by rw [h0']; decide), if_neg (by rw [h1']; decide), if_pos h']; rfl
theorem st_delete (h0 : isX [67, 82, 69, 65, 84, 69] X = false) (h1 : isX [73, 78, 83, 69, 82, 84] X = false) (h2 : isX [85, 80, 68, 65, 84, 69] X = false) (h : isX [68, 69, 76, 69, 84, 69] X = true) : X.run (stmt c.E) = (behind X).run (delete c.E) := by
 cases X with
 | error e => cases h
 | ok ts =>
   have h0' : isT [67, 82, 69, 65, 84, 69] ts = false := h0
   have h1' : isT [73, 78, 83, 69, 82, 84] ts = false := h1
   have h2' : isT [85, 80, 68, 65, 84, 69] ts = false := h2
   have h' : isT [68, 69, 76, 69, 84, 69] ts = true := h
   show stmt c.E ts = _
   unfold stmt; rw [if_neg (by rw [h0']; decide), if_neg (by rw [h1']; decide), if_neg (by rw [h2']; decide), if_pos h']; rfl
theorem st_word {s : Str} (hs : s ∈ [[66, 69, 71, 73, 78], [67, 79, 77, 77, 73, 84], [82, 79, 76, 76, 66, 65, 67, 75]]) (h0 : isX [67, 82, 69, 65, 84, 69] X = false) (h1 : isX [73, 78, 83, 69, 82, 84] X = false) (h2 : isX [85, 80, 68, 65, 84, 69] X = false) (h3 : isX [68, 69, 76, 69, 84, 69] X = false) (h : isX s X = true) : X.run (stmt c.E) = (behind X).run fun ts => .ok (({ St.none with kind := s } : St), ts) := by
 cases X with
 | error e => cases h
 | ok ts =>
   have h0' : isT [67, 82, 69, 65, 84, 69] ts = false := h0
   have h1' : isT [73, 78, 83, 69, 82, 84] ts = false := h1
   have h2' : isT [85, 80, 68, 65, 84, 69] ts = false := h2
   have h3' : isT [68, 69, 76, 69, 84, 69] ts = false := h3
   have h' : isT s ts = true := h
   show stmt c.E ts = _
   unfold stmt; rw [if_neg (by rw [h0']; decide), if_neg (by rw [h1']; decide), if_neg (by rw [h2']; decide), if_neg (by rw [h3']; decide), if_pos (show anyT [[66, 69, 71, 73, 78], [67, 79, 77, 77, 73, 84], [82, 79, 76, 76, 66, 65, 67, 75]] ts = true from List.any_eq_true.2 ⟨s, hs, h'⟩), isT_txt' h']; rfl
theorem st_sel (h0 : isX [67, 82, 69, 65, 84, 69] X = false) (h1 : isX [73, 78, 83, 69, 82, 84] X = false) (h2 : isX [85, 80, 68, 65, 84, 69] X = false) (h3 : isX [68, 69, 76, 69, 84, 69] X = false) (h4 : isX [66, 69, 71, 73, 78] X = false) (h5 : isX [67, 79, 77, 77, 73, 84] X = false) (h6 : isX [82, 79, 76, 76, 66, 65, 67, 75] X = false) : X.run (stmt c.E) = X.run (selects c.E) := by
 cases X with
 | error e => rfl
 | ok ts =>
   have h0' : isT [67, 82, 69, 65, 84, 69] ts = false := h0
   have h1' : isT [73, 78, 83, 69, 82, 84] ts = false := h1
   have h2' : isT [85, 80, 68, 65, 84, 69] ts = false := h2
   have h3' : isT [68, 69, 76, 69, 84, 69] ts = false := h3
   have h4' : isT [66, 69, 71, 73, 78] ts = false := h4
   have h5' : isT [67, 79, 77, 77, 73, 84] ts = false := h5
   have h6' : isT [82, 79, 76, 76, 66, 65, 67, 75] ts = false := h6
   show stmt c.E ts = _
   unfold stmt; rw [if_neg (by rw [h0']; decide), if_neg (by rw [h1']; decide), if_neg (by rw [h2']; decide), if_neg (by rw [h3']; decide), if_neg (by simp [anyT, h4', h5', h6'])]; rfl
end
theorem rstatement_ok (c : Rx) (X : Xs) (a k p : Nat) (w : World) (h : Rk w c) (hx : In c X a k p) :
   Calls Tryz.prog 23 #[sv c a 0 k p] w (StPost c w X (stmt c.E)) := by
 have H := Lib.hid h
 have HX := Lib.hid hx
 have hsm := h.small
 have hle := hx.1
 clear h hx
 unfold sv
 have E_w : Hid (Ext w w) := Lib.hid (Ext.refl w)
 go_enter Tryz.func23, Tryz.ntmps23
 go_wp2_with fail
 refine (ris_ok c X a 0 k p [67, 82, 69, 65, 84, 69] _ (H.out.ext (xE E_w)) HX.out).mono ?_
 rintro e v1 ⟨rfl, hE⟩
 have n_ := nst4 w
 have E_v1 := aE E_w hE;have Bs_v1 := nk6 (w.heap.size) hE;have Bx_v1 := nk14 (w.heap.size + 1) hE;have Br_v1 := nk6 (w.heap.size + 1 + 1) hE;have Bt_v1 := nk14 (w.heap.size + 1 + 1 + 1) hE
 clear hE
 have z_v1 := E_v1.out.size;have c_s := opn6 Bs_v1;have c_x := opn14 Bx_v1;have c_r := opn6 Br_v1;have c_t := opn14 Bt_v1
 have hv1 : w.heap.size + 1 + 1 + 1 < v1.heap.size := by omega
 cases hc1 : isX [67, 82, 69, 65, 84, 69] X with
 | true =>
   have H1 := Lib.hid hc1
   clear hc1
   have hlt : a < c.all.length := (HX.out.step H1.out).1
   have HI1 := Lib.hid (HX.out.step H1.out).2.1
   have hlb : a + 1 ≤ c.all.length := hlt
   go_wp2_with fail
   refine (ris_ok c _ (a + 1) 0 k p [84, 65, 66, 76, 69] _ (H.out.ext (xE E_v1)) HI1.out).mono ?_
   rintro e v2 ⟨rfl, hE⟩
   have E_v2 := aE E_v1 hE;have Bs_v2 := bk6 Bs_v1 hE;have Bx_v2 := bk14 Bx_v1 hE;have Br_v2 := bk6 Br_v1 hE;have Bt_v2 := bk14 Bt_v1 hE;have T_v2 : Hid (Touch (S4 w) v1 v2) := aT hE
   clear hE c_s c_x c_r c_t Bs_v1 Bx_v1 Br_v1 Bt_v1
   have z_v2 := E_v2.out.size;have c_s := opn6 Bs_v2;have c_x := opn14 Bx_v2;have c_r := opn6 Br_v2;have c_t := opn14 Bt_v2
   have hv2 : w.heap.size + 1 + 1 + 1 < v2.heap.size := by omega
   cases hc2 : isX [84, 65, 66, 76, 69] (behind X) with
   | true =>
     have H2 := Lib.hid hc2
     clear hc2
     have hlt2 : a + 1 < c.all.length := (HI1.out.step H2.out).1
     go_wp2_with fail
     refine (rcreate_ok c _ (a + 1 + 1) k p _ (H.out.ext (xE E_v2)) (HI1.out.step H2.out).2.1).mono ?_
     rintro e v3 ⟨xx, vv, b1, l1, z1, rfl, h_J1, h_G1, h_OK, hE⟩
     have E_v3 := aE E_v2 hE;have Bs_v3 := bk6 Bs_v2 hE;have Bx_v3 := bk14 Bx_v2 hE;have Br_v3 := bk6 Br_v2 hE;have Bt_v3 := bk14 Bt_v2 hE;have T_v3 : Hid (Touch (S4 w) v2 v3) := aT hE
     clear hE c_s c_x c_r c_t Bs_v2 Bx_v2 Br_v2 Bt_v2
     have z_v3 := E_v3.out.size;have c_s := opn6 Bs_v3;have c_x := opn14 Bx_v3;have c_r := opn6 Br_v3;have c_t := opn14 Bt_v3
     (try unfold sv)
     have J1 := Lib.hid h_J1; clear h_J1
     have G1 := Lib.hid h_G1; clear h_G1
     have OK := Lib.hid h_OK; clear h_OK
     have OK2 := Lib.hid (StOk.keep (A' := fun b => w.heap.size + 1 + 1 + 1 < b) OK.out (fun b hb ha => ⟨rfl, by (try simp [size_set] at ha); omega⟩))
     have hleF := J1.out.1
     clear OK
     obtain ⟨u0, u1, u2, u3, u4, u5, u6, u7, u8, u9⟩ := vv
     obtain ⟨g1, c1, e1⟩ := OK2.out.col.slice
     obtain ⟨g2, c2, e2⟩ := OK2.out.key.slice
     obtain ⟨g3, c3, e3⟩ := OK2.out.val.slice
     obtain ⟨g4, c4, e4⟩ := OK2.out.set.slice
     obtain ⟨g5, c5, e5⟩ := OK2.out.cond.slice
     obtain ⟨g6, c6, e6⟩ := OK2.out.qu.slice
     obtain ⟨g7, c7, e7⟩ := OK2.out.op.slice
     obtain ⟨g8, c8, e8⟩ := OK2.out.asof.slice
     obtain ⟨g9, c9, e9⟩ := OK2.out.dur.slice
     obtain ⟨g10, c10, e10⟩ := OK2.out.ord.slice
     simp only at e1 e2 e3 e4 e5 e6 e7 e8 e9 e10
     subst e1 e2 e3 e4 e5 e6 e7 e8 e9 e10
     go_wp2
     (try simp only [Exit.inBlock, Exit.then])
     refine bodyPost_ret (v := .tuple #[.agg #[str xx.kind, str xx.table, slv g1 xx.columns.length c1, slv g2 xx.keys.length c2, slv g3 xx.values.length c3, slv g4 xx.sets.length c4, .int .i64 (xx.period.1 : Int), .int .i64 (xx.period.2 : Int), slv g5 xx.cond.length c5, slv g6 xx.query.length c6, slv g7 xx.ops.length c7, slv g8 xx.asOf.length c8, slv g9 xx.during.length c9, slv g10 xx.order.length c10], .agg #[slv c.g c.all.length c.cap, .int .i64 (b1 : Int), .int .i64 (c.E : Int), .int .i64 ((0 : Nat) : Int), .int .i64 (l1 : Int), .int .i64 (z1 : Int)]]) (res_cc rfl rfl (lv_st (xb14 Bx_v3)) rfl (lv_src (xb6 Br_v3))) rfl ?_
     obtain ⟨h2, h3⟩ := run_end (F := stmt c.E) (z := xx) (by rw [st_create H1.out H2.out]; exact run_then G1.out) J1.out
     refine ⟨xx, ⟨slv g1 xx.columns.length c1, slv g2 xx.keys.length c2, slv g3 xx.values.length c3, slv g4 xx.sets.length c4, slv g5 xx.cond.length c5, slv g6 xx.query.length c6, slv g7 xx.ops.length c7, slv g8 xx.asOf.length c8, slv g9 xx.during.length c9, slv g10 xx.order.length c10⟩, b1, l1, z1, rfl, h2, h3, ?_, (xE E_v3)⟩
     exact OK2.out.keep (fun b hb ha => ⟨Touch.block (S := (S4 w)) xT b hb (fun e => by omega), by omega⟩)
   | false =>
     have H2 := Lib.hid hc2
     clear hc2
     go_wp2_with fail
     refine (rmust_ok c _ (a + 1) 0 k p [73, 78, 68, 69, 88] _ (H.out.ext (xE E_v2)) HI1.out).mono ?_
     rintro e v3 ⟨b1, l1, z1, rfl, h_J1, hE⟩
     have E_v3 := aE E_v2 hE;have Bs_v3 := bk6 Bs_v2 hE;have Bx_v3 := bk14 Bx_v2 hE;have Br_v3 := bk6 Br_v2 hE;have Bt_v3 := bk14 Bt_v2 hE;have T_v3 : Hid (Touch (S4 w) v2 v3) := aT hE
     clear hE c_s c_x c_r c_t Bs_v2 Bx_v2 Br_v2 Bt_v2
     have z_v3 := E_v3.out.size;have c_s := opn6 Bs_v3;have c_x := opn14 Bx_v3;have c_r := opn6 Br_v3;have c_t := opn14 Bt_v3
     (try unfold sv)
     have J1 := Lib.hid h_J1; clear h_J1
     have hlf1 := J1.out.1
     go_wp2_with fail
     refine (rmust_ok c _ b1 0 l1 z1 [79, 78] _ (H.out.ext (xE E_v3)) J1.out).mono ?_
     rintro e v4 ⟨b2, l2, z2, rfl, h_J2, hE⟩
     have E_v4 := aE E_v3 hE;have Bs_v4 := bk6 Bs_v3 hE;have Bx_v4 := bk14 Bx_v3 hE;have Br_v4 := bk6 Br_v3 hE;have Bt_v4 := bk14 Bt_v3 hE;have T_v4 : Hid (Touch (S4 w) v3 v4) := aT hE
     clear hE c_s c_x c_r c_t Bs_v3 Bx_v3 Br_v3 Bt_v3
     have z_v4 := E_v4.out.size;have c_s := opn6 Bs_v4;have c_x := opn14 Bx_v4;have c_r := opn6 Br_v4;have c_t := opn14 Bt_v4
     (try unfold sv)
     have J2 := Lib.hid h_J2; clear h_J2
     have hlf2 := J2.out.1
     go_wp2_with fail
     refine (rname_ok c _ b2 0 l2 z2 _ (H.out.ext (xE E_v4)) J2.out).mono ?_
     rintro e v5 ⟨tn, b3, l3, z3, rfl, h_J3, h_G3, hE⟩
     have E_v5 := aE E_v4 hE;have Bs_v5 := bk6 Bs_v4 hE;have Bx_v5 := bk14 Bx_v4 hE;have Br_v5 := bk6 Br_v4 hE;have Bt_v5 := bk14 Bt_v4 hE;have T_v5 : Hid (Touch (S4 w) v4 v5) := aT hE
     clear hE c_s c_x c_r c_t Bs_v4 Bx_v4 Br_v4 Bt_v4
     have z_v5 := E_v5.out.size;have c_s := opn6 Bs_v5;have c_x := opn14 Bx_v5;have c_r := opn6 Br_v5;have c_t := opn14 Bt_v5
     (try unfold sv)
     have J3 := Lib.hid h_J3; clear h_J3
     have G3 := Lib.hid h_G3; clear h_G3
     have hlf3 := J3.out.1
     go_wp2
     refine wp_nm (fun v6 hE => ?_)
     have E_v6 := aE E_v5 hE;have Bs_v6 := bk6 Bs_v5 hE;have Bx_v6 := bk14 Bx_v5 hE;have Br_v6 := bk6 Br_v5 hE;have Bt_v6 := bk14 Bt_v5 hE;have T_v6 : Hid (Touch (S4 w) v5 v6) := aT hE
     clear hE c_s c_x c_r c_t Bs_v5 Bx_v5 Br_v5 Bt_v5
     have z_v6 := E_v6.out.size;have c_s := opn6 Bs_v6;have c_x := opn14 Bx_v6;have c_r := opn6 Br_v6;have c_t := opn14 Bt_v6
     letI : Tch.TS := ⟨fun b => b = w.heap.size + 1⟩
     refine Tch.region_calm [.e 0, .e 1, .h 2 true, .h 3 false] f_mixed (by kernel_rfl) (by kernel_rfl) ?_
     refine Tch.plan_e1 rfl rfl (.agg #[str [73, 78, 68, 69, 88], str tn, .slice none 0 0, .slice none 0 0, .slice none 0 0, .slice none 0 0, .int .i64 (0 : Int), .int .i64 (0 : Int), .slice none 0 0, .slice none 0 0, .slice none 0 0, .slice none 0 0, .slice none 0 0, .slice none 0 0]) (fun w' he => ?_) (fun K hK => ?_)
     · have d := tch14 he c_t (fun (e : _ = _) => by omega)
       clear c_t he
       go_simp; try rfl
     go_simp; refine hK _ ?_; clear hK K
     refine Tch.plan_e1 rfl rfl (.agg #[slv c.g c.all.length c.cap, .int .i64 (b3 : Int), .int .i64 (c.E : Int), .int .i64 ((0 : Nat) : Int), .int .i64 (l3 : Int), .int .i64 (z3 : Int)]) (fun w' he => ?_) (fun K hK => ?_)
     · have d := tch6 he c_s (fun (e : _ = _) => by omega)
       clear c_s he
       go_simp
     go_simp; refine hK _ ?_; clear hK K
     refine Tch.plan_ct rfl rfl (fun K _ hK => ?_)
     go_wp2
     refine hK _ _ (late14d _ _ _ _ _ _ _ _ _ _ _ _ _ _ _ _) ?_; clear hK K
     refine Tch.plan_c rfl rfl (fun K _ hK => ?_)
     go_wp2
     refine tch_done ?_
     go_wp2
     (try simp only [Exit.inBlock, Exit.then])
     refine bodyPost_ret (v := .tuple #[.agg #[str [73, 78, 68, 69, 88], str tn, .slice none 0 0, .slice none 0 0, .slice none 0 0, .slice none 0 0, .int .i64 (0 : Int), .int .i64 (0 : Int), .slice none 0 0, .slice none 0 0, .slice none 0 0, .slice none 0 0, .slice none 0 0, .slice none 0 0], .agg #[slv c.g c.all.length c.cap, .int .i64 (b3 : Int), .int .i64 (c.E : Int), .int .i64 ((0 : Nat) : Int), .int .i64 (l3 : Int), .int .i64 (z3 : Int)]]) (res_cc rfl rfl (lv_st (xb14 Bx_v6)) rfl (lv_src (xb6 Br_v6))) rfl ?_
     obtain ⟨h2, h3⟩ := run_end (F := stmt c.E) (z := { St.none with kind := [73, 78, 68, 69, 88], table := tn }) (by
       rw [st_index H1.out H2.out]
       refine (run_must (g := fun r => bnd (must c.E [79, 78] r) fun _ r => fin (fun t => ({ St.none with kind := [73, 78, 68, 69, 88], table := t } : St)) (name c.E r))).trans ?_
       refine (run_must (g := fun r => fin (fun t => ({ St.none with kind := [73, 78, 68, 69, 88], table := t } : St)) (name c.E r))).trans ?_
       exact run_fin G3.out) J3.out
     exact ⟨{ St.none with kind := [73, 78, 68, 69, 88], table := tn }, StV.nil, b3, l3, z3, rfl, h2, h3, StOk.none _ _ [73, 78, 68, 69, 88] tn (0, 0), (xE E_v6)⟩
 | false =>
   have F1 := Lib.hid hc1
   clear hc1
   go_wp2_with fail
   refine (ris_ok c X a 0 k p [73, 78, 83, 69, 82, 84] _ (H.out.ext (xE E_v1)) HX.out).mono ?_
   rintro e v2 ⟨rfl, hE⟩
   have E_v2 := aE E_v1 hE;have Bs_v2 := bk6 Bs_v1 hE;have Bx_v2 := bk14 Bx_v1 hE;have Br_v2 := bk6 Br_v1 hE;have Bt_v2 := bk14 Bt_v1 hE;have T_v2 : Hid (Touch (S4 w) v1 v2) := aT hE
   clear hE c_s c_x c_r c_t Bs_v1 Bx_v1 Br_v1 Bt_v1
   have z_v2 := E_v2.out.size;have c_s := opn6 Bs_v2;have c_x := opn14 Bx_v2;have c_r := opn6 Br_v2;have c_t := opn14 Bt_v2
   have hv2 : w.heap.size + 1 + 1 + 1 < v2.heap.size := by omega
   cases hc2 : isX [73, 78, 83, 69, 82, 84] X with
   | true =>
     have H2 := Lib.hid hc2
     clear hc2
     have hlt : a < c.all.length := (HX.out.step H2.out).1
     go_wp2_with fail
     refine (rinsert_ok c _ (a + 1) k p _ (H.out.ext (xE E_v2)) (HX.out.step H2.out).2.1).mono ?_
     rintro e v3 ⟨xx, vv, b1, l1, z1, rfl, h_J1, h_G1, h_OK, hE⟩
     have E_v3 := aE E_v2 hE;have Bs_v3 := bk6 Bs_v2 hE;have Bx_v3 := bk14 Bx_v2 hE;have Br_v3 := bk6 Br_v2 hE;have Bt_v3 := bk14 Bt_v2 hE;have T_v3 : Hid (Touch (S4 w) v2 v3) := aT hE
     clear hE c_s c_x c_r c_t Bs_v2 Bx_v2 Br_v2 Bt_v2
     have z_v3 := E_v3.out.size;have c_s := opn6 Bs_v3;have c_x := opn14 Bx_v3;have c_r := opn6 Br_v3;have c_t := opn14 Bt_v3
     (try unfold sv)
     have J1 := Lib.hid h_J1; clear h_J1
     have G1 := Lib.hid h_G1; clear h_G1
     have OK := Lib.hid h_OK; clear h_OK
     have OK2 := Lib.hid (StOk.keep (A' := fun b => w.heap.size + 1 + 1 + 1 < b) OK.out (fun b hb ha => ⟨rfl, by (try simp [size_set] at ha); omega⟩))
     have hleF := J1.out.1
     clear OK
     obtain ⟨u0, u1, u2, u3, u4, u5, u6, u7, u8, u9⟩ := vv
     obtain ⟨g1, c1, e1⟩ := OK2.out.col.slice
     obtain ⟨g2, c2, e2⟩ := OK2.out.key.slice
     obtain ⟨g3, c3, e3⟩ := OK2.out.val.slice
     obtain ⟨g4, c4, e4⟩ := OK2.out.set.slice
     obtain ⟨g5, c5, e5⟩ := OK2.out.cond.slice
     obtain ⟨g6, c6, e6⟩ := OK2.out.qu.slice
     obtain ⟨g7, c7, e7⟩ := OK2.out.op.slice
     obtain ⟨g8, c8, e8⟩ := OK2.out.asof.slice
     obtain ⟨g9, c9, e9⟩ := OK2.out.dur.slice
     obtain ⟨g10, c10, e10⟩ := OK2.out.ord.slice
     simp only at e1 e2 e3 e4 e5 e6 e7 e8 e9 e10
     subst e1 e2 e3 e4 e5 e6 e7 e8 e9 e10
     go_wp2
     (try simp only [Exit.inBlock, Exit.then])
     refine bodyPost_ret (v := .tuple #[.agg #[str xx.kind, str xx.table, slv g1 xx.columns.length c1, slv g2 xx.keys.length c2, slv g3 xx.values.length c3, slv g4 xx.sets.length c4, .int .i64 (xx.period.1 : Int), .int .i64 (xx.period.2 : Int), slv g5 xx.cond.length c5, slv g6 xx.query.length c6, slv g7 xx.ops.length c7, slv g8 xx.asOf.length c8, slv g9 xx.during.length c9, slv g10 xx.order.length c10], .agg #[slv c.g c.all.length c.cap, .int .i64 (b1 : Int), .int .i64 (c.E : Int), .int .i64 ((0 : Nat) : Int), .int .i64 (l1 : Int), .int .i64 (z1 : Int)]]) (res_cc rfl rfl (lv_st (xb14 Bx_v3)) rfl (lv_src (xb6 Br_v3))) rfl ?_
     obtain ⟨h2, h3⟩ := run_end (F := stmt c.E) (z := xx) (by rw [st_insert F1.out H2.out]; exact run_then G1.out) J1.out
     refine ⟨xx, ⟨slv g1 xx.columns.length c1, slv g2 xx.keys.length c2, slv g3 xx.values.length c3, slv g4 xx.sets.length c4, slv g5 xx.cond.length c5, slv g6 xx.query.length c6, slv g7 xx.ops.length c7, slv g8 xx.asOf.length c8, slv g9 xx.during.length c9, slv g10 xx.order.length c10⟩, b1, l1, z1, rfl, h2, h3, ?_, (xE E_v3)⟩
     exact OK2.out.keep (fun b hb ha => ⟨Touch.block (S := (S4 w)) xT b hb (fun e => by omega), by omega⟩)
   | false =>
     have F2 := Lib.hid hc2
     clear hc2
     go_wp2_with fail
     refine (ris_ok c X a 0 k p [85, 80, 68, 65, 84, 69] _ (H.out.ext (xE E_v2)) HX.out).mono ?_
     rintro e v3 ⟨rfl, hE⟩
     have E_v3 := aE E_v2 hE;have Bs_v3 := bk6 Bs_v2 hE;have Bx_v3 := bk14 Bx_v2 hE;have Br_v3 := bk6 Br_v2 hE;have Bt_v3 := bk14 Bt_v2 hE;have T_v3 : Hid (Touch (S4 w) v2 v3) := aT hE
     clear hE c_s c_x c_r c_t Bs_v2 Bx_v2 Br_v2 Bt_v2
     have z_v3 := E_v3.out.size;have c_s := opn6 Bs_v3;have c_x := opn14 Bx_v3;have c_r := opn6 Br_v3;have c_t := opn14 Bt_v3
     have hv3 : w.heap.size + 1 + 1 + 1 < v3.heap.size := by omega
     cases hc3 : isX [85, 80, 68, 65, 84, 69] X with
     | true =>
       have H3 := Lib.hid hc3
       clear hc3
       have hlt : a < c.all.length := (HX.out.step H3.out).1
       go_wp2_with fail
       refine (rupdate_ok c _ (a + 1) k p _ (H.out.ext (xE E_v3)) (HX.out.step H3.out).2.1).mono ?_
       rintro e v4 ⟨xx, vv, b1, l1, z1, rfl, h_J1, h_G1, h_OK, hE⟩
       have E_v4 := aE E_v3 hE;have Bs_v4 := bk6 Bs_v3 hE;have Bx_v4 := bk14 Bx_v3 hE;have Br_v4 := bk6 Br_v3 hE;have Bt_v4 := bk14 Bt_v3 hE;have T_v4 : Hid (Touch (S4 w) v3 v4) := aT hE
       clear hE c_s c_x c_r c_t Bs_v3 Bx_v3 Br_v3 Bt_v3
       have z_v4 := E_v4.out.size;have c_s := opn6 Bs_v4;have c_x := opn14 Bx_v4;have c_r := opn6 Br_v4;have c_t := opn14 Bt_v4
       (try unfold sv)
       have J1 := Lib.hid h_J1; clear h_J1
       have G1 := Lib.hid h_G1; clear h_G1
       have OK := Lib.hid h_OK; clear h_OK
       have OK2 := Lib.hid (StOk.keep (A' := fun b => w.heap.size + 1 + 1 + 1 < b) OK.out (fun b hb ha => ⟨rfl, by (try simp [size_set] at ha); omega⟩))
       have hleF := J1.out.1
       clear OK
       obtain ⟨u0, u1, u2, u3, u4, u5, u6, u7, u8, u9⟩ := vv
       obtain ⟨g1, c1, e1⟩ := OK2.out.col.slice
       obtain ⟨g2, c2, e2⟩ := OK2.out.key.slice
       obtain ⟨g3, c3, e3⟩ := OK2.out.val.slice
       obtain ⟨g4, c4, e4⟩ := OK2.out.set.slice
       obtain ⟨g5, c5, e5⟩ := OK2.out.cond.slice
       obtain ⟨g6, c6, e6⟩ := OK2.out.qu.slice
       obtain ⟨g7, c7, e7⟩ := OK2.out.op.slice
       obtain ⟨g8, c8, e8⟩ := OK2.out.asof.slice
       obtain ⟨g9, c9, e9⟩ := OK2.out.dur.slice
       obtain ⟨g10, c10, e10⟩ := OK2.out.ord.slice
       simp only at e1 e2 e3 e4 e5 e6 e7 e8 e9 e10
       subst e1 e2 e3 e4 e5 e6 e7 e8 e9 e10
       go_wp2
       (try simp only [Exit.inBlock, Exit.then])
       refine bodyPost_ret (v := .tuple #[.agg #[str xx.kind, str xx.table, slv g1 xx.columns.length c1, slv g2 xx.keys.length c2, slv g3 xx.values.length c3, slv g4 xx.sets.length c4, .int .i64 (xx.period.1 : Int), .int .i64 (xx.period.2 : Int), slv g5 xx.cond.length c5, slv g6 xx.query.length c6, slv g7 xx.ops.length c7, slv g8 xx.asOf.length c8, slv g9 xx.during.length c9, slv g10 xx.order.length c10], .agg #[slv c.g c.all.length c.cap, .int .i64 (b1 : Int), .int .i64 (c.E : Int), .int .i64 ((0 : Nat) : Int), .int .i64 (l1 : Int), .int .i64 (z1 : Int)]]) (res_cc rfl rfl (lv_st (xb14 Bx_v4)) rfl (lv_src (xb6 Br_v4))) rfl ?_
       obtain ⟨h2, h3⟩ := run_end (F := stmt c.E) (z := xx) (by rw [st_update F1.out F2.out H3.out]; exact run_then G1.out) J1.out
       refine ⟨xx, ⟨slv g1 xx.columns.length c1, slv g2 xx.keys.length c2, slv g3 xx.values.length c3, slv g4 xx.sets.length c4, slv g5 xx.cond.length c5, slv g6 xx.query.length c6, slv g7 xx.ops.length c7, slv g8 xx.asOf.length c8, slv g9 xx.during.length c9, slv g10 xx.order.length c10⟩, b1, l1, z1, rfl, h2, h3, ?_, (xE E_v4)⟩
       exact OK2.out.keep (fun b hb ha => ⟨Touch.block (S := (S4 w)) xT b hb (fun e => by omega), by omega⟩)
     | false =>
       have F3 := Lib.hid hc3
       clear hc3
       go_wp2_with fail
       refine (ris_ok c X a 0 k p [68, 69, 76, 69, 84, 69] _ (H.out.ext (xE E_v3)) HX.out).mono ?_
       rintro e v4 ⟨rfl, hE⟩
       have E_v4 := aE E_v3 hE;have Bs_v4 := bk6 Bs_v3 hE;have Bx_v4 := bk14 Bx_v3 hE;have Br_v4 := bk6 Br_v3 hE;have Bt_v4 := bk14 Bt_v3 hE;have T_v4 : Hid (Touch (S4 w) v3 v4) := aT hE
       clear hE c_s c_x c_r c_t Bs_v3 Bx_v3 Br_v3 Bt_v3
       have z_v4 := E_v4.out.size;have c_s := opn6 Bs_v4;have c_x := opn14 Bx_v4;have c_r := opn6 Br_v4;have c_t := opn14 Bt_v4
       have hv4 : w.heap.size + 1 + 1 + 1 < v4.heap.size := by omega
       cases hc4 : isX [68, 69, 76, 69, 84, 69] X with
       | true =>
         have H4 := Lib.hid hc4
         clear hc4
         have hlt : a < c.all.length := (HX.out.step H4.out).1
         go_wp2_with fail
         refine (rmust_ok c _ (a + 1) 0 k p [70, 82, 79, 77] _ (H.out.ext (xE E_v4)) (HX.out.step H4.out).2.1).mono ?_
         rintro e v5 ⟨b1, l1, z1, rfl, h_J1, hE⟩
         have E_v5 := aE E_v4 hE;have Bs_v5 := bk6 Bs_v4 hE;have Bx_v5 := bk14 Bx_v4 hE;have Br_v5 := bk6 Br_v4 hE;have Bt_v5 := bk14 Bt_v4 hE;have T_v5 : Hid (Touch (S4 w) v4 v5) := aT hE
         clear hE c_s c_x c_r c_t Bs_v4 Bx_v4 Br_v4 Bt_v4
         have z_v5 := E_v5.out.size;have c_s := opn6 Bs_v5;have c_x := opn14 Bx_v5;have c_r := opn6 Br_v5;have c_t := opn14 Bt_v5
         (try unfold sv)
         have J1 := Lib.hid h_J1; clear h_J1
         have hlf1 := J1.out.1
         go_wp2_with fail
         refine (rname_ok c _ b1 0 l1 z1 _ (H.out.ext (xE E_v5)) J1.out).mono ?_
         rintro e v6 ⟨tn, b2, l2, z2, rfl, h_J2, h_G2, hE⟩
         have E_v6 := aE E_v5 hE;have Bs_v6 := bk6 Bs_v5 hE;have Bx_v6 := bk14 Bx_v5 hE;have Br_v6 := bk6 Br_v5 hE;have Bt_v6 := bk14 Bt_v5 hE;have T_v6 : Hid (Touch (S4 w) v5 v6) := aT hE
         clear hE c_s c_x c_r c_t Bs_v5 Bx_v5 Br_v5 Bt_v5
         have z_v6 := E_v6.out.size;have c_s := opn6 Bs_v6;have c_x := opn14 Bx_v6;have c_r := opn6 Br_v6;have c_t := opn14 Bt_v6
         (try unfold sv)
         have J2 := Lib.hid h_J2; clear h_J2
         have G2 := Lib.hid h_G2; clear h_G2
         have hlf2 := J2.out.1
         go_wp2_with fail
         refine (rportion_ok c _ b2 0 l2 z2 _ (H.out.ext (xE E_v6)) J2.out).mono ?_
         rintro e v7 ⟨n, m, b3, l3, z3, rfl, h_J3, h_G3, hE⟩
         have E_v7 := aE E_v6 hE;have Bs_v7 := bk6 Bs_v6 hE;have Bx_v7 := bk14 Bx_v6 hE;have Br_v7 := bk6 Br_v6 hE;have Bt_v7 := bk14 Bt_v6 hE;have T_v7 : Hid (Touch (S4 w) v6 v7) := aT hE
         clear hE c_s c_x c_r c_t Bs_v6 Bx_v6 Br_v6 Bt_v6
         have z_v7 := E_v7.out.size;have c_s := opn6 Bs_v7;have c_x := opn14 Bx_v7;have c_r := opn6 Br_v7;have c_t := opn14 Bt_v7
         (try unfold sv)
         have J3 := Lib.hid h_J3; clear h_J3
         have G3 := Lib.hid h_G3; clear h_G3
         have hlf3 := J3.out.1
         have hv7 : w.heap.size + 1 + 1 + 1 < v7.heap.size := by omega
         go_wp2_with fail
         refine (rwhere_ok c _ b3 l3 z3 _ (H.out.ext (xE E_v7)) J3.out).mono ?_
         rintro e v8 ⟨cl, gc, cc, b4, l4, z4, rfl, h_J4, h_G4, h_V4, hE⟩
         have E_v8 := aE E_v7 hE;have Bs_v8 := bk6 Bs_v7 hE;have Bx_v8 := bk14 Bx_v7 hE;have Br_v8 := bk6 Br_v7 hE;have Bt_v8 := bk14 Bt_v7 hE;have T_v8 : Hid (Touch (S4 w) v7 v8) := aT hE
         clear hE c_s c_x c_r c_t Bs_v7 Bx_v7 Br_v7 Bt_v7
         have z_v8 := E_v8.out.size;have c_s := opn6 Bs_v8;have c_x := opn14 Bx_v8;have c_r := opn6 Br_v8;have c_t := opn14 Bt_v8
         (try unfold sv)
         have J4 := Lib.hid h_J4; clear h_J4
         have G4 := Lib.hid h_G4; clear h_G4
         have V4 := Lib.hid h_V4; clear h_V4
         have hlf4 := J4.out.1
         go_wp2
         refine wp_nm (fun v9 hE => ?_)
         have E_v9 := aE E_v8 hE;have Bs_v9 := bk6 Bs_v8 hE;have Bx_v9 := bk14 Bx_v8 hE;have Br_v9 := bk6 Br_v8 hE;have Bt_v9 := bk14 Bt_v8 hE;have T_v9 : Hid (Touch (S4 w) v8 v9) := aT hE
         clear hE c_s c_x c_r c_t Bs_v8 Bx_v8 Br_v8 Bt_v8
         have z_v9 := E_v9.out.size;have c_s := opn6 Bs_v9;have c_x := opn14 Bx_v9;have c_r := opn6 Br_v9;have c_t := opn14 Bt_v9
         have HW8 := Lib.hid (VLA.of (A := fun b => w.heap.size + 1 + 1 + 1 < b) _ V4.out (fun b hb ha => by (try simp [size_set] at ha); omega))
         have HW9 := Lib.hid (VLA.keep _ HW8.out (fun b hb ha => ⟨T_v9.out.block b hb (fun e => by omega), ha⟩))
         letI : Tch.TS := ⟨fun b => b = w.heap.size + 1⟩
         refine Tch.region_calm [.e 0, .e 1, .h 2 true, .h 3 false] f_mixed (by kernel_rfl) (by kernel_rfl) ?_
         refine Tch.plan_e1 rfl rfl (.agg #[str [68, 69, 76, 69, 84, 69], str tn, .slice none 0 0, .slice none 0 0, .slice none 0 0, .slice none 0 0, .int .i64 (n : Int), .int .i64 (m : Int), slv gc cl.length cc, .slice none 0 0, .slice none 0 0, .slice none 0 0, .slice none 0 0, .slice none 0 0]) (fun w' he => ?_) (fun K hK => ?_)
         · have d := tch14 he c_t (fun (e : _ = _) => by omega)
           clear c_t he
           go_simp; try rfl
         go_simp; refine hK _ ?_; clear hK K
         refine Tch.plan_e1 rfl rfl (.agg #[slv c.g c.all.length c.cap, .int .i64 (b4 : Int), .int .i64 (c.E : Int), .int .i64 ((0 : Nat) : Int), .int .i64 (l4 : Int), .int .i64 (z4 : Int)]) (fun w' he => ?_) (fun K hK => ?_)
         · have d := tch6 he c_s (fun (e : _ = _) => by omega)
           clear c_s he
           go_simp
         go_simp; refine hK _ ?_; clear hK K
         refine Tch.plan_ct rfl rfl (fun K _ hK => ?_)
         go_wp2
         refine hK _ _ (late14d _ _ _ _ _ _ _ _ _ _ _ _ _ _ _ _) ?_; clear hK K
         refine Tch.plan_c rfl rfl (fun K _ hK => ?_)
         go_wp2
         refine tch_done ?_
         go_wp2
         (try simp only [Exit.inBlock, Exit.then])
         refine bodyPost_ret (v := .tuple #[.agg #[str [68, 69, 76, 69, 84, 69], str tn, .slice none 0 0, .slice none 0 0, .slice none 0 0, .slice none 0 0, .int .i64 (n : Int), .int .i64 (m : Int), slv gc cl.length cc, .slice none 0 0, .slice none 0 0, .slice none 0 0, .slice none 0 0, .slice none 0 0], .agg #[slv c.g c.all.length c.cap, .int .i64 (b4 : Int), .int .i64 (c.E : Int), .int .i64 ((0 : Nat) : Int), .int .i64 (l4 : Int), .int .i64 (z4 : Int)]]) (res_cc rfl rfl (lv_st (xb14 Bx_v9)) rfl (lv_src (xb6 Br_v9))) rfl ?_
         obtain ⟨h2, h3⟩ := run_end (F := stmt c.E) (z := { St.none with kind := [68, 69, 76, 69, 84, 69], table := tn, period := (n, m), cond := cl }) (by
           rw [st_delete F1.out F2.out F3.out H4.out]
           refine (run_must (g := fun r => bnd (name c.E r) fun t r => bnd (portion c.E r) fun p r => fin (fun q => ({ St.none with kind := [68, 69, 76, 69, 84, 69], table := t, period := p, cond := q } : St)) (whereP c.E r))).trans ?_
           refine (run_bnd (g := fun t r => bnd (portion c.E r) fun p r => fin (fun q => ({ St.none with kind := [68, 69, 76, 69, 84, 69], table := t, period := p, cond := q } : St)) (whereP c.E r)) G2.out).trans ?_
           refine (run_bnd (g := fun p r => fin (fun q => ({ St.none with kind := [68, 69, 76, 69, 84, 69], table := tn, period := p, cond := q } : St)) (whereP c.E r)) G3.out).trans ?_
           exact run_fin G4.out) J4.out
         refine ⟨{ St.none with kind := [68, 69, 76, 69, 84, 69], table := tn, period := (n, m), cond := cl }, { StV.nil with cond := slv gc cl.length cc }, b4, l4, z4, rfl, h2, h3, ?_, (xE E_v9)⟩
         exact { StOk.none _ (fun b => w.heap.size ≤ b) [68, 69, 76, 69, 84, 69] tn (n, m) with cond := VLA.keep _ HW9.out (fun b hb ha => ⟨Touch.block (S := (S4 w)) xT b hb (fun e => by omega), by omega⟩) }
       | false =>
         have F4 := Lib.hid hc4
         clear hc4
         go_wp2_with fail
         refine (ris_ok c X a 0 k p [66, 69, 71, 73, 78] _ (H.out.ext (xE E_v4)) HX.out).mono ?_
         rintro e v5 ⟨rfl, hE⟩
         have E_v5 := aE E_v4 hE;have Bs_v5 := bk6 Bs_v4 hE;have Bx_v5 := bk14 Bx_v4 hE;have Br_v5 := bk6 Br_v4 hE;have Bt_v5 := bk14 Bt_v4 hE;have T_v5 : Hid (Touch (S4 w) v4 v5) := aT hE
         clear hE c_s c_x c_r c_t Bs_v4 Bx_v4 Br_v4 Bt_v4
         have z_v5 := E_v5.out.size;have c_s := opn6 Bs_v5;have c_x := opn14 Bx_v5;have c_r := opn6 Br_v5;have c_t := opn14 Bt_v5
         cases hc5 : isX [66, 69, 71, 73, 78] X with
         | true =>
           have H5 := Lib.hid hc5
           clear hc5
           have hlt : a < c.all.length := (HX.out.step H5.out).1
           obtain ⟨tk, tn, tp, htok⟩ : ∃ tk tn tp, tokN X = (tk, [66, 69, 71, 73, 78], tn, tp) := by
             obtain ⟨q, qs, rfl, hq⟩ := isX_ok H5.out
             exact ⟨q.1, q.2.2.1, q.2.2.2, by show q = _; rw [← isT_txt' hq]; rfl⟩
           have HTOK := Lib.hid htok
           clear htok
           go_wp2_with fail
           refine (rnext_ok c X a 0 k p _ (H.out.ext (xE E_v5)) HX.out).mono ?_
           rintro e vA ⟨rfl, hE⟩
           have E_vA := aE E_v5 hE;have Bs_vA := bk6 Bs_v5 hE;have Bx_vA := bk14 Bx_v5 hE;have Br_vA := bk6 Br_v5 hE;have Bt_vA := bk14 Bt_v5 hE;have T_vA : Hid (Touch (S4 w) v5 vA) := aT hE
           clear hE c_s c_x c_r c_t Bs_v5 Bx_v5 Br_v5 Bt_v5
           have z_vA := E_vA.out.size;have c_s := opn6 Bs_vA;have c_x := opn14 Bx_vA;have c_r := opn6 Br_vA;have c_t := opn14 Bt_vA
           rw [HTOK.out]
           unfold tokV
           have zf : ∀ u : World, (Instr.field 120 (.agg #[.int .i64 (tk : Int), str [66, 69, 71, 73, 78], .int .i64 (tn : Int), .int .i64 (tp : Int)]) 1).run Tryz.prog u = .ok (str [66, 69, 71, 73, 78]) u := fun _ => by kernel_rfl
           go_wp2
           refine wp_nm (fun vB hE => ?_)
           have E_vB := aE E_vA hE;have Bs_vB := bk6 Bs_vA hE;have Bx_vB := bk14 Bx_vA hE;have Br_vB := bk6 Br_vA hE;have Bt_vB := bk14 Bt_vA hE;have T_vB : Hid (Touch (S4 w) vA vB) := aT hE
           clear hE c_s c_x c_r c_t Bs_vA Bx_vA Br_vA Bt_vA
           have z_vB := E_vB.out.size;have c_s := opn6 Bs_vB;have c_x := opn14 Bx_vB;have c_r := opn6 Br_vB;have c_t := opn14 Bt_vB
           letI : Tch.TS := ⟨fun b => b = w.heap.size + 1⟩
           refine Tch.region_calm [.e 0, .e 1, .h 2 true, .h 3 false] f_mixed (by kernel_rfl) (by kernel_rfl) ?_
           refine Tch.plan_e1 rfl rfl (.agg #[str [66, 69, 71, 73, 78], str [], .slice none 0 0, .slice none 0 0, .slice none 0 0, .slice none 0 0, .int .i64 (0 : Int), .int .i64 (0 : Int), .slice none 0 0, .slice none 0 0, .slice none 0 0, .slice none 0 0, .slice none 0 0, .slice none 0 0]) (fun w' he => ?_) (fun K hK => ?_)
           · have d := tch14 he c_t (fun (e : _ = _) => by omega)
             clear c_t he
             go_simp; try rfl
           go_simp; refine hK _ ?_; clear hK K
           refine Tch.plan_e1 rfl rfl (.agg #[slv c.g c.all.length c.cap, .int .i64 (a + 1 : Int), .int .i64 (c.E : Int), .int .i64 ((0 : Nat) : Int), .int .i64 (k : Int), .int .i64 (p : Int)]) (fun w' he => ?_) (fun K hK => ?_)
           · have d := tch6 he c_s (fun (e : _ = _) => by omega)
             clear c_s he
             go_simp
           go_simp; refine hK _ ?_; clear hK K
           refine Tch.plan_ct rfl rfl (fun K _ hK => ?_)
           go_wp2
           refine hK _ _ (late14d _ _ _ _ _ _ _ _ _ _ _ _ _ _ _ _) ?_; clear hK K
           refine Tch.plan_c rfl rfl (fun K _ hK => ?_)
           go_wp2
           refine tch_done ?_
           go_wp2
           (try simp only [Exit.inBlock, Exit.then])
           refine bodyPost_ret (v := .tuple #[.agg #[str [66, 69, 71, 73, 78], str [], .slice none 0 0, .slice none 0 0, .slice none 0 0, .slice none 0 0, .int .i64 (0 : Int), .int .i64 (0 : Int), .slice none 0 0, .slice none 0 0, .slice none 0 0, .slice none 0 0, .slice none 0 0, .slice none 0 0], .agg #[slv c.g c.all.length c.cap, .int .i64 (a + 1 : Int), .int .i64 (c.E : Int), .int .i64 ((0 : Nat) : Int), .int .i64 (k : Int), .int .i64 (p : Int)]]) (res_cc rfl rfl (lv_st (xb14 Bx_vB)) rfl (lv_src (xb6 Br_vB))) rfl ?_
           obtain ⟨h2, h3⟩ := run_end (F := stmt c.E) (z := { St.none with kind := [66, 69, 71, 73, 78] }) (st_word (s := [66, 69, 71, 73, 78]) (by simp) F1.out F2.out F3.out F4.out H5.out) (HX.out.step H5.out).2.1
           refine ⟨{ St.none with kind := [66, 69, 71, 73, 78] }, StV.nil, a + 1, k, p, rfl, h2, h3, StOk.none _ _ [66, 69, 71, 73, 78] [] (0, 0), (xE E_vB)⟩
         | false =>
           have F5 := Lib.hid hc5
           clear hc5
           go_wp2_with fail
           refine (ris_ok c X a 0 k p [67, 79, 77, 77, 73, 84] _ (H.out.ext (xE E_v5)) HX.out).mono ?_
           rintro e v6 ⟨rfl, hE⟩
           have E_v6 := aE E_v5 hE;have Bs_v6 := bk6 Bs_v5 hE;have Bx_v6 := bk14 Bx_v5 hE;have Br_v6 := bk6 Br_v5 hE;have Bt_v6 := bk14 Bt_v5 hE;have T_v6 : Hid (Touch (S4 w) v5 v6) := aT hE
           clear hE c_s c_x c_r c_t Bs_v5 Bx_v5 Br_v5 Bt_v5
           have z_v6 := E_v6.out.size;have c_s := opn6 Bs_v6;have c_x := opn14 Bx_v6;have c_r := opn6 Br_v6;have c_t := opn14 Bt_v6
           cases hc5 : isX [67, 79, 77, 77, 73, 84] X with
           | true =>
             have H5 := Lib.hid hc5
             clear hc5
             have hlt : a < c.all.length := (HX.out.step H5.out).1
             obtain ⟨tk, tn, tp, htok⟩ : ∃ tk tn tp, tokN X = (tk, [67, 79, 77, 77, 73, 84], tn, tp) := by
               obtain ⟨q, qs, rfl, hq⟩ := isX_ok H5.out
               exact ⟨q.1, q.2.2.1, q.2.2.2, by show q = _; rw [← isT_txt' hq]; rfl⟩
             have HTOK := Lib.hid htok
             clear htok
             go_wp2_with fail
             refine (rnext_ok c X a 0 k p _ (H.out.ext (xE E_v6)) HX.out).mono ?_
             rintro e vA ⟨rfl, hE⟩
             have E_vA := aE E_v6 hE;have Bs_vA := bk6 Bs_v6 hE;have Bx_vA := bk14 Bx_v6 hE;have Br_vA := bk6 Br_v6 hE;have Bt_vA := bk14 Bt_v6 hE;have T_vA : Hid (Touch (S4 w) v6 vA) := aT hE
             clear hE c_s c_x c_r c_t Bs_v6 Bx_v6 Br_v6 Bt_v6
             have z_vA := E_vA.out.size;have c_s := opn6 Bs_vA;have c_x := opn14 Bx_vA;have c_r := opn6 Br_vA;have c_t := opn14 Bt_vA
             rw [HTOK.out]
             unfold tokV
             have zf : ∀ u : World, (Instr.field 120 (.agg #[.int .i64 (tk : Int), str [67, 79, 77, 77, 73, 84], .int .i64 (tn : Int), .int .i64 (tp : Int)]) 1).run Tryz.prog u = .ok (str [67, 79, 77, 77, 73, 84]) u := fun _ => by kernel_rfl
             go_wp2
             refine wp_nm (fun vB hE => ?_)
             have E_vB := aE E_vA hE;have Bs_vB := bk6 Bs_vA hE;have Bx_vB := bk14 Bx_vA hE;have Br_vB := bk6 Br_vA hE;have Bt_vB := bk14 Bt_vA hE;have T_vB : Hid (Touch (S4 w) vA vB) := aT hE
             clear hE c_s c_x c_r c_t Bs_vA Bx_vA Br_vA Bt_vA
             have z_vB := E_vB.out.size;have c_s := opn6 Bs_vB;have c_x := opn14 Bx_vB;have c_r := opn6 Br_vB;have c_t := opn14 Bt_vB
             letI : Tch.TS := ⟨fun b => b = w.heap.size + 1⟩
             refine Tch.region_calm [.e 0, .e 1, .h 2 true, .h 3 false] f_mixed (by kernel_rfl) (by kernel_rfl) ?_
             refine Tch.plan_e1 rfl rfl (.agg #[str [67, 79, 77, 77, 73, 84], str [], .slice none 0 0, .slice none 0 0, .slice none 0 0, .slice none 0 0, .int .i64 (0 : Int), .int .i64 (0 : Int), .slice none 0 0, .slice none 0 0, .slice none 0 0, .slice none 0 0, .slice none 0 0, .slice none 0 0]) (fun w' he => ?_) (fun K hK => ?_)
             · have d := tch14 he c_t (fun (e : _ = _) => by omega)
               clear c_t he
               go_simp; try rfl
             go_simp; refine hK _ ?_; clear hK K
             refine Tch.plan_e1 rfl rfl (.agg #[slv c.g c.all.length c.cap, .int .i64 (a + 1 : Int), .int .i64 (c.E : Int), .int .i64 ((0 : Nat) : Int), .int .i64 (k : Int), .int .i64 (p : Int)]) (fun w' he => ?_) (fun K hK => ?_)
             · have d := tch6 he c_s (fun (e : _ = _) => by omega)
               clear c_s he
               go_simp
             go_simp; refine hK _ ?_; clear hK K
             refine Tch.plan_ct rfl rfl (fun K _ hK => ?_)
             go_wp2
             refine hK _ _ (late14d _ _ _ _ _ _ _ _ _ _ _ _ _ _ _ _) ?_; clear hK K
             refine Tch.plan_c rfl rfl (fun K _ hK => ?_)
             go_wp2
             refine tch_done ?_
             go_wp2
             (try simp only [Exit.inBlock, Exit.then])
             refine bodyPost_ret (v := .tuple #[.agg #[str [67, 79, 77, 77, 73, 84], str [], .slice none 0 0, .slice none 0 0, .slice none 0 0, .slice none 0 0, .int .i64 (0 : Int), .int .i64 (0 : Int), .slice none 0 0, .slice none 0 0, .slice none 0 0, .slice none 0 0, .slice none 0 0, .slice none 0 0], .agg #[slv c.g c.all.length c.cap, .int .i64 (a + 1 : Int), .int .i64 (c.E : Int), .int .i64 ((0 : Nat) : Int), .int .i64 (k : Int), .int .i64 (p : Int)]]) (res_cc rfl rfl (lv_st (xb14 Bx_vB)) rfl (lv_src (xb6 Br_vB))) rfl ?_
             obtain ⟨h2, h3⟩ := run_end (F := stmt c.E) (z := { St.none with kind := [67, 79, 77, 77, 73, 84] }) (st_word (s := [67, 79, 77, 77, 73, 84]) (by simp) F1.out F2.out F3.out F4.out H5.out) (HX.out.step H5.out).2.1
             refine ⟨{ St.none with kind := [67, 79, 77, 77, 73, 84] }, StV.nil, a + 1, k, p, rfl, h2, h3, StOk.none _ _ [67, 79, 77, 77, 73, 84] [] (0, 0), (xE E_vB)⟩
           | false =>
             have F6 := Lib.hid hc5
             clear hc5
             go_wp2_with fail
             refine (ris_ok c X a 0 k p [82, 79, 76, 76, 66, 65, 67, 75] _ (H.out.ext (xE E_v6)) HX.out).mono ?_
             rintro e v7 ⟨rfl, hE⟩
             have E_v7 := aE E_v6 hE;have Bs_v7 := bk6 Bs_v6 hE;have Bx_v7 := bk14 Bx_v6 hE;have Br_v7 := bk6 Br_v6 hE;have Bt_v7 := bk14 Bt_v6 hE;have T_v7 : Hid (Touch (S4 w) v6 v7) := aT hE
             clear hE c_s c_x c_r c_t Bs_v6 Bx_v6 Br_v6 Bt_v6
             have z_v7 := E_v7.out.size;have c_s := opn6 Bs_v7;have c_x := opn14 Bx_v7;have c_r := opn6 Br_v7;have c_t := opn14 Bt_v7
             have hv7 : w.heap.size + 1 + 1 + 1 < v7.heap.size := by omega
             cases hc5 : isX [82, 79, 76, 76, 66, 65, 67, 75] X with
             | true =>
               have H5 := Lib.hid hc5
               clear hc5
               have hlt : a < c.all.length := (HX.out.step H5.out).1
               obtain ⟨tk, tn, tp, htok⟩ : ∃ tk tn tp, tokN X = (tk, [82, 79, 76, 76, 66, 65, 67, 75], tn, tp) := by
                 obtain ⟨q, qs, rfl, hq⟩ := isX_ok H5.out
                 exact ⟨q.1, q.2.2.1, q.2.2.2, by show q = _; rw [← isT_txt' hq]; rfl⟩
               have HTOK := Lib.hid htok
               clear htok
               go_wp2_with fail
               refine (rnext_ok c X a 0 k p _ (H.out.ext (xE E_v7)) HX.out).mono ?_
               rintro e vA ⟨rfl, hE⟩
               have E_vA := aE E_v7 hE;have Bs_vA := bk6 Bs_v7 hE;have Bx_vA := bk14 Bx_v7 hE;have Br_vA := bk6 Br_v7 hE;have Bt_vA := bk14 Bt_v7 hE;have T_vA : Hid (Touch (S4 w) v7 vA) := aT hE
               clear hE c_s c_x c_r c_t Bs_v7 Bx_v7 Br_v7 Bt_v7
               have z_vA := E_vA.out.size;have c_s := opn6 Bs_vA;have c_x := opn14 Bx_vA;have c_r := opn6 Br_vA;have c_t := opn14 Bt_vA
               rw [HTOK.out]
               unfold tokV
               have zf : ∀ u : World, (Instr.field 120 (.agg #[.int .i64 (tk : Int), str [82, 79, 76, 76, 66, 65, 67, 75], .int .i64 (tn : Int), .int .i64 (tp : Int)]) 1).run Tryz.prog u = .ok (str [82, 79, 76, 76, 66, 65, 67, 75]) u := fun _ => by kernel_rfl
               go_wp2
               refine wp_nm (fun vB hE => ?_)
               have E_vB := aE E_vA hE;have Bs_vB := bk6 Bs_vA hE;have Bx_vB := bk14 Bx_vA hE;have Br_vB := bk6 Br_vA hE;have Bt_vB := bk14 Bt_vA hE;have T_vB : Hid (Touch (S4 w) vA vB) := aT hE
               clear hE c_s c_x c_r c_t Bs_vA Bx_vA Br_vA Bt_vA
               have z_vB := E_vB.out.size;have c_s := opn6 Bs_vB;have c_x := opn14 Bx_vB;have c_r := opn6 Br_vB;have c_t := opn14 Bt_vB
               letI : Tch.TS := ⟨fun b => b = w.heap.size + 1⟩
               refine Tch.region_calm [.e 0, .e 1, .h 2 true, .h 3 false] f_mixed (by kernel_rfl) (by kernel_rfl) ?_
               refine Tch.plan_e1 rfl rfl (.agg #[str [82, 79, 76, 76, 66, 65, 67, 75], str [], .slice none 0 0, .slice none 0 0, .slice none 0 0, .slice none 0 0, .int .i64 (0 : Int), .int .i64 (0 : Int), .slice none 0 0, .slice none 0 0, .slice none 0 0, .slice none 0 0, .slice none 0 0, .slice none 0 0]) (fun w' he => ?_) (fun K hK => ?_)
               · have d := tch14 he c_t (fun (e : _ = _) => by omega)
                 clear c_t he
                 go_simp; try rfl
               go_simp; refine hK _ ?_; clear hK K
               refine Tch.plan_e1 rfl rfl (.agg #[slv c.g c.all.length c.cap, .int .i64 (a + 1 : Int), .int .i64 (c.E : Int), .int .i64 ((0 : Nat) : Int), .int .i64 (k : Int), .int .i64 (p : Int)]) (fun w' he => ?_) (fun K hK => ?_)
               · have d := tch6 he c_s (fun (e : _ = _) => by omega)
                 clear c_s he
                 go_simp
               go_simp; refine hK _ ?_; clear hK K
               refine Tch.plan_ct rfl rfl (fun K _ hK => ?_)
               go_wp2
               refine hK _ _ (late14d _ _ _ _ _ _ _ _ _ _ _ _ _ _ _ _) ?_; clear hK K
               refine Tch.plan_c rfl rfl (fun K _ hK => ?_)
               go_wp2
               refine tch_done ?_
               go_wp2
               (try simp only [Exit.inBlock, Exit.then])
               refine bodyPost_ret (v := .tuple #[.agg #[str [82, 79, 76, 76, 66, 65, 67, 75], str [], .slice none 0 0, .slice none 0 0, .slice none 0 0, .slice none 0 0, .int .i64 (0 : Int), .int .i64 (0 : Int), .slice none 0 0, .slice none 0 0, .slice none 0 0, .slice none 0 0, .slice none 0 0, .slice none 0 0], .agg #[slv c.g c.all.length c.cap, .int .i64 (a + 1 : Int), .int .i64 (c.E : Int), .int .i64 ((0 : Nat) : Int), .int .i64 (k : Int), .int .i64 (p : Int)]]) (res_cc rfl rfl (lv_st (xb14 Bx_vB)) rfl (lv_src (xb6 Br_vB))) rfl ?_
               obtain ⟨h2, h3⟩ := run_end (F := stmt c.E) (z := { St.none with kind := [82, 79, 76, 76, 66, 65, 67, 75] }) (st_word (s := [82, 79, 76, 76, 66, 65, 67, 75]) (by simp) F1.out F2.out F3.out F4.out H5.out) (HX.out.step H5.out).2.1
               refine ⟨{ St.none with kind := [82, 79, 76, 76, 66, 65, 67, 75] }, StV.nil, a + 1, k, p, rfl, h2, h3, StOk.none _ _ [82, 79, 76, 76, 66, 65, 67, 75] [] (0, 0), (xE E_vB)⟩
             | false =>
               have F7 := Lib.hid hc5
               clear hc5
               go_wp2_with fail
               refine (rselects_ok c X a k p _ (H.out.ext (xE E_v7)) HX.out).mono ?_
               rintro e v8 ⟨xx, vv, b1, l1, z1, rfl, h_J1, h_G1, h_OK, hE⟩
               have E_v8 := aE E_v7 hE;have Bs_v8 := bk6 Bs_v7 hE;have Bx_v8 := bk14 Bx_v7 hE;have Br_v8 := bk6 Br_v7 hE;have Bt_v8 := bk14 Bt_v7 hE;have T_v8 : Hid (Touch (S4 w) v7 v8) := aT hE
               clear hE c_s c_x c_r c_t Bs_v7 Bx_v7 Br_v7 Bt_v7
               have z_v8 := E_v8.out.size;have c_s := opn6 Bs_v8;have c_x := opn14 Bx_v8;have c_r := opn6 Br_v8;have c_t := opn14 Bt_v8
               (try unfold sv)
               have J1 := Lib.hid h_J1; clear h_J1
               have G1 := Lib.hid h_G1; clear h_G1
               have OK := Lib.hid h_OK; clear h_OK
               have OK2 := Lib.hid (StOk.keep (A' := fun b => w.heap.size + 1 + 1 + 1 < b) OK.out (fun b hb ha => ⟨rfl, by (try simp [size_set] at ha); omega⟩))
               have hleF := J1.out.1
               clear OK
               obtain ⟨u0, u1, u2, u3, u4, u5, u6, u7, u8, u9⟩ := vv
               obtain ⟨g1, c1, e1⟩ := OK2.out.col.slice
               obtain ⟨g2, c2, e2⟩ := OK2.out.key.slice
               obtain ⟨g3, c3, e3⟩ := OK2.out.val.slice
               obtain ⟨g4, c4, e4⟩ := OK2.out.set.slice
               obtain ⟨g5, c5, e5⟩ := OK2.out.cond.slice
               obtain ⟨g6, c6, e6⟩ := OK2.out.qu.slice
               obtain ⟨g7, c7, e7⟩ := OK2.out.op.slice
               obtain ⟨g8, c8, e8⟩ := OK2.out.asof.slice
               obtain ⟨g9, c9, e9⟩ := OK2.out.dur.slice
               obtain ⟨g10, c10, e10⟩ := OK2.out.ord.slice
               simp only at e1 e2 e3 e4 e5 e6 e7 e8 e9 e10
               subst e1 e2 e3 e4 e5 e6 e7 e8 e9 e10
               go_wp2
               (try simp only [Exit.inBlock, Exit.then])
               refine bodyPost_ret (v := .tuple #[.agg #[str xx.kind, str xx.table, slv g1 xx.columns.length c1, slv g2 xx.keys.length c2, slv g3 xx.values.length c3, slv g4 xx.sets.length c4, .int .i64 (xx.period.1 : Int), .int .i64 (xx.period.2 : Int), slv g5 xx.cond.length c5, slv g6 xx.query.length c6, slv g7 xx.ops.length c7, slv g8 xx.asOf.length c8, slv g9 xx.during.length c9, slv g10 xx.order.length c10], .agg #[slv c.g c.all.length c.cap, .int .i64 (b1 : Int), .int .i64 (c.E : Int), .int .i64 ((0 : Nat) : Int), .int .i64 (l1 : Int), .int .i64 (z1 : Int)]]) (res_cc rfl rfl (lv_st (xb14 Bx_v8)) rfl (lv_src (xb6 Br_v8))) rfl ?_
               obtain ⟨h2, h3⟩ := run_end (F := stmt c.E) (z := xx) (by rw [st_sel F1.out F2.out F3.out F4.out F5.out F6.out F7.out]; exact run_then G1.out) J1.out
               refine ⟨xx, ⟨slv g1 xx.columns.length c1, slv g2 xx.keys.length c2, slv g3 xx.values.length c3, slv g4 xx.sets.length c4, slv g5 xx.cond.length c5, slv g6 xx.query.length c6, slv g7 xx.ops.length c7, slv g8 xx.asOf.length c8, slv g9 xx.during.length c9, slv g10 xx.order.length c10⟩, b1, l1, z1, rfl, h2, h3, ?_, (xE E_v8)⟩
               exact OK2.out.keep (fun b hb ha => ⟨Touch.block (S := (S4 w)) xT b hb (fun e => by omega), by omega⟩)
def stOf : (Nat × Nat) ⊕ St → St
 | .inl _ => St.none
 | .inr x => x
def flOf : (Nat × Nat) ⊕ St → Nat × Nat
 | .inl f => f
 | .inr _ => (0, 0)
theorem Parse_any (l : List UInt8) (w : World) (hl : l.length ≤ 1000000000) (x : St) (f1 f2 : Nat) (hx : stOf (parseOf l) = x) (h1 : (flOf (parseOf l)).1 = f1) (h2 : (flOf (parseOf l)).2 = f2) :
   Calls Tryz.prog 9 #[str l] w (fun e w' => Ext w w' ∧ ∃ g1 g2 g3 g4 g5 g6 g7 g8 g9 g10 c1 c2 c3 c4 c5 c6 c7 c8 c9 c10,
    e = .returned (.tuple #[.agg #[str x.kind, str x.table, slv g1 x.columns.length c1, slv g2 x.keys.length c2, slv g3 x.values.length c3, slv g4 x.sets.length c4, .int .i64 (x.period.1 : Int), .int .i64 (x.period.2 : Int), slv g5 x.cond.length c5, slv g6 x.query.length c6, slv g7 x.ops.length c7, slv g8 x.asOf.length c8, slv g9 x.during.length c9, slv g10 x.order.length c10], .agg #[.int .i64 (f1 : Int), .int .i64 (f2 : Int)]]) ∧
    StOk w' (fun b => w.heap.size ≤ b) x ⟨slv g1 x.columns.length c1, slv g2 x.keys.length c2, slv g3 x.values.length c3, slv g4 x.sets.length c4, slv g5 x.cond.length c5, slv g6 x.query.length c6, slv g7 x.ops.length c7, slv g8 x.asOf.length c8, slv g9 x.during.length c9, slv g10 x.order.length c10⟩) := by
 subst hx h1 h2
 refine (Parse_ok l w hl).mono ?_
 rintro e w' ⟨hE, hp⟩
 refine ⟨hE, ?_⟩
 cases hr : parseOf l with
 | inl f =>
   rw [hr] at hp
   obtain rfl := hp
   exact ⟨none, none, none, none, none, none, none, none, none, none, 0, 0, 0, 0, 0, 0, 0, 0, 0, 0, rfl, StOk.none w' _ [] [] (0, 0)⟩
 | inr x =>
   rw [hr] at hp
   obtain ⟨v, rfl, hok⟩ := hp
   obtain ⟨u0, u1, u2, u3, u4, u5, u6, u7, u8, u9⟩ := v
   obtain ⟨g1, c1, e1⟩ := hok.col.slice
   obtain ⟨g2, c2, e2⟩ := hok.key.slice
   obtain ⟨g3, c3, e3⟩ := hok.val.slice
   obtain ⟨g4, c4, e4⟩ := hok.set.slice
   obtain ⟨g5, c5, e5⟩ := hok.cond.slice
   obtain ⟨g6, c6, e6⟩ := hok.qu.slice
   obtain ⟨g7, c7, e7⟩ := hok.op.slice
   obtain ⟨g8, c8, e8⟩ := hok.asof.slice
   obtain ⟨g9, c9, e9⟩ := hok.dur.slice
   obtain ⟨g10, c10, e10⟩ := hok.ord.slice
   simp only at e1 e2 e3 e4 e5 e6 e7 e8 e9 e10
   subst e1 e2 e3 e4 e5 e6 e7 e8 e9 e10
   exact ⟨g1, g2, g3, g4, g5, g6, g7, g8, g9, g10, c1, c2, c3, c4, c5, c6, c7, c8, c9, c10, rfl, hok⟩
theorem toks_short : ∀ (f p : Nat) (l : List UInt8) (ts : List Tok), toks f p l = .inr ts → ∀ t ∈ ts, t.2.1.length ≤ l.length
 | 0, p, l, ts, h => by simp [toks] at h; subst h; simp
 | f + 1, p, [], ts, h => by simp [toks] at h; subst h; simp
 | f + 1, p, x :: r, ts, h => by
   simp only [toks] at h
   split at h
   · intro t ht
     have := toks_short f _ _ ts h t ht
     simp; omega
   · split at h
     · cases h
     · rename_i k s n m ho
       cases hq : toks f (p + m) ((x :: r).drop m) with
       | inl q => rw [hq] at h; cases h
       | inr us =>
         rw [hq] at h
         simp only [consT] at h
         cases h
         intro t ht
         rcases List.mem_cons.1 ht with rfl | ht
         · exact one_txt ho
         · have h1 := toks_short f _ _ us hq t ht
           rw [List.length_drop] at h1
           omega
theorem lexOf_short {l : List UInt8} {ts : List Tok} (h : lexOf l = .inr ts) : ∀ t ∈ ts, t.2.1.length ≤ 4096 := by
 unfold lexOf at h
 split at h
 · cases h
 · rename_i hl
   split at h
   · cases h
   · rename_i us hu
     cases h
     intro t ht
     have := toks_short _ _ _ _ hu t ht
     omega
theorem rtok_bad {l : List UInt8} {f : Nat × Nat} (h : lexOf l = .inl f) (w : World) (hl : l.length ≤ 1000000000) :
  Calls Tryz.prog 22 #[str l] w (fun e w' => e = .returned (.tuple #[.slice none 0 0, .int .i64 (f.1 : Int), .int .i64 (f.2 : Int)]) ∧ Ext w w') := by
 refine (rtokens_ok l w hl).mono ?_
 rintro e w' ⟨hE, hp⟩
 rw [h] at hp
 exact ⟨hp, hE⟩
theorem rtok_good {l : List UInt8} {ts : List Tok} (h : lexOf l = .inr ts) (w : World) (hl : l.length ≤ 1000000000) :
  Calls Tryz.prog 22 #[str l] w (fun e w' => ∃ c : Rx, e = .returned (.tuple #[slv c.g c.all.length c.cap, .int .i64 0, .int .i64 0]) ∧ c.all = ts ∧ c.E = l.length ∧ Rk w' c ∧ Ext w w') := by
 refine (rtokens_ok l w hl).mono ?_
 rintro e w' ⟨hE, hp⟩
 rw [h] at hp
 obtain ⟨g, cap, h1, h2, _⟩ := hp
 exact ⟨⟨g, cap, ts, l.length⟩, h1, rfl, rfl, ⟨h2, lexOf_sign h, lexOf_few h, hl, (lexOf_ok h).1, lexOf_short h⟩, hE⟩
theorem ref_bad {l : List UInt8} {ts : List Tok} {f : Nat × Nat} (h : lexOf l = .inr ts) (hY : Xs.then (.ok ts) (stmt l.length) = .error f) : parseOf l = .inl f := by
 have h1 : stmt l.length ts = .error f := by
  cases hs : stmt l.length ts with
  | error e => rw [then_err' hs] at hY; cases hY; rfl
  | ok yr => obtain ⟨y, r⟩ := yr; rw [then_ok' hs] at hY; cases hY
 unfold parseOf whole
 rw [h]
 dsimp only
 rw [h1]; rfl
theorem ref_good {l : List UInt8} {ts r : List Tok} {x : St} (h : lexOf l = .inr ts) (hY : Xs.then (.ok ts) (stmt l.length) = .ok r) (hx : Got (.ok ts) (stmt l.length) x) :
  parseOf l = if (if isT [59] r then r.tail else r) = [] then .inr x else .inl (150, plc l.length (if isT [59] r then r.tail else r)) := by
 have h1 : stmt l.length ts = .ok (x, r) := by
  cases hs : stmt l.length ts with
  | error e => rw [then_err' hs] at hY; cases hY
  | ok yr =>
    obtain ⟨y, r'⟩ := yr
    rw [then_ok' hs] at hY
    have hxy := hx ts y r' rfl hs
    cases hY
    rw [hxy]
 unfold parseOf whole
 rw [h]
 dsimp only
 rw [h1]
 show (match (if (if isT [59] r then r.tail else r) = [] then .ok (x, []) else bad l.length 150 (if isT [59] r then r.tail else r) : Res St) with | .ok (x, _) => (.inr x : (Nat × Nat) ⊕ St) | .error f => .inl f) = _
 generalize (if isT [59] r then r.tail else r) = u
 by_cases hu : u = []
 · rw [if_pos hu, if_pos hu]
 · rw [if_neg hu, if_neg hu]; rfl
theorem res_ctt {fn : Func} {t1 t2 t3 : Tmp} {T1 : TypeId} {tmps : Array Value} {w : World} {v u z : Value} {p : Addr} {P : Program} (hr : fn.results = #[.cell t1 T1, .tmp t2, .tmp t3]) (h1 : tmps.getD t1 undef = .pointer (some p)) (hv : (loadVar T1 p).run P w = .ok v w) (h2 : tmps.getD t2 undef = u) (h3 : tmps.getD t3 undef = z) :
  (results fn tmps).run P w = .ok (.tuple #[v, u, z]) w := by
 rw [Array.getD_eq_getD_getElem?] at h1 h2 h3
 unfold results
 rw [hr]
 generalize loadVar = L at hv ⊢
 simp [go_sem, h1, h2, h3, hv]
theorem Parse_ref (l : List UInt8) (w : World) (hl : l.length ≤ 1000000000) (x : St) (f1 f2 : Nat) (hx : stOf (parseOf l) = x) (h1 : (flOf (parseOf l)).1 = f1) (h2 : (flOf (parseOf l)).2 = f2) :
   Calls Tryz.prog 10 #[str l] w (fun e w' => Ext w w' ∧ ∃ g1 g2 g3 g4 g5 g6 g7 g8 g9 g10 c1 c2 c3 c4 c5 c6 c7 c8 c9 c10,
     e = .returned (.tuple #[.agg #[str x.kind, str x.table, slv g1 x.columns.length c1, slv g2 x.keys.length c2, slv g3 x.values.length c3, slv g4 x.sets.length c4, .int .i64 (x.period.1 : Int), .int .i64 (x.period.2 : Int), slv g5 x.cond.length c5, slv g6 x.query.length c6, slv g7 x.ops.length c7, slv g8 x.asOf.length c8, slv g9 x.during.length c9, slv g10 x.order.length c10], .int .i64 (f1 : Int), .int .i64 (f2 : Int)]) ∧ StOk w' (fun b => w.heap.size ≤ b) x ⟨slv g1 x.columns.length c1, slv g2 x.keys.length c2, slv g3 x.values.length c3, slv g4 x.sets.length c4, slv g5 x.cond.length c5, slv g6 x.query.length c6, slv g7 x.ops.length c7, slv g8 x.asOf.length c8, slv g9 x.during.length c9, slv g10 x.order.length c10⟩) := by
 have hsz := bs_size l
 have HX := Lib.hid hx
 have HF1 := Lib.hid h1
 have HF2 := Lib.hid h2
 clear hx h1 h2
 cases hlx : lexOf l with
 | inl f =>
   obtain ⟨k1, k2⟩ := f
   have hp : parseOf l = .inl (k1, k2) := by unfold parseOf; rw [hlx]
   have hne : ((k1 : Int) != 0) = true := by have h1 : k1 = 2 ∨ k1 = 140 := lexOf_code hlx; rcases h1 with rfl | rfl <;> rfl
   have HTK := Lib.hid (fun u => rtok_bad hlx u hl)
   have HP := Lib.hid hp
   clear hp hlx
   have E_w : Hid (Ext w w) := Lib.hid (Ext.refl w)
   go_enter Tryz.func10, Tryz.ntmps10
   go_wp2_with fail
   refine (HTK.out _).mono ?_
   rintro e v1 ⟨rfl, hE⟩
   have E_v1 := aE E_w hE;have Bx_v1 := nk14 (w.heap.size) hE
   clear hE
   have z_v1 := E_v1.out.size;have c_x := opn14 Bx_v1
   (try unfold sv)
   go_wp2
   (try simp only [Exit.inBlock, Exit.then])
   refine bodyPost_ret (v := .tuple #[.agg #[str [], str [], .slice none 0 0, .slice none 0 0, .slice none 0 0, .slice none 0 0, .int .i64 (0 : Int), .int .i64 (0 : Int), .slice none 0 0, .slice none 0 0, .slice none 0 0, .slice none 0 0, .slice none 0 0, .slice none 0 0], .int .i64 (k1 : Int), .int .i64 (k2 : Int)]) (res_ctt rfl rfl (lv_st (xb14 Bx_v1)) rfl rfl) rfl ?_
   have hx1 : x = St.none := by rw [← HX.out, HP.out]; rfl
   have hx2 : f1 = k1 := by rw [← HF1.out, HP.out]; rfl
   have hx3 : f2 = k2 := by rw [← HF2.out, HP.out]; rfl
   subst hx1 hx2 hx3
   exact ⟨(xE E_v1), none, none, none, none, none, none, none, none, none, none, 0, 0, 0, 0, 0, 0, 0, 0, 0, 0, rfl, StOk.none _ _ [] [] (0, 0)⟩
 | inr ts =>
   have HTK := Lib.hid (fun u => rtok_good hlx u hl)
   have HLX := Lib.hid hlx
   clear hlx
   have E_w : Hid (Ext w w) := Lib.hid (Ext.refl w)
   go_enter Tryz.func10, Tryz.ntmps10
   go_wp2_with fail
   refine (HTK.out _).mono ?_
   rintro e v1 ⟨c, rfl, h_CA, h_CE, h_K, hE⟩
   have E_v1 := aE E_w hE;have Bx_v1 := nk14 (w.heap.size) hE
   clear hE
   have z_v1 := E_v1.out.size;have c_x := opn14 Bx_v1
   (try unfold sv)
   have CA := Lib.hid h_CA; clear h_CA
   have CE := Lib.hid h_CE; clear h_CE
   have K := Lib.hid h_K; clear h_K
   have hv1 : w.heap.size < v1.heap.size := by omega
   have hsm := K.out.small
   go_wp2_with fail
   rw [← CE.out]
   refine (rstatement_ok c (.ok c.all) 0 0 0 _ K.out ⟨Nat.zero_le _, rfl, rfl⟩).mono ?_
   rintro e v2 ⟨xx, vv, a1, k1, p1, rfl, h_J1, h_G1, h_OK, hE⟩
   have KE2 := Lib.hid hE
   have E_v2 := aE E_v1 hE;have Bx_v2 := bk14 Bx_v1 hE
   clear hE c_x Bx_v1
   have z_v2 := E_v2.out.size;have c_x := opn14 Bx_v2
   (try unfold sv)
   have J1 := Lib.hid h_J1; clear h_J1
   have G1 := Lib.hid h_G1; clear h_G1
   have OK := Lib.hid h_OK; clear h_OK
   have OK2 := Lib.hid (StOk.keep (A' := fun b => w.heap.size < b) OK.out (fun b hb ha => ⟨rfl, by (try simp [size_set] at ha); omega⟩))
   have K2 := Lib.hid (K.out.ext KE2.out)
   have hle1 := J1.out.1
   have HGT : Hid (Got (.ok ts) (stmt l.length) xx) := Lib.hid (by rw [← CA.out, ← CE.out]; exact G1.out)
   clear OK KE2
   obtain ⟨u0, u1, u2, u3, u4, u5, u6, u7, u8, u9⟩ := vv
   obtain ⟨g1, c1, e1⟩ := OK2.out.col.slice
   obtain ⟨g2, c2, e2⟩ := OK2.out.key.slice
   obtain ⟨g3, c3, e3⟩ := OK2.out.val.slice
   obtain ⟨g4, c4, e4⟩ := OK2.out.set.slice
   obtain ⟨g5, c5, e5⟩ := OK2.out.cond.slice
   obtain ⟨g6, c6, e6⟩ := OK2.out.qu.slice
   obtain ⟨g7, c7, e7⟩ := OK2.out.op.slice
   obtain ⟨g8, c8, e8⟩ := OK2.out.asof.slice
   obtain ⟨g9, c9, e9⟩ := OK2.out.dur.slice
   obtain ⟨g10, c10, e10⟩ := OK2.out.ord.slice
   simp only at e1 e2 e3 e4 e5 e6 e7 e8 e9 e10
   subst e1 e2 e3 e4 e5 e6 e7 e8 e9 e10
   have hv2 : w.heap.size < v2.heap.size := by omega
   go_wp2_with fail
   refine (rmay_ok c _ a1 0 k1 p1 [59] _ (K2.out.ext (by refine Touch.ext (S := fun _ => False) ?_ (fun _ _ h => h); (with_reducible (repeat (first | refine Touch.drew ?_ | refine Touch.alloc ?_ _ | refine Touch.setCell ?_ (fun h => absurd h (by dsimp only; omega)) _))); exact Touch.refl _ _)) J1.out).mono ?_
   rintro e v3 ⟨a2, rfl, h_J2, hE⟩
   have KE3 := Lib.hid hE
   have n_x_y := ne2 (show w.heap.size ≠ v2.heap.size by omega);have n_x_s := ne2 (show w.heap.size ≠ v2.heap.size + 1 by omega);have n_y_s := ne2 (show v2.heap.size ≠ v2.heap.size + 1 by omega)
   have E_v3 := aE E_v2 hE;have Bx_v3 := bk14 Bx_v2 hE;have By_v3 := nk14 (v2.heap.size) hE;have Bs_v3 := nk6 (v2.heap.size + 1) hE
   clear hE c_x Bx_v2
   have z_v3 := E_v3.out.size;have c_x := opn14 Bx_v3;have c_y := opn14 By_v3;have c_s := opn6 Bs_v3
   (try unfold sv)
   have J2 := Lib.hid h_J2; clear h_J2
   have E23 : Hid (Ext v2 v3) := Lib.hid (Ext.trans (by refine Touch.ext (S := fun _ => False) ?_ (fun _ _ h => h); (with_reducible (repeat (first | refine Touch.drew ?_ | refine Touch.alloc ?_ _ | refine Touch.setCell ?_ (fun h => absurd h (by dsimp only; omega)) _))); exact Touch.refl _ _) KE3.out)
   clear KE3
   have OK3 := Lib.hid (StOk.keep (A' := fun b => w.heap.size < b ∧ b < v2.heap.size) OK2.out (fun b hb ha => ⟨Below.block E23.out b hb, ha, hb⟩))
   have hle2 := J2.out.1
   obtain ⟨Z, hZ⟩ : ∃ Z, Xs.then (.ok c.all) (stmt c.E) = Z := ⟨_, rfl⟩
   have HZ := Lib.hid hZ
   clear hZ
   rcases Z with ⟨ke, pe⟩ | r
   · have hj := J1.out.2
     rw [HZ.out] at hj
     have hk3 : ((k1 : Int) == 0) = false := by have := hj.1; have := hj.2.2; simp only [beq_eq_false_iff_ne, ne_eq]; omega
     have hk4 : ((k1 : Int) != 0) = true := by have := hj.1; have := hj.2.2; simp; omega
     have HP : Hid (parseOf l = .inl (k1, p1)) := Lib.hid (by
       rw [hj.1, hj.2.1]
       exact ref_bad HLX.out (by rw [← CA.out, ← CE.out]; exact HZ.out))
     clear hj
     go_wp2
     refine wp_nm (fun v5 hE => ?_)
     have E_v5 := aE E_v3 hE;have Bx_v5 := bk14 Bx_v3 hE;have By_v5 := bk14 By_v3 hE;have Bs_v5 := bk6 Bs_v3 hE;have T_v5 : Hid (Touch (fun b => b = w.heap.size ∨ b = v2.heap.size ∨ b = v2.heap.size + 1) v3 v5) := aT hE
     clear hE c_x c_y c_s Bx_v3 By_v3 Bs_v3
     have z_v5 := E_v5.out.size;have c_x := opn14 Bx_v5;have c_y := opn14 By_v5;have c_s := opn6 Bs_v5
     letI : Tch.TS := ⟨fun b => b = w.heap.size⟩
     refine Tch.region_calm [.p 0, .p 1, .e 2, .p 3, .e 4, .h 5 true, .p 6, .p 7] f_mixed (by kernel_rfl) (by kernel_rfl) ?_
     repeat (refine Tch.plan_p rfl (fun K hK => ?_); go_simp; refine hK _ ?_; clear hK K)
     refine Tch.plan_e1 rfl rfl (.int .i64 (k1 : Int)) (fun w' he => ?_) (fun K hK => ?_)
     · have d := tch6 he c_s (fun (e : _ = _) => by omega)
       clear c_s he
       go_simp
     go_simp; refine hK _ ?_; clear hK K
     repeat (refine Tch.plan_p rfl (fun K hK => ?_); go_simp; refine hK _ ?_; clear hK K)
     refine Tch.plan_e1 rfl rfl (.int .i64 (p1 : Int)) (fun w' he => ?_) (fun K hK => ?_)
     · have d := tch6 he c_s (fun (e : _ = _) => by omega)
       clear c_s he
       go_simp
     go_simp; refine hK _ ?_; clear hK K
     refine Tch.plan_ct rfl rfl (fun K _ hK => ?_)
     go_wp2
     refine hK _ _ (late14d _ _ _ _ _ _ _ _ _ _ _ _ _ _ _ _) ?_; clear hK K
     repeat (refine Tch.plan_p rfl (fun K hK => ?_); go_simp; refine hK _ ?_; clear hK K)
     refine tch_done ?_
     go_wp2
     (try simp only [Exit.inBlock, Exit.then])
     refine bodyPost_ret (v := .tuple #[.agg #[str [], str [], .slice none 0 0, .slice none 0 0, .slice none 0 0, .slice none 0 0, .int .i64 (0 : Int), .int .i64 (0 : Int), .slice none 0 0, .slice none 0 0, .slice none 0 0, .slice none 0 0, .slice none 0 0, .slice none 0 0], .int .i64 (k1 : Int), .int .i64 (p1 : Int)]) (res_ctt rfl rfl (lv_st (xb14 Bx_v5)) rfl rfl) rfl ?_
     have hx1 : x = St.none := by rw [← HX.out, HP.out]; rfl
     have hx2 : f1 = k1 := by rw [← HF1.out, HP.out]; rfl
     have hx3 : f2 = p1 := by rw [← HF2.out, HP.out]; rfl
     subst hx1 hx2 hx3
     exact ⟨(xE E_v5), none, none, none, none, none, none, none, none, none, none, 0, 0, 0, 0, 0, 0, 0, 0, 0, 0, rfl, StOk.none _ _ [] [] (0, 0)⟩
   · have hj := J1.out.2
     rw [HZ.out] at hj
     have hk3 : ((k1 : Int) == 0) = true := by have := hj.1; simp only [beq_iff_eq]; omega
     have hk4 : ((k1 : Int) != 0) = false := by have := hj.1; simp; omega
     obtain ⟨u, hu⟩ : ∃ u, u = (if isT [59] r then r.tail else r) := ⟨_, rfl⟩
     have HMU : Hid (mayX [59] (Xs.then (.ok c.all) (stmt c.E)) = .ok u) := Lib.hid (by
       rw [HZ.out, hu]
       unfold mayX
       show (if isT [59] r = true then _ else _) = _
       split <;> rfl)
     have HJ2 : Hid (In c (.ok u) a2 k1 p1) := Lib.hid (by rw [← HMU.out]; exact J2.out)
     have HUD : Hid (u = c.all.drop a2) := Lib.hid HJ2.out.2.2
     have HPO : Hid (parseOf l = if u = [] then .inr xx else .inl (150, plc l.length u)) := Lib.hid (by
       rw [hu]
       exact ref_good HLX.out (by rw [← CA.out, ← CE.out]; exact HZ.out) HGT.out)
     clear hj hu
     by_cases hlt : a2 < c.all.length
     · skip
       go_wp2_with fail
       refine (rfail_ok c _ a2 0 k1 p1 150 _ (K2.out.ext (by refine Touch.ext (S := fun _ => False) ?_ (fun _ _ h => h); (with_reducible (repeat (first | refine Touch.drew ?_ | refine Touch.alloc ?_ _ | refine Touch.setCell ?_ (fun h => absurd h (by dsimp only; omega)) _))); exact E23.out.touch _)) HJ2.out (by decide)).mono ?_
       rintro e v4 ⟨k4, p4, rfl, h_J4, hE⟩
       have E_v4 := aE E_v3 hE;have Bx_v4 := bk14 Bx_v3 hE;have By_v4 := bk14 By_v3 hE;have Bs_v4 := bk6 Bs_v3 hE
       clear hE c_x c_y c_s Bx_v3 By_v3 Bs_v3
       have z_v4 := E_v4.out.size;have c_x := opn14 Bx_v4;have c_y := opn14 By_v4;have c_s := opn6 Bs_v4
       (try unfold sv)
       have J4 := Lib.hid h_J4; clear h_J4
       have hj4 := J4.out.2
       have hk5 : ((k4 : Int) != 0) = true := by have := hj4.1; simp; omega
       have HP : Hid (parseOf l = .inl (k4, p4)) := Lib.hid (by
         rw [HPO.out, if_neg (by rw [HUD.out]; intro h; have := congrArg List.length h; rw [List.length_drop] at this; simp at this; omega), hj4.1, hj4.2.1, CE.out])
       clear hj4
       go_wp2
       refine wp_nm (fun v5 hE => ?_)
       have E_v5 := aE E_v4 hE;have Bx_v5 := bk14 Bx_v4 hE;have By_v5 := bk14 By_v4 hE;have Bs_v5 := bk6 Bs_v4 hE;have T_v5 : Hid (Touch (fun b => b = w.heap.size ∨ b = v2.heap.size ∨ b = v2.heap.size + 1) v4 v5) := aT hE
       clear hE c_x c_y c_s Bx_v4 By_v4 Bs_v4
       have z_v5 := E_v5.out.size;have c_x := opn14 Bx_v5;have c_y := opn14 By_v5;have c_s := opn6 Bs_v5
       letI : Tch.TS := ⟨fun b => b = w.heap.size⟩
       refine Tch.region_calm [.p 0, .p 1, .e 2, .p 3, .e 4, .h 5 true, .p 6, .p 7] f_mixed (by kernel_rfl) (by kernel_rfl) ?_
       repeat (refine Tch.plan_p rfl (fun K hK => ?_); go_simp; refine hK _ ?_; clear hK K)
       refine Tch.plan_e1 rfl rfl (.int .i64 (k4 : Int)) (fun w' he => ?_) (fun K hK => ?_)
       · have d := tch6 he c_s (fun (e : _ = _) => by omega)
         clear c_s he
         go_simp
       go_simp; refine hK _ ?_; clear hK K
       repeat (refine Tch.plan_p rfl (fun K hK => ?_); go_simp; refine hK _ ?_; clear hK K)
       refine Tch.plan_e1 rfl rfl (.int .i64 (p4 : Int)) (fun w' he => ?_) (fun K hK => ?_)
       · have d := tch6 he c_s (fun (e : _ = _) => by omega)
         clear c_s he
         go_simp
       go_simp; refine hK _ ?_; clear hK K
       refine Tch.plan_ct rfl rfl (fun K _ hK => ?_)
       go_wp2
       refine hK _ _ (late14d _ _ _ _ _ _ _ _ _ _ _ _ _ _ _ _) ?_; clear hK K
       repeat (refine Tch.plan_p rfl (fun K hK => ?_); go_simp; refine hK _ ?_; clear hK K)
       refine tch_done ?_
       go_wp2
       (try simp only [Exit.inBlock, Exit.then])
       refine bodyPost_ret (v := .tuple #[.agg #[str [], str [], .slice none 0 0, .slice none 0 0, .slice none 0 0, .slice none 0 0, .int .i64 (0 : Int), .int .i64 (0 : Int), .slice none 0 0, .slice none 0 0, .slice none 0 0, .slice none 0 0, .slice none 0 0, .slice none 0 0], .int .i64 (k4 : Int), .int .i64 (p4 : Int)]) (res_ctt rfl rfl (lv_st (xb14 Bx_v5)) rfl rfl) rfl ?_
       have hx1 : x = St.none := by rw [← HX.out, HP.out]; rfl
       have hx2 : f1 = k4 := by rw [← HF1.out, HP.out]; rfl
       have hx3 : f2 = p4 := by rw [← HF2.out, HP.out]; rfl
       subst hx1 hx2 hx3
       exact ⟨(xE E_v5), none, none, none, none, none, none, none, none, none, none, 0, 0, 0, 0, 0, 0, 0, 0, 0, 0, rfl, StOk.none _ _ [] [] (0, 0)⟩
     · skip
       have HP : Hid (parseOf l = .inr xx) := Lib.hid (by rw [HPO.out, if_pos (by rw [HUD.out]; exact List.drop_eq_nil_of_le (by omega))])
       go_wp2
       (try simp only [Exit.inBlock, Exit.then])
       refine bodyPost_ret (v := .tuple #[.agg #[str xx.kind, str xx.table, slv g1 xx.columns.length c1, slv g2 xx.keys.length c2, slv g3 xx.values.length c3, slv g4 xx.sets.length c4, .int .i64 (xx.period.1 : Int), .int .i64 (xx.period.2 : Int), slv g5 xx.cond.length c5, slv g6 xx.query.length c6, slv g7 xx.ops.length c7, slv g8 xx.asOf.length c8, slv g9 xx.during.length c9, slv g10 xx.order.length c10], .int .i64 0, .int .i64 0]) (res_ctt rfl rfl (lv_st (xb14 Bx_v3)) rfl rfl) rfl ?_
       have hx1 : x = xx := by rw [← HX.out, HP.out]; rfl
       have hx2 : f1 = 0 := by rw [← HF1.out, HP.out]; rfl
       have hx3 : f2 = 0 := by rw [← HF2.out, HP.out]; rfl
       subst hx1 hx2 hx3
       exact ⟨(xE E_v3), g1, g2, g3, g4, g5, g6, g7, g8, g9, g10, c1, c2, c3, c4, c5, c6, c7, c8, c9, c10, rfl, OK3.out.keep (fun b hb ha => ⟨Touch.block (S := (fun b => b = w.heap.size ∨ b = v2.heap.size ∨ b = v2.heap.size + 1)) xT b hb (fun e => by have := ha.1; have := ha.2; omega), by have := ha.1; omega⟩)⟩
end Go.Proofs.YtkhnpmeohjafiaaGreatDoor
