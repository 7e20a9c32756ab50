/- Lemmas. -/
import Derived.Test.YtkhnpmeohjafiaaGreatDoorMY4
set_option maxHeartbeats 32000000
set_option maxRecDepth 100000
namespace Go.Proofs.YtkhnpmeohjafiaaGreatDoor
open Go.RowKit
structure MoL {α β : Type} (K : Kd α) (T : TypeId) (A0 : Nat → Prop) (w : World) (c : Rx) (R : Res β) (one : List Tok → Res α) (kk : List α → List Tok → Res β) (CF : Value → Array Value) (gk : Nat) (v5 : Value) (wr : World) (more : Bool) (Y : Xs) (a k p : Nat) (xs : List α) (g : Option Nat) (cap : Nat) (fl : List Value) : Prop where
 hk : gk = muM more Y
 hv : v5 = .bool more
 si : SI w c wr Y a k p (CF (slv g xs.length cap))
 sl : Sl wr T K.size g xs.length cap fl
 own : ∀ b, g = some b → A0 b
 ls : LsC K wr (fun b => A0 b ∧ g ≠ some b) fl xs
 len : xs.length + muM more Y ≤ 5000
 mr : MoreR R one kk more Y xs
theorem muM_le {c : Rx} {X : Xs} {a k p : Nat} {m : Bool} (h : In c X a k p) : muM m X ≤ c.all.length + 1 := by
 have := mu_le h
 unfold muM; split <;> omega
theorem rinsert_ok (c : Rx) (X : Xs) (a k p : Nat) (w : World) (h : Rk w c) (hx : In c X a k p) :
  Calls Tryz.prog 73 #[sv c a 0 k p] w (StPost c w X (insert c.E)) := by
 have H := Lib.hid h
 have HX := Lib.hid hx
 have hsm := h.small
 have hle := hx.1
 clear h hx
 unfold sv
 have E_w : Hid (Ext w w) := Lib.hid (Ext.refl w)
 go_enter Tryz.func73, Tryz.ntmps73
 go_wp2_with fail
 refine (rmust_ok c X a 0 k p [73, 78, 84, 79] _ (H.out.ext (xE E_w)) HX.out).mono ?_
 rintro e w2 ⟨a1, k1, p1, rfl, h_I1, hE⟩
 have n_ := nst4 w
 have E_w2 := aE E_w hE;have Bs_w2 := nk6 (w.heap.size) hE;have Bx_w2 := nk14 (w.heap.size + 1) hE;have Br_w2 := nk6 (w.heap.size + 1 + 1) hE;have Bt_w2 := nk14 (w.heap.size + 1 + 1 + 1) hE
 clear hE
 have z_w2 := E_w2.out.size;have c_s := opn6 Bs_w2;have c_x := opn14 Bx_w2;have c_r := opn6 Br_w2;have c_t := opn14 Bt_w2
 (try unfold sv)
 have I1 := Lib.hid h_I1; clear h_I1
 have hle1 := I1.out.1
 go_wp2_with fail
 refine (rname_ok c _ a1 0 k1 p1 _ (H.out.ext (xE E_w2)) I1.out).mono ?_
 rintro e w3 ⟨tn, a2, k2, p2, rfl, h_I2, h_G2, hE⟩
 have E_w3 := aE E_w2 hE;have Bs_w3 := bk6 Bs_w2 hE;have Bx_w3 := bk14 Bx_w2 hE;have Br_w3 := bk6 Br_w2 hE;have Bt_w3 := bk14 Bt_w2 hE
 clear hE c_s c_x c_r c_t Bs_w2 Bx_w2 Br_w2 Bt_w2
 have z_w3 := E_w3.out.size;have c_s := opn6 Bs_w3;have c_x := opn14 Bx_w3;have c_r := opn6 Br_w3;have c_t := opn14 Bt_w3
 (try unfold sv)
 have I2 := Lib.hid h_I2; clear h_I2
 have G2 := Lib.hid h_G2; clear h_G2
 have hle2 := I2.out.1
 go_wp2_with fail
 refine (rmust_ok c _ a2 0 k2 p2 [86, 65, 76, 85, 69, 83] _ (H.out.ext (xE E_w3)) I2.out).mono ?_
 rintro e w4 ⟨a3, k3, p3, rfl, h_I3, hE⟩
 have E_w4 := aE E_w3 hE;have Bs_w4 := bk6 Bs_w3 hE;have Bx_w4 := bk14 Bx_w3 hE;have Br_w4 := bk6 Br_w3 hE;have Bt_w4 := bk14 Bt_w3 hE;have T_w4 : Hid (Touch (S4 w) w3 w4) := aT hE
 clear hE c_s c_x c_r c_t Bs_w3 Bx_w3 Br_w3 Bt_w3
 have z_w4 := E_w4.out.size;have c_s := opn6 Bs_w4;have c_x := opn14 Bx_w4;have c_r := opn6 Br_w4;have c_t := opn14 Bt_w4
 (try unfold sv)
 have I3 := Lib.hid h_I3; clear h_I3
 have hle3 := I3.out.1
 go_wp2_with fail
 refine (rmust_ok c _ a3 0 k3 p3 [40] _ (H.out.ext (xE E_w4)) I3.out).mono ?_
 rintro e w5 ⟨a4, k4, p4, rfl, h_I4, hE⟩
 have E_w5 := aE E_w4 hE;have Bs_w5 := bk6 Bs_w4 hE;have Bx_w5 := bk14 Bx_w4 hE;have Br_w5 := bk6 Br_w4 hE;have Bt_w5 := bk14 Bt_w4 hE
 clear hE c_s c_x c_r c_t Bs_w4 Bx_w4 Br_w4 Bt_w4
 have z_w5 := E_w5.out.size;have c_s := opn6 Bs_w5;have c_x := opn14 Bx_w5;have c_r := opn6 Br_w5;have c_t := opn14 Bt_w5
 (try unfold sv)
 have I4 := Lib.hid h_I4; clear h_I4
 have hle4 := I4.out.1
 obtain ⟨kk, hkk⟩ : ∃ kk : List Ex → List Tok → Res St, kk = fun l r => bnd (must c.E [41] r) fun _ r => bnd (must c.E [70, 82, 79, 77] r) fun _ r => fin (fun p => ({ St.none with kind := [73, 78, 83, 69, 82, 84], table := tn, values := l, period := p } : St)) (period c.E r) := ⟨_, rfl⟩
 have HKK := Lib.hid hkk
 have HM0 : Hid (MoreR (X.run (insert c.E)) (expr c.E) kk true (mustX c [40] (mustX c [86, 65, 76, 85, 69, 83] ((mustX c [73, 78, 84, 79] X).then (name c.E)))) []) := Lib.hid (MoreR.start (by
  rw [HKK.out]
  refine (run_must (g := fun r => bnd (name c.E r) fun t r => bnd (must c.E [86, 65, 76, 85, 69, 83] r) fun _ r => bnd (must c.E [40] r) fun _ r => bnd (sep (expr c.E) r) fun l r => bnd (must c.E [41] r) fun _ r => bnd (must c.E [70, 82, 79, 77] r) fun _ r => fin (fun p => ({ St.none with kind := [73, 78, 83, 69, 82, 84], table := t, values := l, period := p } : St)) (period c.E r))).trans ?_
  refine (run_bnd G2.out).trans ?_
  refine (run_must (g := fun r => bnd (must c.E [40] r) fun _ r => bnd (sep (expr c.E) r) fun l r => bnd (must c.E [41] r) fun _ r => bnd (must c.E [70, 82, 79, 77] r) fun _ r => fin (fun p => ({ St.none with kind := [73, 78, 83, 69, 82, 84], table := tn, values := l, period := p } : St)) (period c.E r))).trans ?_
  exact run_must (g := fun r => bnd (sep (expr c.E) r) fun l r => bnd (must c.E [41] r) fun _ r => bnd (must c.E [70, 82, 79, 77] r) fun _ r => fin (fun p => ({ St.none with kind := [73, 78, 83, 69, 82, 84], table := tn, values := l, period := p } : St)) (period c.E r))))
 clear hkk
 have hI4 := I4.out
 have HM1 := HM0
 generalize mustX c [40] (mustX c [86, 65, 76, 85, 69, 83] ((mustX c [73, 78, 84, 79] X).then (name c.E))) = Y0 at hI4 HM1
 have HI4 := Lib.hid hI4
 clear hI4 HM0 I4 I3 I2 I1 G2
 go_upto_block 0 with fail
 go_cut [] from 7 to 52 (fun wc => ∃ (Y : Xs) (ac kc pc : Nat) (xs : List Ex) (g : Option Nat) (cap : Nat), SI w c wc Y ac kc pc ((fun v => #[str [73, 78, 83, 69, 82, 84], str tn, .slice none 0 0, .slice none 0 0, v, .slice none 0 0, .int .i64 (0 : Int), .int .i64 (0 : Int), .slice none 0 0, .slice none 0 0, .slice none 0 0, .slice none 0 0, .slice none 0 0, .slice none 0 0]) (slv g xs.length cap)) ∧ VLA ExK 45 wc (fun b => w.heap.size + 1 + 1 + 1 < b) (slv g xs.length cap) xs ∧ X.run (insert c.E) = Y.run (kk xs))
 case first =>
  go_wp2
  refine wp_nm (fun w6 hE => ?_)
  have E_w6 := aE E_w5 hE;have Bs_w6 := bk6 Bs_w5 hE;have Bx_w6 := bk14 Bx_w5 hE;have Br_w6 := bk6 Br_w5 hE;have Bt_w6 := bk14 Bt_w5 hE
  clear hE c_s c_x c_r c_t Bs_w5 Bx_w5 Br_w5 Bt_w5
  have z_w6 := E_w6.out.size;have c_s := opn6 Bs_w6;have c_x := opn14 Bx_w6;have c_r := opn6 Br_w6;have c_t := opn14 Bt_w6
  have HI0 : Hid (MoL ExK 45 (fun b => w.heap.size + 1 + 1 + 1 < b) w c (X.run (insert c.E)) (expr c.E) kk (fun v => #[str [73, 78, 83, 69, 82, 84], str tn, .slice none 0 0, .slice none 0 0, v, .slice none 0 0, .int .i64 (0 : Int), .int .i64 (0 : Int), .slice none 0 0, .slice none 0 0, .slice none 0 0, .slice none 0 0, .slice none 0 0, .slice none 0 0]) (muM true Y0) (.bool true) w6 true Y0 a4 k4 p4 [] none 0 []) :=
    Lib.hid ⟨rfl, rfl, ⟨E_w6.out, Bs_w6.out, Bx_w6.out, Br_w6.out, Bt_w6.out, HI4.out⟩, Sl.nil _ _ _, (fun b hb => by cases hb), rfl, by have := muM_le (m := true) HI4.out; simp; omega, HM1.out⟩
  go_loopg [5] (muM true Y0) (fun gk v5 wr => ∃ (more : Bool) (Y : Xs) (ac kc pc : Nat) (xs : List Ex) (g : Option Nat) (cap : Nat) (fl : List Value), MoL ExK 45 (fun b => w.heap.size + 1 + 1 + 1 < b) w c (X.run (insert c.E)) (expr c.E) kk (fun v => #[str [73, 78, 83, 69, 82, 84], str tn, .slice none 0 0, .slice none 0 0, v, .slice none 0 0, .int .i64 (0 : Int), .int .i64 (0 : Int), .slice none 0 0, .slice none 0 0, .slice none 0 0, .slice none 0 0, .slice none 0 0, .slice none 0 0]) gk v5 wr more Y ac kc pc xs g cap fl)
  case atStart => exact ⟨true, Y0, a4, k4, p4, [], none, 0, [], HI0.out⟩
  case round =>
    clear HI0
    obtain ⟨more, Y, ac, kc, pc, xs, g, cap, fl, hI⟩ := hrel
    obtain rfl := hI.hv
    have HI := Lib.hid hI
    have HSI := Lib.hid hI.si
    clear hI
    have E_WW := Lib.hid HSI.out.ext
    have Bs_WW := Lib.hid HSI.out.bs
    have Bx_WW := Lib.hid HSI.out.bx
    have Br_WW := Lib.hid HSI.out.br
    have Bt_WW := Lib.hid HSI.out.bt
    have z_WW : w.heap.size ≤ wr.heap.size := HSI.out.ext.size
    have hler : ac ≤ c.all.length := HSI.out.inn.1
    clear c_s c_x c_r c_t
    have c_s := opn6 Bs_WW;have c_x := opn14 Bx_WW;have c_r := opn6 Br_WW;have c_t := opn14 Bt_WW
    have hwr : w.heap.size + 1 + 1 + 1 < wr.heap.size := by omega
    cases more with
    | false =>
      go_wp2
      go_meet
      case rel => exact ⟨Y, ac, kc, pc, xs, g, cap, HI.out.si, ⟨g, cap, fl, rfl, HI.out.sl, HI.out.own, HI.out.ls⟩, HI.out.mr.exit (.inl rfl)⟩
    | true =>
      obtain ⟨Z, hZ⟩ : ∃ Z, Y = Z := ⟨_, rfl⟩
      have HZ := Lib.hid hZ
      clear hZ
      rcases Z with ⟨ke, pe⟩ | ts
      · have hk3 : ((kc : Int) == 0) = false := by
         have h1 := HSI.out.inn.2
         rw [HZ.out] at h1
         have := h1.1; have := h1.2.2
         simp only [beq_eq_false_iff_ne, ne_eq]; omega
        go_wp2
        go_meet
        case rel => exact ⟨Y, ac, kc, pc, xs, g, cap, HI.out.si, ⟨g, cap, fl, rfl, HI.out.sl, HI.out.own, HI.out.ls⟩, HI.out.mr.exit (.inr ⟨_, HZ.out⟩)⟩
      · have hk3 : ((kc : Int) == 0) = true := by
         have h1 := HSI.out.inn.2
         rw [HZ.out] at h1
         have := h1.1
         simp only [beq_iff_eq]; omega
        have hlx : xs.length ≤ 5000 := by have := HI.out.len; omega
        go_wp2_with fail
        refine (rexpr_ok c Y ac kc pc _ (H.out.ext (xE E_WW)) HSI.out.inn).mono ?_
        rintro e w4 ⟨op, n, t, o, args, ga, ca, a5, k5, p5, rfl, h_I5, h_G5, h_C5, hE⟩
        have n_s_e := ne2 (show w.heap.size ≠ wr.heap.size by omega);have n_x_e := ne2 (show w.heap.size + 1 ≠ wr.heap.size by omega);have n_r_e := ne2 (show w.heap.size + 1 + 1 ≠ wr.heap.size by omega);have n_t_e := ne2 (show w.heap.size + 1 + 1 + 1 ≠ wr.heap.size by omega)
        have E_w4 := aE E_WW hE;have Bs_w4 := bk6 Bs_WW hE;have Bx_w4 := bk14 Bx_WW hE;have Br_w4 := bk6 Br_WW hE;have Bt_w4 := bk14 Bt_WW hE;have Be_w4 := nk5 (wr.heap.size) hE;have T_w4 : Hid (Touch (S4 w) wr w4) := aT hE
        clear hE c_s c_x c_r c_t Bs_WW Bx_WW Br_WW Bt_WW
        have z_w4 := E_w4.out.size;have c_s := opn6 Bs_w4;have c_x := opn14 Bx_w4;have c_r := opn6 Br_w4;have c_t := opn14 Bt_w4;have c_e := opn5 Be_w4
        (try unfold sv)
        have I5 := Lib.hid h_I5; clear h_I5
        have G5 := Lib.hid h_G5; clear h_G5
        have C5 := Lib.hid h_C5; clear h_C5
        have hle5 := I5.out.1
        have HSL4 := Lib.hid (HI.out.sl.touch T_w4.out (fun b hb e => by have := HI.out.own b hb; omega))
        have HLS4 := Lib.hid (LsC.keep (A' := fun b => (w.heap.size + 1 + 1 + 1 < b ∧ g ≠ some b) ∧ b ≠ wr.heap.size) ExK (fun b hb ha => ⟨T_w4.out.block b hb (fun e => by have := ha.1; omega), ha, by omega⟩) _ _ HI.out.ls)
        have HGW : Hid (∀ b, g = some b → b < wr.heap.size) := Lib.hid fun b hb => by
         have h1 := HI.out.sl
         rw [hb] at h1
         exact h1.block_lt
        have C4 : Hid (ExC w4 (fun b => (w.heap.size + 1 + 1 + 1 < b ∧ g ≠ some b) ∧ b ≠ wr.heap.size) (exCells op n t o (slv ga args.length ca)) (.mk op n t o args)) := Lib.hid (ExC.weak C5.out (fun b hb ha => by simp [size_set] at ha; exact ⟨⟨by omega, fun e => by have := HGW.out b e; omega⟩, by omega⟩))
        go_wp2_with (at_builtin; refine (fun (h : True → _) => h trivial) ?_)
        intro _
        refine list_nm (fun w7 hE => ?_)
        have n_s_o := ne2 (show w.heap.size ≠ w4.heap.size by omega);have n_x_o := ne2 (show w.heap.size + 1 ≠ w4.heap.size by omega);have n_r_o := ne2 (show w.heap.size + 1 + 1 ≠ w4.heap.size by omega);have n_t_o := ne2 (show w.heap.size + 1 + 1 + 1 ≠ w4.heap.size by omega);have n_e_o := ne2 (show wr.heap.size ≠ w4.heap.size by omega)
        have E_w7 := aE E_w4 hE;have Bs_w7 := bk6 Bs_w4 hE;have Bx_w7 := bk14 Bx_w4 hE;have Br_w7 := bk6 Br_w4 hE;have Bt_w7 := bk14 Bt_w4 hE;have Be_w7 := bk5 Be_w4 hE;have Bo_w7 := nk5 (w4.heap.size) hE;have T_w7 : Hid (Touch (fun b => b = w.heap.size ∨ b = w.heap.size + 1 ∨ b = w.heap.size + 1 + 1 ∨ b = w.heap.size + 1 + 1 + 1 ∨ b = wr.heap.size) w4 w7) := aT hE
        clear hE c_s c_x c_r c_t c_e Bs_w4 Bx_w4 Br_w4 Bt_w4 Be_w4
        have z_w7 := E_w7.out.size;have c_s := opn6 Bs_w7;have c_x := opn14 Bx_w7;have c_r := opn6 Br_w7;have c_t := opn14 Bt_w7;have c_e := opn5 Be_w7;have c_o := opn5 Bo_w7
        have HSL7 := Lib.hid (HSL4.out.touch T_w7.out (fun b hb e => by have := HI.out.own b hb; have := HGW.out b hb; omega))
        have HLS7 := Lib.hid (LsC.keep (A' := fun b => w.heap.size + 1 + 1 + 1 < b ∧ g ≠ some b) ExK (fun b hb ha => ⟨T_w7.out.block b hb (fun e => by have := ha.1.1; have := ha.2; omega), ha.1⟩) _ _ HLS4.out)
        have C7 := Lib.hid (ExC.keep (A' := fun b => w.heap.size + 1 + 1 + 1 < b ∧ g ≠ some b) (fun b hb ha => ⟨T_w7.out.block b hb (fun e => by have := ha.1.1; have := ha.2; omega), ha.1⟩) _ _ C4.out)
        refine app_lit ei_ex rfl (.tmp 31) (.tmp 33) rfl (g := g) (n := xs.length) (cap := cap) (b := w4.heap.size) (by rfl) HSL7.out (by rfl) rfl (news := exCells op n t o (slv ga args.length ca)) Bo_w7.out C7.out.one (by omega) (by omega) ?_
        intro g6 cap6 w8 hS6 hT6 hat6
        have HSL8 := Lib.hid hS6
        have E_w8 := Lib.hid (Touch.fresh' (a := w) E_w7.out hT6 (fun i e => by have := HI.out.own i e; omega))
        have Bs_w8 := Lib.hid (hT6.old Bs_w7.out (fun e => by have := HI.out.own _ e; omega))
        have Bx_w8 := Lib.hid (hT6.old Bx_w7.out (fun e => by have := HI.out.own _ e; omega))
        have Br_w8 := Lib.hid (hT6.old Br_w7.out (fun e => by have := HI.out.own _ e; omega))
        have Bt_w8 := Lib.hid (hT6.old Bt_w7.out (fun e => by have := HI.out.own _ e; omega))
        obtain ⟨q1, q2⟩ := ls_put (K := ExK) (A0 := fun b => w.heap.size + 1 + 1 + 1 < b) (x := .mk op n t o args) (cs := exCells op n t o (slv ga args.length ca)) HLS7.out C7.out hT6 hat6 HI.out.own (by omega)
        have Q1 := Lib.hid q1
        have Q2 := Lib.hid q2
        clear hS6 hT6 hat6 q1 q2
        have z_w8 : w.heap.size ≤ w8.heap.size := E_w8.out.size
        clear c_s c_x c_r c_t c_e c_o
        clear n_s_o n_x_o n_r_o n_t_o n_e_o
        clear n_s_e n_x_e n_r_e n_t_e
        have c_s := opn6 Bs_w8;have c_x := opn14 Bx_w8;have c_r := opn6 Br_w8;have c_t := opn14 Bt_w8
        go_wp2_with fail
        refine (rmay_ok c _ a5 0 k5 p5 [44] _ (H.out.ext (xE E_w8)) I5.out).mono ?_
        rintro e w9 ⟨a6, rfl, h_I6, hE⟩
        have E_w9 := aE E_w8 hE;have Bs_w9 := bk6 Bs_w8 hE;have Bx_w9 := bk14 Bx_w8 hE;have Br_w9 := bk6 Br_w8 hE;have Bt_w9 := bk14 Bt_w8 hE;have T_w9 : Hid (Touch (S4 w) w8 w9) := aT hE
        clear hE c_s c_x c_r c_t Bs_w8 Bx_w8 Br_w8 Bt_w8
        have z_w9 := E_w9.out.size;have c_s := opn6 Bs_w9;have c_x := opn14 Bx_w9;have c_r := opn6 Br_w9;have c_t := opn14 Bt_w9
        (try unfold sv)
        have I6 := Lib.hid h_I6; clear h_I6
        have hle6 := I6.out.1
        have HSL9 := Lib.hid (HSL8.out.touch T_w9.out (fun b hb e => by cases hb; have := Q2.out; omega))
        have HLS9 := Lib.hid (LsC.keep ExK (fun b hb ha => ⟨T_w9.out.block b hb (fun e => by have := ha.1; omega), ha⟩) _ _ Q1.out)
        have HST : Hid (muM (isX [44] (Y.then (expr c.E))) (mayX [44] (Y.then (expr c.E))) < muM true Y) := Lib.hid (by rw [HZ.out]; exact muM_step (Suf.expr c.E))
        go_wp2
        go_roundg (muM (isX [44] (Y.then (expr c.E))) (mayX [44] (Y.then (expr c.E))))
        case measure => rw [HI.out.hk]; exact HST.out
        case rel =>
         have hlen : (xs ++ [Ex.mk op n t o args]).length = xs.length + 1 := by simp
         refine ⟨isX [44] (Y.then (expr c.E)), mayX [44] (Y.then (expr c.E)), a6, k5, p5, xs ++ [.mk op n t o args], some g6, cap6, fl ++ exCells op n t o (slv ga args.length ca), ⟨rfl, rfl, ⟨(xE E_w9), (xb6 Bs_w9), (xb14 Bx_w9), (xb6 Br_w9), ?_, I6.out⟩, ?_, ?_, ?_, ?_, ?_⟩⟩
         · rw [hlen]
           show _ = some (Obj.cells #[str [73, 78, 83, 69, 82, 84], str tn, .slice none 0 0, .slice none 0 0, slv (some g6) (xs.length + 1) cap6, .slice none 0 0, .int .i64 (0 : Int), .int .i64 (0 : Int), .slice none 0 0, .slice none 0 0, .slice none 0 0, .slice none 0 0, .slice none 0 0, .slice none 0 0] 33 (0, 0))
           exact (xb14 Bt_w9)
         · rw [hlen]; exact HSL9.out.touch (S := (S4 w)) xT (fun b hb e => by cases hb; have := Q2.out; omega)
         · intro b hb; cases hb; exact Q2.out
         · exact LsC.keep ExK (fun b hb ha => ⟨Touch.block (S := (S4 w)) xT b hb (fun e => by have := ha.1; omega), ha⟩) _ _ HLS9.out
         · have h1 := HI.out.len; have h2 := HST.out; rw [hlen]; omega
         · exact HI.out.mr.step G5.out (Suf.expr c.E)
 case rest =>
  obtain ⟨Y, ac, kc, pc, xs, g, cap, hsi, hv, hr⟩ := hcut
  have HSI := Lib.hid hsi
  have HV := Lib.hid hv
  have HR := Lib.hid hr
  clear hsi hv hr
  have E_WW := Lib.hid HSI.out.ext
  have Bs_WW := Lib.hid HSI.out.bs
  have Bx_WW := Lib.hid HSI.out.bx
  have Br_WW := Lib.hid HSI.out.br
  have Bt_WW := Lib.hid HSI.out.bt
  have z_WW : w.heap.size ≤ wc.heap.size := HSI.out.ext.size
  have hler : ac ≤ c.all.length := HSI.out.inn.1
  clear c_s c_x c_r c_t
  have c_s := opn6 Bs_WW;have c_x := opn14 Bx_WW;have c_r := opn6 Br_WW;have c_t := opn14 Bt_WW
  go_wp2_with fail
  refine (rmust_ok c Y ac 0 kc pc [41] _ (H.out.ext (xE E_WW)) HSI.out.inn).mono ?_
  rintro e v1 ⟨b1, l1, pz1, rfl, h_J1, hE⟩
  have E_v1 := aE E_WW hE;have Bs_v1 := bk6 Bs_WW hE;have Bx_v1 := bk14 Bx_WW hE;have Br_v1 := bk6 Br_WW hE;have Bt_v1 := bk14 Bt_WW hE;have T_v1 : Hid (Touch (S4 w) wc v1) := aT hE
  clear hE c_s c_x c_r c_t Bs_WW Bx_WW Br_WW Bt_WW
  have z_v1 := E_v1.out.size;have c_s := opn6 Bs_v1;have c_x := opn14 Bx_v1;have c_r := opn6 Br_v1;have c_t := opn14 Bt_v1
  (try unfold sv)
  have J1 := Lib.hid h_J1; clear h_J1
  have hlf1 := J1.out.1
  go_wp2_with fail
  refine (rmust_ok c _ b1 0 l1 pz1 [70, 82, 79, 77] _ (H.out.ext (xE E_v1)) J1.out).mono ?_
  rintro e v2 ⟨b2, l2, pz2, rfl, h_J2, hE⟩
  have E_v2 := aE E_v1 hE;have Bs_v2 := bk6 Bs_v1 hE;have Bx_v2 := bk14 Bx_v1 hE;have Br_v2 := bk6 Br_v1 hE;have Bt_v2 := bk14 Bt_v1 hE;have T_v2 : Hid (Touch (S4 w) v1 v2) := aT hE
  clear hE c_s c_x c_r c_t Bs_v1 Bx_v1 Br_v1 Bt_v1
  have z_v2 := E_v2.out.size;have c_s := opn6 Bs_v2;have c_x := opn14 Bx_v2;have c_r := opn6 Br_v2;have c_t := opn14 Bt_v2
  (try unfold sv)
  have J2 := Lib.hid h_J2; clear h_J2
  have hlf2 := J2.out.1
  go_wp2_with fail
  refine (rperiod_ok c _ b2 0 l2 pz2 _ (H.out.ext (xE E_v2)) J2.out).mono ?_
  rintro e v3 ⟨n, m, b3, l3, pz3, rfl, h_J3, h_G3, hE⟩
  have E_v3 := aE E_v2 hE;have Bs_v3 := bk6 Bs_v2 hE;have Bx_v3 := bk14 Bx_v2 hE;have Br_v3 := bk6 Br_v2 hE;have Bt_v3 := bk14 Bt_v2 hE;have T_v3 : Hid (Touch (S4 w) v2 v3) := aT hE
  clear hE c_s c_x c_r c_t Bs_v2 Bx_v2 Br_v2 Bt_v2
  have z_v3 := E_v3.out.size;have c_s := opn6 Bs_v3;have c_x := opn14 Bx_v3;have c_r := opn6 Br_v3;have c_t := opn14 Bt_v3
  (try unfold sv)
  have J3 := Lib.hid h_J3; clear h_J3
  have G3 := Lib.hid h_G3; clear h_G3
  have hlf3 := J3.out.1
  go_wp2
  refine wp_nm (fun v4 hE => ?_)
  have E_v4 := aE E_v3 hE;have Bs_v4 := bk6 Bs_v3 hE;have Bx_v4 := bk14 Bx_v3 hE;have Br_v4 := bk6 Br_v3 hE;have Bt_v4 := bk14 Bt_v3 hE;have T_v4 : Hid (Touch (S4 w) v3 v4) := aT hE
  clear hE c_s c_x c_r c_t Bs_v3 Bx_v3 Br_v3 Bt_v3
  have z_v4 := E_v4.out.size;have c_s := opn6 Bs_v4;have c_x := opn14 Bx_v4;have c_r := opn6 Br_v4;have c_t := opn14 Bt_v4
  have HV1 := Lib.hid (VLA.keep _ HV.out (fun b hb ha => ⟨T_v1.out.block b hb (fun e => by omega), ha⟩))
  have HV2 := Lib.hid (VLA.keep _ HV1.out (fun b hb ha => ⟨T_v2.out.block b hb (fun e => by omega), ha⟩))
  have HV3 := Lib.hid (VLA.keep _ HV2.out (fun b hb ha => ⟨T_v3.out.block b hb (fun e => by omega), ha⟩))
  have HV4 := Lib.hid (VLA.keep _ HV3.out (fun b hb ha => ⟨T_v4.out.block b hb (fun e => by omega), ha⟩))
  letI : Tch.TS := ⟨fun b => b = w.heap.size + 1⟩
  refine Tch.region_calm [.e 0, .e 1, .h 2 true, .h 3 false] f_mixed (by kernel_rfl) (by kernel_rfl) ?_
  refine Tch.plan_e1 rfl rfl (.agg #[str [73, 78, 83, 69, 82, 84], str tn, .slice none 0 0, .slice none 0 0, slv g xs.length cap, .slice none 0 0, .int .i64 (n : Int), .int .i64 (m : Int), .slice none 0 0, .slice none 0 0, .slice none 0 0, .slice none 0 0, .slice none 0 0, .slice none 0 0]) (fun w' he => ?_) (fun K hK => ?_)
  · have d := tch14 he c_t (fun (e : _ = _) => by omega)
    clear c_t he
    go_simp
  go_simp; refine hK _ ?_; clear hK K
  refine Tch.plan_e1 rfl rfl (.agg #[slv c.g c.all.length c.cap, .int .i64 (b3 : Int), .int .i64 (c.E : Int), .int .i64 ((0 : Nat) : Int), .int .i64 (l3 : Int), .int .i64 (pz3 : Int)]) (fun w' he => ?_) (fun K hK => ?_)
  · have d := tch6 he c_s (fun (e : _ = _) => by omega)
    clear c_s he
    go_simp
  go_simp; refine hK _ ?_; clear hK K
  refine Tch.plan_ct rfl rfl (fun K _ hK => ?_)
  go_wp2
  refine hK _ _ (late14d _ _ _ _ _ _ _ _ _ _ _ _ _ _ _ _) ?_; clear hK K
  refine Tch.plan_c rfl rfl (fun K _ hK => ?_)
  go_wp2
  refine tch_done ?_
  go_wp2
  (try simp only [Exit.inBlock, Exit.then])
  refine bodyPost_ret (v := .tuple #[.agg #[str [73, 78, 83, 69, 82, 84], str tn, .slice none 0 0, .slice none 0 0, slv g xs.length cap, .slice none 0 0, .int .i64 (n : Int), .int .i64 (m : Int), .slice none 0 0, .slice none 0 0, .slice none 0 0, .slice none 0 0, .slice none 0 0, .slice none 0 0], .agg #[slv c.g c.all.length c.cap, .int .i64 (b3 : Int), .int .i64 (c.E : Int), .int .i64 ((0 : Nat) : Int), .int .i64 (l3 : Int), .int .i64 (pz3 : Int)]]) (res_cc rfl rfl (lv_st (xb14 Bx_v4)) rfl (lv_src (xb6 Br_v4))) rfl ?_
  obtain ⟨h2, h3⟩ := run_end (F := insert c.E) (z := { St.none with kind := [73, 78, 83, 69, 82, 84], table := tn, values := xs, period := (n, m) }) (by
    rw [HR.out, HKK.out]
    refine (run_must (g := fun r => bnd (must c.E [70, 82, 79, 77] r) fun _ r => fin (fun p => ({ St.none with kind := [73, 78, 83, 69, 82, 84], table := tn, values := xs, period := p } : St)) (period c.E r))).trans ?_
    refine (run_must (g := fun r => fin (fun p => ({ St.none with kind := [73, 78, 83, 69, 82, 84], table := tn, values := xs, period := p } : St)) (period c.E r))).trans ?_
    exact run_fin G3.out) J3.out
  refine ⟨{ St.none with kind := [73, 78, 83, 69, 82, 84], table := tn, values := xs, period := (n, m) }, { StV.nil with val := slv g xs.length cap }, b3, l3, pz3, rfl, h2, h3, ?_, (xE E_v4)⟩
  exact { StOk.none _ (fun b => w.heap.size ≤ b) [73, 78, 83, 69, 82, 84] tn (n, m) with val := VLA.keep _ HV4.out (fun b hb ha => ⟨Touch.block (S := (S4 w)) xT b hb (fun e => by omega), by omega⟩) }
theorem rupdate_ok (c : Rx) (X : Xs) (a k p : Nat) (w : World) (h : Rk w c) (hx : In c X a k p) :
  Calls Tryz.prog 74 #[sv c a 0 k p] w (StPost c w X (update c.E)) := by
 have H := Lib.hid h
 have HX := Lib.hid hx
 have hsm := h.small
 have hle := hx.1
 clear h hx
 unfold sv
 have E_w : Hid (Ext w w) := Lib.hid (Ext.refl w)
 go_enter Tryz.func74, Tryz.ntmps74
 go_wp2_with fail
 refine (rname_ok c X a 0 k p _ (H.out.ext (xE E_w)) HX.out).mono ?_
 rintro e w2 ⟨tn, a1, k1, p1, rfl, h_I1, h_G1, hE⟩
 have n_ := nst4 w
 have E_w2 := aE E_w hE;have Bs_w2 := nk6 (w.heap.size) hE;have Bx_w2 := nk14 (w.heap.size + 1) hE;have Br_w2 := nk6 (w.heap.size + 1 + 1) hE;have Bt_w2 := nk14 (w.heap.size + 1 + 1 + 1) hE
 clear hE
 have z_w2 := E_w2.out.size;have c_s := opn6 Bs_w2;have c_x := opn14 Bx_w2;have c_r := opn6 Br_w2;have c_t := opn14 Bt_w2
 (try unfold sv)
 have I1 := Lib.hid h_I1; clear h_I1
 have G1 := Lib.hid h_G1; clear h_G1
 have hle1 := I1.out.1
 go_wp2_with fail
 refine (rmust_ok c _ a1 0 k1 p1 [83, 69, 84] _ (H.out.ext (xE E_w2)) I1.out).mono ?_
 rintro e w3 ⟨a4, k4, p4, rfl, h_I4, hE⟩
 have E_w3 := aE E_w2 hE;have Bs_w3 := bk6 Bs_w2 hE;have Bx_w3 := bk14 Bx_w2 hE;have Br_w3 := bk6 Br_w2 hE;have Bt_w3 := bk14 Bt_w2 hE
 clear hE c_s c_x c_r c_t Bs_w2 Bx_w2 Br_w2 Bt_w2
 have z_w3 := E_w3.out.size;have c_s := opn6 Bs_w3;have c_x := opn14 Bx_w3;have c_r := opn6 Br_w3;have c_t := opn14 Bt_w3
 (try unfold sv)
 have I4 := Lib.hid h_I4; clear h_I4
 have hle4 := I4.out.1
 obtain ⟨kk, hkk⟩ : ∃ kk : List (Str × Ex) → List Tok → Res St, kk = fun l r => bnd (portion c.E r) fun p r => fin (fun q => ({ St.none with kind := [85, 80, 68, 65, 84, 69], table := tn, sets := l, period := p, cond := q } : St)) (whereP c.E r) := ⟨_, rfl⟩
 have HKK := Lib.hid hkk
 have HM0 : Hid (MoreR (X.run (update c.E)) (setP c.E) kk true (mustX c [83, 69, 84] (X.then (name c.E))) []) := Lib.hid (MoreR.start (by
  rw [HKK.out]
  refine (run_bnd G1.out).trans ?_
  exact run_must (g := fun r => bnd (sep (setP c.E) r) fun l r => bnd (portion c.E r) fun p r => fin (fun q => ({ St.none with kind := [85, 80, 68, 65, 84, 69], table := tn, sets := l, period := p, cond := q } : St)) (whereP c.E r))))
 clear hkk
 have hI4 := I4.out
 have HM1 := HM0
 generalize mustX c [83, 69, 84] (X.then (name c.E)) = Y0 at hI4 HM1
 have HI4 := Lib.hid hI4
 clear hI4 HM0 I4 I1 G1
 go_upto_block 0 with fail
 go_cut [] from 7 to 62 (fun wc => ∃ (Y : Xs) (ac kc pc : Nat) (xs : List (Str × Ex)) (g : Option Nat) (cap : Nat), SI w c wc Y ac kc pc ((fun v => #[str [85, 80, 68, 65, 84, 69], str tn, .slice none 0 0, .slice none 0 0, .slice none 0 0, v, .int .i64 (0 : Int), .int .i64 (0 : Int), .slice none 0 0, .slice none 0 0, .slice none 0 0, .slice none 0 0, .slice none 0 0, .slice none 0 0]) (slv g xs.length cap)) ∧ VLA SetK 80 wc (fun b => w.heap.size + 1 + 1 + 1 < b) (slv g xs.length cap) xs ∧ X.run (update c.E) = Y.run (kk xs))
 case first =>
  go_wp2
  refine wp_nm (fun w6 hE => ?_)
  have E_w6 := aE E_w3 hE;have Bs_w6 := bk6 Bs_w3 hE;have Bx_w6 := bk14 Bx_w3 hE;have Br_w6 := bk6 Br_w3 hE;have Bt_w6 := bk14 Bt_w3 hE
  clear hE c_s c_x c_r c_t Bs_w3 Bx_w3 Br_w3 Bt_w3
  have z_w6 := E_w6.out.size;have c_s := opn6 Bs_w6;have c_x := opn14 Bx_w6;have c_r := opn6 Br_w6;have c_t := opn14 Bt_w6
  have HI0 : Hid (MoL SetK 80 (fun b => w.heap.size + 1 + 1 + 1 < b) w c (X.run (update c.E)) (setP c.E) kk (fun v => #[str [85, 80, 68, 65, 84, 69], str tn, .slice none 0 0, .slice none 0 0, .slice none 0 0, v, .int .i64 (0 : Int), .int .i64 (0 : Int), .slice none 0 0, .slice none 0 0, .slice none 0 0, .slice none 0 0, .slice none 0 0, .slice none 0 0]) (muM true Y0) (.bool true) w6 true Y0 a4 k4 p4 [] none 0 []) :=
    Lib.hid ⟨rfl, rfl, ⟨E_w6.out, Bs_w6.out, Bx_w6.out, Br_w6.out, Bt_w6.out, HI4.out⟩, Sl.nil _ _ _, (fun b hb => by cases hb), rfl, by have := muM_le (m := true) HI4.out; simp; omega, HM1.out⟩
  go_loopg [5] (muM true Y0) (fun gk v5 wr => ∃ (more : Bool) (Y : Xs) (ac kc pc : Nat) (xs : List (Str × Ex)) (g : Option Nat) (cap : Nat) (fl : List Value), MoL SetK 80 (fun b => w.heap.size + 1 + 1 + 1 < b) w c (X.run (update c.E)) (setP c.E) kk (fun v => #[str [85, 80, 68, 65, 84, 69], str tn, .slice none 0 0, .slice none 0 0, .slice none 0 0, v, .int .i64 (0 : Int), .int .i64 (0 : Int), .slice none 0 0, .slice none 0 0, .slice none 0 0, .slice none 0 0, .slice none 0 0, .slice none 0 0]) gk v5 wr more Y ac kc pc xs g cap fl)
  case atStart => exact ⟨true, Y0, a4, k4, p4, [], none, 0, [], HI0.out⟩
  case round =>
    clear HI0
    obtain ⟨more, Y, ac, kc, pc, xs, g, cap, fl, hI⟩ := hrel
    obtain rfl := hI.hv
    have HI := Lib.hid hI
    have HSI := Lib.hid hI.si
    clear hI
    have E_WW := Lib.hid HSI.out.ext
    have Bs_WW := Lib.hid HSI.out.bs
    have Bx_WW := Lib.hid HSI.out.bx
    have Br_WW := Lib.hid HSI.out.br
    have Bt_WW := Lib.hid HSI.out.bt
    have z_WW : w.heap.size ≤ wr.heap.size := HSI.out.ext.size
    have hler : ac ≤ c.all.length := HSI.out.inn.1
    clear c_s c_x c_r c_t
    have c_s := opn6 Bs_WW;have c_x := opn14 Bx_WW;have c_r := opn6 Br_WW;have c_t := opn14 Bt_WW
    have hwr : w.heap.size + 1 + 1 + 1 < wr.heap.size := by omega
    cases more with
    | false =>
      go_wp2
      go_meet
      case rel => exact ⟨Y, ac, kc, pc, xs, g, cap, HI.out.si, ⟨g, cap, fl, rfl, HI.out.sl, HI.out.own, HI.out.ls⟩, HI.out.mr.exit (.inl rfl)⟩
    | true =>
      obtain ⟨Z, hZ⟩ : ∃ Z, Y = Z := ⟨_, rfl⟩
      have HZ := Lib.hid hZ
      clear hZ
      rcases Z with ⟨ke, pe⟩ | ts
      · have hk3 : ((kc : Int) == 0) = false := by
         have h1 := HSI.out.inn.2
         rw [HZ.out] at h1
         have := h1.1; have := h1.2.2
         simp only [beq_eq_false_iff_ne, ne_eq]; omega
        go_wp2
        go_meet
        case rel => exact ⟨Y, ac, kc, pc, xs, g, cap, HI.out.si, ⟨g, cap, fl, rfl, HI.out.sl, HI.out.own, HI.out.ls⟩, HI.out.mr.exit (.inr ⟨_, HZ.out⟩)⟩
      · have hk3 : ((kc : Int) == 0) = true := by
         have h1 := HSI.out.inn.2
         rw [HZ.out] at h1
         have := h1.1
         simp only [beq_iff_eq]; omega
        have hlx : xs.length ≤ 5000 := by have := HI.out.len; omega
        go_wp2_with fail
        refine (rname_ok c Y ac 0 kc pc _ (H.out.ext (xE E_WW)) HSI.out.inn).mono ?_
        rintro e y1 ⟨cn, a5, k5, p5, rfl, h_I5, h_G5, hE⟩
        have n_s_e := ne2 (show w.heap.size ≠ wr.heap.size by omega);have n_x_e := ne2 (show w.heap.size + 1 ≠ wr.heap.size by omega);have n_r_e := ne2 (show w.heap.size + 1 + 1 ≠ wr.heap.size by omega);have n_t_e := ne2 (show w.heap.size + 1 + 1 + 1 ≠ wr.heap.size by omega)
        have E_y1 := aE E_WW hE;have Bs_y1 := bk6 Bs_WW hE;have Bx_y1 := bk14 Bx_WW hE;have Br_y1 := bk6 Br_WW hE;have Bt_y1 := bk14 Bt_WW hE;have Be_y1 := nk6 (wr.heap.size) hE;have T_y1 : Hid (Touch (S4 w) wr y1) := aT hE
        clear hE c_s c_x c_r c_t Bs_WW Bx_WW Br_WW Bt_WW
        have z_y1 := E_y1.out.size;have c_s := opn6 Bs_y1;have c_x := opn14 Bx_y1;have c_r := opn6 Br_y1;have c_t := opn14 Bt_y1;have c_e := opn6 Be_y1
        (try unfold sv)
        have I5 := Lib.hid h_I5; clear h_I5
        have G5 := Lib.hid h_G5; clear h_G5
        have hle5 := I5.out.1
        go_wp2_with fail
        refine (rmust_ok c _ a5 0 k5 p5 [61] _ (H.out.ext (xE E_y1)) I5.out).mono ?_
        rintro e y2 ⟨a6, k6, p6, rfl, h_I6, hE⟩
        have E_y2 := aE E_y1 hE;have Bs_y2 := bk6 Bs_y1 hE;have Bx_y2 := bk14 Bx_y1 hE;have Br_y2 := bk6 Br_y1 hE;have Bt_y2 := bk14 Bt_y1 hE;have Be_y2 := bk6 Be_y1 hE;have T_y2 : Hid (Touch (fun b => b = w.heap.size ∨ b = w.heap.size + 1 ∨ b = w.heap.size + 1 + 1 ∨ b = w.heap.size + 1 + 1 + 1 ∨ b = wr.heap.size) y1 y2) := aT hE
        clear hE c_s c_x c_r c_t c_e Bs_y1 Bx_y1 Br_y1 Bt_y1 Be_y1
        have z_y2 := E_y2.out.size;have c_s := opn6 Bs_y2;have c_x := opn14 Bx_y2;have c_r := opn6 Br_y2;have c_t := opn14 Bt_y2;have c_e := opn6 Be_y2
        (try unfold sv)
        have I6 := Lib.hid h_I6; clear h_I6
        have hle6 := I6.out.1
        have hy2 : wr.heap.size < y2.heap.size := by omega
        go_wp2_with fail
        refine (rexpr_ok c _ a6 k6 p6 _ (H.out.ext (xE E_y2)) I6.out).mono ?_
        rintro e w4 ⟨op, n, t, o, args, ga, ca, a7, k7, p7, rfl, h_I7, h_G7, h_C5, hE⟩
        have E_w4 := aE E_y2 hE;have Bs_w4 := bk6 Bs_y2 hE;have Bx_w4 := bk14 Bx_y2 hE;have Br_w4 := bk6 Br_y2 hE;have Bt_w4 := bk14 Bt_y2 hE;have Be_w4 := bk6 Be_y2 hE;have T_w4 : Hid (Touch (fun b => b = w.heap.size ∨ b = w.heap.size + 1 ∨ b = w.heap.size + 1 + 1 ∨ b = w.heap.size + 1 + 1 + 1 ∨ b = wr.heap.size) y2 w4) := aT hE
        clear hE c_s c_x c_r c_t c_e Bs_y2 Bx_y2 Br_y2 Bt_y2 Be_y2
        have z_w4 := E_w4.out.size;have c_s := opn6 Bs_w4;have c_x := opn14 Bx_w4;have c_r := opn6 Br_w4;have c_t := opn14 Bt_w4;have c_e := opn6 Be_w4
        (try unfold sv)
        have I7 := Lib.hid h_I7; clear h_I7
        have G7 := Lib.hid h_G7; clear h_G7
        have C5 := Lib.hid h_C5; clear h_C5
        have hle7 := I7.out.1
        have hIG := run_end (F := setP c.E) (z := (cn, .mk op n t o args)) (by
         refine (run_bnd G5.out).trans ?_
         refine (run_must (g := fun r => fin (fun e => (cn, e)) (expr c.E r))).trans ?_
         exact run_fin G7.out) I7.out
        have HIS := Lib.hid hIG.1
        have HGS := Lib.hid hIG.2
        clear hIG
        have HGW : Hid (∀ b, g = some b → b < wr.heap.size) := Lib.hid fun b hb => by
         have h1 := HI.out.sl
         rw [hb] at h1
         exact h1.block_lt
        have hTT : Touch (fun b => b = w.heap.size ∨ b = w.heap.size + 1 ∨ b = w.heap.size + 1 + 1 ∨ b = w.heap.size + 1 + 1 + 1) wr w4 :=
         (T_y1.out.trans' T_y2.out (fun i hi h => by omega)).trans' T_w4.out (fun i hi h => by omega)
        have HSL4 := Lib.hid (HI.out.sl.touch hTT (fun b hb e => by have := HI.out.own b hb; omega))
        have HLS4 := Lib.hid (LsC.keep (A' := fun b => (w.heap.size + 1 + 1 + 1 < b ∧ g ≠ some b) ∧ b ≠ wr.heap.size) SetK (fun b hb ha => ⟨hTT.block b hb (fun e => by have := ha.1; omega), ha, by omega⟩) _ _ HI.out.ls)
        clear hTT
        have hC4 : SetK.C w4 (fun b => (w.heap.size + 1 + 1 + 1 < b ∧ g ≠ some b) ∧ b ≠ wr.heap.size) (str cn :: exCells op n t o (slv ga args.length ca)) (cn, .mk op n t o args) := ⟨_, rfl, ExC.weak C5.out (fun b hb ha => by simp [size_set] at ha; exact ⟨⟨by omega, fun e => by have := HGW.out b e; omega⟩, by omega⟩)⟩
        have C4 := Lib.hid hC4
        clear hC4
        go_wp2_with (at_builtin; refine (fun (h : True → _) => h trivial) ?_)
        intro _
        refine list_nm (fun w7 hE => ?_)
        have n_s_o := ne2 (show w.heap.size ≠ w4.heap.size by omega);have n_x_o := ne2 (show w.heap.size + 1 ≠ w4.heap.size by omega);have n_r_o := ne2 (show w.heap.size + 1 + 1 ≠ w4.heap.size by omega);have n_t_o := ne2 (show w.heap.size + 1 + 1 + 1 ≠ w4.heap.size by omega);have n_e_o := ne2 (show wr.heap.size ≠ w4.heap.size by omega)
        have E_w7 := aE E_w4 hE;have Bs_w7 := bk6 Bs_w4 hE;have Bx_w7 := bk14 Bx_w4 hE;have Br_w7 := bk6 Br_w4 hE;have Bt_w7 := bk14 Bt_w4 hE;have Be_w7 := bk6 Be_w4 hE;have Bo_w7 := nk6 (w4.heap.size) hE;have T_w7 : Hid (Touch (fun b => b = w.heap.size ∨ b = w.heap.size + 1 ∨ b = w.heap.size + 1 + 1 ∨ b = w.heap.size + 1 + 1 + 1 ∨ b = wr.heap.size) w4 w7) := aT hE
        clear hE c_s c_x c_r c_t c_e Bs_w4 Bx_w4 Br_w4 Bt_w4 Be_w4
        have z_w7 := E_w7.out.size;have c_s := opn6 Bs_w7;have c_x := opn14 Bx_w7;have c_r := opn6 Br_w7;have c_t := opn14 Bt_w7;have c_e := opn6 Be_w7;have c_o := opn6 Bo_w7
        have HSL7 := Lib.hid (HSL4.out.touch T_w7.out (fun b hb e => by have := HI.out.own b hb; have := HGW.out b hb; omega))
        have HLS7 := Lib.hid (LsC.keep (A' := fun b => w.heap.size + 1 + 1 + 1 < b ∧ g ≠ some b) SetK (fun b hb ha => ⟨T_w7.out.block b hb (fun e => by have := ha.1.1; have := ha.2; omega), ha.1⟩) _ _ HLS4.out)
        have C7 := Lib.hid (SetK.keep (A := fun b => (w.heap.size + 1 + 1 + 1 < b ∧ g ≠ some b) ∧ b ≠ wr.heap.size) (A' := fun b => w.heap.size + 1 + 1 + 1 < b ∧ g ≠ some b) (fun b hb ha => ⟨T_w7.out.block b hb (fun e => by have := ha.1.1; have := ha.2; omega), ha.1⟩) _ _ C4.out)
        refine app_lit ei_set rfl (.tmp 38) (.tmp 40) rfl (g := g) (n := xs.length) (cap := cap) (b := w4.heap.size) (by rfl) HSL7.out (by rfl) rfl (news := str cn :: exCells op n t o (slv ga args.length ca)) Bo_w7.out (SetK.one C7.out) (by omega) (by omega) ?_
        intro g6 cap6 w8 hS6 hT6 hat6
        have HSL8 := Lib.hid hS6
        have E_w8 := Lib.hid (Touch.fresh' (a := w) E_w7.out hT6 (fun i e => by have := HI.out.own i e; omega))
        have Bs_w8 := Lib.hid (hT6.old Bs_w7.out (fun e => by have := HI.out.own _ e; omega))
        have Bx_w8 := Lib.hid (hT6.old Bx_w7.out (fun e => by have := HI.out.own _ e; omega))
        have Br_w8 := Lib.hid (hT6.old Br_w7.out (fun e => by have := HI.out.own _ e; omega))
        have Bt_w8 := Lib.hid (hT6.old Bt_w7.out (fun e => by have := HI.out.own _ e; omega))
        obtain ⟨q1, q2⟩ := ls_put (K := SetK) (A0 := fun b => w.heap.size + 1 + 1 + 1 < b) (x := (cn, .mk op n t o args)) (cs := str cn :: exCells op n t o (slv ga args.length ca)) HLS7.out C7.out hT6 hat6 HI.out.own (by omega)
        have Q1 := Lib.hid q1
        have Q2 := Lib.hid q2
        clear hS6 hT6 hat6 q1 q2
        have z_w8 : w.heap.size ≤ w8.heap.size := E_w8.out.size
        clear c_s c_x c_r c_t c_e c_o
        clear n_s_o n_x_o n_r_o n_t_o n_e_o
        clear n_s_e n_x_e n_r_e n_t_e
        have c_s := opn6 Bs_w8;have c_x := opn14 Bx_w8;have c_r := opn6 Br_w8;have c_t := opn14 Bt_w8
        go_wp2_with fail
        refine (rmay_ok c _ a7 0 k7 p7 [44] _ (H.out.ext (xE E_w8)) HIS.out).mono ?_
        rintro e w9 ⟨a8, rfl, h_I8, hE⟩
        have E_w9 := aE E_w8 hE;have Bs_w9 := bk6 Bs_w8 hE;have Bx_w9 := bk14 Bx_w8 hE;have Br_w9 := bk6 Br_w8 hE;have Bt_w9 := bk14 Bt_w8 hE;have T_w9 : Hid (Touch (S4 w) w8 w9) := aT hE
        clear hE c_s c_x c_r c_t Bs_w8 Bx_w8 Br_w8 Bt_w8
        have z_w9 := E_w9.out.size;have c_s := opn6 Bs_w9;have c_x := opn14 Bx_w9;have c_r := opn6 Br_w9;have c_t := opn14 Bt_w9
        (try unfold sv)
        have I8 := Lib.hid h_I8; clear h_I8
        have hle8 := I8.out.1
        have HSL9 := Lib.hid (HSL8.out.touch T_w9.out (fun b hb e => by cases hb; have := Q2.out; omega))
        have HLS9 := Lib.hid (LsC.keep SetK (fun b hb ha => ⟨T_w9.out.block b hb (fun e => by have := ha.1; omega), ha⟩) _ _ Q1.out)
        have HST : Hid (muM (isX [44] (Y.then (setP c.E))) (mayX [44] (Y.then (setP c.E))) < muM true Y) := Lib.hid (by rw [HZ.out]; exact muM_step (Suf.setP c.E))
        go_wp2
        go_roundg (muM (isX [44] (Y.then (setP c.E))) (mayX [44] (Y.then (setP c.E))))
        case measure => rw [HI.out.hk]; exact HST.out
        case rel =>
         have hlen : (xs ++ [(cn, Ex.mk op n t o args)]).length = xs.length + 1 := by simp
         refine ⟨isX [44] (Y.then (setP c.E)), mayX [44] (Y.then (setP c.E)), a8, k7, p7, xs ++ [(cn, Ex.mk op n t o args)], some g6, cap6, fl ++ (str cn :: exCells op n t o (slv ga args.length ca)), ⟨rfl, rfl, ⟨(xE E_w9), (xb6 Bs_w9), (xb14 Bx_w9), (xb6 Br_w9), ?_, I8.out⟩, ?_, ?_, ?_, ?_, ?_⟩⟩
         · rw [hlen]
           show _ = some (Obj.cells #[str [85, 80, 68, 65, 84, 69], str tn, .slice none 0 0, .slice none 0 0, .slice none 0 0, slv (some g6) (xs.length + 1) cap6, .int .i64 (0 : Int), .int .i64 (0 : Int), .slice none 0 0, .slice none 0 0, .slice none 0 0, .slice none 0 0, .slice none 0 0, .slice none 0 0] 33 (0, 0))
           exact (xb14 Bt_w9)
         · rw [hlen]; exact HSL9.out.touch (S := (S4 w)) xT (fun b hb e => by cases hb; have := Q2.out; omega)
         · intro b hb; cases hb; exact Q2.out
         · exact LsC.keep SetK (fun b hb ha => ⟨Touch.block (S := (S4 w)) xT b hb (fun e => by have := ha.1; omega), ha⟩) _ _ HLS9.out
         · have h1 := HI.out.len; have h2 := HST.out; rw [hlen]; omega
         · exact HI.out.mr.step HGS.out (Suf.setP c.E)
 case rest =>
  obtain ⟨Y, ac, kc, pc, xs, g, cap, hsi, hv, hr⟩ := hcut
  have HSI := Lib.hid hsi
  have HV := Lib.hid hv
  have HR := Lib.hid hr
  clear hsi hv hr
  have E_WW := Lib.hid HSI.out.ext
  have Bs_WW := Lib.hid HSI.out.bs
  have Bx_WW := Lib.hid HSI.out.bx
  have Br_WW := Lib.hid HSI.out.br
  have Bt_WW := Lib.hid HSI.out.bt
  have z_WW : w.heap.size ≤ wc.heap.size := HSI.out.ext.size
  have hler : ac ≤ c.all.length := HSI.out.inn.1
  clear c_s c_x c_r c_t
  have c_s := opn6 Bs_WW;have c_x := opn14 Bx_WW;have c_r := opn6 Br_WW;have c_t := opn14 Bt_WW
  go_wp2_with fail
  refine (rportion_ok c Y ac 0 kc pc _ (H.out.ext (xE E_WW)) HSI.out.inn).mono ?_
  rintro e v1 ⟨n, m, b1, l1, pz1, rfl, h_J1, h_G1, hE⟩
  have E_v1 := aE E_WW hE;have Bs_v1 := bk6 Bs_WW hE;have Bx_v1 := bk14 Bx_WW hE;have Br_v1 := bk6 Br_WW hE;have Bt_v1 := bk14 Bt_WW hE;have T_v1 : Hid (Touch (S4 w) wc v1) := aT hE
  clear hE c_s c_x c_r c_t Bs_WW Bx_WW Br_WW Bt_WW
  have z_v1 := E_v1.out.size;have c_s := opn6 Bs_v1;have c_x := opn14 Bx_v1;have c_r := opn6 Br_v1;have c_t := opn14 Bt_v1
  (try unfold sv)
  have J1 := Lib.hid h_J1; clear h_J1
  have G1 := Lib.hid h_G1; clear h_G1
  have hlf1 := J1.out.1
  have hv1 : w.heap.size + 1 + 1 + 1 < v1.heap.size := by omega
  go_wp2_with fail
  refine (rwhere_ok c _ b1 l1 pz1 _ (H.out.ext (xE E_v1)) J1.out).mono ?_
  rintro e v2 ⟨cl, gc, cc, b3, l3, pz3, rfl, h_J3, h_G3, h_V3, hE⟩
  have E_v2 := aE E_v1 hE;have Bs_v2 := bk6 Bs_v1 hE;have Bx_v2 := bk14 Bx_v1 hE;have Br_v2 := bk6 Br_v1 hE;have Bt_v2 := bk14 Bt_v1 hE;have T_v2 : Hid (Touch (S4 w) v1 v2) := aT hE
  clear hE c_s c_x c_r c_t Bs_v1 Bx_v1 Br_v1 Bt_v1
  have z_v2 := E_v2.out.size;have c_s := opn6 Bs_v2;have c_x := opn14 Bx_v2;have c_r := opn6 Br_v2;have c_t := opn14 Bt_v2
  (try unfold sv)
  have J3 := Lib.hid h_J3; clear h_J3
  have G3 := Lib.hid h_G3; clear h_G3
  have V3 := Lib.hid h_V3; clear h_V3
  have hlf3 := J3.out.1
  go_wp2
  refine wp_nm (fun v4 hE => ?_)
  have E_v4 := aE E_v2 hE;have Bs_v4 := bk6 Bs_v2 hE;have Bx_v4 := bk14 Bx_v2 hE;have Br_v4 := bk6 Br_v2 hE;have Bt_v4 := bk14 Bt_v2 hE;have T_v4 : Hid (Touch (S4 w) v2 v4) := aT hE
  clear hE c_s c_x c_r c_t Bs_v2 Bx_v2 Br_v2 Bt_v2
  have z_v4 := E_v4.out.size;have c_s := opn6 Bs_v4;have c_x := opn14 Bx_v4;have c_r := opn6 Br_v4;have c_t := opn14 Bt_v4
  have HV1 := Lib.hid (VLA.keep _ HV.out (fun b hb ha => ⟨T_v1.out.block b hb (fun e => by omega), ha⟩))
  have HV2 := Lib.hid (VLA.keep _ HV1.out (fun b hb ha => ⟨T_v2.out.block b hb (fun e => by omega), ha⟩))
  have HV4 := Lib.hid (VLA.keep _ HV2.out (fun b hb ha => ⟨T_v4.out.block b hb (fun e => by omega), ha⟩))
  have HW2 := Lib.hid (VLA.of (A := fun b => w.heap.size + 1 + 1 + 1 < b) _ V3.out (fun b hb ha => by simp [size_set] at ha; omega))
  have HW4 := Lib.hid (VLA.keep _ HW2.out (fun b hb ha => ⟨T_v4.out.block b hb (fun e => by omega), ha⟩))
  letI : Tch.TS := ⟨fun b => b = w.heap.size + 1⟩
  refine Tch.region_calm [.e 0, .e 1, .h 2 true, .h 3 false] f_mixed (by kernel_rfl) (by kernel_rfl) ?_
  refine Tch.plan_e1 rfl rfl (.agg #[str [85, 80, 68, 65, 84, 69], str tn, .slice none 0 0, .slice none 0 0, .slice none 0 0, slv g xs.length cap, .int .i64 (n : Int), .int .i64 (m : Int), slv gc cl.length cc, .slice none 0 0, .slice none 0 0, .slice none 0 0, .slice none 0 0, .slice none 0 0]) (fun w' he => ?_) (fun K hK => ?_)
  · have d := tch14 he c_t (fun (e : _ = _) => by omega)
    clear c_t he
    go_simp
  go_simp; refine hK _ ?_; clear hK K
  refine Tch.plan_e1 rfl rfl (.agg #[slv c.g c.all.length c.cap, .int .i64 (b3 : Int), .int .i64 (c.E : Int), .int .i64 ((0 : Nat) : Int), .int .i64 (l3 : Int), .int .i64 (pz3 : Int)]) (fun w' he => ?_) (fun K hK => ?_)
  · have d := tch6 he c_s (fun (e : _ = _) => by omega)
    clear c_s he
    go_simp
  go_simp; refine hK _ ?_; clear hK K
  refine Tch.plan_ct rfl rfl (fun K _ hK => ?_)
  go_wp2
  refine hK _ _ (late14d _ _ _ _ _ _ _ _ _ _ _ _ _ _ _ _) ?_; clear hK K
  refine Tch.plan_c rfl rfl (fun K _ hK => ?_)
  go_wp2
  refine tch_done ?_
  go_wp2
  (try simp only [Exit.inBlock, Exit.then])
  refine bodyPost_ret (v := .tuple #[.agg #[str [85, 80, 68, 65, 84, 69], str tn, .slice none 0 0, .slice none 0 0, .slice none 0 0, slv g xs.length cap, .int .i64 (n : Int), .int .i64 (m : Int), slv gc cl.length cc, .slice none 0 0, .slice none 0 0, .slice none 0 0, .slice none 0 0, .slice none 0 0], .agg #[slv c.g c.all.length c.cap, .int .i64 (b3 : Int), .int .i64 (c.E : Int), .int .i64 ((0 : Nat) : Int), .int .i64 (l3 : Int), .int .i64 (pz3 : Int)]]) (res_cc rfl rfl (lv_st (xb14 Bx_v4)) rfl (lv_src (xb6 Br_v4))) rfl ?_
  obtain ⟨h2, h3⟩ := run_end (F := update c.E) (z := { St.none with kind := [85, 80, 68, 65, 84, 69], table := tn, sets := xs, period := (n, m), cond := cl }) (by
    rw [HR.out, HKK.out]
    refine (run_bnd (g := fun p r => fin (fun q => ({ St.none with kind := [85, 80, 68, 65, 84, 69], table := tn, sets := xs, period := p, cond := q } : St)) (whereP c.E r)) G1.out).trans ?_
    exact run_fin G3.out) J3.out
  refine ⟨{ St.none with kind := [85, 80, 68, 65, 84, 69], table := tn, sets := xs, period := (n, m), cond := cl }, { StV.nil with set := slv g xs.length cap, cond := slv gc cl.length cc }, b3, l3, pz3, rfl, h2, h3, ?_, (xE E_v4)⟩
  exact { StOk.none _ (fun b => w.heap.size ≤ b) [85, 80, 68, 65, 84, 69] tn (n, m) with set := VLA.keep _ HV4.out (fun b hb ha => ⟨Touch.block (S := (S4 w)) xT b hb (fun e => by omega), by omega⟩), cond := VLA.keep _ HW4.out (fun b hb ha => ⟨Touch.block (S := (S4 w)) xT b hb (fun e => by omega), by omega⟩) }
theorem rcreate_ok (c : Rx) (X : Xs) (a k p : Nat) (w : World) (h : Rk w c) (hx : In c X a k p) :
  Calls Tryz.prog 70 #[sv c a 0 k p] w (StPost c w X (create c.E)) := by
 have H := Lib.hid h
 have HX := Lib.hid hx
 have hsm := h.small
 have hle := hx.1
 clear h hx
 unfold sv
 have E_w : Hid (Ext w w) := Lib.hid (Ext.refl w)
 go_enter Tryz.func70, Tryz.ntmps70
 go_wp2_with fail
 refine (rname_ok c X a 0 k p _ (H.out.ext (xE E_w)) HX.out).mono ?_
 rintro e w2 ⟨tn, a1, k1, p1, rfl, h_I1, h_G1, hE⟩
 have n_ := nst4 w
 have E_w2 := aE E_w hE;have Bs_w2 := nk6 (w.heap.size) hE;have Bx_w2 := nk14 (w.heap.size + 1) hE;have Br_w2 := nk6 (w.heap.size + 1 + 1) hE;have Bt_w2 := nk14 (w.heap.size + 1 + 1 + 1) hE
 clear hE
 have z_w2 := E_w2.out.size;have c_s := opn6 Bs_w2;have c_x := opn14 Bx_w2;have c_r := opn6 Br_w2;have c_t := opn14 Bt_w2
 (try unfold sv)
 have I1 := Lib.hid h_I1; clear h_I1
 have G1 := Lib.hid h_G1; clear h_G1
 have hle1 := I1.out.1
 go_wp2_with fail
 refine (rmust_ok c _ a1 0 k1 p1 [40] _ (H.out.ext (xE E_w2)) I1.out).mono ?_
 rintro e w3 ⟨a4, k4, p4, rfl, h_I4, hE⟩
 have E_w3 := aE E_w2 hE;have Bs_w3 := bk6 Bs_w2 hE;have Bx_w3 := bk14 Bx_w2 hE;have Br_w3 := bk6 Br_w2 hE;have Bt_w3 := bk14 Bt_w2 hE
 clear hE c_s c_x c_r c_t Bs_w2 Bx_w2 Br_w2 Bt_w2
 have z_w3 := E_w3.out.size;have c_s := opn6 Bs_w3;have c_x := opn14 Bx_w3;have c_r := opn6 Br_w3;have c_t := opn14 Bt_w3
 (try unfold sv)
 have I4 := Lib.hid h_I4; clear h_I4
 have hle4 := I4.out.1
 obtain ⟨kk, hkk⟩ : ∃ kk : List (Str × Nat) → List Tok → Res St, kk = fun l r => bnd (must c.E [41] r) fun _ r => fin (fun k => ({ St.none with kind := [67, 82, 69, 65, 84, 69], table := tn, columns := l, keys := k } : St)) (keysP c.E r) := ⟨_, rfl⟩
 have HKK := Lib.hid hkk
 have HM0 : Hid (MoreR (X.run (create c.E)) (column c.E) kk true (mustX c [40] (X.then (name c.E))) []) := Lib.hid (MoreR.start (by
  rw [HKK.out]
  refine (run_bnd G1.out).trans ?_
  exact run_must (g := fun r => bnd (sep (column c.E) r) fun l r => bnd (must c.E [41] r) fun _ r => fin (fun k => ({ St.none with kind := [67, 82, 69, 65, 84, 69], table := tn, columns := l, keys := k } : St)) (keysP c.E r))))
 clear hkk
 have hI4 := I4.out
 have HM1 := HM0
 generalize mustX c [40] (X.then (name c.E)) = Y0 at hI4 HM1
 have HI4 := Lib.hid hI4
 clear hI4 HM0 I4 I1 G1
 go_upto_block 0 with fail
 go_cut [] from 9 to 73 (fun wc => ∃ (Y : Xs) (ac kc pc : Nat) (xs : List (Str × Nat)) (g : Option Nat) (cap : Nat), SI w c wc Y ac kc pc ((fun v => #[str [67, 82, 69, 65, 84, 69], str tn, v, .slice none 0 0, .slice none 0 0, .slice none 0 0, .int .i64 (0 : Int), .int .i64 (0 : Int), .slice none 0 0, .slice none 0 0, .slice none 0 0, .slice none 0 0, .slice none 0 0, .slice none 0 0]) (slv g xs.length cap)) ∧ VLA ColK 78 wc (fun b => w.heap.size + 1 + 1 + 1 < b) (slv g xs.length cap) xs ∧ X.run (create c.E) = Y.run (kk xs))
 case first =>
  go_wp2
  refine wp_nm (fun w6 hE => ?_)
  have E_w6 := aE E_w3 hE;have Bs_w6 := bk6 Bs_w3 hE;have Bx_w6 := bk14 Bx_w3 hE;have Br_w6 := bk6 Br_w3 hE;have Bt_w6 := bk14 Bt_w3 hE
  clear hE c_s c_x c_r c_t Bs_w3 Bx_w3 Br_w3 Bt_w3
  have z_w6 := E_w6.out.size;have c_s := opn6 Bs_w6;have c_x := opn14 Bx_w6;have c_r := opn6 Br_w6;have c_t := opn14 Bt_w6
  have HI0 : Hid (MoL ColK 78 (fun b => w.heap.size + 1 + 1 + 1 < b) w c (X.run (create c.E)) (column c.E) kk (fun v => #[str [67, 82, 69, 65, 84, 69], str tn, v, .slice none 0 0, .slice none 0 0, .slice none 0 0, .int .i64 (0 : Int), .int .i64 (0 : Int), .slice none 0 0, .slice none 0 0, .slice none 0 0, .slice none 0 0, .slice none 0 0, .slice none 0 0]) (muM true Y0) (.bool true) w6 true Y0 a4 k4 p4 [] none 0 []) :=
    Lib.hid ⟨rfl, rfl, ⟨E_w6.out, Bs_w6.out, Bx_w6.out, Br_w6.out, Bt_w6.out, HI4.out⟩, Sl.nil _ _ _, (fun b hb => by cases hb), rfl, by have := muM_le (m := true) HI4.out; simp; omega, HM1.out⟩
  go_loopg [5] (muM true Y0) (fun gk v5 wr => ∃ (more : Bool) (Y : Xs) (ac kc pc : Nat) (xs : List (Str × Nat)) (g : Option Nat) (cap : Nat) (fl : List Value), MoL ColK 78 (fun b => w.heap.size + 1 + 1 + 1 < b) w c (X.run (create c.E)) (column c.E) kk (fun v => #[str [67, 82, 69, 65, 84, 69], str tn, v, .slice none 0 0, .slice none 0 0, .slice none 0 0, .int .i64 (0 : Int), .int .i64 (0 : Int), .slice none 0 0, .slice none 0 0, .slice none 0 0, .slice none 0 0, .slice none 0 0, .slice none 0 0]) gk v5 wr more Y ac kc pc xs g cap fl)
  case atStart => exact ⟨true, Y0, a4, k4, p4, [], none, 0, [], HI0.out⟩
  case round =>
    clear HI0
    obtain ⟨more, Y, ac, kc, pc, xs, g, cap, fl, hI⟩ := hrel
    obtain rfl := hI.hv
    have HI := Lib.hid hI
    have HSI := Lib.hid hI.si
    clear hI
    have E_WW := Lib.hid HSI.out.ext
    have Bs_WW := Lib.hid HSI.out.bs
    have Bx_WW := Lib.hid HSI.out.bx
    have Br_WW := Lib.hid HSI.out.br
    have Bt_WW := Lib.hid HSI.out.bt
    have z_WW : w.heap.size ≤ wr.heap.size := HSI.out.ext.size
    have hler : ac ≤ c.all.length := HSI.out.inn.1
    clear c_s c_x c_r c_t
    have c_s := opn6 Bs_WW;have c_x := opn14 Bx_WW;have c_r := opn6 Br_WW;have c_t := opn14 Bt_WW
    have hwr : w.heap.size + 1 + 1 + 1 < wr.heap.size := by omega
    cases more with
    | false =>
      go_wp2
      go_meet
      case rel => exact ⟨Y, ac, kc, pc, xs, g, cap, HI.out.si, ⟨g, cap, fl, rfl, HI.out.sl, HI.out.own, HI.out.ls⟩, HI.out.mr.exit (.inl rfl)⟩
    | true =>
      obtain ⟨Z, hZ⟩ : ∃ Z, Y = Z := ⟨_, rfl⟩
      have HZ := Lib.hid hZ
      clear hZ
      rcases Z with ⟨ke, pe⟩ | ts
      · have hk3 : ((kc : Int) == 0) = false := by
          have h1 := HSI.out.inn.2
          rw [HZ.out] at h1
          have := h1.1; have := h1.2.2
          simp only [beq_eq_false_iff_ne, ne_eq]; omega
        go_wp2
        go_meet
        case rel => exact ⟨Y, ac, kc, pc, xs, g, cap, HI.out.si, ⟨g, cap, fl, rfl, HI.out.sl, HI.out.own, HI.out.ls⟩, HI.out.mr.exit (.inr ⟨_, HZ.out⟩)⟩
      · have hk3 : ((kc : Int) == 0) = true := by
          have h1 := HSI.out.inn.2
          rw [HZ.out] at h1
          have := h1.1
          simp only [beq_iff_eq]; omega
        have hlx : xs.length ≤ 5000 := by have := HI.out.len; omega
        go_wp2_with fail
        refine (rname_ok c Y ac 0 kc pc _ (H.out.ext (xE E_WW)) HSI.out.inn).mono ?_
        rintro e y1 ⟨cn, a5, k5, p5, rfl, h_I5, h_G5, hE⟩
        have n_s_e := ne2 (show w.heap.size ≠ wr.heap.size by omega);have n_x_e := ne2 (show w.heap.size + 1 ≠ wr.heap.size by omega);have n_r_e := ne2 (show w.heap.size + 1 + 1 ≠ wr.heap.size by omega);have n_t_e := ne2 (show w.heap.size + 1 + 1 + 1 ≠ wr.heap.size by omega)
        have E_y1 := aE E_WW hE;have Bs_y1 := bk6 Bs_WW hE;have Bx_y1 := bk14 Bx_WW hE;have Br_y1 := bk6 Br_WW hE;have Bt_y1 := bk14 Bt_WW hE;have Be_y1 := nk2 (wr.heap.size) hE;have T_y1 : Hid (Touch (S4 w) wr y1) := aT hE
        clear hE c_s c_x c_r c_t Bs_WW Bx_WW Br_WW Bt_WW
        have z_y1 := E_y1.out.size;have c_s := opn6 Bs_y1;have c_x := opn14 Bx_y1;have c_r := opn6 Br_y1;have c_t := opn14 Bt_y1;have c_e := opn2 Be_y1
        (try unfold sv)
        have I5 := Lib.hid h_I5; clear h_I5
        have G5 := Lib.hid h_G5; clear h_G5
        have hle5 := I5.out.1
        have hy1 : wr.heap.size < y1.heap.size := by omega
        have HGW : Hid (∀ b, g = some b → b < wr.heap.size) := Lib.hid fun b hb => by
          have h1 := HI.out.sl
          rw [hb] at h1
          exact h1.block_lt
        go_wp2_with fail
        refine (rmay_ok c _ a5 0 k5 p5 [84, 69, 88, 84] _ (H.out.ext (xE E_y1)) I5.out).mono ?_
        rintro e y2 ⟨a6, rfl, h_I6, hE⟩
        have E_y2 := aE E_y1 hE;have Bs_y2 := bk6 Bs_y1 hE;have Bx_y2 := bk14 Bx_y1 hE;have Br_y2 := bk6 Br_y1 hE;have Bt_y2 := bk14 Bt_y1 hE;have Be_y2 := bk2 Be_y1 hE;have T_y2 : Hid (Touch (fun b => b = w.heap.size ∨ b = w.heap.size + 1 ∨ b = w.heap.size + 1 + 1 ∨ b = w.heap.size + 1 + 1 + 1 ∨ b = wr.heap.size) y1 y2) := aT hE
        clear hE c_s c_x c_r c_t c_e Bs_y1 Bx_y1 Br_y1 Bt_y1 Be_y1
        have z_y2 := E_y2.out.size;have c_s := opn6 Bs_y2;have c_x := opn14 Bx_y2;have c_r := opn6 Br_y2;have c_t := opn14 Bt_y2;have c_e := opn2 Be_y2
        (try unfold sv)
        have I6 := Lib.hid h_I6; clear h_I6
        have hle6 := I6.out.1
        have hyT : Touch (fun b => b = w.heap.size ∨ b = w.heap.size + 1 ∨ b = w.heap.size + 1 + 1 ∨ b = w.heap.size + 1 + 1 + 1) wr y2 := T_y1.out.trans' T_y2.out (fun i hi h => by omega)
        have HYT := Lib.hid hyT
        clear hyT
        cases hm : isX [84, 69, 88, 84] (Y.then (name c.E)) with
        | true =>
          have HM := Lib.hid hm
          clear hm
          have HI6 : Hid (In c (behind (Y.then (name c.E))) a6 k5 p5) := Lib.hid (by have := I6.out; rwa [mayX_yes HM.out] at this)
          have hIG := run_end (F := column c.E) (z := (cn, 2)) (by
           refine (run_bnd G5.out).trans ?_
           exact run_yes (A := fun r => .ok ((cn, 2), r)) (B := fun r => bnd (must c.E [73, 78, 84] r) fun _ r' => .ok ((cn, 1), r')) HM.out) HI6.out
          have HIS := Lib.hid hIG.1
          have HGS := Lib.hid hIG.2
          clear hIG
          have HYS := HYT
          have HSL4 := Lib.hid (HI.out.sl.touch HYS.out (fun b hb e => by have := HI.out.own b hb; omega))
          have HLS4 := Lib.hid (LsC.keep (A' := fun b => (w.heap.size + 1 + 1 + 1 < b ∧ g ≠ some b) ∧ b < wr.heap.size) ColK (fun b hb ha => ⟨HYS.out.block b hb (fun e => by have := ha.1; omega), ha, hb⟩) _ _ HI.out.ls)
          have hws : wr.heap.size < y2.heap.size := by omega
          go_wp2_with (at_builtin; refine (fun (h : True → _) => h trivial) ?_)
          intro _
          refine list_nm (fun w7 hE => ?_)
          have n_s_o := ne2 (show w.heap.size ≠ y2.heap.size + 1 by omega);have n_x_o := ne2 (show w.heap.size + 1 ≠ y2.heap.size + 1 by omega);have n_r_o := ne2 (show w.heap.size + 1 + 1 ≠ y2.heap.size + 1 by omega);have n_t_o := ne2 (show w.heap.size + 1 + 1 + 1 ≠ y2.heap.size + 1 by omega);have n_e_o := ne2 (show wr.heap.size ≠ y2.heap.size + 1 by omega)
          have E_w7 := aE E_y2 hE;have Bs_w7 := bk6 Bs_y2 hE;have Bx_w7 := bk14 Bx_y2 hE;have Br_w7 := bk6 Br_y2 hE;have Bt_w7 := bk14 Bt_y2 hE;have Be_w7 := bk2 Be_y2 hE;have Bo_w7 := nk2 (y2.heap.size + 1) hE;have T_w7 : Hid (Touch (fun b => b = w.heap.size ∨ b = w.heap.size + 1 ∨ b = w.heap.size + 1 + 1 ∨ b = w.heap.size + 1 + 1 + 1 ∨ b = wr.heap.size) y2 w7) := aT hE
          clear hE c_s c_x c_r c_t c_e Bs_y2 Bx_y2 Br_y2 Bt_y2 Be_y2
          have z_w7 := E_w7.out.size;have c_s := opn6 Bs_w7;have c_x := opn14 Bx_w7;have c_r := opn6 Br_w7;have c_t := opn14 Bt_w7;have c_e := opn2 Be_w7;have c_o := opn2 Bo_w7
          have HSL7 := Lib.hid (HSL4.out.touch T_w7.out (fun b hb e => by have := HI.out.own b hb; have := HGW.out b hb; omega))
          have HLS7 := Lib.hid (LsC.keep (A' := fun b => w.heap.size + 1 + 1 + 1 < b ∧ g ≠ some b) ColK (fun b hb ha => ⟨T_w7.out.block b hb (fun e => by have := ha.1.1; have := ha.2; omega), ha.1⟩) _ _ HLS4.out)
          have C7 : Hid (ColK.C w7 (fun b => w.heap.size + 1 + 1 + 1 < b ∧ g ≠ some b) [str cn, .int .i64 (2 : Int)] (cn, 2)) := rfl
          refine app_lit ei_col rfl (.tmp 42) (.tmp 44) rfl (g := g) (n := xs.length) (cap := cap) (b := y2.heap.size + 1) (by rfl) HSL7.out (by rfl) rfl (news := [str cn, .int .i64 (2 : Int)]) Bo_w7.out (ColK.one C7.out) (by omega) (by omega) ?_
          intro g6 cap6 w8 hS6 hT6 hat6
          have HSL8 := Lib.hid hS6
          have E_w8 := Lib.hid (Touch.fresh' (a := w) E_w7.out hT6 (fun i e => by have := HI.out.own i e; omega))
          have Bs_w8 := Lib.hid (hT6.old Bs_w7.out (fun e => by have := HI.out.own _ e; omega))
          have Bx_w8 := Lib.hid (hT6.old Bx_w7.out (fun e => by have := HI.out.own _ e; omega))
          have Br_w8 := Lib.hid (hT6.old Br_w7.out (fun e => by have := HI.out.own _ e; omega))
          have Bt_w8 := Lib.hid (hT6.old Bt_w7.out (fun e => by have := HI.out.own _ e; omega))
          obtain ⟨q1, q2⟩ := ls_put (K := ColK) (A0 := fun b => w.heap.size + 1 + 1 + 1 < b) (x := (cn, 2)) (cs := [str cn, .int .i64 (2 : Int)]) HLS7.out C7.out hT6 hat6 HI.out.own (by omega)
          have Q1 := Lib.hid q1
          have Q2 := Lib.hid q2
          clear hS6 hT6 hat6 q1 q2
          have z_w8 : w.heap.size ≤ w8.heap.size := E_w8.out.size
          clear c_s c_x c_r c_t c_e c_o
          clear n_s_o n_x_o n_r_o n_t_o n_e_o
          clear n_s_e n_x_e n_r_e n_t_e
          have c_s := opn6 Bs_w8;have c_x := opn14 Bx_w8;have c_r := opn6 Br_w8;have c_t := opn14 Bt_w8
          go_wp2_with fail
          refine (rmay_ok c _ a6 0 k5 p5 [44] _ (H.out.ext (xE E_w8)) HIS.out).mono ?_
          rintro e w9 ⟨a8, rfl, h_I8, hE⟩
          have E_w9 := aE E_w8 hE;have Bs_w9 := bk6 Bs_w8 hE;have Bx_w9 := bk14 Bx_w8 hE;have Br_w9 := bk6 Br_w8 hE;have Bt_w9 := bk14 Bt_w8 hE;have T_w9 : Hid (Touch (S4 w) w8 w9) := aT hE
          clear hE c_s c_x c_r c_t Bs_w8 Bx_w8 Br_w8 Bt_w8
          have z_w9 := E_w9.out.size;have c_s := opn6 Bs_w9;have c_x := opn14 Bx_w9;have c_r := opn6 Br_w9;have c_t := opn14 Bt_w9
          (try unfold sv)
          have I8 := Lib.hid h_I8; clear h_I8
          have hle8 := I8.out.1
          have HSL9 := Lib.hid (HSL8.out.touch T_w9.out (fun b hb e => by cases hb; have := Q2.out; omega))
          have HLS9 := Lib.hid (LsC.keep ColK (fun b hb ha => ⟨T_w9.out.block b hb (fun e => by have := ha.1; omega), ha⟩) _ _ Q1.out)
          have HST : Hid (muM (isX [44] (Y.then (column c.E))) (mayX [44] (Y.then (column c.E))) < muM true Y) := Lib.hid (by rw [HZ.out]; exact muM_step (Suf.column c.E))
          go_wp2
          go_roundg (muM (isX [44] (Y.then (column c.E))) (mayX [44] (Y.then (column c.E))))
          case measure => rw [HI.out.hk]; exact HST.out
          case rel =>
           have hlen : (xs ++ [((cn, 2) : Str × Nat)]).length = xs.length + 1 := by simp
           refine ⟨isX [44] (Y.then (column c.E)), mayX [44] (Y.then (column c.E)), a8, k5, p5, xs ++ [((cn, 2) : Str × Nat)], some g6, cap6, fl ++ ([str cn, .int .i64 (2 : Int)]), ⟨rfl, rfl, ⟨(xE E_w9), (xb6 Bs_w9), (xb14 Bx_w9), (xb6 Br_w9), ?_, I8.out⟩, ?_, ?_, ?_, ?_, ?_⟩⟩
           · rw [hlen]
             show _ = some (Obj.cells #[str [67, 82, 69, 65, 84, 69], str tn, slv (some g6) (xs.length + 1) cap6, .slice none 0 0, .slice none 0 0, .slice none 0 0, .int .i64 (0 : Int), .int .i64 (0 : Int), .slice none 0 0, .slice none 0 0, .slice none 0 0, .slice none 0 0, .slice none 0 0, .slice none 0 0] 33 (0, 0))
             exact (xb14 Bt_w9)
           · rw [hlen]; exact HSL9.out.touch (S := (S4 w)) xT (fun b hb e => by cases hb; have := Q2.out; omega)
           · intro b hb; cases hb; exact Q2.out
           · exact LsC.keep ColK (fun b hb ha => ⟨Touch.block (S := (S4 w)) xT b hb (fun e => by have := ha.1; omega), ha⟩) _ _ HLS9.out
           · have h1 := HI.out.len; have h2 := HST.out; rw [hlen]; omega
           · exact HI.out.mr.step HGS.out (Suf.column c.E)
        | false =>
          have HM := Lib.hid hm
          clear hm
          go_wp2_with fail
          refine (rmust_ok c _ a5 0 k5 p5 [73, 78, 84] _ (H.out.ext (xE E_y2)) I5.out).mono ?_
          rintro e y3 ⟨a7, k7, p7, rfl, h_I7, hE⟩
          have n_s_u := ne2 (show w.heap.size ≠ y2.heap.size by omega);have n_x_u := ne2 (show w.heap.size + 1 ≠ y2.heap.size by omega);have n_r_u := ne2 (show w.heap.size + 1 + 1 ≠ y2.heap.size by omega);have n_t_u := ne2 (show w.heap.size + 1 + 1 + 1 ≠ y2.heap.size by omega);have n_e_u := ne2 (show wr.heap.size ≠ y2.heap.size by omega)
          have E_y3 := aE E_y2 hE;have Bs_y3 := bk6 Bs_y2 hE;have Bx_y3 := bk14 Bx_y2 hE;have Br_y3 := bk6 Br_y2 hE;have Bt_y3 := bk14 Bt_y2 hE;have Be_y3 := bk2 Be_y2 hE;have Bu_y3 := nk6 (y2.heap.size) hE;have T_y3 : Hid (Touch (fun b => b = w.heap.size ∨ b = w.heap.size + 1 ∨ b = w.heap.size + 1 + 1 ∨ b = w.heap.size + 1 + 1 + 1 ∨ b = wr.heap.size) y2 y3) := aT hE
          clear hE c_s c_x c_r c_t c_e Bs_y2 Bx_y2 Br_y2 Bt_y2 Be_y2
          have z_y3 := E_y3.out.size;have c_s := opn6 Bs_y3;have c_x := opn14 Bx_y3;have c_r := opn6 Br_y3;have c_t := opn14 Bt_y3;have c_e := opn2 Be_y3;have c_u := opn6 Bu_y3
          (try unfold sv)
          have I7 := Lib.hid h_I7; clear h_I7
          have hle7 := I7.out.1
          have hIG := run_end (F := column c.E) (z := (cn, 1)) (by
           refine (run_bnd G5.out).trans ?_
           refine (run_no (A := fun r => .ok ((cn, 2), r.tail)) (B := fun r => bnd (must c.E [73, 78, 84] r) fun _ r' => .ok ((cn, 1), r')) HM.out).trans ?_
           exact run_must (g := fun r' => .ok ((cn, 1), r'))) I7.out
          have HIS := Lib.hid hIG.1
          have HGS := Lib.hid hIG.2
          clear hIG
          have hyT : Touch (fun b => b = w.heap.size ∨ b = w.heap.size + 1 ∨ b = w.heap.size + 1 + 1 ∨ b = w.heap.size + 1 + 1 + 1) wr y3 := HYT.out.trans' T_y3.out (fun i hi h => by have := T_y1.out.size; have := T_y2.out.size; omega)
          have HYS := Lib.hid hyT
          clear hyT
          have HSL4 := Lib.hid (HI.out.sl.touch HYS.out (fun b hb e => by have := HI.out.own b hb; omega))
          have HLS4 := Lib.hid (LsC.keep (A' := fun b => (w.heap.size + 1 + 1 + 1 < b ∧ g ≠ some b) ∧ b < wr.heap.size) ColK (fun b hb ha => ⟨HYS.out.block b hb (fun e => by have := ha.1; omega), ha, hb⟩) _ _ HI.out.ls)
          have hws : wr.heap.size < y3.heap.size := by omega
          clear c_u n_s_u n_x_u n_r_u n_t_u n_e_u
          go_wp2_with (at_builtin; refine (fun (h : True → _) => h trivial) ?_)
          intro _
          refine list_nm (fun w7 hE => ?_)
          have n_s_o := ne2 (show w.heap.size ≠ y3.heap.size by omega);have n_x_o := ne2 (show w.heap.size + 1 ≠ y3.heap.size by omega);have n_r_o := ne2 (show w.heap.size + 1 + 1 ≠ y3.heap.size by omega);have n_t_o := ne2 (show w.heap.size + 1 + 1 + 1 ≠ y3.heap.size by omega);have n_e_o := ne2 (show wr.heap.size ≠ y3.heap.size by omega)
          have E_w7 := aE E_y3 hE;have Bs_w7 := bk6 Bs_y3 hE;have Bx_w7 := bk14 Bx_y3 hE;have Br_w7 := bk6 Br_y3 hE;have Bt_w7 := bk14 Bt_y3 hE;have Be_w7 := bk2 Be_y3 hE;have Bo_w7 := nk2 (y3.heap.size) hE;have T_w7 : Hid (Touch (fun b => b = w.heap.size ∨ b = w.heap.size + 1 ∨ b = w.heap.size + 1 + 1 ∨ b = w.heap.size + 1 + 1 + 1 ∨ b = wr.heap.size) y3 w7) := aT hE
          clear hE c_s c_x c_r c_t c_e Bs_y3 Bx_y3 Br_y3 Bt_y3 Be_y3
          have z_w7 := E_w7.out.size;have c_s := opn6 Bs_w7;have c_x := opn14 Bx_w7;have c_r := opn6 Br_w7;have c_t := opn14 Bt_w7;have c_e := opn2 Be_w7;have c_o := opn2 Bo_w7
          have HSL7 := Lib.hid (HSL4.out.touch T_w7.out (fun b hb e => by have := HI.out.own b hb; have := HGW.out b hb; omega))
          have HLS7 := Lib.hid (LsC.keep (A' := fun b => w.heap.size + 1 + 1 + 1 < b ∧ g ≠ some b) ColK (fun b hb ha => ⟨T_w7.out.block b hb (fun e => by have := ha.1.1; have := ha.2; omega), ha.1⟩) _ _ HLS4.out)
          have C7 : Hid (ColK.C w7 (fun b => w.heap.size + 1 + 1 + 1 < b ∧ g ≠ some b) [str cn, .int .i64 (1 : Int)] (cn, 1)) := rfl
          refine app_lit ei_col rfl (.tmp 42) (.tmp 44) rfl (g := g) (n := xs.length) (cap := cap) (b := y3.heap.size) (by rfl) HSL7.out (by rfl) rfl (news := [str cn, .int .i64 (1 : Int)]) Bo_w7.out (ColK.one C7.out) (by omega) (by omega) ?_
          intro g6 cap6 w8 hS6 hT6 hat6
          have HSL8 := Lib.hid hS6
          have E_w8 := Lib.hid (Touch.fresh' (a := w) E_w7.out hT6 (fun i e => by have := HI.out.own i e; omega))
          have Bs_w8 := Lib.hid (hT6.old Bs_w7.out (fun e => by have := HI.out.own _ e; omega))
          have Bx_w8 := Lib.hid (hT6.old Bx_w7.out (fun e => by have := HI.out.own _ e; omega))
          have Br_w8 := Lib.hid (hT6.old Br_w7.out (fun e => by have := HI.out.own _ e; omega))
          have Bt_w8 := Lib.hid (hT6.old Bt_w7.out (fun e => by have := HI.out.own _ e; omega))
          obtain ⟨q1, q2⟩ := ls_put (K := ColK) (A0 := fun b => w.heap.size + 1 + 1 + 1 < b) (x := (cn, 1)) (cs := [str cn, .int .i64 (1 : Int)]) HLS7.out C7.out hT6 hat6 HI.out.own (by omega)
          have Q1 := Lib.hid q1
          have Q2 := Lib.hid q2
          clear hS6 hT6 hat6 q1 q2
          have z_w8 : w.heap.size ≤ w8.heap.size := E_w8.out.size
          clear c_s c_x c_r c_t c_e c_o
          clear n_s_o n_x_o n_r_o n_t_o n_e_o
          clear n_s_e n_x_e n_r_e n_t_e
          have c_s := opn6 Bs_w8;have c_x := opn14 Bx_w8;have c_r := opn6 Br_w8;have c_t := opn14 Bt_w8
          go_wp2_with fail
          refine (rmay_ok c _ a7 0 k7 p7 [44] _ (H.out.ext (xE E_w8)) HIS.out).mono ?_
          rintro e w9 ⟨a8, rfl, h_I8, hE⟩
          have E_w9 := aE E_w8 hE;have Bs_w9 := bk6 Bs_w8 hE;have Bx_w9 := bk14 Bx_w8 hE;have Br_w9 := bk6 Br_w8 hE;have Bt_w9 := bk14 Bt_w8 hE;have T_w9 : Hid (Touch (S4 w) w8 w9) := aT hE
          clear hE c_s c_x c_r c_t Bs_w8 Bx_w8 Br_w8 Bt_w8
          have z_w9 := E_w9.out.size;have c_s := opn6 Bs_w9;have c_x := opn14 Bx_w9;have c_r := opn6 Br_w9;have c_t := opn14 Bt_w9
          (try unfold sv)
          have I8 := Lib.hid h_I8; clear h_I8
          have hle8 := I8.out.1
          have HSL9 := Lib.hid (HSL8.out.touch T_w9.out (fun b hb e => by cases hb; have := Q2.out; omega))
          have HLS9 := Lib.hid (LsC.keep ColK (fun b hb ha => ⟨T_w9.out.block b hb (fun e => by have := ha.1; omega), ha⟩) _ _ Q1.out)
          have HST : Hid (muM (isX [44] (Y.then (column c.E))) (mayX [44] (Y.then (column c.E))) < muM true Y) := Lib.hid (by rw [HZ.out]; exact muM_step (Suf.column c.E))
          go_wp2
          go_roundg (muM (isX [44] (Y.then (column c.E))) (mayX [44] (Y.then (column c.E))))
          case measure => rw [HI.out.hk]; exact HST.out
          case rel =>
           have hlen : (xs ++ [((cn, 1) : Str × Nat)]).length = xs.length + 1 := by simp
           refine ⟨isX [44] (Y.then (column c.E)), mayX [44] (Y.then (column c.E)), a8, k7, p7, xs ++ [((cn, 1) : Str × Nat)], some g6, cap6, fl ++ ([str cn, .int .i64 (1 : Int)]), ⟨rfl, rfl, ⟨(xE E_w9), (xb6 Bs_w9), (xb14 Bx_w9), (xb6 Br_w9), ?_, I8.out⟩, ?_, ?_, ?_, ?_, ?_⟩⟩
           · rw [hlen]
             show _ = some (Obj.cells #[str [67, 82, 69, 65, 84, 69], str tn, slv (some g6) (xs.length + 1) cap6, .slice none 0 0, .slice none 0 0, .slice none 0 0, .int .i64 (0 : Int), .int .i64 (0 : Int), .slice none 0 0, .slice none 0 0, .slice none 0 0, .slice none 0 0, .slice none 0 0, .slice none 0 0] 33 (0, 0))
             exact (xb14 Bt_w9)
           · rw [hlen]; exact HSL9.out.touch (S := (S4 w)) xT (fun b hb e => by cases hb; have := Q2.out; omega)
           · intro b hb; cases hb; exact Q2.out
           · exact LsC.keep ColK (fun b hb ha => ⟨Touch.block (S := (S4 w)) xT b hb (fun e => by have := ha.1; omega), ha⟩) _ _ HLS9.out
           · have h1 := HI.out.len; have h2 := HST.out; rw [hlen]; omega
           · exact HI.out.mr.step HGS.out (Suf.column c.E)
 case rest =>
  obtain ⟨Y, ac, kc, pc, xs, g, cap, hsi, hv, hr⟩ := hcut
  have HSI := Lib.hid hsi
  have HV := Lib.hid hv
  have HR := Lib.hid hr
  clear hsi hv hr
  have E_WW := Lib.hid HSI.out.ext
  have Bs_WW := Lib.hid HSI.out.bs
  have Bx_WW := Lib.hid HSI.out.bx
  have Br_WW := Lib.hid HSI.out.br
  have Bt_WW := Lib.hid HSI.out.bt
  have z_WW : w.heap.size ≤ wc.heap.size := HSI.out.ext.size
  have hler : ac ≤ c.all.length := HSI.out.inn.1
  clear c_s c_x c_r c_t
  have c_s := opn6 Bs_WW;have c_x := opn14 Bx_WW;have c_r := opn6 Br_WW;have c_t := opn14 Bt_WW
  go_wp2_with fail
  refine (rmust_ok c Y ac 0 kc pc [41] _ (H.out.ext (xE E_WW)) HSI.out.inn).mono ?_
  rintro e v1 ⟨b1, l1, pz1, rfl, h_J1, hE⟩
  have E_v1 := aE E_WW hE;have Bs_v1 := bk6 Bs_WW hE;have Bx_v1 := bk14 Bx_WW hE;have Br_v1 := bk6 Br_WW hE;have Bt_v1 := bk14 Bt_WW hE;have T_v1 : Hid (Touch (S4 w) wc v1) := aT hE
  clear hE c_s c_x c_r c_t Bs_WW Bx_WW Br_WW Bt_WW
  have z_v1 := E_v1.out.size;have c_s := opn6 Bs_v1;have c_x := opn14 Bx_v1;have c_r := opn6 Br_v1;have c_t := opn14 Bt_v1
  (try unfold sv)
  have J1 := Lib.hid h_J1; clear h_J1
  have hlf1 := J1.out.1
  go_wp2_with fail
  refine (ris_ok c _ b1 0 l1 pz1 [78, 79] _ (H.out.ext (xE E_v1)) J1.out).mono ?_
  rintro e v2 ⟨rfl, hE⟩
  have E_v2 := aE E_v1 hE;have Bs_v2 := bk6 Bs_v1 hE;have Bx_v2 := bk14 Bx_v1 hE;have Br_v2 := bk6 Br_v1 hE;have Bt_v2 := bk14 Bt_v1 hE;have T_v2 : Hid (Touch (S4 w) v1 v2) := aT hE
  clear hE c_s c_x c_r c_t Bs_v1 Bx_v1 Br_v1 Bt_v1
  have z_v2 := E_v2.out.size;have c_s := opn6 Bs_v2;have c_x := opn14 Bx_v2;have c_r := opn6 Br_v2;have c_t := opn14 Bt_v2
  have HV1 := Lib.hid (VLA.keep _ HV.out (fun b hb ha => ⟨T_v1.out.block b hb (fun e => by omega), ha⟩))
  have HV2 := Lib.hid (VLA.keep _ HV1.out (fun b hb ha => ⟨T_v2.out.block b hb (fun e => by omega), ha⟩))
  have HR1 : Hid (X.run (create c.E) = (mustX c [41] Y).run fun r => fin (fun k => ({ St.none with kind := [67, 82, 69, 65, 84, 69], table := tn, columns := xs, keys := k } : St)) (keysP c.E r)) := Lib.hid (by
    rw [HR.out, HKK.out]
    exact run_must (g := fun r => fin (fun k => ({ St.none with kind := [67, 82, 69, 65, 84, 69], table := tn, columns := xs, keys := k } : St)) (keysP c.E r)))
  cases hno : isX [78, 79] (mustX c [41] Y) with
  | false =>
    have HNO := Lib.hid hno
    clear hno
    go_wp2
    refine wp_nm (fun v4 hE => ?_)
    have E_v4 := aE E_v2 hE;have Bs_v4 := bk6 Bs_v2 hE;have Bx_v4 := bk14 Bx_v2 hE;have Br_v4 := bk6 Br_v2 hE;have Bt_v4 := bk14 Bt_v2 hE;have T_v4 : Hid (Touch (S4 w) v2 v4) := aT hE
    clear hE c_s c_x c_r c_t Bs_v2 Bx_v2 Br_v2 Bt_v2
    have z_v4 := E_v4.out.size;have c_s := opn6 Bs_v4;have c_x := opn14 Bx_v4;have c_r := opn6 Br_v4;have c_t := opn14 Bt_v4
    have HV4 := Lib.hid (VLA.keep _ HV2.out (fun b hb ha => ⟨T_v4.out.block b hb (fun e => by omega), ha⟩))
    have HW4 : Hid (VLA StrK 9 v4 (fun b => w.heap.size + 1 + 1 + 1 < b) (.slice none 0 0) []) := Lib.hid (VLA.nil _ _ _ _)
    have HRE : Hid (X.run (create c.E) = (mustX c [41] Y).run fun r => .ok (({ St.none with kind := [67, 82, 69, 65, 84, 69], table := tn, columns := xs, keys := [] } : St), r)) := Lib.hid (by
      rw [HR1.out]
      exact run_fin2 (run_no (A := fun ts => bnd (must c.E [79, 86, 69, 82, 76, 65, 80] ts.tail) fun _ r => names c.E r) (B := fun ts => .ok ([], ts)) HNO.out))
    have HIE := J1
    letI : Tch.TS := ⟨fun b => b = w.heap.size + 1⟩
    refine Tch.region_calm [.e 0, .e 1, .h 2 true, .h 3 false] f_mixed (by kernel_rfl) (by kernel_rfl) ?_
    refine Tch.plan_e1 rfl rfl (.agg #[str [67, 82, 69, 65, 84, 69], str tn, slv g xs.length cap, (.slice none 0 0), .slice none 0 0, .slice none 0 0, .int .i64 (0 : Int), .int .i64 (0 : Int), .slice none 0 0, .slice none 0 0, .slice none 0 0, .slice none 0 0, .slice none 0 0, .slice none 0 0]) (fun w' he => ?_) (fun K hK => ?_)
    · have d := tch14 he c_t (fun (e : _ = _) => by omega)
      clear c_t he
      go_simp
    go_simp; refine hK _ ?_; clear hK K
    refine Tch.plan_e1 rfl rfl (.agg #[slv c.g c.all.length c.cap, .int .i64 (b1 : Int), .int .i64 (c.E : Int), .int .i64 ((0 : Nat) : Int), .int .i64 (l1 : Int), .int .i64 (pz1 : Int)]) (fun w' he => ?_) (fun K hK => ?_)
    · have d := tch6 he c_s (fun (e : _ = _) => by omega)
      clear c_s he
      go_simp
    go_simp; refine hK _ ?_; clear hK K
    refine Tch.plan_ct rfl rfl (fun K _ hK => ?_)
    go_wp2
    refine hK _ _ (late14d _ _ _ _ _ _ _ _ _ _ _ _ _ _ _ _) ?_; clear hK K
    refine Tch.plan_c rfl rfl (fun K _ hK => ?_)
    go_wp2
    refine tch_done ?_
    go_wp2
    (try simp only [Exit.inBlock, Exit.then])
    refine bodyPost_ret (v := .tuple #[.agg #[str [67, 82, 69, 65, 84, 69], str tn, slv g xs.length cap, (.slice none 0 0), .slice none 0 0, .slice none 0 0, .int .i64 (0 : Int), .int .i64 (0 : Int), .slice none 0 0, .slice none 0 0, .slice none 0 0, .slice none 0 0, .slice none 0 0, .slice none 0 0], .agg #[slv c.g c.all.length c.cap, .int .i64 (b1 : Int), .int .i64 (c.E : Int), .int .i64 ((0 : Nat) : Int), .int .i64 (l1 : Int), .int .i64 (pz1 : Int)]]) (res_cc rfl rfl (lv_st (xb14 Bx_v4)) rfl (lv_src (xb6 Br_v4))) rfl ?_
    obtain ⟨h2, h3⟩ := run_end (F := create c.E) (z := { St.none with kind := [67, 82, 69, 65, 84, 69], table := tn, columns := xs, keys := [] }) HRE.out HIE.out
    refine ⟨{ St.none with kind := [67, 82, 69, 65, 84, 69], table := tn, columns := xs, keys := [] }, { StV.nil with col := slv g xs.length cap, key := (.slice none 0 0) }, b1, l1, pz1, rfl, h2, h3, ?_, (xE E_v4)⟩
    exact { StOk.none _ (fun b => w.heap.size ≤ b) [67, 82, 69, 65, 84, 69] tn (0, 0) with col := VLA.keep _ HV4.out (fun b hb ha => ⟨Touch.block (S := (S4 w)) xT b hb (fun e => by omega), by omega⟩), key := VLA.keep _ HW4.out (fun b hb ha => ⟨Touch.block (S := (S4 w)) xT b hb (fun e => by omega), by omega⟩) }
  | true =>
    have HNO := Lib.hid hno
    clear hno
    have hlt : b1 < c.all.length := (J1.out.step HNO.out).1
    go_wp2_with fail
    refine (rmust_ok c _ (b1 + 1) 0 l1 pz1 [79, 86, 69, 82, 76, 65, 80] _ (H.out.ext (xE E_v2)) (J1.out.step HNO.out).2.1).mono ?_
    rintro e v3 ⟨b2, l2, pz2, rfl, h_J2, hE⟩
    have E_v3 := aE E_v2 hE;have Bs_v3 := bk6 Bs_v2 hE;have Bx_v3 := bk14 Bx_v2 hE;have Br_v3 := bk6 Br_v2 hE;have Bt_v3 := bk14 Bt_v2 hE;have T_v3 : Hid (Touch (S4 w) v2 v3) := aT hE
    clear hE c_s c_x c_r c_t Bs_v2 Bx_v2 Br_v2 Bt_v2
    have z_v3 := E_v3.out.size;have c_s := opn6 Bs_v3;have c_x := opn14 Bx_v3;have c_r := opn6 Br_v3;have c_t := opn14 Bt_v3
    (try unfold sv)
    have J2 := Lib.hid h_J2; clear h_J2
    have hlf2 := J2.out.1
    go_wp2_with fail
    refine (rmust_ok c _ b2 0 l2 pz2 [40] _ (H.out.ext (xE E_v3)) J2.out).mono ?_
    rintro e v5 ⟨b3, l3, pz3, rfl, h_J3, hE⟩
    have E_v5 := aE E_v3 hE;have Bs_v5 := bk6 Bs_v3 hE;have Bx_v5 := bk14 Bx_v3 hE;have Br_v5 := bk6 Br_v3 hE;have Bt_v5 := bk14 Bt_v3 hE;have T_v5 : Hid (Touch (S4 w) v3 v5) := aT hE
    clear hE c_s c_x c_r c_t Bs_v3 Bx_v3 Br_v3 Bt_v3
    have z_v5 := E_v5.out.size;have c_s := opn6 Bs_v5;have c_x := opn14 Bx_v5;have c_r := opn6 Br_v5;have c_t := opn14 Bt_v5
    (try unfold sv)
    have J3 := Lib.hid h_J3; clear h_J3
    have hlf3 := J3.out.1
    have hv5 : w.heap.size + 1 + 1 + 1 < v5.heap.size := by omega
    go_wp2_with fail
    refine (rnames_ok c _ b3 0 l3 pz3 _ (H.out.ext (xE E_v5)) J3.out).mono ?_
    rintro e v6 ⟨kl, gk', ck, b4, l4, pz4, rfl, h_J4, h_G4, h_V4, hE⟩
    have E_v6 := aE E_v5 hE;have Bs_v6 := bk6 Bs_v5 hE;have Bx_v6 := bk14 Bx_v5 hE;have Br_v6 := bk6 Br_v5 hE;have Bt_v6 := bk14 Bt_v5 hE;have T_v6 : Hid (Touch (S4 w) v5 v6) := aT hE
    clear hE c_s c_x c_r c_t Bs_v5 Bx_v5 Br_v5 Bt_v5
    have z_v6 := E_v6.out.size;have c_s := opn6 Bs_v6;have c_x := opn14 Bx_v6;have c_r := opn6 Br_v6;have c_t := opn14 Bt_v6
    (try unfold sv)
    have J4 := Lib.hid h_J4; clear h_J4
    have G4 := Lib.hid h_G4; clear h_G4
    have V4 := Lib.hid h_V4; clear h_V4
    have hlf4 := J4.out.1
    go_wp2_with fail
    refine (rmust_ok c _ b4 0 l4 pz4 [41] _ (H.out.ext (xE E_v6)) J4.out).mono ?_
    rintro e v7 ⟨b5, l5, pz5, rfl, h_J5, hE⟩
    have E_v7 := aE E_v6 hE;have Bs_v7 := bk6 Bs_v6 hE;have Bx_v7 := bk14 Bx_v6 hE;have Br_v7 := bk6 Br_v6 hE;have Bt_v7 := bk14 Bt_v6 hE;have T_v7 : Hid (Touch (S4 w) v6 v7) := aT hE
    clear hE c_s c_x c_r c_t Bs_v6 Bx_v6 Br_v6 Bt_v6
    have z_v7 := E_v7.out.size;have c_s := opn6 Bs_v7;have c_x := opn14 Bx_v7;have c_r := opn6 Br_v7;have c_t := opn14 Bt_v7
    (try unfold sv)
    have J5 := Lib.hid h_J5; clear h_J5
    have hlf5 := J5.out.1
    go_wp2
    refine wp_nm (fun v4 hE => ?_)
    have E_v4 := aE E_v7 hE;have Bs_v4 := bk6 Bs_v7 hE;have Bx_v4 := bk14 Bx_v7 hE;have Br_v4 := bk6 Br_v7 hE;have Bt_v4 := bk14 Bt_v7 hE;have T_v4 : Hid (Touch (S4 w) v7 v4) := aT hE
    clear hE c_s c_x c_r c_t Bs_v7 Bx_v7 Br_v7 Bt_v7
    have z_v4 := E_v4.out.size;have c_s := opn6 Bs_v4;have c_x := opn14 Bx_v4;have c_r := opn6 Br_v4;have c_t := opn14 Bt_v4
    have HV3 := Lib.hid (VLA.keep _ HV2.out (fun b hb ha => ⟨T_v3.out.block b hb (fun e => by omega), ha⟩))
    have HV5 := Lib.hid (VLA.keep _ HV3.out (fun b hb ha => ⟨T_v5.out.block b hb (fun e => by omega), ha⟩))
    have HV6 := Lib.hid (VLA.keep _ HV5.out (fun b hb ha => ⟨T_v6.out.block b hb (fun e => by omega), ha⟩))
    have HV7 := Lib.hid (VLA.keep _ HV6.out (fun b hb ha => ⟨T_v7.out.block b hb (fun e => by omega), ha⟩))
    have HV4 := Lib.hid (VLA.keep _ HV7.out (fun b hb ha => ⟨T_v4.out.block b hb (fun e => by omega), ha⟩))
    have HW6 := Lib.hid (VLA.of (A := fun b => w.heap.size + 1 + 1 + 1 < b) _ V4.out (fun b hb ha => by simp [size_set] at ha; omega))
    have HW7 := Lib.hid (VLA.keep _ HW6.out (fun b hb ha => ⟨T_v7.out.block b hb (fun e => by omega), ha⟩))
    have HW4 := Lib.hid (VLA.keep _ HW7.out (fun b hb ha => ⟨T_v4.out.block b hb (fun e => by omega), ha⟩))
    have HRE : Hid (X.run (create c.E) = (mustX c [41] ((mustX c [40] (mustX c [79, 86, 69, 82, 76, 65, 80] (behind (mustX c [41] Y)))).then (sep (name c.E)))).run fun r => .ok (({ St.none with kind := [67, 82, 69, 65, 84, 69], table := tn, columns := xs, keys := kl } : St), r)) := Lib.hid (by
      rw [HR1.out]
      refine run_fin2 (x := kl) ?_
      refine (run_yes (A := fun ts => bnd (must c.E [79, 86, 69, 82, 76, 65, 80] ts) fun _ r => names c.E r) (B := fun ts => .ok ([], ts)) HNO.out).trans ?_
      refine (run_must (g := names c.E)).trans ?_
      refine (run_must (g := fun r => bnd (sep (name c.E) r) fun l r => bnd (must c.E [41] r) fun _ r => .ok (l, r))).trans ?_
      refine (run_bnd (g := fun l r => bnd (must c.E [41] r) fun _ r => .ok (l, r)) G4.out).trans ?_
      exact run_must (g := fun r => .ok (kl, r)))
    have HIE := J5
    letI : Tch.TS := ⟨fun b => b = w.heap.size + 1⟩
    refine Tch.region_calm [.e 0, .e 1, .h 2 true, .h 3 false] f_mixed (by kernel_rfl) (by kernel_rfl) ?_
    refine Tch.plan_e1 rfl rfl (.agg #[str [67, 82, 69, 65, 84, 69], str tn, slv g xs.length cap, (slv gk' kl.length ck), .slice none 0 0, .slice none 0 0, .int .i64 (0 : Int), .int .i64 (0 : Int), .slice none 0 0, .slice none 0 0, .slice none 0 0, .slice none 0 0, .slice none 0 0, .slice none 0 0]) (fun w' he => ?_) (fun K hK => ?_)
    · have d := tch14 he c_t (fun (e : _ = _) => by omega)
      clear c_t he
      go_simp
    go_simp; refine hK _ ?_; clear hK K
    refine Tch.plan_e1 rfl rfl (.agg #[slv c.g c.all.length c.cap, .int .i64 (b5 : Int), .int .i64 (c.E : Int), .int .i64 ((0 : Nat) : Int), .int .i64 (l5 : Int), .int .i64 (pz5 : Int)]) (fun w' he => ?_) (fun K hK => ?_)
    · have d := tch6 he c_s (fun (e : _ = _) => by omega)
      clear c_s he
      go_simp
    go_simp; refine hK _ ?_; clear hK K
    refine Tch.plan_ct rfl rfl (fun K _ hK => ?_)
    go_wp2
    refine hK _ _ (late14d _ _ _ _ _ _ _ _ _ _ _ _ _ _ _ _) ?_; clear hK K
    refine Tch.plan_c rfl rfl (fun K _ hK => ?_)
    go_wp2
    refine tch_done ?_
    go_wp2
    (try simp only [Exit.inBlock, Exit.then])
    refine bodyPost_ret (v := .tuple #[.agg #[str [67, 82, 69, 65, 84, 69], str tn, slv g xs.length cap, (slv gk' kl.length ck), .slice none 0 0, .slice none 0 0, .int .i64 (0 : Int), .int .i64 (0 : Int), .slice none 0 0, .slice none 0 0, .slice none 0 0, .slice none 0 0, .slice none 0 0, .slice none 0 0], .agg #[slv c.g c.all.length c.cap, .int .i64 (b5 : Int), .int .i64 (c.E : Int), .int .i64 ((0 : Nat) : Int), .int .i64 (l5 : Int), .int .i64 (pz5 : Int)]]) (res_cc rfl rfl (lv_st (xb14 Bx_v4)) rfl (lv_src (xb6 Br_v4))) rfl ?_
    obtain ⟨h2, h3⟩ := run_end (F := create c.E) (z := { St.none with kind := [67, 82, 69, 65, 84, 69], table := tn, columns := xs, keys := kl }) HRE.out HIE.out
    refine ⟨{ St.none with kind := [67, 82, 69, 65, 84, 69], table := tn, columns := xs, keys := kl }, { StV.nil with col := slv g xs.length cap, key := (slv gk' kl.length ck) }, b5, l5, pz5, rfl, h2, h3, ?_, (xE E_v4)⟩
    exact { StOk.none _ (fun b => w.heap.size ≤ b) [67, 82, 69, 65, 84, 69] tn (0, 0) with col := VLA.keep _ HV4.out (fun b hb ha => ⟨Touch.block (S := (S4 w)) xT b hb (fun e => by omega), by omega⟩), key := VLA.keep _ HW4.out (fun b hb ha => ⟨Touch.block (S := (S4 w)) xT b hb (fun e => by omega), by omega⟩) }
end Go.Proofs.YtkhnpmeohjafiaaGreatDoor
