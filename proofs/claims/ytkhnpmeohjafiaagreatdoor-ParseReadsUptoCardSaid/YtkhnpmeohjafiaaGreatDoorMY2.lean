/- Lemmas. -/
import Derived.Test.YtkhnpmeohjafiaaGreatDoorMY1
import Derived.Test.YtkhnpmeohjafiaaGreatDoorMJ
import Derived.Test.YtkhnpmeohjafiaaGreatDoorMK
set_option maxHeartbeats 16000000
set_option maxRecDepth 100000
namespace Go.Proofs.YtkhnpmeohjafiaaGreatDoor
open Go.RowKit
theorem r1_ok (w : World) (s op t o : Str) (n : Nat) (g : Option Nat) (m cap : Nat) :
  Calls Tryz.prog 147 #[str s, .agg #[str op, .int .i64 (n : Int), str t, str o, slv g m cap]] w (fun e w' => ∃ b, e = .returned (.agg #[str s, .int .i64 (0 : Int), str [], str [], slv (some b) 1 1]) ∧ w.heap.size < b ∧ Ext w w' ∧ w'.heap[b]? = some (.cells #[str op, .int .i64 (n : Int), str t, str o, slv g m cap] 45 (0, 0))) := by
 go_enter Tryz.func147, Tryz.ntmps147
 have E_w : Hid (Ext w w) := Lib.hid (Ext.refl w)
 go_wp2
 (try simp only [Exit.inBlock, Exit.then])
 refine bodyPost_ret (v := .agg #[str s, .int .i64 (0 : Int), str [], str [], slv (some (w.heap.size + 1 + 1)) 1 1]) (res_c rfl rfl (lv_ex xn5)) rfl ?_
 refine ⟨_, rfl, by omega, ?_, ?_⟩
 · exact (xE E_w)
 · exact xn5
theorem r2_ok (w : World) (s op t o op' t' o' : Str) (n n' : Nat) (g g' : Option Nat) (m cap m' cap' : Nat) :
  Calls Tryz.prog 119 #[str s, .agg #[str op, .int .i64 (n : Int), str t, str o, slv g m cap], .agg #[str op', .int .i64 (n' : Int), str t', str o', slv g' m' cap']] w (fun e w' => ∃ b, e = .returned (.agg #[str s, .int .i64 (0 : Int), str [], str [], slv (some b) 2 2]) ∧ w.heap.size < b ∧ Ext w w' ∧ w'.heap[b]? = some (.cells #[str op, .int .i64 (n : Int), str t, str o, slv g m cap, str op', .int .i64 (n' : Int), str t', str o', slv g' m' cap'] 45 (0, 0))) := by
 go_enter Tryz.func119, Tryz.ntmps119
 have E_w : Hid (Ext w w) := Lib.hid (Ext.refl w)
 go_wp2
 (try simp only [Exit.inBlock, Exit.then])
 refine bodyPost_ret (v := .agg #[str s, .int .i64 (0 : Int), str [], str [], slv (some (w.heap.size + 1 + 1 + 1)) 2 2]) (res_c rfl rfl (lv_ex xn5)) rfl ?_
 refine ⟨_, rfl, by omega, ?_, ?_⟩
 · exact (xE E_w)
 · repeat (first | ((with_reducible refine blk_as ?_ ?_); (· simp [size_set]); (· exact rfl)) | with_reducible refine blk_drw ?_ | with_reducible refine blk_alloc ?_ | with_reducible refine blk_set_ne ?_ (by dsimp only; omega) _)
def ExPost (c : Rx) (w : World) (d : Nat) (X : Xs) (f : List Tok → Res Ex) (e : Ending) (w' : World) : Prop :=
 ∃ (op : Str) (n : Nat) (t o : Str) (args : List Ex) (g : Option Nat) (cap a' k' p' : Nat), e = .returned (.tuple #[.agg #[str op, .int .i64 (n : Int), str t, str o, slv g args.length cap], sv c a' d k' p']) ∧
  In c (X.then f) a' k' p' ∧ Got X f (.mk op n t o args) ∧ ExC w' (fun b => w.heap.size ≤ b) (exCells op n t o (slv g args.length cap)) (.mk op n t o args) ∧ Ext w w'
theorem Touch.drews {S : Nat → Prop} {a w : World} (h : Touch S a w) : Touch S a.drew w.drew := ⟨h.os, h.tape, h.output, h.size, h.block⟩
theorem late5d (w : World) (b : Nat) (v0 v1 v2 v3 v4 : Value) : Touch (fun k => k = b) w.drew (((((w.setCell ⟨b, 0, none⟩ v0).setCell ⟨b, 1, none⟩ v1).setCell ⟨b, 2, none⟩ v2).setCell ⟨b, 3, none⟩ v3).setCell ⟨b, 4, none⟩ v4).drew := (late5 (Touch.refl _ w) v0 v1 v2 v3 v4).drews
theorem ritem_ok (c : Rx) (X : Xs) (a d k p : Nat) (w : World) (h : Rk w c) (hx : In c X a k p) :
   Calls Tryz.prog 136 #[sv c a d k p] w (ExPost c w d X (item c.E)) := by
 have H := Lib.hid h
 have HX := Lib.hid hx
 have hsm := h.small
 have hle := hx.1
 clear h hx
 unfold sv
 have E_w : Hid (Ext w w) := Lib.hid (Ext.refl w)
 go_enter Tryz.func136, Tryz.ntmps136
 go_wp2_with fail
 refine (rname_ok c X a d k p _ (H.out.ext (xE E_w)) HX.out).mono ?_
 rintro e w2 ⟨n, a1, k1, p1, rfl, h_I1, h_G1, hE⟩
 have n_ := nst3 w
 have E_w2 := aE E_w hE;have Bs_w2 := nk6 (w.heap.size) hE;have Bx_w2 := nk5 (w.heap.size + 1) hE;have Br_w2 := nk6 (w.heap.size + 1 + 1) hE
 clear hE
 have z_w2 := E_w2.out.size;have c_s := opn6 Bs_w2;have c_x := opn5 Bx_w2;have c_r := opn6 Br_w2
 (try unfold sv)
 have I1 := Lib.hid h_I1; clear h_I1
 have G1 := Lib.hid h_G1; clear h_G1
 go_wp2_with fail
 refine (ris_ok c _ a1 d k1 p1 [46] _ (H.out.ext (xE E_w2)) I1.out).mono ?_
 rintro e w3 ⟨rfl, hE⟩
 have E_w3 := aE E_w2 hE;have Bs_w3 := bk6 Bs_w2 hE;have Bx_w3 := bk5 Bx_w2 hE;have Br_w3 := bk6 Br_w2 hE
 clear hE c_s c_x c_r Bs_w2 Bx_w2 Br_w2
 have z_w3 := E_w3.out.size;have c_s := opn6 Bs_w3;have c_x := opn5 Bx_w3;have c_r := opn6 Br_w3
 have hle1 := I1.out.1
 cases h1 : isX [46] (X.then (name c.E)) with
 | false =>
   have H1 := Lib.hid h1
   clear h1
   go_wp2
   letI : Tch.TS := ⟨fun b => b = w.heap.size + 1⟩
   refine Tch.region_calm [.p 0, .p 1, .e 2, .h 3 true, .h 4 false] f_mixed (by kernel_rfl) (by kernel_rfl) ?_
   repeat (refine Tch.plan_p rfl (fun K hK => ?_); go_simp; refine hK _ ?_; clear hK K)
   refine Tch.plan_e1 rfl rfl (.agg #[slv c.g c.all.length c.cap, .int .i64 (a1 : Int), .int .i64 (c.E : Int), .int .i64 (d : Int), .int .i64 (k1 : Int), .int .i64 (p1 : Int)]) (fun w' he => ?_) (fun K hK => ?_)
   · have d := tch6 he c_s (fun (e : _ = _) => by omega)
     clear c_s he
     go_simp
   go_simp; refine hK _ ?_; clear hK K
   repeat (refine Tch.plan_p rfl (fun K hK => ?_); go_simp; refine hK _ ?_; clear hK K)
   refine Tch.plan_ct rfl rfl (fun K _ hK => ?_)
   go_wp2
   refine hK _ _ (late5d _ _ _ _ _ _ _) ?_; clear hK K
   refine Tch.plan_c rfl rfl (fun K _ hK => ?_)
   go_wp2
   refine tch_done ?_
   go_wp2
   (try simp only [Exit.inBlock, Exit.then])
   refine bodyPost_ret (v := .tuple #[.agg #[str [110, 97, 109, 101], .int .i64 (0 : Int), str n, str [], slv none 0 0], .agg #[slv c.g c.all.length c.cap, .int .i64 (a1 : Int), .int .i64 (c.E : Int), .int .i64 (d : Int), .int .i64 (k1 : Int), .int .i64 (p1 : Int)]]) (res_cc rfl rfl (lv_ex (xb5 Bx_w3)) rfl (lv_src (xb6 Br_w3))) rfl ?_
   obtain ⟨h2, h3⟩ := run_end (F := item c.E) (z := eName n []) (by rw [show item c.E = fun ts => bnd (name c.E ts) fun n r => if isT [46] r then bnd (name c.E r.tail) fun m r' => .ok (eName m n, r') else .ok (eName n [], r) from rfl, run_bnd G1.out, run_no H1.out]) I1.out
   refine ⟨_, 0, _, _, [], none, 0, _, _, _, rfl, h2, h3, leaf_cells _ _ _ _ _ _, ?_⟩
   exact (xE E_w3)
 | true =>
   have H1 := Lib.hid h1
   clear h1
   have hlt : a1 < c.all.length := (I1.out.step H1.out).1
   go_wp2_with fail
   refine (rname_ok c _ (a1 + 1) d k1 p1 _ (H.out.ext (xE E_w3)) (I1.out.step H1.out).2.1).mono ?_
   rintro e w4 ⟨m, a2, k2, p2, rfl, h_I2, h_G2, hE⟩
   have E_w4 := aE E_w3 hE;have Bs_w4 := bk6 Bs_w3 hE;have Bx_w4 := bk5 Bx_w3 hE;have Br_w4 := bk6 Br_w3 hE
   clear hE c_s c_x c_r Bs_w3 Bx_w3 Br_w3
   have z_w4 := E_w4.out.size;have c_s := opn6 Bs_w4;have c_x := opn5 Bx_w4;have c_r := opn6 Br_w4
   (try unfold sv)
   have I2 := Lib.hid h_I2; clear h_I2
   have G2 := Lib.hid h_G2; clear h_G2
   go_wp2
   refine wp_nm (fun w5 hE => ?_)
   have n_s_u := ne2 (show w.heap.size ≠ w4.heap.size by omega);have n_x_u := ne2 (show w.heap.size + 1 ≠ w4.heap.size by omega);have n_r_u := ne2 (show w.heap.size + 1 + 1 ≠ w4.heap.size by omega)
   have E_w5 := aE E_w4 hE;have Bs_w5 := bk6 Bs_w4 hE;have Bx_w5 := bk5 Bx_w4 hE;have Br_w5 := bk6 Br_w4 hE;have Bu_w5 := nk6 (w4.heap.size) hE
   clear hE c_s c_x c_r Bs_w4 Bx_w4 Br_w4
   have z_w5 := E_w5.out.size;have c_s := opn6 Bs_w5;have c_x := opn5 Bx_w5;have c_r := opn6 Br_w5;have c_u := opn6 Bu_w5
   letI : Tch.TS := ⟨fun b => b = w.heap.size + 1⟩
   refine Tch.region_calm [.p 0, .p 1, .p 2, .e 3, .h 4 true, .h 5 false] f_mixed (by kernel_rfl) (by kernel_rfl) ?_
   repeat (refine Tch.plan_p rfl (fun K hK => ?_); go_simp; refine hK _ ?_; clear hK K)
   refine Tch.plan_e1 rfl rfl (.agg #[slv c.g c.all.length c.cap, .int .i64 (a2 : Int), .int .i64 (c.E : Int), .int .i64 (d : Int), .int .i64 (k2 : Int), .int .i64 (p2 : Int)]) (fun w' he => ?_) (fun K hK => ?_)
   · have d := tch6 he c_u (fun (e : _ = _) => by omega)
     clear c_u he
     go_simp
   go_simp; refine hK _ ?_; clear hK K
   repeat (refine Tch.plan_p rfl (fun K hK => ?_); go_simp; refine hK _ ?_; clear hK K)
   refine Tch.plan_ct rfl rfl (fun K _ hK => ?_)
   go_wp2
   refine hK _ _ (late5d _ _ _ _ _ _ _) ?_; clear hK K
   refine Tch.plan_c rfl rfl (fun K _ hK => ?_)
   go_wp2
   refine tch_done ?_
   go_wp2
   (try simp only [Exit.inBlock, Exit.then])
   refine bodyPost_ret (v := .tuple #[.agg #[str [110, 97, 109, 101], .int .i64 (0 : Int), str m, str n, slv none 0 0], .agg #[slv c.g c.all.length c.cap, .int .i64 (a2 : Int), .int .i64 (c.E : Int), .int .i64 (d : Int), .int .i64 (k2 : Int), .int .i64 (p2 : Int)]]) (res_cc rfl rfl (lv_ex (xb5 Bx_w5)) rfl (lv_src (xb6 Br_w5))) rfl ?_
   obtain ⟨h2, h3⟩ := run_end (F := item c.E) (z := eName m n) (by rw [show item c.E = fun ts => bnd (name c.E ts) fun n r => if isT [46] r then bnd (name c.E r.tail) fun m r' => .ok (eName m n, r') else .ok (eName n [], r) from rfl, run_bnd G1.out, run_yes (A := fun r => bnd (name c.E r) fun m r' => .ok (eName m n, r')) (B := fun r => .ok (eName n [], r)) H1.out, run_bnd G2.out]) I2.out
   refine ⟨_, 0, _, _, [], none, 0, _, _, _, rfl, h2, h3, leaf_cells _ _ _ _ _ _, ?_⟩
   exact (xE E_w5)
def LsPost {α : Type} (K : Kd α) (T : TypeId) (c : Rx) (w : World) (d : Nat) (X : Xs) (f : List Tok → Res (List α)) (e : Ending) (w' : World) : Prop :=
 ∃ (l : List α) (g : Option Nat) (cap a' k' p' : Nat), e = .returned (.tuple #[slv g l.length cap, sv c a' d k' p']) ∧ In c (X.then f) a' k' p' ∧ Got X f l ∧ VLs K T w' w.heap.size (slv g l.length cap) l ∧ Ext w w'
theorem ls_put {α : Type} {K : Kd α} {A0 : Nat → Prop} {w w' : World} {g : Option Nat} {fl cs : List Value} {xs : List α} {x : α} {g' : Nat}
  (hfl : LsC K w (fun b => A0 b ∧ g ≠ some b) fl xs) (hcs : K.C w (fun b => A0 b ∧ g ≠ some b) cs x) (hT : Touch (fun k => g = some k) w w') (hat : g = some g' ∨ g' = w.heap.size) (hg : ∀ b, g = some b → A0 b) (hn : A0 w.heap.size) :
  LsC K w' (fun b => A0 b ∧ some g' ≠ some b) (fl ++ cs) (xs ++ [x]) ∧ A0 g' := by
 have hk : ∀ b, b < w.heap.size → (A0 b ∧ g ≠ some b) → w'.heap[b]? = w.heap[b]? ∧ A0 b ∧ some g' ≠ some b := by
  intro b hb ha
  refine ⟨hT.block b hb ha.2, ha.1, fun e => ?_⟩
  cases e
  rcases hat with hat | hat
  · exact ha.2 hat
  · omega
 refine ⟨LsC.append K (LsC.keep K hk fl xs hfl) (LsC.one K (K.keep hk cs x hcs)), ?_⟩
 rcases hat with hat | hat
 · exact hg _ hat
 · rw [hat]; exact hn
structure LrInv {α : Type} (K : Kd α) (T : TypeId) (A0 : Nat → Prop) (w : World) (c : Rx) (d : Nat) (X : Xs) (one : List Tok → Res α) (gk : Nat) (v5 : Value) (wr : World) (Y : Xs) (f a k p : Nat) (xs : List α) (g : Option Nat) (cap : Nat) (fl : List Value) : Prop where
 hk : gk = mu Y
 hv : v5 = slv g xs.length cap
 ext : Ext w wr
 bs : wr.heap[w.heap.size]? = some (.cells #[slv c.g c.all.length c.cap, .int .i64 (a : Int), .int .i64 (c.E : Int), .int .i64 (d : Int), .int .i64 (k : Int), .int .i64 (p : Int)] 71 (0, 0))
 br : wr.heap[w.heap.size + 1]? = some (.cells #[.slice none 0 0, .int .i64 (0 : Int), .int .i64 (0 : Int), .int .i64 (0 : Int), .int .i64 (0 : Int), .int .i64 (0 : Int)] 71 (0, 0))
 inn : In c Y a k p
 few : Few Y f
 run : X.run (sep one) = Y.run (sepL one f xs)
 sl : Sl wr T K.size g xs.length cap fl
 own : ∀ b, g = some b → A0 b
 ls : LsC K wr (fun b => A0 b ∧ g ≠ some b) fl xs
 len : xs.length + mu Y ≤ 5000
theorem mu_le {c : Rx} {X : Xs} {a k p : Nat} (h : In c X a k p) : mu X ≤ c.all.length + 1 := by
 obtain ⟨ha, hX⟩ := h
 cases X with
 | error e => exact Nat.zero_le _
 | ok ts =>
   obtain ⟨-, rfl⟩ := hX
   show (c.all.drop a).length + 1 ≤ _
   rw [List.length_drop]; omega
theorem sl_one {α : Type} {K : Kd α} {T : TypeId} {w : World} {b : Nat} {A : Nat → Prop} {cs : List Value} {x : α} (hb : w.heap[b]? = some (.cells cs.toArray T (0, 0))) (hc : K.C w A cs x) : Sl w T K.size (some b) 1 1 cs := by
 have hl := K.len hc
 refine ⟨by rw [hl]; omega, _, hb, Nat.le_refl _, by simp [maxLen], by simp [hl], ?_⟩
 rw [List.take_of_length_le]
 simp [hl]
theorem vls_end {α : Type} {K : Kd α} {T : TypeId} {A0 S : Nat → Prop} {w w' : World} {lo : Nat} {g : Option Nat} {cap : Nat} {fl : List Value} {xs : List α} (hT : Touch S w w') (hs : Sl w T K.size g xs.length cap fl) (hl : LsC K w (fun b => A0 b ∧ g ≠ some b) fl xs)
  (ho : ∀ b, g = some b → A0 b) (hS : ∀ b, A0 b → ¬ S b) (hlo : ∀ b, A0 b → lo ≤ b) : VLs K T w' lo (slv g xs.length cap) xs :=
 ⟨g, cap, fl, rfl, hs.touch hT (fun b hb => hS b (ho b hb)), fun b hb => hlo b (ho b hb), LsC.keep K (fun b hb ha => ⟨hT.block b hb (hS b ha.1), hlo b ha.1, ha.2⟩) _ _ hl⟩
theorem rnames_ok (c : Rx) (X : Xs) (a d k p : Nat) (w : World) (h : Rk w c) (hx : In c X a k p) :
  Calls Tryz.prog 98 #[sv c a d k p] w (LsPost StrK 9 c w d X (sep (name c.E))) := by
 have H := Lib.hid h
 have HX := Lib.hid hx
 have hsm := h.small
 have hle := hx.1
 clear h hx
 unfold sv
 have E_w : Hid (Ext w w) := Lib.hid (Ext.refl w)
 go_enter Tryz.func98, Tryz.ntmps98
 go_wp2_with fail
 refine (rname_ok c X a d k p _ (H.out.ext (xE E_w)) HX.out).mono ?_
 rintro e w2 ⟨n, a1, k1, p1, rfl, h_I1, h_G1, hE⟩
 have n_s_r := ne2 (show w.heap.size ≠ w.heap.size + 1 by omega)
 have E_w2 := aE E_w hE;have Bs_w2 := nk6 (w.heap.size) hE;have Br_w2 := nk6 (w.heap.size + 1) hE
 clear hE
 have z_w2 := E_w2.out.size;have c_s := opn6 Bs_w2;have c_r := opn6 Br_w2
 (try unfold sv)
 have I1 := Lib.hid h_I1; clear h_I1
 have G1 := Lib.hid h_G1; clear h_G1
 go_wp2
 refine wp_nm (fun w3 hE => ?_)
 have n_s_o := ne2 (show w.heap.size ≠ w2.heap.size by omega);have n_r_o := ne2 (show w.heap.size + 1 ≠ w2.heap.size by omega)
 have E_w3 := aE E_w2 hE;have Bs_w3 := bk6 Bs_w2 hE;have Br_w3 := bk6 Br_w2 hE;have Bo_w3 := nk1 (w2.heap.size) hE
 clear hE c_s c_r Bs_w2 Br_w2
 have z_w3 := E_w3.out.size;have c_s := opn6 Bs_w3;have c_r := opn6 Br_w3;have c_o := opn1 Bo_w3
 obtain ⟨f0, hf0, hr0⟩ := run_sep G1.out
 have HF0 := Lib.hid hf0
 have HR0 := Lib.hid hr0
 clear hf0 hr0
 go_loopg [5] (mu (X.then (name c.E))) (fun gk v5 wr => ∃ (Y : Xs) (f a k p : Nat) (xs : List Str) (g : Option Nat) (cap : Nat) (fl : List Value), LrInv StrK 9 (fun b => w.heap.size + 1 < b) w c d X (name c.E) gk v5 wr Y f a k p xs g cap fl)
 case atStart =>
  have hC : StrK.C w3 (fun b => w.heap.size + 1 < b ∧ some w2.heap.size ≠ some b) [str n] n := rfl
  exact ⟨_, f0, a1, k1, p1, [n], some w2.heap.size, 1, [str n], rfl, rfl, E_w3.out, Bs_w3.out, Br_w3.out, I1.out, HF0.out, HR0.out, sl_one Bo_w3.out hC, fun b hb => by cases hb; omega, LsC.one StrK hC, by have := mu_le I1.out; simp; omega⟩
 case round =>
  clear c_o n_s_o n_r_o
  obtain ⟨Y, f, ar, kr, pr, xs, g, cap, fl, hI⟩ := hrel
  obtain rfl := hI.hv
  have HI := Lib.hid hI
  have E_wr := Lib.hid hI.ext
  have Bs_wr := Lib.hid hI.bs
  have Br_wr := Lib.hid hI.br
  have z_wr : w.heap.size ≤ wr.heap.size := hI.ext.size
  have hler : ar ≤ c.all.length := hI.inn.1
  clear hI
  clear c_s c_r
  have c_s := opn6 Bs_wr;have c_r := opn6 Br_wr
  go_wp2_with fail
  refine (ris_ok c Y ar d kr pr [44] _ (H.out.ext (xE E_wr)) HI.out.inn).mono ?_
  rintro e w4 ⟨rfl, hE⟩
  have E_w4 := aE E_wr hE;have Bs_w4 := bk6 Bs_wr hE;have Br_w4 := bk6 Br_wr hE;have T_w4 : Hid (Touch (S2 w) wr w4) := aT hE
  clear hE c_s c_r Bs_wr Br_wr
  have z_w4 := E_w4.out.size;have c_s := opn6 Bs_w4;have c_r := opn6 Br_w4
  have HSL4 := Lib.hid (HI.out.sl.touch T_w4.out (fun b hb e => by have := HI.out.own b hb; omega))
  have HLS4 := Lib.hid (LsC.keep StrK (fun b hb ha => ⟨T_w4.out.block b hb (fun e => by have := ha.1; omega), ha⟩) _ _ HI.out.ls)
  cases h1 : isX [44] Y with
  | false =>
    have H1 := Lib.hid h1
    clear h1
    go_wp2
    refine region_calm [.p 0, .l 1, .p 2, .h 3 false] f_mixed (by kernel_rfl) (by kernel_rfl) ?_
    repeat ((first | refine plan_p rfl (fun K hK => ?_) | refine plan_l rfl (fun K hK => ?_)); go_simp; refine hK _ ?_; clear hK K)
    refine plan_c rfl rfl (fun K _ hK => ?_)
    go_wp2
    refine plan_done ?_
    go_wp2
    (try simp only [Exit.inBlock, Exit.then])
    refine bodyPost_ret (v := .tuple #[slv g xs.length cap, .agg #[slv c.g c.all.length c.cap, .int .i64 (ar : Int), .int .i64 (c.E : Int), .int .i64 (d : Int), .int .i64 (kr : Int), .int .i64 (pr : Int)]]) (res_tc rfl rfl rfl (lv_src (xb6 Br_w4))) rfl ?_
    obtain ⟨h2, h3⟩ := run_end (by rw [HI.out.run, run_sepL_no H1.out]) HI.out.inn
    refine ⟨xs, g, cap, _, _, _, rfl, h2, h3, ?_, ?_⟩
    · exact vls_end (S := (S2 w)) xT HSL4.out HLS4.out HI.out.own (fun b hb e => by omega) (fun b hb => by omega)
    · exact (xE E_w4)
  | true =>
    have H1 := Lib.hid h1
    clear h1
    have hlt : ar < c.all.length := (HI.out.inn.step H1.out).1
    have hlx : xs.length ≤ 5000 := by have := HI.out.len; omega
    go_wp2_with fail
    refine (rname_ok c _ (ar + 1) d kr pr _ (H.out.ext (xE E_w4)) (HI.out.inn.step H1.out).2.1).mono ?_
    rintro e w5 ⟨m, a2, k2, p2, rfl, h_I2, h_G2, hE⟩
    have E_w5 := aE E_w4 hE;have Bs_w5 := bk6 Bs_w4 hE;have Br_w5 := bk6 Br_w4 hE;have T_w5 : Hid (Touch (S2 w) w4 w5) := aT hE
    clear hE c_s c_r Bs_w4 Br_w4
    have z_w5 := E_w5.out.size;have c_s := opn6 Bs_w5;have c_r := opn6 Br_w5
    (try unfold sv)
    have I2 := Lib.hid h_I2; clear h_I2
    have G2 := Lib.hid h_G2; clear h_G2
    have HSL5 := Lib.hid (HSL4.out.touch T_w5.out (fun b hb e => by have := HI.out.own b hb; omega))
    have HLS5 := Lib.hid (LsC.keep StrK (fun b hb ha => ⟨T_w5.out.block b hb (fun e => by have := ha.1; omega), ha⟩) _ _ HLS4.out)
    have hgl : ∀ b, g = some b → b < w5.heap.size := fun b hb => by
     have h1 := HSL5.out
     rw [hb] at h1
     exact h1.block_lt
    have HGL := Lib.hid hgl
    clear hgl
    go_wp2_with (at_builtin; refine (fun (h : True → _) => h trivial) ?_)
    intro _
    refine app_lit ei_str rfl (.tmp 24) (.tmp 26) rfl (g := g) (n := xs.length) (cap := cap) (b := w5.heap.size) (by rfl) (HSL5.out.touch (S := (S2 w)) xT (fun b hb e => by have := HI.out.own b hb; omega)) (by rfl) rfl (blk_new_at (.cells [str m].toArray 9) (by simp [size_set])) (StrK.one (w := w) (A := fun _ => True) (x := m) rfl) (by omega) (by omega) ?_
    intro g6 cap6 w6 hS6 hT6 hat6
    have HSL6 := Lib.hid hS6
    have E_w6 := Lib.hid (Touch.fresh' (a := w) (xE E_w5) hT6 (fun i e => by have := HI.out.own i e; omega))
    have Bs_w6 : Hid (w6.heap[w.heap.size]? = some (.cells #[slv c.g c.all.length c.cap, .int .i64 (a2 : Int), .int .i64 (c.E : Int), .int .i64 (d : Int), .int .i64 (k2 : Int), .int .i64 (p2 : Int)] 71 (0, 0))) := Lib.hid (hT6.old (xb6 Bs_w5) (fun e => by have := HI.out.own _ e; omega))
    have Br_w6 : Hid (w6.heap[w.heap.size + 1]? = some (.cells #[.slice none 0 0, .int .i64 (0 : Int), .int .i64 (0 : Int), .int .i64 (0 : Int), .int .i64 (0 : Int), .int .i64 (0 : Int)] 71 (0, 0))) := Lib.hid (hT6.old (xb6 Br_w5) (fun e => by have := HI.out.own _ e; omega))
    obtain ⟨q1, q2⟩ := ls_put (K := StrK) (A0 := fun b => w.heap.size + 1 < b) (x := m) (cs := [str m]) (LsC.keep StrK (fun b hb ha => ⟨Touch.block (S := (S2 w)) xT b hb (fun e => by have := ha.1; omega), ha⟩) _ _ HLS5.out) rfl hT6 hat6 HI.out.own (by simp [size_set]; omega)
    have Q1 := Lib.hid q1
    have Q2 := Lib.hid q2
    clear hS6 hT6 hat6 q1 q2
    have z_w6 : w.heap.size ≤ w6.heap.size := E_w6.out.size
    clear c_s c_r
    have c_s := opn6 Bs_w6;have c_r := opn6 Br_w6
    go_wp2
    obtain ⟨f1, hf1, hfew⟩ := HI.out.few.step H1.out (Suf.name c.E)
    have HST := Lib.hid (mu_step H1.out (Suf.name c.E))
    go_roundg (mu ((behind Y).then (name c.E)))
    case measure => rw [HI.out.hk]; exact HST.out
    case rel =>
     refine ⟨_, f1, a2, k2, p2, xs ++ [m], some g6, cap6, fl ++ [str m], rfl, by rw [List.length_append]; rfl, E_w6.out, Bs_w6.out, Br_w6.out, I2.out, hfew, ?_, by rw [List.length_append]; exact HSL6.out, fun b hb => by cases hb; exact Q2.out, Q1.out, ?_⟩
     · rw [HI.out.run, hf1, run_sepL_yes H1.out G2.out]
     · have h1 := HI.out.len; have h2 := HST.out; simp; omega
theorem ritems_ok (c : Rx) (X : Xs) (a d k p : Nat) (w : World) (h : Rk w c) (hx : In c X a k p) :
  Calls Tryz.prog 120 #[sv c a d k p] w (LsPost ExK 45 c w d X (sep (item c.E))) := by
 have H := Lib.hid h
 have HX := Lib.hid hx
 have hsm := h.small
 have hle := hx.1
 clear h hx
 unfold sv
 have E_w : Hid (Ext w w) := Lib.hid (Ext.refl w)
 go_enter Tryz.func120, Tryz.ntmps120
 go_wp2_with fail
 refine (ritem_ok c X a d k p _ (H.out.ext (xE E_w)) HX.out).mono ?_
 rintro e w2 ⟨op, n, t, o, args, ga, ca, a1, k1, p1, rfl, h_I1, h_G1, h_C1, hE⟩
 have n_s_r := ne2 (show w.heap.size ≠ w.heap.size + 1 by omega)
 have E_w2 := aE E_w hE;have Bs_w2 := nk6 (w.heap.size) hE;have Br_w2 := nk6 (w.heap.size + 1) hE
 clear hE
 have z_w2 := E_w2.out.size;have c_s := opn6 Bs_w2;have c_r := opn6 Br_w2
 (try unfold sv)
 have I1 := Lib.hid h_I1; clear h_I1
 have G1 := Lib.hid h_G1; clear h_G1
 have C1 := Lib.hid h_C1; clear h_C1
 go_wp2
 refine wp_nm (fun w3 hE => ?_)
 have n_s_e := ne2 (show w.heap.size ≠ w2.heap.size by omega);have n_s_o := ne2 (show w.heap.size ≠ w2.heap.size + 1 by omega);have n_r_e := ne2 (show w.heap.size + 1 ≠ w2.heap.size by omega);have n_r_o := ne2 (show w.heap.size + 1 ≠ w2.heap.size + 1 by omega);have n_e_o := ne2 (show w2.heap.size ≠ w2.heap.size + 1 by omega)
 have E_w3 := aE E_w2 hE;have Bs_w3 := bk6 Bs_w2 hE;have Br_w3 := bk6 Br_w2 hE;have Be_w3 := nk5 (w2.heap.size) hE;have Bo_w3 := nk5 (w2.heap.size + 1) hE;have T_w3 : Hid (Touch (S2 w) w2 w3) := aT hE
 clear hE c_s c_r Bs_w2 Br_w2
 have z_w3 := E_w3.out.size;have c_s := opn6 Bs_w3;have c_r := opn6 Br_w3;have c_e := opn5 Be_w3;have c_o := opn5 Bo_w3
 obtain ⟨f0, hf0, hr0⟩ := run_sep G1.out
 have HF0 := Lib.hid hf0
 have HR0 := Lib.hid hr0
 clear hf0 hr0
 go_loopg [5] (mu (X.then (item c.E))) (fun gk v5 wr => ∃ (Y : Xs) (f a k p : Nat) (xs : List Ex) (g : Option Nat) (cap : Nat) (fl : List Value), LrInv ExK 45 (fun b => w.heap.size + 1 < b ∧ b ≠ w2.heap.size) w c d X (item c.E) gk v5 wr Y f a k p xs g cap fl ∧ ∃ v0 v1 v2 v3 v4 : Value, wr.heap[w2.heap.size]? = some (.cells #[v0, v1, v2, v3, v4] 45 (0, 0)))
 case atStart =>
  have hC : ExK.C w3 (fun b => (w.heap.size + 1 < b ∧ b ≠ w2.heap.size) ∧ some (w2.heap.size + 1) ≠ some b) (exCells op n t o (slv ga args.length ca)) (.mk op n t o args) :=
    ExC.keep (fun b hb ha => ⟨T_w3.out.block b hb (fun e => by simp [size_set] at ha; omega), by simp [size_set] at ha; omega, fun e => by cases e; omega⟩) _ _ C1.out
  exact ⟨_, f0, a1, k1, p1, [.mk op n t o args], some (w2.heap.size + 1), 1, _, ⟨rfl, rfl, E_w3.out, Bs_w3.out, Br_w3.out, I1.out, HF0.out, HR0.out, sl_one (cs := exCells op n t o (slv ga args.length ca)) Bo_w3.out hC, fun b hb => by cases hb; omega, LsC.one ExK hC, by have := mu_le I1.out; simp; omega⟩, _, _, _, _, _, Be_w3.out⟩
 case round =>
  clear c_o n_s_o n_r_o n_e_o
  obtain ⟨Y, f, ar, kr, pr, xs, g, cap, fl, hI, v0, v1, v2, v3, v4, hbe⟩ := hrel
  have Be_wr := Lib.hid hbe
  have hew : w2.heap.size < wr.heap.size := blk_lt hbe
  clear hbe
  obtain rfl := hI.hv
  have HI := Lib.hid hI
  have E_wr := Lib.hid hI.ext
  have Bs_wr := Lib.hid hI.bs
  have Br_wr := Lib.hid hI.br
  have z_wr : w.heap.size ≤ wr.heap.size := hI.ext.size
  have hler : ar ≤ c.all.length := hI.inn.1
  clear hI
  clear c_s c_r c_e
  have c_s := opn6 Bs_wr;have c_r := opn6 Br_wr;have c_e := opn5 Be_wr
  go_wp2_with fail
  refine (ris_ok c Y ar d kr pr [44] _ (H.out.ext (xE E_wr)) HI.out.inn).mono ?_
  rintro e w4 ⟨rfl, hE⟩
  have E_w4 := aE E_wr hE;have Bs_w4 := bk6 Bs_wr hE;have Br_w4 := bk6 Br_wr hE;have Be_w4 := bk5 Be_wr hE;have T_w4 : Hid (Touch (fun b => b = w.heap.size ∨ b = w.heap.size + 1 ∨ b = w2.heap.size) wr w4) := aT hE
  clear hE c_s c_r c_e Bs_wr Br_wr Be_wr
  have z_w4 := E_w4.out.size;have c_s := opn6 Bs_w4;have c_r := opn6 Br_w4;have c_e := opn5 Be_w4
  have h4e : w2.heap.size < w4.heap.size := by omega
  have h4r : w.heap.size + 1 < w4.heap.size := by omega
  have HSL4 := Lib.hid (HI.out.sl.touch T_w4.out (fun b hb e => by have := HI.out.own b hb; omega))
  have HLS4 := Lib.hid (LsC.keep ExK (fun b hb ha => ⟨T_w4.out.block b hb (fun e => by have := ha.1; omega), ha⟩) _ _ HI.out.ls)
  cases h1 : isX [44] Y with
  | false =>
    have H1 := Lib.hid h1
    clear h1
    go_wp2
    refine region_calm [.p 0, .l 1, .p 2, .h 3 false] f_mixed (by kernel_rfl) (by kernel_rfl) ?_
    repeat ((first | refine plan_p rfl (fun K hK => ?_) | refine plan_l rfl (fun K hK => ?_)); go_simp; refine hK _ ?_; clear hK K)
    refine plan_c rfl rfl (fun K _ hK => ?_)
    go_wp2
    refine plan_done ?_
    go_wp2
    (try simp only [Exit.inBlock, Exit.then])
    refine bodyPost_ret (v := .tuple #[slv g xs.length cap, .agg #[slv c.g c.all.length c.cap, .int .i64 (ar : Int), .int .i64 (c.E : Int), .int .i64 (d : Int), .int .i64 (kr : Int), .int .i64 (pr : Int)]]) (res_tc rfl rfl rfl (lv_src (xb6 Br_w4))) rfl ?_
    obtain ⟨h2, h3⟩ := run_end (by rw [HI.out.run, run_sepL_no H1.out]) HI.out.inn
    refine ⟨xs, g, cap, _, _, _, rfl, h2, h3, ?_, ?_⟩
    · exact vls_end (S := (fun b => b = w.heap.size ∨ b = w.heap.size + 1 ∨ b = w2.heap.size)) xT HSL4.out HLS4.out HI.out.own (fun b hb e => by omega) (fun b hb => by omega)
    · exact (xE E_w4)
  | true =>
    have H1 := Lib.hid h1
    clear h1
    have hlt : ar < c.all.length := (HI.out.inn.step H1.out).1
    have hlx : xs.length ≤ 5000 := by have := HI.out.len; omega
    have HGL4 : Hid (∀ b, g = some b → b < w4.heap.size) := Lib.hid fun b hb => by
     have h1 := HSL4.out
     rw [hb] at h1
     exact h1.block_lt
    go_wp2_with fail
    refine (ritem_ok c _ (ar + 1) d kr pr _ (H.out.ext (xE E_w4)) (HI.out.inn.step H1.out).2.1).mono ?_
    rintro e w5 ⟨op, n, t, o, args, ga, ca, a2, k2, p2, rfl, h_I2, h_G2, h_C2, hE⟩
    have E_w5 := aE E_w4 hE;have Bs_w5 := bk6 Bs_w4 hE;have Br_w5 := bk6 Br_w4 hE;have Be_w5 := bk5 Be_w4 hE;have T_w5 : Hid (Touch (fun b => b = w.heap.size ∨ b = w.heap.size + 1 ∨ b = w2.heap.size) w4 w5) := aT hE
    clear hE c_s c_r c_e Bs_w4 Br_w4 Be_w4
    have z_w5 := E_w5.out.size;have c_s := opn6 Bs_w5;have c_r := opn6 Br_w5;have c_e := opn5 Be_w5
    (try unfold sv)
    have I2 := Lib.hid h_I2; clear h_I2
    have G2 := Lib.hid h_G2; clear h_G2
    have C2 := Lib.hid h_C2; clear h_C2
    have HSL5 := Lib.hid (HSL4.out.touch T_w5.out (fun b hb e => by have := HI.out.own b hb; omega))
    have HLS5 := Lib.hid (LsC.keep ExK (fun b hb ha => ⟨T_w5.out.block b hb (fun e => by have := ha.1; omega), ha⟩) _ _ HLS4.out)
    have hgl : ∀ b, g = some b → b < w5.heap.size := fun b hb => by
     have h1 := HSL5.out
     rw [hb] at h1
     exact h1.block_lt
    have HGL := Lib.hid hgl
    clear hgl
    go_wp2_with (at_builtin; refine (fun (h : True → _) => h trivial) ?_)
    intro _
    refine list_nm (fun w7 hE => ?_)
    have n_s_o := ne2 (show w.heap.size ≠ w5.heap.size by omega);have n_r_o := ne2 (show w.heap.size + 1 ≠ w5.heap.size by omega);have n_e_o := ne2 (show w2.heap.size ≠ w5.heap.size by omega)
    have E_w7 := aE E_w5 hE;have Bs_w7 := bk6 Bs_w5 hE;have Br_w7 := bk6 Br_w5 hE;have Be_w7 := bk5 Be_w5 hE;have Bo_w7 := nk5 (w5.heap.size) hE;have T_w7 : Hid (Touch (fun b => b = w.heap.size ∨ b = w.heap.size + 1 ∨ b = w2.heap.size) w5 w7) := aT hE
    clear hE c_s c_r c_e Bs_w5 Br_w5 Be_w5
    have z_w7 := E_w7.out.size;have c_s := opn6 Bs_w7;have c_r := opn6 Br_w7;have c_e := opn5 Be_w7;have c_o := opn5 Bo_w7
    have HSL7 := Lib.hid (HSL5.out.touch T_w7.out (fun b hb e => by have := HI.out.own b hb; omega))
    have HLS7 := Lib.hid (LsC.keep ExK (fun b hb ha => ⟨T_w7.out.block b hb (fun e => by have := ha.1; omega), ha⟩) _ _ HLS5.out)
    have HC7 : ExK.C w7 (fun b => (w.heap.size + 1 < b ∧ b ≠ w2.heap.size) ∧ g ≠ some b) (exCells op n t o (slv ga args.length ca)) (.mk op n t o args) := ExC.keep (fun b hb ha => ⟨T_w7.out.block b hb (fun e => by simp [size_set] at ha; omega), by simp [size_set] at ha; omega, fun e => by have h1 := HGL4.out b e; simp [size_set] at ha; omega⟩) _ _ C2.out
    have HC8 := Lib.hid HC7
    clear HC7
    refine app_lit ei_ex rfl (.tmp 24) (.tmp 26) rfl (g := g) (n := xs.length) (cap := cap) (b := w5.heap.size) (by rfl) HSL7.out (by rfl) rfl (news := exCells op n t o (slv ga args.length ca)) Bo_w7.out C2.out.one (by omega) (by omega) ?_
    intro g6 cap6 w6 hS6 hT6 hat6
    have HSL6 := Lib.hid hS6
    have E_w6 := Lib.hid (Touch.fresh' (a := w) E_w7.out hT6 (fun i e => by have := HI.out.own i e; omega))
    have Bs_w6 := Lib.hid (hT6.old Bs_w7.out (fun e => by have := HI.out.own _ e; omega))
    have Br_w6 := Lib.hid (hT6.old Br_w7.out (fun e => by have := HI.out.own _ e; omega))
    have Be_w6 := Lib.hid (hT6.old Be_w7.out (fun e => by have := HI.out.own _ e; omega))
    obtain ⟨q1, q2⟩ := ls_put (K := ExK) (A0 := (fun b => w.heap.size + 1 < b ∧ b ≠ w2.heap.size)) (x := .mk op n t o args) (cs := exCells op n t o (slv ga args.length ca)) HLS7.out HC8.out hT6 hat6 HI.out.own ⟨by omega, by omega⟩
    have Q1 := Lib.hid q1
    have Q2 := Lib.hid q2
    clear hS6 hT6 hat6 q1 q2
    have z_w6 : w.heap.size ≤ w6.heap.size := E_w6.out.size
    clear c_s c_r c_e c_o
    clear n_s_o n_r_o n_e_o
    have c_s := opn6 Bs_w6;have c_r := opn6 Br_w6;have c_e := opn5 Be_w6
    go_wp2
    obtain ⟨f1, hf1, hfew⟩ := HI.out.few.step H1.out (Suf.item c.E)
    have HST := Lib.hid (mu_step H1.out (Suf.item c.E))
    go_roundg (mu ((behind Y).then (item c.E)))
    case measure => rw [HI.out.hk]; exact HST.out
    case rel =>
     refine ⟨_, f1, a2, k2, p2, xs ++ [.mk op n t o args], some g6, cap6, _, ⟨rfl, by rw [List.length_append]; rfl, E_w6.out, Bs_w6.out, Br_w6.out, I2.out, hfew, ?_, by rw [List.length_append]; exact HSL6.out, fun b hb => by cases hb; exact Q2.out, Q1.out, ?_⟩, _, _, _, _, _, Be_w6.out⟩
     · rw [HI.out.run, hf1, run_sepL_yes H1.out G2.out]
     · have h1 := HI.out.len; have h2 := HST.out; simp; omega
abbrev RdrX (F : FuncId) (c : Rx) (d : Nat) (f : List Tok → Res Ex) : Prop := ∀ (X : Xs) (a k p : Nat) (w : World), Rk w c → In c X a k p → Dp d X → Calls Tryz.prog F #[sv c a d k p] w (ExPost c w d X f)
structure CrInv (w : World) (c : Rx) (d eb : Nat) (X : Xs) (rd : List Tok → Res Ex) (ops : List Str) (gk : Nat) (wr : World) (Y : Xs) (f a k p : Nat) (op : Str) (n : Nat) (t o : Str) (args : List Ex) (g : Option Nat) (cap : Nat) : Prop where
 hk : gk = mu Y
 ext : Ext w wr
 bs : wr.heap[w.heap.size]? = some (.cells #[slv c.g c.all.length c.cap, .int .i64 (a : Int), .int .i64 (c.E : Int), .int .i64 (d : Int), .int .i64 (k : Int), .int .i64 (p : Int)] 71 (0, 0))
 bx : wr.heap[w.heap.size + 1]? = some (.cells #[str [], .int .i64 (0 : Int), str [], str [], .slice none 0 0] 45 (0, 0))
 br : wr.heap[w.heap.size + 1 + 1]? = some (.cells #[.slice none 0 0, .int .i64 (0 : Int), .int .i64 (0 : Int), .int .i64 (0 : Int), .int .i64 (0 : Int), .int .i64 (0 : Int)] 71 (0, 0))
 be : wr.heap[eb]? = some (.cells #[str op, .int .i64 (n : Int), str t, str o, slv g args.length cap] 45 (0, 0))
 inn : In c Y a k p
 few : Few Y f
 dp : Dp d Y
 run : X.run (ch rd ops) = Y.run (chL rd ops f (.mk op n t o args))
 ex : ExC wr (fun b => w.heap.size + 1 + 1 < b ∧ b ≠ eb) (exCells op n t o (slv g args.length cap)) (.mk op n t o args)
theorem rproduct_ok (c : Rx) (d : Nat) (rd : List Tok → Res Ex) (hsuf : ∀ ts, Suf ts (rd ts)) (hrd : RdrX 157 c d rd) : RdrX 154 c d (ch rd [[42]]) := by
 intro X a k p w h hx hd
 have H := Lib.hid h
 have HX := Lib.hid hx
 have HD := Lib.hid hd
 have HRD := Lib.hid hrd
 have HSUF := Lib.hid hsuf
 have hsm := h.small
 have hle := hx.1
 have hdd := hd.1
 clear h hx hd hrd hsuf
 unfold sv
 have E_w : Hid (Ext w w) := Lib.hid (Ext.refl w)
 go_enter Tryz.func154, Tryz.ntmps154
 go_wp2_with fail
 refine (HRD.out X a k p _ (H.out.ext (xE E_w)) HX.out HD.out).mono ?_
 rintro e w2 ⟨op, n, t, o, args, g, cap, a1, k1, p1, rfl, h_I1, h_G1, h_C1, hE⟩
 have n_ := nst3 w
 have E_w2 := aE E_w hE;have Bs_w2 := nk6 (w.heap.size) hE;have Bx_w2 := nk5 (w.heap.size + 1) hE;have Br_w2 := nk6 (w.heap.size + 1 + 1) hE
 clear hE
 have z_w2 := E_w2.out.size;have c_s := opn6 Bs_w2;have c_x := opn5 Bx_w2;have c_r := opn6 Br_w2
 (try unfold sv)
 have I1 := Lib.hid h_I1; clear h_I1
 have G1 := Lib.hid h_G1; clear h_G1
 have C1 := Lib.hid h_C1; clear h_C1
 go_wp2
 refine wp_nm (fun w3 hE => ?_)
 have n_s_e := ne2 (show w.heap.size ≠ w2.heap.size by omega);have n_x_e := ne2 (show w.heap.size + 1 ≠ w2.heap.size by omega);have n_r_e := ne2 (show w.heap.size + 1 + 1 ≠ w2.heap.size by omega)
 have E_w3 := aE E_w2 hE;have Bs_w3 := bk6 Bs_w2 hE;have Bx_w3 := bk5 Bx_w2 hE;have Br_w3 := bk6 Br_w2 hE;have Be_w3 := nk5 (w2.heap.size) hE;have T_w3 : Hid (Touch (S3 w) w2 w3) := aT hE
 clear hE c_s c_x c_r Bs_w2 Bx_w2 Br_w2
 have z_w3 := E_w3.out.size;have c_s := opn6 Bs_w3;have c_x := opn5 Bx_w3;have c_r := opn6 Br_w3;have c_e := opn5 Be_w3
 obtain ⟨f0, hf0, hr0⟩ := run_ch (ops := [[42]]) G1.out
 have HF0 := Lib.hid hf0
 have HR0 := Lib.hid hr0
 clear hf0 hr0
 go_loopg [5] (mu (X.then rd)) (fun gk v5 wr => ∃ (Y : Xs) (f a k p : Nat) (op : Str) (n : Nat) (t o : Str) (args : List Ex) (g : Option Nat) (cap : Nat), CrInv w c d w2.heap.size X rd [[42]] gk wr Y f a k p op n t o args g cap)
 case atStart =>
  exact ⟨_, f0, a1, k1, p1, op, n, t, o, args, g, cap, rfl, E_w3.out, Bs_w3.out, Bx_w3.out, Br_w3.out, Be_w3.out, I1.out, HF0.out, HD.out.then, HR0.out, ExC.keep (fun b hb ha => ⟨T_w3.out.block b hb (fun e => by simp [size_set] at ha; omega), by simp [size_set] at ha; omega⟩) _ _ C1.out⟩
 case round =>
  clear C1 HR0 HF0 G1 I1
  obtain ⟨Y, f, ar, kr, pr, op, n, t, o, args, g, cap, hI⟩ := hrel
  have HI := Lib.hid hI
  have E_wr := Lib.hid hI.ext
  have Bs_wr := Lib.hid hI.bs
  have Bx_wr := Lib.hid hI.bx
  have Br_wr := Lib.hid hI.br
  have Be_wr := Lib.hid hI.be
  have z_wr : w.heap.size ≤ wr.heap.size := hI.ext.size
  have hler : ar ≤ c.all.length := hI.inn.1
  clear hI
  clear c_s c_x c_r c_e
  have c_s := opn6 Bs_wr;have c_x := opn5 Bx_wr;have c_r := opn6 Br_wr;have c_e := opn5 Be_wr
  go_wp2_with fail
  refine (ris_ok c Y ar d kr pr [42] _ (H.out.ext (xE E_wr)) HI.out.inn).mono ?_
  rintro e w4 ⟨rfl, hE⟩
  have E_w4 := aE E_wr hE;have Bs_w4 := bk6 Bs_wr hE;have Bx_w4 := bk5 Bx_wr hE;have Br_w4 := bk6 Br_wr hE;have Be_w4 := bk5 Be_wr hE;have T_w4 : Hid (Touch (fun b => b = w.heap.size ∨ b = w.heap.size + 1 ∨ b = w.heap.size + 1 + 1 ∨ b = w2.heap.size) wr w4) := aT hE
  clear hE c_s c_x c_r c_e Bs_wr Bx_wr Br_wr Be_wr
  have z_w4 := E_w4.out.size;have c_s := opn6 Bs_w4;have c_x := opn5 Bx_w4;have c_r := opn6 Br_w4;have c_e := opn5 Be_w4
  have h4e : w2.heap.size < w4.heap.size := by omega
  have h4r : w.heap.size + 1 + 1 < w4.heap.size := by omega
  have HX4 : Hid (ExC w4 (fun b => w.heap.size + 1 + 1 < b ∧ b ≠ w2.heap.size ∧ b ≠ w4.heap.size) (exCells op n t o (slv g args.length cap)) (.mk op n t o args)) := Lib.hid (ExC.keep (fun b hb ha => ⟨T_w4.out.block b hb (fun e => by have := ha.1; have := ha.2; omega), ha.1, ha.2, by have := T_w4.out.size; omega⟩) _ _ HI.out.ex)
  cases h1 : isX [42] Y with
  | false =>
    have H1 := Lib.hid h1
    clear h1
    go_wp2
    letI : Tch.TS := ⟨fun b => b = w.heap.size + 1⟩
    refine Tch.region_calm [.e 0, .e 1, .h 2 true, .h 3 false] f_mixed (by kernel_rfl) (by kernel_rfl) ?_
    refine Tch.plan_e1 rfl rfl (.agg #[str op, .int .i64 (n : Int), str t, str o, slv g args.length cap]) (fun w' he => ?_) (fun K hK => ?_)
    · have d := tch5 he c_e (fun (e : _ = _) => by omega)
      clear c_e he
      go_simp
    go_simp; refine hK _ ?_; clear hK K
    refine Tch.plan_e1 rfl rfl (.agg #[slv c.g c.all.length c.cap, .int .i64 (ar : Int), .int .i64 (c.E : Int), .int .i64 (d : Int), .int .i64 (kr : Int), .int .i64 (pr : Int)]) (fun w' he => ?_) (fun K hK => ?_)
    · have d := tch6 he c_s (fun (e : _ = _) => by omega)
      clear c_s he
      go_simp
    go_simp; refine hK _ ?_; clear hK K
    refine Tch.plan_ct rfl rfl (fun K _ hK => ?_)
    go_wp2
    refine hK _ _ (late5d _ _ _ _ _ _ _) ?_; clear hK K
    refine Tch.plan_c rfl rfl (fun K _ hK => ?_)
    go_wp2
    refine tch_done ?_
    go_wp2
    (try simp only [Exit.inBlock, Exit.then])
    refine bodyPost_ret (v := .tuple #[.agg #[str op, .int .i64 (n : Int), str t, str o, slv g args.length cap], .agg #[slv c.g c.all.length c.cap, .int .i64 (ar : Int), .int .i64 (c.E : Int), .int .i64 (d : Int), .int .i64 (kr : Int), .int .i64 (pr : Int)]]) (res_cc rfl rfl (lv_ex (xb5 Bx_w4)) rfl (lv_src (xb6 Br_w4))) rfl ?_
    obtain ⟨h2, h3⟩ := run_end (by rw [HI.out.run, run_chL_no (fun s hs => by simp at hs; subst hs; exact H1.out)]) HI.out.inn
    refine ⟨op, n, t, o, args, g, cap, _, _, _, rfl, h2, h3, ?_, ?_⟩
    · exact ExC.keep (fun b hb ha => ⟨Touch.block (S := (fun b => b = w.heap.size ∨ b = w.heap.size + 1 ∨ b = w.heap.size + 1 + 1 ∨ b = w2.heap.size)) xT b hb (fun e => by have := ha.1; have := ha.2; omega), by have := ha.1; omega⟩) _ _ HX4.out
    · exact (xE E_w4)
  | true =>
    have H1 := Lib.hid h1
    clear h1
    have hlt : ar < c.all.length := (HI.out.inn.step H1.out).1
    go_wp2_with fail
    refine (HRD.out _ (ar + 1) kr pr _ (H.out.ext (xE E_w4)) (HI.out.inn.step H1.out).2.1 HI.out.dp.behind).mono ?_
    rintro e w5 ⟨op', n', t', o', args', g', cap', a2, k2, p2, rfl, h_I2, h_G2, h_C2, hE⟩
    have n_s_f := ne2 (show w.heap.size ≠ w4.heap.size by omega);have n_x_f := ne2 (show w.heap.size + 1 ≠ w4.heap.size by omega);have n_r_f := ne2 (show w.heap.size + 1 + 1 ≠ w4.heap.size by omega);have n_e_f := ne2 (show w2.heap.size ≠ w4.heap.size by omega)
    have E_w5 := aE E_w4 hE;have Bs_w5 := bk6 Bs_w4 hE;have Bx_w5 := bk5 Bx_w4 hE;have Br_w5 := bk6 Br_w4 hE;have Be_w5 := bk5 Be_w4 hE;have Bf_w5 := nk5 (w4.heap.size) hE;have T_w5 : Hid (Touch (fun b => b = w.heap.size ∨ b = w.heap.size + 1 ∨ b = w.heap.size + 1 + 1 ∨ b = w2.heap.size) w4 w5) := aT hE
    clear hE c_s c_x c_r c_e Bs_w4 Bx_w4 Br_w4 Be_w4
    have z_w5 := E_w5.out.size;have c_s := opn6 Bs_w5;have c_x := opn5 Bx_w5;have c_r := opn6 Br_w5;have c_e := opn5 Be_w5;have c_f := opn5 Bf_w5
    (try unfold sv)
    have I2 := Lib.hid h_I2; clear h_I2
    have G2 := Lib.hid h_G2; clear h_G2
    have C2 := Lib.hid h_C2; clear h_C2
    have h45 : w4.heap.size < w5.heap.size := by omega
    have HX5 := Lib.hid (ExC.keep (fun b hb ha => ⟨T_w5.out.block b hb (fun e => by have := ha.1; have := ha.2; omega), ha⟩) _ _ HX4.out)
    have HY5 : Hid (ExC w5 (fun b => w.heap.size + 1 + 1 < b ∧ b ≠ w2.heap.size ∧ b ≠ w4.heap.size) (exCells op' n' t' o' (slv g' args'.length cap')) (.mk op' n' t' o' args')) := Lib.hid (ExC.weak C2.out (fun b hb ha => by simp [size_set] at ha; omega))
    go_wp2_with fail
    refine (r2_ok _ [42] op t o op' t' o' n n' g g' args.length cap args'.length cap').mono ?_
    rintro e w6 ⟨b2, rfl, h_L2, hE, h_B2⟩
    have E_w6 := aE E_w5 hE;have Bs_w6 := bk6 Bs_w5 hE;have Bx_w6 := bk5 Bx_w5 hE;have Br_w6 := bk6 Br_w5 hE;have Be_w6 := bk5 Be_w5 hE;have Bf_w6 := bk5 Bf_w5 hE;have T_w6 : Hid (Touch (fun b => b = w.heap.size ∨ b = w.heap.size + 1 ∨ b = w.heap.size + 1 + 1 ∨ b = w2.heap.size ∨ b = w4.heap.size) w5 w6) := aT hE
    clear hE c_s c_x c_r c_e c_f Bs_w5 Bx_w5 Br_w5 Be_w5 Bf_w5
    have z_w6 := E_w6.out.size;have c_s := opn6 Bs_w6;have c_x := opn5 Bx_w6;have c_r := opn6 Br_w6;have c_e := opn5 Be_w6;have c_f := opn5 Bf_w6
    (try unfold sv)
    have L2 := Lib.hid h_L2; clear h_L2
    have B2 := Lib.hid h_B2; clear h_B2
    have HX6 := Lib.hid (ExC.keep (fun b hb ha => ⟨T_w6.out.block b hb (fun e => by have := ha.1; have := ha.2; omega), ha⟩) _ _ HX5.out)
    have HY6 := Lib.hid (ExC.keep (fun b hb ha => ⟨T_w6.out.block b hb (fun e => by have := ha.1; have := ha.2; omega), ha⟩) _ _ HY5.out)
    have HA2 : Hid (w.heap.size + 1 + 1 < b2 ∧ b2 ≠ w2.heap.size ∧ b2 ≠ w4.heap.size) := Lib.hid (by have := L2.out; simp [size_set] at this; omega)
    have HZ6 := Lib.hid (two_cells (op := [42]) (c1 := exCells op n t o (slv g args.length cap)) (c2 := exCells op' n' t' o' (slv g' args'.length cap')) B2.out HX6.out HY6.out HA2.out)
    go_wp2
    obtain ⟨f1, hf1, hfew⟩ := HI.out.few.step H1.out HSUF.out
    have HST := Lib.hid (mu_step H1.out HSUF.out)
    go_roundg (mu ((behind Y).then rd))
    case measure => rw [HI.out.hk]; exact HST.out
    case rel =>
      refine ⟨_, f1, a2, k2, p2, [42], 0, [], [], [.mk op n t o args, .mk op' n' t' o' args'], some b2, 2, rfl, (xE E_w6), (xb6 Bs_w6), (xb5 Bx_w6), (xb6 Br_w6), (xb5 Be_w6), I2.out, hfew, HI.out.dp.behind.then, ?_, ?_⟩
      · rw [HI.out.run, hf1, run_chL_yes (s := [42]) (by simp) H1.out G2.out]; rfl
      · exact ExC.keep (fun b hb ha => ⟨Touch.block (S := (fun b => b = w.heap.size ∨ b = w.heap.size + 1 ∨ b = w.heap.size + 1 + 1 ∨ b = w2.heap.size ∨ b = w4.heap.size)) xT b hb (fun e => by have := ha.1; have := ha.2; omega), ha.1, ha.2.1⟩) _ _ HZ6.out
theorem rand_ok (c : Rx) (d : Nat) (rd : List Tok → Res Ex) (hsuf : ∀ ts, Suf ts (rd ts)) (hrd : RdrX 135 c d rd) : RdrX 118 c d (ch rd [[65, 78, 68]]) := by
 intro X a k p w h hx hd
 have H := Lib.hid h
 have HX := Lib.hid hx
 have HD := Lib.hid hd
 have HRD := Lib.hid hrd
 have HSUF := Lib.hid hsuf
 have hsm := h.small
 have hle := hx.1
 have hdd := hd.1
 clear h hx hd hrd hsuf
 unfold sv
 have E_w : Hid (Ext w w) := Lib.hid (Ext.refl w)
 go_enter Tryz.func118, Tryz.ntmps118
 go_wp2_with fail
 refine (HRD.out X a k p _ (H.out.ext (xE E_w)) HX.out HD.out).mono ?_
 rintro e w2 ⟨op, n, t, o, args, g, cap, a1, k1, p1, rfl, h_I1, h_G1, h_C1, hE⟩
 have n_ := nst3 w
 have E_w2 := aE E_w hE;have Bs_w2 := nk6 (w.heap.size) hE;have Bx_w2 := nk5 (w.heap.size + 1) hE;have Br_w2 := nk6 (w.heap.size + 1 + 1) hE
 clear hE
 have z_w2 := E_w2.out.size;have c_s := opn6 Bs_w2;have c_x := opn5 Bx_w2;have c_r := opn6 Br_w2
 (try unfold sv)
 have I1 := Lib.hid h_I1; clear h_I1
 have G1 := Lib.hid h_G1; clear h_G1
 have C1 := Lib.hid h_C1; clear h_C1
 go_wp2
 refine wp_nm (fun w3 hE => ?_)
 have n_s_e := ne2 (show w.heap.size ≠ w2.heap.size by omega);have n_x_e := ne2 (show w.heap.size + 1 ≠ w2.heap.size by omega);have n_r_e := ne2 (show w.heap.size + 1 + 1 ≠ w2.heap.size by omega)
 have E_w3 := aE E_w2 hE;have Bs_w3 := bk6 Bs_w2 hE;have Bx_w3 := bk5 Bx_w2 hE;have Br_w3 := bk6 Br_w2 hE;have Be_w3 := nk5 (w2.heap.size) hE;have T_w3 : Hid (Touch (S3 w) w2 w3) := aT hE
 clear hE c_s c_x c_r Bs_w2 Bx_w2 Br_w2
 have z_w3 := E_w3.out.size;have c_s := opn6 Bs_w3;have c_x := opn5 Bx_w3;have c_r := opn6 Br_w3;have c_e := opn5 Be_w3
 obtain ⟨f0, hf0, hr0⟩ := run_ch (ops := [[65, 78, 68]]) G1.out
 have HF0 := Lib.hid hf0
 have HR0 := Lib.hid hr0
 clear hf0 hr0
 go_loopg [5] (mu (X.then rd)) (fun gk v5 wr => ∃ (Y : Xs) (f a k p : Nat) (op : Str) (n : Nat) (t o : Str) (args : List Ex) (g : Option Nat) (cap : Nat), CrInv w c d w2.heap.size X rd [[65, 78, 68]] gk wr Y f a k p op n t o args g cap)
 case atStart =>
  exact ⟨_, f0, a1, k1, p1, op, n, t, o, args, g, cap, rfl, E_w3.out, Bs_w3.out, Bx_w3.out, Br_w3.out, Be_w3.out, I1.out, HF0.out, HD.out.then, HR0.out, ExC.keep (fun b hb ha => ⟨T_w3.out.block b hb (fun e => by simp [size_set] at ha; omega), by simp [size_set] at ha; omega⟩) _ _ C1.out⟩
 case round =>
  clear C1 HR0 HF0 G1 I1
  obtain ⟨Y, f, ar, kr, pr, op, n, t, o, args, g, cap, hI⟩ := hrel
  have HI := Lib.hid hI
  have E_wr := Lib.hid hI.ext
  have Bs_wr := Lib.hid hI.bs
  have Bx_wr := Lib.hid hI.bx
  have Br_wr := Lib.hid hI.br
  have Be_wr := Lib.hid hI.be
  have z_wr : w.heap.size ≤ wr.heap.size := hI.ext.size
  have hler : ar ≤ c.all.length := hI.inn.1
  clear hI
  clear c_s c_x c_r c_e
  have c_s := opn6 Bs_wr;have c_x := opn5 Bx_wr;have c_r := opn6 Br_wr;have c_e := opn5 Be_wr
  go_wp2_with fail
  refine (ris_ok c Y ar d kr pr [65, 78, 68] _ (H.out.ext (xE E_wr)) HI.out.inn).mono ?_
  rintro e w4 ⟨rfl, hE⟩
  have E_w4 := aE E_wr hE;have Bs_w4 := bk6 Bs_wr hE;have Bx_w4 := bk5 Bx_wr hE;have Br_w4 := bk6 Br_wr hE;have Be_w4 := bk5 Be_wr hE;have T_w4 : Hid (Touch (fun b => b = w.heap.size ∨ b = w.heap.size + 1 ∨ b = w.heap.size + 1 + 1 ∨ b = w2.heap.size) wr w4) := aT hE
  clear hE c_s c_x c_r c_e Bs_wr Bx_wr Br_wr Be_wr
  have z_w4 := E_w4.out.size;have c_s := opn6 Bs_w4;have c_x := opn5 Bx_w4;have c_r := opn6 Br_w4;have c_e := opn5 Be_w4
  have h4e : w2.heap.size < w4.heap.size := by omega
  have h4r : w.heap.size + 1 + 1 < w4.heap.size := by omega
  have HX4 : Hid (ExC w4 (fun b => w.heap.size + 1 + 1 < b ∧ b ≠ w2.heap.size ∧ b ≠ w4.heap.size) (exCells op n t o (slv g args.length cap)) (.mk op n t o args)) := Lib.hid (ExC.keep (fun b hb ha => ⟨T_w4.out.block b hb (fun e => by have := ha.1; have := ha.2; omega), ha.1, ha.2, by have := T_w4.out.size; omega⟩) _ _ HI.out.ex)
  cases h1 : isX [65, 78, 68] Y with
  | false =>
    have H1 := Lib.hid h1
    clear h1
    go_wp2
    letI : Tch.TS := ⟨fun b => b = w.heap.size + 1⟩
    refine Tch.region_calm [.e 0, .e 1, .h 2 true, .h 3 false] f_mixed (by kernel_rfl) (by kernel_rfl) ?_
    refine Tch.plan_e1 rfl rfl (.agg #[str op, .int .i64 (n : Int), str t, str o, slv g args.length cap]) (fun w' he => ?_) (fun K hK => ?_)
    · have d := tch5 he c_e (fun (e : _ = _) => by omega)
      clear c_e he
      go_simp
    go_simp; refine hK _ ?_; clear hK K
    refine Tch.plan_e1 rfl rfl (.agg #[slv c.g c.all.length c.cap, .int .i64 (ar : Int), .int .i64 (c.E : Int), .int .i64 (d : Int), .int .i64 (kr : Int), .int .i64 (pr : Int)]) (fun w' he => ?_) (fun K hK => ?_)
    · have d := tch6 he c_s (fun (e : _ = _) => by omega)
      clear c_s he
      go_simp
    go_simp; refine hK _ ?_; clear hK K
    refine Tch.plan_ct rfl rfl (fun K _ hK => ?_)
    go_wp2
    refine hK _ _ (late5d _ _ _ _ _ _ _) ?_; clear hK K
    refine Tch.plan_c rfl rfl (fun K _ hK => ?_)
    go_wp2
    refine tch_done ?_
    go_wp2
    (try simp only [Exit.inBlock, Exit.then])
    refine bodyPost_ret (v := .tuple #[.agg #[str op, .int .i64 (n : Int), str t, str o, slv g args.length cap], .agg #[slv c.g c.all.length c.cap, .int .i64 (ar : Int), .int .i64 (c.E : Int), .int .i64 (d : Int), .int .i64 (kr : Int), .int .i64 (pr : Int)]]) (res_cc rfl rfl (lv_ex (xb5 Bx_w4)) rfl (lv_src (xb6 Br_w4))) rfl ?_
    obtain ⟨h2, h3⟩ := run_end (by rw [HI.out.run, run_chL_no (fun s hs => by simp at hs; subst hs; exact H1.out)]) HI.out.inn
    refine ⟨op, n, t, o, args, g, cap, _, _, _, rfl, h2, h3, ?_, ?_⟩
    · exact ExC.keep (fun b hb ha => ⟨Touch.block (S := (fun b => b = w.heap.size ∨ b = w.heap.size + 1 ∨ b = w.heap.size + 1 + 1 ∨ b = w2.heap.size)) xT b hb (fun e => by have := ha.1; have := ha.2; omega), by have := ha.1; omega⟩) _ _ HX4.out
    · exact (xE E_w4)
  | true =>
    have H1 := Lib.hid h1
    clear h1
    have hlt : ar < c.all.length := (HI.out.inn.step H1.out).1
    go_wp2_with fail
    refine (HRD.out _ (ar + 1) kr pr _ (H.out.ext (xE E_w4)) (HI.out.inn.step H1.out).2.1 HI.out.dp.behind).mono ?_
    rintro e w5 ⟨op', n', t', o', args', g', cap', a2, k2, p2, rfl, h_I2, h_G2, h_C2, hE⟩
    have n_s_f := ne2 (show w.heap.size ≠ w4.heap.size by omega);have n_x_f := ne2 (show w.heap.size + 1 ≠ w4.heap.size by omega);have n_r_f := ne2 (show w.heap.size + 1 + 1 ≠ w4.heap.size by omega);have n_e_f := ne2 (show w2.heap.size ≠ w4.heap.size by omega)
    have E_w5 := aE E_w4 hE;have Bs_w5 := bk6 Bs_w4 hE;have Bx_w5 := bk5 Bx_w4 hE;have Br_w5 := bk6 Br_w4 hE;have Be_w5 := bk5 Be_w4 hE;have Bf_w5 := nk5 (w4.heap.size) hE;have T_w5 : Hid (Touch (fun b => b = w.heap.size ∨ b = w.heap.size + 1 ∨ b = w.heap.size + 1 + 1 ∨ b = w2.heap.size) w4 w5) := aT hE
    clear hE c_s c_x c_r c_e Bs_w4 Bx_w4 Br_w4 Be_w4
    have z_w5 := E_w5.out.size;have c_s := opn6 Bs_w5;have c_x := opn5 Bx_w5;have c_r := opn6 Br_w5;have c_e := opn5 Be_w5;have c_f := opn5 Bf_w5
    (try unfold sv)
    have I2 := Lib.hid h_I2; clear h_I2
    have G2 := Lib.hid h_G2; clear h_G2
    have C2 := Lib.hid h_C2; clear h_C2
    have h45 : w4.heap.size < w5.heap.size := by omega
    have HX5 := Lib.hid (ExC.keep (fun b hb ha => ⟨T_w5.out.block b hb (fun e => by have := ha.1; have := ha.2; omega), ha⟩) _ _ HX4.out)
    have HY5 : Hid (ExC w5 (fun b => w.heap.size + 1 + 1 < b ∧ b ≠ w2.heap.size ∧ b ≠ w4.heap.size) (exCells op' n' t' o' (slv g' args'.length cap')) (.mk op' n' t' o' args')) := Lib.hid (ExC.weak C2.out (fun b hb ha => by simp [size_set] at ha; omega))
    go_wp2_with fail
    refine (r2_ok _ [65, 78, 68] op t o op' t' o' n n' g g' args.length cap args'.length cap').mono ?_
    rintro e w6 ⟨b2, rfl, h_L2, hE, h_B2⟩
    have E_w6 := aE E_w5 hE;have Bs_w6 := bk6 Bs_w5 hE;have Bx_w6 := bk5 Bx_w5 hE;have Br_w6 := bk6 Br_w5 hE;have Be_w6 := bk5 Be_w5 hE;have Bf_w6 := bk5 Bf_w5 hE;have T_w6 : Hid (Touch (fun b => b = w.heap.size ∨ b = w.heap.size + 1 ∨ b = w.heap.size + 1 + 1 ∨ b = w2.heap.size ∨ b = w4.heap.size) w5 w6) := aT hE
    clear hE c_s c_x c_r c_e c_f Bs_w5 Bx_w5 Br_w5 Be_w5 Bf_w5
    have z_w6 := E_w6.out.size;have c_s := opn6 Bs_w6;have c_x := opn5 Bx_w6;have c_r := opn6 Br_w6;have c_e := opn5 Be_w6;have c_f := opn5 Bf_w6
    (try unfold sv)
    have L2 := Lib.hid h_L2; clear h_L2
    have B2 := Lib.hid h_B2; clear h_B2
    have HX6 := Lib.hid (ExC.keep (fun b hb ha => ⟨T_w6.out.block b hb (fun e => by have := ha.1; have := ha.2; omega), ha⟩) _ _ HX5.out)
    have HY6 := Lib.hid (ExC.keep (fun b hb ha => ⟨T_w6.out.block b hb (fun e => by have := ha.1; have := ha.2; omega), ha⟩) _ _ HY5.out)
    have HA2 : Hid (w.heap.size + 1 + 1 < b2 ∧ b2 ≠ w2.heap.size ∧ b2 ≠ w4.heap.size) := Lib.hid (by have := L2.out; simp [size_set] at this; omega)
    have HZ6 := Lib.hid (two_cells (op := [65, 78, 68]) (c1 := exCells op n t o (slv g args.length cap)) (c2 := exCells op' n' t' o' (slv g' args'.length cap')) B2.out HX6.out HY6.out HA2.out)
    go_wp2
    obtain ⟨f1, hf1, hfew⟩ := HI.out.few.step H1.out HSUF.out
    have HST := Lib.hid (mu_step H1.out HSUF.out)
    go_roundg (mu ((behind Y).then rd))
    case measure => rw [HI.out.hk]; exact HST.out
    case rel =>
      refine ⟨_, f1, a2, k2, p2, [65, 78, 68], 0, [], [], [.mk op n t o args, .mk op' n' t' o' args'], some b2, 2, rfl, (xE E_w6), (xb6 Bs_w6), (xb5 Bx_w6), (xb6 Br_w6), (xb5 Be_w6), I2.out, hfew, HI.out.dp.behind.then, ?_, ?_⟩
      · rw [HI.out.run, hf1, run_chL_yes (s := [65, 78, 68]) (by simp) H1.out G2.out]; rfl
      · exact ExC.keep (fun b hb ha => ⟨Touch.block (S := (fun b => b = w.heap.size ∨ b = w.heap.size + 1 ∨ b = w.heap.size + 1 + 1 ∨ b = w2.heap.size ∨ b = w4.heap.size)) xT b hb (fun e => by have := ha.1; have := ha.2; omega), ha.1, ha.2.1⟩) _ _ HZ6.out
theorem ror_ok (c : Rx) (d : Nat) (rd : List Tok → Res Ex) (hsuf : ∀ ts, Suf ts (rd ts)) (hrd : RdrX 118 c d rd) : RdrX 100 c d (ch rd [[79, 82]]) := by
 intro X a k p w h hx hd
 have H := Lib.hid h
 have HX := Lib.hid hx
 have HD := Lib.hid hd
 have HRD := Lib.hid hrd
 have HSUF := Lib.hid hsuf
 have hsm := h.small
 have hle := hx.1
 have hdd := hd.1
 clear h hx hd hrd hsuf
 unfold sv
 have E_w : Hid (Ext w w) := Lib.hid (Ext.refl w)
 go_enter Tryz.func100, Tryz.ntmps100
 go_wp2_with fail
 refine (HRD.out X a k p _ (H.out.ext (xE E_w)) HX.out HD.out).mono ?_
 rintro e w2 ⟨op, n, t, o, args, g, cap, a1, k1, p1, rfl, h_I1, h_G1, h_C1, hE⟩
 have n_ := nst3 w
 have E_w2 := aE E_w hE;have Bs_w2 := nk6 (w.heap.size) hE;have Bx_w2 := nk5 (w.heap.size + 1) hE;have Br_w2 := nk6 (w.heap.size + 1 + 1) hE
 clear hE
 have z_w2 := E_w2.out.size;have c_s := opn6 Bs_w2;have c_x := opn5 Bx_w2;have c_r := opn6 Br_w2
 (try unfold sv)
 have I1 := Lib.hid h_I1; clear h_I1
 have G1 := Lib.hid h_G1; clear h_G1
 have C1 := Lib.hid h_C1; clear h_C1
 go_wp2
 refine wp_nm (fun w3 hE => ?_)
 have n_s_e := ne2 (show w.heap.size ≠ w2.heap.size by omega);have n_x_e := ne2 (show w.heap.size + 1 ≠ w2.heap.size by omega);have n_r_e := ne2 (show w.heap.size + 1 + 1 ≠ w2.heap.size by omega)
 have E_w3 := aE E_w2 hE;have Bs_w3 := bk6 Bs_w2 hE;have Bx_w3 := bk5 Bx_w2 hE;have Br_w3 := bk6 Br_w2 hE;have Be_w3 := nk5 (w2.heap.size) hE;have T_w3 : Hid (Touch (S3 w) w2 w3) := aT hE
 clear hE c_s c_x c_r Bs_w2 Bx_w2 Br_w2
 have z_w3 := E_w3.out.size;have c_s := opn6 Bs_w3;have c_x := opn5 Bx_w3;have c_r := opn6 Br_w3;have c_e := opn5 Be_w3
 obtain ⟨f0, hf0, hr0⟩ := run_ch (ops := [[79, 82]]) G1.out
 have HF0 := Lib.hid hf0
 have HR0 := Lib.hid hr0
 clear hf0 hr0
 go_loopg [5] (mu (X.then rd)) (fun gk v5 wr => ∃ (Y : Xs) (f a k p : Nat) (op : Str) (n : Nat) (t o : Str) (args : List Ex) (g : Option Nat) (cap : Nat), CrInv w c d w2.heap.size X rd [[79, 82]] gk wr Y f a k p op n t o args g cap)
 case atStart =>
  exact ⟨_, f0, a1, k1, p1, op, n, t, o, args, g, cap, rfl, E_w3.out, Bs_w3.out, Bx_w3.out, Br_w3.out, Be_w3.out, I1.out, HF0.out, HD.out.then, HR0.out, ExC.keep (fun b hb ha => ⟨T_w3.out.block b hb (fun e => by simp [size_set] at ha; omega), by simp [size_set] at ha; omega⟩) _ _ C1.out⟩
 case round =>
  clear C1 HR0 HF0 G1 I1
  obtain ⟨Y, f, ar, kr, pr, op, n, t, o, args, g, cap, hI⟩ := hrel
  have HI := Lib.hid hI
  have E_wr := Lib.hid hI.ext
  have Bs_wr := Lib.hid hI.bs
  have Bx_wr := Lib.hid hI.bx
  have Br_wr := Lib.hid hI.br
  have Be_wr := Lib.hid hI.be
  have z_wr : w.heap.size ≤ wr.heap.size := hI.ext.size
  have hler : ar ≤ c.all.length := hI.inn.1
  clear hI
  clear c_s c_x c_r c_e
  have c_s := opn6 Bs_wr;have c_x := opn5 Bx_wr;have c_r := opn6 Br_wr;have c_e := opn5 Be_wr
  go_wp2_with fail
  refine (ris_ok c Y ar d kr pr [79, 82] _ (H.out.ext (xE E_wr)) HI.out.inn).mono ?_
  rintro e w4 ⟨rfl, hE⟩
  have E_w4 := aE E_wr hE;have Bs_w4 := bk6 Bs_wr hE;have Bx_w4 := bk5 Bx_wr hE;have Br_w4 := bk6 Br_wr hE;have Be_w4 := bk5 Be_wr hE;have T_w4 : Hid (Touch (fun b => b = w.heap.size ∨ b = w.heap.size + 1 ∨ b = w.heap.size + 1 + 1 ∨ b = w2.heap.size) wr w4) := aT hE
  clear hE c_s c_x c_r c_e Bs_wr Bx_wr Br_wr Be_wr
  have z_w4 := E_w4.out.size;have c_s := opn6 Bs_w4;have c_x := opn5 Bx_w4;have c_r := opn6 Br_w4;have c_e := opn5 Be_w4
  have h4e : w2.heap.size < w4.heap.size := by omega
  have h4r : w.heap.size + 1 + 1 < w4.heap.size := by omega
  have HX4 : Hid (ExC w4 (fun b => w.heap.size + 1 + 1 < b ∧ b ≠ w2.heap.size ∧ b ≠ w4.heap.size) (exCells op n t o (slv g args.length cap)) (.mk op n t o args)) := Lib.hid (ExC.keep (fun b hb ha => ⟨T_w4.out.block b hb (fun e => by have := ha.1; have := ha.2; omega), ha.1, ha.2, by have := T_w4.out.size; omega⟩) _ _ HI.out.ex)
  cases h1 : isX [79, 82] Y with
  | false =>
    have H1 := Lib.hid h1
    clear h1
    go_wp2
    letI : Tch.TS := ⟨fun b => b = w.heap.size + 1⟩
    refine Tch.region_calm [.e 0, .e 1, .h 2 true, .h 3 false] f_mixed (by kernel_rfl) (by kernel_rfl) ?_
    refine Tch.plan_e1 rfl rfl (.agg #[str op, .int .i64 (n : Int), str t, str o, slv g args.length cap]) (fun w' he => ?_) (fun K hK => ?_)
    · have d := tch5 he c_e (fun (e : _ = _) => by omega)
      clear c_e he
      go_simp
    go_simp; refine hK _ ?_; clear hK K
    refine Tch.plan_e1 rfl rfl (.agg #[slv c.g c.all.length c.cap, .int .i64 (ar : Int), .int .i64 (c.E : Int), .int .i64 (d : Int), .int .i64 (kr : Int), .int .i64 (pr : Int)]) (fun w' he => ?_) (fun K hK => ?_)
    · have d := tch6 he c_s (fun (e : _ = _) => by omega)
      clear c_s he
      go_simp
    go_simp; refine hK _ ?_; clear hK K
    refine Tch.plan_ct rfl rfl (fun K _ hK => ?_)
    go_wp2
    refine hK _ _ (late5d _ _ _ _ _ _ _) ?_; clear hK K
    refine Tch.plan_c rfl rfl (fun K _ hK => ?_)
    go_wp2
    refine tch_done ?_
    go_wp2
    (try simp only [Exit.inBlock, Exit.then])
    refine bodyPost_ret (v := .tuple #[.agg #[str op, .int .i64 (n : Int), str t, str o, slv g args.length cap], .agg #[slv c.g c.all.length c.cap, .int .i64 (ar : Int), .int .i64 (c.E : Int), .int .i64 (d : Int), .int .i64 (kr : Int), .int .i64 (pr : Int)]]) (res_cc rfl rfl (lv_ex (xb5 Bx_w4)) rfl (lv_src (xb6 Br_w4))) rfl ?_
    obtain ⟨h2, h3⟩ := run_end (by rw [HI.out.run, run_chL_no (fun s hs => by simp at hs; subst hs; exact H1.out)]) HI.out.inn
    refine ⟨op, n, t, o, args, g, cap, _, _, _, rfl, h2, h3, ?_, ?_⟩
    · exact ExC.keep (fun b hb ha => ⟨Touch.block (S := (fun b => b = w.heap.size ∨ b = w.heap.size + 1 ∨ b = w.heap.size + 1 + 1 ∨ b = w2.heap.size)) xT b hb (fun e => by have := ha.1; have := ha.2; omega), by have := ha.1; omega⟩) _ _ HX4.out
    · exact (xE E_w4)
  | true =>
    have H1 := Lib.hid h1
    clear h1
    have hlt : ar < c.all.length := (HI.out.inn.step H1.out).1
    go_wp2_with fail
    refine (HRD.out _ (ar + 1) kr pr _ (H.out.ext (xE E_w4)) (HI.out.inn.step H1.out).2.1 HI.out.dp.behind).mono ?_
    rintro e w5 ⟨op', n', t', o', args', g', cap', a2, k2, p2, rfl, h_I2, h_G2, h_C2, hE⟩
    have n_s_f := ne2 (show w.heap.size ≠ w4.heap.size by omega);have n_x_f := ne2 (show w.heap.size + 1 ≠ w4.heap.size by omega);have n_r_f := ne2 (show w.heap.size + 1 + 1 ≠ w4.heap.size by omega);have n_e_f := ne2 (show w2.heap.size ≠ w4.heap.size by omega)
    have E_w5 := aE E_w4 hE;have Bs_w5 := bk6 Bs_w4 hE;have Bx_w5 := bk5 Bx_w4 hE;have Br_w5 := bk6 Br_w4 hE;have Be_w5 := bk5 Be_w4 hE;have Bf_w5 := nk5 (w4.heap.size) hE;have T_w5 : Hid (Touch (fun b => b = w.heap.size ∨ b = w.heap.size + 1 ∨ b = w.heap.size + 1 + 1 ∨ b = w2.heap.size) w4 w5) := aT hE
    clear hE c_s c_x c_r c_e Bs_w4 Bx_w4 Br_w4 Be_w4
    have z_w5 := E_w5.out.size;have c_s := opn6 Bs_w5;have c_x := opn5 Bx_w5;have c_r := opn6 Br_w5;have c_e := opn5 Be_w5;have c_f := opn5 Bf_w5
    (try unfold sv)
    have I2 := Lib.hid h_I2; clear h_I2
    have G2 := Lib.hid h_G2; clear h_G2
    have C2 := Lib.hid h_C2; clear h_C2
    have h45 : w4.heap.size < w5.heap.size := by omega
    have HX5 := Lib.hid (ExC.keep (fun b hb ha => ⟨T_w5.out.block b hb (fun e => by have := ha.1; have := ha.2; omega), ha⟩) _ _ HX4.out)
    have HY5 : Hid (ExC w5 (fun b => w.heap.size + 1 + 1 < b ∧ b ≠ w2.heap.size ∧ b ≠ w4.heap.size) (exCells op' n' t' o' (slv g' args'.length cap')) (.mk op' n' t' o' args')) := Lib.hid (ExC.weak C2.out (fun b hb ha => by simp [size_set] at ha; omega))
    go_wp2_with fail
    refine (r2_ok _ [79, 82] op t o op' t' o' n n' g g' args.length cap args'.length cap').mono ?_
    rintro e w6 ⟨b2, rfl, h_L2, hE, h_B2⟩
    have E_w6 := aE E_w5 hE;have Bs_w6 := bk6 Bs_w5 hE;have Bx_w6 := bk5 Bx_w5 hE;have Br_w6 := bk6 Br_w5 hE;have Be_w6 := bk5 Be_w5 hE;have Bf_w6 := bk5 Bf_w5 hE;have T_w6 : Hid (Touch (fun b => b = w.heap.size ∨ b = w.heap.size + 1 ∨ b = w.heap.size + 1 + 1 ∨ b = w2.heap.size ∨ b = w4.heap.size) w5 w6) := aT hE
    clear hE c_s c_x c_r c_e c_f Bs_w5 Bx_w5 Br_w5 Be_w5 Bf_w5
    have z_w6 := E_w6.out.size;have c_s := opn6 Bs_w6;have c_x := opn5 Bx_w6;have c_r := opn6 Br_w6;have c_e := opn5 Be_w6;have c_f := opn5 Bf_w6
    (try unfold sv)
    have L2 := Lib.hid h_L2; clear h_L2
    have B2 := Lib.hid h_B2; clear h_B2
    have HX6 := Lib.hid (ExC.keep (fun b hb ha => ⟨T_w6.out.block b hb (fun e => by have := ha.1; have := ha.2; omega), ha⟩) _ _ HX5.out)
    have HY6 := Lib.hid (ExC.keep (fun b hb ha => ⟨T_w6.out.block b hb (fun e => by have := ha.1; have := ha.2; omega), ha⟩) _ _ HY5.out)
    have HA2 : Hid (w.heap.size + 1 + 1 < b2 ∧ b2 ≠ w2.heap.size ∧ b2 ≠ w4.heap.size) := Lib.hid (by have := L2.out; simp [size_set] at this; omega)
    have HZ6 := Lib.hid (two_cells (op := [79, 82]) (c1 := exCells op n t o (slv g args.length cap)) (c2 := exCells op' n' t' o' (slv g' args'.length cap')) B2.out HX6.out HY6.out HA2.out)
    go_wp2
    obtain ⟨f1, hf1, hfew⟩ := HI.out.few.step H1.out HSUF.out
    have HST := Lib.hid (mu_step H1.out HSUF.out)
    go_roundg (mu ((behind Y).then rd))
    case measure => rw [HI.out.hk]; exact HST.out
    case rel =>
      refine ⟨_, f1, a2, k2, p2, [79, 82], 0, [], [], [.mk op n t o args, .mk op' n' t' o' args'], some b2, 2, rfl, (xE E_w6), (xb6 Bs_w6), (xb5 Bx_w6), (xb6 Br_w6), (xb5 Be_w6), I2.out, hfew, HI.out.dp.behind.then, ?_, ?_⟩
      · rw [HI.out.run, hf1, run_chL_yes (s := [79, 82]) (by simp) H1.out G2.out]; rfl
      · exact ExC.keep (fun b hb ha => ⟨Touch.block (S := (fun b => b = w.heap.size ∨ b = w.heap.size + 1 ∨ b = w.heap.size + 1 + 1 ∨ b = w2.heap.size ∨ b = w4.heap.size)) xT b hb (fun e => by have := ha.1; have := ha.2; omega), ha.1, ha.2.1⟩) _ _ HZ6.out
theorem rsum_ok (c : Rx) (d : Nat) (rd : List Tok → Res Ex) (hsuf : ∀ ts, Suf ts (rd ts)) (hrd : RdrX 154 c d rd) : RdrX 148 c d (ch rd [[43], [45]]) := by
 intro X a k p w h hx hd
 have H := Lib.hid h
 have HX := Lib.hid hx
 have HD := Lib.hid hd
 have HRD := Lib.hid hrd
 have HSUF := Lib.hid hsuf
 have hsm := h.small
 have hle := hx.1
 have hdd := hd.1
 clear h hx hd hrd hsuf
 unfold sv
 have E_w : Hid (Ext w w) := Lib.hid (Ext.refl w)
 go_enter Tryz.func148, Tryz.ntmps148
 go_wp2_with fail
 refine (HRD.out X a k p _ (H.out.ext (xE E_w)) HX.out HD.out).mono ?_
 rintro e w2 ⟨op, n, t, o, args, g, cap, a1, k1, p1, rfl, h_I1, h_G1, h_C1, hE⟩
 have n_ := nst3 w
 have E_w2 := aE E_w hE;have Bs_w2 := nk6 (w.heap.size) hE;have Bx_w2 := nk5 (w.heap.size + 1) hE;have Br_w2 := nk6 (w.heap.size + 1 + 1) hE
 clear hE
 have z_w2 := E_w2.out.size;have c_s := opn6 Bs_w2;have c_x := opn5 Bx_w2;have c_r := opn6 Br_w2
 (try unfold sv)
 have I1 := Lib.hid h_I1; clear h_I1
 have G1 := Lib.hid h_G1; clear h_G1
 have C1 := Lib.hid h_C1; clear h_C1
 go_wp2
 refine wp_nm (fun w3 hE => ?_)
 have n_s_e := ne2 (show w.heap.size ≠ w2.heap.size by omega);have n_x_e := ne2 (show w.heap.size + 1 ≠ w2.heap.size by omega);have n_r_e := ne2 (show w.heap.size + 1 + 1 ≠ w2.heap.size by omega)
 have E_w3 := aE E_w2 hE;have Bs_w3 := bk6 Bs_w2 hE;have Bx_w3 := bk5 Bx_w2 hE;have Br_w3 := bk6 Br_w2 hE;have Be_w3 := nk5 (w2.heap.size) hE;have T_w3 : Hid (Touch (S3 w) w2 w3) := aT hE
 clear hE c_s c_x c_r Bs_w2 Bx_w2 Br_w2
 have z_w3 := E_w3.out.size;have c_s := opn6 Bs_w3;have c_x := opn5 Bx_w3;have c_r := opn6 Br_w3;have c_e := opn5 Be_w3
 obtain ⟨f0, hf0, hr0⟩ := run_ch (ops := [[43], [45]]) G1.out
 have HF0 := Lib.hid hf0
 have HR0 := Lib.hid hr0
 clear hf0 hr0
 go_loopg [5] (mu (X.then rd)) (fun gk v5 wr => ∃ (Y : Xs) (f a k p : Nat) (op : Str) (n : Nat) (t o : Str) (args : List Ex) (g : Option Nat) (cap : Nat), CrInv w c d w2.heap.size X rd [[43], [45]] gk wr Y f a k p op n t o args g cap)
 case atStart =>
  exact ⟨_, f0, a1, k1, p1, op, n, t, o, args, g, cap, rfl, E_w3.out, Bs_w3.out, Bx_w3.out, Br_w3.out, Be_w3.out, I1.out, HF0.out, HD.out.then, HR0.out, ExC.keep (fun b hb ha => ⟨T_w3.out.block b hb (fun e => by simp [size_set] at ha; omega), by simp [size_set] at ha; omega⟩) _ _ C1.out⟩
 case round =>
  clear C1 HR0 HF0 G1 I1
  obtain ⟨Y, f, ar, kr, pr, op, n, t, o, args, g, cap, hI⟩ := hrel
  have HI := Lib.hid hI
  have E_wr := Lib.hid hI.ext
  have Bs_wr := Lib.hid hI.bs
  have Bx_wr := Lib.hid hI.bx
  have Br_wr := Lib.hid hI.br
  have Be_wr := Lib.hid hI.be
  have z_wr : w.heap.size ≤ wr.heap.size := hI.ext.size
  have hler : ar ≤ c.all.length := hI.inn.1
  clear hI
  clear c_s c_x c_r c_e
  have c_s := opn6 Bs_wr;have c_x := opn5 Bx_wr;have c_r := opn6 Br_wr;have c_e := opn5 Be_wr
  go_wp2_with fail
  refine (ris_ok c Y ar d kr pr [43] _ (H.out.ext (xE E_wr)) HI.out.inn).mono ?_
  rintro e w4 ⟨rfl, hE⟩
  have E_w4 := aE E_wr hE;have Bs_w4 := bk6 Bs_wr hE;have Bx_w4 := bk5 Bx_wr hE;have Br_w4 := bk6 Br_wr hE;have Be_w4 := bk5 Be_wr hE;have T_w4 : Hid (Touch (fun b => b = w.heap.size ∨ b = w.heap.size + 1 ∨ b = w.heap.size + 1 + 1 ∨ b = w2.heap.size) wr w4) := aT hE
  clear hE c_s c_x c_r c_e Bs_wr Bx_wr Br_wr Be_wr
  have z_w4 := E_w4.out.size;have c_s := opn6 Bs_w4;have c_x := opn5 Bx_w4;have c_r := opn6 Br_w4;have c_e := opn5 Be_w4
  have h4e : w2.heap.size < w4.heap.size := by omega
  have h4r : w.heap.size + 1 + 1 < w4.heap.size := by omega
  have HX4 : Hid (ExC w4 (fun b => w.heap.size + 1 + 1 < b ∧ b ≠ w2.heap.size) (exCells op n t o (slv g args.length cap)) (.mk op n t o args)) := Lib.hid (ExC.keep (fun b hb ha => ⟨T_w4.out.block b hb (fun e => by have := ha.1; have := ha.2; omega), ha⟩) _ _ HI.out.ex)
  cases h1 : isX [43] Y with
  | true =>
    have H1 := Lib.hid h1
    clear h1
    have HXP := HX4
    have hlt : ar < c.all.length := (HI.out.inn.step H1.out).1
    obtain ⟨tk, tn, tp, htok⟩ : ∃ tk tn tp, tokN Y = (tk, [43], tn, tp) := by
      obtain ⟨q, qs, rfl, hq⟩ := isX_ok H1.out
      exact ⟨q.1, q.2.2.1, q.2.2.2, by show q = _; rw [← isT_txt' hq]; rfl⟩
    have HTOK := Lib.hid htok
    clear htok
    go_wp2_with fail
    refine (rnext_ok c Y ar d kr pr _ (H.out.ext (xE E_w4)) HI.out.inn).mono ?_
    rintro e wB ⟨rfl, hE⟩
    have E_wB := aE E_w4 hE;have Bs_wB := bk6 Bs_w4 hE;have Bx_wB := bk5 Bx_w4 hE;have Br_wB := bk6 Br_w4 hE;have Be_wB := bk5 Be_w4 hE;have T_wB : Hid (Touch (fun b => b = w.heap.size ∨ b = w.heap.size + 1 ∨ b = w.heap.size + 1 + 1 ∨ b = w2.heap.size) w4 wB) := aT hE
    clear hE c_s c_x c_r c_e Bs_w4 Bx_w4 Br_w4 Be_w4
    have z_wB := E_wB.out.size;have c_s := opn6 Bs_wB;have c_x := opn5 Bx_wB;have c_r := opn6 Br_wB;have c_e := opn5 Be_wB
    rw [HTOK.out]
    unfold tokV
    have zf : ∀ u : World, (Instr.field 120 (.agg #[.int .i64 (tk : Int), str [43], .int .i64 (tn : Int), .int .i64 (tp : Int)]) 1).run Tryz.prog u = .ok (str [43]) u := fun _ => by kernel_rfl
    have hBe : w2.heap.size < wB.heap.size := by omega
    have hBr : w.heap.size + 1 + 1 < wB.heap.size := by omega
    have HXB : Hid (ExC wB (fun b => w.heap.size + 1 + 1 < b ∧ b ≠ w2.heap.size ∧ b ≠ wB.heap.size) (exCells op n t o (slv g args.length cap)) (.mk op n t o args)) := Lib.hid (ExC.keep (fun b hb ha => ⟨T_wB.out.block b hb (fun e => by have := ha.1; have := ha.2; omega), ha.1, ha.2, by have := T_wB.out.size; omega⟩) _ _ HXP.out)
    go_wp2_with fail
    refine (HRD.out _ (ar + 1) kr pr _ (H.out.ext (xE E_wB)) (HI.out.inn.step H1.out).2.1 HI.out.dp.behind).mono ?_
    rintro e w7 ⟨op', n', t', o', args', g', cap', a2, k2, p2, rfl, h_I2, h_G2, h_C2, hE⟩
    have n_s_f := ne2 (show w.heap.size ≠ wB.heap.size by omega);have n_x_f := ne2 (show w.heap.size + 1 ≠ wB.heap.size by omega);have n_r_f := ne2 (show w.heap.size + 1 + 1 ≠ wB.heap.size by omega);have n_e_f := ne2 (show w2.heap.size ≠ wB.heap.size by omega)
    have E_w7 := aE E_wB hE;have Bs_w7 := bk6 Bs_wB hE;have Bx_w7 := bk5 Bx_wB hE;have Br_w7 := bk6 Br_wB hE;have Be_w7 := bk5 Be_wB hE;have Bf_w7 := nk5 (wB.heap.size) hE;have T_w7 : Hid (Touch (fun b => b = w.heap.size ∨ b = w.heap.size + 1 ∨ b = w.heap.size + 1 + 1 ∨ b = w2.heap.size) wB w7) := aT hE
    clear hE c_s c_x c_r c_e Bs_wB Bx_wB Br_wB Be_wB
    have z_w7 := E_w7.out.size;have c_s := opn6 Bs_w7;have c_x := opn5 Bx_w7;have c_r := opn6 Br_w7;have c_e := opn5 Be_w7;have c_f := opn5 Bf_w7
    (try unfold sv)
    have I2 := Lib.hid h_I2; clear h_I2
    have G2 := Lib.hid h_G2; clear h_G2
    have C2 := Lib.hid h_C2; clear h_C2
    have hB7 : wB.heap.size < w7.heap.size := by omega
    have HX7 := Lib.hid (ExC.keep (fun b hb ha => ⟨T_w7.out.block b hb (fun e => by have := ha.1; have := ha.2; omega), ha⟩) _ _ HXB.out)
    have HY7 : Hid (ExC w7 (fun b => w.heap.size + 1 + 1 < b ∧ b ≠ w2.heap.size ∧ b ≠ wB.heap.size) (exCells op' n' t' o' (slv g' args'.length cap')) (.mk op' n' t' o' args')) := Lib.hid (ExC.weak C2.out (fun b hb ha => by simp [size_set] at ha; omega))
    go_wp2_with fail
    refine (r2_ok _ [43] op t o op' t' o' n n' g g' args.length cap args'.length cap').mono ?_
    rintro e w8 ⟨b2, rfl, h_L2, hE, h_B2⟩
    have E_w8 := aE E_w7 hE;have Bs_w8 := bk6 Bs_w7 hE;have Bx_w8 := bk5 Bx_w7 hE;have Br_w8 := bk6 Br_w7 hE;have Be_w8 := bk5 Be_w7 hE;have Bf_w8 := bk5 Bf_w7 hE;have T_w8 : Hid (Touch (fun b => b = w.heap.size ∨ b = w.heap.size + 1 ∨ b = w.heap.size + 1 + 1 ∨ b = w2.heap.size ∨ b = wB.heap.size) w7 w8) := aT hE
    clear hE c_s c_x c_r c_e c_f Bs_w7 Bx_w7 Br_w7 Be_w7 Bf_w7
    have z_w8 := E_w8.out.size;have c_s := opn6 Bs_w8;have c_x := opn5 Bx_w8;have c_r := opn6 Br_w8;have c_e := opn5 Be_w8;have c_f := opn5 Bf_w8
    (try unfold sv)
    have L2 := Lib.hid h_L2; clear h_L2
    have B2 := Lib.hid h_B2; clear h_B2
    have HX8 := Lib.hid (ExC.keep (fun b hb ha => ⟨T_w8.out.block b hb (fun e => by have := ha.1; have := ha.2; omega), ha⟩) _ _ HX7.out)
    have HY8 := Lib.hid (ExC.keep (fun b hb ha => ⟨T_w8.out.block b hb (fun e => by have := ha.1; have := ha.2; omega), ha⟩) _ _ HY7.out)
    have HA2 : Hid (w.heap.size + 1 + 1 < b2 ∧ b2 ≠ w2.heap.size ∧ b2 ≠ wB.heap.size) := Lib.hid (by have := L2.out; simp [size_set] at this; omega)
    have HZ8 := Lib.hid (two_cells (op := [43]) (c1 := exCells op n t o (slv g args.length cap)) (c2 := exCells op' n' t' o' (slv g' args'.length cap')) B2.out HX8.out HY8.out HA2.out)
    go_wp2
    obtain ⟨f1, hf1, hfew⟩ := HI.out.few.step H1.out HSUF.out
    have HST := Lib.hid (mu_step H1.out HSUF.out)
    go_roundg (mu ((behind Y).then rd))
    case measure => rw [HI.out.hk]; exact HST.out
    case rel =>
      refine ⟨_, f1, a2, k2, p2, [43], 0, [], [], [.mk op n t o args, .mk op' n' t' o' args'], some b2, 2, rfl, (xE E_w8), (xb6 Bs_w8), (xb5 Bx_w8), (xb6 Br_w8), (xb5 Be_w8), I2.out, hfew, HI.out.dp.behind.then, ?_, ?_⟩
      · rw [HI.out.run, hf1, run_chL_yes (s := [43]) (by simp) H1.out G2.out]; rfl
      · exact ExC.keep (fun b hb ha => ⟨Touch.block (S := (fun b => b = w.heap.size ∨ b = w.heap.size + 1 ∨ b = w.heap.size + 1 + 1 ∨ b = w2.heap.size ∨ b = wB.heap.size)) xT b hb (fun e => by have := ha.1; have := ha.2; omega), ha.1, ha.2.1⟩) _ _ HZ8.out
  | false =>
    have HA := Lib.hid h1
    clear h1
    go_wp2_with fail
    refine (ris_ok c Y ar d kr pr [45] _ (H.out.ext (xE E_w4)) HI.out.inn).mono ?_
    rintro e w5 ⟨rfl, hE⟩
    have E_w5 := aE E_w4 hE;have Bs_w5 := bk6 Bs_w4 hE;have Bx_w5 := bk5 Bx_w4 hE;have Br_w5 := bk6 Br_w4 hE;have Be_w5 := bk5 Be_w4 hE;have T_w5 : Hid (Touch (fun b => b = w.heap.size ∨ b = w.heap.size + 1 ∨ b = w.heap.size + 1 + 1 ∨ b = w2.heap.size) w4 w5) := aT hE
    clear hE c_s c_x c_r c_e Bs_w4 Bx_w4 Br_w4 Be_w4
    have z_w5 := E_w5.out.size;have c_s := opn6 Bs_w5;have c_x := opn5 Bx_w5;have c_r := opn6 Br_w5;have c_e := opn5 Be_w5
    have HX5 := Lib.hid (ExC.keep (fun b hb ha => ⟨T_w5.out.block b hb (fun e => by have := ha.1; have := ha.2; omega), ha⟩) _ _ HX4.out)
    cases h1 : isX [45] Y with
    | true =>
      have H1 := Lib.hid h1
      clear h1
      have HXP := HX5
      have hlt : ar < c.all.length := (HI.out.inn.step H1.out).1
      obtain ⟨tk, tn, tp, htok⟩ : ∃ tk tn tp, tokN Y = (tk, [45], tn, tp) := by
        obtain ⟨q, qs, rfl, hq⟩ := isX_ok H1.out
        exact ⟨q.1, q.2.2.1, q.2.2.2, by show q = _; rw [← isT_txt' hq]; rfl⟩
      have HTOK := Lib.hid htok
      clear htok
      go_wp2_with fail
      refine (rnext_ok c Y ar d kr pr _ (H.out.ext (xE E_w5)) HI.out.inn).mono ?_
      rintro e wB ⟨rfl, hE⟩
      have E_wB := aE E_w5 hE;have Bs_wB := bk6 Bs_w5 hE;have Bx_wB := bk5 Bx_w5 hE;have Br_wB := bk6 Br_w5 hE;have Be_wB := bk5 Be_w5 hE;have T_wB : Hid (Touch (fun b => b = w.heap.size ∨ b = w.heap.size + 1 ∨ b = w.heap.size + 1 + 1 ∨ b = w2.heap.size) w5 wB) := aT hE
      clear hE c_s c_x c_r c_e Bs_w5 Bx_w5 Br_w5 Be_w5
      have z_wB := E_wB.out.size;have c_s := opn6 Bs_wB;have c_x := opn5 Bx_wB;have c_r := opn6 Br_wB;have c_e := opn5 Be_wB
      rw [HTOK.out]
      unfold tokV
      have zf : ∀ u : World, (Instr.field 120 (.agg #[.int .i64 (tk : Int), str [45], .int .i64 (tn : Int), .int .i64 (tp : Int)]) 1).run Tryz.prog u = .ok (str [45]) u := fun _ => by kernel_rfl
      have hBe : w2.heap.size < wB.heap.size := by omega
      have hBr : w.heap.size + 1 + 1 < wB.heap.size := by omega
      have HXB : Hid (ExC wB (fun b => w.heap.size + 1 + 1 < b ∧ b ≠ w2.heap.size ∧ b ≠ wB.heap.size) (exCells op n t o (slv g args.length cap)) (.mk op n t o args)) := Lib.hid (ExC.keep (fun b hb ha => ⟨T_wB.out.block b hb (fun e => by have := ha.1; have := ha.2; omega), ha.1, ha.2, by have := T_wB.out.size; omega⟩) _ _ HXP.out)
      go_wp2_with fail
      refine (HRD.out _ (ar + 1) kr pr _ (H.out.ext (xE E_wB)) (HI.out.inn.step H1.out).2.1 HI.out.dp.behind).mono ?_
      rintro e w7 ⟨op', n', t', o', args', g', cap', a2, k2, p2, rfl, h_I2, h_G2, h_C2, hE⟩
      have n_s_f := ne2 (show w.heap.size ≠ wB.heap.size by omega);have n_x_f := ne2 (show w.heap.size + 1 ≠ wB.heap.size by omega);have n_r_f := ne2 (show w.heap.size + 1 + 1 ≠ wB.heap.size by omega);have n_e_f := ne2 (show w2.heap.size ≠ wB.heap.size by omega)
      have E_w7 := aE E_wB hE;have Bs_w7 := bk6 Bs_wB hE;have Bx_w7 := bk5 Bx_wB hE;have Br_w7 := bk6 Br_wB hE;have Be_w7 := bk5 Be_wB hE;have Bf_w7 := nk5 (wB.heap.size) hE;have T_w7 : Hid (Touch (fun b => b = w.heap.size ∨ b = w.heap.size + 1 ∨ b = w.heap.size + 1 + 1 ∨ b = w2.heap.size) wB w7) := aT hE
      clear hE c_s c_x c_r c_e Bs_wB Bx_wB Br_wB Be_wB
      have z_w7 := E_w7.out.size;have c_s := opn6 Bs_w7;have c_x := opn5 Bx_w7;have c_r := opn6 Br_w7;have c_e := opn5 Be_w7;have c_f := opn5 Bf_w7
      (try unfold sv)
      have I2 := Lib.hid h_I2; clear h_I2
      have G2 := Lib.hid h_G2; clear h_G2
      have C2 := Lib.hid h_C2; clear h_C2
      have hB7 : wB.heap.size < w7.heap.size := by omega
      have HX7 := Lib.hid (ExC.keep (fun b hb ha => ⟨T_w7.out.block b hb (fun e => by have := ha.1; have := ha.2; omega), ha⟩) _ _ HXB.out)
      have HY7 : Hid (ExC w7 (fun b => w.heap.size + 1 + 1 < b ∧ b ≠ w2.heap.size ∧ b ≠ wB.heap.size) (exCells op' n' t' o' (slv g' args'.length cap')) (.mk op' n' t' o' args')) := Lib.hid (ExC.weak C2.out (fun b hb ha => by simp [size_set] at ha; omega))
      go_wp2_with fail
      refine (r2_ok _ [45] op t o op' t' o' n n' g g' args.length cap args'.length cap').mono ?_
      rintro e w8 ⟨b2, rfl, h_L2, hE, h_B2⟩
      have E_w8 := aE E_w7 hE;have Bs_w8 := bk6 Bs_w7 hE;have Bx_w8 := bk5 Bx_w7 hE;have Br_w8 := bk6 Br_w7 hE;have Be_w8 := bk5 Be_w7 hE;have Bf_w8 := bk5 Bf_w7 hE;have T_w8 : Hid (Touch (fun b => b = w.heap.size ∨ b = w.heap.size + 1 ∨ b = w.heap.size + 1 + 1 ∨ b = w2.heap.size ∨ b = wB.heap.size) w7 w8) := aT hE
      clear hE c_s c_x c_r c_e c_f Bs_w7 Bx_w7 Br_w7 Be_w7 Bf_w7
      have z_w8 := E_w8.out.size;have c_s := opn6 Bs_w8;have c_x := opn5 Bx_w8;have c_r := opn6 Br_w8;have c_e := opn5 Be_w8;have c_f := opn5 Bf_w8
      (try unfold sv)
      have L2 := Lib.hid h_L2; clear h_L2
      have B2 := Lib.hid h_B2; clear h_B2
      have HX8 := Lib.hid (ExC.keep (fun b hb ha => ⟨T_w8.out.block b hb (fun e => by have := ha.1; have := ha.2; omega), ha⟩) _ _ HX7.out)
      have HY8 := Lib.hid (ExC.keep (fun b hb ha => ⟨T_w8.out.block b hb (fun e => by have := ha.1; have := ha.2; omega), ha⟩) _ _ HY7.out)
      have HA2 : Hid (w.heap.size + 1 + 1 < b2 ∧ b2 ≠ w2.heap.size ∧ b2 ≠ wB.heap.size) := Lib.hid (by have := L2.out; simp [size_set] at this; omega)
      have HZ8 := Lib.hid (two_cells (op := [45]) (c1 := exCells op n t o (slv g args.length cap)) (c2 := exCells op' n' t' o' (slv g' args'.length cap')) B2.out HX8.out HY8.out HA2.out)
      go_wp2
      obtain ⟨f1, hf1, hfew⟩ := HI.out.few.step H1.out HSUF.out
      have HST := Lib.hid (mu_step H1.out HSUF.out)
      go_roundg (mu ((behind Y).then rd))
      case measure => rw [HI.out.hk]; exact HST.out
      case rel =>
        refine ⟨_, f1, a2, k2, p2, [45], 0, [], [], [.mk op n t o args, .mk op' n' t' o' args'], some b2, 2, rfl, (xE E_w8), (xb6 Bs_w8), (xb5 Bx_w8), (xb6 Br_w8), (xb5 Be_w8), I2.out, hfew, HI.out.dp.behind.then, ?_, ?_⟩
        · rw [HI.out.run, hf1, run_chL_yes (s := [45]) (by simp) H1.out G2.out]; rfl
        · exact ExC.keep (fun b hb ha => ⟨Touch.block (S := (fun b => b = w.heap.size ∨ b = w.heap.size + 1 ∨ b = w.heap.size + 1 + 1 ∨ b = w2.heap.size ∨ b = wB.heap.size)) xT b hb (fun e => by have := ha.1; have := ha.2; omega), ha.1, ha.2.1⟩) _ _ HZ8.out
    | false =>
      have H1 := Lib.hid h1
      clear h1
      go_wp2
      letI : Tch.TS := ⟨fun b => b = w.heap.size + 1⟩
      refine Tch.region_calm [.e 0, .e 1, .h 2 true, .h 3 false] f_mixed (by kernel_rfl) (by kernel_rfl) ?_
      refine Tch.plan_e1 rfl rfl (.agg #[str op, .int .i64 (n : Int), str t, str o, slv g args.length cap]) (fun w' he => ?_) (fun K hK => ?_)
      · have d := tch5 he c_e (fun (e : _ = _) => by omega)
        clear c_e he
        go_simp
      go_simp; refine hK _ ?_; clear hK K
      refine Tch.plan_e1 rfl rfl (.agg #[slv c.g c.all.length c.cap, .int .i64 (ar : Int), .int .i64 (c.E : Int), .int .i64 (d : Int), .int .i64 (kr : Int), .int .i64 (pr : Int)]) (fun w' he => ?_) (fun K hK => ?_)
      · have d := tch6 he c_s (fun (e : _ = _) => by omega)
        clear c_s he
        go_simp
      go_simp; refine hK _ ?_; clear hK K
      refine Tch.plan_ct rfl rfl (fun K _ hK => ?_)
      go_wp2
      refine hK _ _ (late5d _ _ _ _ _ _ _) ?_; clear hK K
      refine Tch.plan_c rfl rfl (fun K _ hK => ?_)
      go_wp2
      refine tch_done ?_
      go_wp2
      (try simp only [Exit.inBlock, Exit.then])
      refine bodyPost_ret (v := .tuple #[.agg #[str op, .int .i64 (n : Int), str t, str o, slv g args.length cap], .agg #[slv c.g c.all.length c.cap, .int .i64 (ar : Int), .int .i64 (c.E : Int), .int .i64 (d : Int), .int .i64 (kr : Int), .int .i64 (pr : Int)]]) (res_cc rfl rfl (lv_ex (xb5 Bx_w5)) rfl (lv_src (xb6 Br_w5))) rfl ?_
      obtain ⟨h2, h3⟩ := run_end (by rw [HI.out.run, run_chL_no (fun s hs => by simp at hs; rcases hs with rfl | rfl <;> first | exact HA.out | exact H1.out)]) HI.out.inn
      refine ⟨op, n, t, o, args, g, cap, _, _, _, rfl, h2, h3, ?_, ?_⟩
      · exact ExC.keep (fun b hb ha => ⟨Touch.block (S := (fun b => b = w.heap.size ∨ b = w.heap.size + 1 ∨ b = w.heap.size + 1 + 1 ∨ b = w2.heap.size)) xT b hb (fun e => by have := ha.1; have := ha.2; omega), by have := ha.1; omega⟩) _ _ HX5.out
      · exact (xE E_w5)
end Go.Proofs.YtkhnpmeohjafiaaGreatDoor
