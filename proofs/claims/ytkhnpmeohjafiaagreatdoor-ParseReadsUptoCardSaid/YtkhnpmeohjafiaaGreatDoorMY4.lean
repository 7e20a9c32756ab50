/- Lemmas. -/
import Derived.Test.YtkhnpmeohjafiaaGreatDoorMY3
import Derived.Deep.Cut
import Derived.Deep.CutBlock
import Derived.Deep.CutRange
import Derived.Test.YtkhnpmeohjafiaaGreatDoorML
set_option maxHeartbeats 16000000
set_option maxRecDepth 100000
namespace Go.Proofs.YtkhnpmeohjafiaaGreatDoor
open Go.RowKit
theorem vls_nil {α : Type} (K : Kd α) (T : TypeId) (w : World) (lo : Nat) : VLs K T w lo (slv none 0 0) ([] : List α) := ⟨none, 0, [], rfl, Sl.nil _ _ _, fun b h => (by cases h), rfl⟩
theorem vls_one {α : Type} {K : Kd α} {T : TypeId} {w : World} {lo b : Nat} {cs : List Value} {x : α} (hb : w.heap[b]? = some (.cells cs.toArray T (0, 0))) (hc : K.C w (fun k => lo ≤ k ∧ some b ≠ some k) cs x) (hlo : lo ≤ b) : VLs K T w lo (slv (some b) 1 1) [x] :=
 ⟨some b, 1, cs, rfl, sl_one hb hc, fun _ h => by cases h; exact hlo, LsC.one K hc⟩
theorem rwhere_ok (c : Rx) (X : Xs) (a k p : Nat) (w : World) (h : Rk w c) (hx : In c X a k p) :
   Calls Tryz.prog 76 #[sv c a 0 k p] w (LsPost ExK 45 c w 0 X (whereP c.E)) := by
 have H := Lib.hid h
 have HX := Lib.hid hx
 have hsm := h.small
 have hle := hx.1
 clear h hx
 unfold sv
 have E_w : Hid (Ext w w) := Lib.hid (Ext.refl w)
 go_enter Tryz.func76, Tryz.ntmps76
 go_wp2_with fail
 refine (rmay_ok c X a 0 k p [87, 72, 69, 82, 69] _ (H.out.ext (xE E_w)) HX.out).mono ?_
 rintro e w2 ⟨a1, rfl, h_I1, hE⟩
 have n_s_r := ne2 (show w.heap.size ≠ w.heap.size + 1 by omega)
 have E_w2 := aE E_w hE;have Bs_w2 := nk6 (w.heap.size) hE;have Br_w2 := nk6 (w.heap.size + 1) hE
 clear hE
 have z_w2 := E_w2.out.size;have c_s := opn6 Bs_w2;have c_r := opn6 Br_w2
 (try unfold sv)
 have I1 := Lib.hid h_I1; clear h_I1
 cases hm : isX [87, 72, 69, 82, 69] X with
 | false =>
   have HM := Lib.hid hm
   clear hm
   go_wp2
   refine wp_nm (fun w3 hE => ?_)
   have n_s_u := ne2 (show w.heap.size ≠ w2.heap.size by omega);have n_r_u := ne2 (show w.heap.size + 1 ≠ w2.heap.size by omega)
   have E_w3 := aE E_w2 hE;have Bs_w3 := bk6 Bs_w2 hE;have Br_w3 := bk6 Br_w2 hE;have Bu_w3 := nk6 (w2.heap.size) hE;have T_w3 : Hid (Touch (S2 w) w2 w3) := aT hE
   clear hE c_s c_r Bs_w2 Br_w2
   have z_w3 := E_w3.out.size;have c_s := opn6 Bs_w3;have c_r := opn6 Br_w3;have c_u := opn6 Bu_w3
   refine region_calm [.l 0, .p 1, .h 2 false] f_mixed (by kernel_rfl) (by kernel_rfl) ?_
   repeat ((first | refine plan_p rfl (fun K hK => ?_) | refine plan_l rfl (fun K hK => ?_)); go_simp; refine hK _ ?_; clear hK K)
   refine plan_c rfl rfl (fun K _ hK => ?_)
   go_wp2
   refine plan_done ?_
   go_wp2
   (try simp only [Exit.inBlock, Exit.then])
   refine bodyPost_ret (v := .tuple #[slv none 0 0, .agg #[slv c.g c.all.length c.cap, .int .i64 (a : Int), .int .i64 (c.E : Int), .int .i64 ((0 : Nat) : Int), .int .i64 (k : Int), .int .i64 (p : Int)]]) (res_tc rfl rfl rfl (lv_src (xb6 Br_w3))) rfl ?_
   obtain ⟨h2, h3⟩ := run_end (F := whereP c.E) (Y := X) (z := []) (by rw [show whereP c.E = fun ts => if isT [87, 72, 69, 82, 69] ts then fin (fun e => [e]) (expr c.E ts.tail) else .ok ([], ts) from rfl]; exact run_no HM.out) HX.out
   exact ⟨[], none, 0, _, _, _, rfl, h2, h3, vls_nil _ _ _ _, (xE E_w3)⟩
 | true =>
   have HM := Lib.hid hm
   clear hm
   have HI1 : Hid (In c (behind X) a1 k p) := Lib.hid (by have := I1.out; rwa [mayX_yes HM.out] at this)
   have hle1 := HI1.out.1
   go_wp2_with fail
   refine (rexpr_ok c _ a1 k p _ (H.out.ext (xE E_w2)) HI1.out).mono ?_
   rintro e w3 ⟨op, n, t, o, args, g, cap, a2, k2, p2, rfl, h_I2, h_G2, h_C2, hE⟩
   have n_s_u := ne2 (show w.heap.size ≠ w2.heap.size by omega);have n_r_u := ne2 (show w.heap.size + 1 ≠ w2.heap.size by omega)
   have E_w3 := aE E_w2 hE;have Bs_w3 := bk6 Bs_w2 hE;have Br_w3 := bk6 Br_w2 hE;have Bu_w3 := nk6 (w2.heap.size) hE;have T_w3 : Hid (Touch (S2 w) w2 w3) := aT hE
   clear hE c_s c_r Bs_w2 Br_w2
   have z_w3 := E_w3.out.size;have c_s := opn6 Bs_w3;have c_r := opn6 Br_w3;have c_u := opn6 Bu_w3
   (try unfold sv)
   have I2 := Lib.hid h_I2; clear h_I2
   have G2 := Lib.hid h_G2; clear h_G2
   have C2 := Lib.hid h_C2; clear h_C2
   have C3 := Lib.hid (ExC.weak (A' := fun b => w.heap.size + 1 < b ∧ b < w3.heap.size) C2.out (fun b hb ha => by simp [size_set] at ha; omega))
   clear c_u n_s_u n_r_u
   go_wp2
   refine wp_nm (fun w4 hE => ?_)
   have n_s_e := ne2 (show w.heap.size ≠ w3.heap.size by omega);have n_s_v := ne2 (show w.heap.size ≠ w3.heap.size + 1 by omega);have n_r_e := ne2 (show w.heap.size + 1 ≠ w3.heap.size by omega);have n_r_v := ne2 (show w.heap.size + 1 ≠ w3.heap.size + 1 by omega);have n_e_v := ne2 (show w3.heap.size ≠ w3.heap.size + 1 by omega)
   have E_w4 := aE E_w3 hE;have Bs_w4 := bk6 Bs_w3 hE;have Br_w4 := bk6 Br_w3 hE;have Be_w4 := nk5 (w3.heap.size) hE;have Bv_w4 := nk6 (w3.heap.size + 1) hE;have T_w4 : Hid (Touch (S2 w) w3 w4) := aT hE
   clear hE c_s c_r Bs_w3 Br_w3
   have z_w4 := E_w4.out.size;have c_s := opn6 Bs_w4;have c_r := opn6 Br_w4;have c_e := opn5 Be_w4;have c_v := opn6 Bv_w4
   have C4 := Lib.hid (ExC.keep (fun b hb ha => ⟨T_w4.out.block b hb (fun e => by have := ha.1; omega), ha⟩) _ _ C3.out)
   letI : Tch.TS := ⟨fun b => b = w.heap.size⟩
   refine Tch.region_calm [.e 0, .e 2, .h 1 true, .p 3, .h 4 false] f_mixed (by kernel_rfl) (by kernel_rfl) ?_
   refine Tch.plan_e1 rfl rfl (.agg #[str op, .int .i64 (n : Int), str t, str o, slv g args.length cap]) (fun w' he => ?_) (fun K hK => ?_)
   · have d := tch5 he c_e (fun (e : _ = _) => by omega)
     clear c_e he
     go_simp
   go_simp; refine hK _ ?_; clear hK K
   refine Tch.plan_e1 rfl rfl (.agg #[slv c.g c.all.length c.cap, .int .i64 (a2 : Int), .int .i64 (c.E : Int), .int .i64 ((0 : Nat) : Int), .int .i64 (k2 : Int), .int .i64 (p2 : Int)]) (fun w' he => ?_) (fun K hK => ?_)
   · have d := tch6 he c_v (fun (e : _ = _) => by omega)
     clear c_v he
     go_simp
   go_simp; refine hK _ ?_; clear hK K
   refine Tch.plan_ct rfl rfl (fun K _ hK => ?_)
   go_wp2
   refine hK _ _ (((Touch.refl _ _).alloc _).drews) ?_; clear hK K
   repeat (refine Tch.plan_p rfl (fun K hK => ?_); go_simp; refine hK _ ?_; clear hK K)
   refine Tch.plan_c rfl rfl (fun K _ hK => ?_)
   go_wp2
   refine tch_done ?_
   go_wp2
   (try simp only [Exit.inBlock, Exit.then])
   refine bodyPost_ret (v := .tuple #[slv (some w4.heap.size) 1 1, .agg #[slv c.g c.all.length c.cap, .int .i64 (a2 : Int), .int .i64 (c.E : Int), .int .i64 ((0 : Nat) : Int), .int .i64 (k2 : Int), .int .i64 (p2 : Int)]]) (res_tc rfl rfl rfl (lv_src (xb6 Br_w4))) rfl ?_
   obtain ⟨h2, h3⟩ := run_end (F := whereP c.E) (z := [.mk op n t o args]) (by rw [show whereP c.E = fun ts => if isT [87, 72, 69, 82, 69] ts then fin (fun e => [e]) (expr c.E ts.tail) else .ok ([], ts) from rfl, run_yes (A := fun ts => fin (fun e => [e]) (expr c.E ts)) (B := fun ts => .ok ([], ts)) HM.out]; exact run_fin2 (run_then G2.out)) I2.out
   refine ⟨[.mk op n t o args], some w4.heap.size, 1, _, _, _, rfl, h2, h3, ?_, (xE E_w4)⟩
   exact vls_one (cs := exCells op n t o (slv g args.length cap)) xn5 (ExC.keep (fun b hb ha => ⟨Touch.block (S := (fun b => b = w.heap.size ∨ b = w.heap.size + 1 ∨ b = w3.heap.size ∨ b = w3.heap.size + 1)) xT b hb (fun e => by have := ha.1; have := ha.2; omega), by have := ha.1; omega, fun e => by cases e; omega⟩) _ _ C4.out) (by omega)
def askB (E : Nat) (q : Qu) (ts : List Tok) : Res Qu := if isT [83, 85, 77] ts then fin (fun s => { q with sum := s }) (name E ts.tail) else fin (fun l => { q with items := l }) (sep (item E) ts)
def ask2 (E : Nat) (al cn : Bool) (q : Qu) (ts : List Tok) : Res Qu := if al then .ok ({ q with all := true }, ts) else if cn then .ok ({ q with count := true }, ts) else askB E q ts
def quT (E : Nat) (q : Qu) (r : List Tok) : Res Qu := bnd (must E [70, 82, 79, 77] r) fun _ r => bnd (tablesP E r) fun l r => fin (fun c => { q with tables := l, cond := c }) (whereP E r)
section
variable {X : Xs} {c : Rx}
theorem qu_sel : X.run (query c.E) = (mustX c [83, 69, 76, 69, 67, 84] X).run fun r => bnd (asked c.E { Qu.none with coalesce := isT [67, 79, 65, 76, 69, 83, 67, 69] r } (if isT [67, 79, 65, 76, 69, 83, 67, 69] r then r.tail else r)) (quT c.E) :=
 run_must (g := fun r => bnd (asked c.E { Qu.none with coalesce := isT [67, 79, 65, 76, 69, 83, 67, 69] r } (if isT [67, 79, 65, 76, 69, 83, 67, 69] r then r.tail else r)) (quT c.E))
theorem qu_coal : X.run (fun r => bnd (asked c.E { Qu.none with coalesce := isT [67, 79, 65, 76, 69, 83, 67, 69] r } (if isT [67, 79, 65, 76, 69, 83, 67, 69] r then r.tail else r)) (quT c.E)) = (mayX [67, 79, 65, 76, 69, 83, 67, 69] X).run fun r => bnd (asked c.E { Qu.none with coalesce := isX [67, 79, 65, 76, 69, 83, 67, 69] X } r) (quT c.E) := by
 cases X with
 | error e => rfl
 | ok ts =>
   unfold mayX
   by_cases h : isT [67, 79, 65, 76, 69, 83, 67, 69] ts = true
   · have h' : isX [67, 79, 65, 76, 69, 83, 67, 69] (.ok ts) = true := h
     rw [if_pos h', h']
     show bnd (asked c.E _ (if isT [67, 79, 65, 76, 69, 83, 67, 69] ts then ts.tail else ts)) _ = _
     rw [if_pos h, h]; rfl
   · have h0 : isT [67, 79, 65, 76, 69, 83, 67, 69] ts = false := by simpa using h
     have h' : isX [67, 79, 65, 76, 69, 83, 67, 69] (.ok ts) = false := h0
     rw [h', if_neg (by decide)]
     show bnd (asked c.E _ (if isT [67, 79, 65, 76, 69, 83, 67, 69] ts then ts.tail else ts)) _ = _
     rw [if_neg h, h0]; rfl
theorem qu_all {q : Qu} (h : isX [42] X = true) : X.run (fun r => bnd (asked c.E q r) (quT c.E)) = (behind X).run fun r => bnd (ask2 c.E true false q r) (quT c.E) := by
 cases X with
 | error e => cases h
 | ok ts =>
   have h' : isT [42] ts = true := h
   show bnd (asked c.E q ts) _ = _
   unfold asked; rw [if_pos h']; rfl
theorem qu_count {q : Qu} (h1 : isX [42] X = false) (h : isX [67, 79, 85, 78, 84] X = true) : X.run (fun r => bnd (asked c.E q r) (quT c.E)) = (behind X).run fun r => bnd (ask2 c.E false true q r) (quT c.E) := by
 cases X with
 | error e => cases h
 | ok ts =>
   have h1' : isT [42] ts = false := h1
   have h' : isT [67, 79, 85, 78, 84] ts = true := h
   show bnd (asked c.E q ts) _ = _
   unfold asked; rw [if_neg (by simp [h1']), if_pos h']; rfl
theorem qu_other {q : Qu} (h1 : isX [42] X = false) (h : isX [67, 79, 85, 78, 84] X = false) : X.run (fun r => bnd (asked c.E q r) (quT c.E)) = X.run fun r => bnd (ask2 c.E false false q r) (quT c.E) := by
 cases X with
 | error e => rfl
 | ok ts =>
   have h1' : isT [42] ts = false := h1
   have h' : isT [67, 79, 85, 78, 84] ts = false := h
   show bnd (asked c.E q ts) _ = bnd (askB c.E q ts) _
   unfold asked askB; rw [if_neg (by simp [h1']), if_neg (by simp [h'])]
theorem qu_sum {q : Qu} {s : Str} (h : isX [83, 85, 77] X = true) (hs : Got (behind X) (name c.E) s) : X.run (fun r => bnd (ask2 c.E false false q r) (quT c.E)) = ((behind X).then (name c.E)).run (quT c.E ({ q with sum := s } : Qu)) := by
 refine run_bnd2 (x := ({ q with sum := s } : Qu)) ?_
 rw [show ask2 c.E false false q = fun ts => if isT [83, 85, 77] ts then fin (fun s => ({ q with sum := s } : Qu)) (name c.E ts.tail) else fin (fun l => ({ q with items := l } : Qu)) (sep (item c.E) ts) from rfl,
  run_yes (A := fun ts => fin (fun s => ({ q with sum := s } : Qu)) (name c.E ts)) (B := fun ts => fin (fun l => ({ q with items := l } : Qu)) (sep (item c.E) ts)) h]
 exact run_fin2 (run_then hs)
theorem qu_items {q : Qu} {l : List Ex} (h : isX [83, 85, 77] X = false) (hs : Got X (sep (item c.E)) l) : X.run (fun r => bnd (ask2 c.E false false q r) (quT c.E)) = (X.then (sep (item c.E))).run (quT c.E ({ q with items := l } : Qu)) := by
 refine run_bnd2 (x := ({ q with items := l } : Qu)) ?_
 rw [show ask2 c.E false false q = fun ts => if isT [83, 85, 77] ts then fin (fun s => ({ q with sum := s } : Qu)) (name c.E ts.tail) else fin (fun l => ({ q with items := l } : Qu)) (sep (item c.E) ts) from rfl,
  run_no (A := fun ts => fin (fun s => ({ q with sum := s } : Qu)) (name c.E ts.tail)) (B := fun ts => fin (fun l => ({ q with items := l } : Qu)) (sep (item c.E) ts)) h]
 exact run_fin2 (run_then hs)
theorem qu_from {q : Qu} {n : Str} (hn : Got (mustX c [70, 82, 79, 77] X) (name c.E) n) : X.run (quT c.E q) = ((mustX c [70, 82, 79, 77] X).then (name c.E)).run fun r => bnd (if isT [44] r then fin (fun m => [n, m]) (name c.E r.tail) else .ok ([n], r)) fun l r => fin (fun c => ({ q with tables := l, cond := c } : Qu)) (whereP c.E r) := by
 rw [show quT c.E q = fun r => bnd (must c.E [70, 82, 79, 77] r) fun _ r => bnd (tablesP c.E r) fun l r => fin (fun c => ({ q with tables := l, cond := c } : Qu)) (whereP c.E r) from rfl,
  run_must (g := fun r => bnd (tablesP c.E r) fun l r => fin (fun c => ({ q with tables := l, cond := c } : Qu)) (whereP c.E r))]
 have h : ∀ Z : Xs, Got Z (name c.E) n → Z.run (fun r => bnd (tablesP c.E r) fun l r => fin (fun c => ({ q with tables := l, cond := c } : Qu)) (whereP c.E r)) = (Z.then (name c.E)).run fun r => bnd (if isT [44] r then fin (fun m => [n, m]) (name c.E r.tail) else .ok ([n], r)) fun l r => fin (fun c => ({ q with tables := l, cond := c } : Qu)) (whereP c.E r) := by
  intro Z hz
  cases Z with
  | error e => rfl
  | ok ts =>
    show bnd (tablesP c.E ts) _ = _
    unfold tablesP
    cases hn : name c.E ts with
    | error e => rw [then_err' hn]; rfl
    | ok yr =>
      obtain ⟨y, r⟩ := yr
      cases hz ts y r rfl hn
      rw [then_ok' hn]; rfl
 exact h _ hn
theorem qu_two {q : Qu} {n m : Str} (h : isX [44] X = true) (hm : Got (behind X) (name c.E) m) : X.run (fun r => bnd (if isT [44] r then fin (fun m => [n, m]) (name c.E r.tail) else .ok ([n], r)) fun l r => fin (fun c => ({ q with tables := l, cond := c } : Qu)) (whereP c.E r)) = ((behind X).then (name c.E)).run fun r => fin (fun c => { q with tables := [n, m], cond := c }) (whereP c.E r) := by
 refine run_bnd2 (x := [n, m]) (g := fun l r => fin (fun c => ({ q with tables := l, cond := c } : Qu)) (whereP c.E r)) ?_
 rw [run_yes (A := fun ts => fin (fun m => [n, m]) (name c.E ts)) (B := fun r => .ok ([n], r)) h]
 exact run_fin2 (run_then hm)
theorem qu_one {q : Qu} {n : Str} (h : isX [44] X = false) : X.run (fun r => bnd (if isT [44] r then fin (fun m => [n, m]) (name c.E r.tail) else .ok ([n], r)) fun l r => fin (fun c => ({ q with tables := l, cond := c } : Qu)) (whereP c.E r)) = X.run fun r => fin (fun c => { q with tables := [n], cond := c }) (whereP c.E r) := by
 refine run_bnd2 (x := [n]) (g := fun l r => fin (fun c => ({ q with tables := l, cond := c } : Qu)) (whereP c.E r)) ?_
 exact run_no (A := fun r => fin (fun m => [n, m]) (name c.E r.tail)) (B := fun r => .ok ([n], r)) h
end
def QuPost (c : Rx) (w : World) (X : Xs) (e : Ending) (w' : World) : Prop :=
 ∃ (x : Qu) (vi vt vc : Value) (a' k' p' : Nat), e = .returned (.tuple #[.agg #[.bool x.coalesce, .bool x.all, .bool x.count, str x.sum, vi, vt, vc], sv c a' 0 k' p']) ∧ In c (X.then (query c.E)) a' k' p' ∧ Got X (query c.E) x ∧
  QuC w' (fun b => w.heap.size ≤ b) [.bool x.coalesce, .bool x.all, .bool x.count, str x.sum, vi, vt, vc] x ∧ Ext w w'
structure QI (w : World) (c : Rx) (wc : World) (Y : Xs) (a k p : Nat) (cells : Array Value) : Prop where
 ext : Ext w wc
 bs : wc.heap[w.heap.size]? = some (.cells #[slv c.g c.all.length c.cap, .int .i64 (a : Int), .int .i64 (c.E : Int), .int .i64 ((0 : Nat) : Int), .int .i64 (k : Int), .int .i64 (p : Int)] 71 (0, 0))
 bx : wc.heap[w.heap.size + 1]? = some (.cells #[.bool false, .bool false, .bool false, str [], .slice none 0 0, .slice none 0 0, .slice none 0 0] 49 (0, 0))
 br : wc.heap[w.heap.size + 1 + 1]? = some (.cells #[.slice none 0 0, .int .i64 (0 : Int), .int .i64 (0 : Int), .int .i64 (0 : Int), .int .i64 (0 : Int), .int .i64 (0 : Int)] 71 (0, 0))
 bq : wc.heap[w.heap.size + 1 + 1 + 1]? = some (.cells cells 49 (0, 0))
 inn : In c Y a k p
theorem late7d (w : World) (b : Nat) (v0 v1 v2 v3 v4 v5 v6 : Value) : Touch (fun k => k = b) w.drew (((((((w.setCell ⟨b, 0, none⟩ v0).setCell ⟨b, 1, none⟩ v1).setCell ⟨b, 2, none⟩ v2).setCell ⟨b, 3, none⟩ v3).setCell ⟨b, 4, none⟩ v4).setCell ⟨b, 5, none⟩ v5).setCell ⟨b, 6, none⟩ v6).drew :=
 Touch.drews ((((((((Touch.refl (fun k => k = b) w).setCell (p := ⟨b, 0, none⟩) (fun _ => rfl) v0).setCell (p := ⟨b, 1, none⟩) (fun _ => rfl) v1).setCell (p := ⟨b, 2, none⟩) (fun _ => rfl) v2).setCell (p := ⟨b, 3, none⟩) (fun _ => rfl) v3).setCell (p := ⟨b, 4, none⟩) (fun _ => rfl) v4).setCell (p := ⟨b, 5, none⟩) (fun _ => rfl) v5).setCell (p := ⟨b, 6, none⟩) (fun _ => rfl) v6)
theorem rquery_ok (c : Rx) (X : Xs) (a k p : Nat) (w : World) (h : Rk w c) (hx : In c X a k p) :
  Calls Tryz.prog 102 #[sv c a 0 k p] w (QuPost c w X) := by
 have H := Lib.hid h
 have HX := Lib.hid hx
 have hsm := h.small
 have hle := hx.1
 clear h hx
 unfold sv
 have E_w : Hid (Ext w w) := Lib.hid (Ext.refl w)
 go_enter Tryz.func102, Tryz.ntmps102
 go_wp2_with fail
 refine (rmust_ok c X a 0 k p [83, 69, 76, 69, 67, 84] _ (H.out.ext (xE E_w)) HX.out).mono ?_
 rintro e w2 ⟨a1, k1, p1, rfl, h_I1, hE⟩
 have n_ := nst4 w
 have E_w2 := aE E_w hE;have Bs_w2 := nk6 (w.heap.size) hE;have Bx_w2 := nk7 (w.heap.size + 1) hE;have Br_w2 := nk6 (w.heap.size + 1 + 1) hE;have Bq_w2 := nk7 (w.heap.size + 1 + 1 + 1) hE
 clear hE
 have z_w2 := E_w2.out.size;have c_s := opn6 Bs_w2;have c_x := opn7 Bx_w2;have c_r := opn6 Br_w2;have c_q := opn7 Bq_w2
 (try unfold sv)
 have I1 := Lib.hid h_I1; clear h_I1
 have hle1 := I1.out.1
 go_wp2_with fail
 refine (rmay_ok c _ a1 0 k1 p1 [67, 79, 65, 76, 69, 83, 67, 69] _ (H.out.ext (xE E_w2)) I1.out).mono ?_
 rintro e w3 ⟨a2, rfl, h_I2, hE⟩
 have E_w3 := aE E_w2 hE;have Bs_w3 := bk6 Bs_w2 hE;have Bx_w3 := bk7 Bx_w2 hE;have Br_w3 := bk6 Br_w2 hE;have Bq_w3 := bk7 Bq_w2 hE
 clear hE c_s c_x c_r c_q Bs_w2 Bx_w2 Br_w2 Bq_w2
 have z_w3 := E_w3.out.size;have c_s := opn6 Bs_w3;have c_x := opn7 Bx_w3;have c_r := opn6 Br_w3;have c_q := opn7 Bq_w3
 (try unfold sv)
 have I2 := Lib.hid h_I2; clear h_I2
 have hle2 := I2.out.1
 have HR2 : Hid (X.run (query c.E) = (mayX [67, 79, 65, 76, 69, 83, 67, 69] (mustX c [83, 69, 76, 69, 67, 84] X)).run fun r => bnd (asked c.E { Qu.none with coalesce := isX [67, 79, 65, 76, 69, 83, 67, 69] (mustX c [83, 69, 76, 69, 67, 84] X) } r) (quT c.E)) := Lib.hid (by rw [qu_sel, qu_coal])
 generalize isX [67, 79, 65, 76, 69, 83, 67, 69] (mustX c [83, 69, 76, 69, 67, 84] X) = co at HR2 ⊢
 go_wp2_with fail
 refine (rmay_ok c _ a2 0 k1 p1 [42] _ (H.out.ext (xE E_w3)) I2.out).mono ?_
 rintro e w4 ⟨a3, rfl, h_I3, hE⟩
 have E_w4 := aE E_w3 hE;have Bs_w4 := bk6 Bs_w3 hE;have Bx_w4 := bk7 Bx_w3 hE;have Br_w4 := bk6 Br_w3 hE;have Bq_w4 := bk7 Bq_w3 hE
 clear hE c_s c_x c_r c_q Bs_w3 Bx_w3 Br_w3 Bq_w3
 have z_w4 := E_w4.out.size;have c_s := opn6 Bs_w4;have c_x := opn7 Bx_w4;have c_r := opn6 Br_w4;have c_q := opn7 Bq_w4
 (try unfold sv)
 have I3 := Lib.hid h_I3; clear h_I3
 have hle3 := I3.out.1
 generalize hal : isX [42] (mayX [67, 79, 65, 76, 69, 83, 67, 69] (mustX c [83, 69, 76, 69, 67, 84] X)) = al
 have HAL := Lib.hid hal
 clear hal
 go_upto_if 25 with fail
 go_cut [] from 8 to 93 (fun wc => ∃ (Y : Xs) (ac kc pc : Nat) (al cn : Bool), (al = true → cn = false) ∧ QI w c wc Y ac kc pc #[.bool co, .bool al, .bool cn, str [], .slice none 0 0, .slice none 0 0, .slice none 0 0] ∧ X.run (query c.E) = Y.run fun r => bnd (ask2 c.E al cn { Qu.none with coalesce := co } r) (quT c.E))
 case first =>
  cases al with
  | true =>
    go_wp2
    go_meet
    case rel =>
      have h3 := I3.out
      rw [mayX_yes HAL.out] at h3
      exact ⟨_, a3, k1, p1, true, false, fun _ => rfl, ⟨(xE E_w4), (xb6 Bs_w4), (xb7 Bx_w4), (xb6 Br_w4), (xb7 Bq_w4), h3⟩, by rw [HR2.out, qu_all HAL.out]⟩
  | false =>
    have I4 : Hid (In c (mayX [67, 79, 65, 76, 69, 83, 67, 69] (mustX c [83, 69, 76, 69, 67, 84] X)) a3 k1 p1) := Lib.hid (by have h3 := I3.out; rwa [mayX_no HAL.out] at h3)
    go_wp2_with fail
    refine (rmay_ok c _ a3 0 k1 p1 [67, 79, 85, 78, 84] _ (H.out.ext (xE E_w4)) I4.out).mono ?_
    rintro e w5 ⟨a4, rfl, h_I5, hE⟩
    have E_w5 := aE E_w4 hE;have Bs_w5 := bk6 Bs_w4 hE;have Bx_w5 := bk7 Bx_w4 hE;have Br_w5 := bk6 Br_w4 hE;have Bq_w5 := bk7 Bq_w4 hE
    clear hE c_s c_x c_r c_q Bs_w4 Bx_w4 Br_w4 Bq_w4
    have z_w5 := E_w5.out.size;have c_s := opn6 Bs_w5;have c_x := opn7 Bx_w5;have c_r := opn6 Br_w5;have c_q := opn7 Bq_w5
    (try unfold sv)
    have I5 := Lib.hid h_I5; clear h_I5
    generalize hcn : isX [67, 79, 85, 78, 84] (mayX [67, 79, 65, 76, 69, 83, 67, 69] (mustX c [83, 69, 76, 69, 67, 84] X)) = cn
    have HCN := Lib.hid hcn
    clear hcn
    go_wp2
    go_meet
    case rel =>
      refine ⟨mayX [67, 79, 85, 78, 84] (mayX [67, 79, 65, 76, 69, 83, 67, 69] (mustX c [83, 69, 76, 69, 67, 84] X)), a4, k1, p1, false, cn, (fun h => by cases h), ⟨(xE E_w5), (xb6 Bs_w5), (xb7 Bx_w5), (xb6 Br_w5), (xb7 Bq_w5), I5.out⟩, ?_⟩
      cases cn with
      | true => rw [HR2.out, qu_count HAL.out HCN.out, mayX_yes HCN.out]
      | false => rw [HR2.out, qu_other HAL.out HCN.out, mayX_no HCN.out]
 case rest =>
  clear HAL HR2
  obtain ⟨Y, ac, kc, pc, al, cn, hac, hq, hr⟩ := hcut
  have HQI := Lib.hid hq
  have HR := Lib.hid hr
  clear hq hr
  clear c_s c_x c_r c_q
  have HAC := Lib.hid hac
  clear hac
  cases al with
  | true =>
    obtain rfl := HAC.out rfl
    have E_wc := Lib.hid HQI.out.ext
    have Bs_wc := Lib.hid HQI.out.bs
    have Bx_wc := Lib.hid HQI.out.bx
    have Br_wc := Lib.hid HQI.out.br
    have Bq_wc := Lib.hid HQI.out.bq
    have z_wc : w.heap.size ≤ wc.heap.size := HQI.out.ext.size
    have hler : ac ≤ c.all.length := HQI.out.inn.1
    have c_s := opn6 Bs_wc;have c_x := opn7 Bx_wc;have c_r := opn6 Br_wc;have c_q := opn7 Bq_wc
    go_upto_if 39 with fail
    obtain ⟨b2, b3, sm, il, gi, ci, HQ2, HVI, HR2⟩ : ∃ (b2 b3 : Bool) (sm : Str) (il : List Ex) (gi : Option Nat) (ci : Nat), Hid (QI w c wc Y ac kc pc #[.bool co, .bool b2, .bool b3, str sm, slv gi il.length ci, .slice none 0 0, .slice none 0 0]) ∧ Hid (VLA ExK 45 wc (fun b => w.heap.size + 1 + 1 + 1 < b) (slv gi il.length ci) il) ∧ Hid (X.run (query c.E) = Y.run (quT c.E ⟨co, b2, b3, sm, il, [], []⟩)) :=
      ⟨true, false, [], [], none, 0, HQI, Lib.hid (VLA.nil _ _ _ _), Lib.hid (by rw [HR.out]; exact run_bnd2 (Z := Y) (x := ⟨co, true, false, [], [], [], []⟩) (g := quT c.E) rfl)⟩
    clear HR HQI
    have HR := HR2
    have HQI := HQ2
    have E_wc := Lib.hid HQI.out.ext
    have Bs_wc := Lib.hid HQI.out.bs
    have Bx_wc := Lib.hid HQI.out.bx
    have Br_wc := Lib.hid HQI.out.br
    have Bq_wc := Lib.hid HQI.out.bq
    have z_wc : w.heap.size ≤ wc.heap.size := HQI.out.ext.size
    have hler : ac ≤ c.all.length := HQI.out.inn.1
    clear c_s c_x c_r c_q
    have c_s := opn6 Bs_wc;have c_x := opn7 Bx_wc;have c_r := opn6 Br_wc;have c_q := opn7 Bq_wc
    go_wp2_with fail
    refine (rmust_ok c _ ac 0 kc pc [70, 82, 79, 77] _ (H.out.ext (xE E_wc)) HQI.out.inn).mono ?_
    rintro e w6 ⟨a6, k6, p6, rfl, h_I6, hE⟩
    have E_w6 := aE E_wc hE;have Bs_w6 := bk6 Bs_wc hE;have Bx_w6 := bk7 Bx_wc hE;have Br_w6 := bk6 Br_wc hE;have Bq_w6 := bk7 Bq_wc hE;have T_w6 : Hid (Touch (S4 w) wc w6) := aT hE
    clear hE c_s c_x c_r c_q Bs_wc Bx_wc Br_wc Bq_wc
    have z_w6 := E_w6.out.size;have c_s := opn6 Bs_w6;have c_x := opn7 Bx_w6;have c_r := opn6 Br_w6;have c_q := opn7 Bq_w6
    (try unfold sv)
    have I6 := Lib.hid h_I6; clear h_I6
    have hle6 := I6.out.1
    go_wp2_with fail
    refine (rname_ok c _ a6 0 k6 p6 _ (H.out.ext (xE E_w6)) I6.out).mono ?_
    rintro e w7 ⟨tn, a7, k7, p7, rfl, h_I7, h_G7, hE⟩
    have E_w7 := aE E_w6 hE;have Bs_w7 := bk6 Bs_w6 hE;have Bx_w7 := bk7 Bx_w6 hE;have Br_w7 := bk6 Br_w6 hE;have Bq_w7 := bk7 Bq_w6 hE;have T_w7 : Hid (Touch (S4 w) w6 w7) := aT hE
    clear hE c_s c_x c_r c_q Bs_w6 Bx_w6 Br_w6 Bq_w6
    have z_w7 := E_w7.out.size;have c_s := opn6 Bs_w7;have c_x := opn7 Bx_w7;have c_r := opn6 Br_w7;have c_q := opn7 Bq_w7
    (try unfold sv)
    have I7 := Lib.hid h_I7; clear h_I7
    have G7 := Lib.hid h_G7; clear h_G7
    have hle7 := I7.out.1
    have hw7 : w.heap.size + 1 + 1 + 1 < w7.heap.size := by omega
    have HR7 : Hid (X.run (query c.E) = ((mustX c [70, 82, 79, 77] Y).then (name c.E)).run fun r => bnd (if isT [44] r then fin (fun m => [tn, m]) (name c.E r.tail) else .ok ([tn], r)) fun l r => fin (fun c => (⟨co, b2, b3, sm, il, l, c⟩ : Qu)) (whereP c.E r)) := Lib.hid (by rw [HR.out, qu_from G7.out])
    have HVI6 := Lib.hid (VLA.keep _ HVI.out (fun b hb ha => ⟨T_w6.out.block b hb (fun e => by omega), ha⟩))
    have HVI7 : Hid (VLA ExK 45 w7 (fun b => w.heap.size + 1 + 1 + 1 < b ∧ b < w7.heap.size) (slv gi il.length ci) il) := Lib.hid (VLA.keep _ HVI6.out (fun b hb ha => ⟨T_w7.out.block b hb (fun e => by omega), ha, by have := T_w7.out.size; omega⟩))
    go_wp2_with fail
    refine (ris_ok c _ a7 0 k7 p7 [44] _ (H.out.ext (xE E_w7)) I7.out).mono ?_
    rintro e w8 ⟨rfl, hE⟩
    have n_s_l := ne2 (show w.heap.size ≠ w7.heap.size by omega);have n_x_l := ne2 (show w.heap.size + 1 ≠ w7.heap.size by omega);have n_r_l := ne2 (show w.heap.size + 1 + 1 ≠ w7.heap.size by omega);have n_q_l := ne2 (show w.heap.size + 1 + 1 + 1 ≠ w7.heap.size by omega)
    have E_w8 := aE E_w7 hE;have Bs_w8 := bk6 Bs_w7 hE;have Bx_w8 := bk7 Bx_w7 hE;have Br_w8 := bk6 Br_w7 hE;have Bq_w8 := bk7 Bq_w7 hE;have Bl_w8 := nk1 (w7.heap.size) hE;have T_w8 : Hid (Touch (S4 w) w7 w8) := aT hE
    clear hE c_s c_x c_r c_q Bs_w7 Bx_w7 Br_w7 Bq_w7
    have z_w8 := E_w8.out.size;have c_s := opn6 Bs_w8;have c_x := opn7 Bx_w8;have c_r := opn6 Br_w8;have c_q := opn7 Bq_w8;have c_l := opn1 Bl_w8
    have HVI8 := Lib.hid (VLA.keep _ HVI7.out (fun b hb ha => ⟨T_w8.out.block b hb (fun e => by have := ha.1; omega), ha⟩))
    cases h1 : isX [44] ((mustX c [70, 82, 79, 77] Y).then (name c.E)) with
    | false =>
      have H1 := Lib.hid h1
      clear h1
      have HVT8 : Hid (VLA StrK 9 w8 (fun b => w.heap.size + 1 + 1 + 1 < b) (slv (some w7.heap.size) 1 1) [tn]) := Lib.hid (VLA.one _ (cs := [str tn]) Bl_w8.out rfl hw7)
      clear c_l n_s_l n_x_l n_r_l n_q_l
      go_wp2_with fail
      refine (rwhere_ok c _ a7 k7 p7 _ (H.out.ext (xE E_w8)) I7.out).mono ?_
      rintro e w9 ⟨cl, gc, cc, a9, k9, p9, rfl, h_I9, h_G9, h_V9, hE⟩
      have E_w9 := aE E_w8 hE;have Bs_w9 := bk6 Bs_w8 hE;have Bx_w9 := bk7 Bx_w8 hE;have Br_w9 := bk6 Br_w8 hE;have Bq_w9 := bk7 Bq_w8 hE;have T_w9 : Hid (Touch (S4 w) w8 w9) := aT hE
      clear hE c_s c_x c_r c_q Bs_w8 Bx_w8 Br_w8 Bq_w8
      have z_w9 := E_w9.out.size;have c_s := opn6 Bs_w9;have c_x := opn7 Bx_w9;have c_r := opn6 Br_w9;have c_q := opn7 Bq_w9
      (try unfold sv)
      have I9 := Lib.hid h_I9; clear h_I9
      have G9 := Lib.hid h_G9; clear h_G9
      have V9 := Lib.hid h_V9; clear h_V9
      have hle9 := I9.out.1
      have HVI9 := Lib.hid (VLA.keep _ HVI8.out (fun b hb ha => ⟨T_w9.out.block b hb (fun e => by have := ha.1; omega), ha⟩))
      have HVT9 := Lib.hid (VLA.keep _ HVT8.out (fun b hb ha => ⟨T_w9.out.block b hb (fun e => by omega), ha⟩))
      have HVC9 : Hid (VLA ExK 45 w9 (fun b => w.heap.size + 1 + 1 + 1 < b) (slv gc cl.length cc) cl) := Lib.hid (VLA.of _ V9.out (fun b hb ha => by have h8 : w8.heap.size ≤ b := ha; have h9 := T_w8.out.size; omega))
      have HR9 : Hid (X.run (query c.E) = ((mustX c [70, 82, 79, 77] Y).then (name c.E)).run fun r => fin (fun c => (⟨co, b2, b3, sm, il, [tn], c⟩ : Qu)) (whereP c.E r)) := Lib.hid (by rw [HR7.out, qu_one (q := ⟨co, b2, b3, sm, il, [], []⟩) H1.out])
      go_wp2
      refine wp_nm (fun wE hE => ?_)
      have E_wE := aE E_w9 hE;have Bs_wE := bk6 Bs_w9 hE;have Bx_wE := bk7 Bx_w9 hE;have Br_wE := bk6 Br_w9 hE;have Bq_wE := bk7 Bq_w9 hE;have T_wE : Hid (Touch (S4 w) w9 wE) := aT hE
      clear hE c_s c_x c_r c_q Bs_w9 Bx_w9 Br_w9 Bq_w9
      have z_wE := E_wE.out.size;have c_s := opn6 Bs_wE;have c_x := opn7 Bx_wE;have c_r := opn6 Br_wE;have c_q := opn7 Bq_wE
      have HVIe := Lib.hid (VLA.keep _ HVI9.out (fun b hb ha => ⟨T_wE.out.block b hb (fun e => by have := ha.1; omega), ha⟩))
      have HVTe := Lib.hid (VLA.keep _ HVT9.out (fun b hb ha => ⟨T_wE.out.block b hb (fun e => by omega), ha⟩))
      have HVCe := Lib.hid (VLA.keep _ HVC9.out (fun b hb ha => ⟨T_wE.out.block b hb (fun e => by omega), ha⟩))
      letI : Tch.TS := ⟨fun b => b = w.heap.size + 1⟩
      refine Tch.region_calm [.e 0, .e 1, .h 2 true, .h 3 false] f_mixed (by kernel_rfl) (by kernel_rfl) ?_
      refine Tch.plan_e1 rfl rfl (.agg #[.bool co, .bool b2, .bool b3, str sm, slv gi il.length ci, (.slice (some ⟨w7.heap.size, 0, none⟩) 1 1), slv gc cl.length cc]) (fun w' he => ?_) (fun K hK => ?_)
      · have d := tch7 he c_q (fun (e : _ = _) => by omega)
        clear c_q he
        go_simp
      go_simp; refine hK _ ?_; clear hK K
      refine Tch.plan_e1 rfl rfl (.agg #[slv c.g c.all.length c.cap, .int .i64 (a9 : Int), .int .i64 (c.E : Int), .int .i64 ((0 : Nat) : Int), .int .i64 (k9 : Int), .int .i64 (p9 : Int)]) (fun w' he => ?_) (fun K hK => ?_)
      · have d := tch6 he c_s (fun (e : _ = _) => by omega)
        clear c_s he
        go_simp
      go_simp; refine hK _ ?_; clear hK K
      refine Tch.plan_ct rfl rfl (fun K _ hK => ?_)
      go_wp2
      refine hK _ _ (late7d _ _ _ _ _ _ _ _ _) ?_; clear hK K
      refine Tch.plan_c rfl rfl (fun K _ hK => ?_)
      go_wp2
      refine tch_done ?_
      go_wp2
      (try simp only [Exit.inBlock, Exit.then])
      refine bodyPost_ret (v := .tuple #[.agg #[.bool co, .bool b2, .bool b3, str sm, slv gi il.length ci, (.slice (some ⟨w7.heap.size, 0, none⟩) 1 1), slv gc cl.length cc], .agg #[slv c.g c.all.length c.cap, .int .i64 (a9 : Int), .int .i64 (c.E : Int), .int .i64 ((0 : Nat) : Int), .int .i64 (k9 : Int), .int .i64 (p9 : Int)]]) (res_cc rfl rfl (lv_qu (xb7 Bx_wE)) rfl (lv_src (xb6 Br_wE))) rfl ?_
      obtain ⟨h2, h3⟩ := run_end (F := query c.E) (z := ⟨co, b2, b3, sm, il, [tn], cl⟩) (by rw [HR9.out, run_fin G9.out]) I9.out
      refine ⟨⟨co, b2, b3, sm, il, [tn], cl⟩, slv gi il.length ci, (.slice (some ⟨w7.heap.size, 0, none⟩) 1 1), slv gc cl.length cc, _, _, _, rfl, h2, h3, ⟨_, _, _, rfl, ?_, ?_, ?_⟩, ?_⟩
      · exact VLA.keep _ HVIe.out (fun b hb ha => ⟨Touch.block (S := (S4 w)) xT b hb (fun e => by have := ha.1; omega), by have := ha.1; omega⟩)
      · exact VLA.keep _ HVTe.out (fun b hb ha => ⟨Touch.block (S := (S4 w)) xT b hb (fun e => by omega), by omega⟩)
      · exact VLA.keep _ HVCe.out (fun b hb ha => ⟨Touch.block (S := (S4 w)) xT b hb (fun e => by omega), by omega⟩)
      · exact (xE E_wE)
    | true =>
      have H1 := Lib.hid h1
      clear h1
      have hlt : a7 < c.all.length := (I7.out.step H1.out).1
      go_wp2_with fail
      refine (rname_ok c _ (a7 + 1) 0 k7 p7 _ (H.out.ext (xE E_w8)) (I7.out.step H1.out).2.1).mono ?_
      rintro e w9 ⟨m, a8, k8, p8, rfl, h_I8, h_G8, hE⟩
      have E_w9 := aE E_w8 hE;have Bs_w9 := bk6 Bs_w8 hE;have Bx_w9 := bk7 Bx_w8 hE;have Br_w9 := bk6 Br_w8 hE;have Bq_w9 := bk7 Bq_w8 hE;have Bl_w9 := bk1 Bl_w8 hE;have T_w9 : Hid (Touch (fun b => b = w.heap.size ∨ b = w.heap.size + 1 ∨ b = w.heap.size + 1 + 1 ∨ b = w.heap.size + 1 + 1 + 1 ∨ b = w7.heap.size) w8 w9) := aT hE
      clear hE c_s c_x c_r c_q c_l Bs_w8 Bx_w8 Br_w8 Bq_w8 Bl_w8
      have z_w9 := E_w9.out.size;have c_s := opn6 Bs_w9;have c_x := opn7 Bx_w9;have c_r := opn6 Br_w9;have c_q := opn7 Bq_w9;have c_l := opn1 Bl_w9
      (try unfold sv)
      have I8 := Lib.hid h_I8; clear h_I8
      have G8 := Lib.hid h_G8; clear h_G8
      have hle8 := I8.out.1
      have HVIa := Lib.hid (VLA.keep _ HVI8.out (fun b hb ha => ⟨T_w9.out.block b hb (fun e => by have := ha.1; have := ha.2; omega), ha⟩))
      go_wp2_with (at_builtin; refine (fun (h : True → _) => h trivial) ?_)
      intro _
      refine list_nm (fun wa hE => ?_)
      have n_s_o := ne2 (show w.heap.size ≠ w9.heap.size by omega);have n_x_o := ne2 (show w.heap.size + 1 ≠ w9.heap.size by omega);have n_r_o := ne2 (show w.heap.size + 1 + 1 ≠ w9.heap.size by omega);have n_q_o := ne2 (show w.heap.size + 1 + 1 + 1 ≠ w9.heap.size by omega);have n_l_o := ne2 (show w7.heap.size ≠ w9.heap.size by omega)
      have E_wa := aE E_w9 hE;have Bs_wa := bk6 Bs_w9 hE;have Bx_wa := bk7 Bx_w9 hE;have Br_wa := bk6 Br_w9 hE;have Bq_wa := bk7 Bq_w9 hE;have Bl_wa := bk1 Bl_w9 hE;have Bo_wa := nk1 (w9.heap.size) hE;have T_wa : Hid (Touch (fun b => b = w.heap.size ∨ b = w.heap.size + 1 ∨ b = w.heap.size + 1 + 1 ∨ b = w.heap.size + 1 + 1 + 1 ∨ b = w7.heap.size) w9 wa) := aT hE
      clear hE c_s c_x c_r c_q c_l Bs_w9 Bx_w9 Br_w9 Bq_w9 Bl_w9
      have z_wa := E_wa.out.size;have c_s := opn6 Bs_wa;have c_x := opn7 Bx_wa;have c_r := opn6 Br_wa;have c_q := opn7 Bq_wa;have c_l := opn1 Bl_wa;have c_o := opn1 Bo_wa
      have HVIb := Lib.hid (VLA.keep _ HVIa.out (fun b hb ha => ⟨T_wa.out.block b hb (fun e => by have := ha.1; have := ha.2; omega), ha⟩))
      refine app_lit ei_str rfl (.tmp 80) (.tmp 82) rfl (g := some w7.heap.size) (n := 1) (cap := 1) (b := w9.heap.size) (by rfl) (sl_one (K := StrK) (A := fun _ => True) (cs := [str tn]) (x := tn) Bl_wa.out rfl) (by rfl) rfl (news := [str m]) Bo_wa.out (StrK.one (w := w) (A := fun _ => True) (x := m) rfl) (by omega) (by omega) ?_
      intro g6 cap6 wb hS6 hT6 hat6
      have hA6 : w.heap.size + 1 + 1 + 1 < g6 := by
        rcases hat6 with h | h
        · cases h; omega
        · omega
      have hSS : Sl wb 9 StrK.size (some g6) [tn, m].length cap6 [str tn, str m] := hS6
      have hLS : LsC StrK wb (fun b => w.heap.size + 1 + 1 + 1 < b ∧ some g6 ≠ some b) [str tn, str m] [tn, m] := ⟨[str tn], [str m], rfl, rfl, [str m], [], rfl, rfl, rfl⟩
      have HVTb : Hid (VLA StrK 9 wb (fun b => w.heap.size + 1 + 1 + 1 < b) (slv (some g6) 2 cap6) [tn, m]) := Lib.hid ⟨some g6, cap6, [str tn, str m], rfl, hSS, fun b hb => by cases hb; exact hA6, hLS⟩
      have HVIc := Lib.hid (VLA.keep _ HVIb.out (fun b hb ha => ⟨hT6.block b hb (fun e => by have := Option.some.inj e; have := ha.2; omega), ha⟩))
      have E_wb := Lib.hid (Touch.fresh' (a := w) E_wa.out hT6 (fun i e => by have := Option.some.inj e; omega))
      have Bs_wb := Lib.hid (hT6.old Bs_wa.out (fun e => by have := Option.some.inj e; omega))
      have Bx_wb := Lib.hid (hT6.old Bx_wa.out (fun e => by have := Option.some.inj e; omega))
      have Br_wb := Lib.hid (hT6.old Br_wa.out (fun e => by have := Option.some.inj e; omega))
      have Bq_wb := Lib.hid (hT6.old Bq_wa.out (fun e => by have := Option.some.inj e; omega))
      have hzb : wa.heap.size ≤ wb.heap.size := hT6.size
      have hqb : w.heap.size + 1 + 1 + 1 < wb.heap.size := by omega
      have z_wb : w.heap.size ≤ wb.heap.size := E_wb.out.size
      clear hS6 hT6 hat6 hSS hLS
      clear c_s c_x c_r c_q c_l c_o
      clear n_s_o n_x_o n_r_o n_q_o n_l_o
      clear n_s_l n_x_l n_r_l n_q_l
      have c_s := opn6 Bs_wb;have c_x := opn7 Bx_wb;have c_r := opn6 Br_wb;have c_q := opn7 Bq_wb
      go_wp2_with fail
      refine (rwhere_ok c _ a8 k8 p8 _ (H.out.ext (xE E_wb)) I8.out).mono ?_
      rintro e wc2 ⟨cl, gc, cc, a9, k9, p9, rfl, h_I9, h_G9, h_V9, hE⟩
      have E_wc2 := aE E_wb hE;have Bs_wc2 := bk6 Bs_wb hE;have Bx_wc2 := bk7 Bx_wb hE;have Br_wc2 := bk6 Br_wb hE;have Bq_wc2 := bk7 Bq_wb hE;have T_wc2 : Hid (Touch (S4 w) wb wc2) := aT hE
      clear hE c_s c_x c_r c_q Bs_wb Bx_wb Br_wb Bq_wb
      have z_wc2 := E_wc2.out.size;have c_s := opn6 Bs_wc2;have c_x := opn7 Bx_wc2;have c_r := opn6 Br_wc2;have c_q := opn7 Bq_wc2
      (try unfold sv)
      have I9 := Lib.hid h_I9; clear h_I9
      have G9 := Lib.hid h_G9; clear h_G9
      have V9 := Lib.hid h_V9; clear h_V9
      have hle9 := I9.out.1
      have HVI9 := Lib.hid (VLA.keep _ HVIc.out (fun b hb ha => ⟨T_wc2.out.block b hb (fun e => by have := ha.1; omega), ha⟩))
      have HVT9 := Lib.hid (VLA.keep _ HVTb.out (fun b hb ha => ⟨T_wc2.out.block b hb (fun e => by omega), ha⟩))
      have HVC9 : Hid (VLA ExK 45 wc2 (fun b => w.heap.size + 1 + 1 + 1 < b) (slv gc cl.length cc) cl) := Lib.hid (VLA.of _ V9.out (fun b hb ha => by have h8 : wb.heap.size ≤ b := (by simpa [size_set] using ha); omega))
      have HR9 : Hid (X.run (query c.E) = ((behind ((mustX c [70, 82, 79, 77] Y).then (name c.E))).then (name c.E)).run fun r => fin (fun c => (⟨co, b2, b3, sm, il, [tn, m], c⟩ : Qu)) (whereP c.E r)) := Lib.hid (by rw [HR7.out, qu_two (q := ⟨co, b2, b3, sm, il, [], []⟩) H1.out G8.out])
      go_wp2
      refine wp_nm (fun wE hE => ?_)
      have E_wE := aE E_wc2 hE;have Bs_wE := bk6 Bs_wc2 hE;have Bx_wE := bk7 Bx_wc2 hE;have Br_wE := bk6 Br_wc2 hE;have Bq_wE := bk7 Bq_wc2 hE;have T_wE : Hid (Touch (S4 w) wc2 wE) := aT hE
      clear hE c_s c_x c_r c_q Bs_wc2 Bx_wc2 Br_wc2 Bq_wc2
      have z_wE := E_wE.out.size;have c_s := opn6 Bs_wE;have c_x := opn7 Bx_wE;have c_r := opn6 Br_wE;have c_q := opn7 Bq_wE
      have HVIe := Lib.hid (VLA.keep _ HVI9.out (fun b hb ha => ⟨T_wE.out.block b hb (fun e => by have := ha.1; omega), ha⟩))
      have HVTe := Lib.hid (VLA.keep _ HVT9.out (fun b hb ha => ⟨T_wE.out.block b hb (fun e => by omega), ha⟩))
      have HVCe := Lib.hid (VLA.keep _ HVC9.out (fun b hb ha => ⟨T_wE.out.block b hb (fun e => by omega), ha⟩))
      letI : Tch.TS := ⟨fun b => b = w.heap.size + 1⟩
      refine Tch.region_calm [.e 0, .e 1, .h 2 true, .h 3 false] f_mixed (by kernel_rfl) (by kernel_rfl) ?_
      refine Tch.plan_e1 rfl rfl (.agg #[.bool co, .bool b2, .bool b3, str sm, slv gi il.length ci, (.slice (some ⟨g6, 0, none⟩) 2 cap6), slv gc cl.length cc]) (fun w' he => ?_) (fun K hK => ?_)
      · have d := tch7 he c_q (fun (e : _ = _) => by omega)
        clear c_q he
        go_simp
      go_simp; refine hK _ ?_; clear hK K
      refine Tch.plan_e1 rfl rfl (.agg #[slv c.g c.all.length c.cap, .int .i64 (a9 : Int), .int .i64 (c.E : Int), .int .i64 ((0 : Nat) : Int), .int .i64 (k9 : Int), .int .i64 (p9 : Int)]) (fun w' he => ?_) (fun K hK => ?_)
      · have d := tch6 he c_s (fun (e : _ = _) => by omega)
        clear c_s he
        go_simp
      go_simp; refine hK _ ?_; clear hK K
      refine Tch.plan_ct rfl rfl (fun K _ hK => ?_)
      go_wp2
      refine hK _ _ (late7d _ _ _ _ _ _ _ _ _) ?_; clear hK K
      refine Tch.plan_c rfl rfl (fun K _ hK => ?_)
      go_wp2
      refine tch_done ?_
      go_wp2
      (try simp only [Exit.inBlock, Exit.then])
      refine bodyPost_ret (v := .tuple #[.agg #[.bool co, .bool b2, .bool b3, str sm, slv gi il.length ci, (.slice (some ⟨g6, 0, none⟩) 2 cap6), slv gc cl.length cc], .agg #[slv c.g c.all.length c.cap, .int .i64 (a9 : Int), .int .i64 (c.E : Int), .int .i64 ((0 : Nat) : Int), .int .i64 (k9 : Int), .int .i64 (p9 : Int)]]) (res_cc rfl rfl (lv_qu (xb7 Bx_wE)) rfl (lv_src (xb6 Br_wE))) rfl ?_
      obtain ⟨h2, h3⟩ := run_end (F := query c.E) (z := ⟨co, b2, b3, sm, il, [tn, m], cl⟩) (by rw [HR9.out, run_fin G9.out]) I9.out
      refine ⟨⟨co, b2, b3, sm, il, [tn, m], cl⟩, slv gi il.length ci, (.slice (some ⟨g6, 0, none⟩) 2 cap6), slv gc cl.length cc, _, _, _, rfl, h2, h3, ⟨_, _, _, rfl, ?_, ?_, ?_⟩, ?_⟩
      · exact VLA.keep _ HVIe.out (fun b hb ha => ⟨Touch.block (S := (S4 w)) xT b hb (fun e => by have := ha.1; omega), by have := ha.1; omega⟩)
      · exact VLA.keep _ HVTe.out (fun b hb ha => ⟨Touch.block (S := (S4 w)) xT b hb (fun e => by omega), by omega⟩)
      · exact VLA.keep _ HVCe.out (fun b hb ha => ⟨Touch.block (S := (S4 w)) xT b hb (fun e => by omega), by omega⟩)
      · exact (xE E_wE)
  | false =>
    have E_wc := Lib.hid HQI.out.ext
    have Bs_wc := Lib.hid HQI.out.bs
    have Bx_wc := Lib.hid HQI.out.bx
    have Br_wc := Lib.hid HQI.out.br
    have Bq_wc := Lib.hid HQI.out.bq
    have z_wc : w.heap.size ≤ wc.heap.size := HQI.out.ext.size
    have hler : ac ≤ c.all.length := HQI.out.inn.1
    have c_s := opn6 Bs_wc;have c_x := opn7 Bx_wc;have c_r := opn6 Br_wc;have c_q := opn7 Bq_wc
    go_upto_if 39 with fail
    go_cut [] from 8 to 93 (fun wc => ∃ (Y : Xs) (ac kc pc : Nat) (b2 b3 : Bool) (sm : Str) (il : List Ex) (gi : Option Nat) (ci : Nat), QI w c wc Y ac kc pc #[.bool co, .bool b2, .bool b3, str sm, slv gi il.length ci, .slice none 0 0, .slice none 0 0] ∧ VLA ExK 45 wc (fun b => w.heap.size + 1 + 1 + 1 < b) (slv gi il.length ci) il ∧ X.run (query c.E) = Y.run (quT c.E ⟨co, b2, b3, sm, il, [], []⟩))
    case first =>
      cases cn with
      | true =>
        go_wp2
        go_meet
        case rel => exact ⟨Y, ac, kc, pc, false, true, [], [], none, 0, HQI.out, VLA.nil _ _ _ _, by rw [HR.out]; exact run_bnd2 (Z := Y) (x := ⟨co, false, true, [], [], [], []⟩) (g := quT c.E) rfl⟩
      | false =>
        go_wp2_with fail
        refine (rmay_ok c Y ac 0 kc pc [83, 85, 77] _ (H.out.ext (xE E_wc)) HQI.out.inn).mono ?_
        rintro e w6 ⟨a6, rfl, h_I6, hE⟩
        have E_w6 := aE E_wc hE;have Bs_w6 := bk6 Bs_wc hE;have Bx_w6 := bk7 Bx_wc hE;have Br_w6 := bk6 Br_wc hE;have Bq_w6 := bk7 Bq_wc hE;have T_w6 : Hid (Touch (S4 w) wc w6) := aT hE
        clear hE c_s c_x c_r c_q Bs_wc Bx_wc Br_wc Bq_wc
        have z_w6 := E_w6.out.size;have c_s := opn6 Bs_w6;have c_x := opn7 Bx_w6;have c_r := opn6 Br_w6;have c_q := opn7 Bq_w6
        (try unfold sv)
        have I6 := Lib.hid h_I6; clear h_I6
        have hle6 := I6.out.1
        have hw6 : w.heap.size + 1 + 1 + 1 < w6.heap.size := by omega
        cases hs : isX [83, 85, 77] Y with
        | true =>
          have HS := Lib.hid hs
          clear hs
          have I6' : Hid (In c (behind Y) a6 kc pc) := Lib.hid (by have := I6.out; rwa [mayX_yes HS.out] at this)
          go_wp2_with fail
          refine (rname_ok c _ a6 0 kc pc _ (H.out.ext (xE E_w6)) I6'.out).mono ?_
          rintro e w7 ⟨sm, a7, k7, p7, rfl, h_I7, h_G7, hE⟩
          have n_s_t := ne2 (show w.heap.size ≠ w6.heap.size by omega);have n_x_t := ne2 (show w.heap.size + 1 ≠ w6.heap.size by omega);have n_r_t := ne2 (show w.heap.size + 1 + 1 ≠ w6.heap.size by omega);have n_q_t := ne2 (show w.heap.size + 1 + 1 + 1 ≠ w6.heap.size by omega)
          have E_w7 := aE E_w6 hE;have Bs_w7 := bk6 Bs_w6 hE;have Bx_w7 := bk7 Bx_w6 hE;have Br_w7 := bk6 Br_w6 hE;have Bq_w7 := bk7 Bq_w6 hE;have Bt_w7 := nk6 (w6.heap.size) hE;have T_w7 : Hid (Touch (S4 w) w6 w7) := aT hE
          clear hE c_s c_x c_r c_q Bs_w6 Bx_w6 Br_w6 Bq_w6
          have z_w7 := E_w7.out.size;have c_s := opn6 Bs_w7;have c_x := opn7 Bx_w7;have c_r := opn6 Br_w7;have c_q := opn7 Bq_w7;have c_t := opn6 Bt_w7
          (try unfold sv)
          have I7 := Lib.hid h_I7; clear h_I7
          have G7 := Lib.hid h_G7; clear h_G7
          go_wp2
          go_meet
          case rel => exact ⟨_, a7, k7, p7, false, false, sm, [], none, 0, ⟨(xE E_w7), (xb6 Bs_w7), (xb7 Bx_w7), (xb6 Br_w7), (by show _ = some (Obj.cells #[.bool co, .bool false, .bool false, str sm, .slice none 0 0, .slice none 0 0, .slice none 0 0] 49 (0, 0)); exact (xb7 Bq_w7)), I7.out⟩, VLA.nil _ _ _ _, by rw [HR.out, qu_sum HS.out G7.out]; rfl⟩
        | false =>
          have HS := Lib.hid hs
          clear hs
          go_wp2_with fail
          refine (ritems_ok c Y ac 0 kc pc _ (H.out.ext (xE E_w6)) HQI.out.inn).mono ?_
          rintro e w7 ⟨il, gi, ci, a7, k7, p7, rfl, h_I7, h_G7, h_V7, hE⟩
          have n_s_t := ne2 (show w.heap.size ≠ w6.heap.size by omega);have n_x_t := ne2 (show w.heap.size + 1 ≠ w6.heap.size by omega);have n_r_t := ne2 (show w.heap.size + 1 + 1 ≠ w6.heap.size by omega);have n_q_t := ne2 (show w.heap.size + 1 + 1 + 1 ≠ w6.heap.size by omega)
          have E_w7 := aE E_w6 hE;have Bs_w7 := bk6 Bs_w6 hE;have Bx_w7 := bk7 Bx_w6 hE;have Br_w7 := bk6 Br_w6 hE;have Bq_w7 := bk7 Bq_w6 hE;have Bt_w7 := nk6 (w6.heap.size) hE;have T_w7 : Hid (Touch (S4 w) w6 w7) := aT hE
          clear hE c_s c_x c_r c_q Bs_w6 Bx_w6 Br_w6 Bq_w6
          have z_w7 := E_w7.out.size;have c_s := opn6 Bs_w7;have c_x := opn7 Bx_w7;have c_r := opn6 Br_w7;have c_q := opn7 Bq_w7;have c_t := opn6 Bt_w7
          (try unfold sv)
          have I7 := Lib.hid h_I7; clear h_I7
          have G7 := Lib.hid h_G7; clear h_G7
          have V7 := Lib.hid h_V7; clear h_V7
          clear c_t n_s_t n_x_t n_r_t n_q_t
          have HVI7 := Lib.hid (VLA.of (A := fun b => w.heap.size + 1 + 1 + 1 < b) _ V7.out (fun b hb ha => by have h8 : w6.heap.size ≤ b := (by have h9 := ha; simp [size_set] at h9; omega); omega))
          go_wp2
          go_meet
          case rel => exact ⟨_, a7, k7, p7, false, false, [], il, gi, ci, ⟨(xE E_w7), (xb6 Bs_w7), (xb7 Bx_w7), (xb6 Br_w7), (xb7 Bq_w7), I7.out⟩, VLA.keep _ HVI7.out (fun b hb ha => ⟨Touch.block (S := (S4 w)) xT b hb (fun e => by omega), ha⟩), by rw [HR.out, qu_items HS.out G7.out]; rfl⟩
    case rest =>
      clear HR HQI
      obtain ⟨Y, ac, kc, pc, b2, b3, sm, il, gi, ci, hq, hv, hr⟩ := hcut
      have HQI := Lib.hid hq
      have HVI := Lib.hid hv
      have HR := Lib.hid hr
      clear hq hv hr
      have E_wc := Lib.hid HQI.out.ext
      have Bs_wc := Lib.hid HQI.out.bs
      have Bx_wc := Lib.hid HQI.out.bx
      have Br_wc := Lib.hid HQI.out.br
      have Bq_wc := Lib.hid HQI.out.bq
      have z_wc : w.heap.size ≤ wc.heap.size := HQI.out.ext.size
      have hler : ac ≤ c.all.length := HQI.out.inn.1
      clear c_s c_x c_r c_q
      have c_s := opn6 Bs_wc;have c_x := opn7 Bx_wc;have c_r := opn6 Br_wc;have c_q := opn7 Bq_wc
      go_wp2_with fail
      refine (rmust_ok c _ ac 0 kc pc [70, 82, 79, 77] _ (H.out.ext (xE E_wc)) HQI.out.inn).mono ?_
      rintro e w6 ⟨a6, k6, p6, rfl, h_I6, hE⟩
      have E_w6 := aE E_wc hE;have Bs_w6 := bk6 Bs_wc hE;have Bx_w6 := bk7 Bx_wc hE;have Br_w6 := bk6 Br_wc hE;have Bq_w6 := bk7 Bq_wc hE;have T_w6 : Hid (Touch (S4 w) wc w6) := aT hE
      clear hE c_s c_x c_r c_q Bs_wc Bx_wc Br_wc Bq_wc
      have z_w6 := E_w6.out.size;have c_s := opn6 Bs_w6;have c_x := opn7 Bx_w6;have c_r := opn6 Br_w6;have c_q := opn7 Bq_w6
      (try unfold sv)
      have I6 := Lib.hid h_I6; clear h_I6
      have hle6 := I6.out.1
      go_wp2_with fail
      refine (rname_ok c _ a6 0 k6 p6 _ (H.out.ext (xE E_w6)) I6.out).mono ?_
      rintro e w7 ⟨tn, a7, k7, p7, rfl, h_I7, h_G7, hE⟩
      have E_w7 := aE E_w6 hE;have Bs_w7 := bk6 Bs_w6 hE;have Bx_w7 := bk7 Bx_w6 hE;have Br_w7 := bk6 Br_w6 hE;have Bq_w7 := bk7 Bq_w6 hE;have T_w7 : Hid (Touch (S4 w) w6 w7) := aT hE
      clear hE c_s c_x c_r c_q Bs_w6 Bx_w6 Br_w6 Bq_w6
      have z_w7 := E_w7.out.size;have c_s := opn6 Bs_w7;have c_x := opn7 Bx_w7;have c_r := opn6 Br_w7;have c_q := opn7 Bq_w7
      (try unfold sv)
      have I7 := Lib.hid h_I7; clear h_I7
      have G7 := Lib.hid h_G7; clear h_G7
      have hle7 := I7.out.1
      have hw7 : w.heap.size + 1 + 1 + 1 < w7.heap.size := by omega
      have HR7 : Hid (X.run (query c.E) = ((mustX c [70, 82, 79, 77] Y).then (name c.E)).run fun r => bnd (if isT [44] r then fin (fun m => [tn, m]) (name c.E r.tail) else .ok ([tn], r)) fun l r => fin (fun c => (⟨co, b2, b3, sm, il, l, c⟩ : Qu)) (whereP c.E r)) := Lib.hid (by rw [HR.out, qu_from G7.out])
      have HVI6 := Lib.hid (VLA.keep _ HVI.out (fun b hb ha => ⟨T_w6.out.block b hb (fun e => by omega), ha⟩))
      have HVI7 : Hid (VLA ExK 45 w7 (fun b => w.heap.size + 1 + 1 + 1 < b ∧ b < w7.heap.size) (slv gi il.length ci) il) := Lib.hid (VLA.keep _ HVI6.out (fun b hb ha => ⟨T_w7.out.block b hb (fun e => by omega), ha, by have := T_w7.out.size; omega⟩))
      go_wp2_with fail
      refine (ris_ok c _ a7 0 k7 p7 [44] _ (H.out.ext (xE E_w7)) I7.out).mono ?_
      rintro e w8 ⟨rfl, hE⟩
      have n_s_l := ne2 (show w.heap.size ≠ w7.heap.size by omega);have n_x_l := ne2 (show w.heap.size + 1 ≠ w7.heap.size by omega);have n_r_l := ne2 (show w.heap.size + 1 + 1 ≠ w7.heap.size by omega);have n_q_l := ne2 (show w.heap.size + 1 + 1 + 1 ≠ w7.heap.size by omega)
      have E_w8 := aE E_w7 hE;have Bs_w8 := bk6 Bs_w7 hE;have Bx_w8 := bk7 Bx_w7 hE;have Br_w8 := bk6 Br_w7 hE;have Bq_w8 := bk7 Bq_w7 hE;have Bl_w8 := nk1 (w7.heap.size) hE;have T_w8 : Hid (Touch (S4 w) w7 w8) := aT hE
      clear hE c_s c_x c_r c_q Bs_w7 Bx_w7 Br_w7 Bq_w7
      have z_w8 := E_w8.out.size;have c_s := opn6 Bs_w8;have c_x := opn7 Bx_w8;have c_r := opn6 Br_w8;have c_q := opn7 Bq_w8;have c_l := opn1 Bl_w8
      have HVI8 := Lib.hid (VLA.keep _ HVI7.out (fun b hb ha => ⟨T_w8.out.block b hb (fun e => by have := ha.1; omega), ha⟩))
      cases h1 : isX [44] ((mustX c [70, 82, 79, 77] Y).then (name c.E)) with
      | false =>
        have H1 := Lib.hid h1
        clear h1
        have HVT8 : Hid (VLA StrK 9 w8 (fun b => w.heap.size + 1 + 1 + 1 < b) (slv (some w7.heap.size) 1 1) [tn]) := Lib.hid (VLA.one _ (cs := [str tn]) Bl_w8.out rfl hw7)
        clear c_l n_s_l n_x_l n_r_l n_q_l
        go_wp2_with fail
        refine (rwhere_ok c _ a7 k7 p7 _ (H.out.ext (xE E_w8)) I7.out).mono ?_
        rintro e w9 ⟨cl, gc, cc, a9, k9, p9, rfl, h_I9, h_G9, h_V9, hE⟩
        have E_w9 := aE E_w8 hE;have Bs_w9 := bk6 Bs_w8 hE;have Bx_w9 := bk7 Bx_w8 hE;have Br_w9 := bk6 Br_w8 hE;have Bq_w9 := bk7 Bq_w8 hE;have T_w9 : Hid (Touch (S4 w) w8 w9) := aT hE
        clear hE c_s c_x c_r c_q Bs_w8 Bx_w8 Br_w8 Bq_w8
        have z_w9 := E_w9.out.size;have c_s := opn6 Bs_w9;have c_x := opn7 Bx_w9;have c_r := opn6 Br_w9;have c_q := opn7 Bq_w9
        (try unfold sv)
        have I9 := Lib.hid h_I9; clear h_I9
        have G9 := Lib.hid h_G9; clear h_G9
        have V9 := Lib.hid h_V9; clear h_V9
        have hle9 := I9.out.1
        have HVI9 := Lib.hid (VLA.keep _ HVI8.out (fun b hb ha => ⟨T_w9.out.block b hb (fun e => by have := ha.1; omega), ha⟩))
        have HVT9 := Lib.hid (VLA.keep _ HVT8.out (fun b hb ha => ⟨T_w9.out.block b hb (fun e => by omega), ha⟩))
        have HVC9 : Hid (VLA ExK 45 w9 (fun b => w.heap.size + 1 + 1 + 1 < b) (slv gc cl.length cc) cl) := Lib.hid (VLA.of _ V9.out (fun b hb ha => by have h8 : w8.heap.size ≤ b := ha; have h9 := T_w8.out.size; omega))
        have HR9 : Hid (X.run (query c.E) = ((mustX c [70, 82, 79, 77] Y).then (name c.E)).run fun r => fin (fun c => (⟨co, b2, b3, sm, il, [tn], c⟩ : Qu)) (whereP c.E r)) := Lib.hid (by rw [HR7.out, qu_one (q := ⟨co, b2, b3, sm, il, [], []⟩) H1.out])
        go_wp2
        refine wp_nm (fun wE hE => ?_)
        have E_wE := aE E_w9 hE;have Bs_wE := bk6 Bs_w9 hE;have Bx_wE := bk7 Bx_w9 hE;have Br_wE := bk6 Br_w9 hE;have Bq_wE := bk7 Bq_w9 hE;have T_wE : Hid (Touch (S4 w) w9 wE) := aT hE
        clear hE c_s c_x c_r c_q Bs_w9 Bx_w9 Br_w9 Bq_w9
        have z_wE := E_wE.out.size;have c_s := opn6 Bs_wE;have c_x := opn7 Bx_wE;have c_r := opn6 Br_wE;have c_q := opn7 Bq_wE
        have HVIe := Lib.hid (VLA.keep _ HVI9.out (fun b hb ha => ⟨T_wE.out.block b hb (fun e => by have := ha.1; omega), ha⟩))
        have HVTe := Lib.hid (VLA.keep _ HVT9.out (fun b hb ha => ⟨T_wE.out.block b hb (fun e => by omega), ha⟩))
        have HVCe := Lib.hid (VLA.keep _ HVC9.out (fun b hb ha => ⟨T_wE.out.block b hb (fun e => by omega), ha⟩))
        letI : Tch.TS := ⟨fun b => b = w.heap.size + 1⟩
        refine Tch.region_calm [.e 0, .e 1, .h 2 true, .h 3 false] f_mixed (by kernel_rfl) (by kernel_rfl) ?_
        refine Tch.plan_e1 rfl rfl (.agg #[.bool co, .bool b2, .bool b3, str sm, slv gi il.length ci, (.slice (some ⟨w7.heap.size, 0, none⟩) 1 1), slv gc cl.length cc]) (fun w' he => ?_) (fun K hK => ?_)
        · have d := tch7 he c_q (fun (e : _ = _) => by omega)
          clear c_q he
          go_simp
        go_simp; refine hK _ ?_; clear hK K
        refine Tch.plan_e1 rfl rfl (.agg #[slv c.g c.all.length c.cap, .int .i64 (a9 : Int), .int .i64 (c.E : Int), .int .i64 ((0 : Nat) : Int), .int .i64 (k9 : Int), .int .i64 (p9 : Int)]) (fun w' he => ?_) (fun K hK => ?_)
        · have d := tch6 he c_s (fun (e : _ = _) => by omega)
          clear c_s he
          go_simp
        go_simp; refine hK _ ?_; clear hK K
        refine Tch.plan_ct rfl rfl (fun K _ hK => ?_)
        go_wp2
        refine hK _ _ (late7d _ _ _ _ _ _ _ _ _) ?_; clear hK K
        refine Tch.plan_c rfl rfl (fun K _ hK => ?_)
        go_wp2
        refine tch_done ?_
        go_wp2
        (try simp only [Exit.inBlock, Exit.then])
        refine bodyPost_ret (v := .tuple #[.agg #[.bool co, .bool b2, .bool b3, str sm, slv gi il.length ci, (.slice (some ⟨w7.heap.size, 0, none⟩) 1 1), slv gc cl.length cc], .agg #[slv c.g c.all.length c.cap, .int .i64 (a9 : Int), .int .i64 (c.E : Int), .int .i64 ((0 : Nat) : Int), .int .i64 (k9 : Int), .int .i64 (p9 : Int)]]) (res_cc rfl rfl (lv_qu (xb7 Bx_wE)) rfl (lv_src (xb6 Br_wE))) rfl ?_
        obtain ⟨h2, h3⟩ := run_end (F := query c.E) (z := ⟨co, b2, b3, sm, il, [tn], cl⟩) (by rw [HR9.out, run_fin G9.out]) I9.out
        refine ⟨⟨co, b2, b3, sm, il, [tn], cl⟩, slv gi il.length ci, (.slice (some ⟨w7.heap.size, 0, none⟩) 1 1), slv gc cl.length cc, _, _, _, rfl, h2, h3, ⟨_, _, _, rfl, ?_, ?_, ?_⟩, ?_⟩
        · exact VLA.keep _ HVIe.out (fun b hb ha => ⟨Touch.block (S := (S4 w)) xT b hb (fun e => by have := ha.1; omega), by have := ha.1; omega⟩)
        · exact VLA.keep _ HVTe.out (fun b hb ha => ⟨Touch.block (S := (S4 w)) xT b hb (fun e => by omega), by omega⟩)
        · exact VLA.keep _ HVCe.out (fun b hb ha => ⟨Touch.block (S := (S4 w)) xT b hb (fun e => by omega), by omega⟩)
        · exact (xE E_wE)
      | true =>
        have H1 := Lib.hid h1
        clear h1
        have hlt : a7 < c.all.length := (I7.out.step H1.out).1
        go_wp2_with fail
        refine (rname_ok c _ (a7 + 1) 0 k7 p7 _ (H.out.ext (xE E_w8)) (I7.out.step H1.out).2.1).mono ?_
        rintro e w9 ⟨m, a8, k8, p8, rfl, h_I8, h_G8, hE⟩
        have E_w9 := aE E_w8 hE;have Bs_w9 := bk6 Bs_w8 hE;have Bx_w9 := bk7 Bx_w8 hE;have Br_w9 := bk6 Br_w8 hE;have Bq_w9 := bk7 Bq_w8 hE;have Bl_w9 := bk1 Bl_w8 hE;have T_w9 : Hid (Touch (fun b => b = w.heap.size ∨ b = w.heap.size + 1 ∨ b = w.heap.size + 1 + 1 ∨ b = w.heap.size + 1 + 1 + 1 ∨ b = w7.heap.size) w8 w9) := aT hE
        clear hE c_s c_x c_r c_q c_l Bs_w8 Bx_w8 Br_w8 Bq_w8 Bl_w8
        have z_w9 := E_w9.out.size;have c_s := opn6 Bs_w9;have c_x := opn7 Bx_w9;have c_r := opn6 Br_w9;have c_q := opn7 Bq_w9;have c_l := opn1 Bl_w9
        (try unfold sv)
        have I8 := Lib.hid h_I8; clear h_I8
        have G8 := Lib.hid h_G8; clear h_G8
        have hle8 := I8.out.1
        have HVIa := Lib.hid (VLA.keep _ HVI8.out (fun b hb ha => ⟨T_w9.out.block b hb (fun e => by have := ha.1; have := ha.2; omega), ha⟩))
        go_wp2_with (at_builtin; refine (fun (h : True → _) => h trivial) ?_)
        intro _
        refine list_nm (fun wa hE => ?_)
        have n_s_o := ne2 (show w.heap.size ≠ w9.heap.size by omega);have n_x_o := ne2 (show w.heap.size + 1 ≠ w9.heap.size by omega);have n_r_o := ne2 (show w.heap.size + 1 + 1 ≠ w9.heap.size by omega);have n_q_o := ne2 (show w.heap.size + 1 + 1 + 1 ≠ w9.heap.size by omega);have n_l_o := ne2 (show w7.heap.size ≠ w9.heap.size by omega)
        have E_wa := aE E_w9 hE;have Bs_wa := bk6 Bs_w9 hE;have Bx_wa := bk7 Bx_w9 hE;have Br_wa := bk6 Br_w9 hE;have Bq_wa := bk7 Bq_w9 hE;have Bl_wa := bk1 Bl_w9 hE;have Bo_wa := nk1 (w9.heap.size) hE;have T_wa : Hid (Touch (fun b => b = w.heap.size ∨ b = w.heap.size + 1 ∨ b = w.heap.size + 1 + 1 ∨ b = w.heap.size + 1 + 1 + 1 ∨ b = w7.heap.size) w9 wa) := aT hE
        clear hE c_s c_x c_r c_q c_l Bs_w9 Bx_w9 Br_w9 Bq_w9 Bl_w9
        have z_wa := E_wa.out.size;have c_s := opn6 Bs_wa;have c_x := opn7 Bx_wa;have c_r := opn6 Br_wa;have c_q := opn7 Bq_wa;have c_l := opn1 Bl_wa;have c_o := opn1 Bo_wa
        have HVIb := Lib.hid (VLA.keep _ HVIa.out (fun b hb ha => ⟨T_wa.out.block b hb (fun e => by have := ha.1; have := ha.2; omega), ha⟩))
        refine app_lit ei_str rfl (.tmp 80) (.tmp 82) rfl (g := some w7.heap.size) (n := 1) (cap := 1) (b := w9.heap.size) (by rfl) (sl_one (K := StrK) (A := fun _ => True) (cs := [str tn]) (x := tn) Bl_wa.out rfl) (by rfl) rfl (news := [str m]) Bo_wa.out (StrK.one (w := w) (A := fun _ => True) (x := m) rfl) (by omega) (by omega) ?_
        intro g6 cap6 wb hS6 hT6 hat6
        have hA6 : w.heap.size + 1 + 1 + 1 < g6 := by
          rcases hat6 with h | h
          · cases h; omega
          · omega
        have hSS : Sl wb 9 StrK.size (some g6) [tn, m].length cap6 [str tn, str m] := hS6
        have hLS : LsC StrK wb (fun b => w.heap.size + 1 + 1 + 1 < b ∧ some g6 ≠ some b) [str tn, str m] [tn, m] := ⟨[str tn], [str m], rfl, rfl, [str m], [], rfl, rfl, rfl⟩
        have HVTb : Hid (VLA StrK 9 wb (fun b => w.heap.size + 1 + 1 + 1 < b) (slv (some g6) 2 cap6) [tn, m]) := Lib.hid ⟨some g6, cap6, [str tn, str m], rfl, hSS, fun b hb => by cases hb; exact hA6, hLS⟩
        have HVIc := Lib.hid (VLA.keep _ HVIb.out (fun b hb ha => ⟨hT6.block b hb (fun e => by have := Option.some.inj e; have := ha.2; omega), ha⟩))
        have E_wb := Lib.hid (Touch.fresh' (a := w) E_wa.out hT6 (fun i e => by have := Option.some.inj e; omega))
        have Bs_wb := Lib.hid (hT6.old Bs_wa.out (fun e => by have := Option.some.inj e; omega))
        have Bx_wb := Lib.hid (hT6.old Bx_wa.out (fun e => by have := Option.some.inj e; omega))
        have Br_wb := Lib.hid (hT6.old Br_wa.out (fun e => by have := Option.some.inj e; omega))
        have Bq_wb := Lib.hid (hT6.old Bq_wa.out (fun e => by have := Option.some.inj e; omega))
        have hzb : wa.heap.size ≤ wb.heap.size := hT6.size
        have hqb : w.heap.size + 1 + 1 + 1 < wb.heap.size := by omega
        have z_wb : w.heap.size ≤ wb.heap.size := E_wb.out.size
        clear hS6 hT6 hat6 hSS hLS
        clear c_s c_x c_r c_q c_l c_o
        clear n_s_o n_x_o n_r_o n_q_o n_l_o
        clear n_s_l n_x_l n_r_l n_q_l
        have c_s := opn6 Bs_wb;have c_x := opn7 Bx_wb;have c_r := opn6 Br_wb;have c_q := opn7 Bq_wb
        go_wp2_with fail
        refine (rwhere_ok c _ a8 k8 p8 _ (H.out.ext (xE E_wb)) I8.out).mono ?_
        rintro e wc2 ⟨cl, gc, cc, a9, k9, p9, rfl, h_I9, h_G9, h_V9, hE⟩
        have E_wc2 := aE E_wb hE;have Bs_wc2 := bk6 Bs_wb hE;have Bx_wc2 := bk7 Bx_wb hE;have Br_wc2 := bk6 Br_wb hE;have Bq_wc2 := bk7 Bq_wb hE;have T_wc2 : Hid (Touch (S4 w) wb wc2) := aT hE
        clear hE c_s c_x c_r c_q Bs_wb Bx_wb Br_wb Bq_wb
        have z_wc2 := E_wc2.out.size;have c_s := opn6 Bs_wc2;have c_x := opn7 Bx_wc2;have c_r := opn6 Br_wc2;have c_q := opn7 Bq_wc2
        (try unfold sv)
        have I9 := Lib.hid h_I9; clear h_I9
        have G9 := Lib.hid h_G9; clear h_G9
        have V9 := Lib.hid h_V9; clear h_V9
        have hle9 := I9.out.1
        have HVI9 := Lib.hid (VLA.keep _ HVIc.out (fun b hb ha => ⟨T_wc2.out.block b hb (fun e => by have := ha.1; omega), ha⟩))
        have HVT9 := Lib.hid (VLA.keep _ HVTb.out (fun b hb ha => ⟨T_wc2.out.block b hb (fun e => by omega), ha⟩))
        have HVC9 : Hid (VLA ExK 45 wc2 (fun b => w.heap.size + 1 + 1 + 1 < b) (slv gc cl.length cc) cl) := Lib.hid (VLA.of _ V9.out (fun b hb ha => by have h8 : wb.heap.size ≤ b := (by simpa [size_set] using ha); omega))
        have HR9 : Hid (X.run (query c.E) = ((behind ((mustX c [70, 82, 79, 77] Y).then (name c.E))).then (name c.E)).run fun r => fin (fun c => (⟨co, b2, b3, sm, il, [tn, m], c⟩ : Qu)) (whereP c.E r)) := Lib.hid (by rw [HR7.out, qu_two (q := ⟨co, b2, b3, sm, il, [], []⟩) H1.out G8.out])
        go_wp2
        refine wp_nm (fun wE hE => ?_)
        have E_wE := aE E_wc2 hE;have Bs_wE := bk6 Bs_wc2 hE;have Bx_wE := bk7 Bx_wc2 hE;have Br_wE := bk6 Br_wc2 hE;have Bq_wE := bk7 Bq_wc2 hE;have T_wE : Hid (Touch (S4 w) wc2 wE) := aT hE
        clear hE c_s c_x c_r c_q Bs_wc2 Bx_wc2 Br_wc2 Bq_wc2
        have z_wE := E_wE.out.size;have c_s := opn6 Bs_wE;have c_x := opn7 Bx_wE;have c_r := opn6 Br_wE;have c_q := opn7 Bq_wE
        have HVIe := Lib.hid (VLA.keep _ HVI9.out (fun b hb ha => ⟨T_wE.out.block b hb (fun e => by have := ha.1; omega), ha⟩))
        have HVTe := Lib.hid (VLA.keep _ HVT9.out (fun b hb ha => ⟨T_wE.out.block b hb (fun e => by omega), ha⟩))
        have HVCe := Lib.hid (VLA.keep _ HVC9.out (fun b hb ha => ⟨T_wE.out.block b hb (fun e => by omega), ha⟩))
        letI : Tch.TS := ⟨fun b => b = w.heap.size + 1⟩
        refine Tch.region_calm [.e 0, .e 1, .h 2 true, .h 3 false] f_mixed (by kernel_rfl) (by kernel_rfl) ?_
        refine Tch.plan_e1 rfl rfl (.agg #[.bool co, .bool b2, .bool b3, str sm, slv gi il.length ci, (.slice (some ⟨g6, 0, none⟩) 2 cap6), slv gc cl.length cc]) (fun w' he => ?_) (fun K hK => ?_)
        · have d := tch7 he c_q (fun (e : _ = _) => by omega)
          clear c_q he
          go_simp
        go_simp; refine hK _ ?_; clear hK K
        refine Tch.plan_e1 rfl rfl (.agg #[slv c.g c.all.length c.cap, .int .i64 (a9 : Int), .int .i64 (c.E : Int), .int .i64 ((0 : Nat) : Int), .int .i64 (k9 : Int), .int .i64 (p9 : Int)]) (fun w' he => ?_) (fun K hK => ?_)
        · have d := tch6 he c_s (fun (e : _ = _) => by omega)
          clear c_s he
          go_simp
        go_simp; refine hK _ ?_; clear hK K
        refine Tch.plan_ct rfl rfl (fun K _ hK => ?_)
        go_wp2
        refine hK _ _ (late7d _ _ _ _ _ _ _ _ _) ?_; clear hK K
        refine Tch.plan_c rfl rfl (fun K _ hK => ?_)
        go_wp2
        refine tch_done ?_
        go_wp2
        (try simp only [Exit.inBlock, Exit.then])
        refine bodyPost_ret (v := .tuple #[.agg #[.bool co, .bool b2, .bool b3, str sm, slv gi il.length ci, (.slice (some ⟨g6, 0, none⟩) 2 cap6), slv gc cl.length cc], .agg #[slv c.g c.all.length c.cap, .int .i64 (a9 : Int), .int .i64 (c.E : Int), .int .i64 ((0 : Nat) : Int), .int .i64 (k9 : Int), .int .i64 (p9 : Int)]]) (res_cc rfl rfl (lv_qu (xb7 Bx_wE)) rfl (lv_src (xb6 Br_wE))) rfl ?_
        obtain ⟨h2, h3⟩ := run_end (F := query c.E) (z := ⟨co, b2, b3, sm, il, [tn, m], cl⟩) (by rw [HR9.out, run_fin G9.out]) I9.out
        refine ⟨⟨co, b2, b3, sm, il, [tn, m], cl⟩, slv gi il.length ci, (.slice (some ⟨g6, 0, none⟩) 2 cap6), slv gc cl.length cc, _, _, _, rfl, h2, h3, ⟨_, _, _, rfl, ?_, ?_, ?_⟩, ?_⟩
        · exact VLA.keep _ HVIe.out (fun b hb ha => ⟨Touch.block (S := (S4 w)) xT b hb (fun e => by have := ha.1; omega), by have := ha.1; omega⟩)
        · exact VLA.keep _ HVTe.out (fun b hb ha => ⟨Touch.block (S := (S4 w)) xT b hb (fun e => by omega), by omega⟩)
        · exact VLA.keep _ HVCe.out (fun b hb ha => ⟨Touch.block (S := (S4 w)) xT b hb (fun e => by omega), by omega⟩)
        · exact (xE E_wE)
theorem rportion_ok (c : Rx) (X : Xs) (a d k p : Nat) (w : World) (h : Rk w c) (hx : In c X a k p) :
   Calls Tryz.prog 75 #[sv c a d k p] w (PerPost c w d X (portion c.E)) := by
 have H := Lib.hid h
 have HX := Lib.hid hx
 have hsm := h.small
 have hle := hx.1
 clear h hx
 unfold sv
 have E_w : Hid (Ext w w) := Lib.hid (Ext.refl w)
 go_enter Tryz.func75, Tryz.ntmps75
 go_wp2_with fail
 refine (rmay_ok c X a d k p [70, 79, 82] _ (H.out.ext (xE E_w)) HX.out).mono ?_
 rintro e w2 ⟨a1, rfl, h_I1, hE⟩
 have n_ := nst3 w
 have E_w2 := aE E_w hE;have Bs_w2 := nk6 (w.heap.size) hE;have Bx_w2 := nk2 (w.heap.size + 1) hE;have Br_w2 := nk6 (w.heap.size + 1 + 1) hE
 clear hE
 have z_w2 := E_w2.out.size;have c_s := opn6 Bs_w2;have c_x := opn2 Bx_w2;have c_r := opn6 Br_w2
 (try unfold sv)
 have I1 := Lib.hid h_I1; clear h_I1
 cases hm : isX [70, 79, 82] X with
 | true =>
   have HM := Lib.hid hm
   clear hm
   have I1' : Hid (In c (behind X) a1 k p) := Lib.hid (by have := I1.out; rwa [mayX_yes HM.out] at this)
   go_wp2_with fail
   refine (rperiod_ok c _ a1 d k p _ (H.out.ext (xE E_w2)) I1'.out).mono ?_
   rintro e w3 ⟨n, m, a2, k2, p2, rfl, h_I2, h_G2, hE⟩
   have n_s_u := ne2 (show w.heap.size ≠ w2.heap.size by omega);have n_x_u := ne2 (show w.heap.size + 1 ≠ w2.heap.size by omega);have n_r_u := ne2 (show w.heap.size + 1 + 1 ≠ w2.heap.size by omega)
   have E_w3 := aE E_w2 hE;have Bs_w3 := bk6 Bs_w2 hE;have Bx_w3 := bk2 Bx_w2 hE;have Br_w3 := bk6 Br_w2 hE;have Bu_w3 := nk6 (w2.heap.size) hE;have T_w3 : Hid (Touch (S3 w) w2 w3) := aT hE
   clear hE c_s c_x c_r Bs_w2 Bx_w2 Br_w2
   have z_w3 := E_w3.out.size;have c_s := opn6 Bs_w3;have c_x := opn2 Bx_w3;have c_r := opn6 Br_w3;have c_u := opn6 Bu_w3
   (try unfold sv)
   have I2 := Lib.hid h_I2; clear h_I2
   have G2 := Lib.hid h_G2; clear h_G2
   go_wp2
   (try simp only [Exit.inBlock, Exit.then])
   refine bodyPost_ret (v := .tuple #[.agg #[.int .i64 (n : Int), .int .i64 (m : Int)], .agg #[slv c.g c.all.length c.cap, .int .i64 (a2 : Int), .int .i64 (c.E : Int), .int .i64 (d : Int), .int .i64 (k2 : Int), .int .i64 (p2 : Int)]]) (res_cc rfl rfl (lv_per (xb2 Bx_w3)) rfl (lv_src (xb6 Br_w3))) rfl ?_
   obtain ⟨h2, h3⟩ := run_end (F := portion c.E) (z := (n, m)) (by rw [show portion c.E = fun ts => if isT [70, 79, 82] ts then period c.E ts.tail else .ok ((0, FOREVER), ts) from rfl, run_yes (A := period c.E) (B := fun ts => .ok ((0, FOREVER), ts)) HM.out]; exact run_then G2.out) I2.out
   exact ⟨n, m, _, _, _, rfl, h2, h3, (xE E_w3)⟩
 | false =>
   have HM := Lib.hid hm
   clear hm
   go_wp2
   refine wp_nm (fun w3 hE => ?_)
   have n_s_u := ne2 (show w.heap.size ≠ w2.heap.size by omega);have n_x_u := ne2 (show w.heap.size + 1 ≠ w2.heap.size by omega);have n_r_u := ne2 (show w.heap.size + 1 + 1 ≠ w2.heap.size by omega)
   have E_w3 := aE E_w2 hE;have Bs_w3 := bk6 Bs_w2 hE;have Bx_w3 := bk2 Bx_w2 hE;have Br_w3 := bk6 Br_w2 hE;have Bu_w3 := nk6 (w2.heap.size) hE;have T_w3 : Hid (Touch (S3 w) w2 w3) := aT hE
   clear hE c_s c_x c_r Bs_w2 Bx_w2 Br_w2
   have z_w3 := E_w3.out.size;have c_s := opn6 Bs_w3;have c_x := opn2 Bx_w3;have c_r := opn6 Br_w3;have c_u := opn6 Bu_w3
   letI : Tch.TS := ⟨fun b => b = w.heap.size + 1⟩
   refine Tch.region_calm [.p 0, .e 1, .h 2 true, .h 3 false] f_mixed (by kernel_rfl) (by kernel_rfl) ?_
   repeat (refine Tch.plan_p rfl (fun K hK => ?_); go_simp; refine hK _ ?_; clear hK K)
   refine Tch.plan_e1 rfl rfl (.agg #[slv c.g c.all.length c.cap, .int .i64 (a : Int), .int .i64 (c.E : Int), .int .i64 (d : Int), .int .i64 (k : Int), .int .i64 (p : Int)]) (fun w' he => ?_) (fun K hK => ?_)
   · have d := tch6 he c_s (fun (e : _ = _) => by omega)
     clear c_s he
     go_simp
   go_simp; refine hK _ ?_; clear hK K
   refine Tch.plan_ct rfl rfl (fun K _ hK => ?_)
   go_wp2
   refine hK _ _ (late2d _ _ _ _) ?_; clear hK K
   refine Tch.plan_c rfl rfl (fun K _ hK => ?_)
   go_wp2
   refine tch_done ?_
   go_wp2
   (try simp only [Exit.inBlock, Exit.then])
   refine bodyPost_ret (v := .tuple #[.agg #[.int .i64 (0 : Int), .int .i64 (1099511627776 : Int)], .agg #[slv c.g c.all.length c.cap, .int .i64 (a : Int), .int .i64 (c.E : Int), .int .i64 (d : Int), .int .i64 (k : Int), .int .i64 (p : Int)]]) (res_cc rfl rfl (lv_per (xb2 Bx_w3)) rfl (lv_src (xb6 Br_w3))) rfl ?_
   obtain ⟨h2, h3⟩ := run_end (F := portion c.E) (Y := X) (z := (0, 1099511627776)) (by rw [show portion c.E = fun ts => if isT [70, 79, 82] ts then period c.E ts.tail else .ok ((0, FOREVER), ts) from rfl, run_no (A := fun ts => period c.E ts.tail) (B := fun ts => .ok ((0, FOREVER), ts)) HM.out]; rfl) HX.out
   exact ⟨0, 1099511627776, _, _, _, rfl, h2, h3, (xE E_w3)⟩
def MoreR {α β : Type} (R : Res β) (one : List Tok → Res α) (k : List α → List Tok → Res β) (more : Bool) (Y : Xs) (xs : List α) : Prop :=
 (more = true → ∃ f, Few (Y.then one) f ∧ R = Y.run fun ts => bnd (bnd (one ts) fun x r => sepL one f (xs ++ [x]) r) k) ∧ (more = false → R = Y.run (k xs))
section
variable {α β : Type} {R : Res β} {one : List Tok → Res α} {k : List α → List Tok → Res β} {X Y : Xs} {xs : List α} {more : Bool}
theorem MoreR.start (h : R = X.run fun ts => bnd (sep one ts) k) : MoreR R one k true X [] := by
 refine ⟨fun _ => ?_, fun h => by cases h⟩
 cases X with
 | error e => exact ⟨0, by show 0 ≤ _; omega, h⟩
 | ok ts =>
   cases h1 : one ts with
   | error e =>
     refine ⟨0, by rw [then_err' h1]; show 0 ≤ _; omega, ?_⟩
     rw [h]
     show bnd (bnd (one ts) _) k = bnd (bnd (one ts) _) k
     rw [h1]; rfl
   | ok yr =>
     obtain ⟨y, r⟩ := yr
     refine ⟨r.length, by rw [then_ok' h1]; exact Nat.le_refl _, ?_⟩
     rw [h]
     show bnd (bnd (one ts) _) k = bnd (bnd (one ts) _) k
     rw [h1]; rfl
theorem MoreR.exit (h : MoreR R one k more Y xs) (hm : more = false ∨ ∃ e, Y = .error e) : R = Y.run (k xs) := by
 rcases hm with hm | ⟨e, rfl⟩
 · exact h.2 hm
 · cases more with
   | false => exact h.2 rfl
   | true =>
     obtain ⟨f, -, h1⟩ := h.1 rfl
     rw [h1]; rfl
theorem MoreR.step (h : MoreR R one k true Y xs) {x : α} (hx : Got Y one x) (hs : ∀ ts, Suf ts (one ts)) : MoreR R one k (isX [44] (Y.then one)) (mayX [44] (Y.then one)) (xs ++ [x]) := by
 obtain ⟨f, hf, hR⟩ := h.1 rfl
 have h1 : R = (Y.then one).run fun r => bnd (sepL one f (xs ++ [x]) r) k := by
   rw [hR]
   cases Y with
   | error e => rfl
   | ok ts =>
     show bnd (bnd (one ts) _) k = _
     cases h2 : one ts with
     | error e => rw [then_err' h2]; rfl
     | ok yr =>
       obtain ⟨y, r⟩ := yr
       cases hx ts y r rfl h2
       rw [then_ok' h2]; rfl
 constructor
 · intro h2
   obtain ⟨f', hf', hfew⟩ := hf.step h2 hs
   refine ⟨f', by rw [mayX_yes h2]; exact hfew, ?_⟩
   rw [h1, mayX_yes h2, hf']
   obtain ⟨t, ts, ht, h3⟩ := isX_ok h2
   rw [ht]
   show bnd (sepL one (f' + 1) _ (t :: ts)) k = bnd (bnd (one ts) _) k
   simp only [sepL, h3, if_true]; rfl
 · intro h2
   rw [h1, mayX_no h2]
   cases hY : Y.then one with
   | error e => rfl
   | ok ts =>
     have h3 : isT [44] ts = false := by rw [hY] at h2; exact h2
     show bnd (sepL one f _ ts) k = k _ ts
     cases f with
     | zero => rfl
     | succ f => simp only [sepL, h3, Bool.false_eq_true, if_false]; rfl
def muM (more : Bool) (Y : Xs) : Nat := if more then mu Y else 0
theorem mu_then {f : List Tok → Res α} (hs : ∀ ts, Suf ts (f ts)) : mu (Y.then f) ≤ mu Y := by
 cases Y with
 | error e => exact Nat.le_refl _
 | ok ts =>
   cases hf : f ts with
   | error e => rw [then_err' hf]; exact Nat.zero_le _
   | ok yr =>
     obtain ⟨y, r⟩ := yr
     rw [then_ok' hf]
     have := (hs ts y r hf).length_le
     show r.length + 1 ≤ ts.length + 1; omega
theorem muM_step {ts : List Tok} (hs : ∀ ts, Suf ts (one ts)) : muM (isX [44] (Xs.then (.ok ts) one)) (mayX [44] (Xs.then (.ok ts) one)) < muM true (.ok ts) := by
 have h1 := mu_then (Y := .ok ts) hs
 have h2 : mu (.ok ts : Xs) = ts.length + 1 := rfl
 show _ < mu (.ok ts : Xs)
 cases h : isX [44] (Xs.then (.ok ts) one) with
 | false => show 0 < _; omega
 | true =>
   rw [mayX_yes h]
   obtain ⟨t, us, ht, -⟩ := isX_ok h
   rw [ht] at h1 ⊢
   have h3 : mu (.ok (t :: us) : Xs) = us.length + 1 + 1 := rfl
   show us.length + 1 < _; omega
end
def StPost (c : Rx) (w : World) (X : Xs) (f : List Tok → Res St) (e : Ending) (w' : World) : Prop :=
 ∃ (x : St) (v : StV) (a' k' p' : Nat), e = .returned (.tuple #[.agg (stCells x v).toArray, sv c a' 0 k' p']) ∧ In c (X.then f) a' k' p' ∧ Got X f x ∧ StOk w' (fun b => w.heap.size ≤ b) x v ∧ Ext w w'
structure SI (w : World) (c : Rx) (wc : World) (Y : Xs) (a k p : Nat) (cells : Array Value) : Prop where
 ext : Ext w wc
 bs : wc.heap[w.heap.size]? = some (.cells #[slv c.g c.all.length c.cap, .int .i64 (a : Int), .int .i64 (c.E : Int), .int .i64 ((0 : Nat) : Int), .int .i64 (k : Int), .int .i64 (p : Int)] 71 (0, 0))
 bx : wc.heap[w.heap.size + 1]? = some (.cells #[str [], str [], .slice none 0 0, .slice none 0 0, .slice none 0 0, .slice none 0 0, .int .i64 (0 : Int), .int .i64 (0 : Int), .slice none 0 0, .slice none 0 0, .slice none 0 0, .slice none 0 0, .slice none 0 0, .slice none 0 0] 33 (0, 0))
 br : wc.heap[w.heap.size + 1 + 1]? = some (.cells #[.slice none 0 0, .int .i64 (0 : Int), .int .i64 (0 : Int), .int .i64 (0 : Int), .int .i64 (0 : Int), .int .i64 (0 : Int)] 71 (0, 0))
 bt : wc.heap[w.heap.size + 1 + 1 + 1]? = some (.cells cells 33 (0, 0))
 inn : In c Y a k p
theorem late14d (w : World) (b : Nat) (v0 v1 v2 v3 v4 v5 v6 v7 v8 v9 v10 v11 v12 v13 : Value) : Touch (fun k => k = b) w.drew (wr14 w b v0 v1 v2 v3 v4 v5 v6 v7 v8 v9 v10 v11 v12 v13).drew := Touch.drews (wr14_touch w b v0 v1 v2 v3 v4 v5 v6 v7 v8 v9 v10 v11 v12 v13)
theorem rnumber_b (c : Rx) (X : Xs) (a d k p : Nat) (w : World) (h : Rk w c) (hx : In c X a k p) :
   Calls Tryz.prog 103 #[sv c a d k p] w (fun e w' => ∃ (n a' k' p' : Nat), e = .returned (.tuple #[.int .i64 (n : Int), sv c a' d k' p']) ∧ In c (X.then (number c.E)) a' k' p' ∧ Got X (number c.E) n ∧ n < 1000000000000000000 ∧ Ext w w') := by
 have H := Lib.hid h
 have HX := Lib.hid hx
 have hsm := h.small
 have hle := hx.1
 have HGD := Lib.hid (tokN_good h hx)
 have HTN := Lib.hid (tok_num (X := X) (E := c.E))
 obtain ⟨t, ht⟩ : ∃ t, tokN X = t := ⟨_, rfl⟩
 rw [ht] at HTN HGD
 have HTT := Lib.hid ht
 clear h hx ht
 unfold sv
 have E_w : Hid (Ext w w) := Lib.hid (Ext.refl w)
 go_enter Tryz.func103, Tryz.ntmps103
 go_wp2_with fail
 refine (rnext_ok c X a d k p _ (H.out.ext (xE E_w)) HX.out).mono ?_
 rintro e w2 ⟨rfl, hE⟩
 have n_s_r := ne2 (show w.heap.size ≠ w.heap.size + 1 by omega)
 have E_w2 := aE E_w hE;have Bs_w2 := nk6 (w.heap.size) hE;have Br_w2 := nk6 (w.heap.size + 1) hE
 clear hE
 have z_w2 := E_w2.out.size;have c_s := opn6 Bs_w2;have c_r := opn6 Br_w2
 rw [HTT.out]
 obtain ⟨tk, tt, tn, tp⟩ := t
 unfold tokV
 by_cases h2 : tk = 2
 · have e2 : ((tk : Int) != 2) = false := by simp [h2]
   have H2 := Lib.hid h2
   clear h2
   go_wp2
   refine region_calm [.p 0, .l 1, .l 2, .p 3, .h 4 false] f_mixed (by kernel_rfl) (by kernel_rfl) ?_
   repeat ((first | refine plan_p rfl (fun K hK => ?_) | refine plan_l rfl (fun K hK => ?_)); go_simp; refine hK _ ?_; clear hK K)
   refine plan_c rfl rfl (fun K _ hK => ?_)
   go_wp2
   refine plan_done ?_
   go_wp2
   (try simp only [Exit.inBlock, Exit.then])
   refine bodyPost_ret (v := .tuple #[.int .i64 (tn : Int), .agg #[slv c.g c.all.length c.cap, .int .i64 (a + 1 : Int), .int .i64 (c.E : Int), .int .i64 (d : Int), .int .i64 (k : Int), .int .i64 (p : Int)]]) (res_tc rfl rfl rfl (lv_src (xb6 Br_w2))) rfl ?_
   obtain ⟨ts, hX, hf⟩ := HTN.out.1 H2.out
   have hXX := HX.out
   subst hX
   have hn := hXX.next (by rw [HTT.out]; have := H2.out; dsimp only; omega)
   refine ⟨tn, a + 1, k, p, rfl, ?_, ?_, ?_, ?_⟩
   · rw [then_ok hf]; exact hn.2
   · intro ts y r hX hf'
     cases hX
     rw [hf] at hf'
     cases hf'
     rfl
   · rcases HGD.out with h | ⟨h, -⟩
     · have h3 : tn = 0 := congrArg (fun q : Tok => q.2.2.1) h
       omega
     · exact h.2.1 H2.out
   · exact (xE E_w2)
 · have e2 : ((tk : Int) != 2) = true := by simp; omega
   have HNUM := Lib.hid (HTN.out.2 (fun h => h2 h))
   clear h2
   go_wp2_with fail
   refine (rfail_ok c X a d k p 150 _ (H.out.ext (xE E_w2)) HX.out (by decide)).mono ?_
   rintro e w4 ⟨k', p', rfl, h_I4, hE⟩
   have n_s_t := ne2 (show w.heap.size ≠ w2.heap.size by omega);have n_r_t := ne2 (show w.heap.size + 1 ≠ w2.heap.size by omega)
   have E_w4 := aE E_w2 hE;have Bs_w4 := bk6 Bs_w2 hE;have Br_w4 := bk6 Br_w2 hE;have Bt_w4 := nk4 (w2.heap.size) hE
   clear hE c_s c_r Bs_w2 Br_w2
   have z_w4 := E_w4.out.size;have c_s := opn6 Bs_w4;have c_r := opn6 Br_w4;have c_t := opn4 Bt_w4
   (try unfold sv)
   have I4 := Lib.hid h_I4; clear h_I4
   go_wp2
   (try simp only [Exit.inBlock, Exit.then])
   refine bodyPost_ret (v := .tuple #[.int .i64 (0 : Int), .agg #[slv c.g c.all.length c.cap, .int .i64 (a : Int), .int .i64 (c.E : Int), .int .i64 (d : Int), .int .i64 (k' : Int), .int .i64 (p' : Int)]]) (res_tc rfl rfl rfl (lv_src (xb6 Br_w4))) rfl ?_
   refine ⟨0, a, k', p', rfl, ?_, ?_, by omega, ?_⟩
   · have h1 := I4.out
     cases X with
     | error e => exact h1
     | ok ts => rw [then_err (HNUM.out ts rfl)]; exact h1
   · intro ts y r hX hf
     rw [HNUM.out ts hX] at hf
     cases hf
   · exact (xE E_w4)
end Go.Proofs.YtkhnpmeohjafiaaGreatDoor
