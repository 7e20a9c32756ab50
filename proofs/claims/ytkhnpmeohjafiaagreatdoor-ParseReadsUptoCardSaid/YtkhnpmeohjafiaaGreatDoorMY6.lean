/- Lemmas. -/
import Derived.Test.YtkhnpmeohjafiaaGreatDoorMY4
namespace Go.Proofs.YtkhnpmeohjafiaaGreatDoor
open Go.RowKit
def selTq (E : Nat) (os : List Str) (qs : List Qu) (r : List Tok) : Res St :=
 bnd (asOfP E r) fun a r => bnd (duringP E r) fun d r => fin (fun o => ({ St.none with kind := [83, 69, 76, 69, 67, 84], query := qs, ops := os, asOf := a, during := d, order := o } : St)) (orderP E r)
def selDq (E : Nat) (os : List Str) (qs : List Qu) (a : List Nat) (r : List Tok) : Res St :=
 bnd (duringP E r) fun d r => fin (fun o => ({ St.none with kind := [83, 69, 76, 69, 67, 84], query := qs, ops := os, asOf := a, during := d, order := o } : St)) (orderP E r)
def selOq (E : Nat) (os : List Str) (qs : List Qu) (a : List Nat) (d : List (Nat × Nat)) (r : List Tok) : Res St :=
 fin (fun o => ({ St.none with kind := [83, 69, 76, 69, 67, 84], query := qs, ops := os, asOf := a, during := d, order := o } : St)) (orderP E r)
section
variable {α β : Type} {X Y Z : Xs} {c : Rx}
theorem run_bind {F : List Tok → Res α} {g : α → List Tok → Res β} : X.run (fun ts => bnd (F ts) g) = bnd (X.run F) g := by
 cases X <;> rfl
theorem sel_start {q : Qu} (hq : Got X (query c.E) q) : ∃ f, Few (X.then (query c.E)) f ∧ X.run (selects c.E) = (X.then (query c.E)).run fun ts => bnd (moreL c.E f [] [q] ts) fun oq r => selTq c.E oq.1 oq.2 r := by
 cases X with
 | error e => exact ⟨0, by show 0 ≤ _; omega, rfl⟩
 | ok ts =>
   cases h : query c.E ts with
   | error e => exact ⟨0, by rw [then_err' h]; show 0 ≤ _; omega, by rw [then_err' h]; show bnd (query c.E ts) _ = _; rw [h]; rfl⟩
   | ok yr =>
     obtain ⟨y, r⟩ := yr
     cases hq ts y r rfl h
     exact ⟨r.length, by rw [then_ok' h]; exact Nat.le_refl _, by rw [then_ok' h]; show bnd (query c.E ts) _ = _; rw [h]; rfl⟩
theorem sel_more {s : Str} {f : Nat} {os : List Str} {qs : List Qu} {q : Qu} {k : List Str × List Qu → List Tok → Res β} (hs : s ∈ [[85, 78, 73, 79, 78], [69, 88, 67, 69, 80, 84]]) (h : isX s Y = true) (hq : Got (behind Y) (query c.E) q) :
   Y.run (fun ts => bnd (moreL c.E (f + 1) os qs ts) k) = ((behind Y).then (query c.E)).run fun ts => bnd (moreL c.E f (os ++ [s]) (qs ++ [q]) ts) k := by
 rw [run_bind, run_bind, ← run_bnd (g := fun x r => moreL c.E f (os ++ [s]) (qs ++ [x]) r) hq]
 cases Y with
 | error e => cases h
 | ok ts =>
   have h' : isT s ts = true := h
   have h2 : anyT [[85, 78, 73, 79, 78], [69, 88, 67, 69, 80, 84]] ts = true := List.any_eq_true.2 ⟨s, hs, h'⟩
   show bnd (moreL c.E (f + 1) os qs ts) k = bnd (bnd (query c.E ts.tail) _) k
   simp only [moreL, h2, if_true, isT_txt' h']
theorem sel_stop {f : Nat} {os : List Str} {qs : List Qu} {k : List Str × List Qu → List Tok → Res β} (h1 : isX [85, 78, 73, 79, 78] Y = false) (h2 : isX [69, 88, 67, 69, 80, 84] Y = false) :
   Y.run (fun ts => bnd (moreL c.E f os qs ts) k) = Y.run (k (os, qs)) := by
 cases Y with
 | error e => rfl
 | ok ts =>
   have h1' : isT [85, 78, 73, 79, 78] ts = false := h1
   have h2' : isT [69, 88, 67, 69, 80, 84] ts = false := h2
   cases f with
   | zero => rfl
   | succ f => show bnd (moreL c.E (f + 1) os qs ts) k = _; simp only [moreL, anyT, List.any, h1', h2', Bool.false_eq_true, Bool.or_false, if_false]; rfl
theorem sel_as {n : Nat} {os : List Str} {qs : List Qu} (h : isX [65, 83] Y = true) (hn : Got (mustX c [79, 70] (behind Y)) (number c.E) n) :
  Y.run (selTq c.E os qs) = ((mustX c [79, 70] (behind Y)).then (number c.E)).run (selDq c.E os qs [n]) := by
 refine run_bnd2 (f := asOfP c.E) (x := [n]) (g := fun a => selDq c.E os qs a) ?_
 refine (run_yes (A := fun ts => bnd (must c.E [79, 70] ts) fun _ r => fin (fun n => [n]) (number c.E r)) (B := fun ts => .ok ([], ts)) h).trans ?_
 refine (run_must (g := fun r => fin (fun n => [n]) (number c.E r))).trans ?_
 exact run_fin hn
theorem sel_noas {os : List Str} {qs : List Qu} (h : isX [65, 83] Y = false) : Y.run (selTq c.E os qs) = Y.run (selDq c.E os qs []) := by
 refine run_bnd2 (f := asOfP c.E) (x := []) (g := fun a => selDq c.E os qs a) ?_
 exact run_no (A := fun ts => bnd (must c.E [79, 70] ts.tail) fun _ r => fin (fun n => [n]) (number c.E r)) (B := fun ts => .ok ([], ts)) h
def lateX (X : Xs) : Bool := (tokN X).1 == 2 && decide (FOREVER ≤ (tokN X).2.2.1)
def atX (c : Rx) (X : Xs) : Xs := if lateX X then failX c 40 X else X
theorem at_run : X.run (fun ts => if isK 2 ts ∧ FOREVER ≤ nmb ts then bad c.E 40 ts else fin (fun n => [(n, n + 1)]) (number c.E ts)) = (atX c X).run fun ts => fin (fun n => [(n, n + 1)]) (number c.E ts) := by
 cases X with
 | error e => rfl
 | ok ts =>
   unfold atX lateX
   cases ts with
   | nil => rfl
   | cons t ts =>
     show (if isK 2 (t :: ts) ∧ FOREVER ≤ t.2.2.1 then _ else _) = _
     by_cases h : isK 2 (t :: ts) = true ∧ FOREVER ≤ t.2.2.1
     · have h' : ((tokN (.ok (t :: ts))).1 == 2 && decide (FOREVER ≤ (tokN (.ok (t :: ts))).2.2.1)) = true := by
        simp only [tokN, Bool.and_eq_true]; exact ⟨h.1, decide_eq_true h.2⟩
       rw [if_pos h, h']; rfl
     · have h' : ((tokN (.ok (t :: ts))).1 == 2 && decide (FOREVER ≤ (tokN (.ok (t :: ts))).2.2.1)) = false := by
        rw [← Bool.not_eq_true]
        simp only [tokN, Bool.and_eq_true]; exact fun q => h ⟨q.1, of_decide_eq_true q.2⟩
       rw [if_neg h, h']; rfl
theorem sel_at {n : Nat} {os : List Str} {qs : List Qu} {a : List Nat} (h : isX [65, 84] Y = true) (hn : Got (atX c (behind Y)) (number c.E) n) :
  Y.run (selDq c.E os qs a) = ((atX c (behind Y)).then (number c.E)).run (selOq c.E os qs a [(n, n + 1)]) := by
 refine run_bnd2 (f := duringP c.E) (x := [(n, n + 1)]) (g := fun d => selOq c.E os qs a d) ?_
 refine (run_yes (A := fun ts => if isK 2 ts ∧ FOREVER ≤ nmb ts then bad c.E 40 ts else fin (fun n => [(n, n + 1)]) (number c.E ts)) (B := fun ts => if isT [68, 85, 82, 73, 78, 71] ts then fin (fun p => [p]) (period c.E ts.tail) else .ok ([], ts)) h).trans ?_
 exact at_run.trans (run_fin hn)
theorem sel_during {p : Nat × Nat} {os : List Str} {qs : List Qu} {a : List Nat} (h0 : isX [65, 84] Y = false) (h : isX [68, 85, 82, 73, 78, 71] Y = true) (hn : Got (behind Y) (period c.E) p) :
  Y.run (selDq c.E os qs a) = ((behind Y).then (period c.E)).run (selOq c.E os qs a [p]) := by
 refine run_bnd2 (f := duringP c.E) (x := [p]) (g := fun d => selOq c.E os qs a d) ?_
 refine (run_no (A := fun ts => if isK 2 ts.tail ∧ FOREVER ≤ nmb ts.tail then bad c.E 40 ts.tail else fin (fun n => [(n, n + 1)]) (number c.E ts.tail)) (B := fun ts => if isT [68, 85, 82, 73, 78, 71] ts then fin (fun p => [p]) (period c.E ts.tail) else .ok ([], ts)) h0).trans ?_
 refine (run_yes (A := fun ts => fin (fun p => [p]) (period c.E ts)) (B := fun ts => .ok ([], ts)) h).trans ?_
 exact run_fin hn
theorem sel_nod {os : List Str} {qs : List Qu} {a : List Nat} (h0 : isX [65, 84] Y = false) (h : isX [68, 85, 82, 73, 78, 71] Y = false) : Y.run (selDq c.E os qs a) = Y.run (selOq c.E os qs a []) := by
 refine run_bnd2 (f := duringP c.E) (x := []) (g := fun d => selOq c.E os qs a d) ?_
 refine (run_no (A := fun ts => if isK 2 ts.tail ∧ FOREVER ≤ nmb ts.tail then bad c.E 40 ts.tail else fin (fun n => [(n, n + 1)]) (number c.E ts.tail)) (B := fun ts => if isT [68, 85, 82, 73, 78, 71] ts then fin (fun p => [p]) (period c.E ts.tail) else .ok ([], ts)) h0).trans ?_
 exact run_no (A := fun ts => fin (fun p => [p]) (period c.E ts.tail)) (B := fun ts => .ok ([], ts)) h
theorem sel_order {l : List Str} {os : List Str} {qs : List Qu} {a : List Nat} {d : List (Nat × Nat)} (h : isX [79, 82, 68, 69, 82] Y = true) (hl : Got (mustX c [66, 89] (behind Y)) (sep (name c.E)) l) :
  Y.run (selOq c.E os qs a d) = ((mustX c [66, 89] (behind Y)).then (sep (name c.E))).run fun ts => .ok (({ St.none with kind := [83, 69, 76, 69, 67, 84], query := qs, ops := os, asOf := a, during := d, order := l } : St), ts) := by
 refine run_fin2 (x := l) ?_
 refine (run_yes (A := fun ts => bnd (must c.E [66, 89] ts) fun _ r => sep (name c.E) r) (B := fun ts => .ok ([], ts)) h).trans ?_
 exact (run_must (g := sep (name c.E))).trans (run_then hl)
theorem sel_noorder {os : List Str} {qs : List Qu} {a : List Nat} {d : List (Nat × Nat)} (h : isX [79, 82, 68, 69, 82] Y = false) :
  Y.run (selOq c.E os qs a d) = Y.run fun ts => .ok (({ St.none with kind := [83, 69, 76, 69, 67, 84], query := qs, ops := os, asOf := a, during := d, order := [] } : St), ts) := by
 refine run_fin2 (x := []) ?_
 exact run_no (A := fun ts => bnd (must c.E [66, 89] ts.tail) fun _ r => sep (name c.E) r) (B := fun ts => .ok ([], ts)) h
end
structure LoQ (w : World) (c : Rx) (qa : Nat) (R : Res St) (gk : Nat) (wr : World) (Y : Xs) (f a k p : Nat) (qs : List Qu) (gq : Option Nat) (cq : Nat) (fq : List Value) (os : List Str) (go : Option Nat) (co : Nat) (fo : List Value) (u0 u1 u2 u3 u4 u5 u6 : Value) : Prop where
 hk : gk = mu Y
 si : SI w c wr Y a k p #[str [83, 69, 76, 69, 67, 84], str [], .slice none 0 0, .slice none 0 0, .slice none 0 0, .slice none 0 0, .int .i64 (0 : Int), .int .i64 (0 : Int), .slice none 0 0, slv gq qs.length cq, slv go os.length co, .slice none 0 0, .slice none 0 0, .slice none 0 0]
 bq : wr.heap[qa]? = some (.cells #[u0, u1, u2, u3, u4, u5, u6] 49 (0, 0))
 slq : Sl wr 49 QuK.size gq qs.length cq fq
 ownq : ∀ b, gq = some b → w.heap.size + 1 + 1 + 1 < b ∧ b ≠ qa ∧ go ≠ some b
 lsq : LsC QuK wr (fun b => (w.heap.size + 1 + 1 + 1 < b ∧ b ≠ qa ∧ go ≠ some b) ∧ gq ≠ some b) fq qs
 slo : Sl wr 9 StrK.size go os.length co fo
 owno : ∀ b, go = some b → w.heap.size + 1 + 1 + 1 < b ∧ b ≠ qa ∧ gq ≠ some b
 lso : LsC StrK wr (fun _ => True) fo os
 few : Few Y f
 run : R = Y.run fun ts => bnd (moreL c.E f os qs ts) fun oq r => selTq c.E oq.1 oq.2 r
 len : qs.length + mu Y ≤ 5000
 leo : os.length ≤ qs.length
theorem ls_strQ {w w' : World} {A A' : Nat → Prop} {fl : List Value} {xs : List Str} (h : LsC StrK w A fl xs) : LsC StrK w' A' fl xs := by
 induction xs generalizing fl with
 | nil => exact h
 | cons x xs ih =>
   obtain ⟨c, r, rfl, hc, hr⟩ := h
   exact ⟨c, r, rfl, hc, ih hr⟩
theorem per_pair {w : World} {A : Nat → Prop} (n : Nat) : PerK.C w A [.int .i64 (n : Int), .int .i64 ((n : Int) + 1)] (n, n + 1) := by
 show ([.int .i64 (n : Int), .int .i64 ((n : Int) + 1)] : List Value) = [.int .i64 (n : Int), .int .i64 ((n + 1 : Nat) : Int)]
 rw [Int.natCast_add]; rfl
set_option maxRecDepth 100000 in
set_option maxHeartbeats 32000000 in
theorem rselects_ok (c : Rx) (X : Xs) (a k p : Nat) (w : World) (h : Rk w c) (hx : In c X a k p) :
  Calls Tryz.prog 78 #[sv c a 0 k p] w (StPost c w X (selects c.E)) := by
 have H := Lib.hid h
 have HX := Lib.hid hx
 have hsm := h.small
 have hle := hx.1
 clear h hx
 unfold sv
 have E_w : Hid (Ext w w) := Lib.hid (Ext.refl w)
 go_enter Tryz.func78, Tryz.ntmps78
 go_wp2_with fail
 refine (rquery_ok c X a k p _ (H.out.ext (xE E_w)) HX.out).mono ?_
 rintro e w2 ⟨q, vi, vt, vc, a1, k1, p1, rfl, h_I1, h_G1, h_Q1, hE⟩
 have n_ := nst4 w
 have E_w2 := aE E_w hE;have Bs_w2 := nk6 (w.heap.size) hE;have Bx_w2 := nk14 (w.heap.size + 1) hE;have Br_w2 := nk6 (w.heap.size + 1 + 1) hE;have Bt_w2 := nk14 (w.heap.size + 1 + 1 + 1) hE
 clear hE
 have z_w2 := E_w2.out.size;have c_s := opn6 Bs_w2;have c_x := opn14 Bx_w2;have c_r := opn6 Br_w2;have c_t := opn14 Bt_w2
 (try unfold sv)
 have I1 := Lib.hid h_I1; clear h_I1
 have G1 := Lib.hid h_G1; clear h_G1
 have Q1 := Lib.hid h_Q1; clear h_Q1
 have hle1 := I1.out.1
 have hqa : w.heap.size + 1 + 1 + 1 < w2.heap.size := by omega
 have HQC : Hid (QuC w2 (fun b => w.heap.size + 1 + 1 + 1 < b) [.bool q.coalesce, .bool q.all, .bool q.count, str q.sum, vi, vt, vc] q) := Lib.hid (QuK.keep (fun b hb ha => ⟨rfl, by simp [size_set] at ha; omega⟩) _ _ Q1.out)
 obtain ⟨vi2, vt2, vc2, e0, hv1, hv2, hv3⟩ := HQC.out
 cases e0
 obtain ⟨gi, ci, rfl⟩ := hv1.slice
 obtain ⟨gt, ct, rfl⟩ := hv2.slice
 obtain ⟨gc, cc, rfl⟩ := hv3.slice
 clear hv1 hv2 hv3 Q1
 go_wp2_with (at_builtin; refine (fun (h : True → _) => h trivial) ?_)
 intro _
 refine list_nm (fun w3 hE => ?_)
 have n_s_q := ne2 (show w.heap.size ≠ w2.heap.size by omega);have n_s_o := ne2 (show w.heap.size ≠ w2.heap.size + 1 by omega);have n_x_q := ne2 (show w.heap.size + 1 ≠ w2.heap.size by omega);have n_x_o := ne2 (show w.heap.size + 1 ≠ w2.heap.size + 1 by omega);have n_r_q := ne2 (show w.heap.size + 1 + 1 ≠ w2.heap.size by omega);have n_r_o := ne2 (show w.heap.size + 1 + 1 ≠ w2.heap.size + 1 by omega);have n_t_q := ne2 (show w.heap.size + 1 + 1 + 1 ≠ w2.heap.size by omega);have n_t_o := ne2 (show w.heap.size + 1 + 1 + 1 ≠ w2.heap.size + 1 by omega);have n_q_o := ne2 (show w2.heap.size ≠ w2.heap.size + 1 by omega)
 have E_w3 := aE E_w2 hE;have Bs_w3 := bk6 Bs_w2 hE;have Bx_w3 := bk14 Bx_w2 hE;have Br_w3 := bk6 Br_w2 hE;have Bt_w3 := bk14 Bt_w2 hE;have Bq_w3 := nk7 (w2.heap.size) hE;have Bo_w3 := nk7 (w2.heap.size + 1) hE;have T_w3 : Hid (Touch (S4 w) w2 w3) := aT hE
 clear hE c_s c_x c_r c_t Bs_w2 Bx_w2 Br_w2 Bt_w2
 have z_w3 := E_w3.out.size;have c_s := opn6 Bs_w3;have c_x := opn14 Bx_w3;have c_r := opn6 Br_w3;have c_t := opn14 Bt_w3;have c_q := opn7 Bq_w3;have c_o := opn7 Bo_w3
 have C3 : Hid (QuK.C w3 (fun b => (w.heap.size + 1 + 1 + 1 < b ∧ b ≠ w2.heap.size ∧ (none : Option Nat) ≠ some b) ∧ (none : Option Nat) ≠ some b) [.bool q.coalesce, .bool q.all, .bool q.count, str q.sum, slv gi q.items.length ci, slv gt q.tables.length ct, slv gc q.cond.length cc] q) := Lib.hid (QuK.keep (fun b hb ha => ⟨T_w3.out.block b hb (fun e => by omega), ⟨ha, by omega, by simp⟩, by simp⟩) _ _ HQC.out)
 refine app_lit ei_qu rfl (.tmp 16) (.tmp 18) rfl (g := none) (n := 0) (cap := 0) (b := w2.heap.size + 1) (by rfl) (Sl.nil _ _ _) (by rfl) rfl (news := [.bool q.coalesce, .bool q.all, .bool q.count, str q.sum, slv gi q.items.length ci, slv gt q.tables.length ct, slv gc q.cond.length cc]) Bo_w3.out (QuK.one C3.out) (by omega) (by omega) ?_
 intro gq0 cq0 w4 hS6 hT6 hat6
 have hat0 : gq0 = w3.heap.size := by
  rcases hat6 with h | h
  · cases h
  · exact h
 have HSQ4 := Lib.hid hS6
 obtain ⟨q1, q2⟩ := ls_put (K := QuK) (A0 := fun b => w.heap.size + 1 + 1 + 1 < b ∧ b ≠ w2.heap.size ∧ (none : Option Nat) ≠ some b) (w := w3) (g := none) (fl := []) (xs := []) (x := q) (cs := [.bool q.coalesce, .bool q.all, .bool q.count, str q.sum, slv gi q.items.length ci, slv gt q.tables.length ct, slv gc q.cond.length cc]) rfl C3.out hT6 hat6 (fun b hb => by cases hb) ⟨by omega, by omega, by simp⟩
 have Q1 := Lib.hid q1
 have Q2 := Lib.hid q2
 have E_w4 := Lib.hid (Touch.fresh' (a := w) E_w3.out hT6 (fun i e => by cases e))
 have Bs_w4 := Lib.hid (hT6.old Bs_w3.out (fun e => by cases e))
 have Bx_w4 := Lib.hid (hT6.old Bx_w3.out (fun e => by cases e))
 have Br_w4 := Lib.hid (hT6.old Br_w3.out (fun e => by cases e))
 have Bt_w4 := Lib.hid (hT6.old Bt_w3.out (fun e => by cases e))
 have Bq_w4 := Lib.hid (hT6.old Bq_w3.out (fun e => by cases e))
 have z_w4 : w.heap.size ≤ w4.heap.size := E_w4.out.size
 clear hS6 hT6 hat6 hat0 q1 q2
 clear c_s c_x c_r c_t c_q c_o
 clear n_s_o n_x_o n_r_o n_t_o n_q_o
 have c_s := opn6 Bs_w4;have c_x := opn14 Bx_w4;have c_r := opn6 Br_w4;have c_t := opn14 Bt_w4;have c_q := opn7 Bq_w4
 obtain ⟨f0, hf0, hr0⟩ := sel_start G1.out
 have HF0 := Lib.hid hf0
 have HR0 := Lib.hid hr0
 have HI1 := I1
 clear hf0 hr0 I1
 generalize X.then (query c.E) = Y0 at HI1 HF0 HR0
 go_upto_block 0 with fail
 go_cut [] from 6 to 125 (fun wc => ∃ (Y : Xs) (ac kc pc : Nat) (qs : List Qu) (gq : Option Nat) (cq : Nat) (os : List Str) (go : Option Nat) (co : Nat), SI w c wc Y ac kc pc #[str [83, 69, 76, 69, 67, 84], str [], .slice none 0 0, .slice none 0 0, .slice none 0 0, .slice none 0 0, .int .i64 (0 : Int), .int .i64 (0 : Int), .slice none 0 0, slv gq qs.length cq, slv go os.length co, .slice none 0 0, .slice none 0 0, .slice none 0 0] ∧ VLA QuK 49 wc (fun b => w.heap.size + 1 + 1 + 1 < b) (slv gq qs.length cq) qs ∧ VLA StrK 9 wc (fun b => w.heap.size + 1 + 1 + 1 < b) (slv go os.length co) os ∧ X.run (selects c.E) = Y.run (selTq c.E os qs))
 case first =>
  go_wp2
  refine wp_nm (fun w6 hE => ?_)
  have E_w6 := aE E_w4 hE;have Bs_w6 := bk6 Bs_w4 hE;have Bx_w6 := bk14 Bx_w4 hE;have Br_w6 := bk6 Br_w4 hE;have Bt_w6 := bk14 Bt_w4 hE;have Bq_w6 := bk7 Bq_w4 hE;have T_w6 : Hid (Touch (fun b => b = w.heap.size ∨ b = w.heap.size + 1 ∨ b = w.heap.size + 1 + 1 ∨ b = w.heap.size + 1 + 1 + 1 ∨ b = w2.heap.size) w4 w6) := aT hE
  clear hE c_s c_x c_r c_t c_q Bs_w4 Bx_w4 Br_w4 Bt_w4 Bq_w4
  have z_w6 := E_w6.out.size;have c_s := opn6 Bs_w6;have c_x := opn14 Bx_w6;have c_r := opn6 Br_w6;have c_t := opn14 Bt_w6;have c_q := opn7 Bq_w6
  have HSQ6 := Lib.hid (HSQ4.out.touch T_w6.out (fun b hb e => by cases hb; have := Q2.out; omega))
  have HLQ6 := Lib.hid (LsC.keep (A' := fun b => (w.heap.size + 1 + 1 + 1 < b ∧ b ≠ w2.heap.size ∧ (none : Option Nat) ≠ some b) ∧ some gq0 ≠ some b) QuK (fun b hb ha => ⟨T_w6.out.block b hb (fun e => by have := ha.1; omega), ha⟩) _ _ Q1.out)
  have HLEN : Hid (1 + mu Y0 ≤ 5000) := Lib.hid (by have := mu_le HI1.out; omega)
  have HI0 : Hid (LoQ w c w2.heap.size (X.run (selects c.E)) (mu Y0) w6 Y0 f0 a1 k1 p1 [q] (some gq0) cq0 ([] ++ [.bool q.coalesce, .bool q.all, .bool q.count, str q.sum, slv gi q.items.length ci, slv gt q.tables.length ct, slv gc q.cond.length cc]) [] none 0 [] (.bool q.coalesce) (.bool q.all) (.bool q.count) (str q.sum) (slv gi q.items.length ci) (slv gt q.tables.length ct) (slv gc q.cond.length cc)) :=
   Lib.hid ⟨rfl, ⟨E_w6.out, Bs_w6.out, Bx_w6.out, Br_w6.out, Bt_w6.out, HI1.out⟩, Bq_w6.out, HSQ6.out, (fun b hb => by cases hb; exact Q2.out), HLQ6.out, Sl.nil _ _ _, (fun b hb => by cases hb), rfl, HF0.out, HR0.out, HLEN.out, by simp⟩
  clear HSQ6 HLQ6 HLEN Q1 HSQ4
  go_loopg [] (mu Y0) (fun gk wr => ∃ (Y : Xs) (f ac kc pc : Nat) (qs : List Qu) (gq : Option Nat) (cq : Nat) (fq : List Value) (os : List Str) (go : Option Nat) (co : Nat) (fo : List Value) (u0 u1 u2 u3 u4 u5 u6 : Value), LoQ w c w2.heap.size (X.run (selects c.E)) gk wr Y f ac kc pc qs gq cq fq os go co fo u0 u1 u2 u3 u4 u5 u6)
  case atStart => exact ⟨Y0, f0, a1, k1, p1, [q], some gq0, cq0, _, [], none, 0, [], _, _, _, _, _, _, _, HI0.out⟩
  case round =>
   clear HI0
   obtain ⟨Y, f, ac, kc, pc, qs, gq, cq, fq, os, go, co, fo, u0, u1, u2, u3, u4, u5, u6, hI⟩ := hrel
   have HI := Lib.hid hI
   clear hI
   have E_WW := Lib.hid HI.out.si.ext
   have Bs_WW := Lib.hid HI.out.si.bs
   have Bx_WW := Lib.hid HI.out.si.bx
   have Br_WW := Lib.hid HI.out.si.br
   have Bt_WW := Lib.hid HI.out.si.bt
   have Bq_WW := Lib.hid HI.out.bq
   have z_WW : w.heap.size ≤ wr.heap.size := HI.out.si.ext.size
   have hler : ac ≤ c.all.length := HI.out.si.inn.1
   clear c_s c_x c_r c_t c_q
   have c_s := opn6 Bs_WW;have c_x := opn14 Bx_WW;have c_r := opn6 Br_WW;have c_t := opn14 Bt_WW;have c_q := opn7 Bq_WW
   have hqr : w2.heap.size < wr.heap.size := by omega
   go_wp2_with fail
   refine (ris_ok c Y ac 0 kc pc [85, 78, 73, 79, 78] _ (H.out.ext (xE E_WW)) HI.out.si.inn).mono ?_
   rintro e v4 ⟨rfl, hE⟩
   have E_v4 := aE E_WW hE;have Bs_v4 := bk6 Bs_WW hE;have Bx_v4 := bk14 Bx_WW hE;have Br_v4 := bk6 Br_WW hE;have Bt_v4 := bk14 Bt_WW hE;have Bq_v4 := bk7 Bq_WW hE;have T_v4 : Hid (Touch (fun b => b = w.heap.size ∨ b = w.heap.size + 1 ∨ b = w.heap.size + 1 + 1 ∨ b = w.heap.size + 1 + 1 + 1 ∨ b = w2.heap.size) wr v4) := aT hE
   clear hE c_s c_x c_r c_t c_q Bs_WW Bx_WW Br_WW Bt_WW Bq_WW
   have z_v4 := E_v4.out.size;have c_s := opn6 Bs_v4;have c_x := opn14 Bx_v4;have c_r := opn6 Br_v4;have c_t := opn14 Bt_v4;have c_q := opn7 Bq_v4
   have HSQ4' := Lib.hid (HI.out.slq.touch T_v4.out (fun b hb e => by have := HI.out.ownq b hb; omega))
   have HSO4' := Lib.hid (HI.out.slo.touch T_v4.out (fun b hb e => by have := HI.out.owno b hb; omega))
   have HLQ4' := Lib.hid (LsC.keep (A' := fun b => (w.heap.size + 1 + 1 + 1 < b ∧ b ≠ w2.heap.size ∧ go ≠ some b) ∧ gq ≠ some b) QuK (fun b hb ha => ⟨T_v4.out.block b hb (fun e => by have := ha.1; omega), ha⟩) _ _ HI.out.lsq)
   cases h1 : isX [85, 78, 73, 79, 78] Y with
   | true =>
     have H1 := Lib.hid h1
     clear h1
     have HSQP := HSQ4'
     have HSOP := HSO4'
     have HLQP := HLQ4'
     have hlt : ac < c.all.length := (HI.out.si.inn.step H1.out).1
     obtain ⟨tk, tn, tp, htok⟩ : ∃ tk tn tp, tokN Y = (tk, [85, 78, 73, 79, 78], tn, tp) := by
       obtain ⟨q, qs, rfl, hq⟩ := isX_ok H1.out
       exact ⟨q.1, q.2.2.1, q.2.2.2, by show q = _; rw [← isT_txt' hq]; rfl⟩
     have HTOK := Lib.hid htok
     clear htok
     have hlx : qs.length ≤ 5000 := by have := HI.out.len; omega
     have hlo : os.length ≤ 5000 := by have := HI.out.leo; omega
     go_wp2
     refine region_calm [.p 0, .l 1, .l 2, .h 3 true, .p 4, .h 5 true, .h 6 false, .p 7, .h 8 false] f_mixed (by kernel_rfl) (by kernel_rfl) ?_
     repeat ((first | refine plan_p rfl (fun K hK => ?_) | refine plan_l rfl (fun K hK => ?_)); go_simp; refine hK _ ?_; clear hK K)
     refine plan_ct rfl rfl (fun K _ hK => ?_)
     go_wp2_with fail
     refine (rnext_ok c Y ac 0 kc pc _ (H.out.ext (xE E_v4)) HI.out.si.inn).mono ?_
     rintro e wB ⟨rfl, hE⟩
     have HEB := Lib.hid hE
     have E_wB := aE E_v4 hE;have Bs_wB := bk6 Bs_v4 hE;have Bx_wB := bk14 Bx_v4 hE;have Br_wB := bk6 Br_v4 hE;have Bt_wB := bk14 Bt_v4 hE;have Bq_wB := bk7 Bq_v4 hE;have T_wB : Hid (Touch (fun b => b = w.heap.size ∨ b = w.heap.size + 1 ∨ b = w.heap.size + 1 + 1 ∨ b = w.heap.size + 1 + 1 + 1 ∨ b = w2.heap.size) v4 wB) := aT hE
     clear hE c_s c_x c_r c_t c_q Bs_v4 Bx_v4 Br_v4 Bt_v4 Bq_v4
     have z_wB := E_wB.out.size;have c_s := opn6 Bs_wB;have c_x := opn14 Bx_wB;have c_r := opn6 Br_wB;have c_t := opn14 Bt_wB;have c_q := opn7 Bq_wB
     rw [HTOK.out]
     unfold tokV
     have zf : ∀ u : World, (Instr.field 120 (.agg #[.int .i64 (tk : Int), str [85, 78, 73, 79, 78], .int .i64 (tn : Int), .int .i64 (tp : Int)]) 1).run Tryz.prog u = .ok (str [85, 78, 73, 79, 78]) u := fun _ => by kernel_rfl
     go_wp2
     refine hK _ _ (HEB.out) ?_; clear hK K
     repeat ((first | refine plan_p rfl (fun K hK => ?_) | refine plan_l rfl (fun K hK => ?_)); go_simp; refine hK _ ?_; clear hK K)
     refine plan_ct rfl rfl (fun K _ hK => ?_)
     go_wp2
     refine hK _ _ ((Ext.refl _).alloc _) ?_; clear hK K
     have hqB : w2.heap.size < wB.heap.size := by omega
     refine plan_c rfl rfl (fun K _ hK => ?_)
     refine list_nm (fun w7 hE => ?_)
     have n_s_o := ne2 (show w.heap.size ≠ wB.heap.size by omega);have n_x_o := ne2 (show w.heap.size + 1 ≠ wB.heap.size by omega);have n_r_o := ne2 (show w.heap.size + 1 + 1 ≠ wB.heap.size by omega);have n_t_o := ne2 (show w.heap.size + 1 + 1 + 1 ≠ wB.heap.size by omega);have n_q_o := ne2 (show w2.heap.size ≠ wB.heap.size by omega)
     have E_w7 := aE E_wB hE;have Bs_w7 := bk6 Bs_wB hE;have Bx_w7 := bk14 Bx_wB hE;have Br_w7 := bk6 Br_wB hE;have Bt_w7 := bk14 Bt_wB hE;have Bq_w7 := bk7 Bq_wB hE;have Bo_w7 := nk1 (wB.heap.size) hE;have T_w7 : Hid (Touch (fun b => b = w.heap.size ∨ b = w.heap.size + 1 ∨ b = w.heap.size + 1 + 1 ∨ b = w.heap.size + 1 + 1 + 1 ∨ b = w2.heap.size) wB w7) := aT hE
     clear hE c_s c_x c_r c_t c_q Bs_wB Bx_wB Br_wB Bt_wB Bq_wB
     have z_w7 := E_w7.out.size;have c_s := opn6 Bs_w7;have c_x := opn14 Bx_w7;have c_r := opn6 Br_w7;have c_t := opn14 Bt_w7;have c_q := opn7 Bq_w7;have c_o := opn1 Bo_w7
     have HSQB := Lib.hid (HSQP.out.touch T_wB.out (fun b hb e => by have := HI.out.ownq b hb; omega))
     have HSQ7 := Lib.hid (HSQB.out.touch T_w7.out (fun b hb e => by have := HI.out.ownq b hb; omega))
     have HSOB := Lib.hid (HSOP.out.touch T_wB.out (fun b hb e => by have := HI.out.owno b hb; omega))
     have HSO7 := Lib.hid (HSOB.out.touch T_w7.out (fun b hb e => by have := HI.out.owno b hb; omega))
     have HLQB := Lib.hid (LsC.keep (A' := fun b => ((w.heap.size + 1 + 1 + 1 < b ∧ b ≠ w2.heap.size ∧ go ≠ some b) ∧ gq ≠ some b) ∧ b < wB.heap.size) QuK (fun b hb ha => ⟨T_wB.out.block b hb (fun e => by have := ha.1; omega), ha, by have := T_wB.out.size; omega⟩) _ _ HLQP.out)
     have HLQ7 := Lib.hid (LsC.keep QuK (fun b hb ha => ⟨T_w7.out.block b hb (fun e => by have := ha.1; omega), ha⟩) _ _ HLQB.out)
     have HGO : Hid (∀ b, go = some b → b < wB.heap.size) := Lib.hid fun b hb => by
       have h1 := HSOB.out
       rw [hb] at h1
       exact h1.block_lt
     have HGQ : Hid (∀ b, gq = some b → b < wB.heap.size) := Lib.hid fun b hb => by
       have h1 := HSQB.out
       rw [hb] at h1
       exact h1.block_lt
     refine app_lit ei_str rfl (.tmp 28) (.tmp 32) rfl (g := go) (n := os.length) (cap := co) (b := wB.heap.size) (by rfl) HSO7.out (by rfl) rfl (news := [str [85, 78, 73, 79, 78]]) Bo_w7.out (StrK.one (w := w7) (A := fun _ => True) (x := [85, 78, 73, 79, 78]) rfl) (by omega) (by omega) ?_
     intro g5 cap5 w8 hS5 hT5 hat5
     have hg5 : w.heap.size + 1 + 1 + 1 < g5 ∧ g5 ≠ w2.heap.size ∧ gq ≠ some g5 := by
       rcases hat5 with h | h
       · exact HI.out.owno _ h
       · refine ⟨by omega, by omega, fun e => ?_⟩
         have := HGQ.out _ e
         have := T_w7.out.size
         omega
     have HG5 := Lib.hid hg5
     have hg5l : g5 < w8.heap.size := hS5.block_lt
     have hB8 : wB.heap.size ≤ w8.heap.size := by have := hT5.size; have := T_w7.out.size; omega
     have HSO8 := Lib.hid hS5
     have HSQ8 := Lib.hid (HSQ7.out.touch hT5 (fun b hb e => (HI.out.ownq b hb).2.2 e))
     have HLQ8 := Lib.hid (LsC.keep (A' := fun b => (w.heap.size + 1 + 1 + 1 < b ∧ b ≠ w2.heap.size ∧ some g5 ≠ some b) ∧ gq ≠ some b) QuK (fun b hb ha => ⟨hT5.block b hb (fun e => ha.1.1.2.2 e), ⟨ha.1.1.1, ha.1.1.2.1, fun e => by
         have e := Option.some.inj e
         rcases hat5 with h | h
         · exact ha.1.1.2.2 (by rw [h, e])
         · have := ha.2; have := T_w7.out.size; omega⟩, ha.1.2⟩) _ _ HLQ7.out)
     have HLO8 : Hid (LsC StrK w8 (fun _ => True) (fo ++ [str [85, 78, 73, 79, 78]]) (os ++ [[85, 78, 73, 79, 78]])) := Lib.hid (LsC.append StrK (ls_strQ HI.out.lso) (LsC.one StrK rfl))
     have E_w8 := Lib.hid (Touch.fresh' (a := w) E_w7.out hT5 (fun i e => by have := HI.out.owno i e; omega))
     have Bs_w8 := Lib.hid (hT5.old Bs_w7.out (fun e => by have := HI.out.owno _ e; omega))
     have Bx_w8 := Lib.hid (hT5.old Bx_w7.out (fun e => by have := HI.out.owno _ e; omega))
     have Br_w8 := Lib.hid (hT5.old Br_w7.out (fun e => by have := HI.out.owno _ e; omega))
     have Bt_w8 := Lib.hid (hT5.old Bt_w7.out (fun e => by have := HI.out.owno _ e; omega))
     have Bq_w8 := Lib.hid (hT5.old Bq_w7.out (fun e => by have := HI.out.owno _ e; omega))
     have z_w8 : w.heap.size ≤ w8.heap.size := E_w8.out.size
     clear hS5 hT5 hat5 hg5
     clear c_s c_x c_r c_t c_q c_o
     clear n_s_o n_x_o n_r_o n_t_o n_q_o
     have c_s := opn6 Bs_w8;have c_x := opn14 Bx_w8;have c_r := opn6 Br_w8;have c_t := opn14 Bt_w8;have c_q := opn7 Bq_w8
     go_wp2_with fail
     repeat ((first | refine plan_p rfl (fun K hK => ?_) | refine plan_l rfl (fun K hK => ?_)); go_simp; refine hK _ ?_; clear hK K)
     refine plan_c rfl rfl (fun K _ hK => ?_)
     go_wp2_with fail
     refine plan_done ?_
     go_wp2_with fail
     refine (rquery_ok c _ (ac + 1) kc pc _ (H.out.ext (xE E_w8)) (HI.out.si.inn.step H1.out).2.1).mono ?_
     rintro e w9 ⟨q', vi', vt', vc', a6, k6, p6, rfl, h_I6, h_G6, h_Q6, hE⟩
     have E_w9 := aE E_w8 hE;have Bs_w9 := bk6 Bs_w8 hE;have Bx_w9 := bk14 Bx_w8 hE;have Br_w9 := bk6 Br_w8 hE;have Bt_w9 := bk14 Bt_w8 hE;have Bq_w9 := bk7 Bq_w8 hE;have T_w9 : Hid (Touch (fun b => b = w.heap.size ∨ b = w.heap.size + 1 ∨ b = w.heap.size + 1 + 1 ∨ b = w.heap.size + 1 + 1 + 1 ∨ b = w2.heap.size) w8 w9) := aT hE
     clear hE c_s c_x c_r c_t c_q Bs_w8 Bx_w8 Br_w8 Bt_w8 Bq_w8
     have z_w9 := E_w9.out.size;have c_s := opn6 Bs_w9;have c_x := opn14 Bx_w9;have c_r := opn6 Br_w9;have c_t := opn14 Bt_w9;have c_q := opn7 Bq_w9
     (try unfold sv)
     have I6 := Lib.hid h_I6; clear h_I6
     have G6 := Lib.hid h_G6; clear h_G6
     have Q6 := Lib.hid h_Q6; clear h_Q6
     have hle6 := I6.out.1
     have HQC : Hid (QuC w9 (fun b => w8.heap.size ≤ b) [.bool q'.coalesce, .bool q'.all, .bool q'.count, str q'.sum, vi', vt', vc'] q') := Lib.hid (QuK.keep (fun b hb ha => ⟨rfl, by simp [size_set] at ha; omega⟩) _ _ Q6.out)
     obtain ⟨vi2, vt2, vc2, e0, hv1, hv2, hv3⟩ := HQC.out
     cases e0
     obtain ⟨gi', ci', rfl⟩ := hv1.slice
     obtain ⟨gt', ct', rfl⟩ := hv2.slice
     obtain ⟨gc', cc', rfl⟩ := hv3.slice
     clear hv1 hv2 hv3 Q6
     have HSQ9 := Lib.hid (HSQ8.out.touch T_w9.out (fun b hb e => by have := HI.out.ownq b hb; omega))
     have HLQ9 := Lib.hid (LsC.keep (A' := fun b => (w.heap.size + 1 + 1 + 1 < b ∧ b ≠ w2.heap.size ∧ some g5 ≠ some b) ∧ gq ≠ some b) QuK (fun b hb ha => ⟨T_w9.out.block b hb (fun e => by have := ha.1; omega), ha⟩) _ _ HLQ8.out)
     have HSO9 := Lib.hid (HSO8.out.touch T_w9.out (fun b hb e => by cases hb; have := HG5.out; omega))
     go_wp2_with (at_builtin; refine (fun (h : True → _) => h trivial) ?_)
     intro _
     refine list_nm (fun wA hE => ?_)
     have n_s_o := ne2 (show w.heap.size ≠ w9.heap.size by omega);have n_x_o := ne2 (show w.heap.size + 1 ≠ w9.heap.size by omega);have n_r_o := ne2 (show w.heap.size + 1 + 1 ≠ w9.heap.size by omega);have n_t_o := ne2 (show w.heap.size + 1 + 1 + 1 ≠ w9.heap.size by omega);have n_q_o := ne2 (show w2.heap.size ≠ w9.heap.size by omega)
     have E_wA := aE E_w9 hE;have Bs_wA := bk6 Bs_w9 hE;have Bx_wA := bk14 Bx_w9 hE;have Br_wA := bk6 Br_w9 hE;have Bt_wA := bk14 Bt_w9 hE;have Bq_wA := bk7 Bq_w9 hE;have Bo_wA := nk7 (w9.heap.size) hE;have T_wA : Hid (Touch (fun b => b = w.heap.size ∨ b = w.heap.size + 1 ∨ b = w.heap.size + 1 + 1 ∨ b = w.heap.size + 1 + 1 + 1 ∨ b = w2.heap.size) w9 wA) := aT hE
     clear hE c_s c_x c_r c_t c_q Bs_w9 Bx_w9 Br_w9 Bt_w9 Bq_w9
     have z_wA := E_wA.out.size;have c_s := opn6 Bs_wA;have c_x := opn14 Bx_wA;have c_r := opn6 Br_wA;have c_t := opn14 Bt_wA;have c_q := opn7 Bq_wA;have c_o := opn7 Bo_wA
     have hq9 : w2.heap.size < w8.heap.size := by omega
     have HSQA := Lib.hid (HSQ9.out.touch T_wA.out (fun b hb e => by have := HI.out.ownq b hb; have := HGQ.out b hb; omega))
     have HLQA := Lib.hid (LsC.keep (A' := fun b => (w.heap.size + 1 + 1 + 1 < b ∧ b ≠ w2.heap.size ∧ some g5 ≠ some b) ∧ gq ≠ some b) QuK (fun b hb ha => ⟨T_wA.out.block b hb (fun e => by have := ha.1; omega), ha⟩) _ _ HLQ9.out)
     have HSOA := Lib.hid (HSO9.out.touch T_wA.out (fun b hb e => by cases hb; have := HG5.out; omega))
     have CA : Hid (QuK.C wA (fun b => (w.heap.size + 1 + 1 + 1 < b ∧ b ≠ w2.heap.size ∧ some g5 ≠ some b) ∧ gq ≠ some b) [.bool q'.coalesce, .bool q'.all, .bool q'.count, str q'.sum, slv gi' q'.items.length ci', slv gt' q'.tables.length ct', slv gc' q'.cond.length cc'] q') := Lib.hid (QuK.keep (fun b hb ha => ⟨T_wA.out.block b hb (fun e => by omega), ⟨by omega, by omega, fun e => by have := Option.some.inj e; omega⟩, fun e => by have := HGQ.out b e; have := E_w8.out.size; omega⟩) _ _ HQC.out)
     refine app_lit ei_qu rfl (.tmp 45) (.tmp 47) rfl (g := gq) (n := qs.length) (cap := cq) (b := w9.heap.size) (by rfl) HSQA.out (by rfl) rfl (news := [.bool q'.coalesce, .bool q'.all, .bool q'.count, str q'.sum, slv gi' q'.items.length ci', slv gt' q'.tables.length ct', slv gc' q'.cond.length cc']) Bo_wA.out (QuK.one CA.out) (by omega) (by omega) ?_
     intro g6 cap6 wC hS6 hT6 hat6
     have HSQC := Lib.hid hS6
     have h9A : w9.heap.size ≤ wA.heap.size := T_wA.out.size
     have h89 : w8.heap.size ≤ w9.heap.size := T_w9.out.size
     obtain ⟨p1', p2'⟩ := ls_put (K := QuK) (A0 := fun b => w.heap.size + 1 + 1 + 1 < b ∧ b ≠ w2.heap.size ∧ some g5 ≠ some b) (x := q') (cs := [.bool q'.coalesce, .bool q'.all, .bool q'.count, str q'.sum, slv gi' q'.items.length ci', slv gt' q'.tables.length ct', slv gc' q'.cond.length cc']) HLQA.out CA.out hT6 hat6 (fun b hb => ⟨(HI.out.ownq b hb).1, (HI.out.ownq b hb).2.1, fun e => HG5.out.2.2 (by rw [hb, e])⟩) ⟨by omega, by omega, fun e => by have := Option.some.inj e; omega⟩
     have P1 := Lib.hid p1'
     have P2 := Lib.hid p2'
     have HSOC := Lib.hid (HSOA.out.touch hT6 (fun b hb e => by cases hb; exact HG5.out.2.2 e))
     have E_wC := Lib.hid (Touch.fresh' (a := w) E_wA.out hT6 (fun i e => by have := HI.out.ownq i e; omega))
     have Bs_wC := Lib.hid (hT6.old Bs_wA.out (fun e => by have := HI.out.ownq _ e; omega))
     have Bx_wC := Lib.hid (hT6.old Bx_wA.out (fun e => by have := HI.out.ownq _ e; omega))
     have Br_wC := Lib.hid (hT6.old Br_wA.out (fun e => by have := HI.out.ownq _ e; omega))
     have Bt_wC := Lib.hid (hT6.old Bt_wA.out (fun e => by have := HI.out.ownq _ e; omega))
     have Bq_wC := Lib.hid (hT6.old Bq_wA.out (fun e => by have := HI.out.ownq _ e; omega))
     have z_wC : w.heap.size ≤ wC.heap.size := E_wC.out.size
     clear hS6 hT6 hat6 p1' p2'
     clear c_s c_x c_r c_t c_q c_o
     clear n_s_o n_x_o n_r_o n_t_o n_q_o
     have c_s := opn6 Bs_wC;have c_x := opn14 Bx_wC;have c_r := opn6 Br_wC;have c_t := opn14 Bt_wC;have c_q := opn7 Bq_wC
     obtain ⟨f1, hf1, hfew⟩ := HI.out.few.step H1.out (Suf.query c.E)
     have HF1 := Lib.hid hf1
     have HFEW := Lib.hid hfew
     clear hf1 hfew
     have HST := Lib.hid (mu_step H1.out (Suf.query c.E))
     go_wp2
     go_roundg (mu ((behind Y).then (query c.E)))
     case measure => rw [HI.out.hk]; exact HST.out
     case rel =>
       have hlq : (qs ++ [q']).length = qs.length + 1 := by simp
       have hlo' : (os ++ [[85, 78, 73, 79, 78]]).length = os.length + 1 := by simp
       refine ⟨(behind Y).then (query c.E), f1, a6, k6, p6, qs ++ [q'], some g6, cap6, fq ++ [.bool q'.coalesce, .bool q'.all, .bool q'.count, str q'.sum, slv gi' q'.items.length ci', slv gt' q'.tables.length ct', slv gc' q'.cond.length cc'], os ++ [[85, 78, 73, 79, 78]], some g5, cap5, fo ++ [str [85, 78, 73, 79, 78]], .bool q'.coalesce, .bool q'.all, .bool q'.count, str q'.sum, slv gi' q'.items.length ci', slv gt' q'.tables.length ct', slv gc' q'.cond.length cc', ⟨rfl, ⟨(xE E_wC), (xb6 Bs_wC), (xb14 Bx_wC), (xb6 Br_wC), ?_, I6.out⟩, (xb7 Bq_wC), ?_, ?_, ?_, ?_, ?_, ls_strQ HLO8.out, HFEW.out, ?_, ?_, ?_⟩⟩
       · rw [hlq, hlo']
         show _ = some (Obj.cells #[str [83, 69, 76, 69, 67, 84], str [], .slice none 0 0, .slice none 0 0, .slice none 0 0, .slice none 0 0, .int .i64 (0 : Int), .int .i64 (0 : Int), .slice none 0 0, slv (some g6) (qs.length + 1) cap6, slv (some g5) (os.length + 1) cap5, .slice none 0 0, .slice none 0 0, .slice none 0 0] 33 (0, 0))
         exact (xb14 Bt_wC)
       · rw [hlq]; exact HSQC.out.touch (S := (fun b => b = w.heap.size ∨ b = w.heap.size + 1 ∨ b = w.heap.size + 1 + 1 ∨ b = w.heap.size + 1 + 1 + 1 ∨ b = w2.heap.size)) xT (fun b hb e => by cases hb; have := P2.out; omega)
       · intro b hb; cases hb; exact P2.out
       · exact LsC.keep QuK (fun b hb ha => ⟨Touch.block (S := (fun b => b = w.heap.size ∨ b = w.heap.size + 1 ∨ b = w.heap.size + 1 + 1 ∨ b = w.heap.size + 1 + 1 + 1 ∨ b = w2.heap.size)) xT b hb (fun e => by have := ha.1; omega), ha⟩) _ _ P1.out
       · rw [hlo']; exact HSOC.out.touch (S := (fun b => b = w.heap.size ∨ b = w.heap.size + 1 ∨ b = w.heap.size + 1 + 1 ∨ b = w.heap.size + 1 + 1 + 1 ∨ b = w2.heap.size)) xT (fun b hb e => by cases hb; have := HG5.out; omega)
       · intro b hb; cases hb; exact ⟨HG5.out.1, HG5.out.2.1, fun e => P2.out.2.2 e.symm⟩
       · rw [HI.out.run, HF1.out, sel_more (s := [85, 78, 73, 79, 78]) (by simp) H1.out G6.out]
       · have h1 := HI.out.len; have h2 := HST.out; rw [hlq]; omega
       · have h1 := HI.out.leo; rw [hlq, hlo']; omega
   | false =>
     have HA := Lib.hid h1
     clear h1
     go_wp2_with fail
     refine (ris_ok c Y ac 0 kc pc [69, 88, 67, 69, 80, 84] _ (H.out.ext (xE E_v4)) HI.out.si.inn).mono ?_
     rintro e v5 ⟨rfl, hE⟩
     have E_v5 := aE E_v4 hE;have Bs_v5 := bk6 Bs_v4 hE;have Bx_v5 := bk14 Bx_v4 hE;have Br_v5 := bk6 Br_v4 hE;have Bt_v5 := bk14 Bt_v4 hE;have Bq_v5 := bk7 Bq_v4 hE;have T_v5 : Hid (Touch (fun b => b = w.heap.size ∨ b = w.heap.size + 1 ∨ b = w.heap.size + 1 + 1 ∨ b = w.heap.size + 1 + 1 + 1 ∨ b = w2.heap.size) v4 v5) := aT hE
     clear hE c_s c_x c_r c_t c_q Bs_v4 Bx_v4 Br_v4 Bt_v4 Bq_v4
     have z_v5 := E_v5.out.size;have c_s := opn6 Bs_v5;have c_x := opn14 Bx_v5;have c_r := opn6 Br_v5;have c_t := opn14 Bt_v5;have c_q := opn7 Bq_v5
     have HSQP := Lib.hid (HSQ4'.out.touch T_v5.out (fun b hb e => by have := HI.out.ownq b hb; omega))
     have HSOP := Lib.hid (HSO4'.out.touch T_v5.out (fun b hb e => by have := HI.out.owno b hb; omega))
     have HLQP := Lib.hid (LsC.keep (A' := fun b => (w.heap.size + 1 + 1 + 1 < b ∧ b ≠ w2.heap.size ∧ go ≠ some b) ∧ gq ≠ some b) QuK (fun b hb ha => ⟨T_v5.out.block b hb (fun e => by have := ha.1; omega), ha⟩) _ _ HLQ4'.out)
     cases h1 : isX [69, 88, 67, 69, 80, 84] Y with
     | true =>
       have H1 := Lib.hid h1
       clear h1
       have hlt : ac < c.all.length := (HI.out.si.inn.step H1.out).1
       obtain ⟨tk, tn, tp, htok⟩ : ∃ tk tn tp, tokN Y = (tk, [69, 88, 67, 69, 80, 84], tn, tp) := by
         obtain ⟨q, qs, rfl, hq⟩ := isX_ok H1.out
         exact ⟨q.1, q.2.2.1, q.2.2.2, by show q = _; rw [← isT_txt' hq]; rfl⟩
       have HTOK := Lib.hid htok
       clear htok
       have hlx : qs.length ≤ 5000 := by have := HI.out.len; omega
       have hlo : os.length ≤ 5000 := by have := HI.out.leo; omega
       go_wp2
       refine region_calm [.p 0, .l 1, .l 2, .h 3 true, .p 4, .h 5 true, .h 6 false, .p 7, .h 8 false] f_mixed (by kernel_rfl) (by kernel_rfl) ?_
       repeat ((first | refine plan_p rfl (fun K hK => ?_) | refine plan_l rfl (fun K hK => ?_)); go_simp; refine hK _ ?_; clear hK K)
       refine plan_ct rfl rfl (fun K _ hK => ?_)
       go_wp2_with fail
       refine (rnext_ok c Y ac 0 kc pc _ (H.out.ext (xE E_v5)) HI.out.si.inn).mono ?_
       rintro e wB ⟨rfl, hE⟩
       have HEB := Lib.hid hE
       have E_wB := aE E_v5 hE;have Bs_wB := bk6 Bs_v5 hE;have Bx_wB := bk14 Bx_v5 hE;have Br_wB := bk6 Br_v5 hE;have Bt_wB := bk14 Bt_v5 hE;have Bq_wB := bk7 Bq_v5 hE;have T_wB : Hid (Touch (fun b => b = w.heap.size ∨ b = w.heap.size + 1 ∨ b = w.heap.size + 1 + 1 ∨ b = w.heap.size + 1 + 1 + 1 ∨ b = w2.heap.size) v5 wB) := aT hE
       clear hE c_s c_x c_r c_t c_q Bs_v5 Bx_v5 Br_v5 Bt_v5 Bq_v5
       have z_wB := E_wB.out.size;have c_s := opn6 Bs_wB;have c_x := opn14 Bx_wB;have c_r := opn6 Br_wB;have c_t := opn14 Bt_wB;have c_q := opn7 Bq_wB
       rw [HTOK.out]
       unfold tokV
       have zf : ∀ u : World, (Instr.field 120 (.agg #[.int .i64 (tk : Int), str [69, 88, 67, 69, 80, 84], .int .i64 (tn : Int), .int .i64 (tp : Int)]) 1).run Tryz.prog u = .ok (str [69, 88, 67, 69, 80, 84]) u := fun _ => by kernel_rfl
       go_wp2
       refine hK _ _ (HEB.out) ?_; clear hK K
       repeat ((first | refine plan_p rfl (fun K hK => ?_) | refine plan_l rfl (fun K hK => ?_)); go_simp; refine hK _ ?_; clear hK K)
       refine plan_ct rfl rfl (fun K _ hK => ?_)
       go_wp2
       refine hK _ _ ((Ext.refl _).alloc _) ?_; clear hK K
       have hqB : w2.heap.size < wB.heap.size := by omega
       refine plan_c rfl rfl (fun K _ hK => ?_)
       refine list_nm (fun w7 hE => ?_)
       have n_s_o := ne2 (show w.heap.size ≠ wB.heap.size by omega);have n_x_o := ne2 (show w.heap.size + 1 ≠ wB.heap.size by omega);have n_r_o := ne2 (show w.heap.size + 1 + 1 ≠ wB.heap.size by omega);have n_t_o := ne2 (show w.heap.size + 1 + 1 + 1 ≠ wB.heap.size by omega);have n_q_o := ne2 (show w2.heap.size ≠ wB.heap.size by omega)
       have E_w7 := aE E_wB hE;have Bs_w7 := bk6 Bs_wB hE;have Bx_w7 := bk14 Bx_wB hE;have Br_w7 := bk6 Br_wB hE;have Bt_w7 := bk14 Bt_wB hE;have Bq_w7 := bk7 Bq_wB hE;have Bo_w7 := nk1 (wB.heap.size) hE;have T_w7 : Hid (Touch (fun b => b = w.heap.size ∨ b = w.heap.size + 1 ∨ b = w.heap.size + 1 + 1 ∨ b = w.heap.size + 1 + 1 + 1 ∨ b = w2.heap.size) wB w7) := aT hE
       clear hE c_s c_x c_r c_t c_q Bs_wB Bx_wB Br_wB Bt_wB Bq_wB
       have z_w7 := E_w7.out.size;have c_s := opn6 Bs_w7;have c_x := opn14 Bx_w7;have c_r := opn6 Br_w7;have c_t := opn14 Bt_w7;have c_q := opn7 Bq_w7;have c_o := opn1 Bo_w7
       have HSQB := Lib.hid (HSQP.out.touch T_wB.out (fun b hb e => by have := HI.out.ownq b hb; omega))
       have HSQ7 := Lib.hid (HSQB.out.touch T_w7.out (fun b hb e => by have := HI.out.ownq b hb; omega))
       have HSOB := Lib.hid (HSOP.out.touch T_wB.out (fun b hb e => by have := HI.out.owno b hb; omega))
       have HSO7 := Lib.hid (HSOB.out.touch T_w7.out (fun b hb e => by have := HI.out.owno b hb; omega))
       have HLQB := Lib.hid (LsC.keep (A' := fun b => ((w.heap.size + 1 + 1 + 1 < b ∧ b ≠ w2.heap.size ∧ go ≠ some b) ∧ gq ≠ some b) ∧ b < wB.heap.size) QuK (fun b hb ha => ⟨T_wB.out.block b hb (fun e => by have := ha.1; omega), ha, by have := T_wB.out.size; omega⟩) _ _ HLQP.out)
       have HLQ7 := Lib.hid (LsC.keep QuK (fun b hb ha => ⟨T_w7.out.block b hb (fun e => by have := ha.1; omega), ha⟩) _ _ HLQB.out)
       have HGO : Hid (∀ b, go = some b → b < wB.heap.size) := Lib.hid fun b hb => by
         have h1 := HSOB.out
         rw [hb] at h1
         exact h1.block_lt
       have HGQ : Hid (∀ b, gq = some b → b < wB.heap.size) := Lib.hid fun b hb => by
         have h1 := HSQB.out
         rw [hb] at h1
         exact h1.block_lt
       refine app_lit ei_str rfl (.tmp 28) (.tmp 32) rfl (g := go) (n := os.length) (cap := co) (b := wB.heap.size) (by rfl) HSO7.out (by rfl) rfl (news := [str [69, 88, 67, 69, 80, 84]]) Bo_w7.out (StrK.one (w := w7) (A := fun _ => True) (x := [69, 88, 67, 69, 80, 84]) rfl) (by omega) (by omega) ?_
       intro g5 cap5 w8 hS5 hT5 hat5
       have hg5 : w.heap.size + 1 + 1 + 1 < g5 ∧ g5 ≠ w2.heap.size ∧ gq ≠ some g5 := by
         rcases hat5 with h | h
         · exact HI.out.owno _ h
         · refine ⟨by omega, by omega, fun e => ?_⟩
           have := HGQ.out _ e
           have := T_w7.out.size
           omega
       have HG5 := Lib.hid hg5
       have hg5l : g5 < w8.heap.size := hS5.block_lt
       have hB8 : wB.heap.size ≤ w8.heap.size := by have := hT5.size; have := T_w7.out.size; omega
       have HSO8 := Lib.hid hS5
       have HSQ8 := Lib.hid (HSQ7.out.touch hT5 (fun b hb e => (HI.out.ownq b hb).2.2 e))
       have HLQ8 := Lib.hid (LsC.keep (A' := fun b => (w.heap.size + 1 + 1 + 1 < b ∧ b ≠ w2.heap.size ∧ some g5 ≠ some b) ∧ gq ≠ some b) QuK (fun b hb ha => ⟨hT5.block b hb (fun e => ha.1.1.2.2 e), ⟨ha.1.1.1, ha.1.1.2.1, fun e => by
           have e := Option.some.inj e
           rcases hat5 with h | h
           · exact ha.1.1.2.2 (by rw [h, e])
           · have := ha.2; have := T_w7.out.size; omega⟩, ha.1.2⟩) _ _ HLQ7.out)
       have HLO8 : Hid (LsC StrK w8 (fun _ => True) (fo ++ [str [69, 88, 67, 69, 80, 84]]) (os ++ [[69, 88, 67, 69, 80, 84]])) := Lib.hid (LsC.append StrK (ls_strQ HI.out.lso) (LsC.one StrK rfl))
       have E_w8 := Lib.hid (Touch.fresh' (a := w) E_w7.out hT5 (fun i e => by have := HI.out.owno i e; omega))
       have Bs_w8 := Lib.hid (hT5.old Bs_w7.out (fun e => by have := HI.out.owno _ e; omega))
       have Bx_w8 := Lib.hid (hT5.old Bx_w7.out (fun e => by have := HI.out.owno _ e; omega))
       have Br_w8 := Lib.hid (hT5.old Br_w7.out (fun e => by have := HI.out.owno _ e; omega))
       have Bt_w8 := Lib.hid (hT5.old Bt_w7.out (fun e => by have := HI.out.owno _ e; omega))
       have Bq_w8 := Lib.hid (hT5.old Bq_w7.out (fun e => by have := HI.out.owno _ e; omega))
       have z_w8 : w.heap.size ≤ w8.heap.size := E_w8.out.size
       clear hS5 hT5 hat5 hg5
       clear c_s c_x c_r c_t c_q c_o
       clear n_s_o n_x_o n_r_o n_t_o n_q_o
       have c_s := opn6 Bs_w8;have c_x := opn14 Bx_w8;have c_r := opn6 Br_w8;have c_t := opn14 Bt_w8;have c_q := opn7 Bq_w8
       go_wp2_with fail
       repeat ((first | refine plan_p rfl (fun K hK => ?_) | refine plan_l rfl (fun K hK => ?_)); go_simp; refine hK _ ?_; clear hK K)
       refine plan_c rfl rfl (fun K _ hK => ?_)
       go_wp2_with fail
       refine plan_done ?_
       go_wp2_with fail
       refine (rquery_ok c _ (ac + 1) kc pc _ (H.out.ext (xE E_w8)) (HI.out.si.inn.step H1.out).2.1).mono ?_
       rintro e w9 ⟨q', vi', vt', vc', a6, k6, p6, rfl, h_I6, h_G6, h_Q6, hE⟩
       have E_w9 := aE E_w8 hE;have Bs_w9 := bk6 Bs_w8 hE;have Bx_w9 := bk14 Bx_w8 hE;have Br_w9 := bk6 Br_w8 hE;have Bt_w9 := bk14 Bt_w8 hE;have Bq_w9 := bk7 Bq_w8 hE;have T_w9 : Hid (Touch (fun b => b = w.heap.size ∨ b = w.heap.size + 1 ∨ b = w.heap.size + 1 + 1 ∨ b = w.heap.size + 1 + 1 + 1 ∨ b = w2.heap.size) w8 w9) := aT hE
       clear hE c_s c_x c_r c_t c_q Bs_w8 Bx_w8 Br_w8 Bt_w8 Bq_w8
       have z_w9 := E_w9.out.size;have c_s := opn6 Bs_w9;have c_x := opn14 Bx_w9;have c_r := opn6 Br_w9;have c_t := opn14 Bt_w9;have c_q := opn7 Bq_w9
       (try unfold sv)
       have I6 := Lib.hid h_I6; clear h_I6
       have G6 := Lib.hid h_G6; clear h_G6
       have Q6 := Lib.hid h_Q6; clear h_Q6
       have hle6 := I6.out.1
       have HQC : Hid (QuC w9 (fun b => w8.heap.size ≤ b) [.bool q'.coalesce, .bool q'.all, .bool q'.count, str q'.sum, vi', vt', vc'] q') := Lib.hid (QuK.keep (fun b hb ha => ⟨rfl, by simp [size_set] at ha; omega⟩) _ _ Q6.out)
       obtain ⟨vi2, vt2, vc2, e0, hv1, hv2, hv3⟩ := HQC.out
       cases e0
       obtain ⟨gi', ci', rfl⟩ := hv1.slice
       obtain ⟨gt', ct', rfl⟩ := hv2.slice
       obtain ⟨gc', cc', rfl⟩ := hv3.slice
       clear hv1 hv2 hv3 Q6
       have HSQ9 := Lib.hid (HSQ8.out.touch T_w9.out (fun b hb e => by have := HI.out.ownq b hb; omega))
       have HLQ9 := Lib.hid (LsC.keep (A' := fun b => (w.heap.size + 1 + 1 + 1 < b ∧ b ≠ w2.heap.size ∧ some g5 ≠ some b) ∧ gq ≠ some b) QuK (fun b hb ha => ⟨T_w9.out.block b hb (fun e => by have := ha.1; omega), ha⟩) _ _ HLQ8.out)
       have HSO9 := Lib.hid (HSO8.out.touch T_w9.out (fun b hb e => by cases hb; have := HG5.out; omega))
       go_wp2_with (at_builtin; refine (fun (h : True → _) => h trivial) ?_)
       intro _
       refine list_nm (fun wA hE => ?_)
       have n_s_o := ne2 (show w.heap.size ≠ w9.heap.size by omega);have n_x_o := ne2 (show w.heap.size + 1 ≠ w9.heap.size by omega);have n_r_o := ne2 (show w.heap.size + 1 + 1 ≠ w9.heap.size by omega);have n_t_o := ne2 (show w.heap.size + 1 + 1 + 1 ≠ w9.heap.size by omega);have n_q_o := ne2 (show w2.heap.size ≠ w9.heap.size by omega)
       have E_wA := aE E_w9 hE;have Bs_wA := bk6 Bs_w9 hE;have Bx_wA := bk14 Bx_w9 hE;have Br_wA := bk6 Br_w9 hE;have Bt_wA := bk14 Bt_w9 hE;have Bq_wA := bk7 Bq_w9 hE;have Bo_wA := nk7 (w9.heap.size) hE;have T_wA : Hid (Touch (fun b => b = w.heap.size ∨ b = w.heap.size + 1 ∨ b = w.heap.size + 1 + 1 ∨ b = w.heap.size + 1 + 1 + 1 ∨ b = w2.heap.size) w9 wA) := aT hE
       clear hE c_s c_x c_r c_t c_q Bs_w9 Bx_w9 Br_w9 Bt_w9 Bq_w9
       have z_wA := E_wA.out.size;have c_s := opn6 Bs_wA;have c_x := opn14 Bx_wA;have c_r := opn6 Br_wA;have c_t := opn14 Bt_wA;have c_q := opn7 Bq_wA;have c_o := opn7 Bo_wA
       have hq9 : w2.heap.size < w8.heap.size := by omega
       have HSQA := Lib.hid (HSQ9.out.touch T_wA.out (fun b hb e => by have := HI.out.ownq b hb; have := HGQ.out b hb; omega))
       have HLQA := Lib.hid (LsC.keep (A' := fun b => (w.heap.size + 1 + 1 + 1 < b ∧ b ≠ w2.heap.size ∧ some g5 ≠ some b) ∧ gq ≠ some b) QuK (fun b hb ha => ⟨T_wA.out.block b hb (fun e => by have := ha.1; omega), ha⟩) _ _ HLQ9.out)
       have HSOA := Lib.hid (HSO9.out.touch T_wA.out (fun b hb e => by cases hb; have := HG5.out; omega))
       have CA : Hid (QuK.C wA (fun b => (w.heap.size + 1 + 1 + 1 < b ∧ b ≠ w2.heap.size ∧ some g5 ≠ some b) ∧ gq ≠ some b) [.bool q'.coalesce, .bool q'.all, .bool q'.count, str q'.sum, slv gi' q'.items.length ci', slv gt' q'.tables.length ct', slv gc' q'.cond.length cc'] q') := Lib.hid (QuK.keep (fun b hb ha => ⟨T_wA.out.block b hb (fun e => by omega), ⟨by omega, by omega, fun e => by have := Option.some.inj e; omega⟩, fun e => by have := HGQ.out b e; have := E_w8.out.size; omega⟩) _ _ HQC.out)
       refine app_lit ei_qu rfl (.tmp 45) (.tmp 47) rfl (g := gq) (n := qs.length) (cap := cq) (b := w9.heap.size) (by rfl) HSQA.out (by rfl) rfl (news := [.bool q'.coalesce, .bool q'.all, .bool q'.count, str q'.sum, slv gi' q'.items.length ci', slv gt' q'.tables.length ct', slv gc' q'.cond.length cc']) Bo_wA.out (QuK.one CA.out) (by omega) (by omega) ?_
       intro g6 cap6 wC hS6 hT6 hat6
       have HSQC := Lib.hid hS6
       have h9A : w9.heap.size ≤ wA.heap.size := T_wA.out.size
       have h89 : w8.heap.size ≤ w9.heap.size := T_w9.out.size
       obtain ⟨p1', p2'⟩ := ls_put (K := QuK) (A0 := fun b => w.heap.size + 1 + 1 + 1 < b ∧ b ≠ w2.heap.size ∧ some g5 ≠ some b) (x := q') (cs := [.bool q'.coalesce, .bool q'.all, .bool q'.count, str q'.sum, slv gi' q'.items.length ci', slv gt' q'.tables.length ct', slv gc' q'.cond.length cc']) HLQA.out CA.out hT6 hat6 (fun b hb => ⟨(HI.out.ownq b hb).1, (HI.out.ownq b hb).2.1, fun e => HG5.out.2.2 (by rw [hb, e])⟩) ⟨by omega, by omega, fun e => by have := Option.some.inj e; omega⟩
       have P1 := Lib.hid p1'
       have P2 := Lib.hid p2'
       have HSOC := Lib.hid (HSOA.out.touch hT6 (fun b hb e => by cases hb; exact HG5.out.2.2 e))
       have E_wC := Lib.hid (Touch.fresh' (a := w) E_wA.out hT6 (fun i e => by have := HI.out.ownq i e; omega))
       have Bs_wC := Lib.hid (hT6.old Bs_wA.out (fun e => by have := HI.out.ownq _ e; omega))
       have Bx_wC := Lib.hid (hT6.old Bx_wA.out (fun e => by have := HI.out.ownq _ e; omega))
       have Br_wC := Lib.hid (hT6.old Br_wA.out (fun e => by have := HI.out.ownq _ e; omega))
       have Bt_wC := Lib.hid (hT6.old Bt_wA.out (fun e => by have := HI.out.ownq _ e; omega))
       have Bq_wC := Lib.hid (hT6.old Bq_wA.out (fun e => by have := HI.out.ownq _ e; omega))
       have z_wC : w.heap.size ≤ wC.heap.size := E_wC.out.size
       clear hS6 hT6 hat6 p1' p2'
       clear c_s c_x c_r c_t c_q c_o
       clear n_s_o n_x_o n_r_o n_t_o n_q_o
       have c_s := opn6 Bs_wC;have c_x := opn14 Bx_wC;have c_r := opn6 Br_wC;have c_t := opn14 Bt_wC;have c_q := opn7 Bq_wC
       obtain ⟨f1, hf1, hfew⟩ := HI.out.few.step H1.out (Suf.query c.E)
       have HF1 := Lib.hid hf1
       have HFEW := Lib.hid hfew
       clear hf1 hfew
       have HST := Lib.hid (mu_step H1.out (Suf.query c.E))
       go_wp2
       go_roundg (mu ((behind Y).then (query c.E)))
       case measure => rw [HI.out.hk]; exact HST.out
       case rel =>
         have hlq : (qs ++ [q']).length = qs.length + 1 := by simp
         have hlo' : (os ++ [[69, 88, 67, 69, 80, 84]]).length = os.length + 1 := by simp
         refine ⟨(behind Y).then (query c.E), f1, a6, k6, p6, qs ++ [q'], some g6, cap6, fq ++ [.bool q'.coalesce, .bool q'.all, .bool q'.count, str q'.sum, slv gi' q'.items.length ci', slv gt' q'.tables.length ct', slv gc' q'.cond.length cc'], os ++ [[69, 88, 67, 69, 80, 84]], some g5, cap5, fo ++ [str [69, 88, 67, 69, 80, 84]], .bool q'.coalesce, .bool q'.all, .bool q'.count, str q'.sum, slv gi' q'.items.length ci', slv gt' q'.tables.length ct', slv gc' q'.cond.length cc', ⟨rfl, ⟨(xE E_wC), (xb6 Bs_wC), (xb14 Bx_wC), (xb6 Br_wC), ?_, I6.out⟩, (xb7 Bq_wC), ?_, ?_, ?_, ?_, ?_, ls_strQ HLO8.out, HFEW.out, ?_, ?_, ?_⟩⟩
         · rw [hlq, hlo']
           show _ = some (Obj.cells #[str [83, 69, 76, 69, 67, 84], str [], .slice none 0 0, .slice none 0 0, .slice none 0 0, .slice none 0 0, .int .i64 (0 : Int), .int .i64 (0 : Int), .slice none 0 0, slv (some g6) (qs.length + 1) cap6, slv (some g5) (os.length + 1) cap5, .slice none 0 0, .slice none 0 0, .slice none 0 0] 33 (0, 0))
           exact (xb14 Bt_wC)
         · rw [hlq]; exact HSQC.out.touch (S := (fun b => b = w.heap.size ∨ b = w.heap.size + 1 ∨ b = w.heap.size + 1 + 1 ∨ b = w.heap.size + 1 + 1 + 1 ∨ b = w2.heap.size)) xT (fun b hb e => by cases hb; have := P2.out; omega)
         · intro b hb; cases hb; exact P2.out
         · exact LsC.keep QuK (fun b hb ha => ⟨Touch.block (S := (fun b => b = w.heap.size ∨ b = w.heap.size + 1 ∨ b = w.heap.size + 1 + 1 ∨ b = w.heap.size + 1 + 1 + 1 ∨ b = w2.heap.size)) xT b hb (fun e => by have := ha.1; omega), ha⟩) _ _ P1.out
         · rw [hlo']; exact HSOC.out.touch (S := (fun b => b = w.heap.size ∨ b = w.heap.size + 1 ∨ b = w.heap.size + 1 + 1 ∨ b = w.heap.size + 1 + 1 + 1 ∨ b = w2.heap.size)) xT (fun b hb e => by cases hb; have := HG5.out; omega)
         · intro b hb; cases hb; exact ⟨HG5.out.1, HG5.out.2.1, fun e => P2.out.2.2 e.symm⟩
         · rw [HI.out.run, HF1.out, sel_more (s := [69, 88, 67, 69, 80, 84]) (by simp) H1.out G6.out]
         · have h1 := HI.out.len; have h2 := HST.out; rw [hlq]; omega
         · have h1 := HI.out.leo; rw [hlq, hlo']; omega
     | false =>
       have H1 := Lib.hid h1
       clear h1
       go_wp2
       go_meet
       case rel =>
         refine ⟨Y, ac, kc, pc, qs, gq, cq, os, go, co, ⟨(xE E_v5), (xb6 Bs_v5), (xb14 Bx_v5), (xb6 Br_v5), (xb14 Bt_v5), HI.out.si.inn⟩, ?_, ?_, ?_⟩
         · exact ⟨gq, cq, fq, rfl, HSQP.out.touch (S := (fun b => b = w.heap.size ∨ b = w.heap.size + 1 ∨ b = w.heap.size + 1 + 1 ∨ b = w.heap.size + 1 + 1 + 1 ∨ b = w2.heap.size)) xT (fun b hb e => by have := HI.out.ownq b hb; omega), fun b hb => (HI.out.ownq b hb).1, LsC.keep QuK (fun b hb ha => ⟨Touch.block (S := (fun b => b = w.heap.size ∨ b = w.heap.size + 1 ∨ b = w.heap.size + 1 + 1 ∨ b = w.heap.size + 1 + 1 + 1 ∨ b = w2.heap.size)) xT b hb (fun e => by have := ha.1; omega), ha.1.1, ha.2⟩) _ _ HLQP.out⟩
         · exact ⟨go, co, fo, rfl, HSOP.out.touch (S := (fun b => b = w.heap.size ∨ b = w.heap.size + 1 ∨ b = w.heap.size + 1 + 1 ∨ b = w.heap.size + 1 + 1 + 1 ∨ b = w2.heap.size)) xT (fun b hb e => by have := HI.out.owno b hb; omega), fun b hb => (HI.out.owno b hb).1, ls_strQ HI.out.lso⟩
         · rw [HI.out.run, sel_stop HA.out H1.out]
 case rest =>
  obtain ⟨Y, ac, kc, pc, qs, gq, cq, os, go, co, hsi, hvq, hvo, hr⟩ := hcut
  have HSI := Lib.hid hsi
  have HVQ0 := Lib.hid hvq
  have HVO0 := Lib.hid hvo
  have HR := Lib.hid hr
  clear hsi hvq hvo hr G1 Q2 HI1 HF0 HR0 Q1 HSQ4 HQC C3
  clear c_q n_s_q n_x_q n_r_q n_t_q
  have E_WW := Lib.hid HSI.out.ext
  have Bs_WW := Lib.hid HSI.out.bs
  have Bx_WW := Lib.hid HSI.out.bx
  have Br_WW := Lib.hid HSI.out.br
  have Bt_WW := Lib.hid HSI.out.bt
  have z_WW : w.heap.size ≤ wc.heap.size := HSI.out.ext.size
  have hler : ac ≤ c.all.length := HSI.out.inn.1
  clear c_s c_x c_r c_t
  have c_s := opn6 Bs_WW;have c_x := opn14 Bx_WW;have c_r := opn6 Br_WW;have c_t := opn14 Bt_WW
  go_wp2_with fail
  refine (ris_ok c Y ac 0 kc pc [65, 83] _ (H.out.ext (xE E_WW)) HSI.out.inn).mono ?_
  rintro e v1 ⟨rfl, hE⟩
  have E_v1 := aE E_WW hE;have Bs_v1 := bk6 Bs_WW hE;have Bx_v1 := bk14 Bx_WW hE;have Br_v1 := bk6 Br_WW hE;have Bt_v1 := bk14 Bt_WW hE;have T_v1 : Hid (Touch (S4 w) wc v1) := aT hE
  clear hE c_s c_x c_r c_t Bs_WW Bx_WW Br_WW Bt_WW
  have z_v1 := E_v1.out.size;have c_s := opn6 Bs_v1;have c_x := opn14 Bx_v1;have c_r := opn6 Br_v1;have c_t := opn14 Bt_v1
  have HVQ1 := Lib.hid (VLA.keep _ HVQ0.out (fun b hb ha => ⟨T_v1.out.block b hb (fun e => by omega), ha⟩))
  have HVO1 := Lib.hid (VLA.keep _ HVO0.out (fun b hb ha => ⟨T_v1.out.block b hb (fun e => by omega), ha⟩))
  go_upto_if 51 with fail
  go_cut [] from 6 to 125 (fun wd => ∃ (Y1 : Xs) (ac kc pc : Nat) (al : List Nat) (ga : Option Nat) (ca : Nat), SI w c wd Y1 ac kc pc #[str [83, 69, 76, 69, 67, 84], str [], .slice none 0 0, .slice none 0 0, .slice none 0 0, .slice none 0 0, .int .i64 (0 : Int), .int .i64 (0 : Int), .slice none 0 0, slv gq qs.length cq, slv go os.length co, slv ga al.length ca, .slice none 0 0, .slice none 0 0] ∧ VLA QuK 49 wd (fun b => w.heap.size + 1 + 1 + 1 < b) (slv gq qs.length cq) qs ∧ VLA StrK 9 wd (fun b => w.heap.size + 1 + 1 + 1 < b) (slv go os.length co) os ∧ VLA NumK 2 wd (fun b => w.heap.size + 1 + 1 + 1 < b) (slv ga al.length ca) al ∧ X.run (selects c.E) = Y1.run (selDq c.E os qs al))
  case first =>
   cases h1 : isX [65, 83] Y with
   | false =>
     have H1 := Lib.hid h1
     clear h1
     go_wp2
     go_meet
     case rel =>
       exact ⟨Y, ac, kc, pc, [], none, 0, ⟨(xE E_v1), (xb6 Bs_v1), (xb14 Bx_v1), (xb6 Br_v1), (by show _ = some (Obj.cells #[str [83, 69, 76, 69, 67, 84], str [], .slice none 0 0, .slice none 0 0, .slice none 0 0, .slice none 0 0, .int .i64 (0 : Int), .int .i64 (0 : Int), .slice none 0 0, slv gq qs.length cq, slv go os.length co, .slice none 0 0, .slice none 0 0, .slice none 0 0] 33 (0, 0)); exact (xb14 Bt_v1)), HSI.out.inn⟩, VLA.keep _ HVQ1.out (fun b hb ha => ⟨Touch.block (S := (S4 w)) xT b hb (fun e => by omega), ha⟩), VLA.keep _ HVO1.out (fun b hb ha => ⟨Touch.block (S := (S4 w)) xT b hb (fun e => by omega), ha⟩), VLA.nil _ _ _ _, by rw [HR.out, sel_noas H1.out]⟩
   | true =>
     have H1 := Lib.hid h1
     clear h1
     have hlt : ac < c.all.length := (HSI.out.inn.step H1.out).1
     go_wp2_with fail
     refine (rmust_ok c _ (ac + 1) 0 kc pc [79, 70] _ (H.out.ext (xE E_v1)) (HSI.out.inn.step H1.out).2.1).mono ?_
     rintro e v2 ⟨b2, l2, z2, rfl, h_J2, hE⟩
     have E_v2 := aE E_v1 hE;have Bs_v2 := bk6 Bs_v1 hE;have Bx_v2 := bk14 Bx_v1 hE;have Br_v2 := bk6 Br_v1 hE;have Bt_v2 := bk14 Bt_v1 hE;have T_v2 : Hid (Touch (S4 w) v1 v2) := aT hE
     clear hE c_s c_x c_r c_t Bs_v1 Bx_v1 Br_v1 Bt_v1
     have z_v2 := E_v2.out.size;have c_s := opn6 Bs_v2;have c_x := opn14 Bx_v2;have c_r := opn6 Br_v2;have c_t := opn14 Bt_v2
     (try unfold sv)
     have J2 := Lib.hid h_J2; clear h_J2
     have hlf2 := J2.out.1
     go_wp2_with fail
     refine (rnumber_b c _ b2 0 l2 z2 _ (H.out.ext (xE E_v2)) J2.out).mono ?_
     rintro e v3 ⟨n, b3, l3, z3, rfl, h_J3, h_G3, hn, hE⟩
     have E_v3 := aE E_v2 hE;have Bs_v3 := bk6 Bs_v2 hE;have Bx_v3 := bk14 Bx_v2 hE;have Br_v3 := bk6 Br_v2 hE;have Bt_v3 := bk14 Bt_v2 hE;have T_v3 : Hid (Touch (S4 w) v2 v3) := aT hE
     clear hE c_s c_x c_r c_t Bs_v2 Bx_v2 Br_v2 Bt_v2
     have z_v3 := E_v3.out.size;have c_s := opn6 Bs_v3;have c_x := opn14 Bx_v3;have c_r := opn6 Br_v3;have c_t := opn14 Bt_v3
     (try unfold sv)
     have J3 := Lib.hid h_J3; clear h_J3
     have G3 := Lib.hid h_G3; clear h_G3
     have hlf3 := J3.out.1
     have hv3 : w.heap.size + 1 + 1 + 1 < v3.heap.size := by omega
     have HVQ2 := Lib.hid (VLA.keep _ HVQ1.out (fun b hb ha => ⟨T_v2.out.block b hb (fun e => by omega), ha⟩))
     have HVQ3 := Lib.hid (VLA.keep _ HVQ2.out (fun b hb ha => ⟨T_v3.out.block b hb (fun e => by omega), ha⟩))
     have HVO2 := Lib.hid (VLA.keep _ HVO1.out (fun b hb ha => ⟨T_v2.out.block b hb (fun e => by omega), ha⟩))
     have HVO3 := Lib.hid (VLA.keep _ HVO2.out (fun b hb ha => ⟨T_v3.out.block b hb (fun e => by omega), ha⟩))
     go_wp2
     go_meet
     case rel =>
       exact ⟨_, b3, l3, z3, [n], some v3.heap.size, 1, ⟨(xE E_v3), (xb6 Bs_v3), (xb14 Bx_v3), (xb6 Br_v3), (by show _ = some (Obj.cells #[str [83, 69, 76, 69, 67, 84], str [], .slice none 0 0, .slice none 0 0, .slice none 0 0, .slice none 0 0, .int .i64 (0 : Int), .int .i64 (0 : Int), .slice none 0 0, slv gq qs.length cq, slv go os.length co, slv (some v3.heap.size) 1 1, .slice none 0 0, .slice none 0 0] 33 (0, 0)); exact (xb14 Bt_v3)), J3.out⟩, VLA.keep _ HVQ3.out (fun b hb ha => ⟨Touch.block (S := (S4 w)) xT b hb (fun e => by omega), ha⟩), VLA.keep _ HVO3.out (fun b hb ha => ⟨Touch.block (S := (S4 w)) xT b hb (fun e => by omega), ha⟩), VLA.one _ (cs := [.int .i64 (n : Int)]) xn1 rfl hv3, by rw [HR.out, sel_as H1.out G3.out]⟩
  case rest =>
   clear HR HVQ0 HVO0 HVQ1 HVO1 HSI
   obtain ⟨Y1, ac, kc, pc, al, ga, ca, hsi, hvq, hvo, hva, hr⟩ := hcut
   have HSI := Lib.hid hsi
   have HVQ0 := Lib.hid hvq
   have HVO0 := Lib.hid hvo
   have HVA0 := Lib.hid hva
   have HR := Lib.hid hr
   clear hsi hvq hvo hva hr
   have E_WW := Lib.hid HSI.out.ext
   have Bs_WW := Lib.hid HSI.out.bs
   have Bx_WW := Lib.hid HSI.out.bx
   have Br_WW := Lib.hid HSI.out.br
   have Bt_WW := Lib.hid HSI.out.bt
   have z_WW : w.heap.size ≤ wc.heap.size := HSI.out.ext.size
   have hler : ac ≤ c.all.length := HSI.out.inn.1
   clear c_s c_x c_r c_t
   have c_s := opn6 Bs_WW;have c_x := opn14 Bx_WW;have c_r := opn6 Br_WW;have c_t := opn14 Bt_WW
   go_wp2_with fail
   refine (ris_ok c Y1 ac 0 kc pc [65, 84] _ (H.out.ext (xE E_WW)) HSI.out.inn).mono ?_
   rintro e v1 ⟨rfl, hE⟩
   have E_v1 := aE E_WW hE;have Bs_v1 := bk6 Bs_WW hE;have Bx_v1 := bk14 Bx_WW hE;have Br_v1 := bk6 Br_WW hE;have Bt_v1 := bk14 Bt_WW hE;have T_v1 : Hid (Touch (S4 w) wc v1) := aT hE
   clear hE c_s c_x c_r c_t Bs_WW Bx_WW Br_WW Bt_WW
   have z_v1 := E_v1.out.size;have c_s := opn6 Bs_v1;have c_x := opn14 Bx_v1;have c_r := opn6 Br_v1;have c_t := opn14 Bt_v1
   have HVQ1 := Lib.hid (VLA.keep _ HVQ0.out (fun b hb ha => ⟨T_v1.out.block b hb (fun e => by omega), ha⟩))
   have HVO1 := Lib.hid (VLA.keep _ HVO0.out (fun b hb ha => ⟨T_v1.out.block b hb (fun e => by omega), ha⟩))
   have HVA1 := Lib.hid (VLA.keep _ HVA0.out (fun b hb ha => ⟨T_v1.out.block b hb (fun e => by omega), ha⟩))
   go_upto_if 67 with fail
   go_cut [] from 6 to 125 (fun we => ∃ (Y2 : Xs) (ac kc pc : Nat) (dl : List (Nat × Nat)) (gd : Option Nat) (cd : Nat), SI w c we Y2 ac kc pc #[str [83, 69, 76, 69, 67, 84], str [], .slice none 0 0, .slice none 0 0, .slice none 0 0, .slice none 0 0, .int .i64 (0 : Int), .int .i64 (0 : Int), .slice none 0 0, slv gq qs.length cq, slv go os.length co, slv ga al.length ca, slv gd dl.length cd, .slice none 0 0] ∧ VLA QuK 49 we (fun b => w.heap.size + 1 + 1 + 1 < b) (slv gq qs.length cq) qs ∧ VLA StrK 9 we (fun b => w.heap.size + 1 + 1 + 1 < b) (slv go os.length co) os ∧ VLA NumK 2 we (fun b => w.heap.size + 1 + 1 + 1 < b) (slv ga al.length ca) al ∧ VLA PerK 28 we (fun b => w.heap.size + 1 + 1 + 1 < b) (slv gd dl.length cd) dl ∧ X.run (selects c.E) = Y2.run (selOq c.E os qs al dl))
   case first =>
     cases h1 : isX [65, 84] Y1 with
     | true =>
       have H1 := Lib.hid h1
       clear h1
       have hlt : ac < c.all.length := (HSI.out.inn.step H1.out).1
       obtain ⟨tk, tt, tn, tp, htok⟩ : ∃ tk tt tn tp, tokN (behind Y1) = (tk, tt, tn, tp) := ⟨_, _, _, _, rfl⟩
       have HTOK := Lib.hid htok
       have HLT : Hid (lateX (behind Y1) = (tk == 2 && decide (1099511627776 ≤ tn))) := Lib.hid (by unfold lateX; rw [htok]; rfl)
       have HIB : Hid (In c (behind Y1) (ac + 1) kc pc) := Lib.hid (HSI.out.inn.step H1.out).2.1
       clear htok
       go_wp2_with fail
       refine (rnext_ok c _ (ac + 1) 0 kc pc _ (H.out.ext (xE E_v1)) HIB.out).mono ?_
       rintro e v2 ⟨rfl, hE⟩
       have E_v2 := aE E_v1 hE;have Bs_v2 := bk6 Bs_v1 hE;have Bx_v2 := bk14 Bx_v1 hE;have Br_v2 := bk6 Br_v1 hE;have Bt_v2 := bk14 Bt_v1 hE;have T_v2 : Hid (Touch (S4 w) v1 v2) := aT hE
       clear hE c_s c_x c_r c_t Bs_v1 Bx_v1 Br_v1 Bt_v1
       have z_v2 := E_v2.out.size;have c_s := opn6 Bs_v2;have c_x := opn14 Bx_v2;have c_r := opn6 Br_v2;have c_t := opn14 Bt_v2
       rw [HTOK.out]
       unfold tokV
       have zf0 : ∀ u : World, (Instr.field 120 (.agg #[.int .i64 (tk : Int), str tt, .int .i64 (tn : Int), .int .i64 (tp : Int)]) 0).run Tryz.prog u = .ok (.int .i64 (tk : Int)) u := fun _ => by kernel_rfl
       obtain ⟨zn, hzn⟩ : ∃ zn : Int, zn = (tn : Int) := ⟨_, rfl⟩
       have zf2 : ∀ u : World, (Instr.field 120 (.agg #[.int .i64 (tk : Int), str tt, .int .i64 (tn : Int), .int .i64 (tp : Int)]) 2).run Tryz.prog u = .ok (.int .i64 zn) u := fun _ => by rw [hzn]; kernel_rfl
       have HZN := Lib.hid hzn
       clear hzn
       have HVQ2 := Lib.hid (VLA.keep _ HVQ1.out (fun b hb ha => ⟨T_v2.out.block b hb (fun e => by omega), ha⟩))
       have HVO2 := Lib.hid (VLA.keep _ HVO1.out (fun b hb ha => ⟨T_v2.out.block b hb (fun e => by omega), ha⟩))
       have HVA2 := Lib.hid (VLA.keep _ HVA1.out (fun b hb ha => ⟨T_v2.out.block b hb (fun e => by omega), ha⟩))
       by_cases h2 : tk = 2
       · have e2 : ((tk : Int) == 2) = true := by simp [h2]
         have H2 := Lib.hid h2
         clear h2
         go_wp2_with fail
         refine (rnext_ok c _ (ac + 1) 0 kc pc _ (H.out.ext (xE E_v2)) HIB.out).mono ?_
         rintro e v3 ⟨rfl, hE⟩
         have E_v3 := aE E_v2 hE;have Bs_v3 := bk6 Bs_v2 hE;have Bx_v3 := bk14 Bx_v2 hE;have Br_v3 := bk6 Br_v2 hE;have Bt_v3 := bk14 Bt_v2 hE;have T_v3 : Hid (Touch (S4 w) v2 v3) := aT hE
         clear hE c_s c_x c_r c_t Bs_v2 Bx_v2 Br_v2 Bt_v2
         have z_v3 := E_v3.out.size;have c_s := opn6 Bs_v3;have c_x := opn14 Bx_v3;have c_r := opn6 Br_v3;have c_t := opn14 Bt_v3
         rw [HTOK.out]
         unfold tokV
         have HVQ3 := Lib.hid (VLA.keep _ HVQ2.out (fun b hb ha => ⟨T_v3.out.block b hb (fun e => by omega), ha⟩))
         have HVO3 := Lib.hid (VLA.keep _ HVO2.out (fun b hb ha => ⟨T_v3.out.block b hb (fun e => by omega), ha⟩))
         have HVA3 := Lib.hid (VLA.keep _ HVA2.out (fun b hb ha => ⟨T_v3.out.block b hb (fun e => by omega), ha⟩))
         by_cases h3 : 1099511627776 ≤ tn
         · have h4 : (1099511627776 : Int) ≤ zn := by have := HZN.out; omega
           have HAX : Hid (atX c (behind Y1) = failX c 40 (behind Y1)) := Lib.hid (by unfold atX; rw [HLT.out, H2.out]; simp [h3])
           clear h3
           go_wp2_with fail
           refine (rfail_ok c _ (ac + 1) 0 kc pc 40 _ (H.out.ext (xE E_v3)) HIB.out (by decide)).mono ?_
           rintro e v4 ⟨kb, pb, rfl, h_IB, hE⟩
           have E_v4 := aE E_v3 hE;have Bs_v4 := bk6 Bs_v3 hE;have Bx_v4 := bk14 Bx_v3 hE;have Br_v4 := bk6 Br_v3 hE;have Bt_v4 := bk14 Bt_v3 hE;have T_v4 : Hid (Touch (S4 w) v3 v4) := aT hE
           clear hE c_s c_x c_r c_t Bs_v3 Bx_v3 Br_v3 Bt_v3
           have z_v4 := E_v4.out.size;have c_s := opn6 Bs_v4;have c_x := opn14 Bx_v4;have c_r := opn6 Br_v4;have c_t := opn14 Bt_v4
           (try unfold sv)
           have IB := Lib.hid h_IB; clear h_IB
           have HVQ4 := Lib.hid (VLA.keep _ HVQ3.out (fun b hb ha => ⟨T_v4.out.block b hb (fun e => by omega), ha⟩))
           have HVO4 := Lib.hid (VLA.keep _ HVO3.out (fun b hb ha => ⟨T_v4.out.block b hb (fun e => by omega), ha⟩))
           have HVA4 := Lib.hid (VLA.keep _ HVA3.out (fun b hb ha => ⟨T_v4.out.block b hb (fun e => by omega), ha⟩))
           have IZ : Hid (In c (atX c (behind Y1)) (ac + 1) kb pb) := Lib.hid (by rw [HAX.out]; exact IB.out)
           go_wp2_with fail
           refine (rnumber_b c _ (ac + 1) 0 kb pb _ (H.out.ext (xE E_v4)) IZ.out).mono ?_
           rintro e v5 ⟨n, b3, l3, z3, rfl, h_J3, h_G3, hn, hE⟩
           have E_v5 := aE E_v4 hE;have Bs_v5 := bk6 Bs_v4 hE;have Bx_v5 := bk14 Bx_v4 hE;have Br_v5 := bk6 Br_v4 hE;have Bt_v5 := bk14 Bt_v4 hE;have T_v5 : Hid (Touch (S4 w) v4 v5) := aT hE
           clear hE c_s c_x c_r c_t Bs_v4 Bx_v4 Br_v4 Bt_v4
           have z_v5 := E_v5.out.size;have c_s := opn6 Bs_v5;have c_x := opn14 Bx_v5;have c_r := opn6 Br_v5;have c_t := opn14 Bt_v5
           (try unfold sv)
           have J3 := Lib.hid h_J3; clear h_J3
           have G3 := Lib.hid h_G3; clear h_G3
           have hlf3 := J3.out.1
           have hv5 : w.heap.size + 1 + 1 + 1 < v5.heap.size := by omega
           have HVQ5 := Lib.hid (VLA.keep _ HVQ4.out (fun b hb ha => ⟨T_v5.out.block b hb (fun e => by omega), ha⟩))
           have HVO5 := Lib.hid (VLA.keep _ HVO4.out (fun b hb ha => ⟨T_v5.out.block b hb (fun e => by omega), ha⟩))
           have HVA5 := Lib.hid (VLA.keep _ HVA4.out (fun b hb ha => ⟨T_v5.out.block b hb (fun e => by omega), ha⟩))
           go_wp2
           go_meet
           case rel =>
            exact ⟨_, b3, l3, z3, [(n, n + 1)], some v5.heap.size, 1, ⟨(xE E_v5), (xb6 Bs_v5), (xb14 Bx_v5), (xb6 Br_v5), (by show _ = some (Obj.cells #[str [83, 69, 76, 69, 67, 84], str [], .slice none 0 0, .slice none 0 0, .slice none 0 0, .slice none 0 0, .int .i64 (0 : Int), .int .i64 (0 : Int), .slice none 0 0, slv gq qs.length cq, slv go os.length co, slv ga al.length ca, slv (some v5.heap.size) 1 1, .slice none 0 0] 33 (0, 0)); exact (xb14 Bt_v5)), J3.out⟩, VLA.keep _ HVQ5.out (fun b hb ha => ⟨Touch.block (S := (S4 w)) xT b hb (fun e => by omega), ha⟩), VLA.keep _ HVO5.out (fun b hb ha => ⟨Touch.block (S := (S4 w)) xT b hb (fun e => by omega), ha⟩), VLA.keep _ HVA5.out (fun b hb ha => ⟨Touch.block (S := (S4 w)) xT b hb (fun e => by omega), ha⟩), VLA.one _ (cs := [.int .i64 (n : Int), .int .i64 (n + 1 : Int)]) xn2 (per_pair n) hv5, by rw [HR.out, sel_at H1.out G3.out]⟩
         · have h4 : ¬ (1099511627776 : Int) ≤ zn := by have := HZN.out; omega
           have HAX : Hid (atX c (behind Y1) = behind Y1) := Lib.hid (by unfold atX; rw [HLT.out]; simp [h3])
           clear h3
           have IZ : Hid (In c (atX c (behind Y1)) (ac + 1) kc pc) := Lib.hid (by rw [HAX.out]; exact HIB.out)
           go_wp2_with fail
           refine (rnumber_b c _ (ac + 1) 0 kc pc _ (H.out.ext (xE E_v3)) IZ.out).mono ?_
           rintro e v5 ⟨n, b3, l3, z3, rfl, h_J3, h_G3, hn, hE⟩
           have E_v5 := aE E_v3 hE;have Bs_v5 := bk6 Bs_v3 hE;have Bx_v5 := bk14 Bx_v3 hE;have Br_v5 := bk6 Br_v3 hE;have Bt_v5 := bk14 Bt_v3 hE;have T_v5 : Hid (Touch (S4 w) v3 v5) := aT hE
           clear hE c_s c_x c_r c_t Bs_v3 Bx_v3 Br_v3 Bt_v3
           have z_v5 := E_v5.out.size;have c_s := opn6 Bs_v5;have c_x := opn14 Bx_v5;have c_r := opn6 Br_v5;have c_t := opn14 Bt_v5
           (try unfold sv)
           have J3 := Lib.hid h_J3; clear h_J3
           have G3 := Lib.hid h_G3; clear h_G3
           have hlf3 := J3.out.1
           have hv5 : w.heap.size + 1 + 1 + 1 < v5.heap.size := by omega
           have HVQ5 := Lib.hid (VLA.keep _ HVQ3.out (fun b hb ha => ⟨T_v5.out.block b hb (fun e => by omega), ha⟩))
           have HVO5 := Lib.hid (VLA.keep _ HVO3.out (fun b hb ha => ⟨T_v5.out.block b hb (fun e => by omega), ha⟩))
           have HVA5 := Lib.hid (VLA.keep _ HVA3.out (fun b hb ha => ⟨T_v5.out.block b hb (fun e => by omega), ha⟩))
           go_wp2
           go_meet
           case rel =>
            exact ⟨_, b3, l3, z3, [(n, n + 1)], some v5.heap.size, 1, ⟨(xE E_v5), (xb6 Bs_v5), (xb14 Bx_v5), (xb6 Br_v5), (by show _ = some (Obj.cells #[str [83, 69, 76, 69, 67, 84], str [], .slice none 0 0, .slice none 0 0, .slice none 0 0, .slice none 0 0, .int .i64 (0 : Int), .int .i64 (0 : Int), .slice none 0 0, slv gq qs.length cq, slv go os.length co, slv ga al.length ca, slv (some v5.heap.size) 1 1, .slice none 0 0] 33 (0, 0)); exact (xb14 Bt_v5)), J3.out⟩, VLA.keep _ HVQ5.out (fun b hb ha => ⟨Touch.block (S := (S4 w)) xT b hb (fun e => by omega), ha⟩), VLA.keep _ HVO5.out (fun b hb ha => ⟨Touch.block (S := (S4 w)) xT b hb (fun e => by omega), ha⟩), VLA.keep _ HVA5.out (fun b hb ha => ⟨Touch.block (S := (S4 w)) xT b hb (fun e => by omega), ha⟩), VLA.one _ (cs := [.int .i64 (n : Int), .int .i64 (n + 1 : Int)]) xn2 (per_pair n) hv5, by rw [HR.out, sel_at H1.out G3.out]⟩
       · have e2 : ((tk : Int) == 2) = false := by simp; omega
         have HAX : Hid (atX c (behind Y1) = behind Y1) := Lib.hid (by unfold atX; rw [HLT.out]; simp [h2])
         clear h2
         have IZ : Hid (In c (atX c (behind Y1)) (ac + 1) kc pc) := Lib.hid (by rw [HAX.out]; exact HIB.out)
         go_wp2_with fail
         refine (rnumber_b c _ (ac + 1) 0 kc pc _ (H.out.ext (xE E_v2)) IZ.out).mono ?_
         rintro e v5 ⟨n, b3, l3, z3, rfl, h_J3, h_G3, hn, hE⟩
         have E_v5 := aE E_v2 hE;have Bs_v5 := bk6 Bs_v2 hE;have Bx_v5 := bk14 Bx_v2 hE;have Br_v5 := bk6 Br_v2 hE;have Bt_v5 := bk14 Bt_v2 hE;have T_v5 : Hid (Touch (S4 w) v2 v5) := aT hE
         clear hE c_s c_x c_r c_t Bs_v2 Bx_v2 Br_v2 Bt_v2
         have z_v5 := E_v5.out.size;have c_s := opn6 Bs_v5;have c_x := opn14 Bx_v5;have c_r := opn6 Br_v5;have c_t := opn14 Bt_v5
         (try unfold sv)
         have J3 := Lib.hid h_J3; clear h_J3
         have G3 := Lib.hid h_G3; clear h_G3
         have hlf3 := J3.out.1
         have hv5 : w.heap.size + 1 + 1 + 1 < v5.heap.size := by omega
         have HVQ5 := Lib.hid (VLA.keep _ HVQ2.out (fun b hb ha => ⟨T_v5.out.block b hb (fun e => by omega), ha⟩))
         have HVO5 := Lib.hid (VLA.keep _ HVO2.out (fun b hb ha => ⟨T_v5.out.block b hb (fun e => by omega), ha⟩))
         have HVA5 := Lib.hid (VLA.keep _ HVA2.out (fun b hb ha => ⟨T_v5.out.block b hb (fun e => by omega), ha⟩))
         go_wp2
         go_meet
         case rel =>
           exact ⟨_, b3, l3, z3, [(n, n + 1)], some v5.heap.size, 1, ⟨(xE E_v5), (xb6 Bs_v5), (xb14 Bx_v5), (xb6 Br_v5), (by show _ = some (Obj.cells #[str [83, 69, 76, 69, 67, 84], str [], .slice none 0 0, .slice none 0 0, .slice none 0 0, .slice none 0 0, .int .i64 (0 : Int), .int .i64 (0 : Int), .slice none 0 0, slv gq qs.length cq, slv go os.length co, slv ga al.length ca, slv (some v5.heap.size) 1 1, .slice none 0 0] 33 (0, 0)); exact (xb14 Bt_v5)), J3.out⟩, VLA.keep _ HVQ5.out (fun b hb ha => ⟨Touch.block (S := (S4 w)) xT b hb (fun e => by omega), ha⟩), VLA.keep _ HVO5.out (fun b hb ha => ⟨Touch.block (S := (S4 w)) xT b hb (fun e => by omega), ha⟩), VLA.keep _ HVA5.out (fun b hb ha => ⟨Touch.block (S := (S4 w)) xT b hb (fun e => by omega), ha⟩), VLA.one _ (cs := [.int .i64 (n : Int), .int .i64 (n + 1 : Int)]) xn2 (per_pair n) hv5, by rw [HR.out, sel_at H1.out G3.out]⟩
     | false =>
       have H1 := Lib.hid h1
       clear h1
       go_wp2_with fail
       refine (ris_ok c Y1 ac 0 kc pc [68, 85, 82, 73, 78, 71] _ (H.out.ext (xE E_v1)) HSI.out.inn).mono ?_
       rintro e v2 ⟨rfl, hE⟩
       have E_v2 := aE E_v1 hE;have Bs_v2 := bk6 Bs_v1 hE;have Bx_v2 := bk14 Bx_v1 hE;have Br_v2 := bk6 Br_v1 hE;have Bt_v2 := bk14 Bt_v1 hE;have T_v2 : Hid (Touch (S4 w) v1 v2) := aT hE
       clear hE c_s c_x c_r c_t Bs_v1 Bx_v1 Br_v1 Bt_v1
       have z_v2 := E_v2.out.size;have c_s := opn6 Bs_v2;have c_x := opn14 Bx_v2;have c_r := opn6 Br_v2;have c_t := opn14 Bt_v2
       have HVQ2 := Lib.hid (VLA.keep _ HVQ1.out (fun b hb ha => ⟨T_v2.out.block b hb (fun e => by omega), ha⟩))
       have HVO2 := Lib.hid (VLA.keep _ HVO1.out (fun b hb ha => ⟨T_v2.out.block b hb (fun e => by omega), ha⟩))
       have HVA2 := Lib.hid (VLA.keep _ HVA1.out (fun b hb ha => ⟨T_v2.out.block b hb (fun e => by omega), ha⟩))
       have HVL : Hid (w.heap.size + 1 + 1 + 1 < v2.heap.size) := Lib.hid (by omega)
       cases h2 : isX [68, 85, 82, 73, 78, 71] Y1 with
       | true =>
         have H2 := Lib.hid h2
         clear h2
         have hlt : ac < c.all.length := (HSI.out.inn.step H2.out).1
         go_wp2_with fail
         refine (rperiod_ok c _ (ac + 1) 0 kc pc _ (H.out.ext (xE E_v2)) (HSI.out.inn.step H2.out).2.1).mono ?_
         rintro e v3 ⟨n, m, b3, l3, z3, rfl, h_J3, h_G3, hE⟩
         have n_s_e := ne2 (show w.heap.size ≠ v2.heap.size by omega);have n_x_e := ne2 (show w.heap.size + 1 ≠ v2.heap.size by omega);have n_r_e := ne2 (show w.heap.size + 1 + 1 ≠ v2.heap.size by omega);have n_t_e := ne2 (show w.heap.size + 1 + 1 + 1 ≠ v2.heap.size by omega)
         have E_v3 := aE E_v2 hE;have Bs_v3 := bk6 Bs_v2 hE;have Bx_v3 := bk14 Bx_v2 hE;have Br_v3 := bk6 Br_v2 hE;have Bt_v3 := bk14 Bt_v2 hE;have Be_v3 := nk2 (v2.heap.size) hE;have T_v3 : Hid (Touch (S4 w) v2 v3) := aT hE
         clear hE c_s c_x c_r c_t Bs_v2 Bx_v2 Br_v2 Bt_v2
         have z_v3 := E_v3.out.size;have c_s := opn6 Bs_v3;have c_x := opn14 Bx_v3;have c_r := opn6 Br_v3;have c_t := opn14 Bt_v3;have c_e := opn2 Be_v3
         (try unfold sv)
         have J3 := Lib.hid h_J3; clear h_J3
         have G3 := Lib.hid h_G3; clear h_G3
         have hlf3 := J3.out.1
         have hv2 : w.heap.size + 1 + 1 + 1 < v2.heap.size := HVL.out
         have hv3 : v2.heap.size < v3.heap.size := by omega
         have HVQ3 := Lib.hid (VLA.keep (A' := fun b => w.heap.size + 1 + 1 + 1 < b ∧ b < v2.heap.size) _ HVQ2.out (fun b hb ha => ⟨T_v3.out.block b hb (fun e => by omega), ha, hb⟩))
         have HVO3 := Lib.hid (VLA.keep (A' := fun b => w.heap.size + 1 + 1 + 1 < b ∧ b < v2.heap.size) _ HVO2.out (fun b hb ha => ⟨T_v3.out.block b hb (fun e => by omega), ha, hb⟩))
         have HVA3 := Lib.hid (VLA.keep (A' := fun b => w.heap.size + 1 + 1 + 1 < b ∧ b < v2.heap.size) _ HVA2.out (fun b hb ha => ⟨T_v3.out.block b hb (fun e => by omega), ha, hb⟩))
         go_wp2
         go_meet
         case rel =>
           exact ⟨_, b3, l3, z3, [(n, m)], some v3.heap.size, 1, ⟨(xE E_v3), (xb6 Bs_v3), (xb14 Bx_v3), (xb6 Br_v3), (by show _ = some (Obj.cells #[str [83, 69, 76, 69, 67, 84], str [], .slice none 0 0, .slice none 0 0, .slice none 0 0, .slice none 0 0, .int .i64 (0 : Int), .int .i64 (0 : Int), .slice none 0 0, slv gq qs.length cq, slv go os.length co, slv ga al.length ca, slv (some v3.heap.size) 1 1, .slice none 0 0] 33 (0, 0)); exact (xb14 Bt_v3)), J3.out⟩, VLA.keep _ HVQ3.out (fun b hb ha => ⟨Touch.block (S := (fun b => b = w.heap.size ∨ b = w.heap.size + 1 ∨ b = w.heap.size + 1 + 1 ∨ b = w.heap.size + 1 + 1 + 1 ∨ b = v2.heap.size)) xT b hb (fun e => by have := ha.1; have := ha.2; omega), ha.1⟩), VLA.keep _ HVO3.out (fun b hb ha => ⟨Touch.block (S := (fun b => b = w.heap.size ∨ b = w.heap.size + 1 ∨ b = w.heap.size + 1 + 1 ∨ b = w.heap.size + 1 + 1 + 1 ∨ b = v2.heap.size)) xT b hb (fun e => by have := ha.1; have := ha.2; omega), ha.1⟩), VLA.keep _ HVA3.out (fun b hb ha => ⟨Touch.block (S := (fun b => b = w.heap.size ∨ b = w.heap.size + 1 ∨ b = w.heap.size + 1 + 1 ∨ b = w.heap.size + 1 + 1 + 1 ∨ b = v2.heap.size)) xT b hb (fun e => by have := ha.1; have := ha.2; omega), ha.1⟩), VLA.one _ (cs := [.int .i64 (n : Int), .int .i64 (m : Int)]) xn2 rfl (by omega), by rw [HR.out, sel_during H1.out H2.out G3.out]⟩
       | false =>
         have H2 := Lib.hid h2
         clear h2
         go_wp2
         go_meet
         case rel =>
           exact ⟨Y1, ac, kc, pc, [], none, 0, ⟨(xE E_v2), (xb6 Bs_v2), (xb14 Bx_v2), (xb6 Br_v2), (by show _ = some (Obj.cells #[str [83, 69, 76, 69, 67, 84], str [], .slice none 0 0, .slice none 0 0, .slice none 0 0, .slice none 0 0, .int .i64 (0 : Int), .int .i64 (0 : Int), .slice none 0 0, slv gq qs.length cq, slv go os.length co, slv ga al.length ca, .slice none 0 0, .slice none 0 0] 33 (0, 0)); exact (xb14 Bt_v2)), HSI.out.inn⟩, VLA.keep _ HVQ2.out (fun b hb ha => ⟨Touch.block (S := (S4 w)) xT b hb (fun e => by omega), ha⟩), VLA.keep _ HVO2.out (fun b hb ha => ⟨Touch.block (S := (S4 w)) xT b hb (fun e => by omega), ha⟩), VLA.keep _ HVA2.out (fun b hb ha => ⟨Touch.block (S := (S4 w)) xT b hb (fun e => by omega), ha⟩), VLA.nil _ _ _ _, by rw [HR.out, sel_nod H1.out H2.out]⟩
   case rest =>
     clear HR HVQ0 HVO0 HVQ1 HVO1 HVA0 HVA1 HSI
     obtain ⟨Y2, ac, kc, pc, dl, gd, cd, hsi, hvq, hvo, hva, hvd, hr⟩ := hcut
     have HSI := Lib.hid hsi
     have HVQ0 := Lib.hid hvq
     have HVO0 := Lib.hid hvo
     have HVA0 := Lib.hid hva
     have HVD0 := Lib.hid hvd
     have HR := Lib.hid hr
     clear hsi hvq hvo hva hvd hr
     have E_WW := Lib.hid HSI.out.ext
     have Bs_WW := Lib.hid HSI.out.bs
     have Bx_WW := Lib.hid HSI.out.bx
     have Br_WW := Lib.hid HSI.out.br
     have Bt_WW := Lib.hid HSI.out.bt
     have z_WW : w.heap.size ≤ wc.heap.size := HSI.out.ext.size
     have hler : ac ≤ c.all.length := HSI.out.inn.1
     clear c_s c_x c_r c_t
     have c_s := opn6 Bs_WW;have c_x := opn14 Bx_WW;have c_r := opn6 Br_WW;have c_t := opn14 Bt_WW
     go_wp2_with fail
     refine (ris_ok c Y2 ac 0 kc pc [79, 82, 68, 69, 82] _ (H.out.ext (xE E_WW)) HSI.out.inn).mono ?_
     rintro e v1 ⟨rfl, hE⟩
     have E_v1 := aE E_WW hE;have Bs_v1 := bk6 Bs_WW hE;have Bx_v1 := bk14 Bx_WW hE;have Br_v1 := bk6 Br_WW hE;have Bt_v1 := bk14 Bt_WW hE;have T_v1 : Hid (Touch (S4 w) wc v1) := aT hE
     clear hE c_s c_x c_r c_t Bs_WW Bx_WW Br_WW Bt_WW
     have z_v1 := E_v1.out.size;have c_s := opn6 Bs_v1;have c_x := opn14 Bx_v1;have c_r := opn6 Br_v1;have c_t := opn14 Bt_v1
     have HVQ1 := Lib.hid (VLA.keep _ HVQ0.out (fun b hb ha => ⟨T_v1.out.block b hb (fun e => by omega), ha⟩))
     have HVO1 := Lib.hid (VLA.keep _ HVO0.out (fun b hb ha => ⟨T_v1.out.block b hb (fun e => by omega), ha⟩))
     have HVA1 := Lib.hid (VLA.keep _ HVA0.out (fun b hb ha => ⟨T_v1.out.block b hb (fun e => by omega), ha⟩))
     have HVD1 := Lib.hid (VLA.keep _ HVD0.out (fun b hb ha => ⟨T_v1.out.block b hb (fun e => by omega), ha⟩))
     go_upto_if 111 with fail
     go_cut [] from 6 to 125 (fun wf => ∃ (Y3 : Xs) (ac kc pc : Nat) (ol : List Str) (gl : Option Nat) (cl : Nat), SI w c wf Y3 ac kc pc #[str [83, 69, 76, 69, 67, 84], str [], .slice none 0 0, .slice none 0 0, .slice none 0 0, .slice none 0 0, .int .i64 (0 : Int), .int .i64 (0 : Int), .slice none 0 0, slv gq qs.length cq, slv go os.length co, slv ga al.length ca, slv gd dl.length cd, slv gl ol.length cl] ∧ VLA QuK 49 wf (fun b => w.heap.size + 1 + 1 + 1 < b) (slv gq qs.length cq) qs ∧ VLA StrK 9 wf (fun b => w.heap.size + 1 + 1 + 1 < b) (slv go os.length co) os ∧ VLA NumK 2 wf (fun b => w.heap.size + 1 + 1 + 1 < b) (slv ga al.length ca) al ∧ VLA PerK 28 wf (fun b => w.heap.size + 1 + 1 + 1 < b) (slv gd dl.length cd) dl ∧ VLA StrK 9 wf (fun b => w.heap.size + 1 + 1 + 1 < b) (slv gl ol.length cl) ol ∧ X.run (selects c.E) = Y3.run fun ts => .ok (({ St.none with kind := [83, 69, 76, 69, 67, 84], query := qs, ops := os, asOf := al, during := dl, order := ol } : St), ts))
     case first =>
       cases h1 : isX [79, 82, 68, 69, 82] Y2 with
       | true =>
         have H1 := Lib.hid h1
         clear h1
         have hlt : ac < c.all.length := (HSI.out.inn.step H1.out).1
         go_wp2_with fail
         refine (rmust_ok c _ (ac + 1) 0 kc pc [66, 89] _ (H.out.ext (xE E_v1)) (HSI.out.inn.step H1.out).2.1).mono ?_
         rintro e v2 ⟨b2, l2, z2, rfl, h_J2, hE⟩
         have E_v2 := aE E_v1 hE;have Bs_v2 := bk6 Bs_v1 hE;have Bx_v2 := bk14 Bx_v1 hE;have Br_v2 := bk6 Br_v1 hE;have Bt_v2 := bk14 Bt_v1 hE;have T_v2 : Hid (Touch (S4 w) v1 v2) := aT hE
         clear hE c_s c_x c_r c_t Bs_v1 Bx_v1 Br_v1 Bt_v1
         have z_v2 := E_v2.out.size;have c_s := opn6 Bs_v2;have c_x := opn14 Bx_v2;have c_r := opn6 Br_v2;have c_t := opn14 Bt_v2
         (try unfold sv)
         have J2 := Lib.hid h_J2; clear h_J2
         have hlf2 := J2.out.1
         have hv2 : w.heap.size + 1 + 1 + 1 < v2.heap.size := by omega
         go_wp2_with fail
         refine (rnames_ok c _ b2 0 l2 z2 _ (H.out.ext (xE E_v2)) J2.out).mono ?_
         rintro e v3 ⟨ol, gl, cl, b3, l3, z3, rfl, h_J3, h_G3, h_V3, hE⟩
         have E_v3 := aE E_v2 hE;have Bs_v3 := bk6 Bs_v2 hE;have Bx_v3 := bk14 Bx_v2 hE;have Br_v3 := bk6 Br_v2 hE;have Bt_v3 := bk14 Bt_v2 hE;have T_v3 : Hid (Touch (S4 w) v2 v3) := aT hE
         clear hE c_s c_x c_r c_t Bs_v2 Bx_v2 Br_v2 Bt_v2
         have z_v3 := E_v3.out.size;have c_s := opn6 Bs_v3;have c_x := opn14 Bx_v3;have c_r := opn6 Br_v3;have c_t := opn14 Bt_v3
         (try unfold sv)
         have J3 := Lib.hid h_J3; clear h_J3
         have G3 := Lib.hid h_G3; clear h_G3
         have V3 := Lib.hid h_V3; clear h_V3
         have hlf3 := J3.out.1
         have HVQ2 := Lib.hid (VLA.keep _ HVQ1.out (fun b hb ha => ⟨T_v2.out.block b hb (fun e => by omega), ha⟩))
         have HVQ3 := Lib.hid (VLA.keep _ HVQ2.out (fun b hb ha => ⟨T_v3.out.block b hb (fun e => by omega), ha⟩))
         have HVO2 := Lib.hid (VLA.keep _ HVO1.out (fun b hb ha => ⟨T_v2.out.block b hb (fun e => by omega), ha⟩))
         have HVO3 := Lib.hid (VLA.keep _ HVO2.out (fun b hb ha => ⟨T_v3.out.block b hb (fun e => by omega), ha⟩))
         have HVA2 := Lib.hid (VLA.keep _ HVA1.out (fun b hb ha => ⟨T_v2.out.block b hb (fun e => by omega), ha⟩))
         have HVA3 := Lib.hid (VLA.keep _ HVA2.out (fun b hb ha => ⟨T_v3.out.block b hb (fun e => by omega), ha⟩))
         have HVD2 := Lib.hid (VLA.keep _ HVD1.out (fun b hb ha => ⟨T_v2.out.block b hb (fun e => by omega), ha⟩))
         have HVD3 := Lib.hid (VLA.keep _ HVD2.out (fun b hb ha => ⟨T_v3.out.block b hb (fun e => by omega), ha⟩))
         have HVL3 := Lib.hid (VLA.of (A := fun b => w.heap.size + 1 + 1 + 1 < b) _ V3.out (fun b hb ha => by (try simp [size_set] at ha); omega))
         go_wp2
         go_meet
         case rel =>
           exact ⟨_, b3, l3, z3, ol, gl, cl, ⟨(xE E_v3), (xb6 Bs_v3), (xb14 Bx_v3), (xb6 Br_v3), (xb14 Bt_v3), J3.out⟩, VLA.keep _ HVQ3.out (fun b hb ha => ⟨Touch.block (S := (S4 w)) xT b hb (fun e => by omega), ha⟩), VLA.keep _ HVO3.out (fun b hb ha => ⟨Touch.block (S := (S4 w)) xT b hb (fun e => by omega), ha⟩), VLA.keep _ HVA3.out (fun b hb ha => ⟨Touch.block (S := (S4 w)) xT b hb (fun e => by omega), ha⟩), VLA.keep _ HVD3.out (fun b hb ha => ⟨Touch.block (S := (S4 w)) xT b hb (fun e => by omega), ha⟩), VLA.keep _ HVL3.out (fun b hb ha => ⟨Touch.block (S := (S4 w)) xT b hb (fun e => by omega), ha⟩), by rw [HR.out, sel_order H1.out G3.out]⟩
       | false =>
         have H1 := Lib.hid h1
         clear h1
         go_wp2
         go_meet
         case rel =>
           exact ⟨Y2, ac, kc, pc, [], none, 0, ⟨(xE E_v1), (xb6 Bs_v1), (xb14 Bx_v1), (xb6 Br_v1), (by show _ = some (Obj.cells #[str [83, 69, 76, 69, 67, 84], str [], .slice none 0 0, .slice none 0 0, .slice none 0 0, .slice none 0 0, .int .i64 (0 : Int), .int .i64 (0 : Int), .slice none 0 0, slv gq qs.length cq, slv go os.length co, slv ga al.length ca, slv gd dl.length cd, .slice none 0 0] 33 (0, 0)); exact (xb14 Bt_v1)), HSI.out.inn⟩, VLA.keep _ HVQ1.out (fun b hb ha => ⟨Touch.block (S := (S4 w)) xT b hb (fun e => by omega), ha⟩), VLA.keep _ HVO1.out (fun b hb ha => ⟨Touch.block (S := (S4 w)) xT b hb (fun e => by omega), ha⟩), VLA.keep _ HVA1.out (fun b hb ha => ⟨Touch.block (S := (S4 w)) xT b hb (fun e => by omega), ha⟩), VLA.keep _ HVD1.out (fun b hb ha => ⟨Touch.block (S := (S4 w)) xT b hb (fun e => by omega), ha⟩), VLA.nil _ _ _ _, by rw [HR.out, sel_noorder H1.out]⟩
     case rest =>
       clear HR HVQ0 HVO0 HVQ1 HVO1 HVA0 HVA1 HVD0 HVD1 HSI
       obtain ⟨Y3, ac, kc, pc, ol, gl, cl, hsi, hvq, hvo, hva, hvd, hvl, hr⟩ := hcut
       have HSI := Lib.hid hsi
       have HVQ0 := Lib.hid hvq
       have HVO0 := Lib.hid hvo
       have HVA0 := Lib.hid hva
       have HVD0 := Lib.hid hvd
       have HVL0 := Lib.hid hvl
       have HR := Lib.hid hr
       clear hsi hvq hvo hva hvd hvl hr
       have E_WW := Lib.hid HSI.out.ext
       have Bs_WW := Lib.hid HSI.out.bs
       have Bx_WW := Lib.hid HSI.out.bx
       have Br_WW := Lib.hid HSI.out.br
       have Bt_WW := Lib.hid HSI.out.bt
       have z_WW : w.heap.size ≤ wc.heap.size := HSI.out.ext.size
       have hler : ac ≤ c.all.length := HSI.out.inn.1
       clear c_s c_x c_r c_t
       have c_s := opn6 Bs_WW;have c_x := opn14 Bx_WW;have c_r := opn6 Br_WW;have c_t := opn14 Bt_WW
       go_wp2
       refine wp_nm (fun v4 hE => ?_)
       have E_v4 := aE E_WW hE;have Bs_v4 := bk6 Bs_WW hE;have Bx_v4 := bk14 Bx_WW hE;have Br_v4 := bk6 Br_WW hE;have Bt_v4 := bk14 Bt_WW hE;have T_v4 : Hid (Touch (S4 w) wc v4) := aT hE
       clear hE c_s c_x c_r c_t Bs_WW Bx_WW Br_WW Bt_WW
       have z_v4 := E_v4.out.size;have c_s := opn6 Bs_v4;have c_x := opn14 Bx_v4;have c_r := opn6 Br_v4;have c_t := opn14 Bt_v4
       have HVQ4 := Lib.hid (VLA.keep _ HVQ0.out (fun b hb ha => ⟨T_v4.out.block b hb (fun e => by omega), ha⟩))
       have HVO4 := Lib.hid (VLA.keep _ HVO0.out (fun b hb ha => ⟨T_v4.out.block b hb (fun e => by omega), ha⟩))
       have HVA4 := Lib.hid (VLA.keep _ HVA0.out (fun b hb ha => ⟨T_v4.out.block b hb (fun e => by omega), ha⟩))
       have HVD4 := Lib.hid (VLA.keep _ HVD0.out (fun b hb ha => ⟨T_v4.out.block b hb (fun e => by omega), ha⟩))
       have HVL4 := Lib.hid (VLA.keep _ HVL0.out (fun b hb ha => ⟨T_v4.out.block b hb (fun e => by omega), ha⟩))
       letI : Tch.TS := ⟨fun b => b = w.heap.size + 1⟩
       refine Tch.region_calm [.e 0, .e 1, .h 2 true, .h 3 false] f_mixed (by kernel_rfl) (by kernel_rfl) ?_
       refine Tch.plan_e1 rfl rfl (.agg #[str [83, 69, 76, 69, 67, 84], str [], .slice none 0 0, .slice none 0 0, .slice none 0 0, .slice none 0 0, .int .i64 (0 : Int), .int .i64 (0 : Int), .slice none 0 0, slv gq qs.length cq, slv go os.length co, slv ga al.length ca, slv gd dl.length cd, slv gl ol.length cl]) (fun w' he => ?_) (fun K hK => ?_)
       · have d := tch14 he c_t (fun (e : _ = _) => by omega)
         clear c_t he
         go_simp
       go_simp; refine hK _ ?_; clear hK K
       refine Tch.plan_e1 rfl rfl (.agg #[slv c.g c.all.length c.cap, .int .i64 (ac : Int), .int .i64 (c.E : Int), .int .i64 ((0 : Nat) : Int), .int .i64 (kc : Int), .int .i64 (pc : Int)]) (fun w' he => ?_) (fun K hK => ?_)
       · have d := tch6 he c_s (fun (e : _ = _) => by omega)
         clear c_s he
         go_simp
       go_simp; refine hK _ ?_; clear hK K
       refine Tch.plan_ct rfl rfl (fun K _ hK => ?_)
       go_wp2
       refine hK _ _ (late14d _ _ _ _ _ _ _ _ _ _ _ _ _ _ _ _) ?_; clear hK K
       refine Tch.plan_c rfl rfl (fun K _ hK => ?_)
       go_wp2
       refine tch_done ?_
       go_wp2
       (try simp only [Exit.inBlock, Exit.then])
       refine bodyPost_ret (v := .tuple #[.agg #[str [83, 69, 76, 69, 67, 84], str [], .slice none 0 0, .slice none 0 0, .slice none 0 0, .slice none 0 0, .int .i64 (0 : Int), .int .i64 (0 : Int), .slice none 0 0, slv gq qs.length cq, slv go os.length co, slv ga al.length ca, slv gd dl.length cd, slv gl ol.length cl], .agg #[slv c.g c.all.length c.cap, .int .i64 (ac : Int), .int .i64 (c.E : Int), .int .i64 ((0 : Nat) : Int), .int .i64 (kc : Int), .int .i64 (pc : Int)]]) (res_cc rfl rfl (lv_st (xb14 Bx_v4)) rfl (lv_src (xb6 Br_v4))) rfl ?_
       obtain ⟨h2, h3⟩ := run_end (F := selects c.E) (z := { St.none with kind := [83, 69, 76, 69, 67, 84], query := qs, ops := os, asOf := al, during := dl, order := ol }) HR.out HSI.out.inn
       refine ⟨{ St.none with kind := [83, 69, 76, 69, 67, 84], query := qs, ops := os, asOf := al, during := dl, order := ol }, { StV.nil with qu := slv gq qs.length cq, op := slv go os.length co, asof := slv ga al.length ca, dur := slv gd dl.length cd, ord := slv gl ol.length cl }, ac, kc, pc, rfl, h2, h3, ?_, (xE E_v4)⟩
       exact { StOk.none _ (fun b => w.heap.size ≤ b) [83, 69, 76, 69, 67, 84] [] (0, 0) with qu := VLA.keep _ HVQ4.out (fun b hb ha => ⟨Touch.block (S := (S4 w)) xT b hb (fun e => by omega), by omega⟩), op := VLA.keep _ HVO4.out (fun b hb ha => ⟨Touch.block (S := (S4 w)) xT b hb (fun e => by omega), by omega⟩), asof := VLA.keep _ HVA4.out (fun b hb ha => ⟨Touch.block (S := (S4 w)) xT b hb (fun e => by omega), by omega⟩), dur := VLA.keep _ HVD4.out (fun b hb ha => ⟨Touch.block (S := (S4 w)) xT b hb (fun e => by omega), by omega⟩), ord := VLA.keep _ HVL4.out (fun b hb ha => ⟨Touch.block (S := (S4 w)) xT b hb (fun e => by omega), by omega⟩) }
end Go.Proofs.YtkhnpmeohjafiaaGreatDoor
