/- Lemmas. -/
import Derived.Test.YtkhnpmeohjafiaaGreatDoorMPrM
namespace Go.Proofs.YtkhnpmeohjafiaaGreatDoor
open Go.RowKit
structure Vs (w : World) (vb : Nat) (W : World) (c : Cx) (j : Nat) (x : St) (v : StV) : Prop where
 src : Src W c j 0
 touch : Touch (onlyB c) w W
 res : W.heap[w.heap.size]? = some zSt
 blk : W.heap[vb]? = some (.cells (stCells x v).toArray 33 (0, 0))
 ok : StOk W (fun b => w.heap.size < b ∧ b ≠ vb) x v
 vb : w.heap.size < vb
section
variable {w W W' : World} {vb : Nat} {c : Cx} {i j : Nat} {x : St} {v : StV}
theorem Vs.step (h : Vs w vb W c j x v) (h0 : c.sb < w.heap.size) {j' : Nat} (hT : Touch (onlyB c) W W') (hS : Src W' c j' 0) : Vs w vb W' c j' x v :=
 ⟨hS, h.touch.trans hT, hT.old h.res (fun e => by have h1 : w.heap.size = c.sb := e; omega), hT.old h.blk (fun e => by have h1 : vb = c.sb := e; have := h.vb; omega),
  h.ok.keep (fun b hb ha => ⟨hT.block b hb (fun e => by have h1 : b = c.sb := e; omega), ha⟩), h.vb⟩
theorem Vs.set (h : Vs w vb W c j x v) (h0 : Src w c i 0) (k : Nat) (u : Value) {x' : St} {v' : StV} (hc : (stCells x v).set k u = stCells x' v') (hq : StOk W (fun b => w.heap.size < b ∧ b ≠ vb) x' v') : Vs w vb (W.setCell ⟨vb, k, none⟩ u) c j x' v' := by
 have h1 := blk_lt h0.blk
 have h3 := h.vb
 have hl : Touch (fun b => b = vb) W (W.setCell ⟨vb, k, none⟩ u) := (Touch.refl (fun b => b = vb) W).setCell (p := ⟨vb, k, none⟩) (fun _ => rfl) u
 refine ⟨h.src.touch hl (by omega) (fun b hb e => by have := toks_lt h0 b hb; omega), h.touch.trans' hl (fun b hb e => by omega), hl.old h.res (by omega), ?_, hq.keep (fun b hb ha => ⟨hl.block b hb (fun e => by omega), ha⟩), h3⟩
 have h2 := blk_set h.blk k u
 rw [← hc]
 simpa using h2
theorem Vs.done {r : Res St} (h : Vs w vb W c j x v) (h0 : Src w c i 0) (hl : Touch (fun k => k = w.heap.size) W W') (hr : r = .ok (x, c.ts j)) : RdPost VSt w c 0 r (.returned (.agg (stCells x v).toArray)) W' :=
 fin_late h0 h.touch h.src (hl.mono (fun b _ e => by omega)) ⟨_, rfl, v, rfl, h.ok.keep (fun b hb ha => ⟨hl.block b hb (fun e => by omega), by omega⟩)⟩ hr
end
theorem must_two {β : Type} (E : Nat) (a b : Str) (ts : List Tok) (k : Unit → List Tok → Res β) : (bnd (must E a ts) fun _ r => bnd (must E b r) k) = bnd (mustN E [a, b] ts) k := by
 simp only [mustN]
 cases must E a ts with
 | error e => rfl
 | ok q =>
   simp only [bnd]
   cases must E b q.2 with
   | error e => rfl
   | ok q' => rfl
theorem vls_of {α : Type} {K : Kd α} {T : TypeId} {w W W' : World} {vb : Nat} {v : Value} {xs : List α} (h : VLs K T W' W.heap.size v xs) (hv : w.heap.size < vb) (hl : vb < W.heap.size) : VLA K T W' (fun b => w.heap.size < b ∧ b ≠ vb) v xs :=
 VLA.of K h (fun b _ hb => by omega)
section
variable {w W : World} {vb : Nat} {c : Cx} {i j : Nat} {x : St} {v : StV}
theorem Vs.kt (h : Vs w vb W c j x v) (h0 : Src w c i 0) (k t : Str) : Vs w vb ((W.setCell ⟨vb, 0, none⟩ (str k)).setCell ⟨vb, 1, none⟩ (str t)) c j { x with kind := k, table := t } v :=
 (h.set h0 0 (str k) (x' := { x with kind := k }) (v' := v) rfl ⟨h.ok.col, h.ok.key, h.ok.val, h.ok.set, h.ok.cond, h.ok.qu, h.ok.op, h.ok.asof, h.ok.dur, h.ok.ord⟩).set h0 1 (str t) rfl
  (by
   have hl : Touch (fun b => b = vb) W (W.setCell ⟨vb, 0, none⟩ (str k)) := (Touch.refl (fun b => b = vb) W).setCell (p := ⟨vb, 0, none⟩) (fun _ => rfl) _
   have g := h.ok.keep (w' := W.setCell ⟨vb, 0, none⟩ (str k)) (A' := fun b => w.heap.size < b ∧ b ≠ vb) (fun b hb ha => ⟨hl.block b hb (fun e => by omega), ha⟩)
   exact ⟨g.col, g.key, g.val, g.set, g.cond, g.qu, g.op, g.asof, g.dur, g.ord⟩)
theorem Vs.kd (h : Vs w vb W c j x v) (h0 : Src w c i 0) (k : Str) : Vs w vb (W.setCell ⟨vb, 0, none⟩ (str k)) c j { x with kind := k } v :=
 h.set h0 0 (str k) (x' := { x with kind := k }) (v' := v) rfl ⟨h.ok.col, h.ok.key, h.ok.val, h.ok.set, h.ok.cond, h.ok.qu, h.ok.op, h.ok.asof, h.ok.dur, h.ok.ord⟩
theorem Vs.col (h : Vs w vb W c j x v) (h0 : Src w c i 0) {u : Value} {xs : List (Str × Nat)} (hu : VLA ColK 78 W (fun b => w.heap.size < b ∧ b ≠ vb) u xs) : Vs w vb (W.setCell ⟨vb, 2, none⟩ u) c j { x with columns := xs } { v with col := u } :=
 h.set h0 2 u rfl ⟨hu, h.ok.key, h.ok.val, h.ok.set, h.ok.cond, h.ok.qu, h.ok.op, h.ok.asof, h.ok.dur, h.ok.ord⟩
theorem Vs.key (h : Vs w vb W c j x v) (h0 : Src w c i 0) {u : Value} {xs : List Str} (hu : VLA StrK 9 W (fun b => w.heap.size < b ∧ b ≠ vb) u xs) : Vs w vb (W.setCell ⟨vb, 3, none⟩ u) c j { x with keys := xs } { v with key := u } :=
 h.set h0 3 u rfl ⟨h.ok.col, hu, h.ok.val, h.ok.set, h.ok.cond, h.ok.qu, h.ok.op, h.ok.asof, h.ok.dur, h.ok.ord⟩
theorem Vs.val (h : Vs w vb W c j x v) (h0 : Src w c i 0) {u : Value} {xs : List Ex} (hu : VLA ExK 45 W (fun b => w.heap.size < b ∧ b ≠ vb) u xs) : Vs w vb (W.setCell ⟨vb, 4, none⟩ u) c j { x with values := xs } { v with val := u } :=
 h.set h0 4 u rfl ⟨h.ok.col, h.ok.key, hu, h.ok.set, h.ok.cond, h.ok.qu, h.ok.op, h.ok.asof, h.ok.dur, h.ok.ord⟩
theorem Vs.sets (h : Vs w vb W c j x v) (h0 : Src w c i 0) {u : Value} {xs : List (Str × Ex)} (hu : VLA SetK 80 W (fun b => w.heap.size < b ∧ b ≠ vb) u xs) : Vs w vb (W.setCell ⟨vb, 5, none⟩ u) c j { x with sets := xs } { v with set := u } :=
 h.set h0 5 u rfl ⟨h.ok.col, h.ok.key, h.ok.val, hu, h.ok.cond, h.ok.qu, h.ok.op, h.ok.asof, h.ok.dur, h.ok.ord⟩
theorem Vs.cond (h : Vs w vb W c j x v) (h0 : Src w c i 0) {u : Value} {xs : List Ex} (hu : VLA ExK 45 W (fun b => w.heap.size < b ∧ b ≠ vb) u xs) : Vs w vb (W.setCell ⟨vb, 8, none⟩ u) c j { x with cond := xs } { v with cond := u } :=
 h.set h0 8 u rfl ⟨h.ok.col, h.ok.key, h.ok.val, h.ok.set, hu, h.ok.qu, h.ok.op, h.ok.asof, h.ok.dur, h.ok.ord⟩
theorem Vs.vla {α : Type} {K : Kd α} {T : TypeId} {W' : World} {A : Nat → Prop} {u : Value} {xs : List α} (hu : VLA K T W A u xs) (hA : ∀ b, b < W.heap.size → A b → W'.heap[b]? = W.heap[b]?) : VLA K T W' A u xs :=
 hu.keep _ (fun b hb ha => ⟨hA b hb ha, ha⟩)
theorem Vs.per (h : Vs w vb W c j x v) (h0 : Src w c i 0) (p : Nat × Nat) : Vs w vb ((W.setCell ⟨vb, 6, none⟩ (.int .i64 (p.1 : Int))).setCell ⟨vb, 7, none⟩ (.int .i64 (p.2 : Int))) c j { x with period := p } v := by
 have h1 := h.set h0 6 (.int .i64 (p.1 : Int)) (x' := { x with period := (p.1, x.period.2) }) (v' := v) rfl ⟨h.ok.col, h.ok.key, h.ok.val, h.ok.set, h.ok.cond, h.ok.qu, h.ok.op, h.ok.asof, h.ok.dur, h.ok.ord⟩
 exact h1.set h0 7 (.int .i64 (p.2 : Int)) rfl ⟨h1.ok.col, h1.ok.key, h1.ok.val, h1.ok.set, h1.ok.cond, h1.ok.qu, h1.ok.op, h1.ok.asof, h1.ok.dur, h1.ok.ord⟩
end
theorem vper_old {w W : World} {vb : Nat} (p : Nat × Nat) : ∀ b, b < W.heap.size → (w.heap.size < b ∧ b ≠ vb) → ((W.setCell ⟨vb, 6, none⟩ (.int .i64 (p.1 : Int))).setCell ⟨vb, 7, none⟩ (.int .i64 (p.2 : Int))).heap[b]? = W.heap[b]? := by
 intro b hb hl
 have ht : Touch (fun b => b = vb) W ((W.setCell ⟨vb, 6, none⟩ (.int .i64 (p.1 : Int))).setCell ⟨vb, 7, none⟩ (.int .i64 (p.2 : Int))) := ((Touch.refl (fun b => b = vb) W).setCell (p := ⟨vb, 6, none⟩) (fun _ => rfl) _).setCell (p := ⟨vb, 7, none⟩) (fun _ => rfl) _
 exact ht.block b hb (by omega)
theorem Vs.all {w W : World} {vb : Nat} {c : Cx} {i j : Nat} {x x' : St} {v v' : StV} (h : Vs w vb W c j x v) (h0 : Src w c i 0) (hq : StOk W (fun b => w.heap.size < b ∧ b ≠ vb) x' v') :
  Vs w vb (wr14 W vb (str x'.kind) (str x'.table) v'.col v'.key v'.val v'.set (.int .i64 (x'.period.1 : Int)) (.int .i64 (x'.period.2 : Int)) v'.cond v'.qu v'.op v'.asof v'.dur v'.ord) c j x' v' := by
 have h1 := blk_lt h0.blk
 have h3 := h.vb
 have hl := wr14_touch W vb (str x'.kind) (str x'.table) v'.col v'.key v'.val v'.set (.int .i64 (x'.period.1 : Int)) (.int .i64 (x'.period.2 : Int)) v'.cond v'.qu v'.op v'.asof v'.dur v'.ord
 exact ⟨h.src.touch hl (by omega) (fun b hb e => by have := toks_lt h0 b hb; omega), h.touch.trans' hl (fun b hb e => by omega), hl.old h.res (by omega), wr14_blk h.blk _ _ _ _ _ _ _ _ _ _ _ _ _ _, hq.keep (fun b hb ha => ⟨hl.block b hb (fun e => by omega), ha⟩), h3⟩
theorem Vs.adv {w W : World} {vb : Nat} {c : Cx} {i j : Nat} {x : St} {v : StV} (h : Vs w vb W c j x v) (h0 : Src w c i 0) (hj : j < c.all.length) : Vs w vb (W.setCell ⟨c.sb, 1, none⟩ (.int .i64 ((j : Int) + 1))) c (j + 1) x v := by
 have h1 := blk_lt h0.blk
 have hs7 := h.src.move (j := j + 1) (by omega)
 rw [Int.natCast_add] at hs7
 exact h.step h1 ((Touch.refl (onlyB c) W).setCell (p := ⟨c.sb, 1, none⟩) (fun _ => rfl) _) hs7
set_option maxRecDepth 100000 in
set_option maxHeartbeats 64000000 in
theorem statement_ok (c : Cx) (i : Nat) (w : World) (h : Src w c i 0) :
   Calls Tryz.prog 19 #[.pointer (some ⟨c.sb, 0, none⟩)] w (RdPost VSt w c 0 (stmt c.E (c.ts i))) := by
 have H := Lib.hid h
 have lb := blk_lt h.blk
 obtain ⟨vb, hvb⟩ : ∃ vb, vb = w.heap.size + 1 := ⟨_, rfl⟩
 have HV0 : Hid (Vs w vb ((w.alloc zSt).alloc zSt) c i St.none StV.nil) :=
   Lib.hid ⟨h.ext (((Ext.refl w).alloc _).alloc _), (((Ext.refl w).alloc _).alloc _).touch _, blk_alloc (blk_new _ _), blk_new_at _ (by simp [hvb]), StOk.none _ _ [] [] (0, 0), by omega⟩
 obtain ⟨R, hR⟩ : ∃ R, R = stmt c.E (c.ts i) := ⟨_, rfl⟩
 rw [← hR]
 unfold stmt at hR
 have HR0 := Lib.hid hR
 clear hR h
 go_enter Tryz.func19, Tryz.ntmps19
 go_upto_block 0 with fail
 refine wp_at (fun W => Vs w vb W c i St.none StV.nil) HV0.out ?_
 intro W0 hW0
 clear HV0
 have HV0 := Lib.hid hW0
 clear hW0
 rw [← hvb]
 clear hvb
 go_cut [] from 4 to 132 (fun wc => ∃ (j : Nat) (x : St) (v : StV), Vs w vb wc c j x v ∧ R = .ok (x, c.ts j))
 case rest =>
   clear HV0 HR0
   obtain ⟨j, x, v, hV, hRR⟩ := hcut
   have HVT := Lib.hid hV
   have HRT := Lib.hid hRR
   clear hV hRR
   obtain ⟨vcol, vkey, vval, vset, vcond, vqu, vop, vasof, vdur, vord⟩ := v
   have hsh := HVT.out.ok
   obtain ⟨g1, c1, e1⟩ := hsh.col.slice
   obtain ⟨g2, c2, e2⟩ := hsh.key.slice
   obtain ⟨g3, c3, e3⟩ := hsh.val.slice
   obtain ⟨g4, c4, e4⟩ := hsh.set.slice
   obtain ⟨g5, c5, e5⟩ := hsh.cond.slice
   obtain ⟨g6, c6, e6⟩ := hsh.qu.slice
   obtain ⟨g7, c7, e7⟩ := hsh.op.slice
   obtain ⟨g8, c8, e8⟩ := hsh.asof.slice
   obtain ⟨g9, c9, e9⟩ := hsh.dur.slice
   obtain ⟨g10, c10, e10⟩ := hsh.ord.slice
   simp only at e1 e2 e3 e4 e5 e6 e7 e8 e9 e10
   clear hsh
   subst e1 e2 e3 e4 e5 e6 e7 e8 e9 e10
   obtain ⟨a0, a1, a2, a3, a4, a5, a6, a7, a8, a9, a10, a11, a12, a13⟩ := blk14 HVT.out.blk
   dsimp only at a2 a3 a4 a5 a8 a9 a10 a11 a12 a13
   have la := blk_lt HVT.out.blk
   have fa := fun k => blk_frozen HVT.out.blk k
   obtain ⟨b0, b1, b2, b3, b4, b5, b6, b7, b8, b9, b10, b11, b12, b13⟩ := blk14 HVT.out.res
   have lr := blk_lt HVT.out.res
   have fr := fun k => blk_frozen HVT.out.res k
   go_wp2
   refine bodyPost_ret (v := .agg [str x.kind, str x.table, slv g1 x.columns.length c1, slv g2 x.keys.length c2, slv g3 x.values.length c3, slv g4 x.sets.length c4, .int .i64 (x.period.1 : Int), .int .i64 (x.period.2 : Int), slv g5 x.cond.length c5, slv g6 x.query.length c6, slv g7 x.ops.length c7, slv g8 x.asOf.length c8, slv g9 x.during.length c9, slv g10 x.order.length c10].toArray) (results_st rfl rfl (wr14_blk HVT.out.res _ _ _ _ _ _ _ _ _ _ _ _ _ _)) rfl ?_
   exact HVT.out.done H.out (wr14_touch _ _ _ _ _ _ _ _ _ _ _ _ _ _ _ _) HRT.out
 case first =>
 go_wp2_with fail
 refine (may_ok c i 0 _ (HV0.out.src.ext ((Ext.refl _).alloc _)) (some _) [[67, 82, 69, 65, 84, 69], [84, 65, 66, 76, 69]] (txts_at _ [[67, 82, 69, 65, 84, 69], [84, 65, 66, 76, 69]] (by simp)) (by simp)).mono ?_
 rintro e w1 ⟨rfl, hS, hT0⟩
 have hT := (((Ext.refl _).alloc _).touch (onlyB c)).trans hT0
 have hm2 : mayN [[67, 82, 69, 65, 84, 69], [84, 65, 66, 76, 69]] (c.ts i) = (isT [67, 82, 69, 65, 84, 69] (c.ts i) && isT [84, 65, 66, 76, 69] (c.ts (i + 1))) := by simp [mayN, Src.tail]
 have hV1 := HV0.out.step lb hT hS
 clear hT0 hT hS
 cases hm : mayN [[67, 82, 69, 65, 84, 69], [84, 65, 66, 76, 69]] (c.ts i) with
 | true =>
   have hm3 := hm2.symm.trans hm
   rw [Bool.and_eq_true] at hm3
   rw [hm, if_pos rfl] at hV1
   have hR1 := HR0.out
   simp only [hm3.1, hm3.2, if_true, Src.tail] at hR1
   unfold create at hR1
   have HV1 : Hid (Vs w vb w1 c (i + 2) St.none StV.nil) := Lib.hid hV1
   have HR1 := Lib.hid hR1
   clear hV1 hR1 hm hm2 hm3
   go_wp2_with fail
   refine (name_ok c (i + 2) 0 _ HV1.out.src).mono ?_
   rintro e w2 ⟨hT, hp⟩
   have hR := HR1.out
   rcases hr : name c.E (c.ts (i + 2)) with ⟨k, p⟩ | ⟨nm, ts⟩
   · rw [hr] at hp
     simp only [hr, bnd_error, fin_error] at hR
     obtain rfl := hp
     exact ⟨rfl, RdPost.bad hR (HV1.out.touch.trans hT)⟩
   rw [hr] at hp
   obtain ⟨v, j2, rfl, rfl, rfl, hS⟩ := hp
   simp only [hr, bnd_ok, fin_ok] at hR
   have HV2 := Lib.hid (HV1.out.step lb hT hS)
   have HR2 := Lib.hid hR
   skip
   clear hT hS hR hr
   have HV3 := Lib.hid (HV2.out.kt H.out [67, 82, 69, 65, 84, 69] nm)
   obtain ⟨a0, a1, a2, a3, a4, a5, a6, a7, a8, a9, a10, a11, a12, a13⟩ := blk14 HV2.out.blk
   have la := blk_lt HV2.out.blk
   have fa := fun k => blk_frozen HV2.out.blk k
   go_wp2_with fail
   refine (must_ok c j2 0 _ (HV3.out.src.ext ((Ext.refl _).alloc _)) (some _) [[40]] (txts_at _ [[40]] (by simp [size_set])) (by simp)).mono ?_
   rintro e w3 ⟨hT0, hp⟩
   have hT := (((Ext.refl _).alloc _).touch (onlyB c)).trans hT0
   rw [mustN_one] at hp
   have hR := HR2.out
   rcases hr : must c.E [40] (c.ts j2) with ⟨k, p⟩ | ⟨⟨⟩, ts⟩
   · rw [hr] at hp
     simp only [hr, bnd_error, fin_error] at hR
     obtain rfl := hp
     exact ⟨rfl, RdPost.bad hR (HV3.out.touch.trans hT)⟩
   rw [hr] at hp
   obtain ⟨v, j3, rfl, rfl, rfl, hS⟩ := hp
   simp only [hr, bnd_ok, fin_ok] at hR
   have HV4 := Lib.hid (HV3.out.step lb hT hS)
   have HR3 := Lib.hid hR
   clear a0 a1 a2 a3 a4 a5 a6 a7 a8 a9 a10 a11 a12 a13 la fa
   clear hT0 hT hS hR hr
   go_wp2_with fail
   refine (list_col c j3 0 _ HV4.out.src _ ent_column (column c.E) (Suf.column c.E) (fun w i h => column_ok c i 0 w h)).mono ?_
   rintro e w4 ⟨hT, hp⟩
   have hR := HR3.out
   rcases hr : sep (column c.E) (c.ts j3) with ⟨k, p⟩ | ⟨cl, ts⟩
   · rw [hr] at hp
     simp only [hr, bnd_error, fin_error] at hR
     obtain rfl := hp
     exact ⟨rfl, RdPost.bad hR (HV4.out.touch.trans hT)⟩
   rw [hr] at hp
   obtain ⟨v, j4, rfl, hv, rfl, hS⟩ := hp
   simp only [hr, bnd_ok, fin_ok] at hR
   have HV5 := Lib.hid (HV4.out.step lb hT hS)
   have HR4 := Lib.hid hR
   have hv3 := vls_of hv HV4.out.vb (blk_lt HV4.out.blk)
   clear hT hS hR hr
   obtain ⟨g5, c5, rfl⟩ := hv3.slice
   have HV6 := Lib.hid (HV5.out.col H.out hv3)
   clear hv hv3
   obtain ⟨a0, a1, a2, a3, a4, a5, a6, a7, a8, a9, a10, a11, a12, a13⟩ := blk14 HV5.out.blk
   have la := blk_lt HV5.out.blk
   have fa := fun k => blk_frozen HV5.out.blk k
   go_wp2_with fail
   refine (must_ok c j4 0 _ (HV6.out.src.ext ((Ext.refl _).alloc _)) (some _) [[41]] (txts_at _ [[41]] (by simp [size_set])) (by simp)).mono ?_
   rintro e w5 ⟨hT0, hp⟩
   have hT := (((Ext.refl _).alloc _).touch (onlyB c)).trans hT0
   rw [mustN_one] at hp
   have hR := HR4.out
   rcases hr : must c.E [41] (c.ts j4) with ⟨k, p⟩ | ⟨⟨⟩, ts⟩
   · rw [hr] at hp
     simp only [hr, bnd_error, fin_error] at hR
     obtain rfl := hp
     exact ⟨rfl, RdPost.bad hR (HV6.out.touch.trans hT)⟩
   rw [hr] at hp
   obtain ⟨v, j5, rfl, rfl, rfl, hS⟩ := hp
   simp only [hr, bnd_ok, fin_ok] at hR
   have HV7 := Lib.hid (HV6.out.step lb hT hS)
   have HR5 := Lib.hid hR
   clear a0 a1 a2 a3 a4 a5 a6 a7 a8 a9 a10 a11 a12 a13 la fa
   clear hT0 hT hS hR hr
   go_wp2_with fail
   refine (may_ok c j5 0 _ (HV7.out.src.ext ((Ext.refl _).alloc _)) (some _) [[78, 79]] (txts_at _ [[78, 79]] (by simp [size_set])) (by simp)).mono ?_
   rintro e w6 ⟨rfl, hS, hT0⟩
   have hT := (((Ext.refl _).alloc _).touch (onlyB c)).trans hT0
   rw [mayN_one] at hS ⊢
   have HV8 := Lib.hid (HV7.out.step lb hT hS)
   skip
   clear hT0 hT hS
   have hV := HV8.out
   have hRR := HR5.out
   unfold keysP at hRR
   cases hn : isT [78, 79] (c.ts j5) with
   | false =>
     rw [hn, if_neg (by simp)] at hV
     simp only [hn, Bool.false_eq_true, if_false, fin_ok] at hRR
     have HV9 := Lib.hid hV
     have HR9 := Lib.hid hRR
     clear hV hRR hn HV8
     go_wp2
     go_meet
     case rel => exact ⟨j5, _, _, HV9.out, HR9.out⟩
   | true =>
     rw [hn, if_pos rfl] at hV
     simp only [hn, if_true, Src.tail] at hRR
     have HV9 := Lib.hid hV
     have HR9 := Lib.hid hRR
     clear hV hRR hn HV8
     go_wp2_with fail
     refine (must_ok c (j5 + 1) 0 _ (HV9.out.src.ext ((Ext.refl _).alloc _)) (some _) [[79, 86, 69, 82, 76, 65, 80]] (txts_at _ [[79, 86, 69, 82, 76, 65, 80]] (by simp [size_set])) (by simp)).mono ?_
     rintro e w7 ⟨hT0, hp⟩
     have hT := (((Ext.refl _).alloc _).touch (onlyB c)).trans hT0
     rw [mustN_one] at hp
     have hR := HR9.out
     rcases hr : must c.E [79, 86, 69, 82, 76, 65, 80] (c.ts (j5 + 1)) with ⟨k, p⟩ | ⟨⟨⟩, ts⟩
     · rw [hr] at hp
       simp only [hr, bnd_error, fin_error] at hR
       obtain rfl := hp
       exact ⟨rfl, RdPost.bad hR (HV9.out.touch.trans hT)⟩
     rw [hr] at hp
     obtain ⟨v, j6, rfl, rfl, rfl, hS⟩ := hp
     simp only [hr, bnd_ok, fin_ok] at hR
     have HVa := Lib.hid (HV9.out.step lb hT hS)
     have HRa := Lib.hid hR
     skip
     clear hT0 hT hS hR hr
     go_wp2_with fail
     refine (names_ok c j6 0 _ HVa.out.src).mono ?_
     rintro e w8 ⟨hT, hp⟩
     have hR := HRa.out
     rcases hr : names c.E (c.ts j6) with ⟨k, p⟩ | ⟨ks, ts⟩
     · rw [hr] at hp
       simp only [hr, bnd_error, fin_error] at hR
       obtain rfl := hp
       exact ⟨rfl, RdPost.bad hR (HVa.out.touch.trans hT)⟩
     rw [hr] at hp
     obtain ⟨v, j7, rfl, hv, rfl, hS⟩ := hp
     simp only [hr, bnd_ok, fin_ok] at hR
     have HVb := Lib.hid (HVa.out.step lb hT hS)
     have HRb := Lib.hid hR
     have hv3 := vls_of hv HVa.out.vb (blk_lt HVa.out.blk)
     clear hT hS hR hr
     obtain ⟨g6, c6, rfl⟩ := hv3.slice
     have HVc := Lib.hid (HVb.out.key H.out hv3)
     clear hv hv3
     obtain ⟨a0, a1, a2, a3, a4, a5, a6, a7, a8, a9, a10, a11, a12, a13⟩ := blk14 HVb.out.blk
     have la := blk_lt HVb.out.blk
     have fa := fun k => blk_frozen HVb.out.blk k
     go_wp2
     go_meet
     case rel => exact ⟨j7, _, _, HVc.out, HRb.out⟩
 | false =>
   have hm3 := hm2.symm.trans hm
   rw [hm, if_neg (by simp)] at hV1
   have HV1 := Lib.hid hV1
   have HM : Hid ((isT [67, 82, 69, 65, 84, 69] (c.ts i) && isT [84, 65, 66, 76, 69] (c.ts (i + 1))) = false) := Lib.hid hm3
   clear hV1 hm hm2 hm3
   go_wp2_with fail
   refine (may_ok c i 0 _ (HV1.out.src.ext ((Ext.refl _).alloc _)) (some _) [[67, 82, 69, 65, 84, 69]] (txts_at _ [[67, 82, 69, 65, 84, 69]] (by simp [size_set])) (by simp)).mono ?_
   rintro e w2 ⟨rfl, hS, hT0⟩
   have hT := (((Ext.refl _).alloc _).touch (onlyB c)).trans hT0
   rw [mayN_one] at hS ⊢
   have HV2 := Lib.hid (HV1.out.step lb hT hS)
   skip
   clear hT0 hT hS
   have hV := HV2.out
   have hRR := HR0.out
   cases hn : isT [67, 82, 69, 65, 84, 69] (c.ts i) with
   | true =>
     have ht : isT [84, 65, 66, 76, 69] (c.ts (i + 1)) = false := by have h1 := HM.out; rw [hn, Bool.true_and] at h1; exact h1
     rw [hn, if_pos rfl] at hV
     simp only [hn, if_true, Src.tail, ht, Bool.false_eq_true, if_false] at hRR
     unfold index at hRR
     have HV3 := Lib.hid hV
     have HR3 := Lib.hid hRR
     clear hV hRR hn ht HV2
     go_wp2_with fail
     refine (must_ok c (i + 1) 0 _ (HV3.out.src.ext ((Ext.refl _).alloc _)) (some _) [[73, 78, 68, 69, 88], [79, 78]] (txts_at _ [[73, 78, 68, 69, 88], [79, 78]] (by simp [size_set])) (by simp)).mono ?_
     rintro e w3 ⟨hT0, hp⟩
     have hT := (((Ext.refl _).alloc _).touch (onlyB c)).trans hT0
     have hR := HR3.out
     rw [must_two] at hR
     rcases hr : mustN c.E [[73, 78, 68, 69, 88], [79, 78]] (c.ts (i + 1)) with ⟨k, p⟩ | ⟨⟨⟩, ts⟩
     · rw [hr] at hp
       simp only [hr, bnd_error, fin_error] at hR
       obtain rfl := hp
       exact ⟨rfl, RdPost.bad hR (HV3.out.touch.trans hT)⟩
     rw [hr] at hp
     obtain ⟨v, j2, rfl, rfl, rfl, hS⟩ := hp
     simp only [hr, bnd_ok, fin_ok] at hR
     have HV4 := Lib.hid (HV3.out.step lb hT hS)
     have HR4 := Lib.hid hR
     skip
     clear hT0 hT hS hR hr
     go_wp2_with fail
     refine (name_ok c j2 0 _ HV4.out.src).mono ?_
     rintro e w4 ⟨hT, hp⟩
     have hR := HR4.out
     rcases hr : name c.E (c.ts j2) with ⟨k, p⟩ | ⟨nm, ts⟩
     · rw [hr] at hp
       simp only [hr, bnd_error, fin_error] at hR
       obtain rfl := hp
       exact ⟨rfl, RdPost.bad hR (HV4.out.touch.trans hT)⟩
     rw [hr] at hp
     obtain ⟨v, j3, rfl, rfl, rfl, hS⟩ := hp
     simp only [hr, bnd_ok, fin_ok] at hR
     have HV5 := Lib.hid (HV4.out.step lb hT hS)
     have HR5 := Lib.hid hR
     skip
     clear hT hS hR hr
     have HV6 := Lib.hid (HV5.out.kt H.out [73, 78, 68, 69, 88] nm)
     obtain ⟨a0, a1, a2, a3, a4, a5, a6, a7, a8, a9, a10, a11, a12, a13⟩ := blk14 HV5.out.blk
     have la := blk_lt HV5.out.blk
     have fa := fun k => blk_frozen HV5.out.blk k
     go_wp2
     go_meet
     case rel => exact ⟨j3, _, _, HV6.out, HR5.out⟩
   | false =>
     rw [hn, if_neg (by simp)] at hV
     simp only [hn, Bool.false_eq_true, if_false] at hRR
     have HV3 := Lib.hid hV
     have HRb := Lib.hid hRR
     clear hV hRR hn HV2 HM
     go_wp2_with fail
     refine (may_ok c i 0 _ (HV3.out.src.ext ((Ext.refl _).alloc _)) (some _) [[73, 78, 83, 69, 82, 84]] (txts_at _ [[73, 78, 83, 69, 82, 84]] (by simp [size_set])) (by simp)).mono ?_
     rintro e w3 ⟨rfl, hS, hT0⟩
     have hT := (((Ext.refl _).alloc _).touch (onlyB c)).trans hT0
     rw [mayN_one] at hS ⊢
     have HV4 := Lib.hid (HV3.out.step lb hT hS)
     skip
     clear hT0 hT hS
     have hV := HV4.out
     have hRR := HRb.out
     cases hn : isT [73, 78, 83, 69, 82, 84] (c.ts i) with
     | true =>
       rw [hn, if_pos rfl] at hV
       simp only [hn, if_true, Src.tail] at hRR
       unfold insert at hRR
       have HV5 := Lib.hid hV
       have HR5 := Lib.hid hRR
       clear hV hRR hn HV4
       go_wp2_with fail
       refine (must_ok c (i + 1) 0 _ (HV5.out.src.ext ((Ext.refl _).alloc _)) (some _) [[73, 78, 84, 79]] (txts_at _ [[73, 78, 84, 79]] (by simp [size_set])) (by simp)).mono ?_
       rintro e w4 ⟨hT0, hp⟩
       have hT := (((Ext.refl _).alloc _).touch (onlyB c)).trans hT0
       rw [mustN_one] at hp
       have hR := HR5.out
       rcases hr : must c.E [73, 78, 84, 79] (c.ts (i + 1)) with ⟨k, p⟩ | ⟨⟨⟩, ts⟩
       · rw [hr] at hp
         simp only [hr, bnd_error, fin_error] at hR
         obtain rfl := hp
         exact ⟨rfl, RdPost.bad hR (HV5.out.touch.trans hT)⟩
       rw [hr] at hp
       obtain ⟨v, j2, rfl, rfl, rfl, hS⟩ := hp
       simp only [hr, bnd_ok, fin_ok] at hR
       have HV6 := Lib.hid (HV5.out.step lb hT hS)
       have HR6 := Lib.hid hR
       skip
       clear hT0 hT hS hR hr
       go_wp2_with fail
       refine (name_ok c j2 0 _ HV6.out.src).mono ?_
       rintro e w5 ⟨hT, hp⟩
       have hR := HR6.out
       rcases hr : name c.E (c.ts j2) with ⟨k, p⟩ | ⟨nm, ts⟩
       · rw [hr] at hp
         simp only [hr, bnd_error, fin_error] at hR
         obtain rfl := hp
         exact ⟨rfl, RdPost.bad hR (HV6.out.touch.trans hT)⟩
       rw [hr] at hp
       obtain ⟨v, j3, rfl, rfl, rfl, hS⟩ := hp
       simp only [hr, bnd_ok, fin_ok] at hR
       have HV7 := Lib.hid (HV6.out.step lb hT hS)
       have HR7 := Lib.hid hR
       skip
       clear hT hS hR hr
       have HV8 := Lib.hid (HV7.out.kt H.out [73, 78, 83, 69, 82, 84] nm)
       obtain ⟨a0, a1, a2, a3, a4, a5, a6, a7, a8, a9, a10, a11, a12, a13⟩ := blk14 HV7.out.blk
       have la := blk_lt HV7.out.blk
       have fa := fun k => blk_frozen HV7.out.blk k
       go_wp2_with fail
       refine (must_ok c j3 0 _ (HV8.out.src.ext ((Ext.refl _).alloc _)) (some _) [[86, 65, 76, 85, 69, 83], [40]] (txts_at _ [[86, 65, 76, 85, 69, 83], [40]] (by simp [size_set])) (by simp)).mono ?_
       rintro e w6 ⟨hT0, hp⟩
       have hT := (((Ext.refl _).alloc _).touch (onlyB c)).trans hT0
       have hR := HR7.out
       rw [must_two] at hR
       rcases hr : mustN c.E [[86, 65, 76, 85, 69, 83], [40]] (c.ts j3) with ⟨k, p⟩ | ⟨⟨⟩, ts⟩
       · rw [hr] at hp
         simp only [hr, bnd_error, fin_error] at hR
         obtain rfl := hp
         exact ⟨rfl, RdPost.bad hR (HV8.out.touch.trans hT)⟩
       rw [hr] at hp
       obtain ⟨v, j4, rfl, rfl, rfl, hS⟩ := hp
       simp only [hr, bnd_ok, fin_ok] at hR
       have HV9 := Lib.hid (HV8.out.step lb hT hS)
       have HR9 := Lib.hid hR
       clear a0 a1 a2 a3 a4 a5 a6 a7 a8 a9 a10 a11 a12 a13 la fa
       clear hT0 hT hS hR hr
       go_wp2_with fail
       refine (list_ex c j4 0 _ HV9.out.src _ ent_expr (expr c.E) (Suf.expr c.E) (fun w i h => expr_ok c w i h)).mono ?_
       rintro e w7 ⟨hT, hp⟩
       have hR := HR9.out
       rcases hr : sep (expr c.E) (c.ts j4) with ⟨k, p⟩ | ⟨cl, ts⟩
       · rw [hr] at hp
         simp only [hr, bnd_error, fin_error] at hR
         obtain rfl := hp
         exact ⟨rfl, RdPost.bad hR (HV9.out.touch.trans hT)⟩
       rw [hr] at hp
       obtain ⟨v, j5, rfl, hv, rfl, hS⟩ := hp
       simp only [hr, bnd_ok, fin_ok] at hR
       have HVa := Lib.hid (HV9.out.step lb hT hS)
       have HRa := Lib.hid hR
       have hv3 := vls_of hv HV9.out.vb (blk_lt HV9.out.blk)
       clear hT hS hR hr
       obtain ⟨g5, c5, rfl⟩ := hv3.slice
       have HVc := Lib.hid (HVa.out.val H.out hv3)
       clear hv hv3
       obtain ⟨a0, a1, a2, a3, a4, a5, a6, a7, a8, a9, a10, a11, a12, a13⟩ := blk14 HVa.out.blk
       have la := blk_lt HVa.out.blk
       have fa := fun k => blk_frozen HVa.out.blk k
       go_wp2_with fail
       refine (must_ok c j5 0 _ (HVc.out.src.ext ((Ext.refl _).alloc _)) (some _) [[41], [70, 82, 79, 77]] (txts_at _ [[41], [70, 82, 79, 77]] (by simp [size_set])) (by simp)).mono ?_
       rintro e w8 ⟨hT0, hp⟩
       have hT := (((Ext.refl _).alloc _).touch (onlyB c)).trans hT0
       have hR := HRa.out
       rw [must_two] at hR
       rcases hr : mustN c.E [[41], [70, 82, 79, 77]] (c.ts j5) with ⟨k, p⟩ | ⟨⟨⟩, ts⟩
       · rw [hr] at hp
         simp only [hr, bnd_error, fin_error] at hR
         obtain rfl := hp
         exact ⟨rfl, RdPost.bad hR (HVc.out.touch.trans hT)⟩
       rw [hr] at hp
       obtain ⟨v, j6, rfl, rfl, rfl, hS⟩ := hp
       simp only [hr, bnd_ok, fin_ok] at hR
       have HVd := Lib.hid (HVc.out.step lb hT hS)
       have HRd := Lib.hid hR
       clear a0 a1 a2 a3 a4 a5 a6 a7 a8 a9 a10 a11 a12 a13 la fa
       clear hT0 hT hS hR hr
       go_wp2_with fail
       refine (period_ok c j6 0 _ HVd.out.src).mono ?_
       rintro e w9 ⟨hT, hp⟩
       have hR := HRd.out
       rcases hr : period c.E (c.ts j6) with ⟨k, p⟩ | ⟨pz, ts⟩
       · rw [hr] at hp
         simp only [hr, bnd_error, fin_error] at hR
         obtain rfl := hp
         exact ⟨rfl, RdPost.bad hR (HVd.out.touch.trans hT)⟩
       rw [hr] at hp
       obtain ⟨v, j7, rfl, rfl, rfl, hS⟩ := hp
       simp only [hr, bnd_ok, fin_ok] at hR
       have HVe := Lib.hid (HVd.out.step lb hT hS)
       have HRe := Lib.hid hR
       skip
       clear hT hS hR hr
       have HVf := Lib.hid (HVe.out.per H.out pz)
       obtain ⟨a0, a1, a2, a3, a4, a5, a6, a7, a8, a9, a10, a11, a12, a13⟩ := blk14 HVe.out.blk
       have la := blk_lt HVe.out.blk
       have fa := fun k => blk_frozen HVe.out.blk k
       go_wp2
       go_meet
       case rel => exact ⟨j7, _, _, HVf.out, HRe.out⟩
     | false =>
       rw [hn, if_neg (by simp)] at hV
       simp only [hn, Bool.false_eq_true, if_false] at hRR
       have HV5 := Lib.hid hV
       have HRc := Lib.hid hRR
       clear hV hRR hn HV4 HRb
       go_wp2_with fail
       refine (may_ok c i 0 _ (HV5.out.src.ext ((Ext.refl _).alloc _)) (some _) [[85, 80, 68, 65, 84, 69]] (txts_at _ [[85, 80, 68, 65, 84, 69]] (by simp [size_set])) (by simp)).mono ?_
       rintro e w4 ⟨rfl, hS, hT0⟩
       have hT := (((Ext.refl _).alloc _).touch (onlyB c)).trans hT0
       rw [mayN_one] at hS ⊢
       have HV6 := Lib.hid (HV5.out.step lb hT hS)
       skip
       clear hT0 hT hS
       have hV := HV6.out
       have hRR := HRc.out
       cases hn : isT [85, 80, 68, 65, 84, 69] (c.ts i) with
       | true =>
         rw [hn, if_pos rfl] at hV
         simp only [hn, if_true, Src.tail] at hRR
         unfold update at hRR
         have HV7 := Lib.hid hV
         have HR7 := Lib.hid hRR
         clear hV hRR hn HV6
         go_wp2_with fail
         refine (name_ok c (i + 1) 0 _ HV7.out.src).mono ?_
         rintro e w5 ⟨hT, hp⟩
         have hR := HR7.out
         rcases hr : name c.E (c.ts (i + 1)) with ⟨k, p⟩ | ⟨nm, ts⟩
         · rw [hr] at hp
           simp only [hr, bnd_error, fin_error] at hR
           obtain rfl := hp
           exact ⟨rfl, RdPost.bad hR (HV7.out.touch.trans hT)⟩
         rw [hr] at hp
         obtain ⟨v, j3, rfl, rfl, rfl, hS⟩ := hp
         simp only [hr, bnd_ok, fin_ok] at hR
         have HV8 := Lib.hid (HV7.out.step lb hT hS)
         have HR8 := Lib.hid hR
         skip
         clear hT hS hR hr
         have HV9 := Lib.hid (HV8.out.kt H.out [85, 80, 68, 65, 84, 69] nm)
         obtain ⟨a0, a1, a2, a3, a4, a5, a6, a7, a8, a9, a10, a11, a12, a13⟩ := blk14 HV8.out.blk
         have la := blk_lt HV8.out.blk
         have fa := fun k => blk_frozen HV8.out.blk k
         go_wp2_with fail
         refine (must_ok c j3 0 _ (HV9.out.src.ext ((Ext.refl _).alloc _)) (some _) [[83, 69, 84]] (txts_at _ [[83, 69, 84]] (by simp [size_set])) (by simp)).mono ?_
         rintro e w6 ⟨hT0, hp⟩
         have hT := (((Ext.refl _).alloc _).touch (onlyB c)).trans hT0
         rw [mustN_one] at hp
         have hR := HR8.out
         rcases hr : must c.E [83, 69, 84] (c.ts j3) with ⟨k, p⟩ | ⟨⟨⟩, ts⟩
         · rw [hr] at hp
           simp only [hr, bnd_error, fin_error] at hR
           obtain rfl := hp
           exact ⟨rfl, RdPost.bad hR (HV9.out.touch.trans hT)⟩
         rw [hr] at hp
         obtain ⟨v, j4, rfl, rfl, rfl, hS⟩ := hp
         simp only [hr, bnd_ok, fin_ok] at hR
         have HVa := Lib.hid (HV9.out.step lb hT hS)
         have HRa := Lib.hid hR
         clear a0 a1 a2 a3 a4 a5 a6 a7 a8 a9 a10 a11 a12 a13 la fa
         clear hT0 hT hS hR hr
         go_wp2_with fail
         refine (list_set c j4 0 _ HVa.out.src _ ent_set (setP c.E) (Suf.setP c.E) (fun w i h => set_ok c i w h)).mono ?_
         rintro e w7 ⟨hT, hp⟩
         have hR := HRa.out
         rcases hr : sep (setP c.E) (c.ts j4) with ⟨k, p⟩ | ⟨cl, ts⟩
         · rw [hr] at hp
           simp only [hr, bnd_error, fin_error] at hR
           obtain rfl := hp
           exact ⟨rfl, RdPost.bad hR (HVa.out.touch.trans hT)⟩
         rw [hr] at hp
         obtain ⟨v, j5, rfl, hv, rfl, hS⟩ := hp
         simp only [hr, bnd_ok, fin_ok] at hR
         have HVb := Lib.hid (HVa.out.step lb hT hS)
         have HRb := Lib.hid hR
         have hv3 := vls_of hv HVa.out.vb (blk_lt HVa.out.blk)
         clear hT hS hR hr
         obtain ⟨g5, c5, rfl⟩ := hv3.slice
         have HVd := Lib.hid (HVb.out.sets H.out hv3)
         clear hv hv3
         obtain ⟨a0, a1, a2, a3, a4, a5, a6, a7, a8, a9, a10, a11, a12, a13⟩ := blk14 HVb.out.blk
         have la := blk_lt HVb.out.blk
         have fa := fun k => blk_frozen HVb.out.blk k
         go_wp2_with fail
         refine (portion_ok c j5 0 _ HVd.out.src).mono ?_
         rintro e y1 ⟨hT, hp⟩
         have hR := HRb.out
         rcases hr : portion c.E (c.ts j5) with ⟨k, p⟩ | ⟨pz, ts⟩
         · rw [hr] at hp
           simp only [hr, bnd_error, fin_error] at hR
           obtain rfl := hp
           exact ⟨rfl, RdPost.bad hR (HVd.out.touch.trans hT)⟩
         rw [hr] at hp
         obtain ⟨v, k1, rfl, rfl, rfl, hS⟩ := hp
         simp only [hr, bnd_ok, fin_ok] at hR
         have HY1 := Lib.hid (HVd.out.step lb hT hS)
         have HZ1 := Lib.hid hR
         clear a0 a1 a2 a3 a4 a5 a6 a7 a8 a9 a10 a11 a12 a13 la fa
         clear hT hS hR hr
         go_wp2_with fail
         refine (where_ok c k1 _ HY1.out.src).mono ?_
         rintro e y2 ⟨hT, hp⟩
         have hR := HZ1.out
         rcases hr : whereP c.E (c.ts k1) with ⟨k, p⟩ | ⟨wl, ts⟩
         · rw [hr] at hp
           simp only [hr, bnd_error, fin_error] at hR
           obtain rfl := hp
           exact ⟨rfl, RdPost.bad hR (HY1.out.touch.trans hT)⟩
         rw [hr] at hp
         obtain ⟨v, k2, rfl, hv, rfl, hS⟩ := hp
         simp only [hr, bnd_ok, fin_ok] at hR
         have HY2 := Lib.hid (HY1.out.step lb hT hS)
         have HZ2 := Lib.hid hR
         have hv3 := vls_of hv HY1.out.vb (blk_lt HY1.out.blk)
         clear hT hS hR hr
         obtain ⟨g6, c6, rfl⟩ := hv3.slice
         have HY3 := Lib.hid (HY2.out.per H.out pz)
         have HY4 := Lib.hid (HY3.out.cond H.out (Vs.vla hv3 (fun b hb ha => vper_old pz b hb ha)))
         clear hv hv3
         obtain ⟨a0, a1, a2, a3, a4, a5, a6, a7, a8, a9, a10, a11, a12, a13⟩ := blk14 HY2.out.blk
         have la := blk_lt HY2.out.blk
         have fa := fun k => blk_frozen HY2.out.blk k
         go_wp2
         go_meet
         case rel => exact ⟨k2, _, _, HY4.out, HZ2.out⟩
       | false =>
         rw [hn, if_neg (by simp)] at hV
         simp only [hn, Bool.false_eq_true, if_false] at hRR
         have HV7 := Lib.hid hV
         have HRd := Lib.hid hRR
         clear hV hRR hn HV6 HRc
         go_wp2_with fail
         refine (may_ok c i 0 _ (HV7.out.src.ext ((Ext.refl _).alloc _)) (some _) [[68, 69, 76, 69, 84, 69]] (txts_at _ [[68, 69, 76, 69, 84, 69]] (by simp [size_set])) (by simp)).mono ?_
         rintro e w5 ⟨rfl, hS, hT0⟩
         have hT := (((Ext.refl _).alloc _).touch (onlyB c)).trans hT0
         rw [mayN_one] at hS ⊢
         have HV8 := Lib.hid (HV7.out.step lb hT hS)
         skip
         clear hT0 hT hS
         have hV := HV8.out
         have hRR := HRd.out
         cases hn : isT [68, 69, 76, 69, 84, 69] (c.ts i) with
         | true =>
           rw [hn, if_pos rfl] at hV
           simp only [hn, if_true, Src.tail] at hRR
           unfold delete at hRR
           have HV9 := Lib.hid hV
           have HR9 := Lib.hid hRR
           clear hV hRR hn HV8
           go_wp2_with fail
           refine (must_ok c (i + 1) 0 _ (HV9.out.src.ext ((Ext.refl _).alloc _)) (some _) [[70, 82, 79, 77]] (txts_at _ [[70, 82, 79, 77]] (by simp [size_set])) (by simp)).mono ?_
           rintro e w6 ⟨hT0, hp⟩
           have hT := (((Ext.refl _).alloc _).touch (onlyB c)).trans hT0
           rw [mustN_one] at hp
           have hR := HR9.out
           rcases hr : must c.E [70, 82, 79, 77] (c.ts (i + 1)) with ⟨k, p⟩ | ⟨⟨⟩, ts⟩
           · rw [hr] at hp
             simp only [hr, bnd_error, fin_error] at hR
             obtain rfl := hp
             exact ⟨rfl, RdPost.bad hR (HV9.out.touch.trans hT)⟩
           rw [hr] at hp
           obtain ⟨v, j2, rfl, rfl, rfl, hS⟩ := hp
           simp only [hr, bnd_ok, fin_ok] at hR
           have HVa := Lib.hid (HV9.out.step lb hT hS)
           have HRa := Lib.hid hR
           skip
           clear hT0 hT hS hR hr
           go_wp2_with fail
           refine (name_ok c j2 0 _ HVa.out.src).mono ?_
           rintro e w7 ⟨hT, hp⟩
           have hR := HRa.out
           rcases hr : name c.E (c.ts j2) with ⟨k, p⟩ | ⟨nm, ts⟩
           · rw [hr] at hp
             simp only [hr, bnd_error, fin_error] at hR
             obtain rfl := hp
             exact ⟨rfl, RdPost.bad hR (HVa.out.touch.trans hT)⟩
           rw [hr] at hp
           obtain ⟨v, j3, rfl, rfl, rfl, hS⟩ := hp
           simp only [hr, bnd_ok, fin_ok] at hR
           have HVb := Lib.hid (HVa.out.step lb hT hS)
           have HRb := Lib.hid hR
           skip
           clear hT hS hR hr
           have HVc := Lib.hid (HVb.out.kt H.out [68, 69, 76, 69, 84, 69] nm)
           obtain ⟨a0, a1, a2, a3, a4, a5, a6, a7, a8, a9, a10, a11, a12, a13⟩ := blk14 HVb.out.blk
           have la := blk_lt HVb.out.blk
           have fa := fun k => blk_frozen HVb.out.blk k
           go_wp2_with fail
           refine (portion_ok c j3 0 _ HVc.out.src).mono ?_
           rintro e y1 ⟨hT, hp⟩
           have hR := HRb.out
           rcases hr : portion c.E (c.ts j3) with ⟨k, p⟩ | ⟨pz, ts⟩
           · rw [hr] at hp
             simp only [hr, bnd_error, fin_error] at hR
             obtain rfl := hp
             exact ⟨rfl, RdPost.bad hR (HVc.out.touch.trans hT)⟩
           rw [hr] at hp
           obtain ⟨v, k1, rfl, rfl, rfl, hS⟩ := hp
           simp only [hr, bnd_ok, fin_ok] at hR
           have HY1 := Lib.hid (HVc.out.step lb hT hS)
           have HZ1 := Lib.hid hR
           clear a0 a1 a2 a3 a4 a5 a6 a7 a8 a9 a10 a11 a12 a13 la fa
           clear hT hS hR hr
           go_wp2_with fail
           refine (where_ok c k1 _ HY1.out.src).mono ?_
           rintro e y2 ⟨hT, hp⟩
           have hR := HZ1.out
           rcases hr : whereP c.E (c.ts k1) with ⟨k, p⟩ | ⟨wl, ts⟩
           · rw [hr] at hp
             simp only [hr, bnd_error, fin_error] at hR
             obtain rfl := hp
             exact ⟨rfl, RdPost.bad hR (HY1.out.touch.trans hT)⟩
           rw [hr] at hp
           obtain ⟨v, k2, rfl, hv, rfl, hS⟩ := hp
           simp only [hr, bnd_ok, fin_ok] at hR
           have HY2 := Lib.hid (HY1.out.step lb hT hS)
           have HZ2 := Lib.hid hR
           have hv3 := vls_of hv HY1.out.vb (blk_lt HY1.out.blk)
           clear hT hS hR hr
           obtain ⟨g6, c6, rfl⟩ := hv3.slice
           have HY3 := Lib.hid (HY2.out.per H.out pz)
           have HY4 := Lib.hid (HY3.out.cond H.out (Vs.vla hv3 (fun b hb ha => vper_old pz b hb ha)))
           clear hv hv3
           obtain ⟨a0, a1, a2, a3, a4, a5, a6, a7, a8, a9, a10, a11, a12, a13⟩ := blk14 HY2.out.blk
           have la := blk_lt HY2.out.blk
           have fa := fun k => blk_frozen HY2.out.blk k
           go_wp2
           go_meet
           case rel => exact ⟨k2, _, _, HY4.out, HZ2.out⟩
         | false =>
           rw [hn, if_neg (by simp)] at hV
           simp only [hn, Bool.false_eq_true, if_false] at hRR
           have HV9 := Lib.hid hV
           have HRe := Lib.hid hRR
           clear hV hRR hn HV8 HRd
           go_wp2_with fail
           refine (is_ok c i 0 _ (HV9.out.src.ext ((Ext.refl _).alloc _)) 1 (some _) [[66, 69, 71, 73, 78], [67, 79, 77, 77, 73, 84], [82, 79, 76, 76, 66, 65, 67, 75]] (txts_at _ [[66, 69, 71, 73, 78], [67, 79, 77, 77, 73, 84], [82, 79, 76, 76, 66, 65, 67, 75]] (by simp)) (by simp)).mono ?_
           rintro e w6 ⟨rfl, hE⟩
           have hE2 := ((Ext.refl _).alloc _).trans hE
           have HVa := Lib.hid (HV9.out.step lb (hE2.touch _) (HV9.out.src.ext hE2))
           have hany := any_word (SignOk.suf HV9.out.src.sign (List.drop_suffix i c.all)) (L := [[66, 69, 71, 73, 78], [67, 79, 77, 77, 73, 84], [82, 79, 76, 76, 66, 65, 67, 75]]) (by decide) (by simp)
           clear hE hE2
           have hRR := HRe.out
           cases h1 : isR 1 [[66, 69, 71, 73, 78], [67, 79, 77, 77, 73, 84], [82, 79, 76, 76, 66, 65, 67, 75]] (c.ts i) with
           | true =>
             have hA : anyT [[66, 69, 71, 73, 78], [67, 79, 77, 77, 73, 84], [82, 79, 76, 76, 66, 65, 67, 75]] (c.ts i) = true := hany.trans h1
             rw [if_pos hA] at hRR
             have hj := any_lt hA
             obtain ⟨tb, tk, hg, ht, hb, hbn, hts, c0, c1, c2, c3⟩ := HVa.out.src.at hj
             have z := tidx_ok hg hj
             have hRk : R = .ok ({ St.none with kind := tk.2.1 }, c.ts (i + 1)) := by rw [hRR, Src.tail, hts]; rfl
             have HRk := Lib.hid hRk
             obtain ⟨q0, q1, q2, q3⟩ := blk4 HVa.out.src.blk
             have lb2 := blk_lt HVa.out.src.blk
             have fz := blk_frozen HVa.out.src.blk 1
             have hsm := HVa.out.src.small
             have hvb2 := HVa.out.vb
             have hvs : vb ≠ c.sb := by omega
             have HVb := Lib.hid ((HVa.out.kd H.out tk.2.1).adv H.out hj)
             obtain ⟨a0, a1, a2, a3, a4, a5, a6, a7, a8, a9, a10, a11, a12, a13⟩ := blk14 HVa.out.blk
             have la := blk_lt HVa.out.blk
             have fa := fun k => blk_frozen HVa.out.blk k
             have hw1 : IntKind.i64.wrap ((i : Int) + 1) = (i : Int) + 1 := by rw [IntKind.wrap_i64]; omega
             clear hA hany h1 hRR hg ht hts c0 c2 c3 hRk a1 a2 a3 a4 a5 a6 a7 a8 a9 a10 a11 a12 a13
             go_wp2
             refine region_calm [.p 0, .p 1, .p 2, .l 3, .p 4, .p 5, .p 6, .l 7, .p 8, .p 9, .l 10, .p 11, .h 12 false] f_mixed (by kernel_rfl) (by kernel_rfl) ?_
             repeat ((first | refine plan_p rfl (fun K hK => ?_) | refine plan_l rfl (fun K hK => ?_)); go_simp; refine hK _ ?_; clear hK K)
             refine plan_c rfl rfl (fun K _ hK => ?_)
             go_wp2_with fail
             refine plan_done ?_
             go_wp2
             go_meet
             case rel => exact ⟨i + 1, _, _, HVb.out.step lb (((Ext.refl _).drew).touch _) (HVb.out.src.ext (Ext.refl _).drew), HRk.out⟩
           | false =>
             have hA : anyT [[66, 69, 71, 73, 78], [67, 79, 77, 77, 73, 84], [82, 79, 76, 76, 66, 65, 67, 75]] (c.ts i) = false := hany.trans h1
             rw [if_neg (by rw [hA]; simp)] at hRR
             have HRf := Lib.hid hRR
             clear hA hany h1 hRR
             go_wp2_with fail
             refine (selects_ok c i _ HVa.out.src).mono ?_
             rintro e w7 ⟨hT, hp⟩
             have hR := HRf.out
             rcases hr : selects c.E (c.ts i) with ⟨k, p⟩ | ⟨x, ts⟩
             · rw [hr] at hp hR
               obtain rfl := hp
               exact ⟨rfl, RdPost.bad hR (HVa.out.touch.trans hT)⟩
             rw [hr] at hp hR
             obtain ⟨v, j2, rfl, ⟨cs, rfl, ⟨vv, rfl, hok⟩⟩, rfl, hS⟩ := hp
             have HVb := Lib.hid (HVa.out.step lb hT hS)
             have HRg := Lib.hid hR
             have HOK := Lib.hid (hok.keep (w' := w7) (A' := fun b => w.heap.size < b ∧ b ≠ vb) (fun b hb ha => ⟨rfl, by have := blk_lt HVa.out.blk; have := HVa.out.vb; omega⟩))
             clear hT hS hr hR hok
             obtain ⟨vcol, vkey, vval, vset, vcond, vqu, vop, vasof, vdur, vord⟩ := vv
             have hsh := HOK.out
             obtain ⟨g1, c1, e1⟩ := hsh.col.slice
             obtain ⟨g2, c2, e2⟩ := hsh.key.slice
             obtain ⟨g3, c3, e3⟩ := hsh.val.slice
             obtain ⟨g4, c4, e4⟩ := hsh.set.slice
             obtain ⟨g5, c5, e5⟩ := hsh.cond.slice
             obtain ⟨g6, c6, e6⟩ := hsh.qu.slice
             obtain ⟨g7, c7, e7⟩ := hsh.op.slice
             obtain ⟨g8, c8, e8⟩ := hsh.asof.slice
             obtain ⟨g9, c9, e9⟩ := hsh.dur.slice
             obtain ⟨g10, c10, e10⟩ := hsh.ord.slice
             simp only at e1 e2 e3 e4 e5 e6 e7 e8 e9 e10
             clear hsh
             subst e1 e2 e3 e4 e5 e6 e7 e8 e9 e10
             have HVc := Lib.hid (HVb.out.all H.out HOK.out)
             obtain ⟨a0, a1, a2, a3, a4, a5, a6, a7, a8, a9, a10, a11, a12, a13⟩ := blk14 HVb.out.blk
             have la := blk_lt HVb.out.blk
             have fa := fun k => blk_frozen HVb.out.blk k
             rw [show (stCells x ⟨slv g1 x.columns.length c1, slv g2 x.keys.length c2, slv g3 x.values.length c3, slv g4 x.sets.length c4, slv g5 x.cond.length c5, slv g6 x.query.length c6, slv g7 x.ops.length c7, slv g8 x.asOf.length c8, slv g9 x.during.length c9, slv g10 x.order.length c10⟩).toArray = #[str x.kind, str x.table, slv g1 x.columns.length c1, slv g2 x.keys.length c2, slv g3 x.values.length c3, slv g4 x.sets.length c4, .int .i64 (x.period.1 : Int), .int .i64 (x.period.2 : Int), slv g5 x.cond.length c5, slv g6 x.query.length c6, slv g7 x.ops.length c7, slv g8 x.asOf.length c8, slv g9 x.during.length c9, slv g10 x.order.length c10] from rfl]
             go_wp2
             go_meet
             case rel => exact ⟨j2, _, _, HVc.out, HRg.out⟩
end Go.Proofs.YtkhnpmeohjafiaaGreatDoor
