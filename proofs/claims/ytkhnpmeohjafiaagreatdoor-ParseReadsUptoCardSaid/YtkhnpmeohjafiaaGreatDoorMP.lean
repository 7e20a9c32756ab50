/- Lemmas. -/
import Derived.Test.YtkhnpmeohjafiaaGreatDoorMPrN
import Derived.Tactics2
import Derived.Defers
import Derived.Recover
import Derived.Laws.Pointers
import Derived.Deep.RegionWith
set_option maxHeartbeats 16000000
set_option maxRecDepth 100000
namespace Go.Proofs.YtkhnpmeohjafiaaGreatDoor
open Go.RowKit
section
variable {P : Program} {ops : Array Oper} {Q : Exit → Act → List Frame → World → Prop} {cs cs' : List Frame}
theorem wpOpsS_list {K : Act → World → Prop} (hK : ∀ a w, K a w → Q .normal a cs w) : ∀ (l : List Nat) (a : Act) (w : World),
   wpList P ops (Exit.then K (fun _ _ _ => False)) (l.filterMap fun i => ops[i]?) a w → wpOpsS P ops Q l a cs w
 | [], a, w, h => hK a w h
 | i :: rest, a, w, h => by
   unfold wpOpsS
   cases ho : ops[i]? with
   | none =>
     simp only [List.filterMap_cons, ho] at h
     exact wpOpsS_list hK rest a w h
   | some o =>
     simp only [List.filterMap_cons, ho] at h
     unfold wpList at h
     simp only []
     split at h
     · rename_i hw
       rw [if_pos hw]
       rcases h with h | ⟨_, a0, w0, h0⟩
       · unfold Oper.wp at h
         generalize (execOp a.eval o).run P w = r at h ⊢
         cases r with
         | ok n w' =>
           cases n <;> simp only [Oper.upon] at h ⊢
           case value v => exact wpOpsS_list hK rest _ _ h
           case skip => exact wpOpsS_list hK rest _ _ h
           case defer d => exact wpOpsS_list hK rest _ _ h
           case enter f args =>
            refine h.mono fun e w'' he => ?_
            cases e with
            | returned v => exact wpOpsS_list hK rest _ _ he
            | panicked c => exact he.elim
            | outgrown => obtain ⟨_, _, he⟩ := he; exact he.elim
           case row row args => exact h.mono fun v w'' he => wpOpsS_list hK rest _ _ he
         | halt x w' => cases x <;> simp only [Oper.upon] at h ⊢; exact h.elim
       · exact h0.elim
     · rename_i hw
       rw [if_neg hw]
       exact wpOpsS_list hK rest _ _ h
theorem wpOpsS_recover {i : Nat} {rest : List Nat} {o : Oper} {a : Act} {w w' : World} {v : Value} {r : List Oper} (ho : ops.toList.drop i = o :: r) (hg : o.guard = none) (hr : (execOp a.eval o).run P w = .ok .recover w') (hc : recoverD cs = some (v, cs'))
  (h : wpOpsS P ops Q rest (a.put o.dst v) cs' w') : wpOpsS P ops Q (i :: rest) a cs w := by
 unfold wpOpsS
 simp only [at_drop ho, Region.wanted, hg, if_true, hr, hc]
 exact h
theorem wpOpsS_idle {i : Nat} {rest : List Nat} {o : Oper} {a : Act} {w w' : World} {r : List Oper} (ho : ops.toList.drop i = o :: r) (hg : o.guard = none) (hr : (execOp a.eval o).run P w = .ok .recover w') (hc : recoverD cs = none)
  (h : wpOpsS P ops Q rest (a.put o.dst .nilIface) cs w') : wpOpsS P ops Q (i :: rest) a cs w := by
 unfold wpOpsS
 simp only [at_drop ho, Region.wanted, hg, if_true, hr, hc]
 exact h
theorem wpS_region_rec {id : Nat} {a : Act} {w w' : World} {rest : List Nat} {o : Oper} {v : Value} {r : List Oper} (K : Act → World → Prop) (hl : List.range ops.size = 0 :: rest) (ho : ops.toList.drop 0 = o :: r) (hg : o.guard = none)
  (hr : (execOp a.eval o).run P w = .ok .recover w') (hc : recoverD cs = some (v, cs')) (hK : ∀ a w, K a w → Q .normal a cs' w) (hls : (rest.filterMap fun i => ops[i]?) = r)
  (h : wpList P ops (Exit.then K (fun _ _ _ => False)) r (a.put o.dst v) w') : (Code.region id ops false).wpS P Q a cs w := by
 rw [← hls] at h
 refine wpS_region ?_
 rw [hl]
 exact wpOpsS_recover ho hg hr hc (wpOpsS_list hK _ _ _ h)
theorem wpS_region_idle {id : Nat} {a : Act} {w w' : World} {rest : List Nat} {o : Oper} {r : List Oper} (K : Act → World → Prop) (hl : List.range ops.size = 0 :: rest) (ho : ops.toList.drop 0 = o :: r) (hg : o.guard = none)
  (hr : (execOp a.eval o).run P w = .ok .recover w') (hc : recoverD cs = none) (hK : ∀ a w, K a w → Q .normal a cs w) (hls : (rest.filterMap fun i => ops[i]?) = r)
  (h : wpList P ops (Exit.then K (fun _ _ _ => False)) r (a.put o.dst .nilIface) w') : (Code.region id ops false).wpS P Q a cs w := by
 rw [← hls] at h
 refine wpS_region ?_
 rw [hl]
 exact wpOpsS_idle ho hg hr hc (wpOpsS_list hK _ _ _ h)
end
theorem blk_dr {w : World} {b : Nat} {o : Obj} (h : w.heap[b]? = some o) : w.drew.heap[b]? = some o := h
theorem Touch.both {S : Nat → Prop} {a b : World} (h : Touch S a b) : Touch S a.drew b.drew := ⟨h.os, h.tape, h.output, h.size, h.block⟩
theorem assert_yes (w : World) (v : Value) : (Instr.typeAssert (.iface 59 v) 20 59 true).run Tryz.prog w = .ok (.tuple #[v, .bool true]) w := by kernel_rfl
theorem assert_no (w : World) : (Instr.typeAssert .nilIface 20 59 true).run Tryz.prog w = .ok (.tuple #[.agg #[.int .i64 0, .int .i64 0], .bool false]) w := by kernel_rfl
abbrev brkn (code q : Int) : List PanicEntry := [{ v := .iface 59 (.agg #[.int .i64 code, .int .i64 q]), recovered := false }]
theorem catch_idle (vb fb : Nat) (w : World) :
  CallsD Tryz.prog 18 #[Value.pointer (some ⟨vb, 0, none⟩), .pointer (some ⟨fb, 0, none⟩)] .returning w fun e u' w' =>
   e = .returned (.tuple #[]) ∧ u' = .returning ∧ Ext w w' := by
 refine callsD_of_wpS Tryz.func18 rfl fun c₀ cs hu => ?_
 rw [show (#[Value.pointer (some ⟨vb, 0, none⟩), .pointer (some ⟨fb, 0, none⟩)] ++ Array.replicate (Tryz.f18.ntmps - #[Value.pointer (some ⟨vb, 0, none⟩), .pointer (some ⟨fb, 0, none⟩)].size) undef) =
  #[Value.pointer (some ⟨vb, 0, none⟩), .pointer (some ⟨fb, 0, none⟩), undef, undef, undef, undef, undef, undef, undef, undef, undef, undef, undef] from by rw [Tryz.ntmps18]; rfl]
 apply wpS_seq
 have hmode : recoverD (c₀ :: cs) = none := by simp [recoverD, hu]
 refine wpS_region_idle (rest := [1, 2, 3, 4, 5, 6, 7]) (fun a w' => Code.wp Tryz.prog _ (fun e a' w' => _) a w') (by kernel_rfl) rfl rfl (w' := w) rfl hmode (fun a w' h => wpS_of_wp h) (by kernel_rfl) ?h5
 have HU := Lib.hid hu
 clear hmode hu
 have hta := assert_no
 go_wp2
 refine ⟨rfl, .returning, by rw [← HU.out], .tuple #[], results_none rfl _ _ _, rfl, rfl, (Ext.refl w).alloc _⟩
theorem catch_panicking (vb fb : Nat) (code q : Int) (v0 v1 v2 v3 v4 v5 v6 v7 v8 v9 v10 v11 v12 v13 f0 f1 : Value) (w : World) (hv : w.heap[vb]? = some (.cells #[v0, v1, v2, v3, v4, v5, v6, v7, v8, v9, v10, v11, v12, v13] 33 (0, 0))) (hf : w.heap[fb]? = some (.cells #[f0, f1] 36 (0, 0))) (hne : vb ≠ fb) :
   CallsD Tryz.prog 18 #[Value.pointer (some ⟨vb, 0, none⟩), .pointer (some ⟨fb, 0, none⟩)] (.panicking (brkn code q)) w fun e u' w' =>
    e = .returned (.tuple #[]) ∧ u' = .panicking [{ v := .iface 59 (.agg #[.int .i64 code, .int .i64 q]), recovered := true }] ∧
    w'.heap[vb]? = some zSt ∧ w'.heap[fb]? = some (.cells #[.int .i64 code, .int .i64 q] 36 (0, 0)) ∧ Touch (fun b => b = vb ∨ b = fb) w w' := by
 refine callsD_of_wpS Tryz.func18 rfl fun c₀ cs hu => ?_
 rw [show (#[Value.pointer (some ⟨vb, 0, none⟩), .pointer (some ⟨fb, 0, none⟩)] ++ Array.replicate (Tryz.f18.ntmps - #[Value.pointer (some ⟨vb, 0, none⟩), .pointer (some ⟨fb, 0, none⟩)].size) undef) =
   #[Value.pointer (some ⟨vb, 0, none⟩), .pointer (some ⟨fb, 0, none⟩), undef, undef, undef, undef, undef, undef, undef, undef, undef, undef, undef] from by rw [Tryz.ntmps18]; rfl]
 apply wpS_seq
 have hmode : recoverD (c₀ :: cs) = some (.iface 59 (.agg #[.int .i64 code, .int .i64 q]), { c₀ with mode := .panicking [{ v := .iface 59 (.agg #[.int .i64 code, .int .i64 q]), recovered := true }] } :: cs) := by simp [recoverD, hu]
 refine wpS_region_rec (rest := [1, 2, 3, 4, 5, 6, 7]) (fun a w' => Code.wp Tryz.prog _ (fun e a' w' => _) a w') (by kernel_rfl) rfl rfl (w' := w) rfl hmode (fun a w' h => wpS_of_wp h) (by kernel_rfl) ?h5
 generalize hcs : ({ c₀ with mode := .panicking [{ v := .iface 59 (.agg #[.int .i64 code, .int .i64 q]), recovered := true }] } : Frame) = c1
 have HCS := Lib.hid hcs
 obtain ⟨a0, a1, a2, a3, a4, a5, a6, a7, a8, a9, a10, a11, a12, a13⟩ := blk14 hv
 obtain ⟨e1, e2⟩ := blk2 hf
 clear hmode hcs
 have hta := assert_yes
 go_wp2
 clear hta
 have hE : Ext w (w.alloc (.cells #[.int .i64 code, .int .i64 q] 59)) := (Ext.refl w).alloc _
 have hv' := Ext.block hE hv
 have hf' := Ext.block hE hf
 obtain ⟨x0, x1⟩ := blk2 (blk_new w (.cells #[.int .i64 code, .int .i64 q] 59))
 have hnb : vb < w.heap.size ∧ fb < w.heap.size := ⟨blk_lt hv, blk_lt hf⟩
 clear a0 a1 a2 a3 a4 a5 a6 a7 a8 a9 a10 a11 a12 a13 e1 e2
 generalize w.alloc (.cells #[.int .i64 code, .int .i64 q] 59) = W at *
 generalize w.heap.size = xb at *
 obtain ⟨a0, a1, a2, a3, a4, a5, a6, a7, a8, a9, a10, a11, a12, a13⟩ := blk14 hv'
 obtain ⟨e1, e2⟩ := blk2 hf'
 have z0 := fun k => blk_frozen hv' k
 have z1 := blk_frozen hf' 0
 have z2 := blk_frozen hf' 1
 have hn1 : ¬ vb = xb := by omega
 have hn2 : ¬ fb = xb := by omega
 have hkeep : Hid (W.heap[fb]? = some (.cells #[f0, f1] 36 (0, 0))) := Lib.hid hf'
 letI : Tch.TS := ⟨fun b => b = vb⟩
 refine Tch.region_calm [.p 0, .p 1, .e 2, .h 3 true, .h 4 false] f_mixed (by kernel_rfl) (by kernel_rfl) ?_
 repeat (refine Tch.plan_p rfl (fun K hK => ?_); go_simp; refine hK _ ?_; clear hK K)
 refine Tch.plan_e1 rfl rfl (.agg #[.int .i64 code, .int .i64 q]) (fun w' he => ?_) (fun K hK => ?_)
 · have d1 := Touch.cell he x0 (fun e => hn1 e.symm)
   have d2 := Touch.cell he x1 (fun e => hn1 e.symm)
   clear x0 x1 he
   go_simp
 go_simp; refine hK _ ?_; clear hK K
 refine Tch.plan_ct rfl rfl (fun K _ hK => ?_)
 go_wp2_with fail
 refine hK _ _ (Touch.both (wr14_touch W vb _ _ _ _ _ _ _ _ _ _ _ _ _ _)) ?_
 clear hK K
 have hfw := (wr14_touch W vb (.string (ByteArray.mk #[])) (.string (ByteArray.mk #[])) (.slice none 0 0) (.slice none 0 0) (.slice none 0 0) (.slice none 0 0) (.int .i64 0) (.int .i64 0) (.slice none 0 0) (.slice none 0 0) (.slice none 0 0) (.slice none 0 0) (.slice none 0 0) (.slice none 0 0)).old hf' (fun e => hne e.symm)
 refine Tch.plan_c rfl rfl (fun K _ hK => ?_)
 go_wp2_with fail
 refine tch_done ?_
 go_wp2
 refine ⟨rfl, .panicking [{ v := .iface 59 (.agg #[.int .i64 code, .int .i64 q]), recovered := true }], by rw [← HCS.out], .tuple #[], results_none rfl _ _ _, rfl, rfl, ?_, ?_, ?_⟩
 · exact blk_dr (blk_set_ne (blk_set_ne (wr14_blk hv' _ _ _ _ _ _ _ _ _ _ _ _ _ _) hne _) hne _)
 · exact blk_dr (blk_set (blk_set ((wr14_touch W vb _ _ _ _ _ _ _ _ _ _ _ _ _ _).old hf' (fun e => hne e.symm)) 0 _) 1 _)
 · exact ((((hE.touch (fun b => b = vb ∨ b = fb)).trans ((wr14_touch W vb _ _ _ _ _ _ _ _ _ _ _ _ _ _).mono (fun b _ e => .inl e))).setCell (p := ⟨fb, 0, none⟩) (fun _ => .inr rfl) _).setCell (p := ⟨fb, 1, none⟩) (fun _ => .inr rfl) _).drew
theorem lexOf_code {l : List UInt8} {f : Nat × Nat} (h : lexOf l = .inl f) : f.1 = 2 ∨ f.1 = 140 := by
 unfold lexOf at h
 split at h
 · cases h; exact .inl rfl
 · split at h <;> cases h
   exact .inr rfl
theorem toks_few : ∀ (f p : Nat) (l : List UInt8) (ts : List Tok), toks f p l = .inr ts → ts.length ≤ f := by
 intro f
 induction f with
 | zero => intro p l ts h; cases l <;> simp [toks] at h <;> (try subst h) <;> simp
 | succ f ih =>
   intro p l ts h
   cases l with
   | nil => simp [toks] at h; subst h; simp
   | cons x r =>
     simp only [toks] at h
     split at h
     · have := ih _ _ _ h; omega
     · split at h
       · cases h
       · rename_i k s n m ho
         cases hh : toks f (p + m) ((x :: r).drop m) with
         | inl q => rw [hh] at h; cases h
         | inr us =>
           rw [hh] at h
           simp only [consT] at h
           cases h
           have := ih _ _ _ hh
           simp; omega
theorem lexOf_few {l : List UInt8} {ts : List Tok} (h : lexOf l = .inr ts) : ts.length ≤ 4096 := by
 unfold lexOf at h
 split at h
 · cases h
 · rename_i hlt
   unfold tk at h
   split at h
   · cases h
   · rename_i hh
     cases h
     have := toks_few _ _ _ _ hh
     omega
def PP (R : (Nat × Nat) ⊕ St) (w : World) (e : Ending) (w' : World) : Prop :=
 Ext w w' ∧ match R with
  | .inl f => e = .returned (.tuple #[.agg zStL.toArray, .agg #[.int .i64 (f.1 : Int), .int .i64 (f.2 : Int)]])
  | .inr x => ∃ v, e = .returned (.tuple #[.agg (stCells x v).toArray, .agg #[.int .i64 0, .int .i64 0]]) ∧ StOk w' (fun b => w.heap.size ≤ b) x v
abbrev zFault : Obj := .cells #[.int .i64 0, .int .i64 0] 36
theorem ret_two {R : (Nat × Nat) ⊕ St} {w U : World} {tmps : Array Value} {xb fb : Nat} {T T' : TypeId} {f f' : Nat × Nat} {v0 v1 v2 v3 v4 v5 v6 v7 v8 v9 v10 v11 v12 v13 c0 c1 : Value} (h2 : tmps.getD 2 undef = .pointer (some ⟨xb, 0, none⟩)) (h3 : tmps.getD 3 undef = .pointer (some ⟨fb, 0, none⟩))
  (hX : U.heap[xb]? = some (.cells #[v0, v1, v2, v3, v4, v5, v6, v7, v8, v9, v10, v11, v12, v13] T f)) (hF : U.heap[fb]? = some (.cells #[c0, c1] T' f')) (h : PP R w (.returned (.tuple #[.agg #[v0, v1, v2, v3, v4, v5, v6, v7, v8, v9, v10, v11, v12, v13], .agg #[c0, c1]])) U) :
  bodyPostD Tryz.prog Tryz.f9 (PP R w) .ret ⟨tmps, []⟩ U := by
 obtain ⟨k0, k1, k2, k3, k4, k5, k6, k7, k8, k9, k10, k11, k12, k13⟩ := blk14 hX
 obtain ⟨m1, m2⟩ := blk2 hF
 rw [Array.getD_eq_getD_getElem?] at h2 h3
 simp [bodyPostD, Leaves, settle, results, Tryz.results9, go_sem, h2, h3, k0, k1, k2, k3, k4, k5, k6, k7, k8, k9, k10, k11, k12, k13, m1, m2]
 exact h
theorem Parse_ok (l : List UInt8) (w : World) (hl : l.length ≤ 1000000000) :
   Calls Tryz.prog 9 #[str l] w (PP (parseOf l) w) := by
 have hsz := bs_size l
 have hmf : ∀ (fn : Fn) (first cap : Array Value) (w : World), (Instr.makeFunc fn first cap).run Tryz.prog w = .ok (.func fn first cap) w := fun _ _ _ _ => rfl
 obtain ⟨R, hR⟩ : ∃ R, R = parseOf l := ⟨_, rfl⟩
 rw [← hR]
 unfold parseOf at hR
 have HR := Lib.hid hR
 clear hR
 have h0 := blk_alloc (o' := zFault) (blk_new w zSt)
 have h1 : ((w.alloc zSt).alloc zFault).heap[w.heap.size + 1]? = some zFault := blk_new_at _ (by simp)
 have HX := Lib.hid h0
 have HF := Lib.hid h1
 clear h0 h1
 go_enter_defers Tryz.func9, Tryz.ntmps9
 go_wp2_with fail
 refine (tokens_ok l _ hl).mono ?_
 rintro e w1 ⟨hE, hp⟩
 have HX1 := Lib.hid (Ext.block hE HX.out)
 have HF1 := Lib.hid (Ext.block hE HF.out)
 have HE1 := Lib.hid ((((Ext.refl w).alloc zSt).alloc zFault).trans hE)
 have hsz1 : w.heap.size + 2 ≤ w1.heap.size := by have := hE.size; simp at this; omega
 clear hE HX HF
 rcases hx : lexOf l with f | ts
 · rw [hx] at hp
   obtain rfl := hp
   obtain ⟨f1, f2⟩ := f
   have HRP : Hid (R = .inl (f1, f2)) := by have h1 := HR.out; rw [hx] at h1; exact Lib.hid h1
   obtain ⟨e1, e2⟩ := blk2 HF1.out
   have z1 := blk_frozen HF1.out 0
   have z2 := blk_frozen HF1.out 1
   have hk : ((f1 : Int) != 0) = true := by
     have h1 : f1 = 2 ∨ f1 = 140 := lexOf_code hx
     rcases h1 with rfl | rfl <;> rfl
   clear hx HR
   go_wp2
   refine wp_at (fun W => W.heap[w.heap.size]? = some zSt ∧ W.heap[w.heap.size + 1]? = some (.cells #[.int .i64 (f1 : Int), .int .i64 (f2 : Int)] 36) ∧ Ext w W) ⟨?_, ?_, ?_⟩ ?_
   · exact blk_set_ne (blk_set_ne HX1.out (by simp) _) (by simp) _
   · exact blk_set (blk_set HF1.out 0 _) 1 _
   · exact Touch.ext (((HE1.out.touch (fun b => b = w.heap.size + 1)).setCell (p := ⟨w.heap.size + 1, 0, none⟩) (fun _ => rfl) _).setCell (p := ⟨w.heap.size + 1, 1, none⟩) (fun _ => rfl) _) (fun i hi e => by omega)
   rintro W ⟨hXW, hFW, hEW⟩
   clear e1 e2 z1 z2 hk
   obtain ⟨xb, hxb⟩ : ∃ xb, xb = w.heap.size := ⟨_, rfl⟩
   obtain ⟨fb, hfb⟩ : ∃ fb, fb = w.heap.size + 1 := ⟨_, rfl⟩
   rw [← hfb] at hFW ⊢
   rw [← hxb] at hXW ⊢
   have HB := Lib.hid (show xb ≠ fb ∧ w.heap.size ≤ xb ∧ w.heap.size ≤ fb by omega)
   have HEW := Lib.hid hEW
   have hne : xb ≠ fb := HB.out.1
   clear hxb hfb hEW
   have hXW' := hXW
   have hFW' := hFW
   have HXW := Lib.hid hXW'
   have HFW := Lib.hid hFW'
   obtain ⟨a0, a1, a2, a3, a4, a5, a6, a7, a8, a9, a10, a11, a12, a13⟩ := blk14 hXW
   obtain ⟨e1, e2⟩ := blk2 hFW
   have z0 := fun k => blk_frozen hXW k
   have z1 := blk_frozen hFW 0
   have z2 := blk_frozen hFW 1
   have hn1 := blk_lt hXW
   have hn2 := blk_lt hFW
   clear hXW hFW hXW' hFW'
   letI : Tch.TS := ⟨fun b => b = xb⟩
   refine Tch.region_calm [.p 0, .e 1, .h 2 true, .h 3 false] f_mixed (by kernel_rfl) (by kernel_rfl) ?_
   repeat (refine Tch.plan_p rfl (fun K hK => ?_); go_simp; refine hK _ ?_; clear hK K)
   refine Tch.plan_e1 rfl rfl (.agg #[.int .i64 (f1 : Int), .int .i64 (f2 : Int)]) (fun w' he => ?_) (fun K hK => ?_)
   · have d1 := Touch.cell he e1 (fun e => hne e.symm)
     have d2 := Touch.cell he e2 (fun e => hne e.symm)
     clear e1 e2 he
     go_simp
   go_simp; refine hK _ ?_; clear hK K
   refine Tch.plan_ct rfl rfl (fun K _ hK => ?_)
   go_wp2_with fail
   refine hK _ _ (Touch.both (wr14_touch W xb _ _ _ _ _ _ _ _ _ _ _ _ _ _)) ?_
   clear hK K
   refine Tch.plan_c rfl rfl (fun K _ hK => ?_)
   go_wp2_with fail
   refine tch_done ?_
   go_wp2
   refine ret_two rfl rfl (blk_dr (blk_set_ne (blk_set_ne (wr14_blk HXW.out _ _ _ _ _ _ _ _ _ _ _ _ _ _) hne _) hne _)) (blk_dr (blk_set (blk_set ((wr14_touch W xb _ _ _ _ _ _ _ _ _ _ _ _ _ _).old HFW.out (fun e => hne e.symm)) 0 _) 1 _)) ?_
   rw [HRP.out]
   refine ⟨?_, rfl⟩
   exact Touch.ext ((((HEW.out.touch (fun b => b = xb ∨ b = fb)).trans ((wr14_touch W xb _ _ _ _ _ _ _ _ _ _ _ _ _ _).mono (fun b _ e => .inl e))).setCell (p := ⟨fb, 0, none⟩) (fun _ => .inr rfl) _).setCell (p := ⟨fb, 1, none⟩) (fun _ => .inr rfl) _).drew (fun i hi e => by have := HB.out; omega)
 · rw [hx] at hp
   obtain ⟨g, cap, rfl, hS, hown⟩ := hp
   obtain ⟨e1, e2⟩ := blk2 HF1.out
   have z1 := blk_frozen HF1.out 0
   have z2 := blk_frozen HF1.out 1
   have HS0 := Lib.hid hS
   have HOW := Lib.hid hown
   have hR1 := HR.out
   rw [hx] at hR1
   have HR1 := Lib.hid hR1
   have hsg := lexOf_sign hx
   have hlen : ts.length ≤ 4096 := lexOf_few hx
   have HSG := Lib.hid hsg
   clear hS hown hR1 hsg hx HR
   go_wp2_with fail
   generalize hU : (((w1.setCell { block := w.heap.size + 1, off := 0 } (.int .i64 0)).setCell { block := w.heap.size + 1, off := 1 } (.int .i64 0)).alloc (.cells #[slv g ts.length cap, .int .i64 0, .int .i64 (l.length : Int), .int .i64 0] 63)) = U
   have hUf : U.heap[w.heap.size + 1]? = some zFault ∧ U.heap[w.heap.size]? = some zSt ∧ Ext w U ∧ U.heap[w1.heap.size]? = some (.cells #[slv g ts.length cap, .int .i64 0, .int .i64 (l.length : Int), .int .i64 0] 63 (0, 0)) ∧ Sl U 102 4 g ts.length cap (flatT ts) := by
     subst hU
     refine ⟨blk_alloc (blk_set (blk_set HF1.out 0 _) 1 _), blk_alloc (blk_set_ne (blk_set_ne HX1.out (by simp) _) (by simp) _), ?_, blk_new_at _ (by simp only [size_set]), ?_⟩
     · exact Touch.ext ((((HE1.out.touch (fun b => b = w.heap.size + 1)).setCell (p := ⟨w.heap.size + 1, 0, none⟩) (fun _ => rfl) _).setCell (p := ⟨w.heap.size + 1, 1, none⟩) (fun _ => rfl) _).alloc _) (fun i hi e => by omega)
     · have hT : Touch (fun b => b = w.heap.size + 1) w1 (((w1.setCell { block := w.heap.size + 1, off := 0 } (.int .i64 0)).setCell { block := w.heap.size + 1, off := 1 } (.int .i64 0)).alloc (.cells #[slv g ts.length cap, .int .i64 0, .int .i64 (l.length : Int), .int .i64 0] 63)) := (((Touch.refl (fun b => b = w.heap.size + 1) w1).setCell (p := ⟨w.heap.size + 1, 0, none⟩) (fun _ => rfl) _).setCell (p := ⟨w.heap.size + 1, 1, none⟩) (fun _ => rfl) _).alloc _
       exact HS0.out.touch hT (fun b hb e => by have := HOW.out b hb; simp at this; omega)
   obtain ⟨hUF, hUX, hUE, hUS, hUT⟩ := hUf
   clear hU e1 e2 z1 z2
   obtain ⟨c, hc⟩ : ∃ c : Cx, c = ⟨w1.heap.size, g, cap, ts, l.length⟩ := ⟨_, rfl⟩
   have HSRC : Hid (Src U c 0 0) := by
     subst hc
     exact Lib.hid ⟨by simpa using hUS, hUT, Nat.zero_le _, HSG.out, hlen, by omega⟩
   obtain ⟨hc1, hc2, hc3, hc4, hc5, hc6⟩ : w1.heap.size = c.sb ∧ c.ts 0 = ts ∧ c.E = l.length ∧ slv g ts.length cap = slv c.g c.all.length c.cap ∧ ts.length = c.all.length ∧ (∀ b, c.g = some b → w.heap.size + 2 ≤ b) := by
     subst hc
     exact ⟨rfl, rfl, rfl, rfl, rfl, fun b hb => by have := HOW.out b hb; simp at this; omega⟩
   have HGO := Lib.hid hc6
   rw [hc1, hc4]
   have hsb : w.heap.size + 2 ≤ c.sb := by omega
   have hR1 := HR1.out
   rw [← hc3, ← hc2] at hR1
   unfold whole at hR1
   have HR2 := Lib.hid hR1
   have HUF := Lib.hid hUF
   have HUX := Lib.hid hUX
   have HUE := Lib.hid hUE
   clear hR1 HR1 hc hc1 hc2 hc3 hc4 hc5 hc6 hUF hUX hUE hUS hUT HS0 HOW HSG hlen
   refine (statement_ok c 0 U HSRC.out).mono ?_
   rintro e w3 ⟨hT, hp⟩
   have hR2 := HR2.out
   have hVx := hT.old HUX.out (fun e => by have h1 : w.heap.size = c.sb := e; omega)
   have hFx := hT.old HUF.out (fun e => by have h1 : w.heap.size + 1 = c.sb := e; omega)
   have hEx : Ext w w3 := Touch.ext ((HUE.out.touch _).trans hT) (fun i hi e => by have h1 : i = c.sb := e; omega)
   have hT3 := HSRC.out.blk
   rcases hr : stmt c.E (c.ts 0) with ⟨k, p⟩ | ⟨x, rest⟩
   · rw [hr] at hp hR2
     obtain rfl := hp
     have HRP : Hid (R = .inl (k, p)) := Lib.hid hR2
     clear hr hR2
     try go_wp2
     refine leaves_cons (f := 18) (args := #[.pointer (some ⟨w.heap.size, 0, none⟩), .pointer (some ⟨w.heap.size + 1, 0, none⟩)]) (by simp) (by simp [go_sem]) ?_
     refine (catch_panicking w.heap.size (w.heap.size + 1) _ _ _ _ _ _ _ _ _ _ _ _ _ _ _ _ _ _ _ hVx hFx (by omega)).mono ?_
     rintro e u' w9 ⟨rfl, rfl, hv9, hf9, hT9⟩
     obtain ⟨k0, k1, k2, k3, k4, k5, k6, k7, k8, k9, k10, k11, k12, k13⟩ := blk14 hv9
     obtain ⟨m1, m2⟩ := blk2 hf9
     have hE9 : Ext w w9 := Touch.ext ((hEx.touch (fun b => b = w.heap.size ∨ b = w.heap.size + 1)).trans hT9) (fun i hi e => by omega)
     simp [Leaves, settle, results, Tryz.results9, go_sem, k0, k1, k2, k3, k4, k5, k6, k7, k8, k9, k10, k11, k12, k13, m1, m2]
     rw [HRP.out]
     exact ⟨hE9, rfl⟩
   · rw [hr] at hp hR2
     obtain ⟨v, j2, rfl, ⟨cs, rfl, ⟨vv, rfl, hok⟩⟩, rfl, hS3⟩ := hp
     have HR3 := Lib.hid hR2
     have HVX := Lib.hid hVx
     have HFX := Lib.hid hFx
     have HEX := Lib.hid hEx
     have HS3 := Lib.hid hS3
     have hsU : w.heap.size + 2 ≤ U.heap.size := by have := blk_lt HUF.out; omega
     have HOK := Lib.hid hok
     have hsc := blk_lt HSRC.out.blk
     clear hR2 hr hok hT hT3 hFx hEx
     obtain ⟨vcol, vkey, vval, vset, vcond, vqu, vop, vasof, vdur, vord⟩ := vv
     have hsh := HOK.out
     obtain ⟨g1, c1, e1⟩ := hsh.col.slice
     obtain ⟨g2, c2, e2⟩ := hsh.key.slice
     obtain ⟨g3, c3, e3⟩ := hsh.val.slice
     obtain ⟨g4, c4, e4⟩ := hsh.set.slice
     obtain ⟨g5, c5, e5⟩ := hsh.cond.slice
     obtain ⟨g6, c6, e6⟩ := hsh.qu.slice
     obtain ⟨g7, c7, e7⟩ := hsh.op.slice
     obtain ⟨g8, c8, e8⟩ := hsh.asof.slice
     obtain ⟨g9, c9, e9⟩ := hsh.dur.slice
     obtain ⟨g10, c10, e10⟩ := hsh.ord.slice
     simp only at e1 e2 e3 e4 e5 e6 e7 e8 e9 e10
     clear hsh
     subst e1 e2 e3 e4 e5 e6 e7 e8 e9 e10
     obtain ⟨a0, a1, a2, a3, a4, a5, a6, a7, a8, a9, a10, a11, a12, a13⟩ := blk14 hVx
     have la := blk_lt hVx
     have fa := fun k => blk_frozen hVx k
     clear hVx
     rw [show (stCells x ⟨slv g1 x.columns.length c1, slv g2 x.keys.length c2, slv g3 x.values.length c3, slv g4 x.sets.length c4, slv g5 x.cond.length c5, slv g6 x.query.length c6, slv g7 x.ops.length c7, slv g8 x.asOf.length c8, slv g9 x.during.length c9, slv g10 x.order.length c10⟩).toArray = #[str x.kind, str x.table, slv g1 x.columns.length c1, slv g2 x.keys.length c2, slv g3 x.values.length c3, slv g4 x.sets.length c4, .int .i64 (x.period.1 : Int), .int .i64 (x.period.2 : Int), slv g5 x.cond.length c5, slv g6 x.query.length c6, slv g7 x.ops.length c7, slv g8 x.asOf.length c8, slv g9 x.during.length c9, slv g10 x.order.length c10] from rfl]
     go_wp2_with fail
     have hTW := wr14_touch w3 w.heap.size (str x.kind) (str x.table) (slv g1 x.columns.length c1) (slv g2 x.keys.length c2) (slv g3 x.values.length c3) (slv g4 x.sets.length c4) (.int .i64 (x.period.1 : Int)) (.int .i64 (x.period.2 : Int)) (slv g5 x.cond.length c5) (slv g6 x.query.length c6) (slv g7 x.ops.length c7) (slv g8 x.asOf.length c8) (slv g9 x.during.length c9) (slv g10 x.order.length c10)
     have HV : Hid (Src (wr14 w3 w.heap.size (str x.kind) (str x.table) (slv g1 x.columns.length c1) (slv g2 x.keys.length c2) (slv g3 x.values.length c3) (slv g4 x.sets.length c4) (.int .i64 (x.period.1 : Int)) (.int .i64 (x.period.2 : Int)) (slv g5 x.cond.length c5) (slv g6 x.query.length c6) (slv g7 x.ops.length c7) (slv g8 x.asOf.length c8) (slv g9 x.during.length c9) (slv g10 x.order.length c10)) c j2 0) := Lib.hid (HS3.out.touch hTW (by omega) (fun b hb e => by have := HGO.out b hb; omega))
     refine (may_ok c j2 0 _ (HV.out.ext ((Ext.refl _).alloc _)) (some _) [[59]] (txts_at _ [[59]] (by simp only [wr14, size_set])) (by simp)).mono ?_
     rintro e w4 ⟨rfl, hS4, hT4⟩
     rw [mayN_one] at hS4 ⊢
     have hT5 : Touch (onlyB c) (wr14 w3 w.heap.size (str x.kind) (str x.table) (slv g1 x.columns.length c1) (slv g2 x.keys.length c2) (slv g3 x.values.length c3) (slv g4 x.sets.length c4) (.int .i64 (x.period.1 : Int)) (.int .i64 (x.period.2 : Int)) (slv g5 x.cond.length c5) (slv g6 x.query.length c6) (slv g7 x.ops.length c7) (slv g8 x.asOf.length c8) (slv g9 x.during.length c9) (slv g10 x.order.length c10)) w4 := (((Ext.refl _).alloc _).touch (onlyB c)).trans hT4
     have hX4 := hT5.old (wr14_blk HVX.out _ _ _ _ _ _ _ _ _ _ _ _ _ _) (fun e => by have h1 : w.heap.size = c.sb := e; omega)
     have hF4 := hT5.old (hTW.old HFX.out (by omega)) (fun e => by have h1 : w.heap.size + 1 = c.sb := e; omega)
     have hO4 := HOK.out.keep (w' := w4) (A' := fun b => U.heap.size ≤ b) (fun b hb ha => ⟨(hT5.block b (by have := hTW.size; omega) (fun e => by have h1 : b = c.sb := e; omega)).trans (hTW.block b hb (by omega)), ha⟩)
     have hE4 : Ext w w4 := Touch.ext ((((HEX.out.touch (fun b => b = w.heap.size ∨ b = c.sb)).trans (hTW.mono (fun b _ e => .inl e))).trans (hT5.mono (fun b _ e => .inr e)))) (fun i hi e => by omega)
     obtain ⟨j3, hj3⟩ : ∃ j3, j3 = (if isT [59] (c.ts j2) = true then j2 + [[59]].length else j2) := ⟨_, rfl⟩
     have hS4' : Src w4 c j3 0 := by rw [hj3]; exact hS4
     clear hS4
     have hS4 := hS4'
     clear hS4'
     have hR3 : R = match (if c.ts j3 = [] then .ok (x, []) else bad c.E 150 (c.ts j3) : Res St) with | .ok (x, _) => .inr x | .error f => .inl f := by
       have h1 := HR3.out
       simp only [bnd_ok] at h1
       have h2 : (if isT [59] (c.ts j2) = true then (c.ts j2).tail else c.ts j2) = c.ts j3 := by rw [hj3]; split <;> simp [Src.tail]
       rw [h2] at h1; exact h1
     have HX4 := Lib.hid hX4
     have HF4 := Lib.hid hF4
     have HO4 := Lib.hid hO4
     have HE4 := Lib.hid hE4
     have HS4 := Lib.hid hS4
     have HR4 := Lib.hid hR3
     clear hX4 hF4 hO4 hE4 hS4 hR3 hj3 hT4 hT5 hTW HV HR3 a0 a1 a2 a3 a4 a5 a6 a7 a8 a9 a10 a11 a12 a13 la fa
     obtain ⟨q0, q1, q2, q3⟩ := blk4 HS4.out.blk
     have lb4 := blk_lt HS4.out.blk
     by_cases hlt : j3 < c.all.length
     · have HRP : Hid (R = .inl (150, plc c.E (c.ts j3))) := by
        have h1 := HR4.out
        have h2 : c.ts j3 ≠ [] := by
         intro h
         have h3 := congrArg List.length h
         rw [ts_len] at h3
         simp at h3; omega
        rw [if_neg h2] at h1
        exact Lib.hid h1
       have t1 : decide (j3 < c.all.length) = true := by simpa using hlt
       clear hlt
       go_wp2_with fail
       refine (fail_ok c j3 0 _ HS4.out 150).mono ?_
       rintro e w5 ⟨rfl, hE5⟩
       have hVx := Ext.block hE5 HX4.out
       have hFx := Ext.block hE5 HF4.out
       have hEx := HE4.out.trans hE5
       clear q0 q1 q2 q3 t1
       try go_wp2
       refine leaves_cons (f := 18) (args := #[.pointer (some ⟨w.heap.size, 0, none⟩), .pointer (some ⟨w.heap.size + 1, 0, none⟩)]) (by simp) (by simp [go_sem]) ?_
       refine (catch_panicking w.heap.size (w.heap.size + 1) _ _ _ _ _ _ _ _ _ _ _ _ _ _ _ _ _ _ _ hVx hFx (by omega)).mono ?_
       rintro e u' w9 ⟨rfl, rfl, hv9, hf9, hT9⟩
       obtain ⟨k0, k1, k2, k3, k4, k5, k6, k7, k8, k9, k10, k11, k12, k13⟩ := blk14 hv9
       obtain ⟨m1, m2⟩ := blk2 hf9
       have hE9 : Ext w w9 := Touch.ext ((hEx.touch (fun b => b = w.heap.size ∨ b = w.heap.size + 1)).trans hT9) (fun i hi e => by omega)
       simp [Leaves, settle, results, Tryz.results9, go_sem, k0, k1, k2, k3, k4, k5, k6, k7, k8, k9, k10, k11, k12, k13, m1, m2]
       rw [HRP.out]
       exact ⟨hE9, rfl⟩
     · have HRP : Hid (R = .inr x) := by
        have h1 := HR4.out
        rw [if_pos (HS4.out.stop hlt)] at h1
        exact Lib.hid h1
       have t1 : decide (j3 < c.all.length) = false := by simpa using hlt
       clear hlt
       obtain ⟨a0, a1, a2, a3, a4, a5, a6, a7, a8, a9, a10, a11, a12, a13⟩ := blk14 HX4.out
       have la := blk_lt HX4.out
       have fa := fun k => blk_frozen HX4.out k
       obtain ⟨e1, e2⟩ := blk2 HF4.out
       have z1 := blk_frozen HF4.out 0
       have z2 := blk_frozen HF4.out 1
       have lf := blk_lt HF4.out
       go_wp2
       refine leaves_cons (f := 18) (args := #[.pointer (some ⟨w.heap.size, 0, none⟩), .pointer (some ⟨w.heap.size + 1, 0, none⟩)]) (by simp) (by simp [go_sem]) ?_
       refine (catch_idle w.heap.size (w.heap.size + 1) _).mono ?_
       rintro e u' w9 ⟨rfl, rfl, hE9⟩
       have hW : ∃ W, Ext w W ∧ Ext W w9 ∧ W.heap[w.heap.size]? = some (.cells #[str x.kind, str x.table, slv g1 x.columns.length c1, slv g2 x.keys.length c2, slv g3 x.values.length c3, slv g4 x.sets.length c4, .int .i64 (x.period.1 : Int), .int .i64 (x.period.2 : Int), slv g5 x.cond.length c5, slv g6 x.query.length c6, slv g7 x.ops.length c7, slv g8 x.asOf.length c8, slv g9 x.during.length c9, slv g10 x.order.length c10] 33 (0, 0)) ∧ W.heap[w.heap.size + 1]? = some zFault ∧ StOk W (fun b => U.heap.size ≤ b) x ⟨slv g1 x.columns.length c1, slv g2 x.keys.length c2, slv g3 x.values.length c3, slv g4 x.sets.length c4, slv g5 x.cond.length c5, slv g6 x.query.length c6, slv g7 x.ops.length c7, slv g8 x.asOf.length c8, slv g9 x.during.length c9, slv g10 x.order.length c10⟩ := by
        have hT7 := wr14_touch w4 w.heap.size (str x.kind) (str x.table) (slv g1 x.columns.length c1) (slv g2 x.keys.length c2) (slv g3 x.values.length c3) (slv g4 x.sets.length c4) (.int .i64 (x.period.1 : Int)) (.int .i64 (x.period.2 : Int)) (slv g5 x.cond.length c5) (slv g6 x.query.length c6) (slv g7 x.ops.length c7) (slv g8 x.asOf.length c8) (slv g9 x.during.length c9) (slv g10 x.order.length c10)
        have hT8 := ((hT7.mono (S' := fun b => b = w.heap.size ∨ b = w.heap.size + 1) (fun b _ e => .inl e)).setCell (p := ⟨w.heap.size + 1, 0, none⟩) (fun _ => .inr rfl) (.int .i64 0)).setCell (p := ⟨w.heap.size + 1, 1, none⟩) (fun _ => .inr rfl) (.int .i64 0)
        refine ⟨_, ?_, hE9, ?_, ?_, ?_⟩
        · exact Touch.ext ((HE4.out.touch _).trans hT8) (fun i hi e => by omega)
        · exact blk_set_ne (blk_set_ne (wr14_blk HX4.out _ _ _ _ _ _ _ _ _ _ _ _ _ _) (show w.heap.size ≠ w.heap.size + 1 by omega) _) (show w.heap.size ≠ w.heap.size + 1 by omega) _
        · exact blk_set (blk_set (hT7.old HF4.out (by omega)) 0 _) 1 _
        · exact HO4.out.keep (fun b hb ha => ⟨hT8.block b hb (by omega), ha⟩)
       obtain ⟨W, hW1, hW2, hW3, hW4, hW5⟩ := hW
       obtain ⟨k0, k1, k2, k3, k4, k5, k6, k7, k8, k9, k10, k11, k12, k13⟩ := blk14 (Ext.block hW2 hW3)
       obtain ⟨m1, m2⟩ := blk2 (Ext.block hW2 hW4)
       have hS9 := hW5.keep (w' := w9) (A' := fun b => w.heap.size ≤ b) (fun b hb ha => ⟨Below.block hW2 b hb, by omega⟩)
       have hE10 := hW1.trans hW2
       clear hE9 hW1 hW2 hW3 hW4 hW5
       simp [Leaves, settle, results, Tryz.results9, go_sem, k0, k1, k2, k3, k4, k5, k6, k7, k8, k9, k10, k11, k12, k13, m1, m2]
       rw [HRP.out]
       exact ⟨hE10, _, rfl, hS9⟩
end Go.Proofs.YtkhnpmeohjafiaaGreatDoor
