/- Lemmas. -/
import Derived.Test.YtkhnpmeohjafiaaGreatDoorMH
import Derived.Test.YtkhnpmeohjafiaaGreatDoorME
set_option maxHeartbeats 16000000
set_option maxRecDepth 100000
namespace Go.Proofs.YtkhnpmeohjafiaaGreatDoor
open Go.RowKit
def PF (F : List PanicEntry → World → Prop) (D : List Deferred) : Exit → Act → World → Prop
 | .panic c, a, w => F c w ∧ a.defers = D
 | _, _, _ => False
theorem put_defers' (a : Act) (d : Option Tmp) (v : Value) : (a.put d v).defers = a.defers := by cases d <;> rfl
theorem region_gives [Tch.TS] {P : Program} {ops : Array Oper} {Q : Exit → Act → World → Prop} {id : Nat} {a : Act} {w : World} (plan : List PS) (hf : P.follows .mixedOrders = true) (hk : regionOk ops plan = true) (hn : decide ((plan.map PS.no).Nodup) = true)
   (F : List PanicEntry → World → Prop) (D : List Deferred)
   (h : Tch.wpPlan P ops (PF F D) plan a w.drew) (hq : ∀ c a' w', F c w' → a'.defers = D → Q (.panic c) a' w') : (Code.region id ops true).wp P Q a w := by
 have h1 := Tch.region_plan (id := id) plan hf hk hn (fun i o ho c a v w h => ?_) h
 · refine Code.wp_mono (fun e a w he => ?_) h1
   cases e <;> try exact he.elim
   exact hq _ _ _ he.1 he.2
 · obtain ⟨h3, h6⟩ := h
   rw [put_defers'] at h6
   exact ⟨h3, h6⟩
theorem tch_done [Tch.TS] {P : Program} {ops : Array Oper} {Q : Exit → Act → World → Prop} {a : Act} {w : World} (h : Q .normal a w) : Tch.wpPlan P ops (calm Q) [] a w := h
def exCells (op : Str) (n : Nat) (t o : Str) (av : Value) : List Value := [str op, .int .i64 (n : Int), str t, str o, av]
mutual
def ExC (w : World) (A : Nat → Prop) : List Value → Ex → Prop
 | c, .mk op n t o args => ∃ (g : Option Nat) (cap : Nat) (fl : List Value), c = exCells op n t o (slv g args.length cap) ∧ Sl w 45 5 g args.length cap fl ∧ (∀ b, g = some b → A b) ∧ ExsC w A fl args
termination_by structural _ e => e
def ExsC (w : World) (A : Nat → Prop) : List Value → List Ex → Prop
 | fl, [] => fl = []
 | fl, e :: es => ∃ c r, fl = c ++ r ∧ ExC w A c e ∧ ExsC w A r es
termination_by structural _ es => es
end
mutual
theorem ExC.keep {w w' : World} {A A' : Nat → Prop} (hw : ∀ b, b < w.heap.size → A b → w'.heap[b]? = w.heap[b]? ∧ A' b) : ∀ (c : List Value) (e : Ex), ExC w A c e → ExC w' A' c e
 | c, .mk op n t o args => by
   rintro ⟨g, cap, fl, h1, h2, h3, h4⟩
   refine ⟨g, cap, fl, h1, h2.congr fun b hb => (hw b (by subst hb; exact h2.block_lt) (h3 b hb)).1, fun b hb => (hw b (by subst hb; exact h2.block_lt) (h3 b hb)).2, ExsC.keep hw fl args h4⟩
theorem ExsC.keep {w w' : World} {A A' : Nat → Prop} (hw : ∀ b, b < w.heap.size → A b → w'.heap[b]? = w.heap[b]? ∧ A' b) : ∀ (fl : List Value) (es : List Ex), ExsC w A fl es → ExsC w' A' fl es
 | fl, [] => id
 | fl, e :: es => by
   rintro ⟨c, r, h1, h2, h3⟩
   exact ⟨c, r, h1, ExC.keep hw c e h2, ExsC.keep hw r es h3⟩
end
theorem ExC.len {w : World} {A : Nat → Prop} {c : List Value} {e : Ex} (h : ExC w A c e) : c.length = 5 := by
 cases e with
 | mk op n t o args => obtain ⟨g, cap, fl, rfl, _⟩ := h; rfl
theorem ExC.one {w : World} {A : Nat → Prop} {c : List Value} {e : Ex} (h : ExC w A c e) : ∀ u ∈ c, u.oneCell' = true := by
 cases e with
 | mk op n t o args =>
   obtain ⟨g, cap, fl, rfl, _⟩ := h
   intro u hu
   simp only [exCells, List.mem_cons, List.not_mem_nil, or_false] at hu
   rcases hu with rfl | rfl | rfl | rfl | rfl <;> rfl
theorem ExC.ext {w w' : World} {A : Nat → Prop} {c : List Value} {e : Ex} (h : ExC w A c e) (he : Ext w w') : ExC w' A c e := ExC.keep (fun b hb ha => ⟨Below.block he b hb, ha⟩) c e h
theorem ExC.touch {S : Nat → Prop} {w w' : World} {A : Nat → Prop} {c : List Value} {e : Ex} (h : ExC w A c e) (ht : Touch S w w') (hn : ∀ b, b < w.heap.size → A b → ¬ S b) : ExC w' A c e := ExC.keep (fun b hb ha => ⟨ht.block b hb (hn b hb ha), ha⟩) c e h
theorem ExC.weak {w : World} {A A' : Nat → Prop} {c : List Value} {e : Ex} (h : ExC w A c e) (hn : ∀ b, b < w.heap.size → A b → A' b) : ExC w A' c e := ExC.keep (fun b hb ha => ⟨rfl, hn b hb ha⟩) c e h
theorem ExsC.append {w : World} {A : Nat → Prop} : ∀ {c r : List Value} {es fs : List Ex}, ExsC w A c es → ExsC w A r fs → ExsC w A (c ++ r) (es ++ fs)
 | c, r, [], fs, h1, h2 => by rw [show c = [] from h1]; exact h2
 | c, r, e :: es, fs, h1, h2 => by
   obtain ⟨a, b, rfl, h3, h4⟩ := h1
   exact ⟨a, b ++ r, by rw [List.append_assoc], h3, ExsC.append h4 h2⟩
theorem ExsC.one {w : World} {A : Nat → Prop} {c : List Value} {e : Ex} (h : ExC w A c e) : ExsC w A c [e] := ⟨c, [], by simp, h, rfl⟩
theorem ei_ex : EI Tryz.prog 25 45 5 80 :=
 ⟨Tryz.underlying25, by
  obtain ⟨i, h1, h2, h3, h4⟩ := info_parts (P := Tryz.prog) (e := 45) (z := .agg #[.string (ByteArray.mk #[]), .int .i64 0, .string (ByteArray.mk #[]), .string (ByteArray.mk #[]), .slice none 0 0]) (size := 5) (bytes := 80) (by kernel_rfl)
  exact ⟨i, _, h1, h2, h3, h4, rfl⟩, by omega, by omega⟩
def VEx (w : World) (lo : Nat) (v : Value) (e : Ex) : Prop := ∃ c, v = .agg c.toArray ∧ ExC w (fun b => lo ≤ b) c e
abbrev Ent (F : FuncId) : Prop := ∀ args (u : World), (callFunc F args).run Tryz.prog u = .ok (.enter F args) u
abbrev zEx : Obj := .cells #[.string (ByteArray.mk #[]), .int .i64 0, .string (ByteArray.mk #[]), .string (ByteArray.mk #[]), .slice none 0 0] 45
theorem Touch.late' {S : Nat → Prop} {a w : World} (h : Touch S a w) {b : Nat} (hb : a.heap.size ≤ b) (i : Nat) (v : Value) : Touch S a (w.setCell ⟨b, i, none⟩ v) := h.setCell (p := ⟨b, i, none⟩) (fun hx => absurd hx (by simp; omega)) v
theorem fin_ex {w w2 w' : World} {c : Cx} {i d j : Nat} {x : Ex} {cs : List Value} {r : Res Ex} (h0 : Src w c i d) (hT : Touch (onlyB c) w w2) (hS : Src w2 c j d) (hx : ExC w2 (fun b => w.heap.size < b) cs x)
   (hl : Touch (fun b => b = w.heap.size) w2 w') (hr : r = .ok (x, c.ts j)) : RdPost VEx w c d r (.returned (.agg cs.toArray)) w' := by
 have h1 := blk_lt h0.blk
 refine RdPost.ok hr (hT.trans' hl (fun b hb e => by omega)) ⟨cs, rfl, ?_⟩ (hS.touch hl (by omega) (fun b hb e => ?_))
 · exact (hx.touch hl (fun b _ hb e => by omega)).weak (fun b _ hb => by omega)
 · have := h0.toks
   rw [hb] at this
   have := this.block_lt
   omega
theorem late5 {a w : World} {b : Nat} (h : Touch (fun k => k = b) a w) (v0 v1 v2 v3 v4 : Value) : Touch (fun k => k = b) a (((((w.setCell ⟨b, 0, none⟩ v0).setCell ⟨b, 1, none⟩ v1).setCell ⟨b, 2, none⟩ v2).setCell ⟨b, 3, none⟩ v3).setCell ⟨b, 4, none⟩ v4) :=
 ((((h.setCell (p := ⟨b, 0, none⟩) (fun _ => rfl) v0).setCell (p := ⟨b, 1, none⟩) (fun _ => rfl) v1).setCell (p := ⟨b, 2, none⟩) (fun _ => rfl) v2).setCell (p := ⟨b, 3, none⟩) (fun _ => rfl) v3).setCell (p := ⟨b, 4, none⟩) (fun _ => rfl) v4
theorem set5 {w : World} {b : Nat} {T : TypeId} {f : Nat × Nat} {a0 a1 a2 a3 a4 : Value} (h : w.heap[b]? = some (.cells #[a0, a1, a2, a3, a4] T f)) (v0 v1 v2 v3 v4 : Value) :
  (((((w.setCell ⟨b, 0, none⟩ v0).setCell ⟨b, 1, none⟩ v1).setCell ⟨b, 2, none⟩ v2).setCell ⟨b, 3, none⟩ v3).setCell ⟨b, 4, none⟩ v4).heap[b]? = some (.cells #[v0, v1, v2, v3, v4] T f) :=
 blk_set (blk_set (blk_set (blk_set (blk_set h 0 v0) 1 v1) 2 v2) 3 v3) 4 v4
theorem results_ex {fn : Func} {t : Tmp} (hr : fn.results = #[.cell t 45]) {tmps : Array Value} {w : World} {b : Nat} {f : Nat × Nat} {T : TypeId} {v0 v1 v2 v3 v4 : Value} (ht : tmps.getD t undef = .pointer (some ⟨b, 0, none⟩))
  (h : w.heap[b]? = some (.cells #[v0, v1, v2, v3, v4] T f)) : (results fn tmps).run Tryz.prog w = .ok (.agg #[v0, v1, v2, v3, v4]) w := by
 obtain ⟨c0, c1, c2, c3, c4⟩ := blk5 h
 rw [Array.getD_eq_getD_getElem?] at ht
 simp [results, hr, go_sem, ht, c0, c1, c2, c3, c4]
theorem deeper_ok (c : Cx) (i d : Nat) (w : World) (h : Src w c i d) (hd : d ≤ 32) (F : FuncId) (hent : Ent F) (rd : List Tok → Res Ex)
   (hrd : d + 1 ≤ 32 → ∀ w, Src w c i (d + 1) → Calls Tryz.prog F #[.pointer (some ⟨c.sb, 0, none⟩)] w (RdPost VEx w c (d + 1) (rd (c.ts i)))) :
   Calls Tryz.prog 133 #[.pointer (some ⟨c.sb, 0, none⟩), .func (.func F) #[.pointer (some ⟨c.sb, 0, none⟩)] #[]] w (RdPost VEx w c d (if d < 32 then rd (c.ts i) else bad c.E 151 (c.ts i))) := by
 have H := Lib.hid h
 have h1 := h.dive (e := d + 1) (by omega)
 rw [Int.natCast_add] at h1
 have HS1 := Lib.hid (h1.ext ((Ext.refl _).alloc zEx))
 have HT1 : Hid (Touch (onlyB c) w ((w.setCell ⟨c.sb, 3, none⟩ (.int .i64 ((d : Int) + 1))).alloc zEx)) := Lib.hid (((Touch.refl (onlyB c) w).setCell (p := ⟨c.sb, 3, none⟩) (fun _ => rfl) _).alloc _)
 obtain ⟨q0, q1, q2, q3⟩ := blk4 h.blk
 have fz := blk_frozen h.blk 3
 have hw1 : IntKind.i64.wrap ((d : Int) + 1) = (d : Int) + 1 := by rw [IntKind.wrap_i64]; omega
 have lb := blk_lt h.blk
 have HB1 : Hid (((w.setCell ⟨c.sb, 3, none⟩ (.int .i64 ((d : Int) + 1))).alloc zEx).heap[w.heap.size]? = some zEx) := Lib.hid (blk_new_at _ (by simp [size_set]))
 clear h h1
 go_enter Tryz.func133, Tryz.ntmps133
 by_cases hlt : d < 32
 · have hz : decide (32 ≤ d) = false := by simp; omega
   rw [if_pos hlt]
   go_wp2_with fail
   refine (hrd (by omega) _ HS1.out).mono ?_
   rintro e w2 ⟨hT, hp⟩
   have HT := Lib.hid (HT1.out.trans hT)
   have hb2 := hT.old HB1.out (fun e => by have h2 : w.heap.size = c.sb := e; omega)
   have HB2 := Lib.hid hb2
   cases hr : rd (c.ts i) with
   | error kp =>
     obtain ⟨k, p⟩ := kp
     rw [hr] at hp
     obtain rfl := hp
     exact bodyPost_panic rfl (RdPost.bad rfl HT.out)
   | ok xt =>
     obtain ⟨x, ts⟩ := xt
     rw [hr] at hp
     obtain ⟨v, j, rfl, ⟨cs, rfl, hx⟩, rfl, hS⟩ := hp
     have HR := Lib.hid hr
     have HS := Lib.hid hS
     have hX := ExC.weak (A' := fun b => w.heap.size < b) hx (fun b _ hb => by simp [size_set] at hb; omega)
     obtain ⟨op, n, t, o, args⟩ := x
     obtain ⟨g, cap, fl, rfl, hX2⟩ := hX
     have HX : Hid (ExC w2 (fun b => w.heap.size < b) (exCells op n t o (slv g args.length cap)) (.mk op n t o args)) := Lib.hid ⟨g, cap, fl, rfl, hX2⟩
     have HS3 := Lib.hid (hS.dive (e := d) (by omega))
     obtain ⟨q0, q1, q2, q3⟩ := blk4 hS.blk
     have fz := blk_frozen hS.blk 3
     have lb2 := blk_lt hS.blk
     have lb3 := blk_lt hb2
     have hw2 : IntKind.i64.wrap (d : Int) = (d : Int) := by rw [IntKind.wrap_i64]; omega
     obtain ⟨e0, e1, e2, e3, e4⟩ := blk5 hb2
     have f0 := blk_frozen hb2 0
     have f1 := blk_frozen hb2 1
     have f2 := blk_frozen hb2 2
     have f3 := blk_frozen hb2 3
     have f4 := blk_frozen hb2 4
     clear hb2 hT hx hS hX2 hr hrd
     unfold exCells
     go_wp2
     refine bodyPost_ret (v := .agg (exCells op n t o (slv g args.length cap)).toArray) (results_ex rfl rfl (blk_alloc (set5 (blk_set_ne HB2.out (by simp; omega) _) _ _ _ _ _))) rfl ?_
     refine fin_ex (w2 := w2.setCell ⟨c.sb, 3, none⟩ (.int .i64 (d : Int))) H.out (HT.out.setCell (p := ⟨c.sb, 3, none⟩) (fun _ => rfl) _) HS3.out ?_ ((late5 (Touch.refl _ _) _ _ _ _ _).alloc _) HR.out
     exact HX.out.touch ((Touch.refl (onlyB c) _).setCell (p := ⟨c.sb, 3, none⟩) (fun _ => rfl) _) (fun b _ hb e => by have h1 : b = c.sb := e; omega)
 · have hz : decide (32 ≤ d) = true := by simp; omega
   rw [if_neg hlt]
   go_wp2_with fail
   refine (fail_ok c i (d + 1) _ HS1.out 151).mono ?_
   rintro e w2 ⟨rfl, hE⟩
   go_wp2
   exact bodyPost_panic rfl (RdPost.bad rfl (HT1.out.trans (hE.touch _)))
theorem isR_any (L : List Str) (hL : L ≠ []) (ts : List Tok) : anyT L ts = (isR 1 L ts || isR 4 L ts) := by
 have he : L.isEmpty = false := by cases L with
   | nil => exact absurd rfl hL
   | cons a l => rfl
 cases ts with
 | nil =>
   have : anyT L [] = false := by simp [anyT, isT]
   rw [this]; rfl
 | cons t r =>
   simp only [isR, isK, he, Bool.false_or, txt, anyT, isT]
   cases h1 : (t.1 == 1)
   · cases h4 : (t.1 == 4)
     · simp
     · simp
   · cases h4 : (t.1 == 4) <;> simp
theorem any_lt {c : Cx} {j : Nat} {L : List Str} (h : anyT L (c.ts j) = true) : j < c.all.length := by
 by_cases hi : j < c.all.length
 · exact hi
 · rw [show c.ts j = [] from List.drop_eq_nil_of_le (by omega)] at h
   simp [anyT, isT] at h
structure ChInv (w : World) (c : Cx) (i d eb : Nat) (L : List Str) (rd : List Tok → Res Ex) (gk : Nat) (wr : World) (j f : Nat) (op : Str) (n : Nat) (t o : Str) (args : List Ex) (g : Option Nat) (cap : Nat) : Prop where
 k : gk = c.all.length - j
 src : Src wr c j d
 touch : Touch (onlyB c) w wr
 e : wr.heap[eb]? = some (.cells #[str op, .int .i64 (n : Int), str t, str o, slv g args.length cap] 45 (0, 0))
 ex : ExC wr (fun b => w.heap.size < b ∧ b ≠ eb) (exCells op n t o (slv g args.length cap)) (.mk op n t o args)
 res : wr.heap[w.heap.size]? = some zEx
 few : c.all.length - j ≤ f
 so : ch rd L (c.ts i) = chL rd L f (.mk op n t o args) (c.ts j)
theorem ts_len (c : Cx) (j : Nat) : (c.ts j).length = c.all.length - j := by simp [Cx.ts]
theorem two_cells {w : World} {nb : Nat} {A : Nat → Prop} {c1 c2 : List Value} {x y : Ex} {op : Str} (h : w.heap[nb]? = some (.cells (c1 ++ c2).toArray 45 (0, 0))) (hx : ExC w A c1 x) (hy : ExC w A c2 y) (hA : A nb) :
  ExC w A (exCells op 0 [] [] (slv (some nb) 2 2)) (eTwo op x y) := by
 have hl : (c1 ++ c2).length = 10 := by rw [List.length_append, hx.len, hy.len]
 refine ⟨some nb, 2, c1 ++ c2, rfl, ⟨by simp [hl], _, h, Nat.le_refl _, by simp [maxLen], by simp [hl], ?_⟩, fun b hb => by cases hb; exact hA, ExsC.append (ExsC.one hx) (ExsC.one hy)⟩
 rw [List.take_of_length_le]
 show (c1 ++ c2).length ≤ _
 simp [hl]
theorem chain_ok (c : Cx) (i d : Nat) (w : World) (h : Src w c i d) (F : FuncId) (hent : Ent F) (tg : Option Nat) (L : List Str) (hL : Txts w tg L) (hL0 : L ≠ []) (hLn : L.length ≤ 100) (rd : List Tok → Res Ex) (hsuf : ∀ ts, Suf ts (rd ts))
   (hrd : ∀ w i, Src w c i d → Calls Tryz.prog F #[.pointer (some ⟨c.sb, 0, none⟩)] w (RdPost VEx w c d (rd (c.ts i)))) :
   Calls Tryz.prog 91 #[.pointer (some ⟨c.sb, 0, none⟩), .func (.func F) #[.pointer (some ⟨c.sb, 0, none⟩)] #[], slv tg L.length L.length] w (RdPost VEx w c d (ch rd L (c.ts i))) := by
 have H := Lib.hid h
 have HL := Lib.hid hL
 have HL0 := Lib.hid hL0
 have HNE := Lib.hid (Txts.ne h hL)
 have HRD := Lib.hid hrd
 have HSUF := Lib.hid hsuf
 have lb := blk_lt h.blk
 have HB0 : Hid ((w.alloc zEx).heap[w.heap.size]? = some zEx) := blk_new w _
 clear h hL hL0 hrd hsuf
 go_enter Tryz.func91, Tryz.ntmps91
 go_wp2_with fail
 refine (HRD.out _ i (H.out.ext ((Ext.refl w).alloc zEx))).mono ?_
 rintro e w1 ⟨hT, hp⟩
 have HT1 := Lib.hid ((((Ext.refl w).alloc zEx).touch _).trans hT)
 have hb1 := hT.old HB0.out (fun e => by have h2 : w.heap.size = c.sb := e; omega)
 cases hr : rd (c.ts i) with
 | error kp =>
   obtain ⟨k, p⟩ := kp
   rw [hr] at hp
   obtain rfl := hp
   exact bodyPost_panic rfl (RdPost.bad (by rw [ch, hr]; rfl) HT1.out)
 | ok xt =>
   obtain ⟨x, ts⟩ := xt
   rw [hr] at hp
   obtain ⟨v, j, rfl, ⟨cs, rfl, hx⟩, rfl, hS⟩ := hp
   have HSO : Hid (ch rd L (c.ts i) = chL rd L (c.ts j).length x (c.ts j)) := by show _ = _; rw [ch, hr]; rfl
   have hX := ExC.weak (A' := fun b => w.heap.size < b ∧ b ≠ w1.heap.size) hx (fun b h1 hb => by simp at hb; omega)
   obtain ⟨op, n, t, o, args⟩ := x
   obtain ⟨g, cap, fl, rfl, hX2⟩ := hX
   have HX : Hid (ExC w1 (fun b => w.heap.size < b ∧ b ≠ w1.heap.size) (exCells op n t o (slv g args.length cap)) (.mk op n t o args)) := Lib.hid ⟨g, cap, fl, rfl, hX2⟩
   have HS := Lib.hid hS
   have HB1 := Lib.hid hb1
   have ls := blk_lt hb1
   clear hT hb1 hr hx hX2 hS
   unfold exCells
   go_wp2
   have HT2 : Hid (Touch (onlyB c) w (w1.alloc (.cells #[str op, .int .i64 (n : Int), str t, str o, slv g args.length cap] 45))) := Lib.hid (HT1.out.alloc _)
   refine wp_at (fun W => ∃ (j f : Nat) (op : Str) (n : Nat) (t o : Str) (args : List Ex) (g : Option Nat) (cap : Nat), ChInv w c i d w1.heap.size L rd (c.all.length - j) W j f op n t o args g cap)
    ⟨j, (c.ts j).length, op, n, t, o, args, g, cap, rfl, HS.out.ext ((Ext.refl _).alloc _), HT2.out, blk_new _ _, HX.out.ext ((Ext.refl _).alloc _), blk_alloc HB1.out, by rw [ts_len]; omega, HSO.out⟩ ?_
   rintro W ⟨j0, f0, op0, n0, t0, o0, args0, g0, cap0, hI0⟩
   clear HX HSO HS HB1 HT1 HT2 HB0
   go_loopg [] (c.all.length - j0) (fun gk wr => ∃ (j f : Nat) (op : Str) (n : Nat) (t o : Str) (args : List Ex) (g : Option Nat) (cap : Nat), ChInv w c i d w1.heap.size L rd gk wr j f op n t o args g cap)
   case atStart => exact ⟨j0, f0, op0, n0, t0, o0, args0, g0, cap0, hI0⟩
   case round =>
    clear hI0
    obtain ⟨j, f, op, n, t, o, args, g, cap, hI⟩ := hrel
    have HI := Lib.hid hI
    clear hI
    go_wp2_with fail
    refine (is_ok c j d _ HI.out.src 1 tg L (HL.out.touch HI.out.touch (fun b hb => HNE.out b hb)) hLn).mono ?_
    rintro e w2 ⟨rfl, hE2⟩
    have HE2 := Lib.hid hE2
    clear hE2
    cases h1 : isR 1 L (c.ts j) with
    | true =>
      have HANY : Hid (anyT L (c.ts j) = true) := by show _ = _; rw [isR_any L HL0.out, h1]; rfl
      have hj := any_lt HANY.out
      have hS5 := ((HI.out.src.ext HE2.out).ext (Ext.refl _).drew).move (j := j + 1) (by omega)
      rw [Int.natCast_add] at hS5
      have HS5 := Lib.hid hS5
      have heb := Ext.block HE2.out HI.out.e
      have hrb := Ext.block HE2.out HI.out.res
      have hne1 : w1.heap.size ≠ c.sb := by
        intro e0
        have h1 := HI.out.e
        rw [e0, HI.out.src.blk] at h1
        simp at h1
      have hne2 : w.heap.size ≠ c.sb := by omega
      have HEB := Lib.hid heb
      have HRB := Lib.hid hrb
      obtain ⟨tb, tk, hg, ht, hb, hbn, hts, c0, c1, c2, c3⟩ := (HI.out.src.ext HE2.out).at hj
      have z := tidx_ok hg hj
      have HT := Lib.hid hts
      obtain ⟨q0, q1, q2, q3⟩ := blk4 (HI.out.src.ext HE2.out).blk
      have lb5 := blk_lt (HI.out.src.ext HE2.out).blk
      have fz := blk_frozen (HI.out.src.ext HE2.out).blk 1
      have hsm := HI.out.src.small
      have hw1 : IntKind.i64.wrap ((j : Int) + 1) = (j : Int) + 1 := by rw [IntKind.wrap_i64]; omega
      clear hg ht hts c0 c2 c3 hS5 heb hrb h1
      (try clear h4)
      go_wp2
      refine region_calm [.p 0, .p 1, .p 2, .l 3, .p 4, .p 5, .p 6, .l 7, .p 8, .p 9, .l 10, .p 11] f_mixed (by kernel_rfl) (by kernel_rfl) ?_
      repeat ((first | refine plan_p rfl (fun K hK => ?_) | refine plan_l rfl (fun K hK => ?_)); go_simp; refine hK _ ?_; clear hK K)
      refine plan_done ?_
      go_wp2
      refine wp_at (fun W => Src W c (j + 1) d ∧ Touch (onlyB c) w W ∧ W.heap[w1.heap.size]? = some (.cells #[str op, .int .i64 (n : Int), str t, str o, slv g args.length cap] 45 (0, 0)) ∧ ExC W (fun b => w.heap.size < b ∧ b ≠ w1.heap.size) (exCells op n t o (slv g args.length cap)) (.mk op n t o args) ∧ W.heap[w.heap.size]? = some zEx) ⟨HS5.out, ?_, ?_, ?_, ?_⟩ ?_
      · exact ((HI.out.touch.trans (HE2.out.touch _)).drew).setCell (p := ⟨c.sb, 1, none⟩) (fun _ => rfl) _
      · exact blk_set_ne HEB.out hne1 _
      · exact ((HI.out.ex.ext HE2.out).ext (Ext.refl _).drew).touch ((Touch.refl (onlyB c) _).setCell (p := ⟨c.sb, 1, none⟩) (fun _ => rfl) _) (fun b _ hb e => by have h1 : b = c.sb := e; omega)
      · exact blk_set_ne HRB.out hne2 _
      rintro W ⟨hS, hT, hEb, hEx, hRb⟩
      have HS := Lib.hid hS
      have HTW := Lib.hid hT
      have HEb := Lib.hid hEb
      have HEx := Lib.hid hEx
      have HRb := Lib.hid hRb
      have HSO : Hid (∃ f', f = f' + 1 ∧ c.all.length - (j + 1) ≤ f' ∧ ch rd L (c.ts i) = bnd (rd (c.ts (j + 1))) fun x r => chL rd L f' (eTwo tk.2.1 (.mk op n t o args) x) r) := by
        have h1 := HI.out.few
        obtain ⟨f', rfl⟩ : ∃ f', f = f' + 1 := ⟨f - 1, by omega⟩
        refine Lib.hid ⟨f', rfl, by omega, ?_⟩
        rw [HI.out.so, chL, if_pos HANY.out, Src.tail, HT.out]; rfl
      obtain ⟨e0, e1, e2, e3, e4⟩ := blk5 hEb
      have hW := blk_lt hEb
      clear hS hT hEb hEx hRb hb hbn c1 z q0 q1 q2 q3 lb5 fz hw1
      letI : Tch.TS := ⟨onlyB c⟩
      cases hr : rd (c.ts (j + 1)) with
      | error kp =>
        obtain ⟨k, p⟩ := kp
        have HR := Lib.hid hr
        refine region_gives [.p 0, .e 1, .p 2, .h 3 true, .h 4 false, .p 5, .h 6 false] f_mixed (by kernel_rfl) (by kernel_rfl) (fun ch w' => Ending.panicked ch = thrown k p ∧ Touch (onlyB c) W w') [] ?_ ?_
        · repeat (refine Tch.plan_p rfl (fun K hK => ?_); go_simp; refine hK _ ?_; clear hK K)
          refine Tch.plan_e1 rfl rfl (.agg #[str op, .int .i64 (n : Int), str t, str o, slv g args.length cap]) (fun w' he => ?_) (fun K hK => ?_)
          · have d0 := Touch.cell he e0 (fun e => hne1 e)
            have d1 := Touch.cell he e1 (fun e => hne1 e)
            have d2 := Touch.cell he e2 (fun e => hne1 e)
            have d3 := Touch.cell he e3 (fun e => hne1 e)
            have d4 := Touch.cell he e4 (fun e => hne1 e)
            clear e0 e1 e2 e3 e4 he
            go_simp
          go_simp; refine hK _ ?_; clear hK K
          repeat (refine Tch.plan_p rfl (fun K hK => ?_); go_simp; refine hK _ ?_; clear hK K)
          refine Tch.plan_t rfl (fun K hK => ?_)
          clear hK
          go_wp2_with fail
          refine (HRD.out _ (j + 1) (HS.out.ext (Ext.refl W).drew)).mono ?_
          rintro e w5 ⟨hT5, hp⟩
          rw [hr] at hp
          obtain rfl := hp
          exact ⟨⟨rfl, ((Touch.refl _ W).drew).trans hT5⟩, rfl⟩
        · rintro x ⟨tmps, ds⟩ w5 ⟨hx, hT5⟩ rfl
          obtain rfl := Ending.panicked.inj hx
          refine ⟨rfl, RdPost.bad ?_ (HTW.out.trans hT5)⟩
          obtain ⟨f', -, -, h1⟩ := HSO.out
          rw [h1, HR.out]; rfl
      | ok xt =>
        obtain ⟨y, ts⟩ := xt
        have HR := Lib.hid hr
        refine Tch.region_calm [.p 0, .e 1, .p 2, .h 3 true, .h 4 false, .p 5, .h 6 false] f_mixed (by kernel_rfl) (by kernel_rfl) ?_
        repeat (refine Tch.plan_p rfl (fun K hK => ?_); go_simp; refine hK _ ?_; clear hK K)
        refine Tch.plan_e1 rfl rfl (.agg #[str op, .int .i64 (n : Int), str t, str o, slv g args.length cap]) (fun w' he => ?_) (fun K hK => ?_)
        · have d0 := Touch.cell he e0 (fun e => hne1 e)
          have d1 := Touch.cell he e1 (fun e => hne1 e)
          have d2 := Touch.cell he e2 (fun e => hne1 e)
          have d3 := Touch.cell he e3 (fun e => hne1 e)
          have d4 := Touch.cell he e4 (fun e => hne1 e)
          clear e0 e1 e2 e3 e4 he
          go_simp
        go_simp; refine hK _ ?_; clear hK K
        repeat (refine Tch.plan_p rfl (fun K hK => ?_); go_simp; refine hK _ ?_; clear hK K)
        refine Tch.plan_ct rfl rfl (fun K _ hK => ?_)
        go_wp2_with fail
        refine (HRD.out _ (j + 1) (HS.out.ext (Ext.refl W).drew)).mono ?_
        rintro e w5 ⟨hT5, hp⟩
        rw [hr] at hp
        obtain ⟨v, j', rfl, ⟨cs, rfl, hy⟩, rfl, hS5⟩ := hp
        have hT5' : Touch (onlyB c) W w5 := ((Touch.refl _ W).drew).trans hT5
        have HTT := Lib.hid (HTW.out.trans hT5')
        have HEb5 := Lib.hid (hT5'.old HEb.out (fun e => hne1 e))
        have HRb5 := Lib.hid (hT5'.old HRb.out (fun e => hne2 e))
        have HEx5 := Lib.hid (HEx.out.touch hT5' (fun b _ hb e => by have h1 : b = c.sb := e; omega))
        have HY := Lib.hid (ExC.weak (A' := fun b => w.heap.size < b ∧ b ≠ w1.heap.size) hy (fun b _ hb => by simp at hb; omega))
        have HS5' := Lib.hid hS5
        have HJ : Hid (c.all.length - j' ≤ c.all.length - (j + 1)) := by
          have h1 := (HSUF.out _ _ _ HR.out).length_le
          rw [ts_len, ts_len] at h1
          exact Lib.hid h1
        obtain ⟨op', n', t', o', args'⟩ := y
        obtain ⟨g', cap', fl', rfl, _⟩ := HY.out
        have HTK := Lib.hid hT5'.size
        have hcl : (exCells op' n' t' o' (slv g' args'.length cap')).toArray = #[str op', .int .i64 (n' : Int), str t', str o', slv g' args'.length cap'] := rfl
        rw [hcl]
        go_wp2_with fail
        refine hK _ _ hT5 ?_
        clear hK K hT5 hT5' hy hS5 e0 e1 e2 e3 e4 hr hcl
        obtain ⟨e0, e1, e2, e3, e4⟩ := blk5 HEb5.out
        have f0 := blk_frozen HEb5.out 0
        have f1 := blk_frozen HEb5.out 1
        have f2 := blk_frozen HEb5.out 2
        have f3 := blk_frozen HEb5.out 3
        have f4 := blk_frozen HEb5.out 4
        have hW5 := blk_lt HEb5.out
        refine Tch.plan_c rfl rfl (fun K _ hK => ?_)
        go_wp2_with fail
        repeat (refine Tch.plan_p rfl (fun K hK => ?_); go_simp; refine hK _ ?_; clear hK K)
        refine Tch.plan_c rfl rfl (fun K _ hK => ?_)
        go_wp2_with fail
        refine tch_done ?_
        go_wp2
        go_roundg (c.all.length - j')
        case measure => have h1 := HI.out.k; have h2 := HJ.out; omega
        case rel =>
          have hl : Touch (fun b => b = w1.heap.size) w5 (((((((w5.setCell ⟨w1.heap.size, 0, none⟩ (str tk.2.1)).setCell ⟨w1.heap.size, 1, none⟩ (.int .i64 0)).setCell ⟨w1.heap.size, 2, none⟩ (str [])).setCell ⟨w1.heap.size, 3, none⟩ (str [])).setCell ⟨w1.heap.size, 4, none⟩ (.slice (some ⟨w5.heap.size, 0, none⟩) 2 2)).alloc
            (.cells #[str op, .int .i64 (n : Int), str t, str o, slv g args.length cap, str op', .int .i64 (n' : Int), str t', str o', slv g' args'.length cap'] 45))) := (late5 (Touch.refl _ _) _ _ _ _ _).alloc _
          obtain ⟨f', hf', hfew, hso⟩ := HSO.out
          have hcg : ∀ b, c.g = some b → b ≠ w1.heap.size := fun b hb e => by
            have h1 := H.out.toks
            rw [hb] at h1
            have := h1.block_lt
            omega
          refine ⟨j', f', tk.2.1, 0, [], [], [.mk op n t o args, .mk op' n' t' o' args'], some w5.heap.size, 2, rfl, HS5'.out.touch hl (fun e => hne1 e.symm) hcg, HTT.out.trans' hl (fun b hb e => by omega), ?_, ?_, hl.old HRb5.out (fun e => by omega), by have := HJ.out; omega, ?_⟩
          · exact blk_alloc (set5 HEb5.out _ _ _ _ _)
          · exact two_cells (c1 := exCells op n t o (slv g args.length cap)) (c2 := exCells op' n' t' o' (slv g' args'.length cap')) (blk_new_at _ (by simp only [size_set])) (HEx5.out.touch hl (fun b _ hb => hb.2)) (HY.out.touch hl (fun b _ hb => hb.2)) ⟨by omega, by omega⟩
          · rw [hso, HR.out]; rfl
    | false =>
      go_wp2_with fail
      refine (is_ok c j d _ (HI.out.src.ext HE2.out) 4 tg L ((HL.out.touch HI.out.touch (fun b hb => HNE.out b hb)).ext HE2.out) hLn).mono ?_
      rintro e w3 ⟨rfl, hE3⟩
      have HE3 := Lib.hid (HE2.out.trans hE3)
      clear hE3
      cases h4 : isR 4 L (c.ts j) with
      | true =>
        have HANY : Hid (anyT L (c.ts j) = true) := by show _ = _; rw [isR_any L HL0.out, h1, h4]; rfl
        have hj := any_lt HANY.out
        have hS5 := ((HI.out.src.ext HE3.out).ext (Ext.refl _).drew).move (j := j + 1) (by omega)
        rw [Int.natCast_add] at hS5
        have HS5 := Lib.hid hS5
        have heb := Ext.block HE3.out HI.out.e
        have hrb := Ext.block HE3.out HI.out.res
        have hne1 : w1.heap.size ≠ c.sb := by
          intro e0
          have h1 := HI.out.e
          rw [e0, HI.out.src.blk] at h1
          simp at h1
        have hne2 : w.heap.size ≠ c.sb := by omega
        have HEB := Lib.hid heb
        have HRB := Lib.hid hrb
        obtain ⟨tb, tk, hg, ht, hb, hbn, hts, c0, c1, c2, c3⟩ := (HI.out.src.ext HE3.out).at hj
        have z := tidx_ok hg hj
        have HT := Lib.hid hts
        obtain ⟨q0, q1, q2, q3⟩ := blk4 (HI.out.src.ext HE3.out).blk
        have lb5 := blk_lt (HI.out.src.ext HE3.out).blk
        have fz := blk_frozen (HI.out.src.ext HE3.out).blk 1
        have hsm := HI.out.src.small
        have hw1 : IntKind.i64.wrap ((j : Int) + 1) = (j : Int) + 1 := by rw [IntKind.wrap_i64]; omega
        clear hg ht hts c0 c2 c3 hS5 heb hrb h1
        (try clear h4)
        go_wp2
        refine region_calm [.p 0, .p 1, .p 2, .l 3, .p 4, .p 5, .p 6, .l 7, .p 8, .p 9, .l 10, .p 11] f_mixed (by kernel_rfl) (by kernel_rfl) ?_
        repeat ((first | refine plan_p rfl (fun K hK => ?_) | refine plan_l rfl (fun K hK => ?_)); go_simp; refine hK _ ?_; clear hK K)
        refine plan_done ?_
        go_wp2
        refine wp_at (fun W => Src W c (j + 1) d ∧ Touch (onlyB c) w W ∧ W.heap[w1.heap.size]? = some (.cells #[str op, .int .i64 (n : Int), str t, str o, slv g args.length cap] 45 (0, 0)) ∧ ExC W (fun b => w.heap.size < b ∧ b ≠ w1.heap.size) (exCells op n t o (slv g args.length cap)) (.mk op n t o args) ∧ W.heap[w.heap.size]? = some zEx) ⟨HS5.out, ?_, ?_, ?_, ?_⟩ ?_
        · exact ((HI.out.touch.trans (HE3.out.touch _)).drew).setCell (p := ⟨c.sb, 1, none⟩) (fun _ => rfl) _
        · exact blk_set_ne HEB.out hne1 _
        · exact ((HI.out.ex.ext HE3.out).ext (Ext.refl _).drew).touch ((Touch.refl (onlyB c) _).setCell (p := ⟨c.sb, 1, none⟩) (fun _ => rfl) _) (fun b _ hb e => by have h1 : b = c.sb := e; omega)
        · exact blk_set_ne HRB.out hne2 _
        rintro W ⟨hS, hT, hEb, hEx, hRb⟩
        have HS := Lib.hid hS
        have HTW := Lib.hid hT
        have HEb := Lib.hid hEb
        have HEx := Lib.hid hEx
        have HRb := Lib.hid hRb
        have HSO : Hid (∃ f', f = f' + 1 ∧ c.all.length - (j + 1) ≤ f' ∧ ch rd L (c.ts i) = bnd (rd (c.ts (j + 1))) fun x r => chL rd L f' (eTwo tk.2.1 (.mk op n t o args) x) r) := by
          have h1 := HI.out.few
          obtain ⟨f', rfl⟩ : ∃ f', f = f' + 1 := ⟨f - 1, by omega⟩
          refine Lib.hid ⟨f', rfl, by omega, ?_⟩
          rw [HI.out.so, chL, if_pos HANY.out, Src.tail, HT.out]; rfl
        obtain ⟨e0, e1, e2, e3, e4⟩ := blk5 hEb
        have hW := blk_lt hEb
        clear hS hT hEb hEx hRb hb hbn c1 z q0 q1 q2 q3 lb5 fz hw1
        letI : Tch.TS := ⟨onlyB c⟩
        cases hr : rd (c.ts (j + 1)) with
        | error kp =>
          obtain ⟨k, p⟩ := kp
          have HR := Lib.hid hr
          refine region_gives [.p 0, .e 1, .p 2, .h 3 true, .h 4 false, .p 5, .h 6 false] f_mixed (by kernel_rfl) (by kernel_rfl) (fun ch w' => Ending.panicked ch = thrown k p ∧ Touch (onlyB c) W w') [] ?_ ?_
          · repeat (refine Tch.plan_p rfl (fun K hK => ?_); go_simp; refine hK _ ?_; clear hK K)
            refine Tch.plan_e1 rfl rfl (.agg #[str op, .int .i64 (n : Int), str t, str o, slv g args.length cap]) (fun w' he => ?_) (fun K hK => ?_)
            · have d0 := Touch.cell he e0 (fun e => hne1 e)
              have d1 := Touch.cell he e1 (fun e => hne1 e)
              have d2 := Touch.cell he e2 (fun e => hne1 e)
              have d3 := Touch.cell he e3 (fun e => hne1 e)
              have d4 := Touch.cell he e4 (fun e => hne1 e)
              clear e0 e1 e2 e3 e4 he
              go_simp
            go_simp; refine hK _ ?_; clear hK K
            repeat (refine Tch.plan_p rfl (fun K hK => ?_); go_simp; refine hK _ ?_; clear hK K)
            refine Tch.plan_t rfl (fun K hK => ?_)
            clear hK
            go_wp2_with fail
            refine (HRD.out _ (j + 1) (HS.out.ext (Ext.refl W).drew)).mono ?_
            rintro e w5 ⟨hT5, hp⟩
            rw [hr] at hp
            obtain rfl := hp
            exact ⟨⟨rfl, ((Touch.refl _ W).drew).trans hT5⟩, rfl⟩
          · rintro x ⟨tmps, ds⟩ w5 ⟨hx, hT5⟩ rfl
            obtain rfl := Ending.panicked.inj hx
            refine ⟨rfl, RdPost.bad ?_ (HTW.out.trans hT5)⟩
            obtain ⟨f', -, -, h1⟩ := HSO.out
            rw [h1, HR.out]; rfl
        | ok xt =>
          obtain ⟨y, ts⟩ := xt
          have HR := Lib.hid hr
          refine Tch.region_calm [.p 0, .e 1, .p 2, .h 3 true, .h 4 false, .p 5, .h 6 false] f_mixed (by kernel_rfl) (by kernel_rfl) ?_
          repeat (refine Tch.plan_p rfl (fun K hK => ?_); go_simp; refine hK _ ?_; clear hK K)
          refine Tch.plan_e1 rfl rfl (.agg #[str op, .int .i64 (n : Int), str t, str o, slv g args.length cap]) (fun w' he => ?_) (fun K hK => ?_)
          · have d0 := Touch.cell he e0 (fun e => hne1 e)
            have d1 := Touch.cell he e1 (fun e => hne1 e)
            have d2 := Touch.cell he e2 (fun e => hne1 e)
            have d3 := Touch.cell he e3 (fun e => hne1 e)
            have d4 := Touch.cell he e4 (fun e => hne1 e)
            clear e0 e1 e2 e3 e4 he
            go_simp
          go_simp; refine hK _ ?_; clear hK K
          repeat (refine Tch.plan_p rfl (fun K hK => ?_); go_simp; refine hK _ ?_; clear hK K)
          refine Tch.plan_ct rfl rfl (fun K _ hK => ?_)
          go_wp2_with fail
          refine (HRD.out _ (j + 1) (HS.out.ext (Ext.refl W).drew)).mono ?_
          rintro e w5 ⟨hT5, hp⟩
          rw [hr] at hp
          obtain ⟨v, j', rfl, ⟨cs, rfl, hy⟩, rfl, hS5⟩ := hp
          have hT5' : Touch (onlyB c) W w5 := ((Touch.refl _ W).drew).trans hT5
          have HTT := Lib.hid (HTW.out.trans hT5')
          have HEb5 := Lib.hid (hT5'.old HEb.out (fun e => hne1 e))
          have HRb5 := Lib.hid (hT5'.old HRb.out (fun e => hne2 e))
          have HEx5 := Lib.hid (HEx.out.touch hT5' (fun b _ hb e => by have h1 : b = c.sb := e; omega))
          have HY := Lib.hid (ExC.weak (A' := fun b => w.heap.size < b ∧ b ≠ w1.heap.size) hy (fun b _ hb => by simp at hb; omega))
          have HS5' := Lib.hid hS5
          have HJ : Hid (c.all.length - j' ≤ c.all.length - (j + 1)) := by
            have h1 := (HSUF.out _ _ _ HR.out).length_le
            rw [ts_len, ts_len] at h1
            exact Lib.hid h1
          obtain ⟨op', n', t', o', args'⟩ := y
          obtain ⟨g', cap', fl', rfl, _⟩ := HY.out
          have HTK := Lib.hid hT5'.size
          have hcl : (exCells op' n' t' o' (slv g' args'.length cap')).toArray = #[str op', .int .i64 (n' : Int), str t', str o', slv g' args'.length cap'] := rfl
          rw [hcl]
          go_wp2_with fail
          refine hK _ _ hT5 ?_
          clear hK K hT5 hT5' hy hS5 e0 e1 e2 e3 e4 hr hcl
          obtain ⟨e0, e1, e2, e3, e4⟩ := blk5 HEb5.out
          have f0 := blk_frozen HEb5.out 0
          have f1 := blk_frozen HEb5.out 1
          have f2 := blk_frozen HEb5.out 2
          have f3 := blk_frozen HEb5.out 3
          have f4 := blk_frozen HEb5.out 4
          have hW5 := blk_lt HEb5.out
          refine Tch.plan_c rfl rfl (fun K _ hK => ?_)
          go_wp2_with fail
          repeat (refine Tch.plan_p rfl (fun K hK => ?_); go_simp; refine hK _ ?_; clear hK K)
          refine Tch.plan_c rfl rfl (fun K _ hK => ?_)
          go_wp2_with fail
          refine tch_done ?_
          go_wp2
          go_roundg (c.all.length - j')
          case measure => have h1 := HI.out.k; have h2 := HJ.out; omega
          case rel =>
            have hl : Touch (fun b => b = w1.heap.size) w5 (((((((w5.setCell ⟨w1.heap.size, 0, none⟩ (str tk.2.1)).setCell ⟨w1.heap.size, 1, none⟩ (.int .i64 0)).setCell ⟨w1.heap.size, 2, none⟩ (str [])).setCell ⟨w1.heap.size, 3, none⟩ (str [])).setCell ⟨w1.heap.size, 4, none⟩ (.slice (some ⟨w5.heap.size, 0, none⟩) 2 2)).alloc
              (.cells #[str op, .int .i64 (n : Int), str t, str o, slv g args.length cap, str op', .int .i64 (n' : Int), str t', str o', slv g' args'.length cap'] 45))) := (late5 (Touch.refl _ _) _ _ _ _ _).alloc _
            obtain ⟨f', hf', hfew, hso⟩ := HSO.out
            have hcg : ∀ b, c.g = some b → b ≠ w1.heap.size := fun b hb e => by
              have h1 := H.out.toks
              rw [hb] at h1
              have := h1.block_lt
              omega
            refine ⟨j', f', tk.2.1, 0, [], [], [.mk op n t o args, .mk op' n' t' o' args'], some w5.heap.size, 2, rfl, HS5'.out.touch hl (fun e => hne1 e.symm) hcg, HTT.out.trans' hl (fun b hb e => by omega), ?_, ?_, hl.old HRb5.out (fun e => by omega), by have := HJ.out; omega, ?_⟩
            · exact blk_alloc (set5 HEb5.out _ _ _ _ _)
            · exact two_cells (c1 := exCells op n t o (slv g args.length cap)) (c2 := exCells op' n' t' o' (slv g' args'.length cap')) (blk_new_at _ (by simp only [size_set])) (HEx5.out.touch hl (fun b _ hb => hb.2)) (HY.out.touch hl (fun b _ hb => hb.2)) ⟨by omega, by omega⟩
            · rw [hso, HR.out]; rfl
      | false =>
        have hany : anyT L (c.ts j) = false := by rw [isR_any L HL0.out, h1, h4]; rfl
        have HSO : Hid (ch rd L (c.ts i) = .ok (.mk op n t o args, c.ts j)) := by show _ = _; rw [HI.out.so, chL_stop hany]
        have HB3 := Lib.hid (Ext.block HE3.out HI.out.res)
        have HEB := Lib.hid (Ext.block HE3.out HI.out.e)
        obtain ⟨e0, e1, e2, e3, e4⟩ := blk5 HB3.out
        obtain ⟨d0, d1, d2, d3, d4⟩ := blk5 HEB.out
        have f0 := blk_frozen HB3.out 0
        have f1 := blk_frozen HB3.out 1
        have f2 := blk_frozen HB3.out 2
        have f3 := blk_frozen HB3.out 3
        have f4 := blk_frozen HB3.out 4
        have lb3 := blk_lt HB3.out
        clear h1 h4 hany
        go_wp2
        refine bodyPost_ret (v := .agg (exCells op n t o (slv g args.length cap)).toArray) (results_ex rfl rfl (set5 HB3.out _ _ _ _ _)) rfl ?_
        exact fin_ex (w2 := w3) H.out (HI.out.touch.trans (HE3.out.touch _)) (HI.out.src.ext HE3.out) ((HI.out.ex.ext HE3.out).weak (fun b _ h => h.1)) (late5 (Touch.refl _ _) _ _ _ _ _) HSO.out
theorem ent_factor : Ent 153 := enters_of Tryz.func153 (by kernel_rfl) rfl
theorem ent_product : Ent 145 := enters_of Tryz.func145 (by kernel_rfl) rfl
theorem ent_not : Ent 116 := enters_of Tryz.func116 (by kernel_rfl) rfl
theorem ent_both : Ent 92 := enters_of Tryz.func92 (by kernel_rfl) rfl
theorem ent_expr : Ent 59 := enters_of Tryz.func59 (by kernel_rfl) rfl
abbrev Rdr (F : FuncId) (c : Cx) (d : Nat) (rd : List Tok → Res Ex) : Prop := ∀ w i, Src w c i d → Calls Tryz.prog F #[.pointer (some ⟨c.sb, 0, none⟩)] w (RdPost VEx w c d (rd (c.ts i)))
theorem txts_new2 (w : World) (o : Obj) (L : List Str) : Txts ((w.alloc o).alloc (.cells (L.map str).toArray 9)) (some (w.heap.size + 1)) L := by
 show ((w.alloc o).alloc _).heap[w.heap.size + 1]? = _
 exact blk_new_at _ (by simp)
theorem product_ok (c : Cx) (i d : Nat) (w : World) (h : Src w c i d) (rd : List Tok → Res Ex) (hsuf : ∀ ts, Suf ts (rd ts)) (hrd : Rdr 153 c d rd) :
   Calls Tryz.prog 145 #[.pointer (some ⟨c.sb, 0, none⟩)] w (RdPost VEx w c d (ch rd [[42]] (c.ts i))) := by
 have H := Lib.hid h
 have HR := Lib.hid hrd
 have HSU := Lib.hid hsuf
 have lb := blk_lt h.blk
 have HENT := Lib.hid ent_factor
 have HB0 : Hid (((w.alloc zEx).alloc (.cells #[str [42]] 9)).heap[w.heap.size]? = some zEx) := blk_alloc (blk_new w _)
 have HX0 : Hid (Ext w ((w.alloc zEx).alloc (.cells #[str [42]] 9))) := Lib.hid (((Ext.refl w).alloc _).alloc _)
 have HTX : Hid (Txts ((w.alloc zEx).alloc (.cells #[str [42]] 9)) (some (w.heap.size + 1)) [[42]]) := Lib.hid (txts_new2 w zEx [[42]])
 clear h hrd hsuf
 go_enter Tryz.func145, Tryz.ntmps145
 go_wp2_with fail
 refine (chain_ok c i d _ (H.out.ext HX0.out) _ HENT.out (some (w.heap.size + 1)) [[42]] HTX.out (by simp) (by simp) rd HSU.out HR.out).mono ?_
 rintro e w2 ⟨hT, hp⟩
 have HT := Lib.hid ((HX0.out.touch _).trans hT)
 have hb2 := hT.old HB0.out (fun e => by have h2 : w.heap.size = c.sb := e; omega)
 have HB2 := Lib.hid hb2
 cases hr : ch rd [[42]] (c.ts i) with
 | error kp =>
   obtain ⟨k, p⟩ := kp
   rw [hr] at hp
   obtain rfl := hp
   exact bodyPost_panic rfl (RdPost.bad rfl HT.out)
 | ok xt =>
   obtain ⟨x, ts⟩ := xt
   rw [hr] at hp
   obtain ⟨v, j, rfl, ⟨cs, rfl, hx⟩, rfl, hS⟩ := hp
   have HS := Lib.hid hS
   have HRES := Lib.hid hr
   have hX := ExC.weak (A' := fun b => w.heap.size < b) hx (fun b _ hb => by simp at hb; omega)
   obtain ⟨op, n, t, o, args⟩ := x
   obtain ⟨g, cap, fl, rfl, hX2⟩ := hX
   have HX : Hid (ExC w2 (fun b => w.heap.size < b) (exCells op n t o (slv g args.length cap)) (.mk op n t o args)) := Lib.hid ⟨g, cap, fl, rfl, hX2⟩
   have lb2 := blk_lt hb2
   obtain ⟨e0, e1, e2, e3, e4⟩ := blk5 hb2
   have f0 := blk_frozen hb2 0
   have f1 := blk_frozen hb2 1
   have f2 := blk_frozen hb2 2
   have f3 := blk_frozen hb2 3
   have f4 := blk_frozen hb2 4
   clear hT hb2 hx hS hX2 hr
   unfold exCells
   go_wp2
   refine bodyPost_ret (v := .agg (exCells op n t o (slv g args.length cap)).toArray) (results_ex rfl rfl (set5 HB2.out _ _ _ _ _)) rfl ?_
   exact fin_ex (w2 := w2) H.out HT.out HS.out HX.out (late5 (Touch.refl _ _) _ _ _ _ _) HRES.out
theorem sum_ok (c : Cx) (i d : Nat) (w : World) (h : Src w c i d) (rd : List Tok → Res Ex) (hsuf : ∀ ts, Suf ts (rd ts)) (hrd : Rdr 145 c d rd) :
   Calls Tryz.prog 134 #[.pointer (some ⟨c.sb, 0, none⟩)] w (RdPost VEx w c d (ch rd [[43], [45]] (c.ts i))) := by
 have H := Lib.hid h
 have HR := Lib.hid hrd
 have HSU := Lib.hid hsuf
 have lb := blk_lt h.blk
 have HENT := Lib.hid ent_product
 have HB0 : Hid (((w.alloc zEx).alloc (.cells #[str [43], str [45]] 9)).heap[w.heap.size]? = some zEx) := blk_alloc (blk_new w _)
 have HX0 : Hid (Ext w ((w.alloc zEx).alloc (.cells #[str [43], str [45]] 9))) := Lib.hid (((Ext.refl w).alloc _).alloc _)
 have HTX : Hid (Txts ((w.alloc zEx).alloc (.cells #[str [43], str [45]] 9)) (some (w.heap.size + 1)) [[43], [45]]) := Lib.hid (txts_new2 w zEx [[43], [45]])
 clear h hrd hsuf
 go_enter Tryz.func134, Tryz.ntmps134
 go_wp2_with fail
 refine (chain_ok c i d _ (H.out.ext HX0.out) _ HENT.out (some (w.heap.size + 1)) [[43], [45]] HTX.out (by simp) (by simp) rd HSU.out HR.out).mono ?_
 rintro e w2 ⟨hT, hp⟩
 have HT := Lib.hid ((HX0.out.touch _).trans hT)
 have hb2 := hT.old HB0.out (fun e => by have h2 : w.heap.size = c.sb := e; omega)
 have HB2 := Lib.hid hb2
 cases hr : ch rd [[43], [45]] (c.ts i) with
 | error kp =>
   obtain ⟨k, p⟩ := kp
   rw [hr] at hp
   obtain rfl := hp
   exact bodyPost_panic rfl (RdPost.bad rfl HT.out)
 | ok xt =>
   obtain ⟨x, ts⟩ := xt
   rw [hr] at hp
   obtain ⟨v, j, rfl, ⟨cs, rfl, hx⟩, rfl, hS⟩ := hp
   have HS := Lib.hid hS
   have HRES := Lib.hid hr
   have hX := ExC.weak (A' := fun b => w.heap.size < b) hx (fun b _ hb => by simp at hb; omega)
   obtain ⟨op, n, t, o, args⟩ := x
   obtain ⟨g, cap, fl, rfl, hX2⟩ := hX
   have HX : Hid (ExC w2 (fun b => w.heap.size < b) (exCells op n t o (slv g args.length cap)) (.mk op n t o args)) := Lib.hid ⟨g, cap, fl, rfl, hX2⟩
   have lb2 := blk_lt hb2
   obtain ⟨e0, e1, e2, e3, e4⟩ := blk5 hb2
   have f0 := blk_frozen hb2 0
   have f1 := blk_frozen hb2 1
   have f2 := blk_frozen hb2 2
   have f3 := blk_frozen hb2 3
   have f4 := blk_frozen hb2 4
   clear hT hb2 hx hS hX2 hr
   unfold exCells
   go_wp2
   refine bodyPost_ret (v := .agg (exCells op n t o (slv g args.length cap)).toArray) (results_ex rfl rfl (set5 HB2.out _ _ _ _ _)) rfl ?_
   exact fin_ex (w2 := w2) H.out HT.out HS.out HX.out (late5 (Touch.refl _ _) _ _ _ _ _) HRES.out
theorem both_ok (c : Cx) (i d : Nat) (w : World) (h : Src w c i d) (rd : List Tok → Res Ex) (hsuf : ∀ ts, Suf ts (rd ts)) (hrd : Rdr 116 c d rd) :
   Calls Tryz.prog 92 #[.pointer (some ⟨c.sb, 0, none⟩)] w (RdPost VEx w c d (ch rd [[65, 78, 68]] (c.ts i))) := by
 have H := Lib.hid h
 have HR := Lib.hid hrd
 have HSU := Lib.hid hsuf
 have lb := blk_lt h.blk
 have HENT := Lib.hid ent_not
 have HB0 : Hid (((w.alloc zEx).alloc (.cells #[str [65, 78, 68]] 9)).heap[w.heap.size]? = some zEx) := blk_alloc (blk_new w _)
 have HX0 : Hid (Ext w ((w.alloc zEx).alloc (.cells #[str [65, 78, 68]] 9))) := Lib.hid (((Ext.refl w).alloc _).alloc _)
 have HTX : Hid (Txts ((w.alloc zEx).alloc (.cells #[str [65, 78, 68]] 9)) (some (w.heap.size + 1)) [[65, 78, 68]]) := Lib.hid (txts_new2 w zEx [[65, 78, 68]])
 clear h hrd hsuf
 go_enter Tryz.func92, Tryz.ntmps92
 go_wp2_with fail
 refine (chain_ok c i d _ (H.out.ext HX0.out) _ HENT.out (some (w.heap.size + 1)) [[65, 78, 68]] HTX.out (by simp) (by simp) rd HSU.out HR.out).mono ?_
 rintro e w2 ⟨hT, hp⟩
 have HT := Lib.hid ((HX0.out.touch _).trans hT)
 have hb2 := hT.old HB0.out (fun e => by have h2 : w.heap.size = c.sb := e; omega)
 have HB2 := Lib.hid hb2
 cases hr : ch rd [[65, 78, 68]] (c.ts i) with
 | error kp =>
   obtain ⟨k, p⟩ := kp
   rw [hr] at hp
   obtain rfl := hp
   exact bodyPost_panic rfl (RdPost.bad rfl HT.out)
 | ok xt =>
   obtain ⟨x, ts⟩ := xt
   rw [hr] at hp
   obtain ⟨v, j, rfl, ⟨cs, rfl, hx⟩, rfl, hS⟩ := hp
   have HS := Lib.hid hS
   have HRES := Lib.hid hr
   have hX := ExC.weak (A' := fun b => w.heap.size < b) hx (fun b _ hb => by simp at hb; omega)
   obtain ⟨op, n, t, o, args⟩ := x
   obtain ⟨g, cap, fl, rfl, hX2⟩ := hX
   have HX : Hid (ExC w2 (fun b => w.heap.size < b) (exCells op n t o (slv g args.length cap)) (.mk op n t o args)) := Lib.hid ⟨g, cap, fl, rfl, hX2⟩
   have lb2 := blk_lt hb2
   obtain ⟨e0, e1, e2, e3, e4⟩ := blk5 hb2
   have f0 := blk_frozen hb2 0
   have f1 := blk_frozen hb2 1
   have f2 := blk_frozen hb2 2
   have f3 := blk_frozen hb2 3
   have f4 := blk_frozen hb2 4
   clear hT hb2 hx hS hX2 hr
   unfold exCells
   go_wp2
   refine bodyPost_ret (v := .agg (exCells op n t o (slv g args.length cap)).toArray) (results_ex rfl rfl (set5 HB2.out _ _ _ _ _)) rfl ?_
   exact fin_ex (w2 := w2) H.out HT.out HS.out HX.out (late5 (Touch.refl _ _) _ _ _ _ _) HRES.out
theorem expr_ok' (c : Cx) (i d : Nat) (w : World) (h : Src w c i d) (rd : List Tok → Res Ex) (hsuf : ∀ ts, Suf ts (rd ts)) (hrd : Rdr 92 c d rd) :
   Calls Tryz.prog 59 #[.pointer (some ⟨c.sb, 0, none⟩)] w (RdPost VEx w c d (ch rd [[79, 82]] (c.ts i))) := by
 have H := Lib.hid h
 have HR := Lib.hid hrd
 have HSU := Lib.hid hsuf
 have lb := blk_lt h.blk
 have HENT := Lib.hid ent_both
 have HB0 : Hid (((w.alloc zEx).alloc (.cells #[str [79, 82]] 9)).heap[w.heap.size]? = some zEx) := blk_alloc (blk_new w _)
 have HX0 : Hid (Ext w ((w.alloc zEx).alloc (.cells #[str [79, 82]] 9))) := Lib.hid (((Ext.refl w).alloc _).alloc _)
 have HTX : Hid (Txts ((w.alloc zEx).alloc (.cells #[str [79, 82]] 9)) (some (w.heap.size + 1)) [[79, 82]]) := Lib.hid (txts_new2 w zEx [[79, 82]])
 clear h hrd hsuf
 go_enter Tryz.func59, Tryz.ntmps59
 go_wp2_with fail
 refine (chain_ok c i d _ (H.out.ext HX0.out) _ HENT.out (some (w.heap.size + 1)) [[79, 82]] HTX.out (by simp) (by simp) rd HSU.out HR.out).mono ?_
 rintro e w2 ⟨hT, hp⟩
 have HT := Lib.hid ((HX0.out.touch _).trans hT)
 have hb2 := hT.old HB0.out (fun e => by have h2 : w.heap.size = c.sb := e; omega)
 have HB2 := Lib.hid hb2
 cases hr : ch rd [[79, 82]] (c.ts i) with
 | error kp =>
   obtain ⟨k, p⟩ := kp
   rw [hr] at hp
   obtain rfl := hp
   exact bodyPost_panic rfl (RdPost.bad rfl HT.out)
 | ok xt =>
   obtain ⟨x, ts⟩ := xt
   rw [hr] at hp
   obtain ⟨v, j, rfl, ⟨cs, rfl, hx⟩, rfl, hS⟩ := hp
   have HS := Lib.hid hS
   have HRES := Lib.hid hr
   have hX := ExC.weak (A' := fun b => w.heap.size < b) hx (fun b _ hb => by simp at hb; omega)
   obtain ⟨op, n, t, o, args⟩ := x
   obtain ⟨g, cap, fl, rfl, hX2⟩ := hX
   have HX : Hid (ExC w2 (fun b => w.heap.size < b) (exCells op n t o (slv g args.length cap)) (.mk op n t o args)) := Lib.hid ⟨g, cap, fl, rfl, hX2⟩
   have lb2 := blk_lt hb2
   obtain ⟨e0, e1, e2, e3, e4⟩ := blk5 hb2
   have f0 := blk_frozen hb2 0
   have f1 := blk_frozen hb2 1
   have f2 := blk_frozen hb2 2
   have f3 := blk_frozen hb2 3
   have f4 := blk_frozen hb2 4
   clear hT hb2 hx hS hX2 hr
   unfold exCells
   go_wp2
   refine bodyPost_ret (v := .agg (exCells op n t o (slv g args.length cap)).toArray) (results_ex rfl rfl (set5 HB2.out _ _ _ _ _)) rfl ?_
   exact fin_ex (w2 := w2) H.out HT.out HS.out HX.out (late5 (Touch.refl _ _) _ _ _ _ _) HRES.out
theorem leaf_cells (w : World) (A : Nat → Prop) (op : Str) (n : Nat) (t o : Str) : ExC w A (exCells op n t o (slv none 0 0)) (.mk op n t o []) :=
 ⟨none, 0, [], rfl, Sl.nil _ _ _, by simp, rfl⟩
theorem item_ok (c : Cx) (i d : Nat) (w : World) (h : Src w c i d) :
   Calls Tryz.prog 117 #[.pointer (some ⟨c.sb, 0, none⟩)] w (RdPost VEx w c d (item c.E (c.ts i))) := by
 have H := Lib.hid h
 have lb := blk_lt h.blk
 have HB0 : Hid ((w.alloc zEx).heap[w.heap.size]? = some zEx) := blk_new w _
 have hne : w.heap.size ≠ c.sb := by omega
 clear h
 go_enter Tryz.func117, Tryz.ntmps117
 go_wp2_with fail
 refine (name_ok c i d _ (H.out.ext ((Ext.refl w).alloc zEx))).mono ?_
 rintro e w2 ⟨hT, hp⟩
 have HT := Lib.hid ((((Ext.refl w).alloc zEx).touch (onlyB c)).trans hT)
 have HB2 := Lib.hid (hT.old HB0.out (fun e => hne e))
 cases hr : name c.E (c.ts i) with
 | error kp =>
   obtain ⟨k, p⟩ := kp
   rw [hr] at hp
   obtain rfl := hp
   exact bodyPost_panic rfl (RdPost.bad (by rw [item, hr]; rfl) HT.out)
 | ok xt =>
   obtain ⟨n, ts⟩ := xt
   rw [hr] at hp
   obtain ⟨v, j, rfl, rfl, rfl, hS⟩ := hp
   have HS := Lib.hid hS
   have HR := Lib.hid hr
   clear hT hS hr
   go_wp2_with fail
   refine (may_ok c j d _ (HS.out.ext ((Ext.refl w2).alloc _)) (some w2.heap.size) [[46]] (txts_new w2 [[46]]) (by simp)).mono ?_
   rintro e w3 ⟨rfl, hS3, hT3⟩
   rw [mayN_one] at hS3 ⊢
   have hT3' : Touch (onlyB c) w2 w3 := (((Ext.refl w2).alloc _).touch _).trans hT3
   have HT3 := Lib.hid (HT.out.trans hT3')
   have HB3 := Lib.hid (hT3'.old HB2.out (fun e => hne e))
   clear hT3 hT3'
   cases h1 : isT [46] (c.ts j) with
   | false =>
     rw [h1, if_neg (by simp)] at hS3
     have HS3 := Lib.hid hS3
     have HRR : Hid (item c.E (c.ts i) = .ok (eName n [], c.ts j)) := by show _ = _; rw [item, HR.out, bnd_ok, h1]; rfl
     clear hS3 h1
     obtain ⟨e0, e1, e2, e3, e4⟩ := blk5 HB3.out
     have f0 := blk_frozen HB3.out 0
     have f1 := blk_frozen HB3.out 1
     have f2 := blk_frozen HB3.out 2
     have f3 := blk_frozen HB3.out 3
     have f4 := blk_frozen HB3.out 4
     have lbr := blk_lt HB3.out
     go_wp2
     refine bodyPost_ret (v := .agg (exCells [110, 97, 109, 101] 0 n [] (slv none 0 0)).toArray) (results_ex rfl rfl (set5 HB3.out _ _ _ _ _)) rfl ?_
     exact fin_ex (w2 := w3) H.out HT3.out HS3.out (leaf_cells _ _ _ _ _ _) (late5 (Touch.refl _ _) _ _ _ _ _) HRR.out
   | true =>
     rw [h1, if_pos rfl] at hS3
     have HS3 := Lib.hid hS3
     have HRR : Hid (item c.E (c.ts i) = bnd (name c.E (c.ts (j + 1))) fun m r' => .ok (eName m n, r')) := by show _ = _; rw [item, HR.out, bnd_ok, h1, if_pos rfl, Src.tail]
     clear hS3 h1
     go_wp2_with fail
     refine (name_ok c (j + 1) d _ HS3.out).mono ?_
     rintro e w4 ⟨hT4, hp⟩
     have HT4 := Lib.hid (HT3.out.trans hT4)
     have HB4 := Lib.hid (hT4.old HB3.out (fun e => hne e))
     clear hT4
     cases hr : name c.E (c.ts (j + 1)) with
     | error kp =>
       obtain ⟨k, p⟩ := kp
       rw [hr] at hp
       obtain rfl := hp
       exact bodyPost_panic rfl (RdPost.bad (by rw [HRR.out, hr]; rfl) HT4.out)
     | ok xt =>
       obtain ⟨m, ts⟩ := xt
       rw [hr] at hp
       obtain ⟨v, j', rfl, rfl, rfl, hS⟩ := hp
       have HS4 := Lib.hid hS
       have HR4 : Hid (item c.E (c.ts i) = .ok (eName m n, c.ts j')) := by show _ = _; rw [HRR.out, hr]; rfl
       clear hS hr
       obtain ⟨e0, e1, e2, e3, e4⟩ := blk5 HB4.out
       have f0 := blk_frozen HB4.out 0
       have f1 := blk_frozen HB4.out 1
       have f2 := blk_frozen HB4.out 2
       have f3 := blk_frozen HB4.out 3
       have f4 := blk_frozen HB4.out 4
       have lbr := blk_lt HB4.out
       go_wp2
       refine bodyPost_ret (v := .agg (exCells [110, 97, 109, 101] 0 m n (slv none 0 0)).toArray) (results_ex rfl rfl (set5 HB4.out _ _ _ _ _)) rfl ?_
       exact fin_ex (w2 := w4) H.out HT4.out HS4.out (leaf_cells _ _ _ _ _ _) (late5 (Touch.refl _ _) _ _ _ _ _) HR4.out
end Go.Proofs.YtkhnpmeohjafiaaGreatDoor
