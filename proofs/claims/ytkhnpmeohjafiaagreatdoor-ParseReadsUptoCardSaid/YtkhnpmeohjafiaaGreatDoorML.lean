/- Lemmas. -/
import Derived.Test.YtkhnpmeohjafiaaGreatDoorMK
set_option maxHeartbeats 32000000
set_option maxRecDepth 100000
namespace Go.Proofs.YtkhnpmeohjafiaaGreatDoor
open Go.RowKit
theorem portion_ok (c : Cx) (i d : Nat) (w : World) (h : Src w c i d) :
   Calls Tryz.prog 63 #[.pointer (some ⟨c.sb, 0, none⟩)] w (RdPost VPer w c d (portion c.E (c.ts i))) := by
 have H := Lib.hid h
 have lb := blk_lt h.blk
 have hne : w.heap.size ≠ c.sb := by omega
 have HT0 : Hid (Touch (onlyB c) w (w.alloc zPer)) := Lib.hid (((Ext.refl w).alloc _).touch _)
 have HB0 : Hid ((w.alloc zPer).heap[w.heap.size]? = some zPer) := blk_new w _
 have HS0 := Lib.hid (h.ext ((Ext.refl w).alloc zPer))
 clear h
 go_enter Tryz.func63, Tryz.ntmps63
 go_wp2_with fail
 refine (may_ok c i d _ (HS0.out.ext ((Ext.refl _).alloc _)) (some (w.heap.size + 1)) [[70, 79, 82]] (txts_new2 w zPer [[70, 79, 82]]) (by simp)).mono ?_
 rintro e w2 ⟨rfl, hS, hT0⟩
 rw [mayN_one] at hS ⊢
 have hT : Touch (onlyB c) (w.alloc zPer) w2 := (((Ext.refl _).alloc _).touch _).trans hT0
 have HT2 := Lib.hid (HT0.out.trans hT)
 have HB2 := Lib.hid (hT.old HB0.out (fun e => hne e))
 clear hT0 hT
 cases h1 : isT [70, 79, 82] (c.ts i) with
 | true =>
   rw [h1, if_pos rfl] at hS
   have HS2 := Lib.hid hS
   have HR2 : Hid (portion c.E (c.ts i) = period c.E (c.ts (i + 1))) := by show _ = _; rw [portion, if_pos h1, Src.tail]
   clear hS h1
   go_wp2_with fail
   refine (period_ok c (i + 1) d _ HS2.out).mono ?_
   rintro e w3 ⟨hT, hp⟩
   have HT3 := Lib.hid (HT2.out.trans hT)
   have HB3 := Lib.hid (hT.old HB2.out (fun e => hne e))
   rcases hr : period c.E (c.ts (i + 1)) with ⟨k, p⟩ | ⟨⟨a, z⟩, ts⟩
   · rw [hr] at hp
     obtain rfl := hp
     exact bodyPost_panic rfl (RdPost.bad (HR2.out.trans hr) HT3.out)
   rw [hr] at hp
   obtain ⟨v, j, rfl, rfl, rfl, hS⟩ := hp
   have HS3 := Lib.hid hS
   have HR3 := Lib.hid (HR2.out.trans hr)
   obtain ⟨e0, e1⟩ := blk2 HB3.out
   have f0 := blk_frozen HB3.out 0
   have f1 := blk_frozen HB3.out 1
   have lb3 := blk_lt HB3.out
   clear hT hS hr
   go_wp2
   refine bodyPost_ret (v := .agg #[.int .i64 (a : Int), .int .i64 (z : Int)]) (results_per rfl rfl (set2 HB3.out _ _)) rfl ?_
   exact fin_late (x := (a, z)) H.out HT3.out HS3.out (late2 (Touch.refl _ _) (Nat.le_refl _) _ _) rfl HR3.out
 | false =>
   rw [h1, if_neg (by simp)] at hS
   have HS2 := Lib.hid hS
   have HR2 : Hid (portion c.E (c.ts i) = .ok ((0, FOREVER), c.ts i)) := by show _ = _; rw [portion, h1]; rfl
   obtain ⟨e0, e1⟩ := blk2 HB2.out
   have f0 := blk_frozen HB2.out 0
   have f1 := blk_frozen HB2.out 1
   have lb2 := blk_lt HB2.out
   clear hS h1
   go_wp2
   refine bodyPost_ret (v := .agg #[.int .i64 0, .int .i64 1099511627776]) (results_per rfl rfl (set2 HB2.out _ _)) rfl ?_
   exact fin_late (x := (0, FOREVER)) H.out HT2.out HS2.out (late2 (Touch.refl _ _) (Nat.le_refl _) _ _) rfl HR2.out
section
variable {α : Type} (K : Kd α)
def VLA (T : TypeId) (w : World) (A : Nat → Prop) (v : Value) (xs : List α) : Prop :=
 ∃ g cap fl, v = slv g xs.length cap ∧ Sl w T K.size g xs.length cap fl ∧ (∀ b, g = some b → A b) ∧ LsC K w (fun b => A b ∧ g ≠ some b) fl xs
theorem VLA.keep {T : TypeId} {w w' : World} {A A' : Nat → Prop} {v : Value} {xs : List α} (h : VLA K T w A v xs) (hw : ∀ b, b < w.heap.size → A b → w'.heap[b]? = w.heap[b]? ∧ A' b) : VLA K T w' A' v xs := by
 obtain ⟨g, cap, fl, h1, h2, h3, h4⟩ := h
 exact ⟨g, cap, fl, h1, h2.congr fun b hb => (hw b (by subst hb; exact h2.block_lt) (h3 b hb)).1, fun b hb => (hw b (by subst hb; exact h2.block_lt) (h3 b hb)).2,
  LsC.keep K (fun b hb ha => ⟨(hw b hb ha.1).1, (hw b hb ha.1).2, ha.2⟩) fl xs h4⟩
theorem VLA.nil (T : TypeId) (w : World) (A : Nat → Prop) : VLA K T w A (.slice none 0 0) [] := ⟨none, 0, [], rfl, Sl.nil _ _ _, by simp, rfl⟩
theorem VLA.of {T : TypeId} {w : World} {lo : Nat} {A : Nat → Prop} {v : Value} {xs : List α} (h : VLs K T w lo v xs) (hA : ∀ b, b < w.heap.size → lo ≤ b → A b) : VLA K T w A v xs :=
 VLA.keep K (A := fun b => lo ≤ b) h fun b hb ha => ⟨rfl, hA b hb ha⟩
theorem VLA.one {T : TypeId} {w : World} {A : Nat → Prop} {b : Nat} {cs : List Value} {x : α} (h : w.heap[b]? = some (.cells cs.toArray T (0, 0))) (hx : K.C w (fun k => A k ∧ k ≠ b) cs x) (hA : A b) : VLA K T w A (.slice (some ⟨b, 0, none⟩) 1 1) [x] := by
 have hl := K.len hx
 refine ⟨some b, 1, cs, rfl, ⟨by simp [hl], _, h, Nat.le_refl _, by simp [maxLen], by simp [hl], ?_⟩, fun k hk => by cases hk; exact hA, LsC.one K (K.keep (fun k _ hk => ⟨rfl, hk.1, fun e => by cases e; exact hk.2 rfl⟩) _ _ hx)⟩
 rw [List.take_of_length_le]
 simp [hl]
end
def QuC (w : World) (A : Nat → Prop) (cs : List Value) (q : Qu) : Prop :=
 ∃ vi vt vc, cs = [.bool q.coalesce, .bool q.all, .bool q.count, str q.sum, vi, vt, vc] ∧ VLA ExK 45 w A vi q.items ∧ VLA StrK 9 w A vt q.tables ∧ VLA ExK 45 w A vc q.cond
theorem VLA.slice {α : Type} {K : Kd α} {T : TypeId} {w : World} {A : Nat → Prop} {v : Value} {xs : List α} (h : VLA K T w A v xs) : ∃ g cap, v = slv g xs.length cap := by
 obtain ⟨g, cap, _, h, _⟩ := h; exact ⟨g, cap, h⟩
def QuK : Kd Qu where
 C := QuC
 size := 7
 keep hw c q := by
  rintro ⟨vi, vt, vc, rfl, h1, h2, h3⟩
  exact ⟨vi, vt, vc, rfl, h1.keep _ hw, h2.keep _ hw, h3.keep _ hw⟩
 len := by rintro w A c q ⟨vi, vt, vc, rfl, _⟩; rfl
 one := by
  rintro w A c q ⟨vi, vt, vc, rfl, h1, h2, h3⟩ u hu
  obtain ⟨g1, c1, rfl⟩ := h1.slice
  obtain ⟨g2, c2, rfl⟩ := h2.slice
  obtain ⟨g3, c3, rfl⟩ := h3.slice
  simp only [List.mem_cons, List.not_mem_nil, or_false] at hu
  rcases hu with rfl | rfl | rfl | rfl | rfl | rfl | rfl <;> rfl
abbrev zQu : Obj := .cells #[.bool false, .bool false, .bool false, .string (ByteArray.mk #[]), .slice none 0 0, .slice none 0 0, .slice none 0 0] 49
structure Vr {α : Type} (K : Kd α) (T : TypeId) (z : Obj) (w W : World) (c : Cx) (j d : Nat) (cs : List Value) (q : α) : Prop where
 src : Src W c j d
 touch : Touch (onlyB c) w W
 res : W.heap[w.heap.size]? = some z
 blk : W.heap[w.heap.size + 1]? = some (.cells cs.toArray T (0, 0))
 q : K.C W (fun b => w.heap.size + 2 ≤ b) cs q
section
variable {α : Type} {K : Kd α} {T : TypeId} {z : Obj} {w W W' : World} {c : Cx} {j d : Nat} {cs : List Value} {q : α}
theorem Vr.step (h : Vr K T z w W c j d cs q) (h0 : c.sb < w.heap.size) {j' : Nat} (hT : Touch (onlyB c) W W') (hS : Src W' c j' d) : Vr K T z w W' c j' d cs q :=
 ⟨hS, h.touch.trans hT, hT.old h.res (fun e => by have h1 : w.heap.size = c.sb := e; omega), hT.old h.blk (fun e => by have h1 : w.heap.size + 1 = c.sb := e; omega),
  K.keep (fun b hb ha => ⟨hT.block b hb (fun e => by have h1 : b = c.sb := e; omega), ha⟩) _ _ h.q⟩
theorem toks_lt {i : Nat} (h0 : Src w c i d) (b : Nat) (hb : c.g = some b) : b < w.heap.size := by
 have h1 := h0.toks
 rw [hb] at h1
 exact h1.block_lt
theorem Vr.set (h : Vr K T z w W c j d cs q) {i : Nat} (h0 : Src w c i d) (k : Nat) (v : Value) {q' : α} (hq : K.C W (fun b => w.heap.size + 2 ≤ b) (cs.set k v) q') : Vr K T z w (W.setCell ⟨w.heap.size + 1, k, none⟩ v) c j d (cs.set k v) q' := by
 have h1 := blk_lt h0.blk
 have hl : Touch (fun b => b = w.heap.size + 1) W (W.setCell ⟨w.heap.size + 1, k, none⟩ v) := (Touch.refl (fun b => b = w.heap.size + 1) W).setCell (p := ⟨w.heap.size + 1, k, none⟩) (fun _ => rfl) v
 refine ⟨h.src.touch hl (by omega) (fun b hb e => by have := toks_lt h0 b hb; omega), h.touch.trans' hl (fun b hb e => by omega), hl.old h.res (by omega), ?_, K.keep (fun b hb ha => ⟨hl.block b hb (fun e => by omega), ha⟩) _ _ hq⟩
 have h2 := blk_set h.blk k v
 simpa using h2
end
theorem txts_at {n : Nat} (w : World) (L : List Str) (h : w.heap.size = n) : Txts (w.alloc (.cells (L.map str).toArray 9)) (some n) L := by
 subst h; exact txts_new w L
def VQu (w : World) (lo : Nat) (v : Value) (q : Qu) : Prop := ∃ cs, v = .agg cs.toArray ∧ QuC w (fun b => lo ≤ b) cs q
theorem results_qu {fn : Func} {t : Tmp} (hr : fn.results = #[.cell t 49]) {tmps : Array Value} {w : World} {b : Nat} {f : Nat × Nat} {T : TypeId} {v0 v1 v2 v3 v4 v5 v6 : Value} (ht : tmps.getD t undef = .pointer (some ⟨b, 0, none⟩))
  (h : w.heap[b]? = some (.cells #[v0, v1, v2, v3, v4, v5, v6] T f)) : (results fn tmps).run Tryz.prog w = .ok (.agg #[v0, v1, v2, v3, v4, v5, v6]) w := by
 obtain ⟨c0, c1, c2, c3, c4, c5, c6⟩ := blk7 h
 rw [Array.getD_eq_getD_getElem?] at ht
 simp [results, hr, go_sem, ht, c0, c1, c2, c3, c4, c5, c6]
theorem set7 {w : World} {b : Nat} {T : TypeId} {f : Nat × Nat} {a0 a1 a2 a3 a4 a5 a6 : Value} (h : w.heap[b]? = some (.cells #[a0, a1, a2, a3, a4, a5, a6] T f)) (v0 v1 v2 v3 v4 v5 v6 : Value) :
  (((((((w.setCell ⟨b, 0, none⟩ v0).setCell ⟨b, 1, none⟩ v1).setCell ⟨b, 2, none⟩ v2).setCell ⟨b, 3, none⟩ v3).setCell ⟨b, 4, none⟩ v4).setCell ⟨b, 5, none⟩ v5).setCell ⟨b, 6, none⟩ v6).heap[b]? = some (.cells #[v0, v1, v2, v3, v4, v5, v6] T f) := by
 have h0 : (w.setCell ⟨b, 0, none⟩ v0).heap[b]? = some (.cells #[v0, a1, a2, a3, a4, a5, a6] T f) := blk_set h 0 v0
 have h1 : ((w.setCell ⟨b, 0, none⟩ v0).setCell ⟨b, 1, none⟩ v1).heap[b]? = some (.cells #[v0, v1, a2, a3, a4, a5, a6] T f) := blk_set h0 1 v1
 have h2 : (((w.setCell ⟨b, 0, none⟩ v0).setCell ⟨b, 1, none⟩ v1).setCell ⟨b, 2, none⟩ v2).heap[b]? = some (.cells #[v0, v1, v2, a3, a4, a5, a6] T f) := blk_set h1 2 v2
 have h3 : ((((w.setCell ⟨b, 0, none⟩ v0).setCell ⟨b, 1, none⟩ v1).setCell ⟨b, 2, none⟩ v2).setCell ⟨b, 3, none⟩ v3).heap[b]? = some (.cells #[v0, v1, v2, v3, a4, a5, a6] T f) := blk_set h2 3 v3
 have h4 : (((((w.setCell ⟨b, 0, none⟩ v0).setCell ⟨b, 1, none⟩ v1).setCell ⟨b, 2, none⟩ v2).setCell ⟨b, 3, none⟩ v3).setCell ⟨b, 4, none⟩ v4).heap[b]? = some (.cells #[v0, v1, v2, v3, v4, a5, a6] T f) := blk_set h3 4 v4
 have h5 : ((((((w.setCell ⟨b, 0, none⟩ v0).setCell ⟨b, 1, none⟩ v1).setCell ⟨b, 2, none⟩ v2).setCell ⟨b, 3, none⟩ v3).setCell ⟨b, 4, none⟩ v4).setCell ⟨b, 5, none⟩ v5).heap[b]? = some (.cells #[v0, v1, v2, v3, v4, v5, a6] T f) := blk_set h4 5 v5
 exact blk_set h5 6 v6
theorem late7 {a w : World} {b : Nat} (h : Touch (fun k => k = b) a w) (v0 v1 v2 v3 v4 v5 v6 : Value) : Touch (fun k => k = b) a (((((((w.setCell ⟨b, 0, none⟩ v0).setCell ⟨b, 1, none⟩ v1).setCell ⟨b, 2, none⟩ v2).setCell ⟨b, 3, none⟩ v3).setCell ⟨b, 4, none⟩ v4).setCell ⟨b, 5, none⟩ v5).setCell ⟨b, 6, none⟩ v6) :=
 ((((((h.setCell (p := ⟨b, 0, none⟩) (fun _ => rfl) v0).setCell (p := ⟨b, 1, none⟩) (fun _ => rfl) v1).setCell (p := ⟨b, 2, none⟩) (fun _ => rfl) v2).setCell (p := ⟨b, 3, none⟩) (fun _ => rfl) v3).setCell (p := ⟨b, 4, none⟩) (fun _ => rfl) v4).setCell (p := ⟨b, 5, none⟩) (fun _ => rfl) v5).setCell (p := ⟨b, 6, none⟩) (fun _ => rfl) v6
theorem Vr.done {α : Type} {K : Kd α} {T : TypeId} {z : Obj} {V : World → Nat → Value → α → Prop} {w W W' : World} {c : Cx} {i j d : Nat} {cs : List Value} {q : α} {r : Res α} (h : Vr K T z w W c j d cs q) (h0 : Src w c i d)
  (hl : Touch (fun k => k = w.heap.size) W W') (hV : ∀ {u : World} {lo : Nat}, K.C u (fun b => lo ≤ b) cs q → V u lo (.agg cs.toArray) q) (hr : r = .ok (q, c.ts j)) : RdPost V w c d r (.returned (.agg cs.toArray)) W' :=
 fin_late h0 h.touch h.src (hl.mono (fun b _ e => by omega)) (hV (K.keep (fun b hb ha => ⟨hl.block b hb (fun e => by omega), by omega⟩) _ _ h.q)) hr
theorem Vr.put {α : Type} {K : Kd α} {T : TypeId} {z : Obj} {w W : World} {c : Cx} {i j d : Nat} {cs : List Value} {q : α} (h : Vr K T z w W c j d cs q) (h0 : Src w c i d) (k : Nat) (v : Value) (o : Obj) {q' : α}
  (hq : K.C ((W.setCell ⟨w.heap.size + 1, k, none⟩ v).alloc o) (fun b => w.heap.size + 2 ≤ b) (cs.set k v) q') : Vr K T z w ((W.setCell ⟨w.heap.size + 1, k, none⟩ v).alloc o) c j d (cs.set k v) q' := by
 have h1 := blk_lt h0.blk
 have hl : Touch (fun b => b = w.heap.size + 1) W ((W.setCell ⟨w.heap.size + 1, k, none⟩ v).alloc o) := ((Touch.refl (fun b => b = w.heap.size + 1) W).setCell (p := ⟨w.heap.size + 1, k, none⟩) (fun _ => rfl) v).alloc o
 refine ⟨h.src.touch hl (by omega) (fun b hb e => by have := toks_lt h0 b hb; omega), h.touch.trans' hl (fun b hb e => by omega), hl.old h.res (by omega), ?_, hq⟩
 have h2 := blk_alloc (o' := o) (blk_set h.blk k v)
 simpa using h2
theorem put_old {w W : World} (k : Nat) (v : Value) (o : Obj) : ∀ b, b < W.heap.size → w.heap.size + 2 ≤ b → ((W.setCell ⟨w.heap.size + 1, k, none⟩ v).alloc o).heap[b]? = W.heap[b]? ∧ w.heap.size + 2 ≤ b := by
 intro b hb hl
 have ht : Touch (fun b => b = w.heap.size + 1) W ((W.setCell ⟨w.heap.size + 1, k, none⟩ v).alloc o) := ((Touch.refl (fun b => b = w.heap.size + 1) W).setCell (p := ⟨w.heap.size + 1, k, none⟩) (fun _ => rfl) v).alloc o
 exact ⟨ht.block b hb (by omega), hl⟩
theorem Vr.later {α : Type} {K : Kd α} {T : TypeId} {z : Obj} {w W W' : World} {c : Cx} {i j j' d : Nat} {cs cs' : List Value} {q q' : α} (h : Vr K T z w W c j d cs q) (h0 : Src w c i d)
  (ht : Touch (fun b => b = c.sb ∨ b = w.heap.size + 1 ∨ W.heap.size ≤ b) W W') (hS : Src W' c j' d) (hb : W'.heap[w.heap.size + 1]? = some (.cells cs'.toArray T (0, 0))) (hq : K.C W' (fun b => w.heap.size + 2 ≤ b) cs' q') : Vr K T z w W' c j' d cs' q' := by
 have h1 := blk_lt h0.blk
 have h2 := blk_lt h.blk
 refine ⟨hS, h.touch.trans' ht (fun b hb e => ?_), ht.old h.res (fun e => by omega), hb, hq⟩
 rcases e with e | e | e
 · exact e
 · omega
 · omega
theorem late_old {w W W' : World} {c : Cx} (h1 : c.sb < w.heap.size) (ht : Touch (fun b => b = c.sb ∨ b = w.heap.size + 1 ∨ W.heap.size ≤ b) W W') : ∀ b, b < W.heap.size → w.heap.size + 2 ≤ b → W'.heap[b]? = W.heap[b]? ∧ w.heap.size + 2 ≤ b :=
 fun b hb hl => ⟨ht.block b hb (by omega), hl⟩
theorem query_ok (c : Cx) (i : Nat) (w : World) (h : Src w c i 0) :
   Calls Tryz.prog 94 #[.pointer (some ⟨c.sb, 0, none⟩)] w (RdPost VQu w c 0 (query c.E (c.ts i))) := by
 have H := Lib.hid h
 have lb := blk_lt h.blk
 have HQ0 : Hid (Vr QuK 49 zQu w ((w.alloc zQu).alloc zQu) c i 0 [.bool false, .bool false, .bool false, str [], .slice none 0 0, .slice none 0 0, .slice none 0 0] Qu.none) :=
   Lib.hid ⟨h.ext (((Ext.refl w).alloc _).alloc _), (((Ext.refl w).alloc _).alloc _).touch _, blk_alloc (blk_new _ _), blk_new_at _ (by simp), ⟨_, _, _, rfl, VLA.nil _ _ _ _, VLA.nil _ _ _ _, VLA.nil _ _ _ _⟩⟩
 obtain ⟨R, hR⟩ : ∃ R, R = query c.E (c.ts i) := ⟨_, rfl⟩
 rw [← hR]
 unfold query at hR
 have HR0 := Lib.hid hR
 clear hR h
 go_enter Tryz.func94, Tryz.ntmps94
 go_wp2_with fail
 refine (must_ok c i 0 _ (HQ0.out.src.ext ((Ext.refl _).alloc _)) (some _) [[83, 69, 76, 69, 67, 84]] (txts_at _ [[83, 69, 76, 69, 67, 84]] (by simp [size_set])) (by simp)).mono ?_
 rintro e w1 ⟨hT0, hp⟩
 have hT := (((Ext.refl _).alloc _).touch (onlyB c)).trans hT0
 rw [mustN_one] at hp
 have hR := HR0.out
 rcases hr : must c.E [83, 69, 76, 69, 67, 84] (c.ts i) with ⟨k, p⟩ | ⟨⟨⟩, ts⟩
 · rw [hr] at hp
   simp only [hr, bnd_error, fin_error] at hR
   obtain rfl := hp
   exact ⟨rfl, RdPost.bad hR (HQ0.out.touch.trans hT)⟩
 rw [hr] at hp
 obtain ⟨v, j1, rfl, rfl, rfl, hS⟩ := hp
 simp only [hr, bnd_ok, fin_ok] at hR
 have HQ1 := Lib.hid (HQ0.out.step lb hT hS)
 have HR1 := Lib.hid hR
 skip
 clear hT0 hT hS hR hr
 go_wp2_with fail
 refine (may_ok c j1 0 _ (HQ1.out.src.ext ((Ext.refl _).alloc _)) (some _) [[67, 79, 65, 76, 69, 83, 67, 69]] (txts_at _ [[67, 79, 65, 76, 69, 83, 67, 69]] (by simp [size_set])) (by simp)).mono ?_
 rintro e w2 ⟨rfl, hS, hT0⟩
 have hT := (((Ext.refl _).alloc _).touch (onlyB c)).trans hT0
 rw [mayN_one] at hS ⊢
 have HQ2 := Lib.hid (HQ1.out.step lb hT hS)
 skip
 clear hT0 hT hS
 have hR := HR1.out
 have hj2 : (if isT [67, 79, 65, 76, 69, 83, 67, 69] (c.ts j1) then (c.ts j1).tail else c.ts j1) = c.ts (if isT [67, 79, 65, 76, 69, 83, 67, 69] (c.ts j1) then j1 + [[67, 79, 65, 76, 69, 83, 67, 69]].length else j1) := by split <;> simp [Src.tail]
 rw [hj2] at hR
 clear hj2
 generalize (if isT [67, 79, 65, 76, 69, 83, 67, 69] (c.ts j1) then j1 + [[67, 79, 65, 76, 69, 83, 67, 69]].length else j1) = j2 at *
 generalize isT [67, 79, 65, 76, 69, 83, 67, 69] (c.ts j1) = qc at *
 have HR2 := Lib.hid hR
 clear hR
 have HQ3 : Hid (Vr QuK 49 zQu w (w2.setCell ⟨w.heap.size + 1, 0, none⟩ (.bool qc)) c j2 0 [.bool qc, .bool false, .bool false, str [], .slice none 0 0, .slice none 0 0, .slice none 0 0] { Qu.none with coalesce := qc }) :=
   Lib.hid (HQ2.out.set H.out 0 _ ⟨_, _, _, rfl, VLA.nil _ _ _ _, VLA.nil _ _ _ _, VLA.nil _ _ _ _⟩)
 obtain ⟨a0, a1, a2, a3, a4, a5, a6⟩ := blk7 HQ2.out.blk
 have la := blk_lt HQ2.out.blk
 have fa := fun k => blk_frozen HQ2.out.blk k
 go_wp2_with fail
 refine (may_ok c j2 0 _ (HQ3.out.src.ext ((Ext.refl _).alloc _)) (some _) [[42]] (txts_at _ [[42]] (by simp [size_set])) (by simp)).mono ?_
 rintro e w3 ⟨rfl, hS, hT0⟩
 have hT := (((Ext.refl _).alloc _).touch (onlyB c)).trans hT0
 rw [mayN_one] at hS ⊢
 have HQ4 := Lib.hid (HQ3.out.step lb hT hS)
 skip
 clear hT0 hT hS
 clear a0 a1 a2 a3 a4 a5 a6 la fa
 have hQ4 := HQ4.out
 have hR2 := HR2.out
 cases h1 : isT [42] (c.ts j2) with
 | true =>
   rw [h1, if_pos rfl] at hQ4
   rw [asked, if_pos h1, bnd_ok, Src.tail] at hR2
   have HQ4b := Lib.hid hQ4
   have HRA := Lib.hid hR2
   have HQA : Hid (Vr QuK 49 zQu w (w3.setCell ⟨w.heap.size + 1, 1, none⟩ (.bool true)) c (j2 + 1) 0 [.bool qc, .bool true, .bool false, str [], .slice none 0 0, .slice none 0 0, .slice none 0 0] { Qu.none with coalesce := qc, all := true }) :=
     Lib.hid (HQ4b.out.set H.out 1 _ ⟨_, _, _, rfl, VLA.nil _ _ _ _, VLA.nil _ _ _ _, VLA.nil _ _ _ _⟩)
   clear hQ4 hR2 h1
   obtain ⟨a0, a1, a2, a3, a4, a5, a6⟩ := blk7 HQ4b.out.blk
   have la := blk_lt HQ4b.out.blk
   have fa := fun k => blk_frozen HQ4b.out.blk k
   go_wp2_with fail
   refine (must_ok c (j2 + 1) 0 _ (HQA.out.src.ext ((Ext.refl _).alloc _)) (some _) [[70, 82, 79, 77]] (txts_at _ [[70, 82, 79, 77]] (by simp [size_set])) (by simp)).mono ?_
   rintro e w4 ⟨hT0, hp⟩
   have hT := (((Ext.refl _).alloc _).touch (onlyB c)).trans hT0
   rw [mustN_one] at hp
   have hR := HRA.out
   rcases hr : must c.E [70, 82, 79, 77] (c.ts (j2 + 1)) with ⟨k, p⟩ | ⟨⟨⟩, ts⟩
   · rw [hr] at hp
     simp only [hr, bnd_error, fin_error] at hR
     obtain rfl := hp
     exact ⟨rfl, RdPost.bad hR (HQA.out.touch.trans hT)⟩
   rw [hr] at hp
   obtain ⟨v, j4, rfl, rfl, rfl, hS⟩ := hp
   simp only [hr, bnd_ok, fin_ok] at hR
   have HQ4 := Lib.hid (HQA.out.step lb hT hS)
   have HR4 := Lib.hid hR
   skip
   clear hT0 hT hS hR hr
   have HR4' := HR4.out
   unfold tablesP at HR4'
   have HRt := Lib.hid HR4'
   clear HR4'
   go_wp2_with fail
   refine (name_ok c j4 0 _ HQ4.out.src).mono ?_
   rintro e w5 ⟨hT, hp⟩
   have hR := HRt.out
   rcases hr : name c.E (c.ts j4) with ⟨k, p⟩ | ⟨tn, ts⟩
   · rw [hr] at hp
     simp only [hr, bnd_error, fin_error] at hR
     obtain rfl := hp
     exact ⟨rfl, RdPost.bad hR (HQ4.out.touch.trans hT)⟩
   rw [hr] at hp
   obtain ⟨v, j5, rfl, rfl, rfl, hS⟩ := hp
   simp only [hr, bnd_ok, fin_ok] at hR
   have HQ5 := Lib.hid (HQ4.out.step lb hT hS)
   have HR5 := Lib.hid hR
   skip
   clear hT hS hR hr
   have HQ6 : Hid (Vr QuK 49 zQu w ((w5.setCell ⟨w.heap.size + 1, 5, none⟩ (.slice (some ⟨w5.heap.size, 0, none⟩) 1 1)).alloc (.cells #[str tn] 9)) c j5 0 [.bool qc, .bool true, .bool false, str [], .slice none 0 0, .slice (some ⟨w5.heap.size, 0, none⟩) 1 1, .slice none 0 0] { coalesce := qc, all := true, count := false, sum := [], items := [], tables := [tn], cond := [] }) := by
     refine Lib.hid (HQ5.out.put H.out 5 _ _ ?_)
     obtain ⟨vi, vt, vc, hcs, q1, q2, q3⟩ := HQ5.out.q
     simp only [List.cons.injEq, and_true] at hcs
     obtain ⟨-, -, -, -, rfl, rfl, rfl⟩ := hcs
     exact ⟨_, _, _, rfl, q1.keep _ (put_old _ _ _), VLA.one StrK (cs := [str tn]) (blk_new_at _ (by simp only [size_set])) rfl (by have := blk_lt HQ5.out.blk; omega), q3.keep _ (put_old _ _ _)⟩
   obtain ⟨a0, a1, a2, a3, a4, a5, a6⟩ := blk7 HQ5.out.blk
   have la := blk_lt HQ5.out.blk
   have fa := fun k => blk_frozen HQ5.out.blk k
   have HT6 : Hid (Touch (fun b => b = c.sb ∨ b = w.heap.size + 1 ∨ w5.heap.size ≤ b) w5 ((w5.setCell ⟨w.heap.size + 1, 5, none⟩ (.slice (some ⟨w5.heap.size, 0, none⟩) 1 1)).alloc (.cells #[str tn] 9))) := Lib.hid (((Touch.refl _ w5).setCell (p := ⟨w.heap.size + 1, 5, none⟩) (fun _ => .inr (.inl rfl)) _).alloc _)
   go_wp2_with fail
   refine (may_ok c j5 0 _ (HQ6.out.src.ext ((Ext.refl _).alloc _)) (some _) [[44]] (txts_at _ [[44]] (by simp [size_set])) (by simp)).mono ?_
   rintro e w6 ⟨rfl, hS, hT0⟩
   have hT := (((Ext.refl _).alloc _).touch (onlyB c)).trans hT0
   rw [mayN_one] at hS ⊢
   have HQ7 := Lib.hid (HQ6.out.step lb hT hS)
   have HB6 : Hid (w6.heap[w5.heap.size]? = some (.cells #[str tn] 9 (0, 0)) ∧ Touch (fun b => b = c.sb ∨ b = w.heap.size + 1 ∨ w5.heap.size ≤ b) w5 w6) := Lib.hid ⟨hT.old (blk_new_at _ (by simp only [size_set])) (fun e => by have h1 : w5.heap.size = c.sb := e; have h2 := blk_lt HQ5.out.blk; omega), HT6.out.trans (hT.mono (fun b _ e => .inl e))⟩
   clear hT0 hT hS
   clear a0 a1 a2 a3 a4 a5 a6 la fa
   have hQ7 := HQ7.out
   have hR5 := HR5.out
   cases h1 : isT [44] (c.ts j5) with
   | false =>
     rw [h1, if_neg (by simp)] at hQ7
     simp only [h1, Bool.false_eq_true, if_false, bnd_ok] at hR5
     have HQ7b := Lib.hid hQ7
     have HR7 := Lib.hid hR5
     clear hQ7 hR5 HQ7 h1
     go_wp2_with fail
     refine (where_ok c j5 _ HQ7b.out.src).mono ?_
     rintro e w8 ⟨hT, hp⟩
     have hR := HR7.out
     rcases hr : whereP c.E (c.ts j5) with ⟨k, p⟩ | ⟨cnd, ts⟩
     · rw [hr] at hp
       simp only [hr, bnd_error, fin_error] at hR
       obtain rfl := hp
       exact ⟨rfl, RdPost.bad hR (HQ7b.out.touch.trans hT)⟩
     rw [hr] at hp
     obtain ⟨v, j8, rfl, hv, rfl, hS⟩ := hp
     simp only [hr, bnd_ok, fin_ok] at hR
     have HQ8 := Lib.hid (HQ7b.out.step lb hT hS)
     have HR8 := Lib.hid hR
     have hv8 := VLA.of ExK (A := fun b => w.heap.size + 2 ≤ b) hv (fun b _ hb => by have := blk_lt HQ7b.out.blk; omega)
     clear hT hS hR hr
     obtain ⟨g8, c8, rfl⟩ := hv8.slice
     have HQ9 : Hid (Vr QuK 49 zQu w (w8.setCell ⟨w.heap.size + 1, 6, none⟩ (slv g8 cnd.length c8)) c j8 0 [.bool qc, .bool true, .bool false, str [], .slice none 0 0, .slice (some ⟨w5.heap.size, 0, none⟩) 1 1, slv g8 cnd.length c8] { coalesce := qc, all := true, count := false, sum := [], items := [], tables := [tn], cond := cnd }) := by
       refine Lib.hid (HQ8.out.set H.out 6 _ ?_)
       obtain ⟨vi, vt, vc, hcs, q1, q2, q3⟩ := HQ8.out.q
       simp only [List.cons.injEq, and_true] at hcs
       obtain ⟨-, -, -, -, rfl, rfl, rfl⟩ := hcs
       exact ⟨_, _, _, rfl, q1, q2, hv8⟩
     clear hv hv8
     obtain ⟨a0, a1, a2, a3, a4, a5, a6⟩ := blk7 HQ8.out.blk
     have la := blk_lt HQ8.out.blk
     have fa := fun k => blk_frozen HQ8.out.blk k
     obtain ⟨b0, b1, b2, b3, b4, b5, b6⟩ := blk7 HQ8.out.res
     have lr := blk_lt HQ8.out.res
     have fr := fun k => blk_frozen HQ8.out.res k
     go_wp2
     refine bodyPost_ret (v := .agg [.bool qc, .bool true, .bool false, str [], .slice none 0 0, .slice (some ⟨w5.heap.size, 0, none⟩) 1 1, slv g8 cnd.length c8].toArray) (results_qu rfl rfl (set7 HQ9.out.res _ _ _ _ _ _ _)) rfl ?_
     exact HQ9.out.done H.out (late7 (Touch.refl _ _) _ _ _ _ _ _ _) (fun h => ⟨_, rfl, h⟩) HR8.out
   | true =>
     rw [h1, if_pos rfl] at hQ7
     simp only [h1, if_true, Src.tail] at hR5
     have HQ7b := Lib.hid hQ7
     have HR7 := Lib.hid hR5
     clear hQ7 hR5 HQ7 h1
     go_wp2
     obtain ⟨a0, a1, a2, a3, a4, a5, a6⟩ := blk7 HQ7b.out.blk
     have la := blk_lt HQ7b.out.blk
     have fa := fun k => blk_frozen HQ7b.out.blk k
     have hnb : w.heap.size + 1 ≠ c.sb := by omega
     have lb5 := blk_lt HQ5.out.blk
     have HB7 : Hid (w6.heap[w5.heap.size]? = some (.cells #[str tn] 9 (0, 0)) ∧ Touch (fun b => b = c.sb ∨ b = w.heap.size + 1 ∨ w5.heap.size ≤ b) w5 w6) := HB6
     clear HB6
     letI : Tch.TS := ⟨onlyB c⟩
     rcases hr : name c.E (c.ts (j5 + 1)) with ⟨k, p⟩ | ⟨m, ts⟩
     · have HRn := Lib.hid hr
       refine region_gives [.p 0, .e 1, .p 2, .h 3 true, .h 4 true, .h 5 false, .p 6, .h 7 false] f_mixed (by kernel_rfl) (by kernel_rfl) (fun ch w' => Ending.panicked ch = thrown k p ∧ Touch (onlyB c) w6 w') [] ?_ ?_
       · repeat (refine Tch.plan_p rfl (fun K hK => ?_); go_simp; refine hK _ ?_; clear hK K)
         refine Tch.plan_e1 rfl rfl (.slice (some ⟨w5.heap.size, 0, none⟩) 1 1) (fun w' he => ?_) (fun K hK => ?_)
         · have d5 := Touch.cell he a5 (fun e => hnb e)
           clear a0 a1 a2 a3 a4 a5 a6 he
           go_simp
         go_simp; refine hK _ ?_; clear hK K
         repeat (refine Tch.plan_p rfl (fun K hK => ?_); go_simp; refine hK _ ?_; clear hK K)
         refine Tch.plan_t rfl (fun K hK => ?_)
         clear hK
         go_wp2_with fail
         refine (name_ok c (j5 + 1) 0 _ (HQ7b.out.src.ext (Ext.refl w6).drew)).mono ?_
         rintro e w9 ⟨hT9, hp⟩
         rw [hr] at hp
         obtain rfl := hp
         exact ⟨⟨rfl, ((Touch.refl _ w6).drew).trans hT9⟩, rfl⟩
       · rintro x ⟨tmps, ds⟩ w9 ⟨hx, hT9⟩ rfl
         obtain rfl := Ending.panicked.inj hx
         refine ⟨rfl, RdPost.bad ?_ (HQ7b.out.touch.trans hT9)⟩
         rw [HR7.out, HRn.out]; rfl
     · have HRn := Lib.hid hr
       refine Tch.region_calm [.p 0, .e 1, .p 2, .h 3 true, .h 4 true, .h 5 false, .p 6, .h 7 false] f_mixed (by kernel_rfl) (by kernel_rfl) ?_
       repeat (refine Tch.plan_p rfl (fun K hK => ?_); go_simp; refine hK _ ?_; clear hK K)
       refine Tch.plan_e1 rfl rfl (.slice (some ⟨w5.heap.size, 0, none⟩) 1 1) (fun w' he => ?_) (fun K hK => ?_)
       · have d5 := Touch.cell he a5 (fun e => hnb e)
         clear a0 a1 a2 a3 a4 a5 a6 he
         go_simp
       go_simp; refine hK _ ?_; clear hK K
       repeat (refine Tch.plan_p rfl (fun K hK => ?_); go_simp; refine hK _ ?_; clear hK K)
       refine Tch.plan_ct rfl rfl (fun K _ hK => ?_)
       go_wp2_with fail
       refine (name_ok c (j5 + 1) 0 _ (HQ7b.out.src.ext (Ext.refl w6).drew)).mono ?_
       rintro e w9 ⟨hT9, hp⟩
       rw [hr] at hp
       obtain ⟨v, j9, rfl, rfl, rfl, hS9⟩ := hp
       have hT9' : Touch (onlyB c) w6 w9 := ((Touch.refl _ w6).drew).trans hT9
       have HQ9 := Lib.hid (HQ7b.out.step lb hT9' hS9)
       have HB9 := Lib.hid (hT9'.old HB7.out.1 (fun e => by have h1 : w5.heap.size = c.sb := e; omega))
       have HT9 : Hid (Touch (fun b => b = c.sb ∨ b = w.heap.size + 1 ∨ w5.heap.size ≤ b) w5 w9) := Lib.hid (HB7.out.2.trans (hT9'.mono (fun b _ e => .inl e)))
       go_wp2_with fail
       refine hK _ _ hT9 ?_
       clear hK K hT9 hT9' hS9 hr a0 a1 a2 a3 a4 a5 a6 la fa
       refine Tch.plan_ct rfl rfl (fun K _ hK => ?_)
       go_wp2_with fail
       refine hK _ _ (((Ext.refl _).alloc _).touch _) ?_
       clear hK K
       refine Tch.plan_c rfl rfl (fun K _ hK => ?_)
       refine app_lit ei_str rfl (.tmp 44) (.tmp 47) rfl (g := some w5.heap.size) (n := 1) (cap := 1) (b := w9.heap.size) (by rfl) (xs := [str tn]) ⟨rfl, _, blk_alloc HB9.out, Nat.le_refl _, by simp [maxLen], rfl, rfl⟩ (by rfl) (news := [str m]) rfl (blk_new_at _ rfl) (by simp [Value.oneCell']) (by omega) (by omega) ?_
       intro g10 cap10 w10 hS10 hT10 hat10
       have hg10 : w5.heap.size ≤ g10 := by
         rcases hat10 with h | h
         · cases h; exact Nat.le_refl _
         · have := HT9.out.size; simp at h; omega
       have ht10 : Touch (fun b => b = c.sb ∨ b = w.heap.size + 1 ∨ w5.heap.size ≤ b) w5 (w10.setCell ⟨w.heap.size + 1, 5, none⟩ (.slice (some ⟨g10, 0, none⟩) 2 cap10)) :=
         ((HT9.out.alloc _).trans (hT10.mono (fun b _ e => by cases e; exact .inr (.inr (Nat.le_refl _))))).setCell (p := ⟨w.heap.size + 1, 5, none⟩) (fun _ => .inr (.inl rfl)) _
       have hS11 : Src (w10.setCell ⟨w.heap.size + 1, 5, none⟩ (.slice (some ⟨g10, 0, none⟩) 2 cap10)) c j9 0 := by
         refine ((HQ9.out.src.ext ((Ext.refl _).alloc (.cells #[str m] 9))).touch hT10 (fun e => by have h1 : w5.heap.size = c.sb := Option.some.inj e; omega) (fun b hb e => ?_)).touch ((Touch.refl (fun b => b = w.heap.size + 1) _).setCell (p := ⟨w.heap.size + 1, 5, none⟩) (fun _ => rfl) _) (fun e => hnb e.symm) (fun b hb e => ?_)
         · cases e; have := toks_lt H.out _ hb; omega
         · have := toks_lt H.out _ hb; omega
       have hbb : w10.heap[w.heap.size + 1]? = _ := hT10.old (blk_alloc (o' := .cells #[str m] 9) HQ9.out.blk) (fun e => by have h1 : w5.heap.size = w.heap.size + 1 := Option.some.inj e; omega)
       have HBB := Lib.hid hbb
       have HQX : Hid (Vr QuK 49 zQu w (w10.setCell ⟨w.heap.size + 1, 5, none⟩ (.slice (some ⟨g10, 0, none⟩) 2 cap10)) c j9 0 [.bool qc, .bool true, .bool false, str [], .slice none 0 0, .slice (some ⟨g10, 0, none⟩) 2 cap10, .slice none 0 0] { coalesce := qc, all := true, count := false, sum := [], items := [], tables := [tn, m], cond := [] }) := by
         refine Lib.hid (HQ5.out.later H.out ht10 hS11 (blk_set hbb 5 _) ?_)
         obtain ⟨vi, vt, vc, hcs, q1, q2, q3⟩ := HQ5.out.q
         simp only [List.cons.injEq, and_true] at hcs
         obtain ⟨-, -, -, -, rfl, rfl, rfl⟩ := hcs
         refine ⟨_, _, _, rfl, q1.keep _ (late_old lb ht10), ⟨some g10, cap10, [str tn, str m], rfl, ?_, fun b hb => by cases hb; omega, ⟨[str tn], [str m], rfl, rfl, ⟨[str m], [], rfl, rfl, rfl⟩⟩⟩, q3.keep _ (late_old lb ht10)⟩
         exact Sl.congr hS10 (fun b hb => by cases hb; exact Below.heap_setCell _ _ _ _ (by simp; omega))
       have HRx : Hid (R = fin (fun c => { coalesce := qc, all := true, count := false, sum := [], items := [], tables := [tn, m], cond := c }) (whereP c.E (c.ts j9))) := by
         show _ = _
         rw [HR7.out, HRn.out]; rfl
       obtain ⟨a0, a1, a2, a3, a4, a5, a6⟩ := blk7 HBB.out
       have la := blk_lt HBB.out
       have fa := fun k => blk_frozen HBB.out k
       clear hS10 hT10 hat10 ht10 hS11 hbb
       go_wp2_with fail
       repeat (refine Tch.plan_p rfl (fun K hK => ?_); go_simp; refine hK _ ?_; clear hK K)
       refine Tch.plan_c rfl rfl (fun K _ hK => ?_)
       go_wp2_with fail
       refine tch_done ?_
       go_wp2_with fail
       refine (where_ok c j9 _ HQX.out.src).mono ?_
       rintro e w8 ⟨hT, hp⟩
       have hR := HRx.out
       rcases hr : whereP c.E (c.ts j9) with ⟨k, p⟩ | ⟨cnd, ts⟩
       · rw [hr] at hp
         simp only [hr, bnd_error, fin_error] at hR
         obtain rfl := hp
         exact ⟨rfl, RdPost.bad hR (HQX.out.touch.trans hT)⟩
       rw [hr] at hp
       obtain ⟨v, j8, rfl, hv, rfl, hS⟩ := hp
       simp only [hr, bnd_ok, fin_ok] at hR
       have HQ8 := Lib.hid (HQX.out.step lb hT hS)
       have HR8 := Lib.hid hR
       have hv8 := VLA.of ExK (A := fun b => w.heap.size + 2 ≤ b) hv (fun b _ hb => by have := blk_lt HQX.out.blk; omega)
       clear hT hS hR hr
       obtain ⟨g8, c8, rfl⟩ := hv8.slice
       have HQ9 : Hid (Vr QuK 49 zQu w (w8.setCell ⟨w.heap.size + 1, 6, none⟩ (slv g8 cnd.length c8)) c j8 0 [.bool qc, .bool true, .bool false, str [], .slice none 0 0, .slice (some ⟨g10, 0, none⟩) 2 cap10, slv g8 cnd.length c8] { coalesce := qc, all := true, count := false, sum := [], items := [], tables := [tn, m], cond := cnd }) := by
         refine Lib.hid (HQ8.out.set H.out 6 _ ?_)
         obtain ⟨vi, vt, vc, hcs, q1, q2, q3⟩ := HQ8.out.q
         simp only [List.cons.injEq, and_true] at hcs
         obtain ⟨-, -, -, -, rfl, rfl, rfl⟩ := hcs
         exact ⟨_, _, _, rfl, q1, q2, hv8⟩
       clear hv hv8
       obtain ⟨a0, a1, a2, a3, a4, a5, a6⟩ := blk7 HQ8.out.blk
       have la := blk_lt HQ8.out.blk
       have fa := fun k => blk_frozen HQ8.out.blk k
       obtain ⟨b0, b1, b2, b3, b4, b5, b6⟩ := blk7 HQ8.out.res
       have lr := blk_lt HQ8.out.res
       have fr := fun k => blk_frozen HQ8.out.res k
       go_wp2
       refine bodyPost_ret (v := .agg [.bool qc, .bool true, .bool false, str [], .slice none 0 0, .slice (some ⟨g10, 0, none⟩) 2 cap10, slv g8 cnd.length c8].toArray) (results_qu rfl rfl (set7 HQ9.out.res _ _ _ _ _ _ _)) rfl ?_
       exact HQ9.out.done H.out (late7 (Touch.refl _ _) _ _ _ _ _ _ _) (fun h => ⟨_, rfl, h⟩) HR8.out
 | false =>
   rw [h1, if_neg (by simp)] at hQ4
   rw [asked, if_neg (by simp [h1])] at hR2
   have HQ4b := Lib.hid hQ4
   have HRA := Lib.hid hR2
   clear hQ4 hR2 h1
   go_wp2_with fail
   refine (may_ok c j2 0 _ (HQ4b.out.src.ext ((Ext.refl _).alloc _)) (some _) [[67, 79, 85, 78, 84]] (txts_at _ [[67, 79, 85, 78, 84]] (by simp [size_set])) (by simp)).mono ?_
   rintro e w4 ⟨rfl, hS, hT0⟩
   have hT := (((Ext.refl _).alloc _).touch (onlyB c)).trans hT0
   rw [mayN_one] at hS ⊢
   have HQ5 := Lib.hid (HQ4b.out.step lb hT hS)
   skip
   clear hT0 hT hS
   have hQ5 := HQ5.out
   have hRA := HRA.out
   cases h1 : isT [67, 79, 85, 78, 84] (c.ts j2) with
   | true =>
     rw [h1, if_pos rfl] at hQ5
     rw [if_pos h1, bnd_ok, Src.tail] at hRA
     have HQ5b := Lib.hid hQ5
     have HRB := Lib.hid hRA
     have HQA : Hid (Vr QuK 49 zQu w (w4.setCell ⟨w.heap.size + 1, 2, none⟩ (.bool true)) c (j2 + 1) 0 [.bool qc, .bool false, .bool true, str [], .slice none 0 0, .slice none 0 0, .slice none 0 0] { Qu.none with coalesce := qc, count := true }) :=
       Lib.hid (HQ5b.out.set H.out 2 _ ⟨_, _, _, rfl, VLA.nil _ _ _ _, VLA.nil _ _ _ _, VLA.nil _ _ _ _⟩)
     clear hQ5 hRA h1
     obtain ⟨a0, a1, a2, a3, a4, a5, a6⟩ := blk7 HQ5b.out.blk
     have la := blk_lt HQ5b.out.blk
     have fa := fun k => blk_frozen HQ5b.out.blk k
     go_wp2_with fail
     refine (must_ok c (j2 + 1) 0 _ (HQA.out.src.ext ((Ext.refl _).alloc _)) (some _) [[70, 82, 79, 77]] (txts_at _ [[70, 82, 79, 77]] (by simp [size_set])) (by simp)).mono ?_
     rintro e x4 ⟨hT0, hp⟩
     have hT := (((Ext.refl _).alloc _).touch (onlyB c)).trans hT0
     rw [mustN_one] at hp
     have hR := HRB.out
     rcases hr : must c.E [70, 82, 79, 77] (c.ts (j2 + 1)) with ⟨k, p⟩ | ⟨⟨⟩, ts⟩
     · rw [hr] at hp
       simp only [hr, bnd_error, fin_error] at hR
       obtain rfl := hp
       exact ⟨rfl, RdPost.bad hR (HQA.out.touch.trans hT)⟩
     rw [hr] at hp
     obtain ⟨v, j4, rfl, rfl, rfl, hS⟩ := hp
     simp only [hr, bnd_ok, fin_ok] at hR
     have HQ4 := Lib.hid (HQA.out.step lb hT hS)
     have HR4 := Lib.hid hR
     skip
     clear hT0 hT hS hR hr
     have HR4' := HR4.out
     unfold tablesP at HR4'
     have HRt := Lib.hid HR4'
     clear HR4'
     go_wp2_with fail
     refine (name_ok c j4 0 _ HQ4.out.src).mono ?_
     rintro e x5 ⟨hT, hp⟩
     have hR := HRt.out
     rcases hr : name c.E (c.ts j4) with ⟨k, p⟩ | ⟨tn, ts⟩
     · rw [hr] at hp
       simp only [hr, bnd_error, fin_error] at hR
       obtain rfl := hp
       exact ⟨rfl, RdPost.bad hR (HQ4.out.touch.trans hT)⟩
     rw [hr] at hp
     obtain ⟨v, j5, rfl, rfl, rfl, hS⟩ := hp
     simp only [hr, bnd_ok, fin_ok] at hR
     have HX5 := Lib.hid (HQ4.out.step lb hT hS)
     have HY5 := Lib.hid hR
     skip
     clear hT hS hR hr
     have HQ6 : Hid (Vr QuK 49 zQu w ((x5.setCell ⟨w.heap.size + 1, 5, none⟩ (.slice (some ⟨x5.heap.size, 0, none⟩) 1 1)).alloc (.cells #[str tn] 9)) c j5 0 [.bool qc, .bool false, .bool true, str [], .slice none 0 0, .slice (some ⟨x5.heap.size, 0, none⟩) 1 1, .slice none 0 0] { coalesce := qc, all := false, count := true, sum := [], items := [], tables := [tn], cond := [] }) := by
       refine Lib.hid (HX5.out.put H.out 5 _ _ ?_)
       obtain ⟨vi, vt, vc, hcs, q1, q2, q3⟩ := HX5.out.q
       simp only [List.cons.injEq, and_true] at hcs
       obtain ⟨-, -, -, -, rfl, rfl, rfl⟩ := hcs
       exact ⟨_, _, _, rfl, q1.keep _ (put_old _ _ _), VLA.one StrK (cs := [str tn]) (blk_new_at _ (by simp only [size_set])) rfl (by have := blk_lt HX5.out.blk; omega), q3.keep _ (put_old _ _ _)⟩
     obtain ⟨a0, a1, a2, a3, a4, a5, a6⟩ := blk7 HX5.out.blk
     have la := blk_lt HX5.out.blk
     have fa := fun k => blk_frozen HX5.out.blk k
     have HT6 : Hid (Touch (fun b => b = c.sb ∨ b = w.heap.size + 1 ∨ x5.heap.size ≤ b) x5 ((x5.setCell ⟨w.heap.size + 1, 5, none⟩ (.slice (some ⟨x5.heap.size, 0, none⟩) 1 1)).alloc (.cells #[str tn] 9))) := Lib.hid (((Touch.refl _ x5).setCell (p := ⟨w.heap.size + 1, 5, none⟩) (fun _ => .inr (.inl rfl)) _).alloc _)
     go_wp2_with fail
     refine (may_ok c j5 0 _ (HQ6.out.src.ext ((Ext.refl _).alloc _)) (some _) [[44]] (txts_at _ [[44]] (by simp [size_set])) (by simp)).mono ?_
     rintro e x6 ⟨rfl, hS, hT0⟩
     have hT := (((Ext.refl _).alloc _).touch (onlyB c)).trans hT0
     rw [mayN_one] at hS ⊢
     have HQ7 := Lib.hid (HQ6.out.step lb hT hS)
     have HB6 : Hid (x6.heap[x5.heap.size]? = some (.cells #[str tn] 9 (0, 0)) ∧ Touch (fun b => b = c.sb ∨ b = w.heap.size + 1 ∨ x5.heap.size ≤ b) x5 x6) := Lib.hid ⟨hT.old (blk_new_at _ (by simp only [size_set])) (fun e => by have h1 : x5.heap.size = c.sb := e; have h2 := blk_lt HX5.out.blk; omega), HT6.out.trans (hT.mono (fun b _ e => .inl e))⟩
     clear hT0 hT hS
     clear a0 a1 a2 a3 a4 a5 a6 la fa
     have hQ7 := HQ7.out
     have hR5 := HY5.out
     cases h1 : isT [44] (c.ts j5) with
     | false =>
       rw [h1, if_neg (by simp)] at hQ7
       simp only [h1, Bool.false_eq_true, if_false, bnd_ok] at hR5
       have HQ7b := Lib.hid hQ7
       have HR7 := Lib.hid hR5
       clear hQ7 hR5 HQ7 h1
       go_wp2_with fail
       refine (where_ok c j5 _ HQ7b.out.src).mono ?_
       rintro e w8 ⟨hT, hp⟩
       have hR := HR7.out
       rcases hr : whereP c.E (c.ts j5) with ⟨k, p⟩ | ⟨cnd, ts⟩
       · rw [hr] at hp
         simp only [hr, bnd_error, fin_error] at hR
         obtain rfl := hp
         exact ⟨rfl, RdPost.bad hR (HQ7b.out.touch.trans hT)⟩
       rw [hr] at hp
       obtain ⟨v, j8, rfl, hv, rfl, hS⟩ := hp
       simp only [hr, bnd_ok, fin_ok] at hR
       have HQ8 := Lib.hid (HQ7b.out.step lb hT hS)
       have HR8 := Lib.hid hR
       have hv8 := VLA.of ExK (A := fun b => w.heap.size + 2 ≤ b) hv (fun b _ hb => by have := blk_lt HQ7b.out.blk; omega)
       clear hT hS hR hr
       obtain ⟨g8, c8, rfl⟩ := hv8.slice
       have HQ9 : Hid (Vr QuK 49 zQu w (w8.setCell ⟨w.heap.size + 1, 6, none⟩ (slv g8 cnd.length c8)) c j8 0 [.bool qc, .bool false, .bool true, str [], .slice none 0 0, .slice (some ⟨x5.heap.size, 0, none⟩) 1 1, slv g8 cnd.length c8] { coalesce := qc, all := false, count := true, sum := [], items := [], tables := [tn], cond := cnd }) := by
         refine Lib.hid (HQ8.out.set H.out 6 _ ?_)
         obtain ⟨vi, vt, vc, hcs, q1, q2, q3⟩ := HQ8.out.q
         simp only [List.cons.injEq, and_true] at hcs
         obtain ⟨-, -, -, -, rfl, rfl, rfl⟩ := hcs
         exact ⟨_, _, _, rfl, q1, q2, hv8⟩
       clear hv hv8
       obtain ⟨a0, a1, a2, a3, a4, a5, a6⟩ := blk7 HQ8.out.blk
       have la := blk_lt HQ8.out.blk
       have fa := fun k => blk_frozen HQ8.out.blk k
       obtain ⟨b0, b1, b2, b3, b4, b5, b6⟩ := blk7 HQ8.out.res
       have lr := blk_lt HQ8.out.res
       have fr := fun k => blk_frozen HQ8.out.res k
       go_wp2
       refine bodyPost_ret (v := .agg [.bool qc, .bool false, .bool true, str [], .slice none 0 0, .slice (some ⟨x5.heap.size, 0, none⟩) 1 1, slv g8 cnd.length c8].toArray) (results_qu rfl rfl (set7 HQ9.out.res _ _ _ _ _ _ _)) rfl ?_
       exact HQ9.out.done H.out (late7 (Touch.refl _ _) _ _ _ _ _ _ _) (fun h => ⟨_, rfl, h⟩) HR8.out
     | true =>
       rw [h1, if_pos rfl] at hQ7
       simp only [h1, if_true, Src.tail] at hR5
       have HQ7b := Lib.hid hQ7
       have HR7 := Lib.hid hR5
       clear hQ7 hR5 HQ7 h1
       go_wp2
       obtain ⟨a0, a1, a2, a3, a4, a5, a6⟩ := blk7 HQ7b.out.blk
       have la := blk_lt HQ7b.out.blk
       have fa := fun k => blk_frozen HQ7b.out.blk k
       have hnb : w.heap.size + 1 ≠ c.sb := by omega
       have lb5 := blk_lt HX5.out.blk
       have HB7 : Hid (x6.heap[x5.heap.size]? = some (.cells #[str tn] 9 (0, 0)) ∧ Touch (fun b => b = c.sb ∨ b = w.heap.size + 1 ∨ x5.heap.size ≤ b) x5 x6) := HB6
       clear HB6
       letI : Tch.TS := ⟨onlyB c⟩
       rcases hr : name c.E (c.ts (j5 + 1)) with ⟨k, p⟩ | ⟨m, ts⟩
       · have HRn := Lib.hid hr
         refine region_gives [.p 0, .e 1, .p 2, .h 3 true, .h 4 true, .h 5 false, .p 6, .h 7 false] f_mixed (by kernel_rfl) (by kernel_rfl) (fun ch w' => Ending.panicked ch = thrown k p ∧ Touch (onlyB c) x6 w') [] ?_ ?_
         · repeat (refine Tch.plan_p rfl (fun K hK => ?_); go_simp; refine hK _ ?_; clear hK K)
           refine Tch.plan_e1 rfl rfl (.slice (some ⟨x5.heap.size, 0, none⟩) 1 1) (fun w' he => ?_) (fun K hK => ?_)
           · have d5 := Touch.cell he a5 (fun e => hnb e)
             clear a0 a1 a2 a3 a4 a5 a6 he
             go_simp
           go_simp; refine hK _ ?_; clear hK K
           repeat (refine Tch.plan_p rfl (fun K hK => ?_); go_simp; refine hK _ ?_; clear hK K)
           refine Tch.plan_t rfl (fun K hK => ?_)
           clear hK
           go_wp2_with fail
           refine (name_ok c (j5 + 1) 0 _ (HQ7b.out.src.ext (Ext.refl x6).drew)).mono ?_
           rintro e w9 ⟨hT9, hp⟩
           rw [hr] at hp
           obtain rfl := hp
           exact ⟨⟨rfl, ((Touch.refl _ x6).drew).trans hT9⟩, rfl⟩
         · rintro x ⟨tmps, ds⟩ w9 ⟨hx, hT9⟩ rfl
           obtain rfl := Ending.panicked.inj hx
           refine ⟨rfl, RdPost.bad ?_ (HQ7b.out.touch.trans hT9)⟩
           rw [HR7.out, HRn.out]; rfl
       · have HRn := Lib.hid hr
         refine Tch.region_calm [.p 0, .e 1, .p 2, .h 3 true, .h 4 true, .h 5 false, .p 6, .h 7 false] f_mixed (by kernel_rfl) (by kernel_rfl) ?_
         repeat (refine Tch.plan_p rfl (fun K hK => ?_); go_simp; refine hK _ ?_; clear hK K)
         refine Tch.plan_e1 rfl rfl (.slice (some ⟨x5.heap.size, 0, none⟩) 1 1) (fun w' he => ?_) (fun K hK => ?_)
         · have d5 := Touch.cell he a5 (fun e => hnb e)
           clear a0 a1 a2 a3 a4 a5 a6 he
           go_simp
         go_simp; refine hK _ ?_; clear hK K
         repeat (refine Tch.plan_p rfl (fun K hK => ?_); go_simp; refine hK _ ?_; clear hK K)
         refine Tch.plan_ct rfl rfl (fun K _ hK => ?_)
         go_wp2_with fail
         refine (name_ok c (j5 + 1) 0 _ (HQ7b.out.src.ext (Ext.refl x6).drew)).mono ?_
         rintro e w9 ⟨hT9, hp⟩
         rw [hr] at hp
         obtain ⟨v, j9, rfl, rfl, rfl, hS9⟩ := hp
         have hT9' : Touch (onlyB c) x6 w9 := ((Touch.refl _ x6).drew).trans hT9
         have HQ9 := Lib.hid (HQ7b.out.step lb hT9' hS9)
         have HB9 := Lib.hid (hT9'.old HB7.out.1 (fun e => by have h1 : x5.heap.size = c.sb := e; omega))
         have HT9 : Hid (Touch (fun b => b = c.sb ∨ b = w.heap.size + 1 ∨ x5.heap.size ≤ b) x5 w9) := Lib.hid (HB7.out.2.trans (hT9'.mono (fun b _ e => .inl e)))
         go_wp2_with fail
         refine hK _ _ hT9 ?_
         clear hK K hT9 hT9' hS9 hr a0 a1 a2 a3 a4 a5 a6 la fa
         refine Tch.plan_ct rfl rfl (fun K _ hK => ?_)
         go_wp2_with fail
         refine hK _ _ (((Ext.refl _).alloc _).touch _) ?_
         clear hK K
         refine Tch.plan_c rfl rfl (fun K _ hK => ?_)
         refine app_lit ei_str rfl (.tmp 44) (.tmp 47) rfl (g := some x5.heap.size) (n := 1) (cap := 1) (b := w9.heap.size) (by rfl) (xs := [str tn]) ⟨rfl, _, blk_alloc HB9.out, Nat.le_refl _, by simp [maxLen], rfl, rfl⟩ (by rfl) (news := [str m]) rfl (blk_new_at _ rfl) (by simp [Value.oneCell']) (by omega) (by omega) ?_
         intro g10 cap10 w10 hS10 hT10 hat10
         have hg10 : x5.heap.size ≤ g10 := by
           rcases hat10 with h | h
           · cases h; exact Nat.le_refl _
           · have := HT9.out.size; simp at h; omega
         have ht10 : Touch (fun b => b = c.sb ∨ b = w.heap.size + 1 ∨ x5.heap.size ≤ b) x5 (w10.setCell ⟨w.heap.size + 1, 5, none⟩ (.slice (some ⟨g10, 0, none⟩) 2 cap10)) :=
           ((HT9.out.alloc _).trans (hT10.mono (fun b _ e => by cases e; exact .inr (.inr (Nat.le_refl _))))).setCell (p := ⟨w.heap.size + 1, 5, none⟩) (fun _ => .inr (.inl rfl)) _
         have hS11 : Src (w10.setCell ⟨w.heap.size + 1, 5, none⟩ (.slice (some ⟨g10, 0, none⟩) 2 cap10)) c j9 0 := by
           refine ((HQ9.out.src.ext ((Ext.refl _).alloc (.cells #[str m] 9))).touch hT10 (fun e => by have h1 : x5.heap.size = c.sb := Option.some.inj e; omega) (fun b hb e => ?_)).touch ((Touch.refl (fun b => b = w.heap.size + 1) _).setCell (p := ⟨w.heap.size + 1, 5, none⟩) (fun _ => rfl) _) (fun e => hnb e.symm) (fun b hb e => ?_)
           · cases e; have := toks_lt H.out _ hb; omega
           · have := toks_lt H.out _ hb; omega
         have hbb : w10.heap[w.heap.size + 1]? = _ := hT10.old (blk_alloc (o' := .cells #[str m] 9) HQ9.out.blk) (fun e => by have h1 : x5.heap.size = w.heap.size + 1 := Option.some.inj e; omega)
         have HBB := Lib.hid hbb
         have HQX : Hid (Vr QuK 49 zQu w (w10.setCell ⟨w.heap.size + 1, 5, none⟩ (.slice (some ⟨g10, 0, none⟩) 2 cap10)) c j9 0 [.bool qc, .bool false, .bool true, str [], .slice none 0 0, .slice (some ⟨g10, 0, none⟩) 2 cap10, .slice none 0 0] { coalesce := qc, all := false, count := true, sum := [], items := [], tables := [tn, m], cond := [] }) := by
           refine Lib.hid (HX5.out.later H.out ht10 hS11 (blk_set hbb 5 _) ?_)
           obtain ⟨vi, vt, vc, hcs, q1, q2, q3⟩ := HX5.out.q
           simp only [List.cons.injEq, and_true] at hcs
           obtain ⟨-, -, -, -, rfl, rfl, rfl⟩ := hcs
           refine ⟨_, _, _, rfl, q1.keep _ (late_old lb ht10), ⟨some g10, cap10, [str tn, str m], rfl, ?_, fun b hb => by cases hb; omega, ⟨[str tn], [str m], rfl, rfl, ⟨[str m], [], rfl, rfl, rfl⟩⟩⟩, q3.keep _ (late_old lb ht10)⟩
           exact Sl.congr hS10 (fun b hb => by cases hb; exact Below.heap_setCell _ _ _ _ (by simp; omega))
         have HRx : Hid (R = fin (fun c => { coalesce := qc, all := false, count := true, sum := [], items := [], tables := [tn, m], cond := c }) (whereP c.E (c.ts j9))) := by
           show _ = _
           rw [HR7.out, HRn.out]; rfl
         obtain ⟨a0, a1, a2, a3, a4, a5, a6⟩ := blk7 HBB.out
         have la := blk_lt HBB.out
         have fa := fun k => blk_frozen HBB.out k
         clear hS10 hT10 hat10 ht10 hS11 hbb
         go_wp2_with fail
         repeat (refine Tch.plan_p rfl (fun K hK => ?_); go_simp; refine hK _ ?_; clear hK K)
         refine Tch.plan_c rfl rfl (fun K _ hK => ?_)
         go_wp2_with fail
         refine tch_done ?_
         go_wp2_with fail
         refine (where_ok c j9 _ HQX.out.src).mono ?_
         rintro e w8 ⟨hT, hp⟩
         have hR := HRx.out
         rcases hr : whereP c.E (c.ts j9) with ⟨k, p⟩ | ⟨cnd, ts⟩
         · rw [hr] at hp
           simp only [hr, bnd_error, fin_error] at hR
           obtain rfl := hp
           exact ⟨rfl, RdPost.bad hR (HQX.out.touch.trans hT)⟩
         rw [hr] at hp
         obtain ⟨v, j8, rfl, hv, rfl, hS⟩ := hp
         simp only [hr, bnd_ok, fin_ok] at hR
         have HQ8 := Lib.hid (HQX.out.step lb hT hS)
         have HR8 := Lib.hid hR
         have hv8 := VLA.of ExK (A := fun b => w.heap.size + 2 ≤ b) hv (fun b _ hb => by have := blk_lt HQX.out.blk; omega)
         clear hT hS hR hr
         obtain ⟨g8, c8, rfl⟩ := hv8.slice
         have HQ9 : Hid (Vr QuK 49 zQu w (w8.setCell ⟨w.heap.size + 1, 6, none⟩ (slv g8 cnd.length c8)) c j8 0 [.bool qc, .bool false, .bool true, str [], .slice none 0 0, .slice (some ⟨g10, 0, none⟩) 2 cap10, slv g8 cnd.length c8] { coalesce := qc, all := false, count := true, sum := [], items := [], tables := [tn, m], cond := cnd }) := by
           refine Lib.hid (HQ8.out.set H.out 6 _ ?_)
           obtain ⟨vi, vt, vc, hcs, q1, q2, q3⟩ := HQ8.out.q
           simp only [List.cons.injEq, and_true] at hcs
           obtain ⟨-, -, -, -, rfl, rfl, rfl⟩ := hcs
           exact ⟨_, _, _, rfl, q1, q2, hv8⟩
         clear hv hv8
         obtain ⟨a0, a1, a2, a3, a4, a5, a6⟩ := blk7 HQ8.out.blk
         have la := blk_lt HQ8.out.blk
         have fa := fun k => blk_frozen HQ8.out.blk k
         obtain ⟨b0, b1, b2, b3, b4, b5, b6⟩ := blk7 HQ8.out.res
         have lr := blk_lt HQ8.out.res
         have fr := fun k => blk_frozen HQ8.out.res k
         go_wp2
         refine bodyPost_ret (v := .agg [.bool qc, .bool false, .bool true, str [], .slice none 0 0, .slice (some ⟨g10, 0, none⟩) 2 cap10, slv g8 cnd.length c8].toArray) (results_qu rfl rfl (set7 HQ9.out.res _ _ _ _ _ _ _)) rfl ?_
         exact HQ9.out.done H.out (late7 (Touch.refl _ _) _ _ _ _ _ _ _) (fun h => ⟨_, rfl, h⟩) HR8.out
   | false =>
     rw [h1, if_neg (by simp)] at hQ5
     rw [if_neg (by simp [h1])] at hRA
     have HQ5b := Lib.hid hQ5
     have HRB := Lib.hid hRA
     clear hQ5 hRA h1
     go_wp2_with fail
     refine (may_ok c j2 0 _ (HQ5b.out.src.ext ((Ext.refl _).alloc _)) (some _) [[83, 85, 77]] (txts_at _ [[83, 85, 77]] (by simp [size_set])) (by simp)).mono ?_
     rintro e w5 ⟨rfl, hS, hT0⟩
     have hT := (((Ext.refl _).alloc _).touch (onlyB c)).trans hT0
     rw [mayN_one] at hS ⊢
     have HQ6 := Lib.hid (HQ5b.out.step lb hT hS)
     skip
     clear hT0 hT hS
     have hQ6 := HQ6.out
     have hRB := HRB.out
     cases h1 : isT [83, 85, 77] (c.ts j2) with
     | true =>
       rw [h1, if_pos rfl] at hQ6
       rw [if_pos h1, Src.tail] at hRB
       have HQ6b := Lib.hid hQ6
       have HRC := Lib.hid hRB
       clear hQ6 hRB h1
       go_wp2_with fail
       refine (name_ok c (j2 + 1) 0 _ HQ6b.out.src).mono ?_
       rintro e w6 ⟨hT, hp⟩
       have hR := HRC.out
       rcases hr : name c.E (c.ts (j2 + 1)) with ⟨k, p⟩ | ⟨sm, ts⟩
       · rw [hr] at hp
         simp only [hr, bnd_error, fin_error] at hR
         obtain rfl := hp
         exact ⟨rfl, RdPost.bad hR (HQ6b.out.touch.trans hT)⟩
       rw [hr] at hp
       obtain ⟨v, j3, rfl, rfl, rfl, hS⟩ := hp
       simp only [hr, bnd_ok, fin_ok] at hR
       have HQ7 := Lib.hid (HQ6b.out.step lb hT hS)
       have HRD := Lib.hid hR
       skip
       clear hT hS hR hr
       have HQA : Hid (Vr QuK 49 zQu w (w6.setCell ⟨w.heap.size + 1, 3, none⟩ (str sm)) c j3 0 [.bool qc, .bool false, .bool false, str sm, .slice none 0 0, .slice none 0 0, .slice none 0 0] { Qu.none with coalesce := qc, sum := sm }) :=
         Lib.hid (HQ7.out.set H.out 3 _ ⟨_, _, _, rfl, VLA.nil _ _ _ _, VLA.nil _ _ _ _, VLA.nil _ _ _ _⟩)
       obtain ⟨a0, a1, a2, a3, a4, a5, a6⟩ := blk7 HQ7.out.blk
       have la := blk_lt HQ7.out.blk
       have fa := fun k => blk_frozen HQ7.out.blk k
       go_wp2_with fail
       refine (must_ok c j3 0 _ (HQA.out.src.ext ((Ext.refl _).alloc _)) (some _) [[70, 82, 79, 77]] (txts_at _ [[70, 82, 79, 77]] (by simp [size_set])) (by simp)).mono ?_
       rintro e x4 ⟨hT0, hp⟩
       have hT := (((Ext.refl _).alloc _).touch (onlyB c)).trans hT0
       rw [mustN_one] at hp
       have hR := HRD.out
       rcases hr : must c.E [70, 82, 79, 77] (c.ts j3) with ⟨k, p⟩ | ⟨⟨⟩, ts⟩
       · rw [hr] at hp
         simp only [hr, bnd_error, fin_error] at hR
         obtain rfl := hp
         exact ⟨rfl, RdPost.bad hR (HQA.out.touch.trans hT)⟩
       rw [hr] at hp
       obtain ⟨v, j4, rfl, rfl, rfl, hS⟩ := hp
       simp only [hr, bnd_ok, fin_ok] at hR
       have HQ4 := Lib.hid (HQA.out.step lb hT hS)
       have HR4 := Lib.hid hR
       skip
       clear hT0 hT hS hR hr
       have HR4' := HR4.out
       unfold tablesP at HR4'
       have HRt := Lib.hid HR4'
       clear HR4'
       go_wp2_with fail
       refine (name_ok c j4 0 _ HQ4.out.src).mono ?_
       rintro e x5 ⟨hT, hp⟩
       have hR := HRt.out
       rcases hr : name c.E (c.ts j4) with ⟨k, p⟩ | ⟨tn, ts⟩
       · rw [hr] at hp
         simp only [hr, bnd_error, fin_error] at hR
         obtain rfl := hp
         exact ⟨rfl, RdPost.bad hR (HQ4.out.touch.trans hT)⟩
       rw [hr] at hp
       obtain ⟨v, j5, rfl, rfl, rfl, hS⟩ := hp
       simp only [hr, bnd_ok, fin_ok] at hR
       have HX5 := Lib.hid (HQ4.out.step lb hT hS)
       have HY5 := Lib.hid hR
       skip
       clear hT hS hR hr
       have HX6 : Hid (Vr QuK 49 zQu w ((x5.setCell ⟨w.heap.size + 1, 5, none⟩ (.slice (some ⟨x5.heap.size, 0, none⟩) 1 1)).alloc (.cells #[str tn] 9)) c j5 0 [.bool qc, .bool false, .bool false, str sm, .slice none 0 0, .slice (some ⟨x5.heap.size, 0, none⟩) 1 1, .slice none 0 0] { coalesce := qc, all := false, count := false, sum := sm, items := [], tables := [tn], cond := [] }) := by
         refine Lib.hid (HX5.out.put H.out 5 _ _ ?_)
         obtain ⟨vi, vt, vc, hcs, q1, q2, q3⟩ := HX5.out.q
         simp only [List.cons.injEq, and_true] at hcs
         obtain ⟨-, -, -, -, rfl, rfl, rfl⟩ := hcs
         exact ⟨_, _, _, rfl, q1.keep _ (put_old _ _ _), VLA.one StrK (cs := [str tn]) (blk_new_at _ (by simp only [size_set])) rfl (by have := blk_lt HX5.out.blk; omega), q3.keep _ (put_old _ _ _)⟩
       obtain ⟨a0, a1, a2, a3, a4, a5, a6⟩ := blk7 HX5.out.blk
       have la := blk_lt HX5.out.blk
       have fa := fun k => blk_frozen HX5.out.blk k
       have HT6 : Hid (Touch (fun b => b = c.sb ∨ b = w.heap.size + 1 ∨ x5.heap.size ≤ b) x5 ((x5.setCell ⟨w.heap.size + 1, 5, none⟩ (.slice (some ⟨x5.heap.size, 0, none⟩) 1 1)).alloc (.cells #[str tn] 9))) := Lib.hid (((Touch.refl _ x5).setCell (p := ⟨w.heap.size + 1, 5, none⟩) (fun _ => .inr (.inl rfl)) _).alloc _)
       go_wp2_with fail
       refine (may_ok c j5 0 _ (HX6.out.src.ext ((Ext.refl _).alloc _)) (some _) [[44]] (txts_at _ [[44]] (by simp [size_set])) (by simp)).mono ?_
       rintro e x6 ⟨rfl, hS, hT0⟩
       have hT := (((Ext.refl _).alloc _).touch (onlyB c)).trans hT0
       rw [mayN_one] at hS ⊢
       have HX7 := Lib.hid (HX6.out.step lb hT hS)
       have HB6 : Hid (x6.heap[x5.heap.size]? = some (.cells #[str tn] 9 (0, 0)) ∧ Touch (fun b => b = c.sb ∨ b = w.heap.size + 1 ∨ x5.heap.size ≤ b) x5 x6) := Lib.hid ⟨hT.old (blk_new_at _ (by simp only [size_set])) (fun e => by have h1 : x5.heap.size = c.sb := e; have h2 := blk_lt HX5.out.blk; omega), HT6.out.trans (hT.mono (fun b _ e => .inl e))⟩
       clear hT0 hT hS
       clear a0 a1 a2 a3 a4 a5 a6 la fa
       have hX7 := HX7.out
       have hR5 := HY5.out
       cases h1 : isT [44] (c.ts j5) with
       | false =>
         rw [h1, if_neg (by simp)] at hX7
         simp only [h1, Bool.false_eq_true, if_false, bnd_ok] at hR5
         have HQ7b := Lib.hid hX7
         have HR7 := Lib.hid hR5
         clear hX7 hR5 HX7 h1
         go_wp2_with fail
         refine (where_ok c j5 _ HQ7b.out.src).mono ?_
         rintro e w8 ⟨hT, hp⟩
         have hR := HR7.out
         rcases hr : whereP c.E (c.ts j5) with ⟨k, p⟩ | ⟨cnd, ts⟩
         · rw [hr] at hp
           simp only [hr, bnd_error, fin_error] at hR
           obtain rfl := hp
           exact ⟨rfl, RdPost.bad hR (HQ7b.out.touch.trans hT)⟩
         rw [hr] at hp
         obtain ⟨v, j8, rfl, hv, rfl, hS⟩ := hp
         simp only [hr, bnd_ok, fin_ok] at hR
         have HQ8 := Lib.hid (HQ7b.out.step lb hT hS)
         have HR8 := Lib.hid hR
         have hv8 := VLA.of ExK (A := fun b => w.heap.size + 2 ≤ b) hv (fun b _ hb => by have := blk_lt HQ7b.out.blk; omega)
         clear hT hS hR hr
         obtain ⟨g8, c8, rfl⟩ := hv8.slice
         have HQ9 : Hid (Vr QuK 49 zQu w (w8.setCell ⟨w.heap.size + 1, 6, none⟩ (slv g8 cnd.length c8)) c j8 0 [.bool qc, .bool false, .bool false, str sm, .slice none 0 0, .slice (some ⟨x5.heap.size, 0, none⟩) 1 1, slv g8 cnd.length c8] { coalesce := qc, all := false, count := false, sum := sm, items := [], tables := [tn], cond := cnd }) := by
           refine Lib.hid (HQ8.out.set H.out 6 _ ?_)
           obtain ⟨vi, vt, vc, hcs, q1, q2, q3⟩ := HQ8.out.q
           simp only [List.cons.injEq, and_true] at hcs
           obtain ⟨-, -, -, -, rfl, rfl, rfl⟩ := hcs
           exact ⟨_, _, _, rfl, q1, q2, hv8⟩
         clear hv hv8
         obtain ⟨a0, a1, a2, a3, a4, a5, a6⟩ := blk7 HQ8.out.blk
         have la := blk_lt HQ8.out.blk
         have fa := fun k => blk_frozen HQ8.out.blk k
         obtain ⟨b0, b1, b2, b3, b4, b5, b6⟩ := blk7 HQ8.out.res
         have lr := blk_lt HQ8.out.res
         have fr := fun k => blk_frozen HQ8.out.res k
         go_wp2
         refine bodyPost_ret (v := .agg [.bool qc, .bool false, .bool false, str sm, .slice none 0 0, .slice (some ⟨x5.heap.size, 0, none⟩) 1 1, slv g8 cnd.length c8].toArray) (results_qu rfl rfl (set7 HQ9.out.res _ _ _ _ _ _ _)) rfl ?_
         exact HQ9.out.done H.out (late7 (Touch.refl _ _) _ _ _ _ _ _ _) (fun h => ⟨_, rfl, h⟩) HR8.out
       | true =>
         rw [h1, if_pos rfl] at hX7
         simp only [h1, if_true, Src.tail] at hR5
         have HQ7b := Lib.hid hX7
         have HR7 := Lib.hid hR5
         clear hX7 hR5 HX7 h1
         go_wp2
         obtain ⟨a0, a1, a2, a3, a4, a5, a6⟩ := blk7 HQ7b.out.blk
         have la := blk_lt HQ7b.out.blk
         have fa := fun k => blk_frozen HQ7b.out.blk k
         have hnb : w.heap.size + 1 ≠ c.sb := by omega
         have lb5 := blk_lt HX5.out.blk
         have HB7 : Hid (x6.heap[x5.heap.size]? = some (.cells #[str tn] 9 (0, 0)) ∧ Touch (fun b => b = c.sb ∨ b = w.heap.size + 1 ∨ x5.heap.size ≤ b) x5 x6) := HB6
         clear HB6
         letI : Tch.TS := ⟨onlyB c⟩
         rcases hr : name c.E (c.ts (j5 + 1)) with ⟨k, p⟩ | ⟨m, ts⟩
         · have HRn := Lib.hid hr
           refine region_gives [.p 0, .e 1, .p 2, .h 3 true, .h 4 true, .h 5 false, .p 6, .h 7 false] f_mixed (by kernel_rfl) (by kernel_rfl) (fun ch w' => Ending.panicked ch = thrown k p ∧ Touch (onlyB c) x6 w') [] ?_ ?_
           · repeat (refine Tch.plan_p rfl (fun K hK => ?_); go_simp; refine hK _ ?_; clear hK K)
             refine Tch.plan_e1 rfl rfl (.slice (some ⟨x5.heap.size, 0, none⟩) 1 1) (fun w' he => ?_) (fun K hK => ?_)
             · have d5 := Touch.cell he a5 (fun e => hnb e)
               clear a0 a1 a2 a3 a4 a5 a6 he
               go_simp
             go_simp; refine hK _ ?_; clear hK K
             repeat (refine Tch.plan_p rfl (fun K hK => ?_); go_simp; refine hK _ ?_; clear hK K)
             refine Tch.plan_t rfl (fun K hK => ?_)
             clear hK
             go_wp2_with fail
             refine (name_ok c (j5 + 1) 0 _ (HQ7b.out.src.ext (Ext.refl x6).drew)).mono ?_
             rintro e w9 ⟨hT9, hp⟩
             rw [hr] at hp
             obtain rfl := hp
             exact ⟨⟨rfl, ((Touch.refl _ x6).drew).trans hT9⟩, rfl⟩
           · rintro x ⟨tmps, ds⟩ w9 ⟨hx, hT9⟩ rfl
             obtain rfl := Ending.panicked.inj hx
             refine ⟨rfl, RdPost.bad ?_ (HQ7b.out.touch.trans hT9)⟩
             rw [HR7.out, HRn.out]; rfl
         · have HRn := Lib.hid hr
           refine Tch.region_calm [.p 0, .e 1, .p 2, .h 3 true, .h 4 true, .h 5 false, .p 6, .h 7 false] f_mixed (by kernel_rfl) (by kernel_rfl) ?_
           repeat (refine Tch.plan_p rfl (fun K hK => ?_); go_simp; refine hK _ ?_; clear hK K)
           refine Tch.plan_e1 rfl rfl (.slice (some ⟨x5.heap.size, 0, none⟩) 1 1) (fun w' he => ?_) (fun K hK => ?_)
           · have d5 := Touch.cell he a5 (fun e => hnb e)
             clear a0 a1 a2 a3 a4 a5 a6 he
             go_simp
           go_simp; refine hK _ ?_; clear hK K
           repeat (refine Tch.plan_p rfl (fun K hK => ?_); go_simp; refine hK _ ?_; clear hK K)
           refine Tch.plan_ct rfl rfl (fun K _ hK => ?_)
           go_wp2_with fail
           refine (name_ok c (j5 + 1) 0 _ (HQ7b.out.src.ext (Ext.refl x6).drew)).mono ?_
           rintro e w9 ⟨hT9, hp⟩
           rw [hr] at hp
           obtain ⟨v, j9, rfl, rfl, rfl, hS9⟩ := hp
           have hT9' : Touch (onlyB c) x6 w9 := ((Touch.refl _ x6).drew).trans hT9
           have HQ9 := Lib.hid (HQ7b.out.step lb hT9' hS9)
           have HB9 := Lib.hid (hT9'.old HB7.out.1 (fun e => by have h1 : x5.heap.size = c.sb := e; omega))
           have HT9 : Hid (Touch (fun b => b = c.sb ∨ b = w.heap.size + 1 ∨ x5.heap.size ≤ b) x5 w9) := Lib.hid (HB7.out.2.trans (hT9'.mono (fun b _ e => .inl e)))
           go_wp2_with fail
           refine hK _ _ hT9 ?_
           clear hK K hT9 hT9' hS9 hr a0 a1 a2 a3 a4 a5 a6 la fa
           refine Tch.plan_ct rfl rfl (fun K _ hK => ?_)
           go_wp2_with fail
           refine hK _ _ (((Ext.refl _).alloc _).touch _) ?_
           clear hK K
           refine Tch.plan_c rfl rfl (fun K _ hK => ?_)
           refine app_lit ei_str rfl (.tmp 44) (.tmp 47) rfl (g := some x5.heap.size) (n := 1) (cap := 1) (b := w9.heap.size) (by rfl) (xs := [str tn]) ⟨rfl, _, blk_alloc HB9.out, Nat.le_refl _, by simp [maxLen], rfl, rfl⟩ (by rfl) (news := [str m]) rfl (blk_new_at _ rfl) (by simp [Value.oneCell']) (by omega) (by omega) ?_
           intro g10 cap10 w10 hS10 hT10 hat10
           have hg10 : x5.heap.size ≤ g10 := by
             rcases hat10 with h | h
             · cases h; exact Nat.le_refl _
             · have := HT9.out.size; simp at h; omega
           have ht10 : Touch (fun b => b = c.sb ∨ b = w.heap.size + 1 ∨ x5.heap.size ≤ b) x5 (w10.setCell ⟨w.heap.size + 1, 5, none⟩ (.slice (some ⟨g10, 0, none⟩) 2 cap10)) :=
             ((HT9.out.alloc _).trans (hT10.mono (fun b _ e => by cases e; exact .inr (.inr (Nat.le_refl _))))).setCell (p := ⟨w.heap.size + 1, 5, none⟩) (fun _ => .inr (.inl rfl)) _
           have hS11 : Src (w10.setCell ⟨w.heap.size + 1, 5, none⟩ (.slice (some ⟨g10, 0, none⟩) 2 cap10)) c j9 0 := by
             refine ((HQ9.out.src.ext ((Ext.refl _).alloc (.cells #[str m] 9))).touch hT10 (fun e => by have h1 : x5.heap.size = c.sb := Option.some.inj e; omega) (fun b hb e => ?_)).touch ((Touch.refl (fun b => b = w.heap.size + 1) _).setCell (p := ⟨w.heap.size + 1, 5, none⟩) (fun _ => rfl) _) (fun e => hnb e.symm) (fun b hb e => ?_)
             · cases e; have := toks_lt H.out _ hb; omega
             · have := toks_lt H.out _ hb; omega
           have hbb : w10.heap[w.heap.size + 1]? = _ := hT10.old (blk_alloc (o' := .cells #[str m] 9) HQ9.out.blk) (fun e => by have h1 : x5.heap.size = w.heap.size + 1 := Option.some.inj e; omega)
           have HBB := Lib.hid hbb
           have HQX : Hid (Vr QuK 49 zQu w (w10.setCell ⟨w.heap.size + 1, 5, none⟩ (.slice (some ⟨g10, 0, none⟩) 2 cap10)) c j9 0 [.bool qc, .bool false, .bool false, str sm, .slice none 0 0, .slice (some ⟨g10, 0, none⟩) 2 cap10, .slice none 0 0] { coalesce := qc, all := false, count := false, sum := sm, items := [], tables := [tn, m], cond := [] }) := by
             refine Lib.hid (HX5.out.later H.out ht10 hS11 (blk_set hbb 5 _) ?_)
             obtain ⟨vi, vt, vc, hcs, q1, q2, q3⟩ := HX5.out.q
             simp only [List.cons.injEq, and_true] at hcs
             obtain ⟨-, -, -, -, rfl, rfl, rfl⟩ := hcs
             refine ⟨_, _, _, rfl, q1.keep _ (late_old lb ht10), ⟨some g10, cap10, [str tn, str m], rfl, ?_, fun b hb => by cases hb; omega, ⟨[str tn], [str m], rfl, rfl, ⟨[str m], [], rfl, rfl, rfl⟩⟩⟩, q3.keep _ (late_old lb ht10)⟩
             exact Sl.congr hS10 (fun b hb => by cases hb; exact Below.heap_setCell _ _ _ _ (by simp; omega))
           have HRx : Hid (R = fin (fun c => { coalesce := qc, all := false, count := false, sum := sm, items := [], tables := [tn, m], cond := c }) (whereP c.E (c.ts j9))) := by
             show _ = _
             rw [HR7.out, HRn.out]; rfl
           obtain ⟨a0, a1, a2, a3, a4, a5, a6⟩ := blk7 HBB.out
           have la := blk_lt HBB.out
           have fa := fun k => blk_frozen HBB.out k
           clear hS10 hT10 hat10 ht10 hS11 hbb
           go_wp2_with fail
           repeat (refine Tch.plan_p rfl (fun K hK => ?_); go_simp; refine hK _ ?_; clear hK K)
           refine Tch.plan_c rfl rfl (fun K _ hK => ?_)
           go_wp2_with fail
           refine tch_done ?_
           go_wp2_with fail
           refine (where_ok c j9 _ HQX.out.src).mono ?_
           rintro e w8 ⟨hT, hp⟩
           have hR := HRx.out
           rcases hr : whereP c.E (c.ts j9) with ⟨k, p⟩ | ⟨cnd, ts⟩
           · rw [hr] at hp
             simp only [hr, bnd_error, fin_error] at hR
             obtain rfl := hp
             exact ⟨rfl, RdPost.bad hR (HQX.out.touch.trans hT)⟩
           rw [hr] at hp
           obtain ⟨v, j8, rfl, hv, rfl, hS⟩ := hp
           simp only [hr, bnd_ok, fin_ok] at hR
           have HQ8 := Lib.hid (HQX.out.step lb hT hS)
           have HR8 := Lib.hid hR
           have hv8 := VLA.of ExK (A := fun b => w.heap.size + 2 ≤ b) hv (fun b _ hb => by have := blk_lt HQX.out.blk; omega)
           clear hT hS hR hr
           obtain ⟨g8, c8, rfl⟩ := hv8.slice
           have HQ9 : Hid (Vr QuK 49 zQu w (w8.setCell ⟨w.heap.size + 1, 6, none⟩ (slv g8 cnd.length c8)) c j8 0 [.bool qc, .bool false, .bool false, str sm, .slice none 0 0, .slice (some ⟨g10, 0, none⟩) 2 cap10, slv g8 cnd.length c8] { coalesce := qc, all := false, count := false, sum := sm, items := [], tables := [tn, m], cond := cnd }) := by
             refine Lib.hid (HQ8.out.set H.out 6 _ ?_)
             obtain ⟨vi, vt, vc, hcs, q1, q2, q3⟩ := HQ8.out.q
             simp only [List.cons.injEq, and_true] at hcs
             obtain ⟨-, -, -, -, rfl, rfl, rfl⟩ := hcs
             exact ⟨_, _, _, rfl, q1, q2, hv8⟩
           clear hv hv8
           obtain ⟨a0, a1, a2, a3, a4, a5, a6⟩ := blk7 HQ8.out.blk
           have la := blk_lt HQ8.out.blk
           have fa := fun k => blk_frozen HQ8.out.blk k
           obtain ⟨b0, b1, b2, b3, b4, b5, b6⟩ := blk7 HQ8.out.res
           have lr := blk_lt HQ8.out.res
           have fr := fun k => blk_frozen HQ8.out.res k
           go_wp2
           refine bodyPost_ret (v := .agg [.bool qc, .bool false, .bool false, str sm, .slice none 0 0, .slice (some ⟨g10, 0, none⟩) 2 cap10, slv g8 cnd.length c8].toArray) (results_qu rfl rfl (set7 HQ9.out.res _ _ _ _ _ _ _)) rfl ?_
           exact HQ9.out.done H.out (late7 (Touch.refl _ _) _ _ _ _ _ _ _) (fun h => ⟨_, rfl, h⟩) HR8.out
     | false =>
       rw [h1, if_neg (by simp)] at hQ6
       rw [if_neg (by simp [h1])] at hRB
       have HQ6b := Lib.hid hQ6
       have HRC := Lib.hid hRB
       clear hQ6 hRB h1
       go_wp2_with fail
       refine (list_ex c j2 0 _ HQ6b.out.src _ ent_item (item c.E) (Suf.item c.E) (fun w i h => item_ok c i 0 w h)).mono ?_
       rintro e w6 ⟨hT, hp⟩
       have hR := HRC.out
       rcases hr : sep (item c.E) (c.ts j2) with ⟨k, p⟩ | ⟨il, ts⟩
       · rw [hr] at hp
         simp only [hr, bnd_error, fin_error] at hR
         obtain rfl := hp
         exact ⟨rfl, RdPost.bad hR (HQ6b.out.touch.trans hT)⟩
       rw [hr] at hp
       obtain ⟨v, j3, rfl, hv, rfl, hS⟩ := hp
       simp only [hr, bnd_ok, fin_ok] at hR
       have HQ7 := Lib.hid (HQ6b.out.step lb hT hS)
       have HRD := Lib.hid hR
       have hv7 := VLA.of ExK (A := fun b => w.heap.size + 2 ≤ b) hv (fun b _ hb => by have := blk_lt HQ6b.out.blk; omega)
       clear hT hS hR hr
       obtain ⟨gi, ci, rfl⟩ := hv7.slice
       have HQA : Hid (Vr QuK 49 zQu w (w6.setCell ⟨w.heap.size + 1, 4, none⟩ (slv gi il.length ci)) c j3 0 [.bool qc, .bool false, .bool false, str [], slv gi il.length ci, .slice none 0 0, .slice none 0 0] { Qu.none with coalesce := qc, items := il }) :=
         Lib.hid (HQ7.out.set H.out 4 _ ⟨_, _, _, rfl, hv7, VLA.nil _ _ _ _, VLA.nil _ _ _ _⟩)
       clear hv hv7
       obtain ⟨a0, a1, a2, a3, a4, a5, a6⟩ := blk7 HQ7.out.blk
       have la := blk_lt HQ7.out.blk
       have fa := fun k => blk_frozen HQ7.out.blk k
       go_wp2_with fail
       refine (must_ok c j3 0 _ (HQA.out.src.ext ((Ext.refl _).alloc _)) (some _) [[70, 82, 79, 77]] (txts_at _ [[70, 82, 79, 77]] (by simp [size_set])) (by simp)).mono ?_
       rintro e x4 ⟨hT0, hp⟩
       have hT := (((Ext.refl _).alloc _).touch (onlyB c)).trans hT0
       rw [mustN_one] at hp
       have hR := HRD.out
       rcases hr : must c.E [70, 82, 79, 77] (c.ts j3) with ⟨k, p⟩ | ⟨⟨⟩, ts⟩
       · rw [hr] at hp
         simp only [hr, bnd_error, fin_error] at hR
         obtain rfl := hp
         exact ⟨rfl, RdPost.bad hR (HQA.out.touch.trans hT)⟩
       rw [hr] at hp
       obtain ⟨v, j4, rfl, rfl, rfl, hS⟩ := hp
       simp only [hr, bnd_ok, fin_ok] at hR
       have HQ4 := Lib.hid (HQA.out.step lb hT hS)
       have HR4 := Lib.hid hR
       skip
       clear hT0 hT hS hR hr
       have HR4' := HR4.out
       unfold tablesP at HR4'
       have HRt := Lib.hid HR4'
       clear HR4'
       go_wp2_with fail
       refine (name_ok c j4 0 _ HQ4.out.src).mono ?_
       rintro e x5 ⟨hT, hp⟩
       have hR := HRt.out
       rcases hr : name c.E (c.ts j4) with ⟨k, p⟩ | ⟨tn, ts⟩
       · rw [hr] at hp
         simp only [hr, bnd_error, fin_error] at hR
         obtain rfl := hp
         exact ⟨rfl, RdPost.bad hR (HQ4.out.touch.trans hT)⟩
       rw [hr] at hp
       obtain ⟨v, j5, rfl, rfl, rfl, hS⟩ := hp
       simp only [hr, bnd_ok, fin_ok] at hR
       have HX5 := Lib.hid (HQ4.out.step lb hT hS)
       have HY5 := Lib.hid hR
       skip
       clear hT hS hR hr
       have HX6 : Hid (Vr QuK 49 zQu w ((x5.setCell ⟨w.heap.size + 1, 5, none⟩ (.slice (some ⟨x5.heap.size, 0, none⟩) 1 1)).alloc (.cells #[str tn] 9)) c j5 0 [.bool qc, .bool false, .bool false, str [], (slv gi il.length ci), .slice (some ⟨x5.heap.size, 0, none⟩) 1 1, .slice none 0 0] { coalesce := qc, all := false, count := false, sum := [], items := il, tables := [tn], cond := [] }) := by
         refine Lib.hid (HX5.out.put H.out 5 _ _ ?_)
         obtain ⟨vi, vt, vc, hcs, q1, q2, q3⟩ := HX5.out.q
         simp only [List.cons.injEq, and_true] at hcs
         obtain ⟨-, -, -, -, rfl, rfl, rfl⟩ := hcs
         exact ⟨_, _, _, rfl, q1.keep _ (put_old _ _ _), VLA.one StrK (cs := [str tn]) (blk_new_at _ (by simp only [size_set])) rfl (by have := blk_lt HX5.out.blk; omega), q3.keep _ (put_old _ _ _)⟩
       obtain ⟨a0, a1, a2, a3, a4, a5, a6⟩ := blk7 HX5.out.blk
       have la := blk_lt HX5.out.blk
       have fa := fun k => blk_frozen HX5.out.blk k
       have HT6 : Hid (Touch (fun b => b = c.sb ∨ b = w.heap.size + 1 ∨ x5.heap.size ≤ b) x5 ((x5.setCell ⟨w.heap.size + 1, 5, none⟩ (.slice (some ⟨x5.heap.size, 0, none⟩) 1 1)).alloc (.cells #[str tn] 9))) := Lib.hid (((Touch.refl _ x5).setCell (p := ⟨w.heap.size + 1, 5, none⟩) (fun _ => .inr (.inl rfl)) _).alloc _)
       go_wp2_with fail
       refine (may_ok c j5 0 _ (HX6.out.src.ext ((Ext.refl _).alloc _)) (some _) [[44]] (txts_at _ [[44]] (by simp [size_set])) (by simp)).mono ?_
       rintro e x6 ⟨rfl, hS, hT0⟩
       have hT := (((Ext.refl _).alloc _).touch (onlyB c)).trans hT0
       rw [mayN_one] at hS ⊢
       have HX7 := Lib.hid (HX6.out.step lb hT hS)
       have HB6 : Hid (x6.heap[x5.heap.size]? = some (.cells #[str tn] 9 (0, 0)) ∧ Touch (fun b => b = c.sb ∨ b = w.heap.size + 1 ∨ x5.heap.size ≤ b) x5 x6) := Lib.hid ⟨hT.old (blk_new_at _ (by simp only [size_set])) (fun e => by have h1 : x5.heap.size = c.sb := e; have h2 := blk_lt HX5.out.blk; omega), HT6.out.trans (hT.mono (fun b _ e => .inl e))⟩
       clear hT0 hT hS
       clear a0 a1 a2 a3 a4 a5 a6 la fa
       have hX7 := HX7.out
       have hR5 := HY5.out
       cases h1 : isT [44] (c.ts j5) with
       | false =>
         rw [h1, if_neg (by simp)] at hX7
         simp only [h1, Bool.false_eq_true, if_false, bnd_ok] at hR5
         have HQ7b := Lib.hid hX7
         have HR7 := Lib.hid hR5
         clear hX7 hR5 HX7 h1
         go_wp2_with fail
         refine (where_ok c j5 _ HQ7b.out.src).mono ?_
         rintro e w8 ⟨hT, hp⟩
         have hR := HR7.out
         rcases hr : whereP c.E (c.ts j5) with ⟨k, p⟩ | ⟨cnd, ts⟩
         · rw [hr] at hp
           simp only [hr, bnd_error, fin_error] at hR
           obtain rfl := hp
           exact ⟨rfl, RdPost.bad hR (HQ7b.out.touch.trans hT)⟩
         rw [hr] at hp
         obtain ⟨v, j8, rfl, hv, rfl, hS⟩ := hp
         simp only [hr, bnd_ok, fin_ok] at hR
         have HQ8 := Lib.hid (HQ7b.out.step lb hT hS)
         have HR8 := Lib.hid hR
         have hv8 := VLA.of ExK (A := fun b => w.heap.size + 2 ≤ b) hv (fun b _ hb => by have := blk_lt HQ7b.out.blk; omega)
         clear hT hS hR hr
         obtain ⟨g8, c8, rfl⟩ := hv8.slice
         have HQ9 : Hid (Vr QuK 49 zQu w (w8.setCell ⟨w.heap.size + 1, 6, none⟩ (slv g8 cnd.length c8)) c j8 0 [.bool qc, .bool false, .bool false, str [], (slv gi il.length ci), .slice (some ⟨x5.heap.size, 0, none⟩) 1 1, slv g8 cnd.length c8] { coalesce := qc, all := false, count := false, sum := [], items := il, tables := [tn], cond := cnd }) := by
           refine Lib.hid (HQ8.out.set H.out 6 _ ?_)
           obtain ⟨vi, vt, vc, hcs, q1, q2, q3⟩ := HQ8.out.q
           simp only [List.cons.injEq, and_true] at hcs
           obtain ⟨-, -, -, -, rfl, rfl, rfl⟩ := hcs
           exact ⟨_, _, _, rfl, q1, q2, hv8⟩
         clear hv hv8
         obtain ⟨a0, a1, a2, a3, a4, a5, a6⟩ := blk7 HQ8.out.blk
         have la := blk_lt HQ8.out.blk
         have fa := fun k => blk_frozen HQ8.out.blk k
         obtain ⟨b0, b1, b2, b3, b4, b5, b6⟩ := blk7 HQ8.out.res
         have lr := blk_lt HQ8.out.res
         have fr := fun k => blk_frozen HQ8.out.res k
         go_wp2
         refine bodyPost_ret (v := .agg [.bool qc, .bool false, .bool false, str [], (slv gi il.length ci), .slice (some ⟨x5.heap.size, 0, none⟩) 1 1, slv g8 cnd.length c8].toArray) (results_qu rfl rfl (set7 HQ9.out.res _ _ _ _ _ _ _)) rfl ?_
         exact HQ9.out.done H.out (late7 (Touch.refl _ _) _ _ _ _ _ _ _) (fun h => ⟨_, rfl, h⟩) HR8.out
       | true =>
         rw [h1, if_pos rfl] at hX7
         simp only [h1, if_true, Src.tail] at hR5
         have HQ7b := Lib.hid hX7
         have HR7 := Lib.hid hR5
         clear hX7 hR5 HX7 h1
         go_wp2
         obtain ⟨a0, a1, a2, a3, a4, a5, a6⟩ := blk7 HQ7b.out.blk
         have la := blk_lt HQ7b.out.blk
         have fa := fun k => blk_frozen HQ7b.out.blk k
         have hnb : w.heap.size + 1 ≠ c.sb := by omega
         have lb5 := blk_lt HX5.out.blk
         have HB7 : Hid (x6.heap[x5.heap.size]? = some (.cells #[str tn] 9 (0, 0)) ∧ Touch (fun b => b = c.sb ∨ b = w.heap.size + 1 ∨ x5.heap.size ≤ b) x5 x6) := HB6
         clear HB6
         letI : Tch.TS := ⟨onlyB c⟩
         rcases hr : name c.E (c.ts (j5 + 1)) with ⟨k, p⟩ | ⟨m, ts⟩
         · have HRn := Lib.hid hr
           refine region_gives [.p 0, .e 1, .p 2, .h 3 true, .h 4 true, .h 5 false, .p 6, .h 7 false] f_mixed (by kernel_rfl) (by kernel_rfl) (fun ch w' => Ending.panicked ch = thrown k p ∧ Touch (onlyB c) x6 w') [] ?_ ?_
           · repeat (refine Tch.plan_p rfl (fun K hK => ?_); go_simp; refine hK _ ?_; clear hK K)
             refine Tch.plan_e1 rfl rfl (.slice (some ⟨x5.heap.size, 0, none⟩) 1 1) (fun w' he => ?_) (fun K hK => ?_)
             · have d5 := Touch.cell he a5 (fun e => hnb e)
               clear a0 a1 a2 a3 a4 a5 a6 he
               go_simp
             go_simp; refine hK _ ?_; clear hK K
             repeat (refine Tch.plan_p rfl (fun K hK => ?_); go_simp; refine hK _ ?_; clear hK K)
             refine Tch.plan_t rfl (fun K hK => ?_)
             clear hK
             go_wp2_with fail
             refine (name_ok c (j5 + 1) 0 _ (HQ7b.out.src.ext (Ext.refl x6).drew)).mono ?_
             rintro e w9 ⟨hT9, hp⟩
             rw [hr] at hp
             obtain rfl := hp
             exact ⟨⟨rfl, ((Touch.refl _ x6).drew).trans hT9⟩, rfl⟩
           · rintro x ⟨tmps, ds⟩ w9 ⟨hx, hT9⟩ rfl
             obtain rfl := Ending.panicked.inj hx
             refine ⟨rfl, RdPost.bad ?_ (HQ7b.out.touch.trans hT9)⟩
             rw [HR7.out, HRn.out]; rfl
         · have HRn := Lib.hid hr
           refine Tch.region_calm [.p 0, .e 1, .p 2, .h 3 true, .h 4 true, .h 5 false, .p 6, .h 7 false] f_mixed (by kernel_rfl) (by kernel_rfl) ?_
           repeat (refine Tch.plan_p rfl (fun K hK => ?_); go_simp; refine hK _ ?_; clear hK K)
           refine Tch.plan_e1 rfl rfl (.slice (some ⟨x5.heap.size, 0, none⟩) 1 1) (fun w' he => ?_) (fun K hK => ?_)
           · have d5 := Touch.cell he a5 (fun e => hnb e)
             clear a0 a1 a2 a3 a4 a5 a6 he
             go_simp
           go_simp; refine hK _ ?_; clear hK K
           repeat (refine Tch.plan_p rfl (fun K hK => ?_); go_simp; refine hK _ ?_; clear hK K)
           refine Tch.plan_ct rfl rfl (fun K _ hK => ?_)
           go_wp2_with fail
           refine (name_ok c (j5 + 1) 0 _ (HQ7b.out.src.ext (Ext.refl x6).drew)).mono ?_
           rintro e w9 ⟨hT9, hp⟩
           rw [hr] at hp
           obtain ⟨v, j9, rfl, rfl, rfl, hS9⟩ := hp
           have hT9' : Touch (onlyB c) x6 w9 := ((Touch.refl _ x6).drew).trans hT9
           have HQ9 := Lib.hid (HQ7b.out.step lb hT9' hS9)
           have HB9 := Lib.hid (hT9'.old HB7.out.1 (fun e => by have h1 : x5.heap.size = c.sb := e; omega))
           have HT9 : Hid (Touch (fun b => b = c.sb ∨ b = w.heap.size + 1 ∨ x5.heap.size ≤ b) x5 w9) := Lib.hid (HB7.out.2.trans (hT9'.mono (fun b _ e => .inl e)))
           go_wp2_with fail
           refine hK _ _ hT9 ?_
           clear hK K hT9 hT9' hS9 hr a0 a1 a2 a3 a4 a5 a6 la fa
           refine Tch.plan_ct rfl rfl (fun K _ hK => ?_)
           go_wp2_with fail
           refine hK _ _ (((Ext.refl _).alloc _).touch _) ?_
           clear hK K
           refine Tch.plan_c rfl rfl (fun K _ hK => ?_)
           refine app_lit ei_str rfl (.tmp 44) (.tmp 47) rfl (g := some x5.heap.size) (n := 1) (cap := 1) (b := w9.heap.size) (by rfl) (xs := [str tn]) ⟨rfl, _, blk_alloc HB9.out, Nat.le_refl _, by simp [maxLen], rfl, rfl⟩ (by rfl) (news := [str m]) rfl (blk_new_at _ rfl) (by simp [Value.oneCell']) (by omega) (by omega) ?_
           intro g10 cap10 w10 hS10 hT10 hat10
           have hg10 : x5.heap.size ≤ g10 := by
             rcases hat10 with h | h
             · cases h; exact Nat.le_refl _
             · have := HT9.out.size; simp at h; omega
           have ht10 : Touch (fun b => b = c.sb ∨ b = w.heap.size + 1 ∨ x5.heap.size ≤ b) x5 (w10.setCell ⟨w.heap.size + 1, 5, none⟩ (.slice (some ⟨g10, 0, none⟩) 2 cap10)) :=
             ((HT9.out.alloc _).trans (hT10.mono (fun b _ e => by cases e; exact .inr (.inr (Nat.le_refl _))))).setCell (p := ⟨w.heap.size + 1, 5, none⟩) (fun _ => .inr (.inl rfl)) _
           have hS11 : Src (w10.setCell ⟨w.heap.size + 1, 5, none⟩ (.slice (some ⟨g10, 0, none⟩) 2 cap10)) c j9 0 := by
             refine ((HQ9.out.src.ext ((Ext.refl _).alloc (.cells #[str m] 9))).touch hT10 (fun e => by have h1 : x5.heap.size = c.sb := Option.some.inj e; omega) (fun b hb e => ?_)).touch ((Touch.refl (fun b => b = w.heap.size + 1) _).setCell (p := ⟨w.heap.size + 1, 5, none⟩) (fun _ => rfl) _) (fun e => hnb e.symm) (fun b hb e => ?_)
             · cases e; have := toks_lt H.out _ hb; omega
             · have := toks_lt H.out _ hb; omega
           have hbb : w10.heap[w.heap.size + 1]? = _ := hT10.old (blk_alloc (o' := .cells #[str m] 9) HQ9.out.blk) (fun e => by have h1 : x5.heap.size = w.heap.size + 1 := Option.some.inj e; omega)
           have HBB := Lib.hid hbb
           have HQX : Hid (Vr QuK 49 zQu w (w10.setCell ⟨w.heap.size + 1, 5, none⟩ (.slice (some ⟨g10, 0, none⟩) 2 cap10)) c j9 0 [.bool qc, .bool false, .bool false, str [], (slv gi il.length ci), .slice (some ⟨g10, 0, none⟩) 2 cap10, .slice none 0 0] { coalesce := qc, all := false, count := false, sum := [], items := il, tables := [tn, m], cond := [] }) := by
             refine Lib.hid (HX5.out.later H.out ht10 hS11 (blk_set hbb 5 _) ?_)
             obtain ⟨vi, vt, vc, hcs, q1, q2, q3⟩ := HX5.out.q
             simp only [List.cons.injEq, and_true] at hcs
             obtain ⟨-, -, -, -, rfl, rfl, rfl⟩ := hcs
             refine ⟨_, _, _, rfl, q1.keep _ (late_old lb ht10), ⟨some g10, cap10, [str tn, str m], rfl, ?_, fun b hb => by cases hb; omega, ⟨[str tn], [str m], rfl, rfl, ⟨[str m], [], rfl, rfl, rfl⟩⟩⟩, q3.keep _ (late_old lb ht10)⟩
             exact Sl.congr hS10 (fun b hb => by cases hb; exact Below.heap_setCell _ _ _ _ (by simp; omega))
           have HRx : Hid (R = fin (fun c => { coalesce := qc, all := false, count := false, sum := [], items := il, tables := [tn, m], cond := c }) (whereP c.E (c.ts j9))) := by
             show _ = _
             rw [HR7.out, HRn.out]; rfl
           obtain ⟨a0, a1, a2, a3, a4, a5, a6⟩ := blk7 HBB.out
           have la := blk_lt HBB.out
           have fa := fun k => blk_frozen HBB.out k
           clear hS10 hT10 hat10 ht10 hS11 hbb
           go_wp2_with fail
           repeat (refine Tch.plan_p rfl (fun K hK => ?_); go_simp; refine hK _ ?_; clear hK K)
           refine Tch.plan_c rfl rfl (fun K _ hK => ?_)
           go_wp2_with fail
           refine tch_done ?_
           go_wp2_with fail
           refine (where_ok c j9 _ HQX.out.src).mono ?_
           rintro e w8 ⟨hT, hp⟩
           have hR := HRx.out
           rcases hr : whereP c.E (c.ts j9) with ⟨k, p⟩ | ⟨cnd, ts⟩
           · rw [hr] at hp
             simp only [hr, bnd_error, fin_error] at hR
             obtain rfl := hp
             exact ⟨rfl, RdPost.bad hR (HQX.out.touch.trans hT)⟩
           rw [hr] at hp
           obtain ⟨v, j8, rfl, hv, rfl, hS⟩ := hp
           simp only [hr, bnd_ok, fin_ok] at hR
           have HQ8 := Lib.hid (HQX.out.step lb hT hS)
           have HR8 := Lib.hid hR
           have hv8 := VLA.of ExK (A := fun b => w.heap.size + 2 ≤ b) hv (fun b _ hb => by have := blk_lt HQX.out.blk; omega)
           clear hT hS hR hr
           obtain ⟨g8, c8, rfl⟩ := hv8.slice
           have HQ9 : Hid (Vr QuK 49 zQu w (w8.setCell ⟨w.heap.size + 1, 6, none⟩ (slv g8 cnd.length c8)) c j8 0 [.bool qc, .bool false, .bool false, str [], (slv gi il.length ci), .slice (some ⟨g10, 0, none⟩) 2 cap10, slv g8 cnd.length c8] { coalesce := qc, all := false, count := false, sum := [], items := il, tables := [tn, m], cond := cnd }) := by
             refine Lib.hid (HQ8.out.set H.out 6 _ ?_)
             obtain ⟨vi, vt, vc, hcs, q1, q2, q3⟩ := HQ8.out.q
             simp only [List.cons.injEq, and_true] at hcs
             obtain ⟨-, -, -, -, rfl, rfl, rfl⟩ := hcs
             exact ⟨_, _, _, rfl, q1, q2, hv8⟩
           clear hv hv8
           obtain ⟨a0, a1, a2, a3, a4, a5, a6⟩ := blk7 HQ8.out.blk
           have la := blk_lt HQ8.out.blk
           have fa := fun k => blk_frozen HQ8.out.blk k
           obtain ⟨b0, b1, b2, b3, b4, b5, b6⟩ := blk7 HQ8.out.res
           have lr := blk_lt HQ8.out.res
           have fr := fun k => blk_frozen HQ8.out.res k
           go_wp2
           refine bodyPost_ret (v := .agg [.bool qc, .bool false, .bool false, str [], (slv gi il.length ci), .slice (some ⟨g10, 0, none⟩) 2 cap10, slv g8 cnd.length c8].toArray) (results_qu rfl rfl (set7 HQ9.out.res _ _ _ _ _ _ _)) rfl ?_
           exact HQ9.out.done H.out (late7 (Touch.refl _ _) _ _ _ _ _ _ _) (fun h => ⟨_, rfl, h⟩) HR8.out
def NumK : Kd Nat where
 C _ _ c n := c = [.int .i64 (n : Int)]
 size := 1
 keep _ _ _ := id
 len h := by rw [h]; rfl
 one h u hu := by rw [h] at hu; simp at hu; subst hu; rfl
def PerK : Kd (Nat × Nat) where
 C _ _ c p := c = [.int .i64 (p.1 : Int), .int .i64 (p.2 : Int)]
 size := 2
 keep _ _ _ := id
 len h := by rw [h]; rfl
 one h u hu := by rw [h] at hu; simp at hu; rcases hu with rfl | rfl <;> rfl
theorem ei_qu : EI Tryz.prog 29 49 7 96 :=
 ⟨Tryz.underlying29, by
  obtain ⟨i, h1, h2, h3, h4⟩ := info_parts (P := Tryz.prog) (e := 49) (z := .agg #[.bool false, .bool false, .bool false, .string (ByteArray.mk #[]), .slice none 0 0, .slice none 0 0, .slice none 0 0]) (size := 7) (bytes := 96) (by kernel_rfl)
  exact ⟨i, _, h1, h2, h3, h4, rfl⟩, by omega, by omega⟩
structure StV where
 col : Value
 key : Value
 val : Value
 set : Value
 cond : Value
 qu : Value
 op : Value
 asof : Value
 dur : Value
 ord : Value
def StV.nil : StV := ⟨.slice none 0 0, .slice none 0 0, .slice none 0 0, .slice none 0 0, .slice none 0 0, .slice none 0 0, .slice none 0 0, .slice none 0 0, .slice none 0 0, .slice none 0 0⟩
abbrev stCells (x : St) (v : StV) : List Value := [str x.kind, str x.table, v.col, v.key, v.val, v.set, .int .i64 (x.period.1 : Int), .int .i64 (x.period.2 : Int), v.cond, v.qu, v.op, v.asof, v.dur, v.ord]
structure StOk (w : World) (A : Nat → Prop) (x : St) (v : StV) : Prop where
 col : VLA ColK 78 w A v.col x.columns
 key : VLA StrK 9 w A v.key x.keys
 val : VLA ExK 45 w A v.val x.values
 set : VLA SetK 80 w A v.set x.sets
 cond : VLA ExK 45 w A v.cond x.cond
 qu : VLA QuK 49 w A v.qu x.query
 op : VLA StrK 9 w A v.op x.ops
 asof : VLA NumK 2 w A v.asof x.asOf
 dur : VLA PerK 28 w A v.dur x.during
 ord : VLA StrK 9 w A v.ord x.order
theorem StOk.keep {w w' : World} {A A' : Nat → Prop} {x : St} {v : StV} (h : StOk w A x v) (hw : ∀ b, b < w.heap.size → A b → w'.heap[b]? = w.heap[b]? ∧ A' b) : StOk w' A' x v :=
 ⟨h.col.keep _ hw, h.key.keep _ hw, h.val.keep _ hw, h.set.keep _ hw, h.cond.keep _ hw, h.qu.keep _ hw, h.op.keep _ hw, h.asof.keep _ hw, h.dur.keep _ hw, h.ord.keep _ hw⟩
theorem StOk.none (w : World) (A : Nat → Prop) (k t : Str) (p : Nat × Nat) : StOk w A { St.none with kind := k, table := t, period := p } StV.nil :=
 ⟨VLA.nil _ _ _ _, VLA.nil _ _ _ _, VLA.nil _ _ _ _, VLA.nil _ _ _ _, VLA.nil _ _ _ _, VLA.nil _ _ _ _, VLA.nil _ _ _ _, VLA.nil _ _ _ _, VLA.nil _ _ _ _, VLA.nil _ _ _ _⟩
def StC (w : World) (A : Nat → Prop) (cs : List Value) (x : St) : Prop := ∃ v, cs = stCells x v ∧ StOk w A x v
theorem one_slice {α : Type} {K : Kd α} {T : TypeId} {w : World} {A : Nat → Prop} {v : Value} {xs : List α} (h : VLA K T w A v xs) : v.oneCell' = true := by
 obtain ⟨g, cap, rfl⟩ := h.slice; rfl
def StK : Kd St where
 C := StC
 size := 14
 keep hw c x := by
  rintro ⟨v, rfl, h⟩
  exact ⟨v, rfl, h.keep hw⟩
 len := by rintro w A c x ⟨v, rfl, _⟩; rfl
 one := by
  rintro w A c x ⟨v, rfl, h⟩ u hu
  simp only [stCells, List.mem_cons, List.not_mem_nil, or_false] at hu
  rcases hu with rfl | rfl | rfl | rfl | rfl | rfl | rfl | rfl | rfl | rfl | rfl | rfl | rfl | rfl
  · rfl
  · rfl
  · exact one_slice h.col
  · exact one_slice h.key
  · exact one_slice h.val
  · exact one_slice h.set
  · rfl
  · rfl
  · exact one_slice h.cond
  · exact one_slice h.qu
  · exact one_slice h.op
  · exact one_slice h.asof
  · exact one_slice h.dur
  · exact one_slice h.ord
abbrev zStL : List Value := [str [], str [], .slice none 0 0, .slice none 0 0, .slice none 0 0, .slice none 0 0, .int .i64 0, .int .i64 0, .slice none 0 0, .slice none 0 0, .slice none 0 0, .slice none 0 0, .slice none 0 0, .slice none 0 0]
abbrev zSt : Obj := .cells #[.string (ByteArray.mk #[]), .string (ByteArray.mk #[]), .slice none 0 0, .slice none 0 0, .slice none 0 0, .slice none 0 0, .int .i64 0, .int .i64 0, .slice none 0 0, .slice none 0 0, .slice none 0 0, .slice none 0 0, .slice none 0 0, .slice none 0 0] 33
def VSt (w : World) (lo : Nat) (v : Value) (x : St) : Prop := ∃ cs, v = .agg cs.toArray ∧ StC w (fun b => lo ≤ b) cs x
theorem blk14 {w : World} {b : Nat} {t : TypeId} {f : Nat × Nat} {v0 v1 v2 v3 v4 v5 v6 v7 v8 v9 v10 v11 v12 v13 : Value} (h : w.heap[b]? = some (.cells #[v0, v1, v2, v3, v4, v5, v6, v7, v8, v9, v10, v11, v12, v13] t f)) :
  w.cell? ⟨b, 0, none⟩ = some v0 ∧ w.cell? ⟨b, 1, none⟩ = some v1 ∧ w.cell? ⟨b, 2, none⟩ = some v2 ∧ w.cell? ⟨b, 3, none⟩ = some v3 ∧ w.cell? ⟨b, 4, none⟩ = some v4 ∧ w.cell? ⟨b, 5, none⟩ = some v5 ∧ w.cell? ⟨b, 6, none⟩ = some v6 ∧
  w.cell? ⟨b, 7, none⟩ = some v7 ∧ w.cell? ⟨b, 8, none⟩ = some v8 ∧ w.cell? ⟨b, 9, none⟩ = some v9 ∧ w.cell? ⟨b, 10, none⟩ = some v10 ∧ w.cell? ⟨b, 11, none⟩ = some v11 ∧ w.cell? ⟨b, 12, none⟩ = some v12 ∧ w.cell? ⟨b, 13, none⟩ = some v13 :=
 ⟨blk_cell h rfl, blk_cell h rfl, blk_cell h rfl, blk_cell h rfl, blk_cell h rfl, blk_cell h rfl, blk_cell h rfl, blk_cell h rfl, blk_cell h rfl, blk_cell h rfl, blk_cell h rfl, blk_cell h rfl, blk_cell h rfl, blk_cell h rfl⟩
theorem results_st {fn : Func} {t : Tmp} (hr : fn.results = #[.cell t 33]) {tmps : Array Value} {w : World} {b : Nat} {f : Nat × Nat} {T : TypeId} {v0 v1 v2 v3 v4 v5 v6 v7 v8 v9 v10 v11 v12 v13 : Value} (ht : tmps.getD t undef = .pointer (some ⟨b, 0, none⟩))
  (h : w.heap[b]? = some (.cells #[v0, v1, v2, v3, v4, v5, v6, v7, v8, v9, v10, v11, v12, v13] T f)) : (results fn tmps).run Tryz.prog w = .ok (.agg #[v0, v1, v2, v3, v4, v5, v6, v7, v8, v9, v10, v11, v12, v13]) w := by
 obtain ⟨c0, c1, c2, c3, c4, c5, c6, c7, c8, c9, c10, c11, c12, c13⟩ := blk14 h
 rw [Array.getD_eq_getD_getElem?] at ht
 simp [results, hr, go_sem, ht, c0, c1, c2, c3, c4, c5, c6, c7, c8, c9, c10, c11, c12, c13]
def wr14 (w : World) (b : Nat) (v0 v1 v2 v3 v4 v5 v6 v7 v8 v9 v10 v11 v12 v13 : Value) : World :=
 (((((((((((((w.setCell ⟨b, 0, none⟩ v0).setCell ⟨b, 1, none⟩ v1).setCell ⟨b, 2, none⟩ v2).setCell ⟨b, 3, none⟩ v3).setCell ⟨b, 4, none⟩ v4).setCell ⟨b, 5, none⟩ v5).setCell ⟨b, 6, none⟩ v6).setCell ⟨b, 7, none⟩ v7).setCell ⟨b, 8, none⟩ v8).setCell ⟨b, 9, none⟩ v9).setCell ⟨b, 10, none⟩ v10).setCell ⟨b, 11, none⟩ v11).setCell ⟨b, 12, none⟩ v12).setCell ⟨b, 13, none⟩ v13
theorem wr14_blk {w : World} {b : Nat} {T : TypeId} {f : Nat × Nat} {a0 a1 a2 a3 a4 a5 a6 a7 a8 a9 a10 a11 a12 a13 : Value} (h : w.heap[b]? = some (.cells #[a0, a1, a2, a3, a4, a5, a6, a7, a8, a9, a10, a11, a12, a13] T f)) (v0 v1 v2 v3 v4 v5 v6 v7 v8 v9 v10 v11 v12 v13 : Value) :
  (wr14 w b v0 v1 v2 v3 v4 v5 v6 v7 v8 v9 v10 v11 v12 v13).heap[b]? = some (.cells #[v0, v1, v2, v3, v4, v5, v6, v7, v8, v9, v10, v11, v12, v13] T f) := by
 unfold wr14
 simp [World.setCell, Array.getElem?_modify, h]
theorem wr14_touch (w : World) (b : Nat) (v0 v1 v2 v3 v4 v5 v6 v7 v8 v9 v10 v11 v12 v13 : Value) : Touch (fun k => k = b) w (wr14 w b v0 v1 v2 v3 v4 v5 v6 v7 v8 v9 v10 v11 v12 v13) := by
 have h : ∀ {u : World} (i : Nat) (v : Value), Touch (fun k => k = b) w u → Touch (fun k => k = b) w (u.setCell ⟨b, i, none⟩ v) := fun i v hu => hu.setCell (p := ⟨b, i, none⟩) (fun _ => rfl) v
 exact h _ _ (h _ _ (h _ _ (h _ _ (h _ _ (h _ _ (h _ _ (h _ _ (h _ _ (h _ _ (h _ _ (h _ _ (h _ _ (h _ _ (Touch.refl _ _))))))))))))))
structure Vg {α : Type} (K : Kd α) (T : TypeId) (z : Obj) (w : World) (vb : Nat) (W : World) (c : Cx) (j d : Nat) (cs : List Value) (q : α) : Prop where
 src : Src W c j d
 touch : Touch (onlyB c) w W
 res : W.heap[w.heap.size]? = some z
 blk : W.heap[vb]? = some (.cells cs.toArray T (0, 0))
 q : K.C W (fun b => w.heap.size < b ∧ b ≠ vb) cs q
 vb : w.heap.size < vb
section
variable {α : Type} {K : Kd α} {T : TypeId} {z : Obj} {w W W' : World} {vb : Nat} {c : Cx} {i j j' d : Nat} {cs cs' : List Value} {q q' : α}
theorem Vg.step (h : Vg K T z w vb W c j d cs q) (h0 : c.sb < w.heap.size) {j' : Nat} (hT : Touch (onlyB c) W W') (hS : Src W' c j' d) : Vg K T z w vb W' c j' d cs q :=
 ⟨hS, h.touch.trans hT, hT.old h.res (fun e => by have h1 : w.heap.size = c.sb := e; omega), hT.old h.blk (fun e => by have h1 : vb = c.sb := e; have := h.vb; omega),
  K.keep (fun b hb ha => ⟨hT.block b hb (fun e => by have h1 : b = c.sb := e; omega), ha⟩) _ _ h.q, h.vb⟩
theorem Vg.set (h : Vg K T z w vb W c j d cs q) (h0 : Src w c i d) (k : Nat) (v : Value) (hq : K.C W (fun b => w.heap.size < b ∧ b ≠ vb) (cs.set k v) q') : Vg K T z w vb (W.setCell ⟨vb, k, none⟩ v) c j d (cs.set k v) q' := by
 have h1 := blk_lt h0.blk
 have h3 := h.vb
 have hl : Touch (fun b => b = vb) W (W.setCell ⟨vb, k, none⟩ v) := (Touch.refl (fun b => b = vb) W).setCell (p := ⟨vb, k, none⟩) (fun _ => rfl) v
 refine ⟨h.src.touch hl (by omega) (fun b hb e => by have := toks_lt h0 b hb; omega), h.touch.trans' hl (fun b hb e => by omega), hl.old h.res (by omega), ?_, K.keep (fun b hb ha => ⟨hl.block b hb (fun e => by omega), ha⟩) _ _ hq, h3⟩
 have h2 := blk_set h.blk k v
 simpa using h2
theorem Vg.put (h : Vg K T z w vb W c j d cs q) (h0 : Src w c i d) (k : Nat) (v : Value) (o : Obj)
  (hq : K.C ((W.setCell ⟨vb, k, none⟩ v).alloc o) (fun b => w.heap.size < b ∧ b ≠ vb) (cs.set k v) q') : Vg K T z w vb ((W.setCell ⟨vb, k, none⟩ v).alloc o) c j d (cs.set k v) q' := by
 have h1 := blk_lt h0.blk
 have h3 := h.vb
 have hl : Touch (fun b => b = vb) W ((W.setCell ⟨vb, k, none⟩ v).alloc o) := ((Touch.refl (fun b => b = vb) W).setCell (p := ⟨vb, k, none⟩) (fun _ => rfl) v).alloc o
 refine ⟨h.src.touch hl (by omega) (fun b hb e => by have := toks_lt h0 b hb; omega), h.touch.trans' hl (fun b hb e => by omega), hl.old h.res (by omega), ?_, hq, h3⟩
 have h2 := blk_alloc (o' := o) (blk_set h.blk k v)
 simpa using h2
theorem Vg.done {V : World → Nat → Value → α → Prop} {r : Res α} (h : Vg K T z w vb W c j d cs q) (h0 : Src w c i d)
  (hl : Touch (fun k => k = w.heap.size) W W') (hV : ∀ {u : World} {lo : Nat}, K.C u (fun b => lo ≤ b) cs q → V u lo (.agg cs.toArray) q) (hr : r = .ok (q, c.ts j)) : RdPost V w c d r (.returned (.agg cs.toArray)) W' :=
 fin_late h0 h.touch h.src (hl.mono (fun b _ e => by omega)) (hV (K.keep (fun b hb ha => ⟨hl.block b hb (fun e => by omega), by omega⟩) _ _ h.q)) hr
end
theorem vput_old {w W : World} {vb : Nat} (k : Nat) (v : Value) (o : Obj) : ∀ b, b < W.heap.size → (w.heap.size < b ∧ b ≠ vb) → ((W.setCell ⟨vb, k, none⟩ v).alloc o).heap[b]? = W.heap[b]? ∧ (w.heap.size < b ∧ b ≠ vb) := by
 intro b hb hl
 have ht : Touch (fun b => b = vb) W ((W.setCell ⟨vb, k, none⟩ v).alloc o) := ((Touch.refl (fun b => b = vb) W).setCell (p := ⟨vb, k, none⟩) (fun _ => rfl) v).alloc o
 exact ⟨ht.block b hb (by omega), hl⟩
def restS (E : Nat) (oq : List Str × List Qu) (r : List Tok) : Res St :=
 bnd (asOfP E r) fun a r => bnd (duringP E r) fun d r => fin (fun o => { St.none with kind := [83, 69, 76, 69, 67, 84], query := oq.2, ops := oq.1, asOf := a, during := d, order := o }) (orderP E r)
theorem selects_eq (E : Nat) (ts : List Tok) : selects E ts = bnd (query E ts) fun q r => bnd (moreL E r.length [] [q] r) (restS E) := rfl
theorem isR4_word {ts : List Tok} (h : SignOk ts) {L : List Str} (hL : ∀ s ∈ L, s ∉ signs14) (hn : L ≠ []) : isR 4 L ts = false := by
 cases ts with
 | nil => rfl
 | cons t r =>
   simp only [isR, isK, txt]
   by_cases h4 : t.1 = 4
   · have h1 := h t (by simp) h4
     have he : L.isEmpty = false := by cases L with
      | nil => exact absurd rfl hn
      | cons a l => rfl
     rw [he]
     simp only [Bool.false_or, Bool.and_eq_false_iff]
     right
     rw [List.any_eq_false]
     intro s hs
     rw [beq_iff_eq]
     rintro rfl
     exact hL _ hs h1
   · have : (t.1 == 4) = false := by simpa using h4
     rw [this]; rfl
theorem any_word {ts : List Tok} (h : SignOk ts) {L : List Str} (hL : ∀ s ∈ L, s ∉ signs14) (hn : L ≠ []) : anyT L ts = isR 1 L ts := by
 rw [isR_any L hn, isR4_word h hL hn, Bool.or_false]
structure SeW (w : World) (vb : Nat) (c : Cx) (wr : World) (j : Nat) (ops : List Str) (go : Option Nat) (capo : Nat) (qs : List Qu) (gq : Option Nat) (capq : Nat) (flq : List Value) : Prop where
 src : Src wr c j 0
 touch : Touch (onlyB c) w wr
 res : wr.heap[w.heap.size]? = some zSt
 blk : wr.heap[vb]? = some (.cells #[str [83, 69, 76, 69, 67, 84], str [], .slice none 0 0, .slice none 0 0, .slice none 0 0, .slice none 0 0, .int .i64 0, .int .i64 0, .slice none 0 0, slv gq qs.length capq, slv go ops.length capo, .slice none 0 0, .slice none 0 0, .slice none 0 0] 33 (0, 0))
 hvb : w.heap.size < vb
 osl : Sl wr 9 1 go ops.length capo (ops.map str)
 oown : ∀ b, go = some b → w.heap.size < b ∧ b ≠ vb
 qsl : Sl wr 49 7 gq qs.length capq flq
 qown : ∀ b, gq = some b → w.heap.size < b ∧ b ≠ vb
 qls : LsC QuK wr (fun b => (w.heap.size < b ∧ b ≠ vb) ∧ go ≠ some b ∧ gq ≠ some b) flq qs
structure SeInv (w : World) (vb : Nat) (c : Cx) (R : Res St) (gk : Nat) (wr : World) (j f : Nat) (ops : List Str) (go : Option Nat) (capo : Nat) (qs : List Qu) (gq : Option Nat) (capq : Nat) (flq : List Value) : Prop where
 k : gk = c.all.length - j
 w : SeW w vb c wr j ops go capo qs gq capq flq
 few : c.all.length - j ≤ f
 len : qs.length + (c.all.length - j) ≤ c.all.length + 1
 olen : ops.length ≤ qs.length
 so : R = bnd (moreL c.E f ops qs (c.ts j)) (restS c.E)
theorem sl_apart {wr : World} {ops : List Str} {go : Option Nat} {capo : Nat} {qs : List Qu} {gq : Option Nat} {capq : Nat} {flq : List Value}
  (h1 : Sl wr 9 1 go ops.length capo (ops.map str)) (h2 : Sl wr 49 7 gq qs.length capq flq) (b : Nat) (hb : go = some b) : gq ≠ some b := by
 intro hq
 subst hb hq
 obtain ⟨_, c1, hc1, _⟩ := h1
 obtain ⟨_, c2, hc2, _⟩ := h2
 rw [hc1] at hc2
 simp at hc2
theorem strs_flat (l : List Str) (s : Str) : (l ++ [s]).map str = l.map str ++ [str s] := by simp
theorem strs_ls {w : World} {A : Nat → Prop} : ∀ l : List Str, LsC StrK w A (l.map str) l
 | [] => rfl
 | a :: l => ⟨[str a], l.map str, rfl, rfl, strs_ls l⟩
section
variable {w wr w2 w6 : World} {vb : Nat} {c : Cx} {i j : Nat} {ops : List Str} {go : Option Nat} {capo : Nat} {qs : List Qu} {gq : Option Nat} {capq : Nat} {flq : List Value}
theorem SeW.st (h : SeW w vb c wr j ops go capo qs gq capq flq) : Vg StK 33 zSt w vb wr c j 0 (stCells { St.none with kind := [83, 69, 76, 69, 67, 84], query := qs, ops := ops } { StV.nil with qu := slv gq qs.length capq, op := slv go ops.length capo }) { St.none with kind := [83, 69, 76, 69, 67, 84], query := qs, ops := ops } := by
 refine ⟨h.src, h.touch, h.res, h.blk, ⟨_, rfl, ?_⟩, h.hvb⟩
 have h0 := StOk.none wr (fun b => w.heap.size < b ∧ b ≠ vb) [83, 69, 76, 69, 67, 84] [] (0, 0)
 refine ⟨h0.col, h0.key, h0.val, h0.set, h0.cond, ?_, ?_, h0.asof, h0.dur, h0.ord⟩
 · exact ⟨gq, capq, flq, rfl, h.qsl, h.qown, LsC.keep QuK (fun b _ hb => ⟨rfl, hb.1, hb.2.2⟩) _ _ h.qls⟩
 · exact ⟨go, capo, ops.map str, rfl, h.osl, h.oown, strs_ls ops⟩
theorem SeW.op (h : SeW w vb c wr j ops go capo qs gq capq flq) (h0 : Src w c i 0) (hE : Ext wr w2) {s : Str} (hj : j < c.all.length) {go' capo' : Nat} (hS6 : Sl w6 9 1 (some go') (ops.length + 1) capo' (ops.map str ++ [str s]))
   (hT6 : Touch (fun k => go = some k) w2 w6) (hat : go = some go' ∨ go' = w2.heap.size) :
   SeW w vb c ((w6.setCell ⟨vb, 10, none⟩ (.slice (some ⟨go', 0, none⟩) (ops.length + 1) capo')).setCell ⟨c.sb, 1, none⟩ (.int .i64 ((j : Int) + 1))) (j + 1) (ops ++ [s]) (some go') capo' qs gq capq flq := by
 have h1 := blk_lt h0.blk
 have h2 := h.hvb
 have h3 := blk_lt h.blk
 have h4 := hE.size
 have hgo : w.heap.size < go' ∧ go' ≠ vb := by
   rcases hat with hat | hat
   · exact h.oown _ hat
   · omega
 have hgs : ∀ b, go = some b → b ≠ c.sb := fun b hb => by have := (h.oown b hb).1; omega
 have hqs : ∀ b, gq = some b → b ≠ c.sb ∧ b ≠ vb := fun b hb => by have := h.qown b hb; omega
 have hT : Touch (fun b => b = c.sb ∨ b = vb ∨ go = some b) wr ((w6.setCell ⟨vb, 10, none⟩ (.slice (some ⟨go', 0, none⟩) (ops.length + 1) capo')).setCell ⟨c.sb, 1, none⟩ (.int .i64 ((j : Int) + 1))) :=
   ((((hE.touch _).trans (hT6.mono (fun b _ e => .inr (.inr e)))).setCell (p := ⟨vb, 10, none⟩) (fun _ => .inr (.inl rfl)) _).setCell (p := ⟨c.sb, 1, none⟩) (fun _ => .inl rfl) _)
 have hvT : Touch (fun b => b = vb) w6 (w6.setCell ⟨vb, 10, none⟩ (.slice (some ⟨go', 0, none⟩) (ops.length + 1) capo')) := (Touch.refl (fun b => b = vb) w6).setCell (p := ⟨vb, 10, none⟩) (fun _ => rfl) _
 have hs6 : Src w6 c j 0 := (h.src.ext hE).touch hT6 (fun e => hgs _ e rfl) (fun b hb e => by have := toks_lt h0 b hb; have := (h.oown b e).1; omega)
 have hs7 := (hs6.touch hvT (by omega) (fun b hb e => by have := toks_lt h0 b hb; omega)).move (j := j + 1) (by omega)
 rw [Int.natCast_add] at hs7
 refine ⟨hs7, h.touch.trans' hT (fun b hb e => ?_), hT.old h.res ?_, ?_, h2, ?_, fun b hb => by cases hb; exact hgo, ?_, h.qown, LsC.keep QuK (fun b hb ha => ⟨hT.block b hb ?_, ha.1, fun e => ?_, ha.2.2⟩) _ _ h.qls⟩
 · rcases e with e | e | e
   · exact e
   · omega
   · have := (h.oown b e).1; omega
 · rintro (e | e | e)
   · omega
   · omega
   · have := (h.oown _ e).1; omega
 · have k1 := hT6.old (Ext.block hE h.blk) (fun e => (h.oown _ e).2 rfl)
   have k2 := blk_set k1 10 (.slice (some ⟨go', 0, none⟩) (ops.length + 1) capo')
   have k3 := blk_set_ne (p := ⟨c.sb, 1, none⟩) k2 (by simp; omega) (.int .i64 ((j : Int) + 1))
   rw [List.length_append]
   exact k3
 · rw [List.length_append, strs_flat]
   exact hS6.congr (fun b hb => by cases hb; rw [Below.heap_setCell _ _ _ _ (by simp; omega), Below.heap_setCell _ _ _ _ (by simp; omega)])
 · exact h.qsl.touch hT (fun b hb e => by
    rcases e with e | e | e
    · exact (hqs b hb).1 e
    · exact (hqs b hb).2 e
    · exact sl_apart h.osl h.qsl b e hb)
 · rintro (e | e | e)
   · have := ha.1.1; omega
   · exact ha.1.2 e
   · exact ha.2.1 e
 · cases e
   rcases hat with hat | hat
   · exact ha.2.1 hat
   · omega
theorem SeW.qu {w7 w9 : World} {j' : Nat} {cs : List Value} {q : Qu} (h : SeW w vb c wr j ops go capo qs gq capq flq) (h0 : Src w c i 0) (hT7 : Touch (onlyB c) wr w7) (hS7 : Src w7 c j' 0) (hq : QuK.C w7 (fun b => wr.heap.size ≤ b) cs q) {o : Obj} {gq' capq' : Nat}
   (hS9 : Sl w9 49 7 (some gq') (qs.length + 1) capq' (flq ++ cs)) (hT9 : Touch (fun k => gq = some k) (w7.alloc o) w9) (hat : gq = some gq' ∨ gq' = (w7.alloc o).heap.size) :
   SeW w vb c (w9.setCell ⟨vb, 9, none⟩ (.slice (some ⟨gq', 0, none⟩) (qs.length + 1) capq')) j' ops go capo (qs ++ [q]) (some gq') capq' (flq ++ cs) := by
 have h1 := blk_lt h0.blk
 have h2 := h.hvb
 have h3 := blk_lt h.blk
 have h4 := hT7.size
 have hz : (w7.alloc o).heap.size = w7.heap.size + 1 := by simp
 have hgq : w.heap.size < gq' ∧ gq' ≠ vb := by
   rcases hat with hat | hat
   · exact h.qown _ hat
   · omega
 have hT : Touch (fun b => b = c.sb ∨ b = vb ∨ gq = some b) wr (w9.setCell ⟨vb, 9, none⟩ (.slice (some ⟨gq', 0, none⟩) (qs.length + 1) capq')) :=
   (((hT7.mono (fun b _ e => .inl e)).alloc o).trans (hT9.mono (fun b _ e => .inr (.inr e)))).setCell (p := ⟨vb, 9, none⟩) (fun _ => .inr (.inl rfl)) _
 have hT2 : Touch (fun b => b = vb ∨ gq = some b) w7 (w9.setCell ⟨vb, 9, none⟩ (.slice (some ⟨gq', 0, none⟩) (qs.length + 1) capq')) :=
   (((Touch.refl _ w7).alloc o).trans (hT9.mono (fun b _ e => .inr e))).setCell (p := ⟨vb, 9, none⟩) (fun _ => .inl rfl) _
 have hold : ∀ b, b < wr.heap.size → ((w.heap.size < b ∧ b ≠ vb) ∧ go ≠ some b ∧ gq ≠ some b) → (w9.setCell ⟨vb, 9, none⟩ (.slice (some ⟨gq', 0, none⟩) (qs.length + 1) capq')).heap[b]? = wr.heap[b]? ∧ ((w.heap.size < b ∧ b ≠ vb) ∧ go ≠ some b ∧ some gq' ≠ some b) := by
   intro b hb ha
   refine ⟨hT.block b hb ?_, ha.1, ha.2.1, fun e => ?_⟩
   · rintro (e | e | e)
     · have := ha.1.1; omega
     · exact ha.1.2 e
     · exact ha.2.2 e
   · cases e
     rcases hat with hat | hat
     · exact ha.2.2 hat
     · omega
 have hnew : ∀ b, b < w7.heap.size → wr.heap.size ≤ b → (w9.setCell ⟨vb, 9, none⟩ (.slice (some ⟨gq', 0, none⟩) (qs.length + 1) capq')).heap[b]? = w7.heap[b]? ∧ ((w.heap.size < b ∧ b ≠ vb) ∧ go ≠ some b ∧ some gq' ≠ some b) := by
   intro b hb ha
   have hg1 : gq ≠ some b := fun e => by have k := h.qsl; rw [e] at k; have := k.block_lt; omega
   have hg2 : go ≠ some b := fun e => by have k := h.osl; rw [e] at k; have := k.block_lt; omega
   refine ⟨hT2.block b hb ?_, ⟨by omega, by omega⟩, hg2, fun e => ?_⟩
   · rintro (e | e)
     · omega
     · exact hg1 e
   · cases e
     rcases hat with hat | hat
     · exact hg1 hat
     · omega
 refine ⟨hS7.touch hT2 ?_ (fun b hb e => ?_), h.touch.trans' hT (fun b hb e => ?_), hT.old h.res ?_, ?_, h2, ?_, h.oown, ?_, fun b hb => by cases hb; exact hgq, LsC.append QuK (LsC.keep QuK hold _ _ h.qls) (LsC.one QuK (QuK.keep hnew _ _ hq))⟩
 · rintro (e | e)
   · omega
   · have := (h.qown _ e).1; omega
 · have := toks_lt h0 b hb
   rcases e with e | e
   · omega
   · have := (h.qown _ e).1; omega
 · rcases e with e | e | e
   · exact e
   · omega
   · have := (h.qown b e).1; omega
 · rintro (e | e | e)
   · omega
   · omega
   · have := (h.qown _ e).1; omega
 · have k0 := hT7.old h.blk (fun e => by have k : vb = c.sb := e; omega)
   have k1 := hT9.old (blk_alloc (o' := o) k0) (fun e => (h.qown _ e).2 rfl)
   have k2 := blk_set k1 9 (.slice (some ⟨gq', 0, none⟩) (qs.length + 1) capq')
   rw [List.length_append]
   exact k2
 · exact h.osl.touch hT (fun b hb e => by
     rcases e with e | e | e
     · have := (h.oown b hb).1; omega
     · exact (h.oown b hb).2 e
     · exact sl_apart h.osl h.qsl b hb e)
 · rw [List.length_append]
   exact hS9.congr (fun b hb => by cases hb; rw [Below.heap_setCell _ _ _ _ (by simp; omega)])
end
end Go.Proofs.YtkhnpmeohjafiaaGreatDoor
