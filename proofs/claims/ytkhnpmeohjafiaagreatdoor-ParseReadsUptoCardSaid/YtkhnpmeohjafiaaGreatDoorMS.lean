/- Lemmas. -/
import Derived.Test.YtkhnpmeohjafiaaGreatDoorMR
namespace Go.Proofs.YtkhnpmeohjafiaaGreatDoor
open Go.RowKit
theorem mem_sum {α : Type} {m : α → Nat} : ∀ {l : List α} {x : α}, x ∈ l → m x ≤ sumL m l
 | y :: l, x, h => by
   rw [sumL_cons]
   rcases List.mem_cons.1 h with rfl | h
   · omega
   · have := mem_sum (m := m) h; omega
theorem joinL_len {α : Type} {m : α → Nat} {f : α → Str} : ∀ {l : List α}, (∀ x ∈ l, (f x).length + 2 ≤ m x) → (joinL [44, 32] (l.map f)).length ≤ sumL m l
 | [], _ => by simp [joinL]
 | [a], h => by
   have := h a (by simp)
   rw [sumL_cons]; simp [joinL]; omega
 | a :: b :: l, h => by
   have h1 := h a (by simp)
   have h2 := joinL_len (l := b :: l) fun x hx => h x (List.mem_cons_of_mem _ hx)
   rw [sumL_cons]
   rw [show joinL [44, 32] ((a :: b :: l).map f) = f a ++ [44, 32] ++ joinL [44, 32] ((b :: l).map f) from rfl]
   simp only [List.length_append, List.length_cons, List.length_nil]
   omega
theorem sum_len {α : Type} {m : α → Nat} (hm : ∀ x, 1 ≤ m x) : ∀ l : List α, l.length ≤ sumL m l
 | [] => by simp
 | x :: l => by
   have := sum_len hm l
   have := hm x
   rw [sumL_cons]; simp; omega
theorem te_of {e : Ex} (h : WfE e) (hs : szX e ≤ 100000000) : Te e := ⟨Text_ok h (by unfold szX at hs; omega), by have := textE_len h; unfold szX at hs; omega⟩
theorem ls_str {w : World} {A : Nat → Prop} : ∀ {fl : List Value} {xs : List Str}, LsC StrK w A fl xs → fl = xs.map str
 | fl, [], h => h
 | fl, x :: xs, h => by
   obtain ⟨c, r, rfl, hc, hr⟩ := h
   rw [show c = [str x] from hc, ls_str hr]; rfl
theorem join_rd (l : List Str) (v : Value) (w : World) (h : Rd StrK 9 w v l) (hn : sumL szN l ≤ 100000000) :
  Calls Tryz.prog 31 #[v, .string ⟨#[44, 32]⟩] w (fun r w' => r = .returned (str (joinL [44, 32] l)) ∧ Ext w w') := by
 obtain ⟨g, cap, fl, rfl, hs, hl⟩ := h
 rw [ls_str hl] at hs
 have h1 := sum_len (m := szN) (fun x => by unfold szN; omega) l
 have h2 := joinL_len (m := szN) (f := id) (l := l) (fun x _ => by unfold szN; simp)
 rw [List.map_id] at h2
 exact join_ok l g cap w hs (by omega) (by omega)
theorem ent_text : Ent 13 := enters_of Tryz.func13 (by kernel_rfl) rfl
theorem texts_ok (xs : List Ex) (hx : ∀ e ∈ xs, WfE e) (hs : sumL szX xs ≤ 100000000) (v : Value) (w : World) (hg : Gl w) (h : Rd ExK 45 w v xs) :
  Calls Tryz.prog 32 #[v, .func (.func 13) #[] #[]] w (fun r w' => r = .returned (str (joinL [44, 32] (xs.map textE))) ∧ Ext w w') := by
 have h1 := sum_len (m := szX) (fun x => by unfold szX; omega) xs
 have h2 := joinL_len (m := szX) (f := textE) (l := xs) (fun x hm => by have := textE_len (hx x hm); unfold szX; omega)
 refine joined_ex xs textE v w hg h (by omega) (by omega) _ ent_text fun x hm cs u hu hc => ?_
 have := mem_sum (m := szX) hm
 exact (te_of (hx x hm) (by omega)).tx cs u hu hc
def pre (c : Bool) : Str := [83, 69, 76, 69, 67, 84, 32] ++ (if c then [67, 79, 65, 76, 69, 83, 67, 69, 32] else [])
theorem pre_len (c : Bool) : (pre c).length ≤ 16 := by cases c <;> simp [pre]
theorem qtxt (q : Qu) : queryT q = pre q.coalesce ++ askT q ++ [32, 70, 82, 79, 77, 32] ++ joinL [44, 32] q.tables ++ whereT q.cond := rfl
theorem whereT_len {l : List Ex} (h : CondOk l) : (whereT l).length ≤ sumL szX l + 7 := by
 obtain ⟨h1, h2⟩ := h
 cases l with
 | nil => simp [whereT]
 | cons e l =>
   have := textE_len (h2 e (by simp)).1
   rw [sumL_cons]
   simp [whereT, szX]; omega
theorem tabs_len {l : List Str} : (joinL [44, 32] l).length ≤ sumL szN l := by
 have := joinL_len (m := szN) (f := id) (l := l) (fun x _ => by unfold szN; simp)
 rwa [List.map_id] at this
set_option maxRecDepth 100000 in
set_option maxHeartbeats 16000000 in
theorem query_items_f (t : List Str) (wh : List Ex) (l : List Ex) (cs : List Value) (w : World) (hg : Gl w) (ht : TabOk t) (hc : CondOk wh) (hl : ∀ e ∈ l, WfE e) (hsz : szQ ⟨false, false, false, [], l, t, wh⟩ ≤ 100000000) (h : QuC w (fun _ => True) cs ⟨false, false, false, [], l, t, wh⟩) :
  Calls Tryz.prog 82 #[.agg cs.toArray] w (fun r w' => r = .returned (str (queryT ⟨false, false, false, [], l, t, wh⟩)) ∧ Ext w w') := by
 have hq := hsz
 simp only [szQ, szQ0, sumL_nil, List.length_nil] at hq
 obtain ⟨vi, vt, vc, rfl, a, b, d⟩ := h
 dsimp only at a b d ⊢
 have A1 := Lib.hid a.rd
 have B1 := Lib.hid b.rd
 have D1 := Lib.hid d.rd
 have HG := Lib.hid hg
 obtain ⟨gi, ci, ei⟩ := a.rd.slice
 obtain ⟨gt, ct, et⟩ := b.rd.slice
 obtain ⟨gc, cc, ec⟩ := d.rd.slice
 subst ei et ec
 clear a b d hg
 have htl := tabs_len (l := t)
 have hwl := whereT_len hc
 have hpl := pre_len false
 have hal : ((joinL [44, 32] (l.map textE)) : Str).length ≤ 100000000 := (by have h := joinL_len (m := szX) (f := textE) (l := l) (fun x hm => by have := textE_len (hl x hm); unfold szX; omega); omega)
 have HC := Lib.hid hc
 obtain ⟨s0, h0⟩ : ∃ s : Str, s = pre false := ⟨_, rfl⟩
 obtain ⟨s1, h1⟩ : ∃ s : Str, s = s0 ++ (joinL [44, 32] (l.map textE)) := ⟨_, rfl⟩
 obtain ⟨s2, h2⟩ : ∃ s : Str, s = s1 ++ [32, 70, 82, 79, 77, 32] := ⟨_, rfl⟩
 obtain ⟨s3, h3⟩ : ∃ s : Str, s = s2 ++ joinL [44, 32] t := ⟨_, rfl⟩
 obtain ⟨s4, h4⟩ : ∃ s : Str, s = s3 ++ whereT wh := ⟨_, rfl⟩
 have hl1 : s1.length ≤ 200000000 := by rw [h1, h0, List.length_append]; omega
 have hl2 : s2.length ≤ 200000006 := by rw [h2, List.length_append]; simp; omega
 have hl3 : s3.length ≤ 400000000 := by rw [h3, List.length_append]; omega
 have hc2 : ∀ u : World, (Op.stringOp .add (bs s1) ⟨#[32, 70, 82, 79, 77, 32]⟩).run Tryz.prog u = .ok (str s2) u := fun u => by rw [h2]; exact cat_ok _ [32, 70, 82, 79, 77, 32] u (by simp; omega)
 have hc3 : ∀ u : World, (Op.stringOp .add (bs s2) (bs (joinL [44, 32] t))).run Tryz.prog u = .ok (str s3) u := fun u => by rw [h3]; exact cat_ok _ _ u (by omega)
 have hc4 : ∀ u : World, (Op.stringOp .add (bs s3) (bs (whereT wh))).run Tryz.prog u = .ok (str s4) u := fun u => by rw [h4]; exact cat_ok _ _ u (by omega)
 have HR : Hid (queryT ⟨false, false, false, [], l, t, wh⟩ = s4) := Lib.hid (by rw [qtxt, show askT ⟨false, false, false, [], l, t, wh⟩ = (joinL [44, 32] (l.map textE)) from rfl, h4, h3, h2, h1, h0])
 have hcp : ∀ u : World, (Op.stringOp .add ⟨#[83, 69, 76, 69, 67, 84, 32]⟩ ⟨#[67, 79, 65, 76, 69, 83, 67, 69, 32]⟩).run Tryz.prog u = .ok (str (pre true)) u := fun u => cat_ok [83, 69, 76, 69, 67, 84, 32] [67, 79, 65, 76, 69, 83, 67, 69, 32] u (by simp)
 have hc1 : ∀ u : World, (Op.stringOp .add ⟨#[83, 69, 76, 69, 67, 84, 32]⟩ (bs (joinL [44, 32] (l.map textE)))).run Tryz.prog u = .ok (str s1) u := fun u => (by rw [h1, h0]; exact cat_ok (pre false) _ u (by omega)); have HL := Lib.hid hl; have HSL : Hid (sumL szX l ≤ 100000000) := Lib.hid (by omega); clear hl
 have HT := Lib.hid ht
 have HS := Lib.hid hsz
 have HB : Hid ((w.alloc (.cells #[.bool false, .bool false, .bool false, str [], slv gi (l).length ci, slv gt t.length ct, slv gc wh.length cc] 49)).heap[w.heap.size]? = some (.cells #[.bool false, .bool false, .bool false, str [], slv gi (l).length ci, slv gt t.length ct, slv gc wh.length cc] 49 (0, 0))) := Lib.hid (blk_new _ _)
 have HE : Hid (Ext w (w.alloc (.cells #[.bool false, .bool false, .bool false, str [], slv gi (l).length ci, slv gt t.length ct, slv gc wh.length cc] 49))) := Lib.hid ((Ext.refl w).alloc _)
 have hbs := bs_toList
 clear htl hwl hpl hal hl1 hl2 hl3 h1 h2 h3 h4 hc ht hsz
 go_enter Tryz.func82, Tryz.ntmps82
 go_wp2_with fail
 refine (texts_ok l HL.out HSL.out _ _ (HG.out.ext HE.out) (A1.out.ext HE.out)).mono ?_
 rintro r w1 ⟨rfl, hE1⟩
 have HE1 := Lib.hid (HE.out.trans hE1)
 obtain ⟨a0, a1, a2, a3, a4, a5, a6⟩ := blk7 (Ext.block hE1 HB.out)
 clear hE1
 go_wp2_with fail
 refine region_calm [.p 0, .p 1, .p 2, .l 3, .p 6, .l 7, .h 4 true, .p 5, .h 8 false, .p 9, .p 10] f_mixed (by kernel_rfl) (by kernel_rfl) ?_
 repeat ((first | refine plan_p rfl (fun K hK => ?_) | refine plan_l rfl (fun K hK => ?_)); go_simp; refine hK _ ?_; clear hK K)
 refine plan_ct rfl rfl (fun K _ hK => ?_)
 go_wp2_with fail
 refine (join_rd t _ _ (B1.out.ext (HE1.out.trans (Ext.refl _).drew)) (by have := HS.out; simp only [szQ, szQ0] at this; omega)).mono ?_
 rintro r w2 ⟨rfl, hE2⟩
 have HX2 := Lib.hid hE2
 have HE2 := Lib.hid (HE1.out.trans ((Ext.refl _).drew.trans hE2))
 clear hE2
 go_wp2_with fail
 refine hK _ _ (HX2.out) ?_; clear hK K
 repeat ((first | refine plan_p rfl (fun K hK => ?_) | refine plan_l rfl (fun K hK => ?_)); go_simp; refine hK _ ?_; clear hK K)
 refine plan_c rfl rfl (fun K _ hK => ?_)
 go_wp2_with fail
 refine (whereT_ok wh HC.out.1 (fun e he => te_of (HC.out.2 e he).1 (by have := HS.out; have := mem_sum (m := szX) he; simp only [szQ, szQ0] at *; omega)) _ _ (HG.out.ext HE2.out) (D1.out.ext HE2.out)).mono ?_
 rintro r w3 ⟨rfl, hE3⟩
 have HE3 := Lib.hid (HE2.out.trans hE3)
 clear hE3
 go_wp2_with fail
 repeat ((first | refine plan_p rfl (fun K hK => ?_) | refine plan_l rfl (fun K hK => ?_)); go_simp; refine hK _ ?_; clear hK K)
 refine plan_done ?_
 go_wp2
 go_ret
 rw [HR.out]
 exact ⟨rfl, HE3.out⟩
theorem queryT_len {q : Qu} (h : GQ q) : (queryT q).length ≤ szQ q := by
 have h1 := pre_len q.coalesce
 have h2 := tabs_len (l := q.tables)
 have h3 := whereT_len h.cond
 have h4 : (askT q).length ≤ q.sum.length + sumL szX q.items + 5 := by
  unfold askT
  cases h.ask with
  | all c t w => simp
  | count c t w => simp
  | sum c s t w hs => simp; split <;> simp [joinL] <;> omega
  | items c l t w hn hl =>
    have := joinL_len (m := szX) (f := textE) (l := l) (fun x hm => by
     obtain ⟨t, o, k1, k2, rfl⟩ := hl x hm
     have := textE_len (.name t o k1 k2); unfold szX; omega)
    simp; omega
 rw [qtxt]
 simp only [List.length_append, List.length_cons, List.length_nil, szQ, szQ0]
 omega
theorem moreT_len : ∀ (o : List Str) (qs : List Qu), (∀ q ∈ qs, GQ q) → (moreT o qs).length ≤ sumL szN o + sumL szQ qs
 | o, [], _ => by cases o <;> simp [moreT]
 | [], q :: qs, h => by
   have h1 := queryT_len (h q (by simp))
   have h2 := moreT_len [] qs fun q hq => h q (List.mem_cons_of_mem _ hq)
   rw [sumL_cons, moreT, List.length_append]; omega
 | o :: os, q :: qs, h => by
   have h1 := queryT_len (h q (by simp))
   have h2 := moreT_len os qs fun q hq => h q (List.mem_cons_of_mem _ hq)
   rw [sumL_cons, sumL_cons, moreT]
   simp only [List.length_append, List.length_cons, List.length_nil, szN]
   omega
theorem flat_len {α : Type} {f : α → Str} : ∀ {l : List α}, (∀ x ∈ l, (f x).length ≤ 50) → ((l.map f).flatten).length ≤ sumL (fun _ => 50) l
 | [], _ => by simp [sumL]
 | x :: l, h => by
   have h1 := h x (by simp)
   have h2 := flat_len (l := l) fun y hy => h y (List.mem_cons_of_mem _ hy)
   rw [sumL_cons, List.map_cons, List.flatten_cons, List.length_append]; omega
theorem dec18 {n : Nat} (h : n < 1000000000000000000) : (dec n).length ≤ 18 := dec_len 17 n (by simpa using h)
theorem span_len {p : Nat × Nat} (h : PerOk p) : (spanT p).length ≤ 40 := by
 have hF : FOREVER = 1099511627776 := rfl
 have h1 := dec18 (n := p.1) (by have := h.1; have := h.2; omega)
 have h2 := dec18 (n := p.2) (by have := h.2; omega)
 unfold spanT toT
 split <;> simp <;> omega
def selQ (q : Qu) (qs : List Qu) (o : List Str) (j : Nat) : Str := if j = 0 then queryT q ++ moreT o qs else moreT (o.drop (j - 1)) (qs.drop (j - 1))
def asT (n : Nat) : Str := [32, 65, 83, 32, 79, 70, 32] ++ dec n
def duT (p : Nat × Nat) : Str := [32, 68, 85, 82, 73, 78, 71, 32] ++ spanT p
def orT (r : List Str) : Str := if r = [] then [] else [32, 79, 82, 68, 69, 82, 32, 66, 89, 32] ++ joinL [44, 32] r
def flatD {α : Type} (f : α → Str) (l : List α) (j : Nat) : Str := ((l.drop j).map f).flatten
def selT (q : Qu) (qs : List Qu) (o : List Str) (a : List Nat) (d : List (Nat × Nat)) (r : List Str) : Str := selQ q qs o 0 ++ (flatD asT a 0 ++ (flatD duT d 0 ++ orT r))
theorem drop_at' {α : Type} {l : List α} {q : Nat} {x : α} (h : l[q]? = some x) : l.drop q = x :: l.drop (q + 1) := by
 obtain ⟨h1, rfl⟩ := List.getElem?_eq_some_iff.1 h
 exact List.drop_eq_getElem_cons h1
theorem selQ_step {q : Qu} {qs : List Qu} {o : List Str} {j : Nat} {s : Str} {p : Qu} (hs : o[j]? = some s) (hp : qs[j]? = some p) : selQ q qs o (j + 1) = ([32] ++ s ++ [32] ++ queryT p) ++ selQ q qs o (j + 2) := by
 have h1 := drop_at' hs
 have h2 := drop_at' hp
 unfold selQ
 rw [if_neg (by omega), if_neg (by omega)]
 simp only [Nat.add_sub_cancel, show j + 2 - 1 = j + 1 by omega]
 rw [h1, h2, moreT]
theorem flatD_step {α : Type} {f : α → Str} {l : List α} {j : Nat} {x : α} (h : l[j]? = some x) : flatD f l j = f x ++ flatD f l (j + 1) := by
 unfold flatD
 rw [drop_at' h]; simp
theorem flatD_end {α : Type} {f : α → Str} {l : List α} {j : Nat} (h : l.length ≤ j) : flatD f l j = [] := by
 unfold flatD
 rw [List.drop_eq_nil_of_le h]; rfl
theorem selQ_end {q : Qu} {qs : List Qu} {o : List Str} {j : Nat} (h : j = qs.length + 1) (hl : o.length = qs.length) : selQ q qs o j = [] := by
 unfold selQ
 rw [if_neg (by omega), List.drop_eq_nil_of_le (by omega), List.drop_eq_nil_of_le (by omega)]; rfl
theorem BuilderAtF.low {T e : TypeId} {B b : Nat} {p : Value} {bs : List Value} {w w' : World} (h : Lib.BuilderAtF T e B b p bs w) (hb : ∀ k, B ≤ k → k < w.heap.size → w'.heap[k]? = w.heap[k]?) : Lib.BuilderAtF T e B b p bs w' := by
 obtain ⟨h1, v, h2, h3, h4⟩ := h
 refine ⟨h1, v, (hb b h1 (blk_lt h2)).trans h2, ?_, h4⟩
 obtain ⟨h5, h6⟩ := h3
 refine ⟨h5, ?_⟩
 rcases h6 with h6 | ⟨g, cap, cur, fz, k1, k2, k3, k4⟩
 · exact .inl h6
 · exact .inr ⟨g, cap, cur, fz, k1, k2, (hb g k2 (blk_lt k3)).trans k3, k4⟩
theorem IsBuilderF.low {T e : TypeId} {B b : Nat} {bs : List Value} {w w' : World} (h : Lib.IsBuilderF T e B b bs w) (hb : ∀ k, B ≤ k → k < w.heap.size → w'.heap[k]? = w.heap[k]?) : Lib.IsBuilderF T e B b bs w' :=
 h.imp (fun h => BuilderAtF.low h hb) (fun h => BuilderAtF.low h hb)
structure SelW (w : World) (cs : Array Value) (acc : Str) (W : World) : Prop where
 low : Below (w.heap.size + 1) (w.alloc (.cells cs 33)) W
 bld : Lib.IsBuilderF 134 5 (w.heap.size + 1) (w.heap.size + 1) (Lib.byteCells acc) W
section
variable {w W W' : World} {cs : Array Value} {acc : Str}
theorem SelW.ext (h : SelW w cs acc W) : Ext w W := by
 have h1 : Below w.heap.size w (w.alloc (.cells cs 33)) := (Ext.refl w).alloc _
 exact Below.trans h1 ⟨h.low.os, h.low.tape, h.low.output, h.low.size, fun k hk => h.low.block k (by omega)⟩
theorem SelW.box (h : SelW w cs acc W) : W.heap[w.heap.size]? = some (.cells cs 33 (0, 0)) := by
 rw [h.low.block w.heap.size (by omega)]
 exact blk_new _ _
theorem SelW.size (h : SelW w cs acc W) : w.heap.size + 2 ≤ W.heap.size := by
 have : w.heap.size + 1 < W.heap.size := by
  rcases h.bld with h | h <;> exact h.lt
 omega
theorem SelW.step (h : SelW w cs acc W) (hE : Ext W W') : SelW w cs acc W' := by
 have hs := h.size
 exact ⟨Below.trans h.low ⟨hE.os, hE.tape, hE.output, hE.size, fun k hk => Below.block hE k (by omega)⟩, IsBuilderF.low h.bld fun k _ hk => Below.block hE k hk⟩
theorem SelW.start (w : World) (cs : Array Value) : SelW w cs [] ((w.alloc (.cells cs 33)).alloc (.cells #[.pointer none, .slice none 0 0] 134)) := by
 have h := Lib.fresh_isBuilder 134 5 (w.alloc (.cells cs 33))
 have hs : (w.alloc (.cells cs 33)).heap.size = w.heap.size + 1 := by simp
 rw [hs] at h
 refine ⟨?_, .of h⟩
 rw [← hs]
 exact (Ext.refl (w.alloc (.cells cs 33))).alloc (.cells #[.pointer none, .slice none 0 0] 134)
theorem SelW.write (h : SelW w cs acc W) (s : Str) (hl : (acc ++ s).length ≤ 1000000000) :
  Calls Tryz.prog 80 #[.pointer (some ⟨w.heap.size + 1, 0, none⟩), str s] W (fun r W' => (∃ v, r = .returned v) ∧ SelW w cs (acc ++ s) W' ∧ Lib.OthersKept 5 (some (w.heap.size + 1)) W W') := by
 have hs := h.size
 have hln : (Lib.byteCells acc).length = acc.length := by simp [Lib.byteCells]
 rw [List.length_append] at hl
 refine (Any.Builder_WriteString_k { Tryz.lays158 with } Tryz.Builder_Extra_158 (w.heap.size + 1) (w.heap.size + 1) (Lib.byteCells acc) (bs s) W h.bld (by rw [hln, bs_size]; omega) (by omega)).mono ?_
 rintro r W' ⟨rfl, h1, h2, h3⟩
 refine ⟨⟨_, rfl⟩, ⟨Below.trans h.low h2, ?_⟩, h3⟩
 have h4 : Lib.byteCells acc ++ Lib.strCells (bs s) = Lib.byteCells (acc ++ s) := by simp [Lib.byteCells, Lib.strCells, bs]
 rw [h4] at h1
 exact .inr h1
theorem SelW.string (h : SelW w cs acc W) :
  Calls Tryz.prog 81 #[.pointer (some ⟨w.heap.size + 1, 0, none⟩)] W (fun r W' => r = .returned (str acc) ∧ Ext w W') := by
 have hs := h.size
 refine (Any.Builder_String_any_k Tryz.lays169 Tryz.Builder_Extra_169 (w.heap.size + 1) (w.heap.size + 1) acc W h.bld (by omega)).mono ?_
 rintro r W' ⟨rfl, -, h2, -⟩
 have h3 := Below.trans h.low h2
 have h1 : Below w.heap.size w (w.alloc (.cells cs 33)) := (Ext.refl w).alloc _
 exact ⟨rfl, Below.trans h1 ⟨h3.os, h3.tape, h3.output, h3.size, fun k hk => h3.block k (by omega)⟩⟩
end
end Go.Proofs.YtkhnpmeohjafiaaGreatDoor
