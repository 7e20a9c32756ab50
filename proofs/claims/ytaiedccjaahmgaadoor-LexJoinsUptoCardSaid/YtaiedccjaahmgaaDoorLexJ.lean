/- LexJoins: walked. -/
import Derived.Test.YtaiedccjaahmgaaDoorLex7
namespace Go.Proofs.YtaiedccjaahmgaaDoor
open Go.RowKit

theorem lexOf_code {l : List UInt8} {f : Nat × Nat} (h : lexOf l = .inl f) : f.1 = 2 ∨ f.1 = 140 := by
  unfold lexOf at h
  split at h
  · cases h; exact .inl rfl
  · split at h
    · cases h; exact .inr rfl
    · cases h
theorem lexOf_len {l : List UInt8} {ts : List Tok} (h : lexOf l = .inr ts) : l.length ≤ 4096 ∧ tk 0 l = .inr ts := by
  unfold lexOf at h
  split at h
  · cases h
  · rename_i hl
    split at h
    · cases h
    · rename_i ts' hts
      cases h
      exact ⟨by omega, hts⟩
theorem lexOf_join {a b : List UInt8} {xs ys : List Tok} (ha : lexOf a = .inr xs) (hb : lexOf b = .inr ys) (hl : a.length + b.length ≤ 4095) : lexOf (a ++ 32 :: b) = .inr (xs ++ ys.map (shiftT (a.length + 1))) := by
  have h1 := (lexOf_len ha).2
  have h2 := (lexOf_len hb).2
  have h3 := tk_join (y := 32) (by decide) b a.length a 0 xs (Nat.le_refl _) h1
  have h4 := tk_shift (a.length + 1) 0 b
  rw [h2] at h4
  unfold lexOf
  rw [if_neg (by simp; omega), h3, show 0 + a.length + 1 = 0 + (a.length + 1) by omega, h4]
  rfl
theorem toks_few : ∀ (f p : Nat) (l : List UInt8) (ts : List Tok), toks f p l = .inr ts → ts.length ≤ l.length
  | 0, p, l, ts, h => by simp [toks] at h; subst h; simp
  | f + 1, p, [], ts, h => by simp [toks] at h; subst h; simp
  | f + 1, p, x :: r, ts, h => by
    simp only [toks] at h
    split at h
    · have := toks_few f (p + 1) r ts h
      simp; omega
    · split at h
      · cases h
      · rename_i k t n m ho
        have hm := one_le ho
        cases hr : toks f (p + m) ((x :: r).drop m) with
        | inl q => rw [hr] at h; cases h
        | inr us =>
          rw [hr] at h
          have := toks_few f (p + m) _ us hr
          simp only [consT, Sum.inr.injEq] at h
          subst h
          simp only [List.length_drop, List.length_cons] at *
          omega
theorem toks_place : ∀ (f p : Nat) (l : List UInt8) (ts : List Tok), toks f p l = .inr ts → ∀ t ∈ ts, t.2.2.2 ≤ p + l.length
  | 0, p, l, ts, h => by simp [toks] at h; subst h; simp
  | f + 1, p, [], ts, h => by simp [toks] at h; subst h; simp
  | f + 1, p, x :: r, ts, h => by
    simp only [toks] at h
    split at h
    · intro t ht
      have := toks_place f (p + 1) r ts h t ht
      simp; omega
    · split at h
      · cases h
      · rename_i k t n m ho
        have hm := one_le ho
        cases hr : toks f (p + m) ((x :: r).drop m) with
        | inl q => rw [hr] at h; cases h
        | inr us =>
          rw [hr] at h
          have := toks_place f (p + m) _ us hr
          simp only [consT, Sum.inr.injEq] at h
          subst h
          intro u hu
          rcases List.mem_cons.1 hu with rfl | hu
          · simp
          · have := this u hu
            simp only [List.length_drop, List.length_cons] at *
            omega
theorem lexOf_place {l : List UInt8} {ts : List Tok} (h : lexOf l = .inr ts) : ∀ t ∈ ts, t.2.2.2 ≤ 4096 := by
  obtain ⟨h1, h2⟩ := lexOf_len h
  intro t ht
  have := toks_place _ 0 l ts h2 t ht
  omega
theorem lexOf_few {l : List UInt8} {ts : List Tok} (h : lexOf l = .inr ts) : ts.length ≤ 4096 := by
  obtain ⟨h1, h2⟩ := lexOf_len h
  have := toks_few _ 0 l ts h2
  omega
theorem flatT_get : ∀ (ts : List Tok) (i : Nat) (t : Tok), ts[i]? = some t → (flatT ts)[i * 4]? = some (.int .i64 (t.1 : Int)) ∧ (flatT ts)[i * 4 + 1]? = some (str t.2.1) ∧ (flatT ts)[i * 4 + 2]? = some (.int .i64 (t.2.2.1 : Int)) ∧ (flatT ts)[i * 4 + 3]? = some (.int .i64 (t.2.2.2 : Int))
  | [], i, t, h => by simp at h
  | u :: ts, 0, t, h => by simp at h; subst h; simp [flatT, tokC]
  | u :: ts, i + 1, t, h => by
    have := flatT_get ts i t (by simpa using h)
    rw [show (i + 1) * 4 = i * 4 + 4 from by omega]
    simpa [flatT, tokC] using this

/-- Tokens of any text. -/
def TokAny (w : World) (e : Ending) (w' : World) : Prop := ∃ (g : Option Nat) (n cap c p : Nat), e = .returned (.tuple #[slv g n cap, .agg #[.int .i64 (c : Int), .int .i64 (p : Int)]]) ∧ Ext w w'
theorem tokens_any (l : List UInt8) (w : World) (hl : l.length ≤ 1000000000) : Calls Tryd.prog 9 #[str l] w (TokAny w) := by
  cases h : lexOf l with
  | inl f => exact (tokens_bad l w hl f.1 f.2 h).mono fun e w' ⟨h1, h2⟩ => ⟨none, 0, 0, f.1, f.2, h1, h2⟩
  | inr ts => exact (tokens_good l w hl ts h).mono fun e w' ⟨g, cap, h1, _, _, h2⟩ => ⟨g, ts.length, cap, 0, 0, h1, h2⟩

set_option maxRecDepth 100000 in
set_option maxHeartbeats 4000000 in
theorem joins_bad1 (a b : List UInt8) (w : World) (hl : a.length ≤ 1048576) (hl2 : b.length ≤ 1048576) (f : Nat × Nat) (hf : lexOf a = .inl f) :
    Calls Tryd.prog 3 #[str a, str b] w (fun e w' => e = .returned (.bool true) ∧ Ext w w') := by
  obtain ⟨c, p⟩ := f
  have hcz : ((c : Int) == 0) = false := by
    rcases lexOf_code hf with h | h <;> (simp only at h; subst h; rfl)
  have hcz2 : ((c : Int) != 0) = true := by
    rcases lexOf_code hf with h | h <;> (simp only at h; subst h; rfl)
  have HF := Lib.hid hf; clear hf
  have hc1 : ∀ u : World, (Op.stringOp .add (bs a) ⟨#[32]⟩).run Tryd.prog u = .ok (str (a ++ [32])) u := fun u => cat_ok a [32] u (by simp; omega)
  have hc2 : ∀ u : World, (Op.stringOp .add (bs (a ++ [32])) (bs b)).run Tryd.prog u = .ok (str (a ++ 32 :: b)) u := fun u => by
    have := cat_ok (P := Tryd.prog) (a ++ [32]) b u (by simp; omega)
    rwa [List.append_assoc, List.singleton_append] at this
  go_enter Tryd.func3, Tryd.ntmps3
  go_wp2_with fail
  refine (awake_ok w).mono ?_
  rintro e w1 ⟨rfl, hE1⟩
  go_wp2_with fail
  refine (tokens_bad a w1 (by omega) c p HF.out).mono ?_
  rintro e w2 ⟨rfl, hE2⟩
  go_wp2_with fail
  refine (tokens_any b _ (by omega)).mono ?_
  rintro e w3 ⟨g3, n3, cap3, c3, p3, rfl, hE3⟩
  have x0 := (blk2 (Ext.block hE3 (blk_new w2 _))).1
  have x1 := (blk2 (Ext.block hE3 (blk_new w2 _))).2
  have hz3 := blk_lt (Ext.block hE3 (blk_new w2 _))
  go_wp2_with fail
  refine (tokens_any (a ++ 32 :: b) _ (by simp; omega)).mono ?_
  rintro e w4 ⟨g4, n4, cap4, c4, p4, rfl, hE4⟩
  have y0 := Ext.cell ((Ext.refl w3).alloc _ |>.trans hE4) x0
  have y1 := Ext.cell ((Ext.refl w3).alloc _ |>.trans hE4) x1
  have hs4 : w2.heap.size < w4.heap.size := by have := hE4.size; simp at this; omega
  clear x0 x1
  go_wp2
  go_ret
  exact ⟨rfl, ((hE1.trans hE2).alloc _).trans ((hE3.alloc _).trans (hE4.alloc _))⟩

set_option maxRecDepth 100000 in
set_option maxHeartbeats 4000000 in
theorem joins_bad2 (a b : List UInt8) (w : World) (hl : a.length ≤ 1048576) (hl2 : b.length ≤ 1048576) (xs : List Tok) (ha : lexOf a = .inr xs) (f : Nat × Nat) (hf : lexOf b = .inl f) :
    Calls Tryd.prog 3 #[str a, str b] w (fun e w' => e = .returned (.bool true) ∧ Ext w w') := by
  obtain ⟨c, p⟩ := f
  have hcz : ((c : Int) == 0) = false := by
    rcases lexOf_code hf with h | h <;> (simp only at h; subst h; rfl)
  have hcz2 : ((c : Int) != 0) = true := by
    rcases lexOf_code hf with h | h <;> (simp only at h; subst h; rfl)
  have HF := Lib.hid hf; clear hf
  have HA := Lib.hid ha; clear ha
  have hc1 : ∀ u : World, (Op.stringOp .add (bs a) ⟨#[32]⟩).run Tryd.prog u = .ok (str (a ++ [32])) u := fun u => cat_ok a [32] u (by simp; omega)
  have hc2 : ∀ u : World, (Op.stringOp .add (bs (a ++ [32])) (bs b)).run Tryd.prog u = .ok (str (a ++ 32 :: b)) u := fun u => by
    have := cat_ok (P := Tryd.prog) (a ++ [32]) b u (by simp; omega)
    rwa [List.append_assoc, List.singleton_append] at this
  go_enter Tryd.func3, Tryd.ntmps3
  go_wp2_with fail
  refine (awake_ok w).mono ?_
  rintro e w1 ⟨rfl, hE1⟩
  go_wp2_with fail
  refine (tokens_good a w1 (by omega) xs HA.out).mono ?_
  rintro e w2 ⟨g2, cap2, rfl, hS2, hg2, hE2⟩
  have HS2 := Lib.hid hS2
  have HG2 := Lib.hid hg2
  clear hS2 hg2
  generalize hxn : xs.length = nx at HS2 ⊢
  have HXN := Lib.hid hxn; clear hxn
  go_wp2_with fail
  refine (tokens_bad b _ (by omega) c p HF.out).mono ?_
  rintro e w3 ⟨rfl, hE3⟩
  go_wp2_with fail
  refine (tokens_any (a ++ 32 :: b) _ (by simp; omega)).mono ?_
  rintro e w4 ⟨g4, n4, cap4, c4, p4, rfl, hE4⟩
  have x0 := (blk2 (Ext.block (hE3.trans ((Ext.refl w3).alloc _ |>.trans hE4)) (blk_new w2 _))).1
  have x1 := (blk2 (Ext.block (hE3.trans ((Ext.refl w3).alloc _ |>.trans hE4)) (blk_new w2 _))).2
  have y0 := (blk2 (Ext.block hE4 (blk_new w3 _))).1
  have y1 := (blk2 (Ext.block hE4 (blk_new w3 _))).2
  have hs3 : w2.heap.size < w4.heap.size := by have := hE4.size; have := hE3.size; simp at *; omega
  have hs4 : w3.heap.size < w4.heap.size := by have := hE4.size; simp at this; omega
  by_cases hx0 : nx = 0
  · have hz : ((nx : Int) == 0) = true := by simp; omega
    go_wp2
    go_ret
    exact ⟨rfl, ((hE1.trans hE2).alloc _).trans ((hE3.alloc _).trans (hE4.alloc _))⟩
  · have hz : ((nx : Int) == 0) = false := by simp; omega
    go_wp2
    go_ret
    exact ⟨rfl, ((hE1.trans hE2).alloc _).trans ((hE3.alloc _).trans (hE4.alloc _))⟩
set_option maxRecDepth 100000 in
set_option maxHeartbeats 4000000 in
theorem joins_long (a b : List UInt8) (w : World) (hl : a.length ≤ 1048576) (hl2 : b.length ≤ 1048576) (xs ys : List Tok) (ha : lexOf a = .inr xs) (hb : lexOf b = .inr ys) (hlong : 4095 < a.length + b.length) :
    Calls Tryd.prog 3 #[str a, str b] w (fun e w' => e = .returned (.bool true) ∧ Ext w w') := by
  have HA := Lib.hid ha; clear ha
  have HB := Lib.hid hb; clear hb
  have hza := bs_size a
  have hzb := bs_size b
  have hlz : decide ((4095 : Int) < (a.length : Int) + (b.length : Int)) = true := by simp; omega
  have hc1 : ∀ u : World, (Op.stringOp .add (bs a) ⟨#[32]⟩).run Tryd.prog u = .ok (str (a ++ [32])) u := fun u => cat_ok a [32] u (by simp; omega)
  have hc2 : ∀ u : World, (Op.stringOp .add (bs (a ++ [32])) (bs b)).run Tryd.prog u = .ok (str (a ++ 32 :: b)) u := fun u => by
    have := cat_ok (P := Tryd.prog) (a ++ [32]) b u (by simp; omega)
    rwa [List.append_assoc, List.singleton_append] at this
  go_enter Tryd.func3, Tryd.ntmps3
  go_wp2_with fail
  refine (awake_ok w).mono ?_
  rintro e w1 ⟨rfl, hE1⟩
  go_wp2_with fail
  refine (tokens_good a w1 (by omega) xs HA.out).mono ?_
  rintro e w2 ⟨g2, cap2, rfl, hS2, hg2, hE2⟩
  have HS2 := Lib.hid hS2
  have HG2 := Lib.hid hg2
  clear hS2 hg2
  generalize hxn : xs.length = nx at HS2 ⊢
  have HXN := Lib.hid hxn; clear hxn
  go_wp2_with fail
  refine (tokens_good b _ (by omega) ys HB.out).mono ?_
  rintro e w3 ⟨g3, cap3, rfl, hS3, hg3, hE3⟩
  clear hS3 hg3
  generalize ys.length = ny
  go_wp2_with fail
  refine (tokens_any (a ++ 32 :: b) _ (by simp; omega)).mono ?_
  rintro e w4 ⟨g4, n4, cap4, c4, p4, rfl, hE4⟩
  have x0 := (blk2 (Ext.block (hE3.trans ((Ext.refl w3).alloc _ |>.trans hE4)) (blk_new w2 _))).1
  have x1 := (blk2 (Ext.block (hE3.trans ((Ext.refl w3).alloc _ |>.trans hE4)) (blk_new w2 _))).2
  have y0 := (blk2 (Ext.block hE4 (blk_new w3 _))).1
  have y1 := (blk2 (Ext.block hE4 (blk_new w3 _))).2
  have hs3 : w2.heap.size < w4.heap.size := by have := hE4.size; have := hE3.size; simp at *; omega
  have hs4 : w3.heap.size < w4.heap.size := by have := hE4.size; simp at this; omega
  by_cases hx0 : nx = 0
  · have hz : ((nx : Int) == 0) = true := by simp; omega
    go_wp2
    go_ret
    exact ⟨rfl, ((hE1.trans hE2).alloc _).trans ((hE3.alloc _).trans (hE4.alloc _))⟩
  · have hz : ((nx : Int) == 0) = false := by simp; omega
    go_wp2
    go_ret
    exact ⟨rfl, ((hE1.trans hE2).alloc _).trans ((hE3.alloc _).trans (hE4.alloc _))⟩

set_option maxRecDepth 100000 in
set_option maxHeartbeats 8000000 in
theorem joins_good (a b : List UInt8) (w : World) (xs ys : List Tok) (ha : lexOf a = .inr xs) (hb : lexOf b = .inr ys) (hlong : a.length + b.length ≤ 4095) :
    Calls Tryd.prog 3 #[str a, str b] w (fun e w' => e = .returned (.bool true) ∧ Ext w w') := by
  have HC := Lib.hid (lexOf_join ha hb hlong)
  have hfx := lexOf_few ha
  have hfy := lexOf_few hb
  have HPL := Lib.hid (lexOf_place hb)
  have HA := Lib.hid ha; clear ha
  have HB := Lib.hid hb; clear hb
  have hza := bs_size a
  have hzb := bs_size b
  have hlz : decide ((4095 : Int) < (a.length : Int) + (b.length : Int)) = false := by simp; omega
  have hc1 : ∀ u : World, (Op.stringOp .add (bs a) ⟨#[32]⟩).run Tryd.prog u = .ok (str (a ++ [32])) u := fun u => cat_ok a [32] u (by simp; omega)
  have hc2 : ∀ u : World, (Op.stringOp .add (bs (a ++ [32])) (bs b)).run Tryd.prog u = .ok (str (a ++ 32 :: b)) u := fun u => by
    have := cat_ok (P := Tryd.prog) (a ++ [32]) b u (by simp; omega)
    rwa [List.append_assoc, List.singleton_append] at this
  go_enter Tryd.func3, Tryd.ntmps3
  go_wp2_with fail
  refine (awake_ok w).mono ?_
  rintro e w1 ⟨rfl, hE1⟩
  go_wp2_with fail
  refine (tokens_good a w1 (by omega) xs HA.out).mono ?_
  rintro e w2 ⟨g2, cap2, rfl, hS2, hg2, hE2⟩
  have HS2 := Lib.hid hS2
  have HG2 := Lib.hid hg2
  clear hS2 hg2
  generalize hxn : xs.length = nx at HS2 ⊢
  have HXN := Lib.hid hxn; clear hxn
  rw [HXN.out] at hfx
  go_wp2_with fail
  refine (tokens_good b _ (by omega) ys HB.out).mono ?_
  rintro e w3 ⟨g3, cap3, rfl, hS3, hg3, hE3⟩
  have HS3 := Lib.hid hS3
  have HG3 := Lib.hid hg3
  clear hS3 hg3
  generalize hyn : ys.length = ny at HS3 hfy ⊢
  have HYN := Lib.hid hyn; clear hyn
  go_wp2_with fail
  refine (tokens_good (a ++ 32 :: b) _ (by simp; omega) (xs ++ ys.map (shiftT (a.length + 1))) HC.out).mono ?_
  rintro e w4 ⟨g4, cap4, rfl, hS4, hg4, hE4⟩
  have hzn : (xs ++ ys.map (shiftT (a.length + 1))).length = nx + ny := by rw [List.length_append, List.length_map, HXN.out, HYN.out]
  rw [hzn] at hS4 ⊢
  have HS4 := Lib.hid hS4
  clear hS4 hg4 hzn
  have x0 := (blk2 (Ext.block (hE3.trans ((Ext.refl w3).alloc _ |>.trans hE4)) (blk_new w2 _))).1
  have x1 := (blk2 (Ext.block (hE3.trans ((Ext.refl w3).alloc _ |>.trans hE4)) (blk_new w2 _))).2
  have y0 := (blk2 (Ext.block hE4 (blk_new w3 _))).1
  have y1 := (blk2 (Ext.block hE4 (blk_new w3 _))).2
  have hs3 : w2.heap.size < w4.heap.size := by have := hE4.size; have := hE3.size; simp at *; omega
  have hs4 : w3.heap.size < w4.heap.size := by have := hE4.size; simp at this; omega
  go_wp2
  clear x0 x1 y0 y1 hs3 hs4
  refine wp_at (fun W => Ext w W ∧ Ext w4 W) ⟨((hE1.trans hE2).alloc _).trans ((hE3.alloc _).trans (hE4.alloc _)), (Ext.refl w4).alloc _⟩ ?_
  rintro W ⟨hW, hW4⟩
  have HX := Lib.hid (HS2.out.ext (((Ext.refl w2).alloc _).trans ((hE3.alloc _).trans (hE4.trans hW4))))
  have HY := Lib.hid (HS3.out.ext (((Ext.refl w3).alloc _).trans (hE4.trans hW4)))
  have HZ := Lib.hid (HS4.out.ext hW4)
  clear HS2 HS3 HS4 hE2 hE3 hE4 hW4 HG2 HG3 hc1 hc2 hE1
  have hbs := bs_toList
  go_loopg [73] (nx + ny) (fun k v73 wr => ∃ i : Nat, i + k = nx + ny ∧ v73 = .int .i64 (i : Int) ∧ Ext W wr)
  case atStart => exact ⟨0, by omega, rfl, Ext.refl _⟩
  case round =>
    obtain ⟨i, hik, rfl, hE⟩ := hrel
    have HIK := Lib.hid hik; clear hik
    by_cases hlt : i < nx + ny
    · have hlt' : (i : Int) < (nx : Int) + (ny : Int) := by omega
      obtain ⟨b4, hb4⟩ := HZ.out.some_of_pos (by omega)
      have z4 := run_index_slv ei_tok (cap := cap4) hb4 hlt
      have h4 := HZ.out
      rw [hb4] at h4
      have hl4 : b4 < wr.heap.size := by have := h4.block_lt; have := hE.size; omega
      by_cases hx : i < nx
      · obtain ⟨⟨tk0, tt, tn, tp⟩, ht⟩ : ∃ t, xs[i]? = some t := ⟨xs[i]'(by rw [HXN.out]; exact hx), by rw [List.getElem?_eq_getElem]⟩
        have htz : (xs ++ ys.map (shiftT (a.length + 1)))[i]? = some (tk0, tt, tn, tp) := by rw [List.getElem?_append_left (by rw [HXN.out]; exact hx)]; exact ht
        obtain ⟨k0, k1, k2, k3⟩ := flatT_get _ i _ htz
        obtain ⟨m0, m1, m2, m3⟩ := flatT_get _ i _ ht
        obtain ⟨b2, hb2⟩ := HX.out.some_of_pos (by omega)
        have z2 := run_index_slv ei_tok (cap := cap2) hb2 hx
        have h2 := HX.out
        rw [hb2] at h2
        have hl2 : b2 < wr.heap.size := by have := h2.block_lt; have := hE.size; omega
        have c0 := Ext.cell hE (h4.cell k0)
        have c1 := Ext.cell hE (h4.cell k1)
        have c2 := Ext.cell hE (h4.cell k2)
        have c3 := Ext.cell hE (h4.cell k3)
        have d0 := Ext.cell hE (h2.cell m0)
        have d1 := Ext.cell hE (h2.cell m1)
        have d2 := Ext.cell hE (h2.cell m2)
        have d3 := Ext.cell hE (h2.cell m3)
        simp only at c0 c1 c2 c3 d0 d1 d2 d3
        clear k0 k1 k2 k3 m0 m1 m2 m3 h2 h4 hb2 hb4 ht htz
        go_wp2
        go_roundg (gk - 1)
        case measure => have := HIK.out; omega
        case rel => exact ⟨i + 1, by have := HIK.out; omega, by go_num, by repeat (first | exact hE | refine Ext.alloc ?_ _ | refine Ext.drew ?_)⟩
      · obtain ⟨j, hij⟩ : ∃ j, i = nx + j := ⟨i - nx, by omega⟩
        have hj : j < ny := by omega
        have hji : (i : Int) - (nx : Int) = (j : Int) := by omega
        have hxx : decide ((i : Int) < (nx : Int)) = false := by simp; omega
        obtain ⟨⟨tk0, tt, tn, tp⟩, ht⟩ : ∃ t, ys[j]? = some t := ⟨ys[j]'(by rw [HYN.out]; exact hj), by rw [List.getElem?_eq_getElem]⟩
        have htz : (xs ++ ys.map (shiftT (a.length + 1)))[i]? = some (tk0, tt, tn, tp + (a.length + 1)) := by
          rw [hij, List.getElem?_append_right (by rw [HXN.out]; omega), HXN.out, Nat.add_sub_cancel_left, List.getElem?_map, ht]; rfl
        obtain ⟨k0, k1, k2, k3⟩ := flatT_get _ _ _ htz
        obtain ⟨m0, m1, m2, m3⟩ := flatT_get _ j _ ht
        obtain ⟨b3, hb3⟩ := HY.out.some_of_pos (by omega)
        have z3 := run_index_slv ei_tok (cap := cap3) hb3 hj
        have h3 := HY.out
        rw [hb3] at h3
        have hl3 : b3 < wr.heap.size := by have := h3.block_lt; have := hE.size; omega
        have hpl := HPL.out _ (List.mem_of_getElem? ht)
        simp only at hpl
        have c0 := Ext.cell hE (h4.cell k0)
        have c1 := Ext.cell hE (h4.cell k1)
        have c2 := Ext.cell hE (h4.cell k2)
        have c3 := Ext.cell hE (h4.cell k3)
        have d0 := Ext.cell hE (h3.cell m0)
        have d1 := Ext.cell hE (h3.cell m1)
        have d2 := Ext.cell hE (h3.cell m2)
        have d3 := Ext.cell hE (h3.cell m3)
        simp only at c0 c1 c2 c3 d0 d1 d2 d3
        clear k0 k1 k2 k3 m0 m1 m2 m3 h3 h4 hb3 hb4 ht htz hij hx
        go_wp2
        go_roundg (gk - 1)
        case measure => have := HIK.out; omega
        case rel => exact ⟨i + 1, by have := HIK.out; omega, by go_num, by repeat (first | exact hE | refine Ext.alloc ?_ _ | refine Ext.drew ?_)⟩
    · go_wp2
      go_ret
      exact ⟨rfl, hW.trans hE⟩

theorem joins_any (a b : List UInt8) (w : World) (hl : a.length ≤ 1048576) (hl2 : b.length ≤ 1048576) :
    Calls Tryd.prog 3 #[str a, str b] w (fun e w' => e = .returned (.bool true) ∧ Ext w w') := by
  cases ha : lexOf a with
  | inl f => exact joins_bad1 a b w hl hl2 f ha
  | inr xs =>
    cases hb : lexOf b with
    | inl f => exact joins_bad2 a b w hl hl2 xs ha f hb
    | inr ys =>
      by_cases h : a.length + b.length ≤ 4095
      · exact joins_good a b w xs ys ha hb h
      · exact joins_long a b w hl hl2 xs ys ha hb (by omega)
end Go.Proofs.YtaiedccjaahmgaaDoor
