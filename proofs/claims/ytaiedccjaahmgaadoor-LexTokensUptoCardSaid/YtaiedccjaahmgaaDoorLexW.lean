/- annalsref14.Quote; same; LexTokens: walked. -/
import Derived.Test.YtaiedccjaahmgaaDoorLexV
import Derived.Test.YtaiedccjaahmgaaDoorLexB
namespace Go.Proofs.YtaiedccjaahmgaaDoor
open Go.RowKit

theorem dbl_take {l : List UInt8} {i : Nat} {x : UInt8} (hx : l[i]? = some x) : dbl (l.take (i + 1)) = dbl (l.take i) ++ (if x = 39 then [39, 39] else [x]) := by
  rw [List.take_add_one, hx]
  exact dbl_snoc _ _
set_option maxRecDepth 100000 in
set_option maxHeartbeats 8000000 in
theorem rquote_ok (l : List UInt8) (w : World) (hl : l.length ≤ 1000000000) : Calls Tryd.prog 13 #[str l] w (fun e w' => e = .returned (str (quoted l)) ∧ w' = w) := by
  have hsz := bs_size l
  go_enter Tryd.func13, Tryd.ntmps13
  go_wp2
  go_loopg [3, 4] l.length (fun k v3 v4 wr => ∃ (i : Nat) (s : List UInt8), i + k = l.length ∧ v4 = .int .i64 (i : Int) ∧ v3 = str s ∧ s = 39 :: dbl (l.take i) ∧ s.length ≤ 1 + 2 * i ∧ wr = w)
  case atStart => exact ⟨0, [39], by omega, rfl, rfl, by simp [dbl], by simp, rfl⟩
  case round =>
    obtain ⟨i, s, hik, rfl, rfl, hs, hsl, hwr⟩ := hrel
    subst hwr
    have HIK := Lib.hid hik; clear hik
    have HS := Lib.hid hs; clear hs
    by_cases hlt : i < l.length
    · obtain ⟨x, hx⟩ : ∃ x, l[i]? = some x := ⟨_, List.getElem?_eq_getElem hlt⟩
      have hxg := bs_get hx
      have hcut : (bs l).extract i (i + 1) = bs [x] := by
        rw [bs_extract, drop_at hx, Nat.add_sub_cancel_left]; rfl
      have hN1 : ((i : Int) + 1).toNat = i + 1 := by omega
      by_cases h39 : x = 39
      · subst h39
        have hx39 : (UInt8.toNat 39 : Int) = 39 := rfl
        have HD : Hid (dbl (l.take (i + 1)) = dbl (l.take i) ++ [39, 39]) := by
          show _ = _
          rw [dbl_take hx, if_pos rfl]
        have hc1 : ∀ u : World, (Op.stringOp .add (bs s) ⟨#[39]⟩).run Tryd.prog u = .ok (str (s ++ [39])) u := fun u => cat_ok s [39] u (by simp; omega)
        have hc2 : ∀ u : World, (Op.stringOp .add (bs (s ++ [39])) (bs [39])).run Tryd.prog u = .ok (str (s ++ [39] ++ [39])) u := fun u => cat_ok (s ++ [39]) [39] u (by simp; omega)
        clear hx
        go_wp2
        go_roundg (gk - 1)
        case measure => have := HIK.out; omega
        case rel =>
          refine ⟨i + 1, _, by have := HIK.out; omega, by go_num, rfl, ?_, by simp; omega, rfl⟩
          rw [HD.out, HS.out]; simp
      · have hxne : ((x.toNat : Int) == 39) = false := by
          rw [beq_eq_false_iff_ne]
          intro h
          exact h39 (by apply UInt8.toNat_inj.1; simpa using (by exact_mod_cast h : x.toNat = 39))
        have HD : Hid (dbl (l.take (i + 1)) = dbl (l.take i) ++ [x]) := by
          show _ = _
          rw [dbl_take hx, if_neg h39]
        have hc1 : ∀ u : World, (Op.stringOp .add (bs s) (bs [x])).run Tryd.prog u = .ok (str (s ++ [x])) u := fun u => cat_ok s [x] u (by simp; omega)
        clear hx h39
        go_wp2
        go_roundg (gk - 1)
        case measure => have := HIK.out; omega
        case rel =>
          refine ⟨i + 1, _, by have := HIK.out; omega, by go_num, rfl, ?_, by simp; omega, rfl⟩
          rw [HD.out, HS.out]; simp
    · have hil : i = l.length := by have := HIK.out; omega
      have HQ : Hid (s ++ [39] = quoted l) := by
        show _ = _
        rw [HS.out, hil, List.take_length]; rfl
      have hc1 : ∀ u : World, (Op.stringOp .add (bs s) ⟨#[39]⟩).run Tryd.prog u = .ok (str (s ++ [39])) u := fun u => cat_ok s [39] u (by simp; omega)
      clear hil
      go_wp2
      go_ret
      rw [HQ.out]
      exact ⟨rfl, rfl⟩

set_option maxRecDepth 100000 in
set_option maxHeartbeats 8000000 in
theorem same_ok (g g2 : Option Nat) (n cap cap2 : Nat) (ts : List Tok) (w : World) (hn : ts.length = n) (hn1 : n ≤ 100000) (h1 : Sl w 30 4 g n cap (flatT ts)) (h2 : Sl w 52 4 g2 n cap2 (flatT ts)) :
    Calls Tryd.prog 11 #[slv g n cap, slv g2 n cap2] w (fun e w' => e = .returned (.bool true) ∧ Ext w w') := by
  have HN := Lib.hid hn; clear hn
  have H1 := Lib.hid h1; clear h1
  have H2 := Lib.hid h2; clear h2
  have hbs := bs_toList
  go_enter Tryd.func11, Tryd.ntmps11
  go_wp2
  go_loopg [13] n (fun k v13 wr => ∃ (i : Nat), i + k = n ∧ v13 = .int .i64 (i : Int) ∧ Ext w wr)
  case atStart => exact ⟨0, by omega, rfl, Ext.refl _⟩
  case round =>
    obtain ⟨i, hik, rfl, hE⟩ := hrel
    have HIK := Lib.hid hik; clear hik
    by_cases hi : i < n
    · obtain ⟨⟨tk0, tt, tn, tp⟩, ht⟩ : ∃ t, ts[i]? = some t := ⟨ts[i]'(by rw [HN.out]; exact hi), by rw [List.getElem?_eq_getElem]⟩
      obtain ⟨k0, k1, k2, k3⟩ := flatT_get _ i _ ht
      obtain ⟨b, hb⟩ := H1.out.some_of_pos (by omega)
      obtain ⟨b2, hb2⟩ := H2.out.some_of_pos (by omega)
      have z1 := run_index_slv ei_tok (cap := cap) hb hi
      have z2 := run_index_slv ei_rtok (cap := cap2) hb2 hi
      have h3 := H1.out
      rw [hb] at h3
      have h4 := H2.out
      rw [hb2] at h4
      have c0 := Ext.cell hE (h3.cell k0)
      have c1 := Ext.cell hE (h3.cell k1)
      have c2 := Ext.cell hE (h3.cell k2)
      have c3 := Ext.cell hE (h3.cell k3)
      have d0 := Ext.cell hE (h4.cell k0)
      have d1 := Ext.cell hE (h4.cell k1)
      have d2 := Ext.cell hE (h4.cell k2)
      have d3 := Ext.cell hE (h4.cell k3)
      simp only at c0 c1 c2 c3 d0 d1 d2 d3
      have HE := Lib.hid hE
      clear k0 k1 k2 k3 h3 h4 hb hb2 ht hE
      go_wp2
      refine region_calm [.p 0, .p 1, .p 2, .p 3, .l 4, .p 5, .p 6, .p 7, .p 8, .l 9, .p 10, .p 11, .p 12, .p 13, .l 14, .p 15, .p 16, .p 17, .p 18, .l 19, .p 20, .p 21, .p 22, .p 23, .l 24, .p 25] f_mixed (by kernel_rfl) (by kernel_rfl) ?_
      repeat (first | (refine plan_p rfl (fun K hK => ?_); go_simp; refine hK _ ?_; clear hK K) | (refine plan_l rfl (fun K hK => ?_); go_simp; refine hK _ ?_; clear hK K))
      refine plan_done ?_
      go_wp2
      go_roundg (gk - 1)
      case measure => have := HIK.out; omega
      case rel => exact ⟨i + 1, by have := HIK.out; omega, by go_num, by repeat (first | exact HE.out | refine Ext.drew ?_)⟩
    · go_wp2
      go_ret
      exact ⟨rfl, hE⟩

theorem toks_few : ∀ (f p : Nat) (l : List UInt8) (ts : List Tok), toks f p l = .inr ts → ts.length ≤ l.length
  | 0, p, l, ts, h => by simp [toks] at h; subst h; simp
  | f + 1, p, [], ts, h => by simp [toks] at h; subst h; simp
  | f + 1, p, x :: r, ts, h => by
    simp only [toks] at h
    split at h
    · have := toks_few f (p + 1) r ts h
      simp; omega
    · split at h
      · cases h
      · rename_i k t n m ho
        have hm := one_le ho
        cases hr : toks f (p + m) ((x :: r).drop m) with
        | inl q => rw [hr] at h; cases h
        | inr us =>
          rw [hr] at h
          have := toks_few f (p + m) _ us hr
          simp only [consT, Sum.inr.injEq] at h
          subst h
          simp only [List.length_drop, List.length_cons] at *
          omega
theorem lexOf_few {l : List UInt8} {ts : List Tok} (h : lexOf l = .inr ts) : ts.length ≤ 4096 := by
  obtain ⟨h1, h2⟩ := lexOf_len h
  have := toks_few _ 0 l ts h2
  omega
theorem rtokens_good (l : List UInt8) (w : World) (hl : l.length ≤ 1000000000) (ts : List Tok) (h : lexOf l = .inr ts) :
    Calls Tryd.prog 10 #[str l] w (fun e w' => ∃ g cap, e = .returned (.tuple #[slv g ts.length cap, .int .i64 0, .int .i64 0]) ∧ Sl w' 52 4 g ts.length cap (flatT ts) ∧ Ext w w') := by
  refine (rtokens_ok l w hl).mono ?_
  rintro e w' ⟨hE, hp⟩
  rw [h] at hp
  obtain ⟨g, cap, h1, h2, _⟩ := hp
  exact ⟨g, cap, h1, h2, hE⟩
theorem rtokens_bad (l : List UInt8) (w : World) (hl : l.length ≤ 1000000000) (c p : Nat) (h : lexOf l = .inl (c, p)) :
    Calls Tryd.prog 10 #[str l] w (fun e w' => e = .returned (.tuple #[.slice none 0 0, .int .i64 (c : Int), .int .i64 (p : Int)]) ∧ Ext w w') := by
  refine (rtokens_ok l w hl).mono ?_
  rintro e w' ⟨hE, hp⟩
  rw [h] at hp
  exact ⟨hp, hE⟩

set_option maxRecDepth 100000 in
set_option maxHeartbeats 8000000 in
theorem tokens_any (l : List UInt8) (w : World) (hl : l.length ≤ 1048576) (hm : MaxOk w) :
    Calls Tryd.prog 6 #[str l] w (fun e w' => e = .returned (.bool true) ∧ Ext w w') := by
  have hbs := bs_toList
  cases h : lexOf l with
  | inl f =>
    obtain ⟨c, p⟩ := f
    have H := Lib.hid h; clear h
    go_enter Tryd.func6, Tryd.ntmps6
    go_wp2_with fail
    refine (awake_ok w).mono ?_
    rintro e w1 ⟨rfl, hE1⟩
    go_wp2_with fail
    refine (tokens_bad l w1 (by omega) c p H.out).mono ?_
    rintro e w2 ⟨rfl, hE2⟩
    go_wp2_with fail
    refine (rtokens_bad l _ (by omega) c p H.out).mono ?_
    rintro e w3 ⟨rfl, hE3⟩
    go_wp2_with fail
    refine (same_ok none none 0 0 0 [] w3 rfl (by omega) (Sl.nil _ _ _) (Sl.nil _ _ _)).mono ?_
    rintro e w4 ⟨rfl, hE4⟩
    have x0 := (blk2 (Ext.block (hE3.trans hE4) (blk_new w2 _))).1
    have x1 := (blk2 (Ext.block (hE3.trans hE4) (blk_new w2 _))).2
    have hs4 : w2.heap.size < w4.heap.size := by have := hE3.size; have := hE4.size; simp at *; omega
    have HM4 := Lib.hid (hm.ext (hE1.trans (hE2.trans (((Ext.refl w2).alloc _).trans (hE3.trans hE4)))))
    go_wp2_with fail
    refine (quote_ok l w4 (by omega) HM4.out).mono ?_
    rintro e w5 ⟨rfl, hE5⟩
    go_wp2_with fail
    refine (rquote_ok l w5 (by omega)).mono ?_
    rintro e w6 ⟨rfl, h⟩
    subst h
    go_wp2
    go_ret
    exact ⟨rfl, hE1.trans (hE2.trans (((Ext.refl w2).alloc _).trans (hE3.trans (hE4.trans hE5))))⟩
  | inr ts =>
    have HF := Lib.hid (lexOf_few h)
    have H := Lib.hid h; clear h
    go_enter Tryd.func6, Tryd.ntmps6
    go_wp2_with fail
    refine (awake_ok w).mono ?_
    rintro e w1 ⟨rfl, hE1⟩
    go_wp2_with fail
    refine (tokens_good l w1 (by omega) ts H.out).mono ?_
    rintro e w2 ⟨g2, cap2, rfl, hS2, hg2, hE2⟩
    have HS2 := Lib.hid hS2; clear hS2 hg2
    go_wp2_with fail
    refine (rtokens_good l _ (by omega) ts H.out).mono ?_
    rintro e w3 ⟨g3, cap3, rfl, hS3, hE3⟩
    have HS3 := Lib.hid hS3; clear hS3
    go_wp2_with fail
    refine (same_ok g2 g3 ts.length cap2 cap3 ts w3 rfl (by have := HF.out; omega) (HS2.out.ext (((Ext.refl w2).alloc _).trans hE3)) HS3.out).mono ?_
    rintro e w4 ⟨rfl, hE4⟩
    have x0 := (blk2 (Ext.block (hE3.trans hE4) (blk_new w2 _))).1
    have x1 := (blk2 (Ext.block (hE3.trans hE4) (blk_new w2 _))).2
    have hs4 : w2.heap.size < w4.heap.size := by have := hE3.size; have := hE4.size; simp at *; omega
    have HM4 := Lib.hid (hm.ext (hE1.trans (hE2.trans (((Ext.refl w2).alloc _).trans (hE3.trans hE4)))))
    go_wp2_with fail
    refine (quote_ok l w4 (by omega) HM4.out).mono ?_
    rintro e w5 ⟨rfl, hE5⟩
    go_wp2_with fail
    refine (rquote_ok l w5 (by omega)).mono ?_
    rintro e w6 ⟨rfl, h⟩
    subst h
    go_wp2
    go_ret
    exact ⟨rfl, hE1.trans (hE2.trans (((Ext.refl w2).alloc _).trans (hE3.trans (hE4.trans hE5))))⟩
end Go.Proofs.YtaiedccjaahmgaaDoor
