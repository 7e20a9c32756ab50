/- Operands put together with operators, with and without brackets: plain law. No program is named here. The pairs of texts that ParseRights weighs: each pair has one reading. Plain law. No program is named here. -/
import Derived.Test.YtkhnpmeohjafiaaGreatDoorMW
namespace Go.Proofs.YtkhnpmeohjafiaaGreatDoor

theorem last_eq {P : Tok → Prop} : ∀ (X W Y Z : List Tok) (a b : Tok), X ++ a :: Y = W ++ b :: Z → ¬ P a → ¬ P b → (∀ y ∈ Y, P y) → (∀ z ∈ Z, P z) → X = W ∧ Y = Z
  | [], [], Y, Z, a, b, h, _, _, _, _ => by simp at h; exact ⟨rfl, h.2⟩
  | [], w :: W, Y, Z, a, b, h, ha, hb, hy, hz => by
    simp only [List.nil_append, List.cons_append, List.cons.injEq] at h
    exact absurd (hy b (by rw [h.2]; simp)) hb
  | x :: X, [], Y, Z, a, b, h, ha, hb, hy, hz => by
    simp only [List.nil_append, List.cons_append, List.cons.injEq] at h
    exact absurd (hz a (by rw [← h.2]; simp)) ha
  | x :: X, w :: W, Y, Z, a, b, h, ha, hb, hy, hz => by
    simp only [List.cons_append, List.cons.injEq] at h
    obtain ⟨h1, h2⟩ := last_eq X W Y Z a b h.2 ha hb hy hz
    exact ⟨by rw [h.1, h1], h2⟩
theorem isT_eq {s : Str} {t : Tok} {r : List Tok} (h : isT s (t :: r) = true) : (t.1 = 1 ∨ t.1 = 4) ∧ t.2.1 = s := by
  simpa [isT] using h
/-- Of a question with one item: what stands ahead of the last FROM. -/
theorem items_inv {E : Nat} {S : Tok} {us : List Tok} {x : St} {q : Qu} (hS : strip S = (1, [83, 69, 76, 69, 67, 84], 0)) (hz : ZeroOk us) (ht : ToksOk us) (h : whole E (S :: us) = .ok (x, [])) (hq : x.query = [q]) (hi : q.items.length = 1) :
    ∃ C F rest o, us = C ++ F :: rest ∧ ¬ NoF F ∧ (∀ u ∈ rest, NoF u) ∧ Opd (C.map strip) o := by
  have hst : stmt E (S :: us) = selects E (S :: us) := by
    simp only [stmt, isT_of hS, anyT, List.any]
    rfl
  unfold whole at h
  rw [hst] at h
  unfold selects at h
  cases hqu : query E (S :: us) with
  | error e => rw [hqu] at h; cases h
  | ok z =>
  obtain ⟨q0, r1⟩ := z
  rw [hqu] at h
  simp only [bnd_ok] at h
  cases hmo : moreL E r1.length [] [q0] r1 with
  | error e => rw [hmo] at h; cases h
  | ok z =>
  obtain ⟨oq, r2⟩ := z
  rw [hmo] at h
  simp only [bnd_ok] at h
  cases has : asOfP E r2 with
  | error e => rw [has] at h; cases h
  | ok z =>
  obtain ⟨av, r3⟩ := z
  rw [has] at h
  simp only [bnd_ok] at h
  cases hdu : duringP E r3 with
  | error e => rw [hdu] at h; cases h
  | ok z =>
  obtain ⟨dv, r4⟩ := z
  rw [hdu] at h
  simp only [bnd_ok] at h
  cases hor : orderP E r4 with
  | error e => rw [hor] at h; cases h
  | ok z =>
  obtain ⟨ov, r5⟩ := z
  rw [hor] at h
  simp only [fin_ok, bnd_ok] at h
  by_cases hc : (if isT [59] r5 then r5.tail else r5) = []
  · rw [if_pos hc] at h
    cases h
    simp only at hq
    obtain ⟨hoq, rfl⟩ := moreL_one hmo (by rw [hq]; rfl)
    have hqq : q = q0 := by rw [hq] at hoq; simpa using hoq
    subst hqq
    -- what stands behind the question has no FROM
    have h5 : ∀ u ∈ r5, NoF u := by
      cases hs : isT [59] r5 with
      | true =>
        rw [hs, if_pos rfl] at hc
        obtain ⟨t, vs, rfl, htt⟩ := noF_of (by decide) hs
        obtain rfl : vs = [] := hc
        simpa using htt
      | false => rw [hs, if_neg (by simp)] at hc; subst hc; simp
    obtain ⟨v1, e1, n1⟩ := cn_asOfP _ _ _ has
    obtain ⟨v2, e2, n2⟩ := cn_duringP _ _ _ hdu
    obtain ⟨v3, e3, n3⟩ := cn_orderP _ _ _ hor
    -- the question itself
    unfold query at hqu
    have hm : must E [83, 69, 76, 69, 67, 84] (S :: us) = .ok ((), us) := by
      unfold must
      rw [isT_of hS, if_pos (by rfl)]; rfl
    rw [hm, bnd_ok] at hqu
    obtain ⟨c, hcc⟩ : ∃ c, c = isT [67, 79, 65, 76, 69, 83, 67, 69] us := ⟨_, rfl⟩
    obtain ⟨w, hw⟩ : ∃ w, w = (if isT [67, 79, 65, 76, 69, 83, 67, 69] us then us.tail else us) := ⟨_, rfl⟩
    rw [← hw, ← hcc] at hqu
    cases hak : asked E { Qu.none with coalesce := c } w with
    | error e => rw [hak] at hqu; cases hqu
    | ok z =>
    obtain ⟨q1, w1⟩ := z
    rw [hak, bnd_ok] at hqu
    cases hfr : must E [70, 82, 79, 77] w1 with
    | error e => rw [hfr] at hqu; cases hqu
    | ok z =>
    obtain ⟨_, w2⟩ := z
    rw [hfr, bnd_ok] at hqu
    cases hta : tablesP E w2 with
    | error e => rw [hta] at hqu; cases hqu
    | ok z =>
    obtain ⟨tl, w3⟩ := z
    rw [hta, bnd_ok] at hqu
    cases hwh : whereP E w3 with
    | error e => rw [hwh] at hqu; cases hqu
    | ok z =>
    obtain ⟨wl, w4⟩ := z
    rw [hwh, fin_ok] at hqu
    cases hqu
    simp only at hi
    obtain ⟨v4, e4, n4⟩ := cn_tablesP _ _ _ hta
    obtain ⟨v5, e5, n5⟩ := cn_whereP _ _ _ hwh
    -- FROM
    obtain ⟨F, rfl, hF⟩ : ∃ F, w1 = F :: w2 ∧ ¬ NoF F := by
      unfold must at hfr
      split at hfr
      · rename_i hf
        cases w1 with
        | nil => cases hf
        | cons F v =>
          cases hfr
          refine ⟨F, rfl, fun hn => ?_⟩
          obtain ⟨k1, k2⟩ := isT_eq hf
          rcases k1 with k1 | k1
          · exact hn ⟨k1, k2⟩
          · have hmem : F ∈ us := by
              have hsuf : (F :: v) <:+ w := Suf.asked E _ _ _ _ hak
              have : F ∈ w := hsuf.mem (by simp)
              rw [hw] at this
              split at this
              · exact List.mem_of_mem_tail this
              · exact this
            have := (ht F hmem).2.2 k1
            rw [k2] at this
            revert this; decide
      · cases hfr
    have hrest : ∀ u ∈ w2, NoF u := by
      intro u hu
      rw [e4, e5, e1, e2, e3] at hu
      simp only [List.mem_append] at hu
      rcases hu with hu | hu | hu | hu | hu | hu
      · exact n4 u hu
      · exact n5 u hu
      · exact n1 u hu
      · exact n2 u hu
      · exact n3 u hu
      · exact h5 u hu
    -- the items
    have hzw : ZeroOk w ∧ ToksOk w := by
      rw [hw]
      split
      · exact ⟨fun t hm => hz t (List.mem_of_mem_tail hm), ht.tail⟩
      · exact ⟨hz, ht⟩
    unfold asked at hak
    have hnone : ({ Qu.none with coalesce := c } : Qu).items = [] := rfl
    split at hak
    · simp only [Except.ok.injEq, Prod.mk.injEq] at hak
      rw [← hak.1] at hi; exact absurd (show (0 : Nat) = 1 from hi) (by omega)
    split at hak
    · simp only [Except.ok.injEq, Prod.mk.injEq] at hak
      rw [← hak.1] at hi; exact absurd (show (0 : Nat) = 1 from hi) (by omega)
    split at hak
    · cases hn : Go.Proofs.YtkhnpmeohjafiaaGreatDoor.name E w.tail with
      | error e => rw [hn] at hak; cases hak
      | ok z =>
        rw [hn] at hak
        have hak := Prod.mk.inj (Except.ok.inj (show Except.ok _ = _ from hak))
        rw [← hak.1] at hi; exact absurd (show (0 : Nat) = 1 from hi) (by omega)
    · cases hse : Go.Proofs.YtkhnpmeohjafiaaGreatDoor.sep (Go.Proofs.YtkhnpmeohjafiaaGreatDoor.item E) w with
      | error e => rw [hse] at hak; cases hak
      | ok z =>
        obtain ⟨l, w1'⟩ := z
        rw [hse] at hak
        simp only [fin_ok, Except.ok.injEq, Prod.mk.injEq] at hak
        obtain ⟨hak1, rfl⟩ := hak
        rw [← hak1] at hi
        simp only at hi
        obtain ⟨e, hie, -⟩ := sep_one hse hi
        obtain ⟨I, t, o, hwI, h1, h2, h3⟩ := item_inv hzw.1 hzw.2 hie
        cases hco : isT [67, 79, 65, 76, 69, 83, 67, 69] us with
        | true =>
          rw [hco, if_pos rfl] at hw
          cases us with
          | nil => cases hco
          | cons cT us =>
            obtain ⟨k1, k2⟩ := isT_eq hco
            have hk : strip cT = (1, [67, 79, 65, 76, 69, 83, 67, 69], 0) := by
              rcases k1 with k1 | k1
              · simp only [strip, k1, k2, hz cT (by simp) (.inl k1)]
              · have := (ht cT (by simp)).2.2 k1
                rw [k2] at this
                exact absurd this (by decide)
            refine ⟨cT :: I, F, w2, none, ?_, hF, hrest, ?_⟩
            · rw [List.cons_append, ← hwI, hw]; rfl
            · rw [List.map_cons, hk, h3]; exact .coal t o h1 h2
        | false =>
          rw [hco, if_neg (by simp)] at hw
          exact ⟨I, F, w2, some (eName t o), by rw [← hwI, hw], hF, hrest, by rw [h3]; exact .item t o h1 h2⟩
  · rw [if_neg hc] at h; cases h
def selP : List Pc := [.word [115, 101, 108, 101, 99, 116], .gap [32]]
/-- A text that is one item between 'select' and 'from t': its tokens. -/
theorem word_opd {w : Str} {x : St} {q : Qu} (h : parseOf (flatP selP ++ (w ++ 32 :: [102, 114, 111, 109, 32, 116])) = .inr x) (hq : x.query = [q]) (hi : q.items.length = 1) : ∃ A o, TkS w A ∧ Opd A o := by
  unfold parseOf at h
  cases hl : lexOf (flatP selP ++ (w ++ 32 :: [102, 114, 111, 109, 32, 116])) with
  | inl f => rw [hl] at h; cases h
  | inr ts =>
    rw [hl] at h
    simp only at h
    have htk : tk 0 (flatP selP ++ (w ++ 32 :: [102, 114, 111, 109, 32, 116])) = .inr ts := by
      unfold lexOf at hl
      split at hl
      · cases hl
      · cases hk : tk 0 (flatP selP ++ (w ++ 32 :: [102, 114, 111, 109, 32, 116])) with
        | inl e => rw [hk] at hl; cases hl
        | inr us => rw [hk] at hl; cases hl; rfl
    have htz : ZeroOk ts := toks_zero _ _ _ _ htk
    have htt : ToksOk ts := (lexOf_ok hl).1
    rw [tk_pieces selP 0 _ (by intro a ha; simp only [selP, List.mem_cons, List.not_mem_nil, or_false] at ha; rcases ha with rfl | rfl <;> simp only [Pc.ok] <;> decide) (by simp [selP, AdjP, Pc.next, flatP, Pc.flat, isW, isL, isD])] at htk
    have hpl : placeP 0 selP = [(1, [83, 69, 76, 69, 67, 84], 0, 0)] := rfl
    have dl : dlB 32 := ⟨by decide, by decide, by decide, by decide⟩
    rw [hpl] at htk
    cases hw : tk (0 + (flatP selP).length) w with
    | inl e =>
      rw [tk_dl_bad dl (by decide) w.length w _ e (Nat.le_refl _) hw] at htk
      cases htk
    | inr ws =>
      have hft : ∃ F T, tk (0 + (flatP selP).length + w.length) (32 :: [102, 114, 111, 109, 32, 116]) = .inr [F, T] ∧ strip F = (1, [70, 82, 79, 77], 0) ∧ strip T = (1, [84], 0) := by
        have hp : flatP [.gap [32], .word [102, 114, 111, 109], .gap [32], .word [116]] = 32 :: [102, 114, 111, 109, 32, 116] := by decide
        have := tk_pieces [.gap [32], .word [102, 114, 111, 109], .gap [32], .word [116]] (0 + (flatP selP).length + w.length) [] (by intro a ha; simp only [List.mem_cons, List.not_mem_nil, or_false] at ha; rcases ha with rfl | rfl | rfl | rfl <;> simp only [Pc.ok] <;> decide) (by simp [AdjP, Pc.next, flatP, Pc.flat, isW, isL, isD])
        rw [hp, List.append_nil, tk_nil] at this
        exact ⟨_, _, this, rfl, rfl⟩
      obtain ⟨F, T, hft, hF, hT⟩ := hft
      rw [tk_dl dl _ w.length w _ ws (Nat.le_refl _) hw, hft] at htk
      cases htk
      cases hwh : whole (flatP selP ++ (w ++ 32 :: [102, 114, 111, 109, 32, 116])).length ((1, [83, 69, 76, 69, 67, 84], 0, 0) :: (ws ++ [F, T])) with
      | error e =>
        have h' := h
        rw [show [((1, [83, 69, 76, 69, 67, 84], 0, 0) : Tok)] ++ (ws ++ [F, T]) = (1, [83, 69, 76, 69, 67, 84], 0, 0) :: (ws ++ [F, T]) from rfl, hwh] at h'
        cases h'
      | ok z =>
        rw [show [((1, [83, 69, 76, 69, 67, 84], 0, 0) : Tok)] ++ (ws ++ [F, T]) = (1, [83, 69, 76, 69, 67, 84], 0, 0) :: (ws ++ [F, T]) from rfl, hwh] at h
        obtain ⟨y, r⟩ := z
        cases h
        have hr : r = [] := by
          unfold whole at hwh
          cases hs : stmt (flatP selP ++ (w ++ 32 :: [102, 114, 111, 109, 32, 116])).length ((1, [83, 69, 76, 69, 67, 84], 0, 0) :: (ws ++ [F, T])) with
          | error e => rw [hs] at hwh; cases hwh
          | ok z =>
            rw [hs, bnd_ok] at hwh
            by_cases hc : (if isT [59] z.2 then z.2.tail else z.2) = []
            · rw [if_pos hc] at hwh; cases hwh; rfl
            · rw [if_neg hc] at hwh; cases hwh
        subst hr
        have hz2 : ZeroOk (ws ++ [F, T]) := fun t hm => htz t (by simp at hm ⊢; exact .inr hm)
        have ht2 : ToksOk (ws ++ [F, T]) := fun t hm => htt t (by simp at hm ⊢; exact .inr hm)
        obtain ⟨C, F', rest, o, h1, h2, h3, h4⟩ := items_inv (S := (1, [83, 69, 76, 69, 67, 84], 0, 0)) rfl hz2 ht2 hwh hq hi
        have hFn : ¬ NoF F := fun hn => hn (by simp only [strip, Prod.mk.injEq] at hF; exact ⟨hF.1, hF.2.1⟩)
        have hTn : NoF T := fun hn => by
          simp only [strip, Prod.mk.injEq] at hT
          rw [hT.2.1] at hn
          exact absurd hn.2 (by decide)
        have h5 : C ++ F' :: rest = ws ++ F :: [T] := by rw [← h1]
        obtain ⟨rfl, -⟩ := last_eq C ws rest [T] F' F h5 h2 hFn h3 (by simpa using hTn)
        exact ⟨C.map strip, o, TkS.of hw, h4⟩
/-- The statement of 'select a from t where ' and a condition. -/
theorem parse_cond {s : Str} {B : List (Nat × Str × Nat)} (hs : TkS s B) {o : Option Ex} (ho : ∀ (E : Nat) (L : List Tok), L.map strip = B → Qr E 32 1 L o) {x : St} (h : parseOf ([115, 101, 108, 101, 99, 116, 32, 97, 32, 102, 114, 111, 109, 32, 116, 32, 119, 104, 101, 114, 101, 32] ++ s) = .inr x) : ∃ e, o = some e ∧ x = qWhere e := by
  unfold parseOf at h
  cases hl : lexOf ([115, 101, 108, 101, 99, 116, 32, 97, 32, 102, 114, 111, 109, 32, 116, 32, 119, 104, 101, 114, 101, 32] ++ s) with
  | inl f => rw [hl] at h; cases h
  | inr ts =>
    rw [hl] at h
    simp only at h
    obtain ⟨us, k1, k2⟩ := hs 22
    have htk : tk 0 ([115, 101, 108, 101, 99, 116, 32, 97, 32, 102, 114, 111, 109, 32, 116, 32, 119, 104, 101, 114, 101, 32] ++ s) = .inr ts := by
      unfold lexOf at hl
      split at hl
      · cases hl
      · cases hk : tk 0 ([115, 101, 108, 101, 99, 116, 32, 97, 32, 102, 114, 111, 109, 32, 116, 32, 119, 104, 101, 114, 101, 32] ++ s) with
        | inl e => rw [hk] at hl; cases hl
        | inr us => rw [hk] at hl; cases hl; rfl
    have hp := tk_pieces headP 0 s headP_ok (headP_adj s)
    rw [headP_flat] at hp
    rw [hp, show 0 + ([115, 101, 108, 101, 99, 116, 32, 97, 32, 102, 114, 111, 109, 32, 116, 32, 119, 104, 101, 114, 101, 32] : Str).length = 22 from rfl, k1] at htk
    cases htk
    have hpl : placeP 0 headP ++ us = (1, [83, 69, 76, 69, 67, 84], 0, 0) :: (1, [65], 0, 7) :: (1, [70, 82, 79, 77], 0, 9) :: (1, [84], 0, 14) :: (1, [87, 72, 69, 82, 69], 0, 16) :: us := rfl
    rw [hpl] at h
    have hq := ho ([115, 101, 108, 101, 99, 116, 32, 97, 32, 102, 114, 111, 109, 32, 116, 32, 119, 104, 101, 114, 101, 32] ++ s).length us k2 [] ⟨rfl, fun _ => rfl, fun _ => rfl, fun _ => rfl, fun _ => rfl, fun _ => rfl⟩
    rw [List.append_nil] at hq
    cases o with
    | none =>
      obtain ⟨f, hf⟩ := hq
      rw [whole_where_err rfl rfl rfl rfl rfl (show expr _ us = .error f from hf)] at h
      cases h
    | some e =>
      simp only at hq
      rw [whole_where_ok rfl rfl rfl rfl rfl (show expr _ us = .ok (e, []) from hq)] at h
      cases h
      exact ⟨e, rfl, rfl⟩
end Go.Proofs.YtkhnpmeohjafiaaGreatDoor
namespace Go.Proofs.YtkhnpmeohjafiaaGreatDoor

/-- A text, its tokens, and what the readers of a level make of them, from a depth on. -/
structure Tx (k d : Nat) (s : Str) (B : List (Nat × Str × Nat)) (o : Option Ex) : Prop where
  tk : TkS s B
  rd : ∀ (E n : Nat) (L : List Tok), d ≤ n → L.map strip = B → Qr E n k L o
def NN (B : List (Nat × Str × Nat)) : Prop := ∃ k m s C, B = (k, s, m) :: C ∧ s ≠ [78, 79, 84]
theorem NN.app {A B : List (Nat × Str × Nat)} (h : NN A) : NN (A ++ B) := by
  obtain ⟨k, m, s, C, rfl, h⟩ := h
  exact ⟨k, m, s, C ++ B, rfl, h⟩
theorem NN.cons {k m : Nat} {s : Str} (B : List (Nat × Str × Nat)) (h : s ≠ [78, 79, 84]) : NN ((k, s, m) :: B) := ⟨k, m, s, B, rfl, h⟩
theorem NN.no {B : List (Nat × Str × Nat)} (h : NN B) {L : List Tok} (hL : L.map strip = B) : NoNot L := by
  obtain ⟨k, m, s, C, rfl, h⟩ := h
  obtain ⟨t, us, rfl, h1, h2⟩ := map_cons hL
  exact NoNot.of h1 h
theorem map_app {L : List Tok} {A B : List (Nat × Str × Nat)} (h : L.map strip = A ++ B) : ∃ X Y, L = X ++ Y ∧ X.map strip = A ∧ Y.map strip = B := by
  obtain ⟨X, Y, rfl, h1, h2⟩ := List.map_eq_append_iff.1 h
  exact ⟨X, Y, rfl, h1, h2⟩
variable {k j d : Nat} {s t u : Str} {A B C : List (Nat × Str × Nat)} {o p q : Option Ex}
theorem Tx.word (h : TkS s A) (ho : Opd A o) (d : Nat) : Tx 7 d s A o := ⟨h, fun _ _ _ _ hL => ho.qr hL⟩
theorem Tx.lift (h : Tx j d s A o) (hn : NN A) (h1 : 1 ≤ k) (hk : k ≤ j) (h7 : j ≤ 7) : Tx k d s A o := ⟨h.tk, fun E n L hd hL => Qr.lift h1 hk h7 (hn.no hL) (h.rd E n L hd hL)⟩
theorem Tx.lift3 (h : Tx j d s A o) (h1 : 1 ≤ k) (hk : k ≤ j) (h7 : j ≤ 3) : Tx k d s A o := ⟨h.tk, fun E n L hd hL => Qr.lift3 h1 hk h7 (h.rd E n L hd hL)⟩
theorem tk_sig {y : UInt8} (hy : [y] ∈ signs14) (h60 : y ≠ 60) (h62 : y ≠ 62) (h : TkS s A) : TkS (y :: s) ((4, [y], 0) :: A) := by
  have := TkS.pcs (l := [.sig [y]]) (r := s) (by simpa [Pc.ok] using hy) ⟨fun h => absurd h (by simp [h60, h62]), trivial⟩ h
  simpa [flatP, Pc.flat, bareP, Pc.bare] using this
theorem Tx.bin {y : UInt8} (hy : dlB y) (hs : [y] ∈ signs14) (h60 : y ≠ 60) (hk : k = 1 ∨ k = 2 ∨ k = 5 ∨ k = 6) (ho : [y] ∈ opsOf k) (h1 : Tx (k + 1) d s A o) (h2 : Tx (k + 1) d t B p) :
    Tx k d (s ++ y :: t) (A ++ (4, [y], 0) :: B) (two' [y] o p) := by
  refine ⟨TkS.appd hy h1.tk (tk_sig hs h60 hy.2.2.2 h2.tk), fun E n L hd hL => ?_⟩
  obtain ⟨X, Y, rfl, hX, hY⟩ := map_app hL
  obtain ⟨t, us, rfl, ht, hu⟩ := map_cons hY
  exact Qr.bin hk ho ht (.inr rfl) (h1.rd E n X hd hX) (h2.rd E n us hd hu)
theorem Tx.bin3 {y : UInt8} (hy : dlB y) (hs : [y] ∈ signs14) (h60 : y ≠ 60) (hk : k = 1 ∨ k = 2 ∨ k = 5 ∨ k = 6) (ho : [y] ∈ opsOf k) (h1 : Tx (k + 1) d s A o) (h2 : Tx (k + 1) d t B p) (h3 : Tx (k + 1) d u C q) :
    Tx k d (s ++ y :: (t ++ y :: u)) (A ++ (4, [y], 0) :: (B ++ (4, [y], 0) :: C)) (two' [y] (two' [y] o p) q) := by
  refine ⟨TkS.appd hy h1.tk (tk_sig hs h60 hy.2.2.2 (TkS.appd hy h2.tk (tk_sig hs h60 hy.2.2.2 h3.tk))), fun E n L hd hL => ?_⟩
  obtain ⟨X, Y, rfl, hX, hY⟩ := map_app hL
  obtain ⟨t, us, rfl, ht, hu⟩ := map_cons hY
  obtain ⟨X', Y', rfl, hX', hY'⟩ := map_app hu
  obtain ⟨t', us', rfl, ht', hu'⟩ := map_cons hY'
  exact Qr.bin3 hk ho ht ht' (.inr rfl) (h1.rd E n X hd hX) (h2.rd E n X' hd hX') (h3.rd E n us' hd hu')
theorem tk_word {w : Str} {y : UInt8} (hw : Pc.ok (.word w)) (hy : isB y = true) (hyw : isW y = false) (h : TkS s A) : TkS (w ++ y :: s) ((1, w.map up, 0) :: A) := by
  have := TkS.pcs (l := [.word w, .gap [y]]) (r := s) (by intro a ha; simp only [List.mem_cons, List.not_mem_nil, or_false] at ha; rcases ha with rfl | rfl; exact hw; simpa [Pc.ok] using hy) ⟨by simpa [Pc.next, flatP, Pc.flat] using hyw, trivial, trivial⟩ h
  simpa [flatP, Pc.flat, bareP, Pc.bare] using this
theorem tk_gap {y : UInt8} (hy : isB y = true) (h : TkS s A) : TkS (y :: s) A := by
  have := TkS.pcs (l := [.gap [y]]) (r := s) (by intro a ha; simp only [List.mem_cons, List.not_mem_nil, or_false] at ha; rcases ha with rfl; simpa [Pc.ok] using hy) ⟨trivial, trivial⟩ h
  simpa [flatP, Pc.flat, bareP, Pc.bare] using this
theorem Tx.binW {w : Str} (hw : Pc.ok (.word w)) (hk : k = 1 ∨ k = 2 ∨ k = 5 ∨ k = 6) (ho : w.map up ∈ opsOf k) (h1 : Tx (k + 1) d s A o) (h2 : Tx (k + 1) d t B p) :
    Tx k d (s ++ 32 :: (w ++ 32 :: t)) (A ++ (1, w.map up, 0) :: B) (two' (w.map up) o p) := by
  refine ⟨TkS.appd ⟨by decide, by decide, by decide, by decide⟩ h1.tk (tk_gap (by decide) (tk_word hw (by decide) (by decide) h2.tk)), fun E n L hd hL => ?_⟩
  obtain ⟨X, Y, rfl, hX, hY⟩ := map_app hL
  obtain ⟨t, us, rfl, ht, hu⟩ := map_cons hY
  exact Qr.bin hk ho ht (.inl rfl) (h1.rd E n X hd hX) (h2.rd E n us hd hu)
theorem Tx.cmp {y : UInt8} (h3 : isW y = false) (h39 : y ≠ 39) (hx : ∀ x ∈ s, safe2 x y) (hT : TkS (y :: t) ((4, [y], 0) :: B)) (ho : [y] ∈ cmpL) (h1 : Tx 5 d s A o) (h2 : Tx 5 d t B p) :
    Tx 4 d (s ++ y :: t) (A ++ (4, [y], 0) :: B) (two' [y] o p) := by
  refine ⟨TkS.app h3 h39 hx h1.tk hT, fun E n L hd hL => ?_⟩
  obtain ⟨X, Y, rfl, hX, hY⟩ := map_app hL
  obtain ⟨t, us, rfl, ht, hu⟩ := map_cons hY
  exact Qr.cmp ho ht (h1.rd E n X hd hX) (h2.rd E n us hd hu)
theorem Tx.no (h : Tx 3 d s A o) : Tx 3 (d + 1) ([110, 111, 116] ++ 32 :: s) ((1, [78, 79, 84], 0) :: A) (o.map (eOne [78, 79, 84])) := by
  refine ⟨tk_word (w := [110, 111, 116]) ⟨by decide, by decide⟩ (by decide) (by decide) h.tk, fun E n L hd hL => ?_⟩
  obtain ⟨t, us, rfl, ht, hu⟩ := map_cons hL
  obtain ⟨m, rfl⟩ : ∃ m, n = m + 1 := ⟨n - 1, by omega⟩
  exact Qr.no ht (h.rd E m us (by omega) hu)
theorem Tx.neg (h : Tx 7 d s A o) : Tx 7 (d + 1) (45 :: s) ((4, [45], 0) :: A) (o.map (eOne [45])) := by
  refine ⟨tk_sig (by decide) (by decide) (by decide) h.tk, fun E n L hd hL => ?_⟩
  obtain ⟨t, us, rfl, ht, hu⟩ := map_cons hL
  obtain ⟨m, rfl⟩ : ∃ m, n = m + 1 := ⟨n - 1, by omega⟩
  exact Qr.neg ht (h.rd E m us (by omega) hu)
theorem Tx.par (h : Tx 1 d s A o) : Tx 7 (d + 1) (40 :: (s ++ [41])) ((4, [40], 0) :: (A ++ [(4, [41], 0)])) o := by
  refine ⟨tk_sig (by decide) (by decide) (by decide) (TkS.appd ⟨by decide, by decide, by decide, by decide⟩ h.tk (tk_sig (by decide) (by decide) (by decide) TkS.nil)), fun E n L hd hL => ?_⟩
  obtain ⟨t, us, rfl, ht, hu⟩ := map_cons hL
  obtain ⟨X, Y, rfl, hX, hY⟩ := map_app hu
  obtain ⟨t', us', rfl, ht', hu'⟩ := map_cons hY
  obtain rfl : us' = [] := by simpa using hu'
  obtain ⟨m, rfl⟩ : ∃ m, n = m + 1 := ⟨n - 1, by omega⟩
  exact Qr.par ht ht' (h.rd E m X (by omega) hX)
/-- Two texts of one reading make one statement. -/
theorem Tx.same (h1 : Tx 1 d s A o) (h2 : Tx 1 d t B o) (hd : d ≤ 32) : ∀ x y, parseOf ([115, 101, 108, 101, 99, 116, 32, 97, 32, 102, 114, 111, 109, 32, 116, 32, 119, 104, 101, 114, 101, 32] ++ s) = .inr x → parseOf ([115, 101, 108, 101, 99, 116, 32, 97, 32, 102, 114, 111, 109, 32, 116, 32, 119, 104, 101, 114, 101, 32] ++ t) = .inr y → x = y := by
  intro x y hx hy
  obtain ⟨e, he, rfl⟩ := parse_cond h1.tk (fun E L hL => h1.rd E 32 L hd hL) hx
  obtain ⟨f, hf, rfl⟩ := parse_cond h2.tk (fun E L hL => h2.rd E 32 L hd hL) hy
  rw [he] at hf; cases hf; rfl
/-- The words' texts. -/
def Wd (s : Str) : Prop := ∃ A o, TkS s A ∧ Opd A o
theorem Opd.nn {A : List (Nat × Str × Nat)} {o : Option Ex} (h : Opd A o) : NN A := by
  obtain ⟨s, B, rfl, hs⟩ := h.first
  exact NN.cons B hs
theorem plainW (h : TkS s A) (ho : Opd A o) : ∀ x ∈ s, x ≠ 60 ∧ x ≠ 62 := by
  obtain ⟨us, h1, h2⟩ := h 0
  refine plain_bytes s.length s 0 us (Nat.le_refl _) h1 fun t ht => ?_
  have := ho.plain (strip t) (by rw [← h2]; exact List.mem_map_of_mem ht)
  exact this
section
variable {a b c : Str}
def Pair (s t : Str) : Prop := ∀ x y, parseOf ([115, 101, 108, 101, 99, 116, 32, 97, 32, 102, 114, 111, 109, 32, 116, 32, 119, 104, 101, 114, 101, 32] ++ s) = .inr x → parseOf ([115, 101, 108, 101, 99, 116, 32, 97, 32, 102, 114, 111, 109, 32, 116, 32, 119, 104, 101, 114, 101, 32] ++ t) = .inr y → x = y
theorem pair1 (ha : Wd a) (hb : Wd b) (hc : Wd c) : Pair (a ++ 43 :: (b ++ 42 :: c)) (a ++ 43 :: 40 :: (b ++ 42 :: (c ++ [41]))) := by
  obtain ⟨A, oa, ta, wa⟩ := ha
  obtain ⟨B, ob, tb, wb⟩ := hb
  obtain ⟨C, oc, tc, wc⟩ := hc
  have bc : Tx 6 1 (b ++ 42 :: c) _ _ := Tx.bin (y := 42) ⟨by decide, by decide, by decide, by decide⟩ (by decide) (by decide) (by simp) (by decide) (Tx.word tb wb 1) (Tx.word tc wc 1)
  have a6 := (Tx.word ta wa 1).lift wa.nn (k := 6) (by omega) (by omega) (by omega)
  have l := (Tx.bin (k := 5) (y := 43) ⟨by decide, by decide, by decide, by decide⟩ (by decide) (by decide) (by simp) (by decide) a6 bc).lift (k := 1) wa.nn.app (by omega) (by omega) (by omega)
  have bc0 : Tx 6 0 (b ++ 42 :: c) _ _ := Tx.bin (y := 42) ⟨by decide, by decide, by decide, by decide⟩ (by decide) (by decide) (by simp) (by decide) (Tx.word tb wb 0) (Tx.word tc wc 0)
  have pr := (Tx.par (bc0.lift (k := 1) wb.nn.app (by omega) (by omega) (by omega))).lift (k := 6) (NN.cons _ (by decide)) (by omega) (by omega) (by omega)
  have r := (Tx.bin (k := 5) (y := 43) ⟨by decide, by decide, by decide, by decide⟩ (by decide) (by decide) (by simp) (by decide) a6 pr).lift (k := 1) wa.nn.app (by omega) (by omega) (by omega)
  have := Tx.same l r (by omega)
  simpa [Pair] using this
theorem pair2 (ha : Wd a) (hb : Wd b) (hc : Wd c) : Pair (a ++ 45 :: (b ++ 45 :: c)) (40 :: (a ++ 45 :: (b ++ 41 :: 45 :: c))) := by
  obtain ⟨A, oa, ta, wa⟩ := ha
  obtain ⟨B, ob, tb, wb⟩ := hb
  obtain ⟨C, oc, tc, wc⟩ := hc
  have a6 := fun d => (Tx.word ta wa d).lift wa.nn (k := 6) (by omega) (by omega) (by omega)
  have b6 := fun d => (Tx.word tb wb d).lift wb.nn (k := 6) (by omega) (by omega) (by omega)
  have c6 := fun d => (Tx.word tc wc d).lift wc.nn (k := 6) (by omega) (by omega) (by omega)
  have l := (Tx.bin3 (k := 5) (y := 45) ⟨by decide, by decide, by decide, by decide⟩ (by decide) (by decide) (by simp) (by decide) (a6 1) (b6 1) (c6 1)).lift (k := 1) wa.nn.app (by omega) (by omega) (by omega)
  have ab := (Tx.bin (k := 5) (y := 45) ⟨by decide, by decide, by decide, by decide⟩ (by decide) (by decide) (by simp) (by decide) (a6 0) (b6 0)).lift (k := 1) wa.nn.app (by omega) (by omega) (by omega)
  have pr := ab.par.lift (k := 6) (NN.cons _ (by decide)) (by omega) (by omega) (by omega)
  have r := (Tx.bin (k := 5) (y := 45) ⟨by decide, by decide, by decide, by decide⟩ (by decide) (by decide) (by simp) (by decide) pr (c6 1)).lift (k := 1) (NN.app (NN.cons _ (by decide))) (by omega) (by omega) (by omega)
  have := Tx.same l r (by omega)
  simpa [Pair] using this
theorem tk_less (h : TkS s A) (h' : Opd A o) : TkS (60 :: s) ((4, [60], 0) :: A) := by
  obtain ⟨x, B, rfl, -⟩ := h'.first
  have := TkS.pcs (l := [.sig [60]]) (r := s) (by intro a ha; simp only [List.mem_cons, List.not_mem_nil, or_false] at ha; rcases ha with rfl; show _ ∈ signs14; decide) ⟨fun _ => word_first h rfl, trivial⟩ h
  simpa [flatP, Pc.flat, bareP, Pc.bare] using this
theorem pair3 (ha : Wd a) (hb : Wd b) (hc : Wd c) : Pair (a ++ 43 :: (b ++ 60 :: c)) (40 :: (a ++ 43 :: (b ++ 41 :: 60 :: c))) := by
  obtain ⟨A, oa, ta, wa⟩ := ha
  obtain ⟨B, ob, tb, wb⟩ := hb
  obtain ⟨C, oc, tc, wc⟩ := hc
  have a6 := fun d => (Tx.word ta wa d).lift wa.nn (k := 6) (by omega) (by omega) (by omega)
  have b6 := fun d => (Tx.word tb wb d).lift wb.nn (k := 6) (by omega) (by omega) (by omega)
  have c5 := fun d => (Tx.word tc wc d).lift wc.nn (k := 5) (by omega) (by omega) (by omega)
  have ab := fun d => Tx.bin (k := 5) (y := 43) ⟨by decide, by decide, by decide, by decide⟩ (by decide) (by decide) (by simp) (by decide) (a6 d) (b6 d)
  have hsafe : ∀ x : UInt8, safe2 x 60 := fun x => by unfold safe2; simp
  have l := (Tx.cmp (y := 60) (by decide) (by decide) (fun x _ => hsafe x) (tk_less tc wc) (by decide) (ab 1) (c5 1)).lift (k := 1) wa.nn.app.app (by omega) (by omega) (by omega)
  have pr := ((ab 0).lift (k := 1) wa.nn.app (by omega) (by omega) (by omega)).par.lift (k := 5) (NN.cons _ (by decide)) (by omega) (by omega) (by omega)
  have r := (Tx.cmp (y := 60) (by decide) (by decide) (fun x _ => hsafe x) (tk_less tc wc) (by decide) pr (c5 1)).lift (k := 1) (NN.app (NN.cons _ (by decide))) (by omega) (by omega) (by omega)
  have := Tx.same l r (by omega)
  simpa [Pair] using this
theorem pair4 (ha : Wd a) (hb : Wd b) : Pair ([110, 111, 116] ++ 32 :: (a ++ 61 :: b)) ([110, 111, 116] ++ 32 :: 40 :: (a ++ 61 :: (b ++ [41]))) := by
  obtain ⟨A, oa, ta, wa⟩ := ha
  obtain ⟨B, ob, tb, wb⟩ := hb
  have a5 := fun d => (Tx.word ta wa d).lift wa.nn (k := 5) (by omega) (by omega) (by omega)
  have b5 := fun d => (Tx.word tb wb d).lift wb.nn (k := 5) (by omega) (by omega) (by omega)
  have hsafe : ∀ x ∈ a, safe2 x 61 := fun x hx => by
    have := plainW ta wa x hx
    unfold safe2
    simp [this.1, this.2]
  have ab := fun d => Tx.cmp (y := 61) (by decide) (by decide) hsafe (tk_sig (by decide) (by decide) (by decide) tb) (by decide) (a5 d) (b5 d)
  have l := (Tx.no ((ab 1).lift (k := 3) wa.nn.app (by omega) (by omega) (by omega))).lift3 (k := 1) (by omega) (by omega) (by omega)
  have r := (Tx.no (((ab 0).lift (k := 1) wa.nn.app (by omega) (by omega) (by omega)).par.lift (k := 3) (NN.cons _ (by decide)) (by omega) (by omega) (by omega))).lift3 (k := 1) (by omega) (by omega) (by omega)
  have := Tx.same l r (by omega)
  simpa [Pair] using this
theorem pair5 (ha : Wd a) (hb : Wd b) : Pair ([110, 111, 116] ++ 32 :: (a ++ 32 :: ([97, 110, 100] ++ 32 :: b))) (40 :: ([110, 111, 116] ++ 32 :: (a ++ 41 :: 32 :: ([97, 110, 100] ++ 32 :: b)))) := by
  obtain ⟨A, oa, ta, wa⟩ := ha
  obtain ⟨B, ob, tb, wb⟩ := hb
  have a3 := fun d => (Tx.word ta wa d).lift wa.nn (k := 3) (by omega) (by omega) (by omega)
  have b3 := fun d => (Tx.word tb wb d).lift wb.nn (k := 3) (by omega) (by omega) (by omega)
  have l := (Tx.binW (k := 2) (w := [97, 110, 100]) ⟨by decide, by decide⟩ (by simp) (by decide) (Tx.no (a3 1)) (b3 2)).lift3 (k := 1) (by omega) (by omega) (by omega)
  have pr := ((Tx.no (a3 0)).lift3 (k := 1) (by omega) (by omega) (by omega)).par.lift (k := 3) (NN.cons _ (by decide)) (by omega) (by omega) (by omega)
  have r := (Tx.binW (k := 2) (w := [97, 110, 100]) ⟨by decide, by decide⟩ (by simp) (by decide) pr (b3 2)).lift3 (k := 1) (by omega) (by omega) (by omega)
  have := Tx.same l r (by omega)
  simpa [Pair] using this
theorem pair6 (ha : Wd a) (hb : Wd b) (hc : Wd c) : Pair (a ++ 32 :: ([111, 114] ++ 32 :: (b ++ 32 :: ([97, 110, 100] ++ 32 :: c)))) (a ++ 32 :: ([111, 114] ++ 32 :: 40 :: (b ++ 32 :: ([97, 110, 100] ++ 32 :: (c ++ [41]))))) := by
  obtain ⟨A, oa, ta, wa⟩ := ha
  obtain ⟨B, ob, tb, wb⟩ := hb
  obtain ⟨C, oc, tc, wc⟩ := hc
  have a2 := fun d => (Tx.word ta wa d).lift wa.nn (k := 2) (by omega) (by omega) (by omega)
  have b3 := fun d => (Tx.word tb wb d).lift wb.nn (k := 3) (by omega) (by omega) (by omega)
  have c3 := fun d => (Tx.word tc wc d).lift wc.nn (k := 3) (by omega) (by omega) (by omega)
  have bc := fun d => Tx.binW (k := 2) (w := [97, 110, 100]) ⟨by decide, by decide⟩ (by simp) (by decide) (b3 d) (c3 d)
  have l := Tx.binW (k := 1) (w := [111, 114]) ⟨by decide, by decide⟩ (by simp) (by decide) (a2 1) (bc 1)
  have pr := ((bc 0).lift3 (k := 1) (by omega) (by omega) (by omega)).par.lift (k := 2) (NN.cons _ (by decide)) (by omega) (by omega) (by omega)
  have r := Tx.binW (k := 1) (w := [111, 114]) ⟨by decide, by decide⟩ (by simp) (by decide) (a2 1) pr
  have := Tx.same l r (by omega)
  simpa [Pair] using this
theorem pair7 (ha : Wd a) (hb : Wd b) : Pair (45 :: (a ++ 42 :: b)) (40 :: 45 :: (a ++ 41 :: 42 :: b)) := by
  obtain ⟨A, oa, ta, wa⟩ := ha
  obtain ⟨B, ob, tb, wb⟩ := hb
  have l := (Tx.bin (k := 6) (y := 42) ⟨by decide, by decide, by decide, by decide⟩ (by decide) (by decide) (by simp) (by decide) (Tx.neg (Tx.word ta wa 1)) (Tx.word tb wb 2)).lift (k := 1) (NN.app (NN.cons _ (by decide))) (by omega) (by omega) (by omega)
  have pr := ((Tx.neg (Tx.word ta wa 0)).lift (k := 1) (NN.cons _ (by decide)) (by omega) (by omega) (by omega)).par
  have r := (Tx.bin (k := 6) (y := 42) ⟨by decide, by decide, by decide, by decide⟩ (by decide) (by decide) (by simp) (by decide) pr (Tx.word tb wb 2)).lift (k := 1) (NN.app (NN.cons _ (by decide))) (by omega) (by omega) (by omega)
  have := Tx.same l r (by omega)
  simpa [Pair] using this
end
end Go.Proofs.YtkhnpmeohjafiaaGreatDoor
