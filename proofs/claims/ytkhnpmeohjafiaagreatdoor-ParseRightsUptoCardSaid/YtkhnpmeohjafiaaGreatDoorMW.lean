/- The tokens of texts that are put together: plain law. No program is named here. Conditions that are put together are read as they should: plain law. No program is named here. What stands between 'select' and 'from t', if it is read with one item: plain law. No program is named here. -/
import Derived.Test.YtkhnpmeohjafiaaGreatDoorMV
namespace Go.Proofs.YtkhnpmeohjafiaaGreatDoor

/-- x and y, side by side, are no sign of two bytes. -/
def safe2 (x y : UInt8) : Prop := ¬ ((x = 60 ∧ (y = 62 ∨ y = 61)) ∨ (x = 62 ∧ y = 61))
theorem dl_safe {y : UInt8} (hy : dlB y) (x : UInt8) : safe2 x y := by
  rintro (⟨_, h | h⟩ | ⟨_, h⟩)
  · exact hy.2.2.2 h
  · exact hy.2.2.1 h
  · exact hy.2.2.1 h
theorem one_ds {y : UInt8} (h3 : isW y = false) (h39 : y ≠ 39) (b : List UInt8) {l : List UInt8} (hs : ∀ x ∈ l, safe2 x y) {z : Nat × List UInt8 × Nat × Nat} (h : one l = some z) : one (l ++ y :: b) = some z := by
  have h1 := isL_of_W h3
  have h2 := isD_of_W h3
  cases l with
  | nil => simp [one] at h
  | cons x r =>
    rw [List.cons_append]
    rw [one_cons] at h ⊢
    split at h
    · rename_i hx
      rw [if_pos hx, ← List.cons_append, takeWhile_blank h3]; exact h
    · rename_i hx
      rw [if_neg hx]
      split at h
      · rename_i hd
        rw [if_pos hd, ← List.cons_append, takeWhile_blank h2, dropWhile_blank h2]
        split at h
        · rename_i hc
          rw [if_pos ⟨hc.1, headL_blank h1 hc.2⟩]; exact h
        · cases h
      · rename_i hd
        rw [if_neg hd]
        split at h
        · rename_i hq
          rw [if_pos hq]
          cases hr : quo r with
          | none => rw [hr] at h; simp at h
          | some q => rw [quo_blank h39 b r q.1 q.2 hr]; rw [hr] at h; exact h
        · rename_i hq
          rw [if_neg hq]
          have hsg : sgn x (r ++ y :: b) = sgn x r := by
            cases r with
            | nil =>
              simp only [List.nil_append]
              unfold sgn
              simp only
              rw [if_neg (hs x (by simp))]
            | cons z r => rfl
          rw [hsg]; exact h
theorem tk_ds {y : UInt8} (h3 : isW y = false) (h39 : y ≠ 39) (b : List UInt8) : ∀ (n : Nat) (l : List UInt8) (p : Nat) (ts : List Tok), l.length ≤ n → (∀ x ∈ l, safe2 x y) → tk p l = .inr ts → tk p (l ++ y :: b) = appR ts (tk (p + l.length) (y :: b))
  | _, [], p, ts, hn, _, h => by
    rw [tk_nil] at h
    cases h
    rw [appR_nil, List.nil_append]; rfl
  | 0, x :: r, p, ts, hn, _, h => by simp at hn
  | n + 1, x :: r, p, ts, hn, hs, h => by
    simp only [List.length_cons] at hn
    cases hb : isB x with
    | true =>
      rw [tk_blank hb] at h
      rw [List.cons_append, tk_blank hb, tk_ds h3 h39 b n r _ ts (by omega) (fun z hz => hs z (List.mem_cons_of_mem _ hz)) h]
      congr 2
      simp; omega
    | false =>
      cases ho : one (x :: r) with
      | none => rw [tk_none hb ho] at h; cases h
      | some q =>
        obtain ⟨k, t, m, len⟩ := q
        have hle := one_le ho
        rw [tk_some ho] at h
        have ho' := one_ds h3 h39 b hs ho
        rw [List.cons_append] at ho' ⊢
        rw [tk_some ho']
        cases hq : tk (p + len) ((x :: r).drop len) with
        | inl e => rw [hq] at h; cases h
        | inr us =>
          rw [hq] at h
          cases h
          have hd : (x :: (r ++ y :: b)).drop len = (x :: r).drop len ++ y :: b := by
            rw [← List.cons_append, List.drop_append_of_le_length (by simpa using hle.2)]
          have hlen : ((x :: r).drop len).length ≤ n := by rw [List.length_drop, List.length_cons]; omega
          rw [hd, tk_ds h3 h39 b n _ _ us hlen (fun z hz => hs z (List.mem_of_mem_drop hz)) hq, appR_cons]
          congr 3
          rw [List.length_drop]
          simp at hle ⊢
          omega
/-- A text's tokens, without their places. -/
def TkS (s : Str) (B : List (Nat × Str × Nat)) : Prop := ∀ p, ∃ us, tk p s = .inr us ∧ us.map strip = B
theorem TkS.of {s : Str} {p : Nat} {us : List Tok} (h : tk p s = .inr us) : TkS s (us.map strip) := fun q => tk_strip h
theorem TkS.nil : TkS [] [] := fun _ => ⟨[], rfl, rfl⟩
theorem TkS.app {a b : Str} {y : UInt8} {A B : List (Nat × Str × Nat)} (h3 : isW y = false) (h39 : y ≠ 39) (hs : ∀ x ∈ a, safe2 x y) (ha : TkS a A) (hb : TkS (y :: b) B) : TkS (a ++ y :: b) (A ++ B) := fun p => by
  obtain ⟨us, h1, h2⟩ := ha p
  obtain ⟨vs, k1, k2⟩ := hb (p + a.length)
  refine ⟨us ++ vs, ?_, by rw [List.map_append, h2, k2]⟩
  rw [tk_ds h3 h39 b a.length a p us (Nat.le_refl _) hs h1, k1]; rfl
theorem TkS.appd {a b : Str} {y : UInt8} {A B : List (Nat × Str × Nat)} (hy : dlB y) (ha : TkS a A) (hb : TkS (y :: b) B) : TkS (a ++ y :: b) (A ++ B) := TkS.app hy.1 hy.2.1 (fun x _ => dl_safe hy x) ha hb
theorem TkS.pcs {l : List Pc} {r : Str} {B : List (Nat × Str × Nat)} (ho : ∀ a ∈ l, a.ok) (hj : AdjP l r) (h : TkS r B) : TkS (flatP l ++ r) (bareP l ++ B) := fun p => by
  obtain ⟨us, h1, h2⟩ := h (p + (flatP l).length)
  refine ⟨placeP p l ++ us, ?_, by rw [List.map_append, placeP_strip, h2]⟩
  rw [tk_pieces l p r ho hj, h1]; rfl
theorem take_twp {p : UInt8 → Bool} : ∀ l : List UInt8, l.take (l.takeWhile p).length = l.takeWhile p
  | [] => rfl
  | x :: r => by
    rw [List.takeWhile_cons]
    cases p x
    · rfl
    · simp [take_twp r]
/-- Bytes of a text whose tokens are words and points. -/
theorem plain_bytes : ∀ (n : Nat) (l : List UInt8) (p : Nat) (ts : List Tok), l.length ≤ n → tk p l = .inr ts → (∀ t ∈ ts, t.1 = 1 ∨ (t.1 = 4 ∧ t.2.1 = [46])) → ∀ x ∈ l, x ≠ 60 ∧ x ≠ 62
  | _, [], p, ts, hn, h, _ => by simp
  | 0, x :: r, p, ts, hn, h, _ => by simp at hn
  | n + 1, x :: r, p, ts, hn, h, ht => by
    simp only [List.length_cons] at hn
    cases hb : isB x with
    | true =>
      rw [tk_blank hb] at h
      have ih := plain_bytes n r _ ts (by omega) h ht
      intro z hz
      rcases List.mem_cons.1 hz with rfl | hz
      · constructor <;> (rintro rfl; revert hb; decide)
      · exact ih z hz
    | false =>
      cases ho : one (x :: r) with
      | none => rw [tk_none hb ho] at h; cases h
      | some q =>
        obtain ⟨k, t, m, len⟩ := q
        have hle := one_le ho
        rw [tk_some ho] at h
        cases hq : tk (p + len) ((x :: r).drop len) with
        | inl e => rw [hq] at h; cases h
        | inr us =>
          rw [hq] at h
          cases h
          have ih := plain_bytes n _ _ us (by rw [List.length_drop, List.length_cons]; omega) hq (fun t h => ht t (List.mem_cons_of_mem _ h))
          have h0 := ht (k, t, m, p) (by simp)
          simp only at h0
          intro z hz
          rw [← List.take_append_drop len (x :: r)] at hz
          rcases List.mem_append.1 hz with hz | hz
          · rw [one_cons] at ho
            split at ho
            · simp only [Option.some.injEq, Prod.mk.injEq] at ho
              obtain ⟨-, -, -, rfl⟩ := ho
              have hw : isW z = true := by
                rw [take_twp] at hz
                exact mem_takeWhile hz
              constructor <;> (rintro rfl; revert hw; decide)
            · split at ho
              · split at ho
                · simp only [Option.some.injEq, Prod.mk.injEq] at ho
                  obtain ⟨rfl, -⟩ := ho
                  simp at h0
                · cases ho
              · split at ho
                · cases hr : quo r with
                  | none => rw [hr] at ho; simp at ho
                  | some q =>
                    rw [hr] at ho
                    simp at ho
                    obtain ⟨rfl, -⟩ := ho
                    simp at h0
                · cases hr : sgn x r with
                  | none => rw [hr] at ho; simp at ho
                  | some s =>
                    rw [hr] at ho
                    simp at ho
                    obtain ⟨rfl, rfl, rfl, rfl⟩ := ho
                    have hs : s = [46] := by simpa using h0
                    subst hs
                    have hx : x = 46 := by
                      unfold sgn sgnOne at hr
                      cases r with
                      | nil =>
                        simp only at hr
                        split at hr
                        · simpa using hr
                        · cases hr
                      | cons y r =>
                        simp only at hr
                        split at hr
                        · simp at hr
                        · split at hr
                          · simpa using hr
                          · cases hr
                    simp at hz
                    subst hz hx
                    decide
          · exact ih z hz
/-- The first byte of a text whose first token is a word. -/
theorem word_first {s : Str} {b : Nat × Str × Nat} {B : List (Nat × Str × Nat)} (h : TkS s (b :: B)) (hb : b.1 = 1) : ∀ x, s.head? = some x → x ≠ 61 ∧ x ≠ 62 := by
  intro x hx
  cases s with
  | nil => cases hx
  | cons y r =>
    cases hx
    cases hbl : isB x with
    | true => constructor <;> (rintro rfl; revert hbl; decide)
    | false =>
      obtain ⟨us, h1, h2⟩ := h 0
      cases ho : one (x :: r) with
      | none => rw [tk_none hbl ho] at h1; cases h1
      | some q =>
        obtain ⟨k, t, m, len⟩ := q
        rw [tk_some ho] at h1
        cases hq : tk (0 + len) ((x :: r).drop len) with
        | inl e => rw [hq] at h1; cases h1
        | inr vs =>
          rw [hq] at h1
          cases h1
          simp only [List.map_cons, List.cons.injEq] at h2
          have hk : k = 1 := by
            have := h2.1
            rw [← this] at hb
            exact hb
          subst hk
          rw [one_cons] at ho
          split at ho
          · rename_i hl
            constructor <;> (rintro rfl; revert hl; decide)
          · exfalso
            split at ho
            · split at ho <;> simp at ho
            · split at ho
              · cases hr : quo r with
                | none => rw [hr] at ho; simp at ho
                | some q => rw [hr] at ho; simp at ho
              · cases hr : sgn x r with
                | none => rw [hr] at ho; simp at ho
                | some s => rw [hr] at ho; simp at ho
end Go.Proofs.YtkhnpmeohjafiaaGreatDoor
namespace Go.Proofs.YtkhnpmeohjafiaaGreatDoor

/-- What the reader of a level makes of these tokens, whatever may follow: an expression, or a fault. -/
def Qr (E n j : Nat) (L : List Tok) (o : Option Ex) : Prop := ∀ r, SK j r → match o with
  | some e => rd E n j (L ++ r) = .ok (e, r)
  | none => ∃ x, rd E n j (L ++ r) = .error x
section
variable {E n : Nat}
theorem ch_none {f : List Tok → Res Ex} {ops : List Str} {ts : List Tok} (h : ∃ x, f ts = .error x) : ∃ x, ch f ops ts = .error x := by
  obtain ⟨x, h⟩ := h; exact ⟨x, ch_err h⟩
theorem sk_stop {k : Nat} (hk : k = 1 ∨ k = 2 ∨ k = 5 ∨ k = 6) {r : List Tok} (h : SK k r) : anyT (opsOf k) r = false := by
  obtain ⟨_, s6, s5, _, s2, s1⟩ := h
  rcases hk with rfl | rfl | rfl | rfl
  · exact s1 (by omega)
  · exact s2 (by omega)
  · exact s5 (by omega)
  · exact s6 (by omega)
theorem any_op {op : Str} {L : List Str} (h : op ∈ L) {t : Tok} {r : List Tok} {k : Nat} (ht : strip t = (k, op, 0)) (hk : k = 1 ∨ k = 4) : anyT L (t :: r) = true := by
  simp only [anyT, List.any_eq_true]
  refine ⟨op, h, ?_⟩
  rw [isT_of ht]
  rcases hk with rfl | rfl <;> simp
theorem opsOf_lv {k : Nat} (hk : k = 1 ∨ k = 2 ∨ k = 5 ∨ k = 6) {op : Str} (h : op ∈ opsOf k) : op ∈ binL ∧ opLv op = k := by
  rcases hk with rfl | rfl | rfl | rfl <;> simp [opsOf] at h
  · subst h; decide
  · subst h; decide
  · rcases h with rfl | rfl <;> decide
  · subst h; decide
def two' (op : Str) (o1 o2 : Option Ex) : Option Ex := o1.bind fun a => o2.map fun b => eTwo op a b
theorem Qr.bin {k : Nat} (hk : k = 1 ∨ k = 2 ∨ k = 5 ∨ k = 6) {op : Str} (ho : op ∈ opsOf k) {t : Tok} {kk : Nat} (ht : strip t = (kk, op, 0)) (hkk : kk = 1 ∨ kk = 4) {L R : List Tok} {o1 o2 : Option Ex}
    (h1 : Qr E n (k + 1) L o1) (h2 : Qr E n (k + 1) R o2) : Qr E n k (L ++ t :: R) (two' op o1 o2) := by
  intro r hs
  obtain ⟨hb, hlv⟩ := opsOf_lv hk ho
  have hsk : SK (k + 1) (t :: (R ++ r)) := sk_op hb ht hkk (by omega)
  have h1' := h1 _ hsk
  have h2' := h2 r (hs.mono (by omega))
  rw [List.append_assoc, List.cons_append, rd_ch hk]
  cases o1 with
  | none => exact ch_none h1'
  | some a =>
    simp only at h1'
    have ha : anyT (opsOf k) (t :: (R ++ r)) = true := any_op ho ht hkk
    have htx : txt (t :: (R ++ r)) = op := txt_of ht
    cases o2 with
    | none =>
      obtain ⟨x, hx⟩ := h2'
      refine ⟨x, ?_⟩
      unfold ch
      rw [h1', bnd_ok, List.length_cons, chL, if_pos ha, List.tail_cons, hx, bnd_error]
    | some b =>
      simp only at h2'
      show ch _ _ _ = _
      unfold ch
      rw [h1', bnd_ok, List.length_cons, chL, if_pos ha, List.tail_cons, h2', bnd_ok, htx]
      exact chL_stop (sk_stop hk hs)
theorem Qr.bin3 {k : Nat} (hk : k = 1 ∨ k = 2 ∨ k = 5 ∨ k = 6) {op : Str} (ho : op ∈ opsOf k) {t u : Tok} {kk : Nat} (ht : strip t = (kk, op, 0)) (hu : strip u = (kk, op, 0)) (hkk : kk = 1 ∨ kk = 4) {L M R : List Tok} {o1 o2 o3 : Option Ex}
    (h1 : Qr E n (k + 1) L o1) (h2 : Qr E n (k + 1) M o2) (h3 : Qr E n (k + 1) R o3) : Qr E n k (L ++ t :: (M ++ u :: R)) (two' op (two' op o1 o2) o3) := by
  intro r hs
  obtain ⟨hb, hlv⟩ := opsOf_lv hk ho
  have hsk1 : SK (k + 1) (t :: (M ++ u :: (R ++ r))) := sk_op hb ht hkk (by omega)
  have hsk2 : SK (k + 1) (u :: (R ++ r)) := sk_op hb hu hkk (by omega)
  have h1' := h1 _ hsk1
  have h2' := h2 _ hsk2
  have h3' := h3 r (hs.mono (by omega))
  have he : (L ++ t :: (M ++ u :: R)) ++ r = L ++ t :: (M ++ u :: (R ++ r)) := by simp
  rw [he, rd_ch hk]
  cases o1 with
  | none => exact ch_none h1'
  | some a =>
    simp only at h1'
    have ha : anyT (opsOf k) (t :: (M ++ u :: (R ++ r))) = true := any_op ho ht hkk
    have htx : txt (t :: (M ++ u :: (R ++ r))) = op := txt_of ht
    have hau : anyT (opsOf k) (u :: (R ++ r)) = true := any_op ho hu hkk
    have hux : txt (u :: (R ++ r)) = op := txt_of hu
    obtain ⟨f, hf⟩ : ∃ f, (M ++ u :: (R ++ r)).length = f + 1 := ⟨M.length + (R ++ r).length, by simp; omega⟩
    cases o2 with
    | none =>
      obtain ⟨x, hx⟩ := h2'
      refine ⟨x, ?_⟩
      unfold ch
      rw [h1', bnd_ok, List.length_cons, chL, if_pos ha, List.tail_cons, hx, bnd_error]
    | some b =>
      simp only at h2'
      have hstep : ch (rd E n (k + 1)) (opsOf k) (L ++ t :: (M ++ u :: (R ++ r))) = bnd (rd E n (k + 1) (R ++ r)) fun x s => chL (rd E n (k + 1)) (opsOf k) f (eTwo op (eTwo op a b) x) s := by
        unfold ch
        rw [h1', bnd_ok, List.length_cons, chL, if_pos ha, List.tail_cons, h2', bnd_ok, htx, hf, chL, if_pos hau, List.tail_cons, hux]
      cases o3 with
      | none =>
        obtain ⟨x, hx⟩ := h3'
        exact ⟨x, by rw [hstep, hx]; rfl⟩
      | some c =>
        simp only at h3'
        show ch _ _ _ = _
        rw [hstep, h3', bnd_ok]
        exact chL_stop (sk_stop hk hs)
theorem Qr.cmp {op : Str} (ho : op ∈ cmpL) {t : Tok} (ht : strip t = (4, op, 0)) {L R : List Tok} {o1 o2 : Option Ex} (h1 : Qr E n 5 L o1) (h2 : Qr E n 5 R o2) : Qr E n 4 (L ++ t :: R) (two' op o1 o2) := by
  intro r hs
  have hb : op ∈ binL ∧ opLv op = 4 := by
    have : ∀ op ∈ cmpL, op ∈ binL ∧ opLv op = 4 := by decide
    exact this op ho
  have h1' := h1 (t :: (R ++ r)) (sk_op hb.1 ht (.inr rfl) (by omega))
  have h2' := h2 r (hs.mono (by omega))
  rw [List.append_assoc, List.cons_append]
  have ha : anyT cmpL (t :: (R ++ r)) = true := any_op ho ht (.inr rfl)
  have htx : txt (t :: (R ++ r)) = op := txt_of ht
  have hrd : ∀ ts, rd E n 4 ts = bnd (rd E n 5 ts) fun e r => if anyT cmpL r then fin (eTwo (txt r) e) (rd E n 5 r.tail) else .ok (e, r) := fun ts => rfl
  cases o1 with
  | none =>
    obtain ⟨x, hx⟩ := h1'
    exact ⟨x, by rw [hrd, hx]; rfl⟩
  | some a =>
    simp only at h1'
    cases o2 with
    | none =>
      obtain ⟨x, hx⟩ := h2'
      exact ⟨x, by rw [hrd, h1', bnd_ok, if_pos ha, List.tail_cons, hx]; rfl⟩
    | some b =>
      simp only at h2'
      show rd E n 4 _ = _
      rw [hrd, h1', bnd_ok, if_pos ha, List.tail_cons, h2', htx]; rfl
theorem Qr.no {t : Tok} (ht : strip t = (1, [78, 79, 84], 0)) {R : List Tok} {o : Option Ex} (h : Qr E n 3 R o) : Qr E (n + 1) 3 (t :: R) (o.map (eOne [78, 79, 84])) := by
  intro r hs
  have h' := h r hs
  have hrd : rd E (n + 1) 3 (t :: R ++ r) = fin (eOne [78, 79, 84]) (rd E n 3 (R ++ r)) := by
    show notOf _ _ _ = _
    unfold notOf
    rw [List.cons_append, isT_of ht, if_pos (by rfl)]
    rfl
  cases o with
  | none => obtain ⟨x, hx⟩ := h'; exact ⟨x, by rw [hrd, hx]; rfl⟩
  | some e => simp only at h'; show rd E (n + 1) 3 _ = _; rw [hrd, h']; rfl
theorem Qr.neg {t : Tok} (ht : strip t = (4, [45], 0)) {R : List Tok} {o : Option Ex} (h : Qr E n 7 R o) : Qr E (n + 1) 7 (t :: R) (o.map (eOne [45])) := by
  intro r hs
  have h' := h r hs
  have hrd : rd E (n + 1) 7 (t :: R ++ r) = fin (eOne [45]) (rd E n 7 (R ++ r)) := by
    show factorOf E _ _ _ = _
    unfold factorOf
    rw [List.cons_append, isK_of ht, isK_of ht, isT_of ht, if_neg (by simp), if_neg (by simp), if_pos (by rfl)]
    rfl
  cases o with
  | none => obtain ⟨x, hx⟩ := h'; exact ⟨x, by rw [hrd, hx]; rfl⟩
  | some e => simp only at h'; show rd E (n + 1) 7 _ = _; rw [hrd, h']; rfl
theorem Qr.par {t u : Tok} (ht : strip t = (4, [40], 0)) (hu : strip u = (4, [41], 0)) {L : List Tok} {o : Option Ex} (h : Qr E n 1 L o) : Qr E (n + 1) 7 (t :: (L ++ [u])) o := by
  intro r hs
  have h' := h (u :: r) (sk_close hu 1)
  have he : t :: (L ++ [u]) ++ r = t :: (L ++ u :: r) := by simp
  rw [he]
  cases o with
  | none =>
    obtain ⟨x, hx⟩ := h'
    refine ⟨x, ?_⟩
    show factorOf E _ _ _ = _
    simp only [factorOf, isK_of ht, isT_of ht, List.tail_cons]
    have hx' : (lv E n).ex (L ++ u :: r) = .error x := hx
    simp [hx']
  | some e =>
    simp only at h'
    exact fac_open ht hu h'
theorem rd_lift_err {ts : List Tok} {x : Nat × Nat} : ∀ (d k j : Nat), j = k + d → 1 ≤ k → j ≤ 7 → rd E n j ts = .error x → (k ≤ 3 → 4 ≤ j → isT [78, 79, 84] ts = false) → rd E n k ts = .error x
  | 0, k, j, hj, _, _, h, _ => by obtain rfl : j = k := by omega
                                  exact h
  | d + 1, k, j, hj, h1, h7, h, hn => by
    have ih : rd E n (k + 1) ts = .error x := rd_lift_err d (k + 1) j (by omega) (by omega) h7 h (fun hk hj => hn (by omega) hj)
    match k, ih with
    | 1, ih => exact ch_err ih
    | 2, ih => exact ch_err ih
    | 3, ih =>
      obtain ⟨fs, ns, es, h1⟩ := lv_fac E n
      have hN := hn (by omega) (by omega)
      simp only [rd] at ih ⊢
      rw [h1] at ih ⊢
      show notOf _ _ _ = _
      unfold notOf
      rw [hN]
      exact ih
    | 4, ih => exact cmp_err ih
    | 5, ih => exact ch_err ih
    | 6, ih => exact ch_err ih
    | k + 7, ih => omega
/-- The first token is not NOT. -/
def NoNot (L : List Tok) : Prop := ∀ r, isT [78, 79, 84] (L ++ r) = false
theorem NoNot.of {t : Tok} {L : List Tok} {k m : Nat} {s : Str} (ht : strip t = (k, s, m)) (hs : s ≠ [78, 79, 84]) : NoNot (t :: L) := fun r => by
  rw [List.cons_append, isT_of ht]
  have : (s == [78, 79, 84]) = false := by simpa using hs
  rw [this, Bool.and_false]
theorem NoNot.app {L M : List Tok} (h : NoNot L) (hl : L ≠ []) : NoNot (L ++ M) := fun r => by rw [List.append_assoc]; exact h _
theorem Qr.lift {j k : Nat} (h1 : 1 ≤ k) (hk : k ≤ j) (h7 : j ≤ 7) {L : List Tok} {o : Option Ex} (hn : NoNot L) (h : Qr E n j L o) : Qr E n k L o := by
  intro r hs
  have h' := h r (hs.mono hk)
  cases o with
  | none =>
    obtain ⟨x, hx⟩ := h'
    exact ⟨x, rd_lift_err (j - k) k j (by omega) h1 h7 hx fun _ _ => hn r⟩
  | some e =>
    simp only at h'
    exact rd_lift (j - k) k j (by omega) h1 h7 h' hs fun _ _ => hn r
end
/-- What a word may stand for among operands: a name, perhaps with its table's, or what can't be. -/
inductive Opd : List (Nat × Str × Nat) → Option Ex → Prop where
  | item (t o : Str) (ht : NameOk t) (ho : o = [] ∨ NameOk o) : Opd (bareP (pcE (eName t o))) (some (eName t o))
  | coal (t o : Str) (ht : NameOk t) (ho : o = [] ∨ NameOk o) : Opd ((1, [67, 79, 65, 76, 69, 83, 67, 69], 0) :: bareP (pcE (eName t o))) none
theorem Opd.first {A : List (Nat × Str × Nat)} {o : Option Ex} (h : Opd A o) : ∃ s B, A = (1, s, 0) :: B ∧ s ≠ [78, 79, 84] := by
  cases h with
  | item t o ht ho =>
    have key : ∀ {s : Str}, NameOk s → s.map up = s ∧ s ≠ [78, 79, 84] := fun h => ⟨h.1.2.2, by rintro rfl; have := h.2.1; revert this; decide⟩
    rw [pc_name]
    by_cases h0 : o = []
    · rw [if_pos h0]
      exact ⟨t, [], by simp [bareP, Pc.bare, (key ht).1], (key ht).2⟩
    · rw [if_neg h0]
      have := key (ho.resolve_left h0)
      exact ⟨o, _, by simp only [bareP, List.flatMap_cons, Pc.bare, this.1]; rfl, this.2⟩
  | coal t o ht ho => exact ⟨_, _, rfl, by decide⟩
theorem Opd.qr {E n : Nat} {A : List (Nat × Str × Nat)} {o : Option Ex} (h : Opd A o) {L : List Tok} (hL : L.map strip = A) : Qr E n 7 L o := by
  cases h with
  | item t o ht ho =>
    intro r hs
    have hw : WfE (eName t o) := .name t o ht ho
    have h1 := Ar.of hw (reads (E := E) hw).1
    refine h1 n 7 L r (by omega) (by omega) ?_ hs ?_
    · rw [pd_atom (lvl_name _ _) (nd_name _ _) (by omega)]; omega
    · unfold brP
      rw [lvl_name, if_neg (by omega)]
      exact hL
  | coal t o ht ho =>
    intro r hs
    obtain ⟨t, us, rfl, h1, h2⟩ := map_cons hL
    refine ⟨(150, plc E (t :: (us ++ r))), ?_⟩
    obtain ⟨fs, ns, es, hl⟩ := lv_fac E n
    show (lv E n).fac _ = _
    rw [hl]
    show factorOf E _ _ _ = _
    simp only [factorOf, List.cons_append, isK_of h1, isT_of h1]
    simp only [Go.Proofs.YtkhnpmeohjafiaaGreatDoor.item, Go.Proofs.YtkhnpmeohjafiaaGreatDoor.name, nameT, isK_of h1, txt_of h1]
    rfl
/-- Every token is a word or a dot. -/
theorem Opd.plain {A : List (Nat × Str × Nat)} {o : Option Ex} (h : Opd A o) : ∀ b ∈ A, b.1 = 1 ∨ (b.1 = 4 ∧ b.2.1 = [46]) := by
  have key : ∀ t o : Str, ∀ b ∈ bareP (pcE (eName t o)), b.1 = 1 ∨ (b.1 = 4 ∧ b.2.1 = [46]) := by
    intro t o b hb
    rw [pc_name] at hb
    split at hb
    · simp only [bareP, List.flatMap_cons, List.flatMap_nil, Pc.bare, List.append_nil, List.mem_singleton] at hb
      exact .inl (by rw [hb])
    · simp only [bareP, List.flatMap_cons, List.flatMap_nil, Pc.bare, List.append_nil, List.mem_append, List.mem_singleton] at hb
      rcases hb with hb | hb | hb
      · exact .inl (by rw [hb])
      · exact .inr (by rw [hb]; exact ⟨rfl, rfl⟩)
      · exact .inl (by rw [hb])
  cases h with
  | item t o ht ho => exact key t o
  | coal t o ht ho =>
    intro b hb
    rcases List.mem_cons.1 hb with rfl | hb
    · exact .inl rfl
    · exact key t o b hb
/-- A lift among the levels of NOT and above needs no first token. -/
theorem Qr.lift3 {E n j k : Nat} (h1 : 1 ≤ k) (hk : k ≤ j) (h7 : j ≤ 3) {L : List Tok} {o : Option Ex} (h : Qr E n j L o) : Qr E n k L o := by
  intro r hs
  have h' := h r (hs.mono hk)
  cases o with
  | none =>
    obtain ⟨x, hx⟩ := h'
    exact ⟨x, rd_lift_err (j - k) k j (by omega) h1 (by omega) hx fun _ h => absurd h (by omega)⟩
  | some e =>
    simp only at h'
    exact rd_lift (j - k) k j (by omega) h1 (by omega) h' hs fun _ h => absurd h (by omega)
theorem Opd.nonot {A : List (Nat × Str × Nat)} {o : Option Ex} (h : Opd A o) {L : List Tok} (hL : L.map strip = A) : NoNot L ∧ L ≠ [] := by
  obtain ⟨s, B, rfl, hs⟩ := h.first
  obtain ⟨t, us, rfl, h1, h2⟩ := map_cons hL
  exact ⟨NoNot.of h1 hs, by simp⟩
end Go.Proofs.YtkhnpmeohjafiaaGreatDoor
namespace Go.Proofs.YtkhnpmeohjafiaaGreatDoor

/-- No word FROM. -/
def NoF (t : Tok) : Prop := ¬ (t.1 = 1 ∧ t.2.1 = [70, 82, 79, 77])
/-- What is taken for x has no word FROM. -/
def Cn {α : Type} (ts : List Tok) (r : Res α) : Prop := ∀ x t, r = .ok (x, t) → ∃ us, ts = us ++ t ∧ ∀ u ∈ us, NoF u
section
variable {α β : Type} {ts : List Tok}
theorem cn_ok (x : α) (ts : List Tok) : Cn ts (.ok (x, ts)) := by rintro _ _ h; cases h; exact ⟨[], rfl, by simp⟩
theorem cn_tail {x : α} {t : Tok} {us : List Tok} (h : NoF t) : Cn (t :: us) (.ok (x, (t :: us).tail)) := by rintro _ _ h1; cases h1; exact ⟨[t], rfl, by simpa using h⟩
theorem cn_bad {E c : Nat} {v : List Tok} : Cn (α := α) ts (bad E c v) := fun _ _ h => by cases h
theorem cn_bnd {r : Res α} {k : α → List Tok → Res β} (h : Cn ts r) (hk : ∀ x t, Cn t (k x t)) : Cn ts (bnd r k) := by
  intro y t hy
  cases r with
  | error e => cases hy
  | ok q =>
    obtain ⟨us, h1, h2⟩ := h q.1 q.2 rfl
    obtain ⟨vs, h3, h4⟩ := hk q.1 q.2 y t hy
    refine ⟨us ++ vs, by rw [h1, h3, List.append_assoc], fun u hu => ?_⟩
    rcases List.mem_append.1 hu with hu | hu
    · exact h2 u hu
    · exact h4 u hu
theorem cn_fin {r : Res α} {f : α → β} (h : Cn ts r) : Cn ts (fin f r) := cn_bnd h fun x t => cn_ok _ t
/-- A step over one token, then the rest. -/
theorem cn_step {r : Res α} {t : Tok} {us : List Tok} (ht : NoF t) (h : Cn us r) : Cn (t :: us) r := by
  intro x v hv
  obtain ⟨ws, h1, h2⟩ := h x v hv
  exact ⟨t :: ws, by rw [h1]; rfl, fun u hu => by rcases List.mem_cons.1 hu with rfl | hu; exact ht; exact h2 u hu⟩
theorem noF_of {s : Str} {ts : List Tok} (hs : s ≠ [70, 82, 79, 77]) (h : isT s ts = true) : ∃ t us, ts = t :: us ∧ NoF t := by
  cases ts with
  | nil => cases h
  | cons t us =>
    simp only [isT, Bool.and_eq_true, beq_iff_eq] at h
    exact ⟨t, us, rfl, fun hf => hs (h.2.symm.trans hf.2)⟩
theorem noF_any {L : List Str} {ts : List Tok} (hL : [70, 82, 79, 77] ∉ L) (h : anyT L ts = true) : ∃ t us, ts = t :: us ∧ NoF t := by
  simp only [anyT, List.any_eq_true] at h
  obtain ⟨s, hs, hi⟩ := h
  exact noF_of (by rintro rfl; exact hL hs) hi
theorem noF_kind {k : Nat} {ts : List Tok} (hk : k ≠ 1) (h : isK k ts = true) : ∃ t us, ts = t :: us ∧ NoF t := by
  cases ts with
  | nil => cases h
  | cons t us =>
    have : t.1 = k := by simpa [isK] using h
    exact ⟨t, us, rfl, fun hf => hk (this.symm.trans hf.1)⟩
variable {E : Nat}
theorem cn_must {s : Str} (hs : s ≠ [70, 82, 79, 77]) (ts : List Tok) : Cn ts (must E s ts) := by
  unfold Go.Proofs.YtkhnpmeohjafiaaGreatDoor.must; split
  · rename_i h
    obtain ⟨t, us, rfl, ht⟩ := noF_of hs h
    exact cn_tail ht
  · exact cn_bad
theorem name_noF {ts : List Tok} (h : nameT ts = true) : ∃ t us, ts = t :: us ∧ NoF t := by
  cases ts with
  | nil => simp [nameT, isK] at h
  | cons t us =>
    simp only [nameT, Bool.and_eq_true, Bool.not_eq_true'] at h
    refine ⟨t, us, rfl, fun hf => ?_⟩
    have h2 := h.1.2
    simp only [txt, hf.2] at h2
    revert h2; decide
theorem cn_name (ts : List Tok) : Cn ts (name E ts) := by
  unfold Go.Proofs.YtkhnpmeohjafiaaGreatDoor.name; split
  · rename_i h
    obtain ⟨t, us, rfl, ht⟩ := name_noF h
    exact cn_tail ht
  · exact cn_bad
theorem cn_number (ts : List Tok) : Cn ts (number E ts) := by
  unfold Go.Proofs.YtkhnpmeohjafiaaGreatDoor.number; split
  · rename_i h
    obtain ⟨t, us, rfl, ht⟩ := noF_kind (by decide) h
    exact cn_tail ht
  · exact cn_bad
theorem cn_sepL {one : List Tok → Res α} (h : ∀ ts, Cn ts (one ts)) : ∀ (f : Nat) (acc : List α) (ts : List Tok), Cn ts (sepL one f acc ts)
  | 0, _, ts => cn_ok _ ts
  | f + 1, acc, ts => by
    unfold Go.Proofs.YtkhnpmeohjafiaaGreatDoor.sepL; split
    · rename_i hi
      obtain ⟨t, us, rfl, ht⟩ := noF_of (by decide) hi
      exact cn_step ht (cn_bnd (h _) fun x t => cn_sepL h f _ t)
    · exact cn_ok _ ts
theorem cn_sep {one : List Tok → Res α} (h : ∀ ts, Cn ts (one ts)) (ts : List Tok) : Cn ts (sep one ts) := cn_bnd (h ts) fun x t => cn_sepL h _ _ t
theorem cn_chL {read : List Tok → Res Ex} {ops : List Str} (ho : [70, 82, 79, 77] ∉ ops) (h : ∀ ts, Cn ts (read ts)) : ∀ (f : Nat) (e : Ex) (ts : List Tok), Cn ts (chL read ops f e ts)
  | 0, _, ts => cn_ok _ ts
  | f + 1, e, ts => by
    unfold Go.Proofs.YtkhnpmeohjafiaaGreatDoor.chL; split
    · rename_i hi
      obtain ⟨t, us, rfl, ht⟩ := noF_any ho hi
      exact cn_step ht (cn_bnd (h _) fun x t => cn_chL ho h f _ t)
    · exact cn_ok _ ts
theorem cn_ch {read : List Tok → Res Ex} {ops : List Str} (ho : [70, 82, 79, 77] ∉ ops) (h : ∀ ts, Cn ts (read ts)) (ts : List Tok) : Cn ts (ch read ops ts) := cn_bnd (h ts) fun x t => cn_chL ho h _ _ t
theorem cn_item (ts : List Tok) : Cn ts (item E ts) := by
  refine cn_bnd (cn_name ts) fun n t => ?_
  split
  · rename_i hi
    obtain ⟨u, us, rfl, ht⟩ := noF_of (by decide) hi
    exact cn_step ht (cn_bnd (cn_name _) fun x t => cn_ok _ t)
  · exact cn_ok _ t
theorem cn_factorOf {fs es : List Tok → Res Ex} (hf : ∀ ts, Cn ts (fs ts)) (he : ∀ ts, Cn ts (es ts)) (ts : List Tok) : Cn ts (factorOf E fs es ts) := by
  unfold Go.Proofs.YtkhnpmeohjafiaaGreatDoor.factorOf
  split
  · rename_i hi
    obtain ⟨u, us, rfl, ht⟩ := noF_kind (by decide) hi
    exact cn_tail ht
  split
  · rename_i hi
    obtain ⟨u, us, rfl, ht⟩ := noF_kind (by decide) hi
    exact cn_tail ht
  split
  · rename_i hi
    obtain ⟨u, us, rfl, ht⟩ := noF_of (by decide) hi
    exact cn_step ht (cn_fin (hf _))
  split
  · rename_i hi
    obtain ⟨u, us, rfl, ht⟩ := noF_of (by decide) hi
    exact cn_step ht (cn_bnd (he _) fun e t => cn_bnd (cn_must (by decide) t) fun _ t => cn_ok _ t)
  · exact cn_item ts
theorem cn_notOf {fc ns : List Tok → Res Ex} (hf : ∀ ts, Cn ts (fc ts)) (hn : ∀ ts, Cn ts (ns ts)) (ts : List Tok) : Cn ts (notOf fc ns ts) := by
  have h5 : ∀ ts, Cn ts (sumOf fc ts) := cn_ch (by decide) (cn_ch (by decide) hf)
  unfold Go.Proofs.YtkhnpmeohjafiaaGreatDoor.notOf; split
  · rename_i hi
    obtain ⟨u, us, rfl, ht⟩ := noF_of (by decide) hi
    exact cn_step ht (cn_fin (hn _))
  · refine cn_bnd (h5 ts) fun e t => ?_
    split
    · rename_i hi
      obtain ⟨u, us, rfl, ht⟩ := noF_any (by decide) hi
      exact cn_step ht (cn_fin (h5 _))
    · exact cn_ok _ t
theorem cn_lvOf {fs ns es : List Tok → Res Ex} (hf : ∀ ts, Cn ts (fs ts)) (hn : ∀ ts, Cn ts (ns ts)) (he : ∀ ts, Cn ts (es ts)) :
    (∀ ts, Cn ts ((lvOf E fs ns es).fac ts)) ∧ (∀ ts, Cn ts ((lvOf E fs ns es).no ts)) ∧ ∀ ts, Cn ts ((lvOf E fs ns es).ex ts) :=
  ⟨cn_factorOf hf he, cn_notOf (cn_factorOf hf he) hn, cn_ch (by decide) (cn_ch (by decide) (cn_notOf (cn_factorOf hf he) hn))⟩
theorem cn_lv (E : Nat) : ∀ n, (∀ ts, Cn ts ((lv E n).fac ts)) ∧ (∀ ts, Cn ts ((lv E n).no ts)) ∧ ∀ ts, Cn ts ((lv E n).ex ts)
  | 0 => cn_lvOf (fun _ => cn_bad) (fun _ => cn_bad) (fun _ => cn_bad)
  | n + 1 => cn_lvOf (cn_lv E n).1 (cn_lv E n).2.1 (cn_lv E n).2.2
theorem cn_expr (ts : List Tok) : Cn ts (expr E ts) := (cn_lv E 32).2.2 ts
theorem cn_period (ts : List Tok) : Cn ts (period E ts) := by
  refine cn_bnd (cn_number ts) fun a t => cn_bnd (cn_must (by decide) t) fun _ t => cn_bnd ?_ fun z t => ?_
  · split
    · rename_i hi
      obtain ⟨u, us, rfl, ht⟩ := noF_of (by decide) hi
      exact cn_tail ht
    · exact cn_number t
  · split
    · exact cn_bad
    · exact cn_ok _ t
theorem cn_whereP (ts : List Tok) : Cn ts (whereP E ts) := by
  unfold Go.Proofs.YtkhnpmeohjafiaaGreatDoor.whereP; split
  · rename_i hi
    obtain ⟨u, us, rfl, ht⟩ := noF_of (by decide) hi
    exact cn_step ht (cn_fin (cn_expr _))
  · exact cn_ok _ ts
theorem cn_tablesP (ts : List Tok) : Cn ts (tablesP E ts) := by
  refine cn_bnd (cn_name ts) fun n t => ?_
  split
  · rename_i hi
    obtain ⟨u, us, rfl, ht⟩ := noF_of (by decide) hi
    exact cn_step ht (cn_fin (cn_name _))
  · exact cn_ok _ t
theorem cn_asOfP (ts : List Tok) : Cn ts (asOfP E ts) := by
  unfold Go.Proofs.YtkhnpmeohjafiaaGreatDoor.asOfP; split
  · rename_i hi
    obtain ⟨u, us, rfl, ht⟩ := noF_of (by decide) hi
    exact cn_step ht (cn_bnd (cn_must (by decide) _) fun _ t => cn_fin (cn_number t))
  · exact cn_ok _ ts
theorem cn_duringP (ts : List Tok) : Cn ts (duringP E ts) := by
  unfold Go.Proofs.YtkhnpmeohjafiaaGreatDoor.duringP; split
  · rename_i hi
    obtain ⟨u, us, rfl, ht⟩ := noF_of (by decide) hi
    split
    · exact cn_bad
    · exact cn_step ht (cn_fin (cn_number _))
  · split
    · rename_i hi
      obtain ⟨u, us, rfl, ht⟩ := noF_of (by decide) hi
      exact cn_step ht (cn_fin (cn_period _))
    · exact cn_ok _ ts
theorem cn_orderP (ts : List Tok) : Cn ts (orderP E ts) := by
  unfold Go.Proofs.YtkhnpmeohjafiaaGreatDoor.orderP; split
  · rename_i hi
    obtain ⟨u, us, rfl, ht⟩ := noF_of (by decide) hi
    exact cn_step ht (cn_bnd (cn_must (by decide) _) fun _ t => cn_sep cn_name t)
  · exact cn_ok _ ts
end

/-! ### A question with one item -/
theorem sepL_len {α : Type} {one : List Tok → Res α} : ∀ (f : Nat) (acc : List α) (ts : List Tok) (l : List α) (r : List Tok), sepL one f acc ts = .ok (l, r) → acc.length ≤ l.length
  | 0, acc, ts, l, r, h => by cases h; exact Nat.le_refl _
  | f + 1, acc, ts, l, r, h => by
    rw [sepL] at h
    split at h
    · cases ho : one ts.tail with
      | error e => rw [ho] at h; cases h
      | ok q =>
        rw [ho] at h
        have := sepL_len f _ q.2 l r h
        simp at this; omega
    · cases h; exact Nat.le_refl _
/-- A list with one thing: it alone was read. -/
theorem sep_one {α : Type} {one : List Tok → Res α} {ts r : List Tok} {l : List α} (h : sep one ts = .ok (l, r)) (hl : l.length = 1) : ∃ x, one ts = .ok (x, r) ∧ l = [x] := by
  unfold sep at h
  cases ho : one ts with
  | error e => rw [ho] at h; cases h
  | ok q =>
    rw [ho] at h
    obtain ⟨x, t⟩ := q
    simp only [bnd_ok] at h
    cases hf : t.length with
    | zero => rw [hf] at h; cases h; exact ⟨x, rfl, rfl⟩
    | succ f =>
      rw [hf, sepL] at h
      split at h
      · cases ho2 : one t.tail with
        | error e => rw [ho2] at h; cases h
        | ok q2 =>
          rw [ho2] at h
          have := sepL_len _ _ _ _ _ h
          simp at this; omega
      · cases h; exact ⟨x, rfl, rfl⟩
theorem moreL_len {E : Nat} : ∀ (f : Nat) (o : List Str) (q : List Qu) (ts : List Tok) (p : List Str × List Qu) (r : List Tok), moreL E f o q ts = .ok (p, r) → q.length ≤ p.2.length
  | 0, o, q, ts, p, r, h => by cases h; exact Nat.le_refl _
  | f + 1, o, q, ts, p, r, h => by
    rw [moreL] at h
    split at h
    · cases hq : query E ts.tail with
      | error e => rw [hq] at h; cases h
      | ok z =>
        rw [hq] at h
        have := moreL_len f _ _ z.2 p r h
        simp at this; omega
    · cases h; exact Nat.le_refl _
theorem moreL_one {E f : Nat} {q : Qu} {ts r : List Tok} {p : List Str × List Qu} (h : moreL E f [] [q] ts = .ok (p, r)) (hl : p.2.length = 1) : p.2 = [q] ∧ r = ts := by
  cases f with
  | zero => cases h; exact ⟨rfl, rfl⟩
  | succ f =>
    rw [moreL] at h
    split at h
    · cases hq : query E ts.tail with
      | error e => rw [hq] at h; cases h
      | ok z =>
        rw [hq] at h
        have := moreL_len _ _ _ _ _ _ h
        simp at this; omega
    · cases h; exact ⟨rfl, rfl⟩
/-- Tokens that are no numbers bear none. -/
def ZeroOk (ts : List Tok) : Prop := ∀ t ∈ ts, t.1 = 1 ∨ t.1 = 4 → t.2.2.1 = 0
theorem one_zero {l t : List UInt8} {k n m : Nat} (h : one l = some (k, t, n, m)) (hk : k = 1 ∨ k = 4) : n = 0 := by
  cases l with
  | nil => simp [one] at h
  | cons x r =>
    rw [one_cons] at h
    split at h
    · simp only [Option.some.injEq, Prod.mk.injEq] at h
      exact h.2.2.1.symm
    split at h
    · split at h
      · simp only [Option.some.injEq, Prod.mk.injEq] at h
        omega
      · cases h
    split at h
    · cases hq : quo r with
      | none => rw [hq] at h; simp at h
      | some q => rw [hq] at h; simp at h; omega
    · cases hs : sgn x r with
      | none => rw [hs] at h; simp at h
      | some s => rw [hs] at h; simp at h; omega
theorem toks_zero : ∀ (f p : Nat) (l : List UInt8) (ts : List Tok), toks f p l = .inr ts → ZeroOk ts
  | 0, p, l, ts, h => by simp [toks] at h; subst h; simp [ZeroOk]
  | f + 1, p, [], ts, h => by simp [toks] at h; subst h; simp [ZeroOk]
  | f + 1, p, x :: r, ts, h => by
    rw [toks] at h
    split at h
    · exact toks_zero f _ _ ts h
    · split at h
      · cases h
      · rename_i k t n m ho
        cases hq : toks f (p + m) ((x :: r).drop m) with
        | inl e => rw [hq] at h; simp [consT] at h
        | inr us =>
          rw [hq] at h
          simp [consT] at h
          subst h
          intro u hu hk
          rcases List.mem_cons.1 hu with rfl | hu
          · exact one_zero ho hk
          · exact toks_zero f _ _ us hq u hu hk
theorem name_inv {E : Nat} {ts r : List Tok} {s : Str} (hz : ZeroOk ts) (ht : ToksOk ts) (h : name E ts = .ok (s, r)) : ∃ t, ts = t :: r ∧ strip t = (1, s, 0) ∧ NameOk s := by
  have hn := (Gv.name ht s r h).1
  unfold Go.Proofs.YtkhnpmeohjafiaaGreatDoor.name at h
  split at h
  · rename_i hk
    cases ts with
    | nil => simp [nameT, isK] at hk
    | cons t us =>
      cases h
      simp only [nameT, Bool.and_eq_true, isK, beq_iff_eq] at hk
      refine ⟨t, rfl, ?_, hn⟩
      simp only [strip, hk.1.1, hz t (by simp) (.inl hk.1.1)]
      rfl
  · cases h
theorem item_inv {E : Nat} {ts r : List Tok} {e : Ex} (hz : ZeroOk ts) (ht : ToksOk ts) (h : item E ts = .ok (e, r)) : ∃ I t o, ts = I ++ r ∧ NameOk t ∧ (o = [] ∨ NameOk o) ∧ I.map strip = bareP (pcE (eName t o)) := by
  unfold Go.Proofs.YtkhnpmeohjafiaaGreatDoor.item at h
  cases hn : name E ts with
  | error x => rw [hn] at h; cases h
  | ok q =>
    obtain ⟨s, v⟩ := q
    rw [hn] at h
    obtain ⟨t, rfl, h1, h2⟩ := name_inv hz ht hn
    simp only [bnd_ok] at h
    split at h
    · rename_i hi
      cases v with
      | nil => cases hi
      | cons u v =>
        cases hm : name E (u :: v).tail with
        | error x => rw [hm] at h; cases h
        | ok q2 =>
          obtain ⟨m, w⟩ := q2
          rw [hm] at h
          cases h
          have hz2 : ZeroOk v := fun x hx => hz x (by simp [hx])
          have ht2 : ToksOk v := fun x hx => ht x (by simp [hx])
          obtain ⟨t2, hv, h3, h4⟩ := name_inv (ts := v) hz2 ht2 hm
          subst hv
          refine ⟨[t, u, t2], m, s, rfl, h4, .inr h2, ?_⟩
          have hu : strip u = (4, [46], 0) := by
            simp only [isT, Bool.and_eq_true, Bool.or_eq_true, beq_iff_eq] at hi
            have hzu := hz u (by simp) hi.1
            rcases hi.1 with hk | hk
            · have := (ht u (by simp)).1 hk
              rw [hi.2] at this
              have h9 := this.1
              simp [headL, isL] at h9
            · simp only [strip, hk, hi.2, hzu]
          have hs : s ≠ [] := by rintro rfl; have := h2.1.1; simp [headL] at this
          rw [pc_name, if_neg hs]
          simp [bareP, Pc.bare, h1, hu, h3, h2.1.2.2, h4.1.2.2]
    · cases h
      refine ⟨[t], s, [], rfl, h2, .inl rfl, ?_⟩
      rw [pc_name, if_pos rfl]
      simp [bareP, Pc.bare, h1, h2.1.2.2]
end Go.Proofs.YtkhnpmeohjafiaaGreatDoor
