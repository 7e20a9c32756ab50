/- lex.Tokens: words. What is said of it. -/
import Derived.Test.YtaiedccjaahmgaaDoorLex3
import Derived.Test.YtaiedccjaahmgaaDoorLex4
import Derived.Test.YtaiedccjaahmgaaDoorLexS
namespace Go.Proofs.YtaiedccjaahmgaaDoor
open Go.RowKit

def tokC (t : Tok) : List Value := [.int .i64 (t.1 : Int), str t.2.1, .int .i64 (t.2.2.1 : Int), .int .i64 (t.2.2.2 : Int)]
/-- Tokens as cells. -/
def flatT : List Tok → List Value
  | [] => []
  | t :: r => tokC t ++ flatT r
theorem flatT_append : ∀ a b : List Tok, flatT (a ++ b) = flatT a ++ flatT b
  | [], _ => rfl
  | t :: a, b => by simp [flatT, flatT_append a b]
theorem flatT_len : ∀ a : List Tok, (flatT a).length = a.length * 4
  | [] => rfl
  | t :: a => by simp [flatT, tokC, flatT_len a]; omega

theorem ei_tok : EI Tryd.prog 23 30 4 40 :=
  ⟨Tryd.underlying23, by
    obtain ⟨i, h1, h2, h3, h4⟩ := info_parts (P := Tryd.prog) (e := 30) (z := .agg #[.int .i64 0, .string (ByteArray.mk #[]), .int .i64 0, .int .i64 0]) (size := 4) (bytes := 40) (by kernel_rfl)
    exact ⟨i, _, h1, h2, h3, h4, rfl⟩, by omega, by omega⟩

/-- What Tokens gives. -/
def TokPost (l : List UInt8) (w : World) (e : Ending) (w' : World) : Prop :=
  Ext w w' ∧ match lexOf l with
    | .inl f => e = .returned (.tuple #[.slice none 0 0, .agg #[.int .i64 (f.1 : Int), .int .i64 (f.2 : Int)]])
    | .inr ts => ∃ g cap, e = .returned (.tuple #[slv g ts.length cap, .agg #[.int .i64 0, .int .i64 0]]) ∧ Sl w' 30 4 g ts.length cap (flatT ts) ∧ (∀ b, g = some b → w.heap.size ≤ b)

theorem Touch.freshX {S : Nat → Prop} {a b c : World} (h : Ext a b) (k : Touch S b c) (hs : ∀ i, S i → a.heap.size ≤ i) : Ext a c :=
  Ext.trans' h (k.below h.size hs)
/-- So far: the tokens ts of what lies ahead of q. -/
structure LexSo (w wr : World) (l : List UInt8) (q : Nat) (ts : List Tok) (g : Option Nat) (cap : Nat) : Prop where
  scn : Scn wr (w.heap.size + 1) l q
  out : Sl wr 30 4 g ts.length cap (flatT ts)
  own : ∀ b, g = some b → w.heap.size + 1 < b
  ext : Ext w wr
  res : wr.heap[w.heap.size]? = some (.cells #[.int .i64 0, .int .i64 0] 26 (0, 0))
  few : ts.length ≤ q
  so : tk 0 l = appR ts (tk q (l.drop q))

theorem LexSo.small {w wr : World} {l : List UInt8} {q : Nat} {ts : List Tok} {g : Option Nat} {cap : Nat} (h : LexSo w wr l q ts g cap) {w' : World} (ht : Touch (fun b => b = w.heap.size + 1) wr w') {q' : Nat} (hs : Scn w' (w.heap.size + 1) l q') (hq : q ≤ q') (he : tk q (l.drop q) = tk q' (l.drop q')) : LexSo w w' l q' ts g cap :=
  ⟨hs, h.out.touch ht (fun b hb hx => by have := h.own b hb; omega), h.own, Touch.freshX h.ext ht (fun k hk => by omega), ht.old h.res (by omega), Nat.le_trans h.few hq, he ▸ h.so⟩

theorem takeWhile_mem {p : UInt8 → Bool} : ∀ {l : List UInt8} {x : UInt8}, x ∈ l.takeWhile p → p x = true
  | [], x, h => by simp at h
  | y :: r, x, h => by
    rw [List.takeWhile_cons] at h
    split at h
    · rcases List.mem_cons.1 h with rfl | h
      · assumption
      · exact takeWhile_mem h
    · simp at h
theorem tk_skip (l : List UInt8) (q : Nat) : tk q (l.drop q) = tk (q + ((l.drop q).takeWhile isB).length) (l.drop (q + ((l.drop q).takeWhile isB).length)) := by
  have h : l.drop q = (l.drop q).takeWhile isB ++ l.drop (q + ((l.drop q).takeWhile isB).length) := by
    rw [← List.drop_drop]
    have h1 : ((l.drop q).takeWhile isB) ++ (l.drop q).dropWhile isB = l.drop q := List.takeWhile_append_dropWhile
    have h2 : (l.drop q).drop ((l.drop q).takeWhile isB).length = (l.drop q).dropWhile isB := by
      conv => lhs; rw [← h1]
      rw [h1]
      conv => lhs; arg 2; rw [← h1]
      rw [List.drop_left]
    rw [h2, h1]
  conv => lhs; rw [h]
  exact tk_blanks _ q _ (fun _ hx => takeWhile_mem hx)
theorem notB_after (l : List UInt8) (q : Nat) {x : UInt8} (h : l[q + ((l.drop q).takeWhile isB).length]? = some x) : isB x = false := by
  have h1 : ((l.drop q).takeWhile isB) ++ (l.drop q).dropWhile isB = l.drop q := List.takeWhile_append_dropWhile
  cases hd : (l.drop q).dropWhile isB with
  | nil =>
    rw [hd, List.append_nil] at h1
    rw [h1] at h
    have := (List.getElem?_eq_some_iff.1 h).1
    rw [List.length_drop] at this
    omega
  | cons y r =>
    have hy : isB y = false := by
      have := List.head?_dropWhile_not isB (l.drop q)
      rw [hd] at this
      simpa using this
    have hxy : l[q + ((l.drop q).takeWhile isB).length]? = some y := by
      have h2 : (l.drop q)[((l.drop q).takeWhile isB).length]? = some y := by
        conv => lhs; arg 1; rw [← h1]
        rw [List.getElem?_append_right (Nat.le_refl _), Nat.sub_self, hd]; rfl
      rw [List.getElem?_drop] at h2
      exact h2
    rw [hxy] at h
    cases h; exact hy
theorem tk_one {l : List UInt8} {q k n m : Nat} {t : List UInt8} (h : one (l.drop q) = some (k, t, n, m)) : tk q (l.drop q) = consT (k, t, n, q) (tk (q + m) (l.drop (q + m))) := by
  cases hd : l.drop q with
  | nil => rw [hd] at h; simp [one] at h
  | cons x r =>
    rw [hd] at h
    rw [tk_some h, ← hd, List.drop_drop]
theorem tk_bad {l : List UInt8} {q : Nat} {x : UInt8} (hx : l[q]? = some x) (hb : isB x = false) (h : one (l.drop q) = none) : tk q (l.drop q) = .inl q := by
  rw [drop_at hx] at h ⊢
  exact tk_none hb h
theorem appR_snoc (ts : List Tok) (t : Tok) (R : Nat ⊕ List Tok) : appR ts (consT t R) = appR (ts ++ [t]) R := by
  cases R <;> simp [appR, consT]
theorem lexOf_done {l : List UInt8} {q : Nat} {ts : List Tok} (hl : l.length ≤ 4096) (hq : l.length ≤ q) (h : tk 0 l = appR ts (tk q (l.drop q))) : lexOf l = .inr ts := by
  rw [List.drop_eq_nil_of_le hq, tk_nil] at h
  unfold lexOf
  rw [if_neg (by omega), h]
  simp [appR]
theorem lexOf_bad {l : List UInt8} {q : Nat} {ts : List Tok} (hl : l.length ≤ 4096) (hq : tk q (l.drop q) = .inl q) (h : tk 0 l = appR ts (tk q (l.drop q))) : lexOf l = .inl (140, q) := by
  rw [hq] at h
  unfold lexOf
  rw [if_neg (by omega), h]
  simp [appR]

theorem Scn.store {w : World} {cb : Nat} {l : List UInt8} {q : Nat} (h : Scn w cb l q) {p : Addr} (hn : cb ≠ p.block) (v : Value) : Scn (w.setCell p v) cb l q := ⟨blk_set_ne h.1 hn v, h.2⟩
/-- A store into a block that is new since a. -/
theorem Touch.late {S : Nat → Prop} {a w : World} (h : Touch S a w) {b : Nat} (hb : a.heap.size ≤ b) (i : Nat) (v : Value) : Touch S a (w.setCell ⟨b, i, none⟩ v) := h.setCell (p := ⟨b, i, none⟩) (fun hx => absurd hx (by simp; omega)) v
theorem blk_new_at {w : World} {n : Nat} (o : Obj) (h : w.heap.size = n) : (w.alloc o).heap[n]? = some o := by subst h; exact blk_new w o
theorem size_set (w : World) (p : Addr) (v : Value) : (w.setCell p v).heap.size = w.heap.size := by simp [World.setCell]
theorem upper_ok (l : List UInt8) (w : World) (hl : l.length ≤ 1000000000) (ha : ∀ x ∈ l, isW x = true) : Calls Tryd.prog 17 #[str l] w (fun e w' => e = .returned (str (l.map up)) ∧ Ext w w') := by
  refine (Tryd.strings_ToUpper_ascii (bs l) w (by rw [bs_size]; omega) (fun j b hb => ?_)).mono ?_
  · have := ha b (List.mem_of_getElem? hb)
    simp only [isW, isL, isD, Bool.or_eq_true, decide_eq_true_eq] at this
    omega
  · rintro e w' ⟨rfl, h⟩
    refine ⟨?_, h⟩
    rw [toUpper_eq]; rfl

theorem LexSo.next {w w1 X w5 : World} {l : List UInt8} {q q4 cap cap5 g5 k n m : Nat} {ts : List Tok} {g : Option Nat} {t : List UInt8} (h : LexSo w w1 l q ts g cap) (hT : Touch (fun b => b = w.heap.size + 1) w1 X) (hS : Scn X (w.heap.size + 1) l q4)
    (hap : Sl w5 30 4 (some g5) (ts.length + 1) cap5 (flatT ts ++ tokC (k, t, n, q))) (ht5 : Touch (fun b => g = some b) X w5) (hat : g = some g5 ∨ g5 = X.heap.size)
    (hone : one (l.drop q) = some (k, t, n, m)) (hq : q4 = q + m) : LexSo w w5 l q4 (ts ++ [(k, t, n, q)]) (some g5) cap5 := by
  have hm := one_le hone
  have hgb : ∀ b, g = some b → w.heap.size + 1 < b := h.own
  have hw1 : w.heap.size + 1 < w1.heap.size := blk_lt h.scn.1
  have hX := hT.size
  refine ⟨hS.touch ht5 (fun hx => by have := hgb _ hx; omega), ?_, ?_, ?_, ?_, ?_, ?_⟩
  · rw [List.length_append, flatT_append]; simpa [flatT] using hap
  · intro b hb
    cases hb
    rcases hat with hat | hat
    · exact hgb _ hat
    · omega
  · exact Touch.freshX (Touch.freshX h.ext hT (fun k hk => by omega)) ht5 (fun k hk => by have := hgb k hk; omega)
  · exact ht5.old (hT.old h.res (by omega)) (fun hx => by have := hgb _ hx; omega)
  · rw [List.length_append]
    have := h.few
    simp; omega
  · rw [← appR_snoc, hq, ← tk_one hone]; exact h.so

theorem one_word {l : List UInt8} {q : Nat} {x : UInt8} (hx : l[q]? = some x) (h : isL x = true) : one (l.drop q) = some (1, ((l.drop q).takeWhile isW).map up, 0, ((l.drop q).takeWhile isW).length) := by
  rw [drop_at hx, one_cons, if_pos h]
theorem dropWhile_drop (p : UInt8 → Bool) (m : List UInt8) : m.dropWhile p = m.drop (m.takeWhile p).length := by
  induction m with
  | nil => rfl
  | cons x r ih =>
    rw [List.dropWhile_cons, List.takeWhile_cons]
    split
    · simpa using ih
    · rfl
theorem one_num {l : List UInt8} {q : Nat} {x : UInt8} (hx : l[q]? = some x) (h : isD x = true) :
    one (l.drop q) = if ((l.drop q).takeWhile isD).length ≤ 18 ∧ headL (l.drop (q + ((l.drop q).takeWhile isD).length)) = false then some (2, [], val ((l.drop q).takeWhile isD), ((l.drop q).takeWhile isD).length) else none := by
  have hL : isL x = false := by
    cases hl : isL x with
    | false => rfl
    | true => rw [isL_d hl] at h; cases h
  have h1 : (l.drop q).dropWhile isD = l.drop (q + ((l.drop q).takeWhile isD).length) := by rw [dropWhile_drop, List.drop_drop]
  rw [← h1]
  rw [drop_at hx, one_cons, hL, if_neg (by simp), if_pos h]
theorem headL_at {l : List UInt8} {q : Nat} {y : UInt8} (hy : l[q]? = some y) : headL (l.drop q) = isL y := by rw [drop_at hy]; rfl
theorem headL_end {l : List UInt8} {q : Nat} (h : l.length ≤ q) : headL (l.drop q) = false := by rw [List.drop_eq_nil_of_le h]; rfl
theorem one_quo {l : List UInt8} {q : Nat} (hx : l[q]? = some 39) : one (l.drop q) = (quo (l.drop (q + 1))).map (fun r => (3, r.1, 0, r.2 + 1)) := by
  rw [drop_at hx, one_cons, if_neg (by decide), if_neg (by decide), if_pos rfl]
theorem one_sgn {l : List UInt8} {q : Nat} {x : UInt8} (hx : l[q]? = some x) (h1 : isL x = false) (h2 : isD x = false) (h3 : x ≠ 39) :
    one (l.drop q) = (signL.find? (fun s => Lib.hasPrefix (l.drop q) s)).map (fun s => (4, s, 0, s.length)) := by
  rw [drop_at hx, one_cons, if_neg (by rw [h1]; simp), if_neg (by rw [h2]; simp), if_neg h3, sgn_find]
theorem find_at {α : Type} {p : α → Bool} : ∀ {L : List α} {i : Nat} {s : α}, L[i]? = some s → p s = true → (∀ (j : Nat) (u : α), j < i → L[j]? = some u → p u = false) → L.find? p = some s
  | [], i, s, h, _, _ => by simp at h
  | a :: L, 0, s, h, hp, _ => by simp at h; subst h; simp [hp]
  | a :: L, i + 1, s, h, hp, hn => by
    have h0 := hn 0 a (by omega) rfl
    rw [List.find?_cons, h0]
    exact find_at (L := L) (i := i) (by simpa using h) hp (fun j u hj hu => hn (j + 1) u (by omega) (by simpa using hu))
theorem find_no {α : Type} {p : α → Bool} {L : List α} (h : ∀ (j : Nat) (u : α), j < L.length → L[j]? = some u → p u = false) : L.find? p = none := by
  rw [List.find?_eq_none]
  intro x hx
  obtain ⟨j, hj, rfl⟩ := List.getElem_of_mem hx
  rw [h j _ hj (List.getElem?_eq_getElem hj)]; simp
theorem has_ok (a b : List UInt8) (w : World) : Calls Tryd.prog 23 #[str a, str b] w (fun e w' => e = .returned (.bool (Lib.hasPrefix a b)) ∧ w' = w) := by
  refine (Tryd.strings_HasPrefix (bs a) (bs b) w).mono ?_
  rintro e w' ⟨rfl, h⟩
  exact ⟨rfl, h⟩
theorem sign_le : ∀ s ∈ signL, 1 ≤ s.length ∧ s.length ≤ 2 := by decide
theorem hasPrefix_le {a b : List UInt8} (h : Lib.hasPrefix a b = true) : b.length ≤ a.length := by
  unfold Lib.hasPrefix at h
  exact (List.isPrefixOf_iff_prefix.1 h).length_le
end Go.Proofs.YtaiedccjaahmgaaDoor
