/- Lemmas. -/
import Derived.Test.YtkhnpmeohjafiaaGreatDoorMC
import Derived.Test.YtkhnpmeohjafiaaGreatDoorMB
import Derived.WalkMore
namespace Go.Proofs.YtkhnpmeohjafiaaGreatDoor
open Go.RowKit
def tokC (t : Tok) : List Value := [.int .i64 (t.1 : Int), str t.2.1, .int .i64 (t.2.2.1 : Int), .int .i64 (t.2.2.2 : Int)]
def flatT : List Tok → List Value
 | [] => []
 | t :: r => tokC t ++ flatT r
theorem flatT_append : ∀ a b : List Tok, flatT (a ++ b) = flatT a ++ flatT b
 | [], _ => rfl
 | t :: a, b => by simp [flatT, flatT_append a b]
theorem ei_tok : EI Tryz.prog 55 102 4 40 :=
 ⟨Tryz.underlying55, by
  obtain ⟨i, h1, h2, h3, h4⟩ := info_parts (P := Tryz.prog) (e := 102) (z := .agg #[.int .i64 0, .string (ByteArray.mk #[]), .int .i64 0, .int .i64 0]) (size := 4) (bytes := 40) (by kernel_rfl)
  exact ⟨i, _, h1, h2, h3, h4, rfl⟩, by omega, by omega⟩
def TokPost (l : List UInt8) (w : World) (e : Ending) (w' : World) : Prop :=
 Ext w w' ∧ match lexOf l with
  | .inl f => e = .returned (.tuple #[.slice none 0 0, .agg #[.int .i64 (f.1 : Int), .int .i64 (f.2 : Int)]])
  | .inr ts => ∃ g cap, e = .returned (.tuple #[slv g ts.length cap, .agg #[.int .i64 0, .int .i64 0]]) ∧ Sl w' 102 4 g ts.length cap (flatT ts) ∧ (∀ b, g = some b → w.heap.size ≤ b)
theorem Touch.freshX {S : Nat → Prop} {a b c : World} (h : Ext a b) (k : Touch S b c) (hs : ∀ i, S i → a.heap.size ≤ i) : Ext a c :=
 Ext.trans' h (k.below h.size hs)
structure LexSo (w wr : World) (l : List UInt8) (q : Nat) (ts : List Tok) (g : Option Nat) (cap : Nat) : Prop where
 scn : Scn wr (w.heap.size + 1) l q
 out : Sl wr 102 4 g ts.length cap (flatT ts)
 own : ∀ b, g = some b → w.heap.size + 1 < b
 ext : Ext w wr
 res : wr.heap[w.heap.size]? = some (.cells #[.int .i64 0, .int .i64 0] 36 (0, 0))
 few : ts.length ≤ q
 so : tk 0 l = appR ts (tk q (l.drop q))
theorem LexSo.small {w wr : World} {l : List UInt8} {q : Nat} {ts : List Tok} {g : Option Nat} {cap : Nat} (h : LexSo w wr l q ts g cap) {w' : World} (ht : Touch (fun b => b = w.heap.size + 1) wr w') {q' : Nat} (hs : Scn w' (w.heap.size + 1) l q') (hq : q ≤ q') (he : tk q (l.drop q) = tk q' (l.drop q')) : LexSo w w' l q' ts g cap :=
 ⟨hs, h.out.touch ht (fun b hb hx => by have := h.own b hb; omega), h.own, Touch.freshX h.ext ht (fun k hk => by omega), ht.old h.res (by omega), Nat.le_trans h.few hq, he ▸ h.so⟩
theorem takeWhile_mem {p : UInt8 → Bool} : ∀ {l : List UInt8} {x : UInt8}, x ∈ l.takeWhile p → p x = true
 | [], x, h => by simp at h
 | y :: r, x, h => by
   rw [List.takeWhile_cons] at h
   split at h
   · rcases List.mem_cons.1 h with rfl | h
     · assumption
     · exact takeWhile_mem h
   · simp at h
theorem tk_skip (l : List UInt8) (q : Nat) : tk q (l.drop q) = tk (q + ((l.drop q).takeWhile isB).length) (l.drop (q + ((l.drop q).takeWhile isB).length)) := by
 have h : l.drop q = (l.drop q).takeWhile isB ++ l.drop (q + ((l.drop q).takeWhile isB).length) := by
  rw [← List.drop_drop]
  have h1 : ((l.drop q).takeWhile isB) ++ (l.drop q).dropWhile isB = l.drop q := List.takeWhile_append_dropWhile
  have h2 : (l.drop q).drop ((l.drop q).takeWhile isB).length = (l.drop q).dropWhile isB := by
   conv => lhs; rw [← h1]
   rw [h1]
   conv => lhs; arg 2; rw [← h1]
   rw [List.drop_left]
  rw [h2, h1]
 conv => lhs; rw [h]
 exact tk_blanks _ q _ (fun _ hx => takeWhile_mem hx)
theorem notB_after (l : List UInt8) (q : Nat) {x : UInt8} (h : l[q + ((l.drop q).takeWhile isB).length]? = some x) : isB x = false := by
 have h1 : ((l.drop q).takeWhile isB) ++ (l.drop q).dropWhile isB = l.drop q := List.takeWhile_append_dropWhile
 cases hd : (l.drop q).dropWhile isB with
 | nil =>
   rw [hd, List.append_nil] at h1
   rw [h1] at h
   have := (List.getElem?_eq_some_iff.1 h).1
   rw [List.length_drop] at this
   omega
 | cons y r =>
   have hy : isB y = false := by
    have := List.head?_dropWhile_not isB (l.drop q)
    rw [hd] at this
    simpa using this
   have hxy : l[q + ((l.drop q).takeWhile isB).length]? = some y := by
    have h2 : (l.drop q)[((l.drop q).takeWhile isB).length]? = some y := by
     conv => lhs; arg 1; rw [← h1]
     rw [List.getElem?_append_right (Nat.le_refl _), Nat.sub_self, hd]; rfl
    rw [List.getElem?_drop] at h2
    exact h2
   rw [hxy] at h
   cases h; exact hy
theorem tk_one {l : List UInt8} {q k n m : Nat} {t : List UInt8} (h : one (l.drop q) = some (k, t, n, m)) : tk q (l.drop q) = consT (k, t, n, q) (tk (q + m) (l.drop (q + m))) := by
 cases hd : l.drop q with
 | nil => rw [hd] at h; simp [one] at h
 | cons x r =>
   rw [hd] at h
   rw [tk_some h, ← hd, List.drop_drop]
theorem tk_bad {l : List UInt8} {q : Nat} {x : UInt8} (hx : l[q]? = some x) (hb : isB x = false) (h : one (l.drop q) = none) : tk q (l.drop q) = .inl q := by
 rw [drop_at hx] at h ⊢
 exact tk_none hb h
theorem appR_snoc (ts : List Tok) (t : Tok) (R : Nat ⊕ List Tok) : appR ts (consT t R) = appR (ts ++ [t]) R := by
 cases R <;> simp [appR, consT]
theorem lexOf_done {l : List UInt8} {q : Nat} {ts : List Tok} (hl : l.length ≤ 4096) (hq : l.length ≤ q) (h : tk 0 l = appR ts (tk q (l.drop q))) : lexOf l = .inr ts := by
 rw [List.drop_eq_nil_of_le hq, tk_nil] at h
 unfold lexOf
 rw [if_neg (by omega), h]
 simp [appR]
theorem lexOf_bad {l : List UInt8} {q : Nat} {ts : List Tok} (hl : l.length ≤ 4096) (hq : tk q (l.drop q) = .inl q) (h : tk 0 l = appR ts (tk q (l.drop q))) : lexOf l = .inl (140, q) := by
 rw [hq] at h
 unfold lexOf
 rw [if_neg (by omega), h]
 simp [appR]
theorem Scn.store {w : World} {cb : Nat} {l : List UInt8} {q : Nat} (h : Scn w cb l q) {p : Addr} (hn : cb ≠ p.block) (v : Value) : Scn (w.setCell p v) cb l q := ⟨blk_set_ne h.1 hn v, h.2⟩
theorem Touch.late {S : Nat → Prop} {a w : World} (h : Touch S a w) {b : Nat} (hb : a.heap.size ≤ b) (i : Nat) (v : Value) : Touch S a (w.setCell ⟨b, i, none⟩ v) := h.setCell (p := ⟨b, i, none⟩) (fun hx => absurd hx (by simp; omega)) v
theorem blk_new_at {w : World} {n : Nat} (o : Obj) (h : w.heap.size = n) : (w.alloc o).heap[n]? = some o := by subst h; exact blk_new w o
theorem size_set (w : World) (p : Addr) (v : Value) : (w.setCell p v).heap.size = w.heap.size := by simp [World.setCell]
theorem upper_ok (l : List UInt8) (w : World) (hl : l.length ≤ 1000000000) (ha : ∀ x ∈ l, isW x = true) : Calls Tryz.prog 46 #[str l] w (fun e w' => e = .returned (str (l.map up)) ∧ Ext w w') := by
 refine (Tryz.strings_ToUpper_ascii (bs l) w (by rw [bs_size]; omega) (fun j b hb => ?_)).mono ?_
 · have := ha b (List.mem_of_getElem? hb)
   simp only [isW, isL, isD, Bool.or_eq_true, decide_eq_true_eq] at this
   omega
 · rintro e w' ⟨rfl, h⟩
   refine ⟨?_, h⟩
   rw [toUpper_eq]; rfl
theorem LexSo.next {w w1 X w5 : World} {l : List UInt8} {q q4 cap cap5 g5 k n m : Nat} {ts : List Tok} {g : Option Nat} {t : List UInt8} (h : LexSo w w1 l q ts g cap) (hT : Touch (fun b => b = w.heap.size + 1) w1 X) (hS : Scn X (w.heap.size + 1) l q4)
   (hap : Sl w5 102 4 (some g5) (ts.length + 1) cap5 (flatT ts ++ tokC (k, t, n, q))) (ht5 : Touch (fun b => g = some b) X w5) (hat : g = some g5 ∨ g5 = X.heap.size)
   (hone : one (l.drop q) = some (k, t, n, m)) (hq : q4 = q + m) : LexSo w w5 l q4 (ts ++ [(k, t, n, q)]) (some g5) cap5 := by
 have hm := one_le hone
 have hgb : ∀ b, g = some b → w.heap.size + 1 < b := h.own
 have hw1 : w.heap.size + 1 < w1.heap.size := blk_lt h.scn.1
 have hX := hT.size
 refine ⟨hS.touch ht5 (fun hx => by have := hgb _ hx; omega), ?_, ?_, ?_, ?_, ?_, ?_⟩
 · rw [List.length_append, flatT_append]; simpa [flatT] using hap
 · intro b hb
   cases hb
   rcases hat with hat | hat
   · exact hgb _ hat
   · omega
 · exact Touch.freshX (Touch.freshX h.ext hT (fun k hk => by omega)) ht5 (fun k hk => by have := hgb k hk; omega)
 · exact ht5.old (hT.old h.res (by omega)) (fun hx => by have := hgb _ hx; omega)
 · rw [List.length_append]
   have := h.few
   simp; omega
 · rw [← appR_snoc, hq, ← tk_one hone]; exact h.so
theorem one_word {l : List UInt8} {q : Nat} {x : UInt8} (hx : l[q]? = some x) (h : isL x = true) : one (l.drop q) = some (1, ((l.drop q).takeWhile isW).map up, 0, ((l.drop q).takeWhile isW).length) := by
 rw [drop_at hx, one_cons, if_pos h]
theorem dropWhile_drop (p : UInt8 → Bool) (m : List UInt8) : m.dropWhile p = m.drop (m.takeWhile p).length := by
 induction m with
 | nil => rfl
 | cons x r ih =>
   rw [List.dropWhile_cons, List.takeWhile_cons]
   split
   · simpa using ih
   · rfl
theorem one_num {l : List UInt8} {q : Nat} {x : UInt8} (hx : l[q]? = some x) (h : isD x = true) :
  one (l.drop q) = if ((l.drop q).takeWhile isD).length ≤ 18 ∧ headL (l.drop (q + ((l.drop q).takeWhile isD).length)) = false then some (2, [], val ((l.drop q).takeWhile isD), ((l.drop q).takeWhile isD).length) else none := by
 have hL : isL x = false := by
  cases hl : isL x with
  | false => rfl
  | true => rw [isL_d hl] at h; cases h
 have h1 : (l.drop q).dropWhile isD = l.drop (q + ((l.drop q).takeWhile isD).length) := by rw [dropWhile_drop, List.drop_drop]
 rw [← h1]
 rw [drop_at hx, one_cons, hL, if_neg (by simp), if_pos h]
theorem headL_at {l : List UInt8} {q : Nat} {y : UInt8} (hy : l[q]? = some y) : headL (l.drop q) = isL y := by rw [drop_at hy]; rfl
theorem headL_end {l : List UInt8} {q : Nat} (h : l.length ≤ q) : headL (l.drop q) = false := by rw [List.drop_eq_nil_of_le h]; rfl
theorem one_quo {l : List UInt8} {q : Nat} (hx : l[q]? = some 39) : one (l.drop q) = (quo (l.drop (q + 1))).map (fun r => (3, r.1, 0, r.2 + 1)) := by
 rw [drop_at hx, one_cons, if_neg (by decide), if_neg (by decide), if_pos rfl]
theorem one_sgn {l : List UInt8} {q : Nat} {x : UInt8} (hx : l[q]? = some x) (h1 : isL x = false) (h2 : isD x = false) (h3 : x ≠ 39) :
  one (l.drop q) = (signL.find? (fun s => Lib.hasPrefix (l.drop q) s)).map (fun s => (4, s, 0, s.length)) := by
 rw [drop_at hx, one_cons, if_neg (by rw [h1]; simp), if_neg (by rw [h2]; simp), if_neg h3, sgn_find]
theorem find_at {α : Type} {p : α → Bool} : ∀ {L : List α} {i : Nat} {s : α}, L[i]? = some s → p s = true → (∀ (j : Nat) (u : α), j < i → L[j]? = some u → p u = false) → L.find? p = some s
 | [], i, s, h, _, _ => by simp at h
 | a :: L, 0, s, h, hp, _ => by simp at h; subst h; simp [hp]
 | a :: L, i + 1, s, h, hp, hn => by
   have h0 := hn 0 a (by omega) rfl
   rw [List.find?_cons, h0]
   exact find_at (L := L) (i := i) (by simpa using h) hp (fun j u hj hu => hn (j + 1) u (by omega) (by simpa using hu))
theorem find_no {α : Type} {p : α → Bool} {L : List α} (h : ∀ (j : Nat) (u : α), j < L.length → L[j]? = some u → p u = false) : L.find? p = none := by
 rw [List.find?_eq_none]
 intro x hx
 obtain ⟨j, hj, rfl⟩ := List.getElem_of_mem hx
 rw [h j _ hj (List.getElem?_eq_getElem hj)]; simp
theorem has_ok (a b : List UInt8) (w : World) : Calls Tryz.prog 52 #[str a, str b] w (fun e w' => e = .returned (.bool (Lib.hasPrefix a b)) ∧ w' = w) := by
 refine (Tryz.strings_HasPrefix (bs a) (bs b) w).mono ?_
 rintro e w' ⟨rfl, h⟩
 exact ⟨rfl, h⟩
theorem sign_le : ∀ s ∈ signL, 1 ≤ s.length ∧ s.length ≤ 2 := by decide
theorem hasPrefix_le {a b : List UInt8} (h : Lib.hasPrefix a b = true) : b.length ≤ a.length := by
 unfold Lib.hasPrefix at h
 exact (List.isPrefixOf_iff_prefix.1 h).length_le
theorem signs_ok (w : World) : Calls Tryz.prog 51 #[] w (fun e w' => e = .returned (.slice (some ⟨w.heap.size, 0, none⟩) 14 14) ∧ w' = w.alloc (.cells (signL.map str).toArray 9)) := by
 go_enter Tryz.func51, Tryz.ntmps51
 go_wp2
 go_ret
 exact ⟨rfl, rfl⟩
set_option maxRecDepth 100000 in
set_option maxHeartbeats 16000000 in
theorem tokens_ok (l : List UInt8) (w : World) (hl : l.length ≤ 1000000000) :
   Calls Tryz.prog 17 #[str l] w (TokPost l w) := by
 have hsz := bs_size l
 by_cases hlong : 4096 < l.length
 · go_enter Tryz.func17, Tryz.ntmps17
   go_wp2
   go_step3
   go_wp2
   rw [Exit.noGoto_ret]
   refine bodyPost_ret (v := .tuple #[.slice none 0 0, .agg #[.int .i64 2, .int .i64 4096]]) (by simp [results, Tryz.results17, go_sem]) rfl ?_
   unfold TokPost lexOf
   rw [if_pos hlong]
   exact ⟨(Ext.refl w).alloc _, rfl⟩
 · have hlen : l.length ≤ 4096 := by omega
   go_enter Tryz.func17, Tryz.ntmps17
   go_wp2
   go_step3
   go_wp2
   go_step3
   go_wp2
   refine wp_at (fun W => LexSo w W l 0 [] none 0) ?_ ?_
   · refine ⟨⟨?_, Nat.zero_le _⟩, Sl.nil _ _ _, by simp, ((Ext.refl w).alloc _).alloc _, ?_, Nat.le_refl _, (appR_nil _).symm⟩
     · have := blk_new (w.alloc (.cells #[.int .i64 0, .int .i64 0] 36)) (.cells #[str l, .int .i64 0] 98)
       simpa using this
     · exact blk_alloc (blk_new w _)
   intro W hW
   go_loopg [5] (l.length + 1) (fun k v5 wr => ∃ (q : Nat) (ts : List Tok) (g : Option Nat) (cap : Nat), k = l.length + 1 - q ∧ v5 = slv g ts.length cap ∧ LexSo w wr l q ts g cap)
   case atStart => exact ⟨0, [], none, 0, rfl, rfl, hW⟩
   case round =>
     clear hW hlong
     obtain ⟨q0, ts, g, cap, hk0, rfl, hL0⟩ := hrel
     have HK0 := Lib.hid hk0; clear hk0
     have HL0 := Lib.hid hL0; clear hL0
     go_wp2_with fail
     refine (while_blank (w.heap.size + 1) l q0 wr HL0.out.scn hl).mono ?_
     rintro e w1 ⟨rfl, hS1, hT1⟩
     have hL := HL0.out.small hT1 hS1 (by omega) (tk_skip l q0)
     have hnb := fun x => notB_after l q0 (x := x)
     generalize hq : q0 + ((l.drop q0).takeWhile isB).length = q at hL hnb
     have HNB := Lib.hid hnb
     have HK : Hid (l.length + 1 - q ≤ gk) := by have := HK0.out; show _ ≤ _; omega
     have HL := Lib.hid hL
     clear HL0 HK0 hS1 hT1 hnb hL hq
     obtain ⟨c0, c1⟩ := blk2 HL.out.scn.1
     have hql := HL.out.scn.2
     have hcb : w.heap.size + 1 < w1.heap.size := blk_lt HL.out.scn.1
     by_cases hlt : q < l.length
     · obtain ⟨x, hx⟩ : ∃ x, l[q]? = some x := ⟨_, List.getElem?_eq_getElem hlt⟩
       have hxg := bs_get hx
       have hxb := HNB.out x hx
       have HX := Lib.hid hx
       have HXB := Lib.hid hxb
       clear hx hxb HNB
       go_wp2_with fail
       refine (letter_ok x _).mono ?_
       rintro e w2 ⟨rfl, rfl⟩
       cases hisL : isL x with
       | true =>
         have HONE := Lib.hid (one_word HX.out hisL)
         go_wp2_with fail
         refine (while_word (w.heap.size + 1) l q _ (HL.out.scn.ext ((Ext.refl w1).alloc _)) hl).mono ?_
         rintro e w3 ⟨rfl, hS3, hT3⟩
         have hT3' : Touch (fun b => b = w.heap.size + 1) w1 w3 := ((Touch.refl _ w1).alloc _).trans hT3
         have hb3 := hT3.old (blk_new w1 _) (by omega)
         go_wp2_with fail
         refine (upper_ok _ w3 ?_ ?_).mono ?_
         · have := takeWhile_le isW (l.drop q); rw [List.length_drop] at this; omega
         · exact fun y hy => takeWhile_mem hy
         rintro e w4 ⟨rfl, hE4⟩
         have hb4 := Ext.block hE4 hb3
         obtain ⟨d0, d1⟩ : w4.cell? ⟨w1.heap.size, 0, none⟩ = some (.int .i64 0) ∧ w4.cell? ⟨w1.heap.size, 1, none⟩ = some (str []) := ⟨blk_cell hb4 rfl, blk_cell hb4 rfl⟩
         have d2 : w4.cell? ⟨w1.heap.size, 2, none⟩ = some (.int .i64 0) := blk_cell hb4 rfl
         have d3 : w4.cell? ⟨w1.heap.size, 3, none⟩ = some (.int .i64 (q : Int)) := blk_cell hb4 rfl
         have f0 := blk_frozen hb4 0
         have f1 := blk_frozen hb4 1
         have HSX := Lib.hid (hS3.ext hE4)
         have HTX := Lib.hid (hT3'.trans (hE4.touch _))
         clear hS3 hT3 hT3' hb3 hE4 hb4
         have hcbb : w.heap.size + 1 ≠ w1.heap.size := by omega
         have HTY := Lib.hid ((HTX.out.late (Nat.le_refl _) 0 (.int .i64 1)).late (Nat.le_refl _) 1 (str (((l.drop q).takeWhile isW).map up)))
         have HSY := Lib.hid ((HSX.out.store (p := ⟨w1.heap.size, 0, none⟩) hcbb (.int .i64 1)).store (p := ⟨w1.heap.size, 1, none⟩) hcbb (str (((l.drop q).takeWhile isW).map up)))
         go_wp2_with (at_builtin; refine (fun (h : True → _) => h trivial) ?_)
         intro _
         refine app_lit ei_tok rfl (.tmp 125) (.tmp 127) rfl (g := g) (n := ts.length) (cap := cap) (b := w4.heap.size) (by rfl) ((HL.out.out.touch HTY.out (fun b hb hx => by have := HL.out.own b hb; omega)).ext ((Ext.refl _).alloc _)) (by rfl) rfl (blk_new_at _ (by simp only [size_set])) (by simp [Value.oneCell']) (by omega) (by have := HL.out.few; omega) ?_
         intro g5 cap5 w5 hS5 hT5 hat5
         have hL5 := LexSo.next HL.out (HTY.out.alloc _) (HSY.out.ext ((Ext.refl _).alloc _)) hS5 hT5 hat5 HONE.out (rfl)
         have HL5 := Lib.hid hL5
         have hm := one_le HONE.out
         have HM := Lib.hid hm.1
         clear hS5 hT5 hat5 hL5 hm
         go_wp2
         go_roundg (l.length + 1 - (q + ((l.drop q).takeWhile isW).length))
         case measure => have := HK.out; have := HM.out; omega
         case rel => exact ⟨_, _, some g5, cap5, rfl, by rw [List.length_append]; rfl, HL5.out⟩
       | false =>
         go_wp2_with fail
         refine (digit_ok x _).mono ?_
         rintro e w2 ⟨rfl, rfl⟩
         cases hisD : isD x with
         | true =>
           have hone := one_num HX.out hisD
           go_wp2_with fail
           refine (while_digit (w.heap.size + 1) l q _ (HL.out.scn.ext ((Ext.refl w1).alloc _)) hl).mono ?_
           rintro e w3 ⟨rfl, hS3, hT3⟩
           have hT3' : Touch (fun b => b = w.heap.size + 1) w1 w3 := ((Touch.refl _ w1).alloc _).trans hT3
           have hb3 := hT3.old (blk_new w1 _) (by omega)
           have hdl : ((l.drop q).takeWhile isD).length ≤ 1000000000 := by have := takeWhile_le isD (l.drop q); rw [List.length_drop] at this; omega
           have hdd : ∀ y ∈ (l.drop q).takeWhile isD, isD y = true := fun y hy => takeWhile_mem hy
           generalize (l.drop q).takeWhile isD = ds at hone hS3 hdl hdd
           have HO := Lib.hid hone
           have HDD := Lib.hid hdd
           clear hone hdd
           go_wp2_with fail
           refine (number_ok ds w3 HDD.out hdl).mono ?_
           rintro e w4 ⟨hE4, n, rfl, hn⟩
           have hb4 := Ext.block hE4 hb3
           obtain ⟨d0, d1⟩ : w4.cell? ⟨w1.heap.size, 0, none⟩ = some (.int .i64 2) ∧ w4.cell? ⟨w1.heap.size, 1, none⟩ = some (str []) := ⟨blk_cell hb4 rfl, blk_cell hb4 rfl⟩
           have d2 : w4.cell? ⟨w1.heap.size, 2, none⟩ = some (.int .i64 0) := blk_cell hb4 rfl
           have d3 : w4.cell? ⟨w1.heap.size, 3, none⟩ = some (.int .i64 (q : Int)) := blk_cell hb4 rfl
           have f2 := blk_frozen hb4 2
           have HSX := Lib.hid (hS3.ext hE4)
           have HTX := Lib.hid (hT3'.trans (hE4.touch _))
           have HN := Lib.hid hn
           have hcbb : w.heap.size + 1 ≠ w1.heap.size := by omega
           obtain ⟨a0, a1⟩ := blk2 HSX.out.1
           have hq4 := HSX.out.2
           clear hS3 hT3 hT3' hb3 hE4 hb4 hn
           by_cases h18 : ds.length ≤ 18
           · have hz18 : decide (ds.length ≤ 18) = true := by simpa using h18
             rw [hz18]
             have hnv := HN.out h18
             subst hnv
             by_cases hend : q + ds.length = l.length
             · have hfz : ((q : Int) + (ds.length : Int) == (l.length : Int)) = true := by rw [beq_iff_eq]; omega
               have HONE : Hid (one (l.drop q) = some (2, [], val ds, ds.length)) := by
                 show _ = _
                 rw [HO.out, if_pos ⟨h18, headL_end (by omega)⟩]
               clear hend
               have HTY := Lib.hid (HTX.out.late (Nat.le_refl _) 2 (.int .i64 (val ds : Int)))
               have HSY := Lib.hid (HSX.out.store (p := ⟨w1.heap.size, 2, none⟩) hcbb (.int .i64 (val ds : Int)))
               go_wp2_with (at_builtin; refine (fun (h : True → _) => h trivial) ?_)
               intro _
               refine app_lit ei_tok rfl (.tmp 125) (.tmp 127) rfl (g := g) (n := ts.length) (cap := cap) (b := w4.heap.size) (by rfl) ((HL.out.out.touch HTY.out (fun b hb hx => by have := HL.out.own b hb; omega)).ext ((Ext.refl _).alloc _)) (by rfl) rfl (blk_new_at _ (by simp only [size_set])) (by simp [Value.oneCell']) (by omega) (by have := HL.out.few; omega) ?_
               intro g5 cap5 w5 hS5 hT5 hat5
               have hL5 := LexSo.next HL.out (HTY.out.alloc _) (HSY.out.ext ((Ext.refl _).alloc _)) hS5 hT5 hat5 HONE.out (rfl)
               have HL5 := Lib.hid hL5
               have hm := one_le HONE.out
               have HM := Lib.hid hm.1
               clear hS5 hT5 hat5 hL5 hm
               go_wp2
               go_roundg (l.length + 1 - (q + ds.length))
               case measure => have := HK.out; have := HM.out; omega
               case rel => exact ⟨_, _, some g5, cap5, rfl, by rw [List.length_append]; rfl, HL5.out⟩
             · obtain ⟨y, hy⟩ : ∃ y, l[q + ds.length]? = some y := ⟨_, List.getElem?_eq_getElem (show q + ds.length < l.length by omega)⟩
               have hfz : ((q : Int) + (ds.length : Int) == (l.length : Int)) = false := by rw [beq_eq_false_iff_ne]; omega
               have hyg := bs_get hy
               have hN1 : ((q : Int) + (ds.length : Int)).toNat = q + ds.length := by omega
               have hN2 : (0 : Int) ≤ (q : Int) + (ds.length : Int) := by omega
               have hN3 : (q : Int) + (ds.length : Int) < (l.length : Int) := by omega
               have HY := Lib.hid (headL_at hy)
               clear hy
               go_wp2_with fail
               refine (letter_ok y _).mono ?_
               rintro e w9 ⟨rfl, rfl⟩
               cases hisy : isL y with
               | true =>
                 have HONE : Hid (one (l.drop q) = none) := by
                   show _ = _
                   rw [HO.out, if_neg (fun h => by rw [HY.out, hisy] at h; simp at h)]
                 have hres := (HTX.out.late (Nat.le_refl _) 2 (.int .i64 (val ds : Int))).old HL.out.res (by omega)
                 obtain ⟨r0, r1⟩ := blk2 hres
                 have e0 := blk_frozen hres 0
                 have e1 := blk_frozen hres 1
                 have hrs := blk_lt hres
                 have HEX : Hid (Ext w (w4.setCell ⟨w1.heap.size, 2, none⟩ (.int .i64 (val ds : Int)))) := Touch.freshX HL.out.ext (HTX.out.late (Nat.le_refl _) 2 (.int .i64 (val ds : Int))) (fun k hk => by omega)
                 have HBAD := Lib.hid (lexOf_bad hlen (tk_bad HX.out HXB.out HONE.out) HL.out.so)
                 clear hres
                 go_wp2
                 refine region_calm [.p 0, .l 1, .p 2, .p 3, .h 4 false] f_mixed (by kernel_rfl) (by kernel_rfl) ?_
                 repeat ((first | refine plan_p rfl (fun K hK => ?_) | refine plan_l rfl (fun K hK => ?_)); go_simp; refine hK _ ?_; clear hK K)
                 refine plan_h rfl (fun K hK => ?_)
                 go_wp2_with fail
                 refine plan_done ?_
                 go_wp2
                 (try rw [Exit.noGoto_ret])
                 refine bodyPost_ret (v := .tuple #[.slice none 0 0, .agg #[.int .i64 140, .int .i64 (q : Int)]]) (by simp [results, Tryz.results17, go_sem, r0, r1]) rfl ?_
                 unfold TokPost
                 rw [HBAD.out]
                 exact ⟨Below.setCell (p := ⟨w.heap.size, 1, none⟩) (Below.setCell (p := ⟨w.heap.size, 0, none⟩) HEX.out.drew (Nat.le_refl _) _) (Nat.le_refl _) _, rfl⟩
               | false =>
                 have HONE : Hid (one (l.drop q) = some (2, [], val ds, ds.length)) := by
                   show _ = _
                   rw [HO.out, if_pos ⟨h18, by rw [HY.out, hisy]⟩]
                 clear hend
                 have HTY := Lib.hid (HTX.out.late (Nat.le_refl _) 2 (.int .i64 (val ds : Int)))
                 have HSY := Lib.hid (HSX.out.store (p := ⟨w1.heap.size, 2, none⟩) hcbb (.int .i64 (val ds : Int)))
                 go_wp2_with (at_builtin; refine (fun (h : True → _) => h trivial) ?_)
                 intro _
                 refine app_lit ei_tok rfl (.tmp 125) (.tmp 127) rfl (g := g) (n := ts.length) (cap := cap) (b := w4.heap.size) (by rfl) ((HL.out.out.touch HTY.out (fun b hb hx => by have := HL.out.own b hb; omega)).ext ((Ext.refl _).alloc _)) (by rfl) rfl (blk_new_at _ (by simp only [size_set])) (by simp [Value.oneCell']) (by omega) (by have := HL.out.few; omega) ?_
                 intro g5 cap5 w5 hS5 hT5 hat5
                 have hL5 := LexSo.next HL.out (HTY.out.alloc _) (HSY.out.ext ((Ext.refl _).alloc _)) hS5 hT5 hat5 HONE.out (rfl)
                 have HL5 := Lib.hid hL5
                 have hm := one_le HONE.out
                 have HM := Lib.hid hm.1
                 clear hS5 hT5 hat5 hL5 hm
                 go_wp2
                 go_roundg (l.length + 1 - (q + ds.length))
                 case measure => have := HK.out; have := HM.out; omega
                 case rel => exact ⟨_, _, some g5, cap5, rfl, by rw [List.length_append]; rfl, HL5.out⟩
           · have hz18 : decide (ds.length ≤ 18) = false := by simpa using h18
             rw [hz18]
             have HONE : Hid (one (l.drop q) = none) := by
               show _ = _
               rw [HO.out, if_neg (fun h => h18 h.1)]
             have hres := (HTX.out.late (Nat.le_refl _) 2 (.int .i64 n)).old HL.out.res (by omega)
             obtain ⟨r0, r1⟩ := blk2 hres
             have e0 := blk_frozen hres 0
             have e1 := blk_frozen hres 1
             have hrs := blk_lt hres
             have HEX : Hid (Ext w (w4.setCell ⟨w1.heap.size, 2, none⟩ (.int .i64 n))) := Touch.freshX HL.out.ext (HTX.out.late (Nat.le_refl _) 2 (.int .i64 n)) (fun k hk => by omega)
             have HBAD := Lib.hid (lexOf_bad hlen (tk_bad HX.out HXB.out HONE.out) HL.out.so)
             clear hres
             go_wp2
             refine region_calm [.p 0, .l 1, .p 2, .p 3, .h 4 false] f_mixed (by kernel_rfl) (by kernel_rfl) ?_
             repeat ((first | refine plan_p rfl (fun K hK => ?_) | refine plan_l rfl (fun K hK => ?_)); go_simp; refine hK _ ?_; clear hK K)
             refine plan_h rfl (fun K hK => ?_)
             go_wp2_with fail
             refine plan_done ?_
             go_wp2
             (try rw [Exit.noGoto_ret])
             refine bodyPost_ret (v := .tuple #[.slice none 0 0, .agg #[.int .i64 140, .int .i64 (q : Int)]]) (by simp [results, Tryz.results17, go_sem, r0, r1]) rfl ?_
             unfold TokPost
             rw [HBAD.out]
             exact ⟨Below.setCell (p := ⟨w.heap.size, 1, none⟩) (Below.setCell (p := ⟨w.heap.size, 0, none⟩) HEX.out.drew (Nat.le_refl _) _) (Nat.le_refl _) _, rfl⟩
         | false =>
           by_cases h39 : x = 39
           · subst h39
             have hx39 : (UInt8.toNat 39 : Int) = 39 := rfl
             have HO := Lib.hid (one_quo HX.out)
             go_wp2_with fail
             refine (quoted_ok (w.heap.size + 1) l q _ (HL.out.scn.ext ((Ext.refl w1).alloc _)) hlt hl).mono ?_
             rintro e w4 ⟨q4, hS3, hT3, hp⟩
             have hb4 := hT3.old (blk_new w1 _) (by omega)
             obtain ⟨d0, d1⟩ : w4.cell? ⟨w1.heap.size, 0, none⟩ = some (.int .i64 3) ∧ w4.cell? ⟨w1.heap.size, 1, none⟩ = some (str []) := ⟨blk_cell hb4 rfl, blk_cell hb4 rfl⟩
             have d2 : w4.cell? ⟨w1.heap.size, 2, none⟩ = some (.int .i64 0) := blk_cell hb4 rfl
             have d3 : w4.cell? ⟨w1.heap.size, 3, none⟩ = some (.int .i64 (q : Int)) := blk_cell hb4 rfl
             have f1 := blk_frozen hb4 1
             have HSX := Lib.hid hS3
             have HTX := Lib.hid (((Touch.refl _ w1).alloc _).trans hT3)
             have hcbb : w.heap.size + 1 ≠ w1.heap.size := by omega
             clear hS3 hT3 hb4
             cases hquo : quo (l.drop (q + 1)) with
             | none =>
               rw [hquo] at hp
               subst hp
               have HONE : Hid (one (l.drop q) = none) := by
                 show _ = _
                 rw [HO.out, hquo]; rfl
               clear hquo
               have hres := (HTX.out.late (Nat.le_refl _) 1 (str [])).old HL.out.res (by omega)
               obtain ⟨r0, r1⟩ := blk2 hres
               have e0 := blk_frozen hres 0
               have e1 := blk_frozen hres 1
               have hrs := blk_lt hres
               have HEX : Hid (Ext w (w4.setCell ⟨w1.heap.size, 1, none⟩ (str []))) := Touch.freshX HL.out.ext (HTX.out.late (Nat.le_refl _) 1 (str [])) (fun k hk => by omega)
               have HBAD := Lib.hid (lexOf_bad hlen (tk_bad HX.out HXB.out HONE.out) HL.out.so)
               clear hres
               go_wp2
               refine region_calm [.p 0, .l 1, .p 2, .p 3, .h 4 false] f_mixed (by kernel_rfl) (by kernel_rfl) ?_
               repeat ((first | refine plan_p rfl (fun K hK => ?_) | refine plan_l rfl (fun K hK => ?_)); go_simp; refine hK _ ?_; clear hK K)
               refine plan_h rfl (fun K hK => ?_)
               go_wp2_with fail
               refine plan_done ?_
               go_wp2
               (try rw [Exit.noGoto_ret])
               refine bodyPost_ret (v := .tuple #[.slice none 0 0, .agg #[.int .i64 140, .int .i64 (q : Int)]]) (by simp [results, Tryz.results17, go_sem, r0, r1]) rfl ?_
               unfold TokPost
               rw [HBAD.out]
               exact ⟨Below.setCell (p := ⟨w.heap.size, 1, none⟩) (Below.setCell (p := ⟨w.heap.size, 0, none⟩) HEX.out.drew (Nat.le_refl _) _) (Nat.le_refl _) _, rfl⟩
             | some r =>
               obtain ⟨tx, m⟩ := r
               rw [hquo] at hp
               obtain ⟨rfl, hq4⟩ := hp
               have HONE : Hid (one (l.drop q) = some (3, tx, 0, m + 1)) := by
                 show _ = _
                 rw [HO.out, hquo]; rfl
               have HQ4 := Lib.hid hq4
               clear hquo hq4
               have HTY := Lib.hid (HTX.out.late (Nat.le_refl _) 1 (str tx))
               have HSY := Lib.hid (HSX.out.store (p := ⟨w1.heap.size, 1, none⟩) hcbb (str tx))
               go_wp2_with (at_builtin; refine (fun (h : True → _) => h trivial) ?_)
               intro _
               refine app_lit ei_tok rfl (.tmp 125) (.tmp 127) rfl (g := g) (n := ts.length) (cap := cap) (b := w4.heap.size) (by rfl) ((HL.out.out.touch HTY.out (fun b hb hx => by have := HL.out.own b hb; omega)).ext ((Ext.refl _).alloc _)) (by rfl) rfl (blk_new_at _ (by simp only [size_set])) (by simp [Value.oneCell']) (by omega) (by have := HL.out.few; omega) ?_
               intro g5 cap5 w5 hS5 hT5 hat5
               have hL5 := LexSo.next HL.out (HTY.out.alloc _) (HSY.out.ext ((Ext.refl _).alloc _)) hS5 hT5 hat5 HONE.out (by have := HQ4.out; omega)
               have HL5 := Lib.hid hL5
               have hm := one_le HONE.out
               have HM := Lib.hid hm.1
               clear hS5 hT5 hat5 hL5 hm
               go_wp2
               go_roundg (l.length + 1 - (q4))
               case measure => have := HK.out; have := HM.out; (have := HQ4.out; omega)
               case rel => exact ⟨_, _, some g5, cap5, rfl, by rw [List.length_append]; rfl, HL5.out⟩
           · have hne : ((x.toNat : Int) == 39) = false := by
               rw [beq_eq_false_iff_ne]
               intro h
               exact h39 (by apply UInt8.toNat_inj.1; simpa using (by exact_mod_cast h : x.toNat = 39))
             have HO := Lib.hid (one_sgn HX.out hisL hisD h39)
             clear h39
             go_wp2_with fail
             refine (signs_ok _).mono ?_
             rintro e w4 ⟨rfl, rfl⟩
             go_wp2_with fail
             refine wp_at (fun Wd => Touch (fun b => b = w.heap.size + 1) w1 Wd ∧ Scn Wd (w.heap.size + 1) l q ∧ Wd.heap[w1.heap.size]? = some (.cells #[.int .i64 0, str [], .int .i64 0, .int .i64 (q : Int)] 102 (0, 0)) ∧ Wd.heap[w1.heap.size + 1]? = some (.cells (signL.map str).toArray 9 (0, 0))) ⟨((Touch.refl _ w1).alloc _).alloc _, HL.out.scn.ext (((Ext.refl w1).alloc _).alloc _), blk_alloc (blk_new w1 _), blk_new_at _ (by simp)⟩ ?_
             rintro wd ⟨hTd, hSd, hbt, hbs⟩
             have HTD := Lib.hid hTd
             have HSD := Lib.hid hSd
             have HBT := Lib.hid hbt
             have HBS := Lib.hid hbs
             clear hTd hSd hbt hbs
             go_loopg [5, 42] 14 (fun k v5 v42 wr => ∃ i : Nat, i + k = 14 ∧ v42 = .int .i64 (i : Int) ∧ v5 = slv g ts.length cap ∧ wr = wd ∧ ∀ (j : Nat) (u : List UInt8), j < i → signL[j]? = some u → Lib.hasPrefix (l.drop q) u = false)
             case atStart => exact ⟨0, by omega, rfl, rfl, rfl, fun j u hj => absurd hj (by omega)⟩
             case round =>
               obtain ⟨i, hik, rfl, rfl, hwd, hno⟩ := hrel
               subst hwd
               have HIK := Lib.hid hik; clear hik
               have HNO := Lib.hid hno; clear hno
               obtain ⟨a0, a1⟩ := blk2 HSD.out.1
               have g1 := blk_frozen HSD.out.1 1
               have d0 : wr.cell? ⟨w1.heap.size, 0, none⟩ = some (.int .i64 0) := blk_cell HBT.out rfl
               have d1 : wr.cell? ⟨w1.heap.size, 1, none⟩ = some (str []) := blk_cell HBT.out rfl
               have d2 : wr.cell? ⟨w1.heap.size, 2, none⟩ = some (.int .i64 0) := blk_cell HBT.out rfl
               have d3 : wr.cell? ⟨w1.heap.size, 3, none⟩ = some (.int .i64 (q : Int)) := blk_cell HBT.out rfl
               have hE : (bs l).extract q l.length = bs (l.drop q) := by
                 rw [bs_extract, List.take_of_length_le (by rw [List.length_drop]; omega)]
               have HE := Lib.hid hE; clear hE
               by_cases hi : i < 14
               · obtain ⟨s, hs⟩ : ∃ s, signL[i]? = some s := ⟨signL[i]'hi, List.getElem?_eq_getElem _⟩
                 have hc : wr.cell? ⟨w1.heap.size + 1, i, none⟩ = some (str s) := blk_cell HBS.out (by simp [hs])
                 have hsl := sign_le s (List.mem_of_getElem? hs)
                 have hss := bs_size s
                 have HS := Lib.hid hs; clear hs
                 go_wp2_with fail
                 rw [HE.out]
                 refine (has_ok (l.drop q) s wr).mono ?_
                 rintro e w9 ⟨rfl, rfl⟩
                 cases hpx : Lib.hasPrefix (l.drop q) s with
                 | true =>
                   have hle := hasPrefix_le hpx
                   rw [List.length_drop] at hle
                   have HONE : Hid (one (l.drop q) = some (4, s, 0, s.length)) := by
                    show _ = _
                    rw [HO.out, find_at HS.out hpx HNO.out]; rfl
                   have hSs := HSD.out.set (q := q + s.length) (by omega)
                   rw [Int.natCast_add] at hSs
                   have HSS := Lib.hid hSs
                   clear hSs HSD HBT HBS HE
                   have HTY := Lib.hid (HTD.out.setCell (p := ⟨w.heap.size + 1, 1, none⟩) (fun _ => rfl) (.int .i64 ((q : Int) + (s.length : Int))))
                   have HSY := Lib.hid (HSS.out)
                   go_wp2_with (at_builtin; refine (fun (h : True → _) => h trivial) ?_)
                   intro _
                   refine app_lit ei_tok rfl (.tmp 63) (.tmp 68) rfl (g := g) (n := ts.length) (cap := cap) (b := w9.heap.size) (by rfl) ((HL.out.out.touch HTY.out (fun b hb hx => by have := HL.out.own b hb; omega)).ext ((Ext.refl _).alloc _)) (by rfl) rfl (blk_new_at _ (by simp only [size_set])) (by simp [Value.oneCell']) (by omega) (by have := HL.out.few; omega) ?_
                   intro g5 cap5 w5 hS5 hT5 hat5
                   have hL5 := LexSo.next HL.out (HTY.out.alloc _) (HSY.out.ext ((Ext.refl _).alloc _)) hS5 hT5 hat5 HONE.out (rfl)
                   have HL5 := Lib.hid hL5
                   have hm := one_le HONE.out
                   have HM := Lib.hid hm.1
                   clear hS5 hT5 hat5 hL5 hm
                   go_wp2
                   go_roundg (l.length + 1 - (q + s.length))
                   case measure => have := HK.out; have := HM.out; omega
                   case rel => exact ⟨_, _, some g5, cap5, rfl, by rw [List.length_append]; rfl, HL5.out⟩
                 | false =>
                   go_wp2
                   go_roundg (gk - 1)
                   case measure => have := HIK.out; omega
                   case rel =>
                    refine ⟨i + 1, by have := HIK.out; omega, by go_num, rfl, rfl, fun j u hj hu => ?_⟩
                    by_cases hji : j = i
                    · subst hji
                      rw [HS.out] at hu; cases hu
                      exact hpx
                    · exact HNO.out j u (by omega) hu
               · have hi14 : i = 14 := by have := HIK.out; omega
                 have HONE : Hid (one (l.drop q) = none) := by
                   show _ = _
                   rw [HO.out, find_no (fun j u hj hu => HNO.out j u (by rw [hi14]; exact hj) hu)]; rfl
                 have hres := (HTD.out).old HL.out.res (by omega)
                 obtain ⟨r0, r1⟩ := blk2 hres
                 have e0 := blk_frozen hres 0
                 have e1 := blk_frozen hres 1
                 have hrs := blk_lt hres
                 have HEX : Hid (Ext w wr) := Touch.freshX HL.out.ext (HTD.out) (fun k hk => by omega)
                 have HBAD := Lib.hid (lexOf_bad hlen (tk_bad HX.out HXB.out HONE.out) HL.out.so)
                 clear hres
                 go_wp2
                 refine region_calm [.p 0, .l 1, .p 2, .p 3, .h 4 false] f_mixed (by kernel_rfl) (by kernel_rfl) ?_
                 repeat ((first | refine plan_p rfl (fun K hK => ?_) | refine plan_l rfl (fun K hK => ?_)); go_simp; refine hK _ ?_; clear hK K)
                 refine plan_h rfl (fun K hK => ?_)
                 go_wp2_with fail
                 refine plan_done ?_
                 go_wp2
                 (try rw [Exit.noGoto_ret])
                 refine bodyPost_ret (v := .tuple #[.slice none 0 0, .agg #[.int .i64 140, .int .i64 (q : Int)]]) (by simp [results, Tryz.results17, go_sem, r0, r1]) rfl ?_
                 unfold TokPost
                 rw [HBAD.out]
                 exact ⟨Below.setCell (p := ⟨w.heap.size, 1, none⟩) (Below.setCell (p := ⟨w.heap.size, 0, none⟩) HEX.out.drew (Nat.le_refl _) _) (Nat.le_refl _) _, rfl⟩
     · have hqe : q = l.length := by omega
       obtain ⟨r0, r1⟩ := blk2 HL.out.res
       have e0 := blk_frozen HL.out.res 0
       have e1 := blk_frozen HL.out.res 1
       have hr := blk_lt HL.out.res
       go_wp2
       (try rw [Exit.noGoto_ret])
       refine bodyPost_ret (v := .tuple #[slv g ts.length cap, .agg #[.int .i64 0, .int .i64 0]]) (by simp [results, Tryz.results17, go_sem, r0, r1]) rfl ?_
       unfold TokPost
       rw [lexOf_done hlen (by omega) HL.out.so]
       refine ⟨?_, g, cap, rfl, ?_, fun b hb => by have := HL.out.own b hb; omega⟩
       · exact Below.setCell (p := ⟨w.heap.size, 1, none⟩) (Below.setCell (p := ⟨w.heap.size, 0, none⟩) HL.out.ext (Nat.le_refl _) _) (Nat.le_refl _) _
       · exact HL.out.out.congr fun b hb => by
           have := HL.out.own b hb
           rw [Below.heap_setCell _ _ _ _ (by simp; omega), Below.heap_setCell _ _ _ _ (by simp; omega)]
end Go.Proofs.YtkhnpmeohjafiaaGreatDoor
