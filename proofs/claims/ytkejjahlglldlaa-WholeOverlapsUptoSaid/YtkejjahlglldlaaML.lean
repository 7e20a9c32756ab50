/- The interval tree's keys and their order; its trees' contents. No program is walked here. The interval tree in memory; New, Add: walked. -/
import Derived.Test.YtkejjahlglldlaaMRi3
import Derived.Test.YtkejjahlglldlaaMA
import Derived.Test.YtkejjahlglldlaaMF
namespace Go.Proofs.Ytkejjahlglldlaa
open Go.RowKit Go.Lib

def kb3 (a b c : Nat) : List UInt8 := numBE a 8 ++ numBE b 8 ++ numBE c 8
theorem numBE_inj {n m : Nat} (hn : n < 18446744073709551616) (hm : m < 18446744073709551616) (h : numBE n 8 = numBE m 8) : n = m := by
  have h1 := getN_numBE n 8
  have h2 := getN_numBE m 8
  rw [h, h2] at h1
  have e : (256 : Nat) ^ 8 = 18446744073709551616 := by decide
  rw [e] at h1
  omega
theorem kb_less (n m : Nat) (X Y : List UInt8) (hn : n < 18446744073709551616) (hm : m < 18446744073709551616) : Op.bytesLess (numBE n 8 ++ X) (numBE m 8 ++ Y) = (decide (n < m) || (decide (n = m) && Op.bytesLess X Y)) := by
  by_cases h : n = m
  · subst h
    rw [bl_pre]; simp
  · rw [bl_len _ _ _ _ (by rw [numBE_len, numBE_len]) (fun e => h (numBE_inj hn hm e)), bytesLess_num n m hn hm]
    simp [h]
theorem kb3_less {a b c a' b' c' : Nat} (ha : a < 18446744073709551616) (hb : b < 18446744073709551616) (hc : c < 18446744073709551616) (ha' : a' < 18446744073709551616) (hb' : b' < 18446744073709551616) (hc' : c' < 18446744073709551616) :
    Op.bytesLess (kb3 a b c) (kb3 a' b' c') = true ↔ a < a' ∨ (a = a' ∧ (b < b' ∨ (b = b' ∧ c < c'))) := by
  unfold kb3
  rw [List.append_assoc, List.append_assoc, kb_less _ _ _ _ ha ha', kb_less _ _ _ _ hb hb', bytesLess_num _ _ hc hc']
  simp
theorem kb3_inj {a b c a' b' c' : Nat} (ha : a < 18446744073709551616) (hb : b < 18446744073709551616) (hc : c < 18446744073709551616) (ha' : a' < 18446744073709551616) (hb' : b' < 18446744073709551616) (hc' : c' < 18446744073709551616) (h : kb3 a b c = kb3 a' b' c') : a = a' ∧ b = b' ∧ c = c' := by
  have h1 := kb3_less ha hb hc ha' hb' hc'
  have h2 := kb3_less ha' hb' hc' ha hb hc
  rw [← h, bytesLess_self] at h1 h2
  simp at h1 h2
  omega
theorem kb3_ne (a b c : Nat) : kb3 a b c ≠ [] := by
  intro h
  have := congrArg List.length h
  simp [kb3, numBE_len] at this

/-- A period with its number. -/
abbrev Row := Int × Per
def okR (r : Row) : Prop := okP r.2 ∧ -9223372036854775808 ≤ r.1 ∧ r.1 < 9223372036854775808
def fk (q : Per) : Nat := forkN q.1.toNat q.2.toNat
def idN (i : Int) : Nat := (i + 9223372036854775808).toNat
def kL (r : Row) : Ent := (kb3 (fk r.2) r.2.1.toNat (idN r.1), r.1)
def kU (r : Row) : Ent := (kb3 (fk r.2) r.2.2.toNat (idN r.1), r.1)
theorem fk_spec {q : Per} (h : okP q) : IsFork q.1 q.2 (fk q : Nat) := fork_spec h.1 h.2.1 h.2.2
theorem fk_lt {q : Per} (h : okP q) : fk q < 1099511627776 := by
  have h1 := fork_mem (fk_spec h) h.2.1
  have := h.2.2
  omega
theorem idN_lt {i : Int} (h : -9223372036854775808 ≤ i ∧ i < 9223372036854775808) : idN i < 18446744073709551616 := by unfold idN; omega
theorem idN_inj {i j : Int} (h : -9223372036854775808 ≤ i ∧ i < 9223372036854775808) (h' : -9223372036854775808 ≤ j ∧ j < 9223372036854775808) (e : idN i = idN j) : i = j := by unfold idN at e; omega
theorem okR_nat {r : Row} (h : okR r) : ((r.2.1.toNat : Nat) : Int) = r.2.1 ∧ ((r.2.2.toNat : Nat) : Int) = r.2.2 ∧ r.2.1.toNat < r.2.2.toNat ∧ r.2.2.toNat ≤ 1099511627776 := by
  have h1 := h.1.1; have h2 := h.1.2.1; have h3 := h.1.2.2
  omega
theorem kL_inj {r s : Row} (hr : okR r) (hs : okR s) (e : (kL r).1 = (kL s).1) : r.1 = s.1 := by
  obtain ⟨_, _, a3, a4⟩ := okR_nat hr
  obtain ⟨_, _, b3, b4⟩ := okR_nat hs
  have f1 := fk_lt hr.1
  have f2 := fk_lt hs.1
  exact idN_inj hr.2 hs.2 (kb3_inj (by omega) (by omega) (idN_lt hr.2) (by omega) (by omega) (idN_lt hs.2) e).2.2
theorem kU_inj {r s : Row} (hr : okR r) (hs : okR s) (e : (kU r).1 = (kU s).1) : r.1 = s.1 := by
  obtain ⟨_, _, a3, a4⟩ := okR_nat hr
  obtain ⟨_, _, b3, b4⟩ := okR_nat hs
  have f1 := fk_lt hr.1
  have f2 := fk_lt hs.1
  exact idN_inj hr.2 hs.2 (kb3_inj (by omega) (by omega) (idN_lt hr.2) (by omega) (by omega) (idN_lt hs.2) e).2.2

/-- A tree's contents are the rows' entries. -/
structure Holds2 (k : Row → Ent) (rs : List Row) (L : List Ent) : Prop where
  iff : ∀ e, e ∈ L ↔ ∃ r ∈ rs, e = k r
  len : L.length = rs.length
theorem Holds2.nil (k : Row → Ent) : Holds2 k [] [] := ⟨by simp, rfl⟩
theorem mem_ins_iff {k : List UInt8} {v : Int} : ∀ {L : List Ent} (e : Ent), hasK k L = false → (e ∈ ins k v L ↔ e = (k, v) ∨ e ∈ L)
  | [], e, _ => by simp [ins]
  | a :: L, e, h => by
    have h1 : a.1 ≠ k := by
      intro hh
      have : hasK k (a :: L) = true := by simp [hasK, hh]
      rw [this] at h; cases h
    have h2 : hasK k L = false := by
      cases hh : hasK k L with
      | false => rfl
      | true =>
        have : hasK k (a :: L) = true := by
          show ((a.1 == k) || hasK k L) = true
          rw [hh]; simp
        rw [this] at h; cases h
    rw [ins, if_neg h1]
    split
    · simp
    · rw [List.mem_cons, mem_ins_iff e h2, List.mem_cons]
      constructor
      · rintro (h | h | h)
        · exact .inr (.inl h)
        · exact .inl h
        · exact .inr (.inr h)
      · rintro (h | h | h)
        · exact .inr (.inl h)
        · exact .inl h
        · exact .inr (.inr h)
theorem hasK_iff {k : List UInt8} {L : List Ent} : hasK k L = true ↔ ∃ e ∈ L, e.1 = k := by
  unfold hasK
  rw [List.any_eq_true]
  constructor
  · rintro ⟨e, h1, h2⟩; exact ⟨e, h1, by simpa using h2⟩
  · rintro ⟨e, h1, h2⟩; exact ⟨e, h1, by simpa using h2⟩
/-- A row is put. -/
theorem Holds2.put {k : Row → Ent} {rs : List Row} {L : List Ent} (h : Holds2 k rs L) (hs : Srt L) {r : Row} (hk : ∀ s ∈ rs, (k s).1 ≠ (k r).1) : hasK (k r).1 L = false ∧ Holds2 k (rs ++ [r]) (ins (k r).1 (k r).2 L) := by
  have h0 : hasK (k r).1 L = false := by
    cases hh : hasK (k r).1 L with
    | false => rfl
    | true =>
      obtain ⟨e, h1, h2⟩ := hasK_iff.1 hh
      obtain ⟨s, h3, rfl⟩ := (h.iff e).1 h1
      exact absurd h2 (hk s h3)
  refine ⟨h0, fun e => ?_, ?_⟩
  · rw [mem_ins_iff e h0, h.iff]
    constructor
    · rintro (h | ⟨s, h1, h2⟩)
      · exact ⟨r, by simp, h⟩
      · exact ⟨s, by simp [h1], h2⟩
    · rintro ⟨s, h1, h2⟩
      rcases List.mem_append.1 h1 with h1 | h1
      · exact .inr ⟨s, h1, h2⟩
      · simp at h1; subst h1; exact .inl h2
  · rw [ins_len _ _ hs, if_neg (by rw [h0]; simp), h.len]; simp
theorem nodup_idx {α : Type} {l : List α} (h : l.Nodup) {i j : Nat} {hi : i < l.length} {hj : j < l.length} (e : l[i] = l[j]) : i = j := by
  have h1 := List.pairwise_iff_getElem.1 h
  rcases Nat.lt_trichotomy i j with h2 | h2 | h2
  · exact absurd e (h1 i j hi hj h2)
  · exact h2
  · exact absurd e.symm (h1 j i hj hi h2)
/-- A row is taken out. -/
theorem Holds2.cut {k : Row → Ent} {rs : List Row} {L : List Ent} (h : Holds2 k rs L) (hs : Srt L) (hid : ∀ r ∈ rs, ∀ s ∈ rs, (k r).1 = (k s).1 → r.1 = s.1) (hnd : (rs.map Prod.fst).Nodup) {j : Nat} {r : Row} (hj : rs[j]? = some r) : hasK (k r).1 L = true ∧ Holds2 k (rs.eraseIdx j) (del (k r).1 L) := by
  have hr := List.mem_of_getElem? hj
  have h0 : hasK (k r).1 L = true := hasK_iff.2 ⟨k r, (h.iff _).2 ⟨r, hr, rfl⟩, rfl⟩
  have hjl := (List.getElem?_eq_some_iff.1 hj).1
  have hmem : ∀ s, s ∈ rs.eraseIdx j ↔ s ∈ rs ∧ s.1 ≠ r.1 := by
    intro s
    have e1 := list_at hj
    have e2 : rs.eraseIdx j = rs.take j ++ rs.drop (j + 1) := List.eraseIdx_eq_take_drop_succ ..
    rw [e2]
    rw [e1, List.map_append, List.map_cons] at hnd
    obtain ⟨n1, n2, n3⟩ := List.nodup_append.1 hnd
    obtain ⟨n4, n5⟩ := List.nodup_cons.1 n2
    constructor
    · intro hs
      rcases List.mem_append.1 hs with hs | hs
      · refine ⟨List.mem_of_mem_take hs, fun e => ?_⟩
        exact n3 s.1 (List.mem_map.2 ⟨s, hs, rfl⟩) r.1 (by simp) e
      · refine ⟨List.mem_of_mem_drop hs, fun e => ?_⟩
        exact n4 (List.mem_map.2 ⟨s, hs, e⟩)
    · rintro ⟨h1, h2⟩
      rw [e1] at h1
      rcases List.mem_append.1 h1 with h1 | h1
      · exact List.mem_append_left _ h1
      · rcases List.mem_cons.1 h1 with rfl | h1
        · exact absurd rfl h2
        · exact List.mem_append_right _ h1
  refine ⟨h0, fun e => ?_, ?_⟩
  · have : e ∈ del (k r).1 L ↔ e ∈ L ∧ e.1 ≠ (k r).1 := by unfold del; rw [List.mem_filter]; simp
    rw [this, h.iff]
    constructor
    · rintro ⟨⟨s, h1, rfl⟩, h2⟩
      exact ⟨s, (hmem s).2 ⟨h1, fun e => h2 (by
        have : s = r := by
          have e1 := list_at hj
          obtain ⟨i, hi, rfl⟩ := List.getElem_of_mem h1
          have hij : i = j := by
            have h5 := (List.getElem?_eq_some_iff.1 hj).2
            have h6 : (rs.map Prod.fst)[i]'(by simpa using hi) = (rs.map Prod.fst)[j]'(by simpa using hjl) := by simp [h5, e]
            exact nodup_idx hnd h6
          subst hij
          exact (List.getElem?_eq_some_iff.1 hj).2
        rw [this])⟩, rfl⟩
    · rintro ⟨s, h1, rfl⟩
      obtain ⟨h2, h3⟩ := (hmem s).1 h1
      exact ⟨⟨s, h2, rfl⟩, fun e => h3 (hid s h2 r hr e)⟩
  · have h1 := del_len hs h0
    rw [h.len] at h1
    rw [List.length_eraseIdx_of_lt hjl]
    omega
end Go.Proofs.Ytkejjahlglldlaa
namespace Go.Proofs.Ytkejjahlglldlaa
open Go.RowKit Go.Lib

def rowsM (rs : List Row) : List (Int × Value) := rs.map fun r => (r.1, perV r.2)
theorem rowsM_erase (rs : List Row) (j : Nat) : (rowsM rs).eraseIdx j = rowsM (rs.eraseIdx j) := (map_eraseIdx' _ rs j).symm
theorem rowsM_append (rs ss : List Row) : rowsM (rs ++ ss) = rowsM rs ++ rowsM ss := by simp [rowsM]
theorem look_none {id : Int} : ∀ {rs : List Row} (i : Nat), (∀ r ∈ rs, r.1 ≠ id) → lookI id (rowsM rs) i = none
  | [], _, _ => rfl
  | r :: rs, i, h => by
    show (if id = r.1 then _ else lookI id (rowsM rs) (i + 1)) = none
    rw [if_neg (fun e => h r (by simp) e.symm)]
    exact look_none (i + 1) fun s hs => h s (List.mem_cons_of_mem _ hs)
theorem look_some {id : Int} : ∀ {rs : List Row} (i : Nat), (∃ r ∈ rs, r.1 = id) → ∃ j q, rs[j]? = some (id, q) ∧ lookI id (rowsM rs) i = some (i + j, perV q)
  | [], _, h => by obtain ⟨r, h, _⟩ := h; cases h
  | r :: rs, i, h => by
    by_cases hr : id = r.1
    · refine ⟨0, r.2, by rw [hr]; rfl, ?_⟩
      show (if id = r.1 then some (i, perV r.2) else lookI id (rowsM rs) (i + 1)) = _
      rw [if_pos hr]; rfl
    · obtain ⟨j, q, h1, h2⟩ := look_some (id := id) (rs := rs) (i + 1) (by
        obtain ⟨s, hs, e⟩ := h
        rcases List.mem_cons.1 hs with rfl | hs
        · exact absurd e.symm hr
        · exact ⟨s, hs, e⟩)
      refine ⟨j + 1, q, by simpa using h1, ?_⟩
      show (if id = r.1 then some (i, perV r.2) else lookI id (rowsM rs) (i + 1)) = _
      rw [if_neg hr, h2]; congr 2; omega

theorem per_map : Try.prog.underlying 111 = some (.map 2 45) := Try.underlying111
theorem per_key : Try.prog.underlying 2 = some (.int .i64) := Try.underlying2
theorem per_zero : (Try.prog.info? 45).map (·.zero) = some (some (perV (0, 0))) := by kernel_rfl

/-- The interval tree at t holds the rows rs; bs: its blocks. -/
structure RiOk (W : World) (t : Nat) (rs : List Row) (bs : List Nat) : Prop where
  ex : ∃ (lo up mb : Nat) (L U : List Ent) (bl bu : List Nat), W.heap[t]? = some (.cells #[.pointer (some ⟨lo, 0, none⟩), .pointer (some ⟨up, 0, none⟩), .map (some mb)] 113 (0, 0)) ∧ TreeAt W lo 8 L bl ∧ TreeAt W up 8 U bu ∧ MapI W mb (rowsM rs) ∧
    Holds2 kL rs L ∧ Holds2 kU rs U ∧ bs = t :: mb :: (bl ++ bu)
  nodup : bs.Nodup
  ids : (rs.map Prod.fst).Nodup
  ok : ∀ r ∈ rs, okR r
theorem RiOk.lt {W : World} {t : Nat} {rs : List Row} {bs : List Nat} (h : RiOk W t rs bs) : ∀ x ∈ bs, x < W.heap.size := by
  obtain ⟨lo, up, mb, L, U, bl, bu, h1, h2, h3, h4, h5, h6, rfl⟩ := h.ex
  intro x hx
  rcases List.mem_cons.1 hx with rfl | hx
  · exact blk_lt h1
  · rcases List.mem_cons.1 hx with rfl | hx
    · exact h4.lt
    · rcases List.mem_append.1 hx with hx | hx
      · exact h2.lt x hx
      · exact h3.lt x hx
theorem RiOk.congr {W W' : World} {t : Nat} {rs : List Row} {bs : List Nat} (h : RiOk W t rs bs) (hc : ∀ x ∈ bs, W'.heap[x]? = W.heap[x]?) : RiOk W' t rs bs := by
  obtain ⟨lo, up, mb, L, U, bl, bu, h1, h2, h3, h4, h5, h6, h7⟩ := h.ex
  subst h7
  exact ⟨⟨lo, up, mb, L, U, bl, bu, by rw [hc t (by simp)]; exact h1, h2.congr fun x hx => hc x (by simp [hx]), h3.congr fun x hx => hc x (by simp [hx]), h4.congr (hc mb (by simp)), h5, h6, rfl⟩, h.nodup, h.ids, h.ok⟩
theorem RiOk.ext {W W' : World} {t : Nat} {rs : List Row} {bs : List Nat} (h : RiOk W t rs bs) (he : Ext W W') : RiOk W' t rs bs := h.congr fun x hx => Below.block he x (h.lt x hx)
theorem RiOk.touch {S : Nat → Prop} {W W' : World} {t : Nat} {rs : List Row} {bs : List Nat} (h : RiOk W t rs bs) (hT : Touch S W W') (hn : ∀ x ∈ bs, ¬ S x) : RiOk W' t rs bs := h.congr fun x hx => hT.block x (h.lt x hx) (hn x hx)
theorem holds_sz {k : Row → Ent} {rs : List Row} {L : List Ent} (h : Holds2 k rs L) {N : Nat} (hn : rs.length ≤ N) : L.length ≤ N := by rw [h.len]; exact hn

def RiNewPost (w : World) (e : Ending) (w' : World) : Prop := ∃ t bs, e = .returned (.pointer (some ⟨t, 0, none⟩)) ∧ RiOk w' t [] bs ∧ (∀ x ∈ bs, w.heap.size ≤ x) ∧ Ext w w'
set_option maxRecDepth 100000 in
set_option maxHeartbeats 2000000 in
theorem RiNew_ok (w : World) : Calls Try.prog 14 #[] w (RiNewPost w) := by
  have hmm := @run_makeMap Try.prog
  go_enter Try.func14, Try.ntmps14
  go_wp2_with fail
  refine (New_ok 8 (by omega) (by omega) w).mono ?_
  rintro e w1 ⟨lo, bl, rfl, hT1, hf1, hE1⟩
  have HT1 := Lib.hid hT1; have HF1 := Lib.hid hf1; have HE1 := Lib.hid hE1
  clear hT1 hf1 hE1
  go_wp2_with fail
  refine (New_ok 8 (by omega) (by omega) w1).mono ?_
  rintro e w2 ⟨up, bu, rfl, hT2, hf2, hE2⟩
  have HT2 := Lib.hid hT2; have HF2 := Lib.hid hf2; have HE2 := Lib.hid hE2
  clear hT2 hf2 hE2
  go_wp2
  go_ret
  have hz1 := HE1.out.size
  have hz2 := HE2.out.size
  have hm := MapI.new w2
  have hb := blk_new (w2.alloc (.map #[] 0)) (.cells #[.pointer (some ⟨lo, 0, none⟩), .pointer (some ⟨up, 0, none⟩), .map (some w2.heap.size)] 113)
  rw [World.size_alloc] at hb
  have hEx : Ext w2 ((w2.alloc (.map #[] 0)).alloc (.cells #[.pointer (some ⟨lo, 0, none⟩), .pointer (some ⟨up, 0, none⟩), .map (some w2.heap.size)] 113)) := ((Ext.refl w2).alloc _).alloc _
  refine ⟨w2.heap.size + 1, (w2.heap.size + 1) :: w2.heap.size :: (bl ++ bu), rfl, ⟨⟨lo, up, w2.heap.size, [], [], bl, bu, hb, (HT1.out.ext HE2.out).ext hEx, HT2.out.ext hEx, hm.ext ((Ext.refl _).alloc _), Holds2.nil _, Holds2.nil _, rfl⟩, ?_, by simp, by simp⟩, ?_, HE1.out.trans (HE2.out.trans hEx)⟩
  · have l1 := HT1.out.lt
    have l2 := HT2.out.lt
    refine List.nodup_cons.2 ⟨?_, List.nodup_cons.2 ⟨?_, List.nodup_append.2 ⟨HT1.out.nodup, HT2.out.nodup, fun a ha b hb e => ?_⟩⟩⟩
    · intro hx
      rcases List.mem_cons.1 hx with hx | hx
      · omega
      · rcases List.mem_append.1 hx with hx | hx
        · have := l1 _ hx; omega
        · have := l2 _ hx; omega
    · intro hx
      rcases List.mem_append.1 hx with hx | hx
      · have := l1 _ hx; omega
      · have := l2 _ hx; omega
    · have := l1 a ha; have := HF2.out b hb; omega
  · intro x hx
    rcases List.mem_cons.1 hx with rfl | hx
    · omega
    · rcases List.mem_cons.1 hx with rfl | hx
      · omega
      · rcases List.mem_append.1 hx with hx | hx
        · exact HF1.out x hx
        · have := HF2.out x hx; omega

/-- Both trees and the map have turned. -/
theorem RiOk.turn {W W1 W2 W3 : World} {t lo up mb : Nat} {rs' : List Row} {L' U' : List Ent} {bl bu bl' bu' : List Nat} (hnd : (t :: mb :: (bl ++ bu)).Nodup) (hlt : ∀ x ∈ t :: mb :: (bl ++ bu), x < W.heap.size)
    (hB : W.heap[t]? = some (.cells #[.pointer (some ⟨lo, 0, none⟩), .pointer (some ⟨up, 0, none⟩), .map (some mb)] 113 (0, 0)))
    (hT1 : Touch (fun k => k = mb) W W1) (hM1 : MapI W1 mb (rowsM rs')) (hT2 : Touch (fun k => k ∈ bl) W1 W2) (hL : TreeAt W2 lo 8 L' bl') (hs2 : ∀ x ∈ bl', x ∈ bl ∨ W1.heap.size ≤ x) (hT3 : Touch (fun k => k ∈ bu) W2 W3) (hU : TreeAt W3 up 8 U' bu') (hs3 : ∀ x ∈ bu', x ∈ bu ∨ W2.heap.size ≤ x)
    (hHL : Holds2 kL rs' L') (hHU : Holds2 kU rs' U') (hids : (rs'.map Prod.fst).Nodup) (hok : ∀ r ∈ rs', okR r) :
    RiOk W3 t rs' (t :: mb :: (bl' ++ bu')) ∧ (∀ x ∈ t :: mb :: (bl' ++ bu'), x ∈ t :: mb :: (bl ++ bu) ∨ W.heap.size ≤ x) ∧ Touch (fun k => k ∈ t :: mb :: (bl ++ bu)) W W3 := by
  have z1 := hT1.size
  have z2 := hT2.size
  have z3 := hT3.size
  obtain ⟨n1, n2⟩ := List.nodup_cons.1 hnd
  obtain ⟨n3, n4⟩ := List.nodup_cons.1 n2
  obtain ⟨n5, n6, n7⟩ := List.nodup_append.1 n4
  have htl := hlt t (by simp)
  have hml := hlt mb (by simp)
  have htm : t ≠ mb := fun e => n1 (by simp [e])
  have htb : ∀ x ∈ bl ++ bu, x ≠ t := fun x hx e => n1 (List.mem_cons_of_mem _ (e ▸ hx))
  have hmb : ∀ x ∈ bl ++ bu, x ≠ mb := fun x hx e => n3 (e ▸ hx)
  have hbuL : ∀ x ∈ bu, x < W.heap.size := fun x hx => hlt x (by simp [hx])
  have hblL : ∀ x ∈ bl, x < W.heap.size := fun x hx => hlt x (by simp [hx])
  have hd : ∀ x ∈ bl', x ∉ bu := fun x hx hb => by
    rcases hs2 x hx with h | h
    · exact n7 x h x hb rfl
    · have := hbuL x hb; omega
  have kt : W3.heap[t]? = W.heap[t]? := by
    rw [hT3.block t (by omega) (fun h => htb t (List.mem_append_right _ h) rfl), hT2.block t (by omega) (fun h => htb t (List.mem_append_left _ h) rfl), hT1.block t htl htm]
  have km : W3.heap[mb]? = W1.heap[mb]? := by
    rw [hT3.block mb (by omega) (fun h => hmb mb (List.mem_append_right _ h) rfl), hT2.block mb (by omega) (fun h => hmb mb (List.mem_append_left _ h) rfl)]
  refine ⟨⟨⟨lo, up, mb, L', U', bl', bu', by rw [kt]; exact hB, hL.touch hT3 hd, hU, hM1.congr km, hHL, hHU, rfl⟩, ?_, hids, hok⟩, ?_, ?_⟩
  · refine List.nodup_cons.2 ⟨fun hx => ?_, List.nodup_cons.2 ⟨fun hx => ?_, List.nodup_append.2 ⟨hL.nodup, hU.nodup, fun a ha b hb e => ?_⟩⟩⟩
    · rcases List.mem_cons.1 hx with hx | hx
      · exact htm hx
      · rcases List.mem_append.1 hx with hx | hx
        · rcases hs2 _ hx with h | h
          · exact htb t (List.mem_append_left _ h) rfl
          · omega
        · rcases hs3 _ hx with h | h
          · exact htb t (List.mem_append_right _ h) rfl
          · omega
    · rcases List.mem_append.1 hx with hx | hx
      · rcases hs2 _ hx with h | h
        · exact hmb mb (List.mem_append_left _ h) rfl
        · omega
      · rcases hs3 _ hx with h | h
        · exact hmb mb (List.mem_append_right _ h) rfl
        · omega
    · subst e
      rcases hs3 a hb with h | h
      · exact hd a ha h
      · have := hL.lt a ha; omega
  · intro x hx
    rcases List.mem_cons.1 hx with rfl | hx
    · exact .inl (by simp)
    · rcases List.mem_cons.1 hx with rfl | hx
      · exact .inl (by simp)
      · rcases List.mem_append.1 hx with hx | hx
        · rcases hs2 x hx with h | h
          · exact .inl (by simp [h])
          · exact .inr (by omega)
        · rcases hs3 x hx with h | h
          · exact .inl (by simp [h])
          · exact .inr (by omega)
  · refine ((hT1.mono (fun k _ e => by simp [e])).trans' (hT2.mono (fun k _ e => by simp [e]) : Touch (fun k => k ∈ t :: mb :: (bl ++ bu)) _ _) (fun _ _ e => e)).trans' (hT3.mono (fun k _ e => by simp [e]) : Touch (fun k => k ∈ t :: mb :: (bl ++ bu)) _ _) (fun _ _ e => e)

set_option maxRecDepth 100000 in
set_option maxHeartbeats 2000000 in
theorem RiAdd_no (t : Nat) (id : Int) (q : Per) (w : World) (hq : ¬ okP q) : Calls Try.prog 16 #[.pointer (some ⟨t, 0, none⟩), .int .i64 id, perV q] w (fun e w' => e = .returned (.int .i64 40) ∧ Ext w w') := by
  have HQ := Lib.hid hq; clear hq
  go_enter Try.func16, Try.ntmps16
  go_wp2_with fail
  refine (Fork_no q _ HQ.out).mono ?_
  rintro e w1 ⟨rfl, hE1⟩
  have HE := Lib.hid (((Ext.refl w).alloc _).trans hE1); clear hE1
  go_wp2
  go_ret
  exact ⟨rfl, HE.out⟩
end Go.Proofs.Ytkejjahlglldlaa
