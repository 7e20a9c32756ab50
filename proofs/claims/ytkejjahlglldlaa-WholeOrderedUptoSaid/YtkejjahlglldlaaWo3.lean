/- WholeOrdered: walked. -/
import Derived.Test.YtkejjahlglldlaaWo2
namespace Go.Proofs.Ytkejjahlglldlaa
open Go.RowKit Go.Lib Go.Shelf

abbrev OPost (w : World) : Ending → World → Prop := fun e w' => e = .returned (.bool true) ∧ Ext w w'
/-- The function is left: its marks are taken, its result is read out of its cell. -/
theorem ordered_leave {w W : World} {tmps : Array Value} {g : Nat} {Ds : List Nat} (ht : tmps[6]? = some (.pointer (some ⟨g, 0, none⟩))) (hg : W.heap[g]? = some (.cells #[.bool true] 4 (0, 0))) (hE : Ext w W)
    (hD : ∀ D ∈ Ds, W.heap[D]? = some (.deferred (some [])) ∧ w.heap.size ≤ D) (hn : Ds.Nodup) :
    LeavesInM Fence.wide 9 Try.prog Try.f3 tmps (OPost w) (Ds.map fun D => { target := .collected D, args := #[] }) .returning W := by
  refine leaves_marks Ds W (fun D h => (hD D h).1) hn fun W' hT => ⟨.bool true, ?_, rfl, ?_⟩
  · have hg' : W'.heap[g]? = some (.cells #[.bool true] 4 (0, 0)) := hT.old hg (fun h => by have := (hD g h).1; rw [hg] at this; cases this)
    have hc := blk1 hg'
    have ht' : tmps.getD 6 undef = .pointer (some ⟨g, 0, none⟩) := by rw [Array.getD_eq_getD_getElem?, ht]; rfl
    simp [results, Try.results3, go_sem, ht, hc]
  · exact Ext.trans' hE (hT.below hE.size fun i hi => (hD i hi).2)

/-- What lies still while the function runs: the boxes of the two lists, what came in. -/
structure OS (w W : World) (sv hv : Option Addr) (n cap hn hc : Nat) (rows : List (List V)) (head : List V) : Prop where
  b4 : W.heap[w.heap.size]? = some (.cells #[.slice sv n cap] 22 (0, 0))
  b5 : W.heap[w.heap.size + 1]? = some (.cells #[.slice hv hn hc] 23 (0, 0))
  b6 : W.heap[w.heap.size + 2]? = some (.cells #[.bool false] 4 (0, 0))
  ext : Ext w W
theorem OS.later {w W W' : World} {sv hv : Option Addr} {n cap hn hc : Nat} {rows : List (List V)} {head : List V} (h : OS w W sv hv n cap hn hc rows head) (hE : Ext W W') : OS w W' sv hv n cap hn hc rows head :=
  ⟨Ext.block hE h.b4, Ext.block hE h.b5, Ext.block hE h.b6, h.ext.trans hE⟩

/-- The first loop, between two rounds: the last row, how many have come. -/
def I1 (wL : World) (r : Nat) {L : List Ent} (pre : List (EntOf L)) (W : World) : Prop :=
  ∃ (g : Option Nat) (m cap : Nat) (us : List V), W.heap[r]? = some (.cells #[slv g m cap] 23 (0, 0)) ∧ W.heap[r + 1]? = some (.cells #[.int .i64 (pre.length : Int)] 3 (0, 0)) ∧ Sl W 93 3 g m cap (flatV us) ∧ (∀ b, g = some b → wL.heap.size ≤ b) ∧
    Touch (fun k => k = r ∨ k = r + 1) wL W ∧ (pre = [] ∨ ∃ p x, pre = p ++ [x] ∧ x.1.1 = encL us ∧ us.length ≤ 1100000 ∧ ∀ u ∈ us, okV u)
theorem I1_own (wL : World) (r : Nat) (L : List Ent) : OwnFrom wL.heap.size (I1 wL r (L := L)) := by
  rintro pre W W' row ⟨g, m, cap, us, h1, h2, h3, h4, h5, h6⟩ hg hr
  have hr2 := fun q e => (hr q e).2
  exact ⟨g, m, cap, us, blk_kept h1 hg hr2, blk_kept h2 hg hr2, h3.kept hg hr2, h4, touch_kept h5 (Nat.le_refl _) hg hr, h6⟩

/-- What came in and the first boxes lie below the loop's boxes. -/
theorem touch_os {w wL W : World} {sv hv : Option Addr} {n cap hn hc r : Nat} {rows : List (List V)} {head : List V} (h : OS w wL sv hv n cap hn hc rows head) (hT : Touch (fun k => k = r ∨ k = r + 1) wL W) (hr : w.heap.size + 3 ≤ r) : OS w W sv hv n cap hn hc rows head :=
  ⟨hT.old h.b4 (by omega), hT.old h.b5 (by omega), hT.old h.b6 (by omega), Ext.trans' h.ext (hT.below h.ext.size fun i hi => by omega)⟩
theorem I1_next {wL W W4 : World} {r : Nat} {L : List Ent} {pre : List (EntOf L)} {x : EntOf L} {lv : Value} {g2 : Option Nat} {m2 cap2 : Nat} {row : List V} (hr6 : r + 1 < wL.heap.size)
    (hB : W.heap[r]? = some (.cells #[lv] 23 (0, 0)) ∧ W.heap[r + 1]? = some (.cells #[.int .i64 (pre.length : Int)] 3 (0, 0))) (hT : Touch (fun k => k = r ∨ k = r + 1) wL W) (hE : Ext W W4)
    (hS : Sl W4 93 3 g2 m2 cap2 (flatV row)) (hg : ∀ b, g2 = some b → W.heap.size ≤ b) (hx : x.1.1 = encL row) (hl : row.length ≤ 1100000) (ho : ∀ u ∈ row, okV u) :
    KeepsFrom wL.heap.size W ((W4.setCell ⟨r, 0, none⟩ (slv g2 m2 cap2)).setCell ⟨r + 1, 0, none⟩ (.int .i64 ((pre.length : Int) + 1))) ∧ KB wL.heap.size W ((W4.setCell ⟨r, 0, none⟩ (slv g2 m2 cap2)).setCell ⟨r + 1, 0, none⟩ (.int .i64 ((pre.length : Int) + 1))) ∧
      I1 wL r (pre ++ [x]) ((W4.setCell ⟨r, 0, none⟩ (slv g2 m2 cap2)).setCell ⟨r + 1, 0, none⟩ (.int .i64 ((pre.length : Int) + 1))) := by
  have hsz := hT.size
  have hT2 : Touch (fun k => k = r ∨ k = r + 1) W ((W4.setCell ⟨r, 0, none⟩ (slv g2 m2 cap2)).setCell ⟨r + 1, 0, none⟩ (.int .i64 ((pre.length : Int) + 1))) :=
    Touch.setCell (Touch.setCell (hE.touch _) (p := ⟨r, 0, none⟩) (fun _ => .inl rfl) _) (p := ⟨r + 1, 0, none⟩) (fun _ => .inr rfl) _
  obtain ⟨k1, k2⟩ := keeps_of_touch (B := wL.heap.size) hT2 (fun k hk => by omega)
  have hlp : ((pre ++ [x]).length : Int) = (pre.length : Int) + 1 := by simp
  refine ⟨k1, k2, g2, m2, cap2, row, ?_, ?_, ?_, fun b hb => by have := hg b hb; omega, hT.trans hT2, .inr ⟨pre, x, rfl, hx, hl, ho⟩⟩
  · exact blk_set_ne (blk_set (Ext.block hE hB.1) 0 _) (show r ≠ r + 1 by omega) _
  · rw [hlp]
    exact blk_set (blk_set_ne (Ext.block hE hB.2) (show r + 1 ≠ r by omega) _) 0 _
  · exact (hS.set_off ⟨r, 0, none⟩ _ (fun b hb => by have := hg b hb; show b ≠ r; omega)).set_off ⟨r + 1, 0, none⟩ _ (fun b hb => by have := hg b hb; show b ≠ r + 1; omega)
/-- The second loop, between two rounds: how many have come. -/
def I2 (wM : World) (r : Nat) {L : List Ent} (pre : List (EntOf L)) (W : World) : Prop :=
  W.heap[r]? = some (.cells #[.int .i64 (pre.length : Int)] 3 (0, 0)) ∧ Touch (fun k => k = r) wM W
theorem I2_own (wM : World) (r : Nat) (L : List Ent) : OwnFrom wM.heap.size (I2 wM r (L := L)) := by
  rintro pre W W' row ⟨h1, h2⟩ hg hr
  exact ⟨blk_kept h1 hg (fun q e => (hr q e).2), touch_kept h2 (Nat.le_refl _) hg hr⟩
theorem I2_next {wM W : World} {r : Nat} {L : List Ent} {pre : List (EntOf L)} {x : EntOf L} (hr : r < wM.heap.size) (h : I2 wM r pre W) :
    KeepsFrom wM.heap.size W (W.setCell ⟨r, 0, none⟩ (.int .i64 ((pre.length : Int) + 1))) ∧ KB wM.heap.size W (W.setCell ⟨r, 0, none⟩ (.int .i64 ((pre.length : Int) + 1))) ∧ I2 wM r (pre ++ [x]) (W.setCell ⟨r, 0, none⟩ (.int .i64 ((pre.length : Int) + 1))) := by
  have hT2 : Touch (fun k => k = r) W (W.setCell ⟨r, 0, none⟩ (.int .i64 ((pre.length : Int) + 1))) := Touch.setCell (S := fun k => k = r) (Touch.refl _ W) (p := ⟨r, 0, none⟩) (fun _ => rfl) _
  obtain ⟨k1, k2⟩ := keeps_of_touch (B := wM.heap.size) hT2 (fun k hk => by omega)
  have hlp : ((pre ++ [x]).length : Int) = (pre.length : Int) + 1 := by simp
  exact ⟨k1, k2, by rw [hlp]; exact blk_set h.1 0 _, h.2.trans hT2⟩
/-- The third loop, between two rounds: how many begin with the head is taken off. -/
def I3 (rows : List (List V)) (head : List V) (wN : World) (r N0 : Nat) {L : List Ent} (pre : List (EntOf L)) (W : World) : Prop :=
  W.heap[r]? = some (.cells #[.int .i64 ((N0 : Int) - (cntB rows head (pre.map Subtype.val) : Int))] 3 (0, 0)) ∧ Touch (fun k => k = r) wN W
theorem I3_own (rows : List (List V)) (head : List V) (wN : World) (r N0 : Nat) (L : List Ent) : OwnFrom wN.heap.size (I3 rows head wN r N0 (L := L)) := by
  rintro pre W W' row ⟨h1, h2⟩ hg hr
  exact ⟨blk_kept h1 hg (fun q e => (hr q e).2), touch_kept h2 (Nat.le_refl _) hg hr⟩
theorem I3_same {rows : List (List V)} {head row : List V} {wN W W4 : World} {r N0 j : Nat} {L : List Ent} {pre : List (EntOf L)} {k : List UInt8} {hx : (k, (j : Int)) ∈ L} (hr : r < wN.heap.size) (h : I3 rows head wN r N0 pre W) (hE : Ext W W4) (hrow : rows[j]? = some row) (hb : begins head row = false) :
    KeepsFrom wN.heap.size W W4 ∧ KB wN.heap.size W W4 ∧ I3 rows head wN r N0 (pre ++ [⟨(k, (j : Int)), hx⟩]) W4 := by
  obtain ⟨k1, k2⟩ := keeps_of_touch (B := wN.heap.size) (hE.touch (fun _ => False)) (fun k hk => hk.elim)
  refine ⟨k1, k2, ?_, h.2.trans (hE.touch _)⟩
  rw [List.map_append, List.map_cons, List.map_nil, cntB_snoc rows head _ _ (row := row) (by simpa using hrow), hb]
  simpa using Ext.block hE h.1
theorem I3_less {rows : List (List V)} {head row : List V} {wN W W4 : World} {r N0 j : Nat} {L : List Ent} {pre : List (EntOf L)} {k : List UInt8} {hx : (k, (j : Int)) ∈ L} (hr : r < wN.heap.size) (h : I3 rows head wN r N0 pre W) (hE : Ext W W4) (hrow : rows[j]? = some row) (hb : begins head row = true) :
    KeepsFrom wN.heap.size W (W4.setCell ⟨r, 0, none⟩ (.int .i64 ((N0 : Int) - (cntB rows head (pre.map Subtype.val) : Int) - 1))) ∧ KB wN.heap.size W (W4.setCell ⟨r, 0, none⟩ (.int .i64 ((N0 : Int) - (cntB rows head (pre.map Subtype.val) : Int) - 1))) ∧
      I3 rows head wN r N0 (pre ++ [⟨(k, (j : Int)), hx⟩]) (W4.setCell ⟨r, 0, none⟩ (.int .i64 ((N0 : Int) - (cntB rows head (pre.map Subtype.val) : Int) - 1))) := by
  have hT2 : Touch (fun k => k = r) W (W4.setCell ⟨r, 0, none⟩ (.int .i64 ((N0 : Int) - (cntB rows head (pre.map Subtype.val) : Int) - 1))) := Touch.setCell (S := fun k => k = r) (hE.touch _) (p := ⟨r, 0, none⟩) (fun _ => rfl) _
  obtain ⟨k1, k2⟩ := keeps_of_touch (B := wN.heap.size) hT2 (fun k hk => by omega)
  refine ⟨k1, k2, ?_, h.2.trans hT2⟩
  rw [List.map_append, List.map_cons, List.map_nil, cntB_snoc rows head _ _ (row := row) (by simpa using hrow), hb]
  have e : (N0 : Int) - ((cntB rows head (pre.map Subtype.val) + if true = true then 1 else 0 : Nat) : Int) = (N0 : Int) - (cntB rows head (pre.map Subtype.val) : Int) - 1 := by simp; omega
  rw [e]
  exact blk_set (Ext.block hE h.1) 0 _
theorem vals_take {w : World} {a : Option Addr} {vs : List V} (h : Vals w a vs) (k : Nat) : Vals w a (vs.take k) := fun hn => by
  obtain ⟨lb, off, h1, h2⟩ := h (by rw [List.length_take] at hn; omega)
  refine ⟨lb, off, h1, fun i v hv => h2 i v ?_⟩
  rw [List.getElem?_take] at hv
  split at hv
  · exact hv
  · cases hv
theorem touch_os1 {w wL W : World} {sv hv : Option Addr} {n cap hn hc r : Nat} {rows : List (List V)} {head : List V} (h : OS w wL sv hv n cap hn hc rows head) (hT : Touch (fun k => k = r) wL W) (hr : w.heap.size + 3 ≤ r) : OS w W sv hv n cap hn hc rows head :=
  touch_os h (hT.mono fun _ _ h => .inl h) hr
attribute [local go_sem] Oper.semAt_some in
set_option maxRecDepth 100000 in
set_option maxHeartbeats 16000000 in
theorem ordered_any (order : Int) (sv hv : Option Addr) (n cap hn hc : Nat) (rows : List (List V)) (head : List V) (w : World) (hrn : rows.length = n) (hr : RowsAt w sv rows) (hhn : head.length = hn) (hh : Vals w hv head)
    (hb1 : n ≤ 1100000) (hb2 : ∀ row ∈ rows, row.length ≤ 1100000) (hb3 : hn ≤ 1100000)
    (hi1 : ∀ row ∈ rows, ∀ v ∈ row, -9223372036854775808 ≤ v.2.1 ∧ v.2.1 ≤ 9223372036854775807) (hi2 : ∀ v ∈ head, -9223372036854775808 ≤ v.2.1 ∧ v.2.1 ≤ 9223372036854775807)
    (ht1 : ∀ row ∈ rows, ∀ v ∈ row, v.2.2.length ≤ 140737488355328) (ht2 : ∀ v ∈ head, v.2.2.length ≤ 140737488355328) (ho : -9223372036854775808 ≤ order ∧ order ≤ 9223372036854775807) :
    Calls Try.prog 3 #[.int .i64 order, .slice sv n cap, .slice hv hn hc] w (OPost w) := by
  have HRN := Lib.hid hrn; have HR := Lib.hid hr; have HHN := Lib.hid hhn; have HH := Lib.hid hh; have HB2 := Lib.hid hb2; have HI1 := Lib.hid hi1; have HI2 := Lib.hid hi2; have HT1 := Lib.hid ht1; have HT2 := Lib.hid ht2
  clear hrn hr hhn hh hb2 hi1 hi2 ht1 ht2
  refine (callsIn_wide (n := 9)).1 (callsIn_of_wp_marks Try.func3 rfl trivial (wpIn_wide.2 ?_) rfl)
  simp only [Try.ntmps3, List.size_toArray, List.length_cons, List.length_nil, Nat.reduceAdd, Nat.reduceSub, Array.replicate_succ, Array.replicate_zero, List.push_toArray, List.append_toArray, List.nil_append, List.cons_append]
  go_wp2_with fail
  have HO : Hid (OS w (((w.alloc (.cells #[.slice sv n cap] 22)).alloc (.cells #[.slice hv hn hc] 23)).alloc (.cells #[.bool false] 4)) sv hv n cap hn hc rows head) := by
    have h1 := blk_new w (.cells #[.slice sv n cap] 22)
    have h2 := blk_new (w.alloc (.cells #[.slice sv n cap] 22)) (.cells #[.slice hv hn hc] 23)
    have h3 := blk_new ((w.alloc (.cells #[.slice sv n cap] 22)).alloc (.cells #[.slice hv hn hc] 23)) (.cells #[.bool false] 4)
    simp only [World.size_alloc] at h2 h3
    exact ⟨blk_alloc (blk_alloc h1), blk_alloc h2, h3, (((Ext.refl w).alloc _).alloc _).alloc _⟩
  obtain ⟨w0, hw0⟩ : ∃ w0, ((w.alloc (.cells #[.slice sv n cap] 22)).alloc (.cells #[.slice hv hn hc] 23)).alloc (.cells #[.bool false] 4) = w0 := ⟨_, rfl⟩
  rw [hw0] at HO
  rw [hw0]
  clear hw0
  show Calls _ _ #[.int .i64 ((2 : Nat) : Int)] w0 _
  refine (New_ok 2 (by omega) (by omega) w0).mono ?_
  rintro e w1 ⟨tb1, bs1, rfl, hT1, hf1, hE1⟩
  go_wp2_with fail
  show Calls _ _ #[.pointer (some ⟨tb1, 0, none⟩), str [97], .int .i64 1] w1 _
  refine (BtPut_ok tb1 2 [] bs1 [97] 1 w1 hT1 (by simp)).mono ?_
  rintro e w2 ⟨rfl, bs2, hT2, -, hTo2⟩
  have hhas : hasK [97] [] = false := rfl
  rw [hhas]
  go_wp2_with fail
  refine (Len_ok hT2).mono ?_
  rintro e w' ⟨rfl, rfl⟩
  have hlen1 : ((ins [97] 1 []).length : Int) = 1 := rfl
  rw [hlen1]
  have hE02 : Ext w0 w2 := Touch.freshX hE1 hTo2 hf1
  have HO2 := Lib.hid (HO.out.later hE02)
  have HE02 := Lib.hid hE02
  clear hT1 hf1 hE1 hT2 hTo2 hhas hlen1 hE02
  obtain ⟨c4, c5, c6⟩ : w2.cell? ⟨w.heap.size, 0, none⟩ = some (.slice sv n cap) ∧ w2.cell? ⟨w.heap.size + 1, 0, none⟩ = some (.slice hv hn hc) ∧ w2.cell? ⟨w.heap.size + 2, 0, none⟩ = some (.bool false) := ⟨blk1 HO2.out.b4, blk1 HO2.out.b5, blk1 HO2.out.b6⟩
  have hz6 := blk_frozen HO2.out.b6 0
  go_wp2_with fail
  by_cases hord : order < 2 ∨ 64 < order
  · refine (New_bad order hord w2).mono ?_
    rintro e w3 ⟨rfl, hE3⟩
    have HO3 := Lib.hid (HO2.out.later hE3)
    have hz6 := blk_frozen HO3.out.b6 0
    have c6 := blk1 HO3.out.b6
    go_wp2
    refine ordered_leave (Ds := []) (g := w.heap.size + 1 + 1) rfl (blk_set HO3.out.b6 0 (.bool true)) ?_ (by simp) List.nodup_nil
    exact HO3.out.ext.setCell (p := ⟨w.heap.size + 1 + 1, 0, none⟩) (show w.heap.size ≤ w.heap.size + 1 + 1 by omega) _
  · obtain ⟨m, hm⟩ : ∃ m : Nat, (m : Int) = order := ⟨order.toNat, by omega⟩
    subst hm
    refine (New_ok m (by omega) (by omega) w2).mono ?_
    rintro e w3 ⟨tb, bs3, rfl, hT3, hf3, hE3⟩
    have HO3 := Lib.hid (HO2.out.later hE3)
    clear c4 c5 c6 hz6
    obtain ⟨c4, c5, c6⟩ : w3.cell? ⟨w.heap.size, 0, none⟩ = some (.slice sv n cap) ∧ w3.cell? ⟨w.heap.size + 1, 0, none⟩ = some (.slice hv hn hc) ∧ w3.cell? ⟨w.heap.size + 2, 0, none⟩ = some (.bool false) := ⟨blk1 HO3.out.b4, blk1 HO3.out.b5, blk1 HO3.out.b6⟩
    have HE03 : Hid (Ext w0 w3) := HE02.out.trans hE3
    go_wp2
    go_loopg [55] n (fun k v55 wr => ∃ (i : Nat) (qs : List Nat), i + k = n ∧ v55 = .int .i64 (i : Int) ∧ TreeAt wr tb m (putK rows i) qs ∧ (∀ x ∈ qs, w0.heap.size ≤ x) ∧ Ext w0 wr)
    case atStart => exact ⟨0, bs3, by omega, rfl, hT3, fun x hx => by have := hf3 x hx; have := HE02.out.size; omega, HE03.out⟩
    case round =>
      obtain ⟨i, qs, hik, rfl, hT, hbs, hE⟩ := hrel
      have HIK := Lib.hid hik; have HT := Lib.hid hT; have HBS := Lib.hid hbs; have HE := Lib.hid hE
      have HOW := Lib.hid (HO.out.later hE)
      clear hik hT hbs hE c4 c5 c6
      by_cases hlt : i < n
      · obtain ⟨row, hrow⟩ : ∃ row, rows[i]? = some row := ⟨rows[i]'(by have := HRN.out; omega), List.getElem?_eq_getElem _⟩
        obtain ⟨lb, off, hsv, hcells⟩ := HR.out.ext HOW.out.ext (by have := HRN.out; omega)
        obtain ⟨p, rn, rc, hcell, hrl, hvals⟩ := hcells i row hrow
        subst hsv
        have hri := fun U => run_index_any (P := Try.prog) ei_rows (lb := lb) (off := off) (n := n) (cap := cap) (j := i) hlt U
        have HROW := Lib.hid hrow; have HRL := Lib.hid hrl; have HV := Lib.hid hvals
        have hrmem := Lib.hid (List.mem_of_getElem? hrow)
        clear hrow hrl hvals hcells
        go_wp2_with fail
        refine (Encode_ok p rn rc row wr HRL.out HV.out (by have := HB2.out row hrmem.out; have := HRL.out; omega) (HT1.out row hrmem.out) (HI1.out row hrmem.out)).mono ?_
        rintro e w4 ⟨g, mb, cb, rfl, hB4, hg4, hE4⟩
        by_cases hck : checkL row = 0
        · have hck' : (checkL row == 0) = true := by simp [hck]
          have henc : encO row = encL row := by unfold encO; rw [if_pos hck]
          rw [henc] at hB4
          have hcv := conv_at hB4.at
          have HCK := Lib.hid hck; clear hck henc
          go_wp2_with fail
          refine (BtPut_ok tb m (putK rows i) qs (encL row) (i : Int) w4 (HT.out.ext hE4) (by have := putK_len rows i; omega)).mono ?_
          rintro e w5 ⟨rfl, bs5, hT5, hs5, hTo5⟩
          have HT5 : Hid (TreeAt w5 tb m (putK rows (i + 1)) bs5) := by
            have : putK rows (i + 1) = ins (encL row) (i : Int) (putK rows i) := by rw [putK, HROW.out]; exact if_pos HCK.out
            rw [this]; exact hT5
          have hsz4 := HE.out.size
          have hsz5 := hE4.size
          have HE5 : Hid (Ext w0 w5) := Touch.freshX (HE.out.trans hE4) hTo5 HBS.out
          have HBS5 : Hid (∀ x ∈ bs5, w0.heap.size ≤ x) := fun x hx => (hs5 x hx).elim (HBS.out x) (fun h => by omega)
          clear hB4 hg4 hE4 hcv hT5 hs5 hTo5
          go_wp2
          go_roundg (gk - 1)
          case measure => have := HIK.out; omega
          case rel => exact ⟨i + 1, bs5, by have := HIK.out; omega, by go_num, HT5.out, HBS5.out, HE5.out⟩
        · have hck' : (checkL row == 0) = false := by simpa using hck
          have HCK := Lib.hid hck; clear hck
          have HE4 := Lib.hid (HE.out.trans hE4)
          have HT4 := Lib.hid (HT.out.ext hE4)
          clear hB4 hg4 hE4
          go_wp2
          go_roundg (gk - 1)
          case measure => have := HIK.out; omega
          case rel =>
            refine ⟨i + 1, qs, by have := HIK.out; omega, by go_num, ?_, HBS.out, HE4.out⟩
            have : putK rows (i + 1) = putK rows i := by rw [putK, HROW.out]; exact if_neg HCK.out
            rw [this]; exact HT4.out
      · have hin : i = n := by have := HIK.out; omega
        subst hin
        go_wp2_with fail
        obtain ⟨L, hL⟩ : ∃ L, putK rows i = L := ⟨_, rfl⟩
        rw [hL] at HT
        have HL := Lib.hid hL; clear hL
        have hW1 : Ext wr ((wr.alloc (.cells #[.slice none 0 0] 23)).alloc (.cells #[.int .i64 0] 3)) := ((Ext.refl wr).alloc _).alloc _
        have h13 : ((wr.alloc (.cells #[.slice none 0 0] 23)).alloc (.cells #[.int .i64 0] 3)).heap[wr.heap.size]? = some (.cells #[.slice none 0 0] 23 (0, 0)) := blk_alloc (blk_new wr _)
        have h14 : ((wr.alloc (.cells #[.slice none 0 0] 23)).alloc (.cells #[.int .i64 0] 3)).heap[wr.heap.size + 1]? = some (.cells #[.int .i64 0] 3 (0, 0)) := by
          have := blk_new (wr.alloc (.cells #[.slice none 0 0] 23)) (.cells #[.int .i64 0] 3)
          rwa [World.size_alloc] at this
        obtain ⟨r, hr⟩ : ∃ r, wr.heap.size = r := ⟨_, rfl⟩
        obtain ⟨w6, hw6⟩ : ∃ w6, (wr.alloc (.cells #[.slice none 0 0] 23)).alloc (.cells #[.int .i64 0] 3) = w6 := ⟨_, rfl⟩
        rw [hw6] at hW1 h13 h14
        rw [hr] at h13 h14
        rw [hw6, hr]
        show Calls _ _ #[.pointer (some ⟨tb, 0, none⟩), str [], str []] w6 _
        refine (Range_ok tb [] [] w6).mono ?_
        rintro e wL ⟨rfl, hCa, hEL⟩
        have HOL := Lib.hid (HOW.out.later (hW1.trans hEL))
        have HTL := Lib.hid (HT.out.ext (hW1.trans hEL))
        have HEL := Lib.hid (HE.out.trans (hW1.trans hEL))
        have H13 := Lib.hid (Ext.block hEL h13)
        have H14 := Lib.hid (Ext.block hEL h14)
        have hrw : wr.heap.size ≤ r := by omega
        have hr3 : w.heap.size + 3 ≤ r := by have := blk_lt HOW.out.b6; omega
        have hr6 : r + 1 < wL.heap.size := blk_lt H14.out
        clear hW1 h13 h14 hr hw6 hEL
        go_wp2_with fail
        refine range_round (n := 9) (α := EntOf L) (by omega) (gf := 39) rfl (enters_of Try.func39 (by kernel_rfl) rfl)
          (range_stops 8 tb m wL.heap.size w6.heap.size L qs [] [] wL HTL.out hCa (Nat.le_refl _)) (fun _ => rfl) (I1 wL r) (fun _ pre _ => ¬ (pre.map Subtype.val <+: sel [] [] L)) (I1_own wL r L) (fun _ _ _ _ _ h _ _ => h) ?h0 ?round ?done ?stop
        case h0 => exact ⟨none, 0, 0, [], H13.out, H14.out, Sl.nil _ _ _, by simp, Touch.refl _ _, .inl rfl⟩
        case stop => intro D c pre W _ hp hn; exact absurd hp hn
        case round =>
          intro l0 pre0 x W0 K hI hK
          gi_wp2
          refine hK _ _ (KeepsFrom.refl _ _) (KB.refl _ _) hI ?_
          clear hK hI pre0 l0 K W0
          intro l pre W hI hlen
          obtain ⟨g, lm, lcap, us, h1, h2, h3, h4, h5, h6⟩ := hI
          obtain ⟨⟨xk, xv⟩, hxm⟩ := x
          obtain ⟨j, row, hj, hrow, hck, hx⟩ := putK_mem rows i (xk, xv) (by rw [HL.out]; exact hxm)
          obtain ⟨hx1, hx2⟩ := Prod.mk.inj hx
          subst hx1 hx2
          have hrmem := List.mem_of_getElem? hrow
          have hbl : (encL row).length ≤ 1000000000 := by have := encL_len row (checkL_zero row hck); have := HB2.out row hrmem; omega
          have hdec := dec_enc row hck (HI1.out row hrmem)
          have hokr := checkL_ok hck (HI1.out row hrmem)
          obtain ⟨c, W1, hcv, hB1, hE1⟩ := conv_to (encL row) W
          have HOW2 := Lib.hid (touch_os HOL.out h5 hr3)
          have HHB := Lib.hid (show _ ∧ _ from ⟨h1, h2⟩); have H3 := Lib.hid h3; have H4 := Lib.hid h4; have H5 := Lib.hid h5; have H6 := Lib.hid h6; have HROW := Lib.hid hrow; have HRM := Lib.hid hrmem; have HOKR := Lib.hid hokr; have HCK := Lib.hid hck
          have HE1 := Lib.hid hE1; have HB1 := Lib.hid hB1; have HDEC := Lib.hid hdec; have HX := Lib.hid hx; have HLEN := Lib.hid hlen
          clear h1 h2 h3 h4 h5 h6 hrow hrmem hokr hck hE1 hB1 hdec hx hlen
          have hro : (Fence.wide.inRound l).round = some l := rfl
          have hfn : ∀ f, (Fence.wide.inRound l).fn f := fun _ => trivial
          have hdd : ∀ k : Nat, ((Fence.wide.inRound l).depth.isSome = true → 1 ≤ k) := fun k h => by cases h
          gi_wp2_with fail
          refine (CallsIn.inRound l (callsIn_wide.2 (Decode_ok (some ⟨W.heap.size, 0, none⟩) (encL row).length c (encL row) W1 rfl HB1.out hbl))).mono ?_
          rw [HDEC.out]
          rintro e W2 ⟨g2, m2, cap2, rfl, hS2, hg2, hE2⟩
          have e1 : codeOf (.inr row : (Nat × Nat) ⊕ List V) = 0 := rfl
          have e2 : placeOf (.inr row : (Nat × Nat) ⊕ List V) = 0 := rfl
          rw [e1, e2]
          have HS2 : Hid (Sl W2 93 3 g2 m2 cap2 (flatV row)) := hS2
          have HE2 := Lib.hid (HE1.out.trans hE2)
          have HG2 : Hid (∀ b, g2 = some b → W.heap.size ≤ b) := fun b hb => by have := hg2 b hb; have := HE1.out.size; omega
          have HO2' := Lib.hid (HOW2.out.later HE2.out)
          obtain ⟨lb, off, hsv, hcells⟩ := HR.out.ext HO2'.out.ext (by have := HRN.out; omega)
          obtain ⟨rp, rn, rc, hcell, hrl, hvals⟩ := hcells j row HROW.out
          subst hsv
          have hri := fun U => run_index_any (P := Try.prog) ei_rows (lb := lb) (off := off) (n := i) (cap := cap) (j := j) hj U
          have HRL := Lib.hid hrl; have HV := Lib.hid hvals
          have c4 := blk1 HO2'.out.b4
          have c13 := blk1 (Ext.block HE2.out HHB.out.1)
          have c14 := blk1 (Ext.block HE2.out HHB.out.2)
          have l4 : w.heap.size < W2.heap.size := blk_lt HO2'.out.b4
          have llb : lb < W2.heap.size := World.block_lt_of_cell? W2 ⟨lb, off + j, none⟩ hcell
          have l14 : r + 1 < W2.heap.size := blk_lt (Ext.block HE2.out HHB.out.2)
          clear e1 e2 hS2 hE2 hg2 hrl hvals hcells
          have hj0 : ¬ ((j : Int) < 0) := by omega
          have hji : ¬ ((i : Int) ≤ (j : Int)) := by omega
          gi_wp2_with fail
          have hvr := (HS2.out.ext ((Ext.refl W2).alloc (.cells #[.int .i64 0, .int .i64 0] 37))).vals
          refine (CallsIn.inRound l (callsIn_wide.2 (Same_ok (adr g2) rp m2 rn cap2 rc row row _ hvr.2 HRL.out hvr.1 (HV.out.ext ((Ext.refl W2).alloc _)) (by have := HB2.out row HRM.out; have := hvr.2; omega) (by have := HB2.out row HRM.out; have := HRL.out; omega)))).mono ?_
          have hsame : (decide (row.length = row.length) && (cmpL row row == 0)) = true := by rw [cmpL_self]; simp
          rw [hsame]
          rintro e W4 ⟨rfl, hE4⟩
          have HE4 : Hid (Ext W W4) := (HE2.out.alloc _).trans hE4
          have HS4 : Hid (Sl W4 93 3 g2 m2 cap2 (flatV row)) := (HS2.out.ext ((Ext.refl W2).alloc _)).ext hE4
          clear hsame hvr hE4 c4 c13 c14 l4 llb l14 hcell
          have c13 := blk1 (Ext.block HE4.out HHB.out.1)
          have c14 := blk1 (Ext.block HE4.out HHB.out.2)
          have z13 := blk_frozen (Ext.block HE4.out HHB.out.1) 0
          have z14 := blk_frozen (Ext.block HE4.out HHB.out.2) 0
          rcases H6.out with hpre | ⟨pp, y, hpre, hy, hul, huo⟩
          · have hnp : ¬ ((0 : Int) < (pre.length : Int)) := by rw [hpre]; simp
            have hwp : IntKind.i64.wrap ((pre.length : Int) + 1) = (pre.length : Int) + 1 := by rw [hpre]; rfl
            have HPRE := Lib.hid hpre; clear hpre
            gi_wp2_with fail
            exact I1_next hr6 HHB.out H5.out HE4.out HS4.out HG2.out rfl (HB2.out row HRM.out) HOKR.out
          · have hnp : (0 : Int) < (pre.length : Int) := by rw [hpre]; simp
            have hwp : IntKind.i64.wrap ((pre.length : Int) + 1) = (pre.length : Int) + 1 := by
              have h1 : pre.length < L.length := by have := HLEN.out; rwa [sel_all] at this
              have h2 : L.length ≤ i := by rw [← HL.out]; exact putK_len rows i
              rw [IntKind.wrap_i64]; omega
            have HPRE := Lib.hid hpre; have HY := Lib.hid hy; have HUL := Lib.hid hul; have HUO := Lib.hid huo
            clear hpre hy hul huo
            gi_wp2_with fail
            have hvu := (H3.out.ext HE4.out).vals
            have hvr := HS4.out.vals
            refine (CallsIn.inRound l (callsIn_wide.2 (Compare_ok (adr g) (adr g2) lm m2 lcap cap2 us row W4 hvu.2 hvr.2 hvu.1 hvr.1 (by have := HUL.out; have := hvu.2; omega) (by have := HB2.out row HRM.out; have := hvr.2; omega)))).mono ?_
            rintro e W5 ⟨rfl, hE5⟩
            have HE5 : Hid (Ext W W5) := HE4.out.trans hE5
            have HS5 := Lib.hid (HS4.out.ext hE5)
            have HO5 := Lib.hid (HOW2.out.later HE5.out)
            clear hvu hvr hE5 c13 c14 z13 z14
            have c13 := blk1 (Ext.block HE5.out HHB.out.1)
            have c14 := blk1 (Ext.block HE5.out HHB.out.2)
            have z13 := blk_frozen (Ext.block HE5.out HHB.out.1) 0
            have z14 := blk_frozen (Ext.block HE5.out HHB.out.2) 0
            have c6 := blk1 HO5.out.b6
            have z6 := blk_frozen HO5.out.b6 0
            by_cases hcmp : 0 ≤ cmpL us row
            · gi_wp2_with fail
              refine ⟨(keeps_of_touch (B := wL.heap.size) (S := fun k => k = w.heap.size + 1 + 1) (Touch.setCell (S := fun k => k = w.heap.size + 1 + 1) (HE5.out.touch _) (p := ⟨w.heap.size + 1 + 1, 0, none⟩) (fun _ => rfl) _) (fun k hk => by omega)).1, fun hp => ?_⟩
              obtain ⟨rest, hrest⟩ := hp
              rw [sel_all, HPRE.out] at hrest
              have hlt2 := next_behind (rows := rows) (k := i) (j := j) (p := pp.map Subtype.val) (rest := rest) (x := y.1) (y := (encL row, (j : Int))) (us := us) (vs := row) (i := y.1.2) HI1.out (by refine Eq.trans ?_ (hrest.trans HL.out.symm); simp) (by rw [← HY.out]) rfl HUO.out HOKR.out
              omega
            · have HCMP := Lib.hid hcmp
              gi_wp2_with fail
              exact I1_next hr6 HHB.out H5.out HE5.out HS5.out HG2.out rfl (HB2.out row HRM.out) HOKR.out
        case done =>
          intro D xs W hD hxs hI hK
          obtain ⟨g, lm, lcap, us, h1, h2, -, -, h5, -⟩ := hI
          have hxl : xs.length = L.length := by
            have := congrArg List.length hxs
            rwa [List.length_map, sel_all] at this
          rw [hxl] at h2
          have HOW2 := Lib.hid (touch_os HOL.out h5 hr3)
          have HTW := Lib.hid (HTL.out.touch h5 (fun x hx hh => by have := HT.out.lt x hx; omega))
          have hw0r : w0.heap.size ≤ r := by have := HE.out.size; omega
          have HEW : Hid (Ext w0 W) := Touch.freshX HEL.out h5 (fun k hk => by omega)
          have HN := Lib.hid h2; have HK := Lib.hid hK; have HD := Lib.hid hD
          have hDw : w.heap.size ≤ D := by have := HOL.out.ext.size; omega
          have hLl : L.length ≤ i := by rw [← HL.out]; exact putK_len rows i
          clear h1 h2 h5 hxs hxl hK hD g lm lcap us
          have c5 := blk1 HOW2.out.b5
          go_wp2_with fail
          refine (Encode_ok hv hn hc head W HHN.out (HH.out.ext HOW2.out.ext) (by omega) HT2.out HI2.out).mono ?_
          rintro e W2 ⟨gb, mb, cbb, rfl, hB2, hgb, hE2⟩
          have HO3 := Lib.hid (HOW2.out.later hE2)
          have HT3 := Lib.hid (HTW.out.ext hE2)
          have HE3 := Lib.hid (HEW.out.trans hE2)
          have HN3 := Lib.hid (Ext.block hE2 HN.out)
          have HK3 := Lib.hid (Ext.block hE2 HK.out)
          have HB3 := Lib.hid hB2
          clear c5 hB2 hgb hE2
          have c6 := blk1 HO3.out.b6
          have c14 := blk1 HN3.out
          have z6 := blk_frozen HO3.out.b6 0
          by_cases hbad : checkL head = 0
          · have henc : encO head = encL head := by unfold encO; rw [if_pos hbad]
            rw [henc] at HB3
            have hml : (encL head).length = mb := HB3.out.bytes
            have hb1' : (checkL head == 0) = true := by simp [hbad]
            have HBAD := Lib.hid hbad; clear hbad henc
            have hb2' : (checkL head != 0) = false := by simp [HBAD.out]
            by_cases hmb : mb = 0
            · have hm0 : ((mb : Int) == 0) = true := by simp [hmb]
              have HMB := Lib.hid hmb; clear hmb
              go_wp2
              refine region_calm [.l 0, .p 1, .h 2 true, .p 3, .p 4, .p 5, .p 6, .p 7, .p 8, .p 9, .p 10, .p 11, .p 12] f_mixed (by kernel_rfl) (by kernel_rfl) ?_
              repeat (first | (refine plan_p rfl (fun K hK => ?_); go_simp; refine hK _ ?_; clear hK K) | (refine plan_l rfl (fun K hK => ?_); go_simp; refine hK _ ?_; clear hK K))
              refine plan_ct rfl rfl (fun K _ hK => ?_)
              go_wp2_with fail
              refine (Len_ok (HT3.out.ext (Ext.refl W2).drew)).mono ?_
              rintro e w' ⟨rfl, rfl⟩
              go_wp2
              refine hK _ _ (Ext.refl _) ?_; clear hK K
              repeat (first | (refine plan_p rfl (fun K hK => ?_); go_simp; refine hK _ ?_; clear hK K) | (refine plan_l rfl (fun K hK => ?_); go_simp; refine hK _ ?_; clear hK K))
              refine plan_done ?_
              go_wp2
              refine region_calm [.l 0, .p 1, .h 2 true, .p 3, .h 4 false] f_mixed (by kernel_rfl) (by kernel_rfl) ?_
              repeat (first | (refine plan_p rfl (fun K hK => ?_); go_simp; refine hK _ ?_; clear hK K) | (refine plan_l rfl (fun K hK => ?_); go_simp; refine hK _ ?_; clear hK K))
              refine plan_ct rfl rfl (fun K _ hK => ?_)
              go_wp2_with fail
              refine (Len_ok (HT3.out.ext ((Ext.refl W2).drew.drew))).mono ?_
              rintro e w' ⟨rfl, rfl⟩
              go_wp2
              refine hK _ _ (Ext.refl _) ?_; clear hK K
              repeat (first | (refine plan_p rfl (fun K hK => ?_); go_simp; refine hK _ ?_; clear hK K) | (refine plan_l rfl (fun K hK => ?_); go_simp; refine hK _ ?_; clear hK K))
              refine plan_c rfl rfl (fun K _ hK => ?_)
              go_wp2
              refine plan_done ?_
              go_wp2
              refine ordered_leave (Ds := [D]) (g := w.heap.size + 1 + 1) rfl (blk_set HO3.out.b6 0 (.bool true)) ?_ (fun D' h => ?_) (by simp)
              · exact (HO3.out.ext.setCell (p := ⟨w.heap.size + 1 + 1, 0, none⟩) (show w.heap.size ≤ w.heap.size + 1 + 1 by omega) _).drew.drew
              · have h' : D' = D := by simpa using h
                rw [h']
                exact ⟨blk_set_ne HK3.out (show D ≠ w.heap.size + 1 + 1 by have := HD.out; omega) _, hDw⟩
            · have hm0 : ((mb : Int) == 0) = false := by simp; omega
              have HMB := Lib.hid hmb; clear hmb
              go_wp2
              refine region_calm [.l 0, .p 1, .h 2 true, .p 3, .p 4, .p 5, .p 6, .p 7, .p 8, .p 9, .p 10, .p 11, .p 12] f_mixed (by kernel_rfl) (by kernel_rfl) ?_
              repeat (first | (refine plan_p rfl (fun K hK => ?_); go_simp; refine hK _ ?_; clear hK K) | (refine plan_l rfl (fun K hK => ?_); go_simp; refine hK _ ?_; clear hK K))
              refine plan_ct rfl rfl (fun K _ hK => ?_)
              go_wp2_with fail
              refine (Len_ok (HT3.out.ext (Ext.refl W2).drew)).mono ?_
              rintro e w' ⟨rfl, rfl⟩
              go_wp2
              refine hK _ _ (Ext.refl _) ?_; clear hK K
              repeat (first | (refine plan_p rfl (fun K hK => ?_); go_simp; refine hK _ ?_; clear hK K) | (refine plan_l rfl (fun K hK => ?_); go_simp; refine hK _ ?_; clear hK K))
              refine plan_done ?_
              have hcv := conv_at (HB3.out.at.ext (((Ext.refl W2).alloc (.cells #[.int .i64 0] 3)).drew))
              obtain ⟨S1, hS1⟩ : ∃ S1, encL head ++ [255] = S1 := ⟨_, rfl⟩
              have hcat : ∀ u, (Op.stringOp .add (bs (encL head)) ⟨#[255]⟩).run Try.prog u = .ok (str S1) u := fun u => by
                rw [← hS1]
                refine cat_ok (encL head) [255] u ?_
                have := encL_len head (checkL_zero head HBAD.out)
                have := HHN.out
                simp only [List.length_cons, List.length_nil]
                omega
              have HS1 := Lib.hid hS1; clear hS1
              have HB4 : Hid ((W2.alloc (.cells #[.int .i64 0] 3)).heap[W2.heap.size]? = some (.cells #[.int .i64 0] 3 (0, 0))) := blk_new W2 _
              go_wp2_with fail
              clear hcat
              obtain ⟨r21, hr21⟩ : ∃ r21, W2.heap.size = r21 := ⟨_, rfl⟩
              obtain ⟨w7, hw7⟩ : ∃ w7, (W2.alloc (.cells #[.int .i64 0] 3)).drew = w7 := ⟨_, rfl⟩
              have hE27 : Ext W2 w7 := by rw [← hw7]; exact ((Ext.refl W2).alloc _).drew
              have h21 : w7.heap[r21]? = some (.cells #[.int .i64 0] 3 (0, 0)) := by rw [← hw7, ← hr21]; exact HB4.out
              rw [hw7, hr21]
              have hr21b : W2.heap.size ≤ r21 := by omega
              rw [← HS1.out]
              refine (Range_ok tb (encL head) (encL head ++ [255]) w7).mono ?_
              rintro e wM ⟨rfl, hCa2, hEM⟩
              have HOM := Lib.hid (HO3.out.later (hE27.trans hEM))
              have HTM := Lib.hid (HT3.out.ext (hE27.trans hEM))
              have HEM := Lib.hid (HE3.out.trans (hE27.trans hEM))
              have HNM := Lib.hid (Ext.block (hE27.trans hEM) HN3.out)
              have HKM := Lib.hid (Ext.block (hE27.trans hEM) HK3.out)
              have H21 := Lib.hid (Ext.block hEM h21)
              have hr21l : r21 < wM.heap.size := blk_lt H21.out
              have hr21w : w.heap.size + 3 ≤ r21 := by have := blk_lt HO3.out.b6; omega
              have hr21D : D < r21 := by have := blk_lt HK3.out; omega
              clear hE27 h21 hw7 hr21 HB4 hcv c6 c14 z6
              go_wp2_with fail
              refine range_round (n := 9) (α := EntOf L) (by omega) (gf := 39) rfl (enters_of Try.func39 (by kernel_rfl) rfl)
                (range_stops 8 tb m wM.heap.size w7.heap.size L qs (encL head) (encL head ++ [255]) wM HTM.out hCa2 (Nat.le_refl _)) (fun _ => rfl) (I2 wM r21) (fun _ _ _ => False) (I2_own wM r21 L) (fun _ _ _ _ _ h _ _ => h) ?h02 ?round2 ?done2 ?stop2
              case h02 => exact ⟨H21.out, Touch.refl _ _⟩
              case stop2 => intro D c pre W _ hp hn; exact hn.elim
              case round2 =>
                intro l0 pre0 x W0 K hI hK
                gi_wp2
                refine hK _ _ (KeepsFrom.refl _ _) (KB.refl _ _) hI ?_
                clear hK hI pre0 l0 K W0
                intro l pre W hI hlen
                have HI := Lib.hid hI; clear hI
                have c21 := blk1 HI.out.1
                have z21 := blk_frozen HI.out.1 0
                have hro : (Fence.wide.inRound l).round = some l := rfl
                have hfn : ∀ f, (Fence.wide.inRound l).fn f := fun _ => trivial
                have hpl : pre.length ≤ 1100000 := by
                  have h1 : (sel (encL head) (encL head ++ [255]) L).length ≤ L.length := List.length_filter_le _ _
                  omega
                have hwp : IntKind.i64.wrap ((pre.length : Int) + 1) = (pre.length : Int) + 1 := by rw [IntKind.wrap_i64]; omega
                gi_wp2_with fail
                exact I2_next hr21l HI.out
              case done2 =>
                intro D2 xs2 W hD2 hxs2 hI hKd2
                obtain ⟨h1, h2⟩ := hI
                obtain ⟨N0, hN0⟩ : ∃ N0, cntB rows head L = N0 := ⟨_, rfl⟩
                have hxl2 : xs2.length = N0 := by
                  have h3 := congrArg List.length hxs2
                  have h4 := cnt_sel (rows := rows) (checkL_ok HBAD.out HI2.out) HI1.out i
                  rw [HL.out] at h4
                  rw [List.length_map] at h3
                  rw [h3, h4, hN0]
                rw [hxl2] at h1
                have hN0b : N0 ≤ 1100000 := by
                  have h3 : cntB rows head L ≤ L.length := List.length_filter_le _ _
                  omega
                have HO4 := Lib.hid (touch_os1 HOM.out h2 hr21w)
                have HT4 := Lib.hid (HTM.out.touch h2 (fun x hx hh => by have := HT3.out.lt x hx; omega))
                have HK4 := Lib.hid (h2.old HKM.out (by omega))
                have HKd2 := Lib.hid hKd2; have HD2 := Lib.hid hD2; have HN0 := Lib.hid hN0
                have H21' := Lib.hid h1
                clear h1 h2 hxs2 hxl2 hKd2 hD2 hN0
                go_wp2_with fail
                show Calls _ _ #[.pointer (some ⟨tb, 0, none⟩), str [], str []] W _
                refine (Range_ok tb [] [] W).mono ?_
                rintro e wN ⟨rfl, hCa3, hEN⟩
                have HON := Lib.hid (HO4.out.later hEN)
                have HTN := Lib.hid (HT4.out.ext hEN)
                have HKN := Lib.hid (Ext.block hEN HK4.out)
                have HKN2 := Lib.hid (Ext.block hEN HKd2.out)
                have H21n := Lib.hid (Ext.block hEN H21'.out)
                have hr21n : r21 < wN.heap.size := blk_lt H21n.out
                have hTlt : Hid (∀ x ∈ qs, x < W2.heap.size) := HT3.out.lt
                clear hEN
                go_wp2_with fail
                refine range_round (n := 9) (α := EntOf L) (by omega) (gf := 39) rfl (enters_of Try.func39 (by kernel_rfl) rfl)
                  (range_stops 8 tb m wN.heap.size W.heap.size L qs [] [] wN HTN.out hCa3 (Nat.le_refl _)) (fun _ => rfl) (I3 rows head wN r21 N0) (fun _ _ _ => False) (I3_own rows head wN r21 N0 L) (fun _ _ _ _ _ h _ _ => h) ?h03 ?round3 ?done3 ?stop3
                case h03 => exact ⟨by simpa [cntB] using H21n.out, Touch.refl _ _⟩
                case stop3 => intro D c pre W _ hp hn; exact hn.elim
                case round3 =>
                  intro l0 pre0 x W0 K hI hK
                  gi_wp2
                  refine hK _ _ (KeepsFrom.refl _ _) (KB.refl _ _) hI ?_
                  clear hK hI pre0 l0 K W0
                  intro l pre W hI hlen
                  have HI := Lib.hid hI; clear hI
                  obtain ⟨⟨xk, xv⟩, hxm⟩ := x
                  obtain ⟨j, row, hj, hrow, hck, hx⟩ := putK_mem rows i (xk, xv) (by rw [HL.out]; exact hxm)
                  obtain ⟨hx1, hx2⟩ := Prod.mk.inj hx
                  subst hx1 hx2
                  have hrmem := List.mem_of_getElem? hrow
                  have hbl : (encL row).length ≤ 1000000000 := by have := encL_len row (checkL_zero row hck); have := HB2.out row hrmem; omega
                  have hdec := dec_enc row hck (HI1.out row hrmem)
                  obtain ⟨c, W1, hcv, hB1, hE1⟩ := conv_to (encL row) W
                  have HOW2 := Lib.hid (touch_os1 HON.out HI.out.2 hr21w)
                  have HROW := Lib.hid hrow; have HRM := Lib.hid hrmem
                  have HE1 := Lib.hid hE1; have HB1 := Lib.hid hB1; have HDEC := Lib.hid hdec; have HX := Lib.hid hx; have HLEN := Lib.hid hlen
                  clear hrow hrmem hck hE1 hB1 hdec hx hlen
                  have hro : (Fence.wide.inRound l).round = some l := rfl
                  have hfn : ∀ f, (Fence.wide.inRound l).fn f := fun _ => trivial
                  gi_wp2_with fail
                  refine (CallsIn.inRound l (callsIn_wide.2 (Decode_ok (some ⟨W.heap.size, 0, none⟩) (encL row).length c (encL row) W1 rfl HB1.out hbl))).mono ?_
                  rw [HDEC.out]
                  rintro e W2' ⟨g2, m2, cap2, rfl, hS2, hg2, hE2⟩
                  have e1 : codeOf (.inr row : (Nat × Nat) ⊕ List V) = 0 := rfl
                  have e2 : placeOf (.inr row : (Nat × Nat) ⊕ List V) = 0 := rfl
                  rw [e1, e2]
                  have HS2 : Hid (Sl W2' 93 3 g2 m2 cap2 (flatV row)) := hS2
                  have HE2 := Lib.hid (HE1.out.trans hE2)
                  have HO2' := Lib.hid (HOW2.out.later HE2.out)
                  have c5 := blk1 HO2'.out.b5
                  have l5 : w.heap.size + 1 < W2'.heap.size := blk_lt HO2'.out.b5
                  have hm2 : row.length = m2 := hS2.vals.2
                  have hmc : m2 ≤ cap2 := hS2.le
                  clear e1 e2 hS2 hE2 hg2
                  by_cases hhm : hn ≤ m2
                  · have hhm' : ((hn : Int) ≤ (m2 : Int)) := by omega
                    have hhc : hn ≤ cap2 := by omega
                    gi_wp2_with fail
                    refine regionI (fun _ => trivial) (by kernel_rfl) [.p 0, .p 1, .l 2, .p 3, .p 4, .p 5, .p 6, .l 7, .p 8, .p 9, .l 10, .h 11 false, .p 12] f_mixed (by kernel_rfl) (by kernel_rfl) ?_
                    repeat (first | (refine iplan_p rfl (fun K hK => ?_); go_simp; refine hK _ ?_; clear hK K) | (refine iplan_l rfl (fun K hK => ?_); go_simp; refine hK _ ?_; clear hK K))
                    refine iplan_h rfl (fun K hK => ?_)
                    gi_wp2_with fail
                    have hvr := (HS2.out.ext (((Ext.refl W2').alloc (.cells #[.int .i64 0, .int .i64 0] 37)).drew)).vals
                    have hvh := HH.out.ext (HO2'.out.ext.trans (((Ext.refl W2').alloc (.cells #[.int .i64 0, .int .i64 0] 37)).drew))
                    refine (CallsIn.inRound l (callsIn_wide.2 (Same_ok (adr g2) hv hn hn cap2 hc (row.take hn) head _ (by rw [List.length_take]; omega) HHN.out (vals_take hvr.1 hn) hvh (by omega) (by omega)))).mono ?_
                    obtain ⟨bb, hbb⟩ : ∃ bb, (decide ((row.take hn).length = head.length) && (cmpL (row.take hn) head == 0)) = bb := ⟨_, rfl⟩
                    have HBG : Hid (begins head row = bb) := by
                      unfold begins
                      rw [HHN.out, ← hbb, HHN.out]
                      have : decide (hn ≤ row.length) = true := decide_eq_true (by omega)
                      rw [this]; rfl
                    rw [hbb]
                    rintro e W4 ⟨rfl, hE4⟩
                    have HE4 : Hid (Ext W W4) := ((HE2.out.alloc _).drew).trans hE4
                    clear hvr hvh hE4 hbb c5 l5
                    have c21 := blk1 (Ext.block HE4.out HI.out.1)
                    have z21 := blk_frozen (Ext.block HE4.out HI.out.1) 0
                    cases bb
                    · gi_wp2
                      repeat (first | (refine iplan_p rfl (fun K hK => ?_); go_simp; refine hK _ ?_; clear hK K) | (refine iplan_l rfl (fun K hK => ?_); go_simp; refine hK _ ?_; clear hK K))
                      refine iplan_done ?_
                      gi_wp2
                      exact I3_same hr21n HI.out HE4.out HROW.out HBG.out
                    · have hwc : IntKind.i64.wrap ((N0 : Int) - (cntB rows head (pre.map Subtype.val) : Int) - 1) = (N0 : Int) - (cntB rows head (pre.map Subtype.val) : Int) - 1 := by
                        have h1 : cntB rows head (pre.map Subtype.val) ≤ (pre.map Subtype.val).length := List.length_filter_le _ _
                        have h2 : pre.length < L.length := by have := HLEN.out; rwa [sel_all] at this
                        rw [List.length_map] at h1
                        rw [IntKind.wrap_i64]; omega
                      gi_wp2
                      repeat (first | (refine iplan_p rfl (fun K hK => ?_); go_simp; refine hK _ ?_; clear hK K) | (refine iplan_l rfl (fun K hK => ?_); go_simp; refine hK _ ?_; clear hK K))
                      refine iplan_done ?_
                      gi_wp2
                      exact I3_less hr21n HI.out HE4.out HROW.out HBG.out
                  · have hhm' : ¬ ((hn : Int) ≤ (m2 : Int)) := by omega
                    have HBG : Hid (begins head row = false) := by
                      unfold begins
                      have : decide (head.length ≤ row.length) = false := decide_eq_false (by rw [HHN.out]; omega)
                      rw [this]; rfl
                    gi_wp2_with fail
                    refine regionI (fun _ => trivial) (by kernel_rfl) [.p 0, .p 1, .l 2, .p 3, .p 4, .p 5, .p 6, .l 7, .p 8, .p 9, .l 10, .h 11 false, .p 12] f_mixed (by kernel_rfl) (by kernel_rfl) ?_
                    repeat (first | (refine iplan_p rfl (fun K hK => ?_); go_simp; refine hK _ ?_; clear hK K) | (refine iplan_l rfl (fun K hK => ?_); go_simp; refine hK _ ?_; clear hK K))
                    refine iplan_h rfl (fun K hK => ?_)
                    gi_wp2
                    repeat (first | (refine iplan_p rfl (fun K hK => ?_); go_simp; refine hK _ ?_; clear hK K) | (refine iplan_l rfl (fun K hK => ?_); go_simp; refine hK _ ?_; clear hK K))
                    refine iplan_done ?_
                    gi_wp2
                    exact I3_same hr21n HI.out ((HE2.out.alloc _).drew) HROW.out HBG.out
                case done3 =>
                  intro D3 xs3 W3' hD3 hxs3 hI hKd3
                  obtain ⟨h1, h2⟩ := hI
                  have hz0 : (N0 : Int) - (cntB rows head (xs3.map Subtype.val) : Int) = 0 := by
                    have h3 : xs3.map Subtype.val = L := by rw [hxs3, sel_all]
                    rw [h3, HN0.out]; omega
                  rw [hz0] at h1
                  have HO9 := Lib.hid (touch_os1 HON.out h2 hr21w)
                  have HK9 := Lib.hid (h2.old HKN.out (by omega))
                  have HK92 := Lib.hid (h2.old HKN2.out (by have := HD2.out; omega))
                  have HKd3 := Lib.hid hKd3; have HD3 := Lib.hid hD3; have H219 := Lib.hid h1
                  have hD2N : D2 < wN.heap.size := blk_lt HKN2.out
                  have hDN : D < wM.heap.size := blk_lt HKM.out
                  have hsz2 := HON.out.ext.size
                  have hszM := HOM.out.ext.size
                  clear h1 h2 hz0 hxs3 hKd3 hD3
                  have c21 := blk1 H219.out
                  have c6 := blk1 HO9.out.b6
                  have z6 := blk_frozen HO9.out.b6 0
                  go_wp2
                  refine ordered_leave (Ds := [D3, D2, D]) (g := w.heap.size + 1 + 1) rfl (blk_set HO9.out.b6 0 (.bool true)) ?_ (fun D' h => ?_) ?_
                  · exact HO9.out.ext.setCell (p := ⟨w.heap.size + 1 + 1, 0, none⟩) (show w.heap.size ≤ w.heap.size + 1 + 1 by omega) _
                  · have hd3 := HD3.out
                    have hd2 := HD2.out
                    have h' : D' = D3 ∨ D' = D2 ∨ D' = D := by simpa using h
                    rcases h' with h' | h' | h'
                    · rw [h']; exact ⟨blk_set_ne HKd3.out (show D3 ≠ w.heap.size + 1 + 1 by omega) _, by omega⟩
                    · rw [h']; exact ⟨blk_set_ne HK92.out (show D2 ≠ w.heap.size + 1 + 1 by omega) _, by omega⟩
                    · rw [h']; exact ⟨blk_set_ne HK9.out (show D ≠ w.heap.size + 1 + 1 by have := HD.out; omega) _, hDw⟩
                  · have hd3 := HD3.out
                    have hd2 := HD2.out
                    simp only [List.nodup_cons, List.mem_cons, List.not_mem_nil, or_false, not_or, not_false_eq_true, List.nodup_nil, and_true]
                    omega
          · have hb1' : (checkL head == 0) = false := by simpa using hbad
            have hb2' : (checkL head != 0) = true := by simpa using hbad
            have HBAD := Lib.hid hbad; clear hbad
            go_wp2
            refine region_calm [.l 0, .p 1, .h 2 true, .p 3, .p 4, .p 5, .p 6, .p 7, .p 8, .p 9, .p 10, .p 11, .p 12] f_mixed (by kernel_rfl) (by kernel_rfl) ?_
            repeat (first | (refine plan_p rfl (fun K hK => ?_); go_simp; refine hK _ ?_; clear hK K) | (refine plan_l rfl (fun K hK => ?_); go_simp; refine hK _ ?_; clear hK K))
            refine plan_ct rfl rfl (fun K _ hK => ?_)
            go_wp2_with fail
            refine (Len_ok (HT3.out.ext (Ext.refl W2).drew)).mono ?_
            rintro e w' ⟨rfl, rfl⟩
            go_wp2
            refine hK _ _ (Ext.refl _) ?_; clear hK K
            repeat (first | (refine plan_p rfl (fun K hK => ?_); go_simp; refine hK _ ?_; clear hK K) | (refine plan_l rfl (fun K hK => ?_); go_simp; refine hK _ ?_; clear hK K))
            refine plan_done ?_
            go_wp2
            refine region_calm [.l 0, .p 1, .h 2 true, .p 3, .h 4 false] f_mixed (by kernel_rfl) (by kernel_rfl) ?_
            repeat (first | (refine plan_p rfl (fun K hK => ?_); go_simp; refine hK _ ?_; clear hK K) | (refine plan_l rfl (fun K hK => ?_); go_simp; refine hK _ ?_; clear hK K))
            refine plan_ct rfl rfl (fun K _ hK => ?_)
            go_wp2_with fail
            refine (Len_ok (HT3.out.ext ((Ext.refl W2).drew.drew))).mono ?_
            rintro e w' ⟨rfl, rfl⟩
            go_wp2
            refine hK _ _ (Ext.refl _) ?_; clear hK K
            repeat (first | (refine plan_p rfl (fun K hK => ?_); go_simp; refine hK _ ?_; clear hK K) | (refine plan_l rfl (fun K hK => ?_); go_simp; refine hK _ ?_; clear hK K))
            refine plan_c rfl rfl (fun K _ hK => ?_)
            go_wp2
            refine plan_done ?_
            go_wp2
            refine ordered_leave (Ds := [D]) (g := w.heap.size + 1 + 1) rfl (blk_set HO3.out.b6 0 (.bool true)) ?_ (fun D' h => ?_) (by simp)
            · exact (HO3.out.ext.setCell (p := ⟨w.heap.size + 1 + 1, 0, none⟩) (show w.heap.size ≤ w.heap.size + 1 + 1 by omega) _).drew.drew
            · have h' : D' = D := by simpa using h
              rw [h']
              exact ⟨blk_set_ne HK3.out (show D ≠ w.heap.size + 1 + 1 by have := HD.out; omega) _, hDw⟩
end Go.Proofs.Ytkejjahlglldlaa
