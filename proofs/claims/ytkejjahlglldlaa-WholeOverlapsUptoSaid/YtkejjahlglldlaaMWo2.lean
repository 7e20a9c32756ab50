/- Rows of values in memory; a text as bytes; how a function with loops over iterators leaves. -/
import Derived.Test.YtkejjahlglldlaaMH
import Derived.Test.YtkejjahlglldlaaMG
import Derived.Test.YtkejjahlglldlaaMF
import Derived.Lib.ConvBytes
import Derived.Laws.Rows
import Derived.RangeFuncWrites
import Derived.RangeFuncNested
import Derived.Lib.UnsafeStr
namespace Go.Proofs.Ytkejjahlglldlaa
open Go.RowKit Go.Lib Go.Shelf

def RowsAt (w : World) (a : Option Addr) (rows : List (List V)) : Prop :=
  0 < rows.length → ∃ lb off, a = some ⟨lb, off, none⟩ ∧ ∀ i row, rows[i]? = some row → ∃ p n c, w.cell? ⟨lb, off + i, none⟩ = some (.slice p n c) ∧ row.length = n ∧ Vals w p row
theorem RowsAt.ext {w w' : World} {a : Option Addr} {rows : List (List V)} (h : RowsAt w a rows) (he : Ext w w') : RowsAt w' a rows := fun hn => by
  obtain ⟨lb, off, h1, h2⟩ := h hn
  refine ⟨lb, off, h1, fun i row hr => ?_⟩
  obtain ⟨p, n, c, h3, h4, h5⟩ := h2 i row hr
  exact ⟨p, n, c, Ext.cell he h3, h4, h5.ext he⟩

/-- A text's bytes in new memory. -/
theorem conv_to (l : List UInt8) (w : World) : ∃ c w', (convert 9 30 (str l)).run Try.prog w = .ok (.slice (some ⟨w.heap.size, 0, none⟩) l.length c) w' ∧ BytesAt w' (.slice (some ⟨w.heap.size, 0, none⟩) l.length c) l ∧ Ext w w' := by
  have h := Lib.run_convert_string_bytes (P := Try.prog) w 9 30 5 (bs l) Try.underlying9 Try.underlying30 Try.underlying5
  rw [bs_size] at h
  refine ⟨_, _, h, ?_, ?_⟩
  · refine ⟨_, _, rfl, (fun h => by cases h), fun hl => ⟨w.heap.size, 0, rfl, fun j x hx => ?_⟩⟩
    rw [Nat.zero_add]
    have hj := (List.getElem?_eq_some_iff.1 hx).1
    have hb : (Lib.bytesWorld w 5 (bs l)).heap[w.heap.size]? = some (.cells (Lib.bytesCells w 5 (bs l)) 5 ((Lib.bytesCells w 5 (bs l)).size, (Lib.bytesCells w 5 (bs l)).size + 1)) := by
      have h1 := blk_new w.drew (.cells (Lib.bytesCells w 5 (bs l)) 5)
      have h2 : w.drew.heap.size = w.heap.size := rfl
      rw [h2] at h1
      unfold Lib.bytesWorld World.freeze
      rw [if_neg (show ¬ (1 : Nat) = 0 by decide)]
      show (Array.modify _ _ _)[w.heap.size]? = _
      rw [Array.getElem?_modify, if_pos rfl, h1]
      rfl
    refine blk_cell hb ?_
    unfold Lib.bytesCells
    rw [Array.getElem?_append_left (by simp [bs]; omega)]
    simp [bs, hx]
  · unfold Lib.bytesWorld
    exact below_freeze (((Ext.refl w).drew).alloc _) (Nat.le_refl _) _

theorem cat_ok {P : Program} (a b : List UInt8) (u : World) (h : a.length + b.length ≤ 4000000000) : (Op.stringOp .add (bs a) (bs b)).run P u = .ok (str (a ++ b)) u := by
  rw [run_string_add_sum u _ _ (by rw [bs_size, bs_size]; omega)]
  unfold bs
  rw [ByteArray.mk_append_mk]
  rfl
theorem ei_rows : EI Try.prog 22 23 1 24 :=
  ⟨Try.underlying22, by
    obtain ⟨i, h1, h2, h3, h4⟩ := info_parts (P := Try.prog) (e := 23) (z := .slice none 0 0) (size := 1) (bytes := 24) (by kernel_rfl)
    exact ⟨i, _, h1, h2, h3, h4, rfl⟩, by omega, by omega⟩
/-- An element's address in a slice that lies anywhere. -/
theorem run_index_any {P : Program} {t e : TypeId} {size bytes : Nat} (E : EI P t e size bytes) {lb off n cap j : Nat} (hj : j < n) (w : World) :
    (Instr.indexAt t (.slice (some ⟨lb, off, none⟩) n cap) (.int .i64 (j : Int))).run P w = .ok (.pointer (some ⟨lb, off + j * size, none⟩)) w := by
  obtain ⟨i, z, hi, hz, h2, h3, h4⟩ := E.info
  have h0 : (0 : Int) ≤ (j : Int) ∧ (j : Int) < (n : Int) := ⟨by omega, by omega⟩
  have ha : (⟨lb, off, none⟩ : Addr).add (j * size) = ⟨lb, off + j * size, none⟩ := by
    unfold Addr.add
    split
    · rename_i h; rw [h]; rfl
    · rfl
  simp [Instr.indexAt, asIntOf, run_underlying E.und, sizeOf, typeInfo, hi, h2, hj, ha]
theorem leaves_marks {n : Nat} {P : Program} {fn : Func} {tmps : Array Value} {R : Ending → World → Prop} : ∀ (Ds : List Nat) (W : World), (∀ D ∈ Ds, W.heap[D]? = some (.deferred (some []))) → Ds.Nodup →
    (∀ W', Touch (fun k => k ∈ Ds) W W' → ∃ v, (results fn tmps).run P W' = .ok v W' ∧ R (.returned v) W') →
    LeavesInM Fence.wide n P fn tmps R (Ds.map fun D => { target := .collected D, args := #[] }) .returning W
  | [], W, _, _, h => h W (Touch.refl _ _)
  | D :: Ds, W, hD, hn, h => by
    obtain ⟨h1, h2⟩ := List.nodup_cons.1 hn
    refine ⟨by simp, .inl ⟨D, W.putObj D (.deferred none), rfl, run_takeDeferred (hD D (by simp)), ?_⟩⟩
    have hT : Touch (fun k => k ∈ D :: Ds) W (W.putObj D (.deferred none)) := Touch.setObj (Touch.refl _ _) (fun _ => by simp) _
    refine leaves_marks Ds _ (fun D' hD' => ?_) h2 fun W' hW' => h W' (hT.trans (hW'.mono fun k _ hk => List.mem_cons_of_mem _ hk))
    rw [World.putObj_heap_other (fun e => h1 (by cases e; exact hD'))]
    exact hD D' (List.mem_cons_of_mem _ hD')

/-- A loop over an iterator: the round is walked from the act that the assignment leaves. -/
theorem range_round {α : Type} {n : Nat} {P : Program} {g : Operand} {ps : Array Tmp} {assign body : Code} {Q : Exit → Act → World → Prop} {a : Act} {w : World}
    (h1 : 1 ≤ n) {gf : Nat} {lb : Array Value} (hg : a.eval g = .func (.func gf) #[] lb) (eg : ∀ args w, (callFunc gf args).run P w = .ok (.enter gf args) w)
    {encs : α → Array Value} {S Sp : List α → Prop} {N : Nat} (hseq : SeqStopsK Fence.wide (n - 1) P gf lb encs (KB w.heap.size) S Sp N w) (hps : ∀ x, (encs x).size = ps.size)
    (I : List α → World → Prop) (Ix : Code → List α → World → Prop) (hI : OwnFrom w.heap.size I) (hIx : ∀ c, OwnFrom w.heap.size (Ix c)) (h0 : I [] w)
    (hround : ∀ (l0 : Nat) (pre0 : List α) (x : α) (W0 : World) (K : Act → World → Prop), I pre0 W0 →
      (∀ a' W', KeepsFrom w.heap.size W0 W' → KB w.heap.size W0 W' → I pre0 W' →
        (∀ (l : Nat) (pre : List α) (W : World), I pre W → pre.length < N → body.wpIn (Fence.wide.inRound l) (n - 1 - 1) P (ownPostG w.heap.size (KB w.heap.size) I Ix (pre ++ [x]) W) a' W) → K a' W') →
      assign.wpIn (Fence.wide.inRound l0) (n - 1 - 1) P (Exit.then K (fun _ _ _ => False)) { tmps := (ps.zip (encs x)).foldl (fun t (p, v) => t.setIfInBounds p v) a.tmps, defers := [] } W0)
    (hdone : ∀ (D : Nat) (xs : List α) (W : World), w.heap.size ≤ D → S xs → I xs W → W.heap[D]? = some (.deferred (some [])) → Q .normal { a with defers := { target := .collected D, args := #[] } :: a.defers } W)
    (hstop : ∀ (D : Nat) (c : Code) (pre : List α) (W : World), w.heap.size ≤ D → Sp pre → Ix c pre W → W.heap[D]? = some (.deferred (some [])) → c.wpIn Fence.wide n P Q { a with defers := { target := .collected D, args := #[] } :: a.defers } W) :
    (Code.rangeFunc g ps assign body).wp P Q a w :=
  wpIn_wide.1 (wpIn_rangeFunc_ownH (F := Fence.wide) (n := n) rfl h1 hg trivial eg hseq KB.t (KB.b _) (Below.refl _ _) hps I Ix hI hIx h0
    (fun x a' _ => ∀ (l : Nat) (pre : List α) (W : World), I pre W → pre.length < N → body.wpIn (Fence.wide.inRound l) (n - 1 - 1) P (ownPostG w.heap.size (KB w.heap.size) I Ix (pre ++ [x]) W) a' W)
    (fun _ _ _ _ _ _ h _ _ => h) hround (fun l pre x a' W _ _ hi hx hlen => hx l pre W hi hlen) hdone hstop)
theorem keeps_of_touch {S : Nat → Prop} {B : Nat} {W W' : World} (hT : Touch S W W') (hS : ∀ k, S k → k < B) : KeepsFrom B W W' ∧ KB B W W' :=
  ⟨⟨hT.size, fun k o hB hk _ => hT.old hk fun h => by have := hS k h; omega⟩, ⟨hT.size, fun k cs t f hB hk => hT.old hk fun h => by have := hS k h; omega⟩⟩
/-- A block of cells abides the turn of what is no cells. -/
theorem blk_kept {W W' : World} {row : Option Nat} {b : Nat} {cs : Array Value} {t : TypeId} {f : Nat × Nat} (h : W.heap[b]? = some (.cells cs t f)) (hg : W.grownBy W' row) (hr : ∀ r, row = some r → ∃ o : Obj, W.heap[r]? = some o ∧ o.isCells = false) :
    W'.heap[b]? = some (.cells cs t f) := by
  rw [hg.block b (Array.getElem?_eq_some_iff.1 h).1 (fun e => ?_)]
  · exact h
  · obtain ⟨o, ho, hc⟩ := hr b e.symm
    rw [h] at ho
    cases ho
    cases hc
theorem Sl.kept {W W' : World} {row : Option Nat} {e : TypeId} {sz n cap : Nat} {g : Option Nat} {xs : List Value} (h : Sl W e sz g n cap xs) (hg : W.grownBy W' row) (hr : ∀ r, row = some r → ∃ o : Obj, W.heap[r]? = some o ∧ o.isCells = false) : Sl W' e sz g n cap xs :=
  h.congr fun b hb => by
    obtain ⟨cs, t, f, h1⟩ := h.isCells b hb
    rw [h1]; exact blk_kept h1 hg hr
theorem touch_kept {S : Nat → Prop} {W0 W W' : World} {row : Option Nat} {B : Nat} (h : Touch S W0 W) (hB : W0.heap.size ≤ B) (hg : W.grownBy W' row) (hr : ∀ r, row = some r → B ≤ r ∧ ∃ o : Obj, W.heap[r]? = some o ∧ o.isCells = false) : Touch S W0 W' :=
  ⟨hg.os.trans h.os, hg.tape.trans h.tape, hg.output.trans h.output, Nat.le_trans h.size hg.size, fun k hk hn => by
    rw [hg.block k (Nat.lt_of_lt_of_le hk h.size) (fun e => by have := (hr k e.symm).1; omega)]
    exact h.block k hk hn⟩
end Go.Proofs.Ytkejjahlglldlaa
