/- What a call may touch; facts on blocks and cells; ways to abstract the world in a walk. No program is named here. -/
import Derived.Test.YtkejjahlglldlaaReg
namespace Go.Proofs.Ytkejjahlglldlaa
open Go.RowKit

/-- w' is w but for the blocks in S; what is new lies behind. -/
structure Touch (S : Nat → Prop) (w w' : World) : Prop where
  os : w'.os = w.os
  tape : w'.tape = w.tape
  output : w'.output = w.output
  size : w.heap.size ≤ w'.heap.size
  block : ∀ k, k < w.heap.size → ¬ S k → w'.heap[k]? = w.heap[k]?

theorem Touch.refl (S : Nat → Prop) (w : World) : Touch S w w := ⟨rfl, rfl, rfl, Nat.le_refl _, fun _ _ _ => rfl⟩
theorem Touch.trans {S : Nat → Prop} {a b c : World} (h : Touch S a b) (k : Touch S b c) : Touch S a c :=
  ⟨k.os.trans h.os, k.tape.trans h.tape, k.output.trans h.output, Nat.le_trans h.size k.size,
    fun i hi hn => (k.block i (Nat.lt_of_lt_of_le hi h.size) hn).trans (h.block i hi hn)⟩
/-- Composition, where what the second touches is in S or new. -/
theorem Touch.trans' {S S' : Nat → Prop} {a b c : World} (h : Touch S a b) (k : Touch S' b c) (hs : ∀ i, i < a.heap.size → S' i → S i) : Touch S a c :=
  ⟨k.os.trans h.os, k.tape.trans h.tape, k.output.trans h.output, Nat.le_trans h.size k.size,
    fun i hi hn => (k.block i (Nat.lt_of_lt_of_le hi h.size) (fun hx => hn (hs i hi hx))).trans (h.block i hi hn)⟩
theorem Touch.mono {S S' : Nat → Prop} {w w' : World} (h : Touch S w w') (hs : ∀ i, i < w.heap.size → S i → S' i) : Touch S' w w' :=
  ⟨h.os, h.tape, h.output, h.size, fun i hi hn => h.block i hi (fun hx => hn (hs i hi hx))⟩
theorem Ext.touch {w w' : World} (h : Ext w w') (S : Nat → Prop) : Touch S w w' := ⟨h.os, h.tape, h.output, h.size, fun k hk _ => Below.block h k hk⟩
theorem Touch.ext {w w' : World} {S : Nat → Prop} (h : Touch S w w') (hs : ∀ i, i < w.heap.size → ¬ S i) : Ext w w' :=
  ⟨h.os, h.tape, h.output, h.size, fun k hk => h.block k hk (hs k hk)⟩
theorem Touch.below {w w' : World} {S : Nat → Prop} {B : Nat} (h : Touch S w w') (hB : B ≤ w.heap.size) (hs : ∀ i, S i → B ≤ i) : Below B w w' :=
  ⟨h.os, h.tape, h.output, h.size, fun k hk => h.block k (Nat.lt_of_lt_of_le hk hB) (fun hx => by have := hs k hx; omega)⟩
theorem Touch.alloc {S : Nat → Prop} {a w : World} (h : Touch S a w) (o : Obj) : Touch S a (w.alloc o) := h.trans (((Ext.refl w).alloc o).touch S)
theorem Touch.drew {S : Nat → Prop} {a w : World} (h : Touch S a w) : Touch S a w.drew := h.trans (((Ext.refl w).drew).touch S)
theorem Touch.setCell {S : Nat → Prop} {a w : World} (h : Touch S a w) {p : Addr} (hp : p.block < a.heap.size → S p.block) (u : Value) : Touch S a (w.setCell p u) :=
  h.trans' (S' := fun k => k = p.block) ⟨rfl, rfl, rfl, by simp [World.setCell], fun k _ hn => Below.heap_setCell _ _ _ _ hn⟩ (fun i hi e => e ▸ hp (e ▸ hi))
theorem Touch.setObj {S : Nat → Prop} {a w : World} (h : Touch S a w) {r : Nat} (hp : r < a.heap.size → S r) (o : Obj) :
    Touch S a { w with heap := w.heap.setIfInBounds r o } :=
  h.trans' (S' := fun k => k = r) ⟨rfl, rfl, rfl, by simp, fun k _ hn => by simp [Array.getElem?_setIfInBounds_ne (Ne.symm hn)]⟩ (fun i hi e => e ▸ hp (e ▸ hi))
theorem Touch.old {S : Nat → Prop} {w w' : World} (h : Touch S w w') {k : Nat} {o : Obj} (hk : w.heap[k]? = some o) (hn : ¬ S k) : w'.heap[k]? = some o := by
  rw [← hk]; exact h.block k (Array.getElem?_eq_some_iff.1 hk).1 hn
theorem Touch.cell {S : Nat → Prop} {w w' : World} (h : Touch S w w') {p : Addr} {v : Value} (hk : w.cell? p = some v) (hn : ¬ S p.block) : w'.cell? p = some v := by
  rw [← hk]
  exact World.cell?_of_block (w := w) (h.block p.block (World.block_lt_of_cell? w p hk) hn)

theorem Ext.trans' {a b c : World} (h : Ext a b) (k : Below a.heap.size b c) : Ext a c := Below.trans h k
section blocks
variable {w : World} {b : Nat} {cs : Array Value} {t : TypeId}

theorem blk_lt {o : Obj} (h : w.heap[b]? = some o) : b < w.heap.size := (Array.getElem?_eq_some_iff.1 h).1
theorem blk_cell {f : Nat × Nat} (h : w.heap[b]? = some (.cells cs t f)) {i : Nat} {v : Value} (hi : cs[i]? = some v) : w.cell? ⟨b, i, none⟩ = some v := by
  simp [World.cell?, h, hi]
section cells
variable {f : Nat × Nat} {v0 v1 v2 v3 v4 v5 v6 : Value}
theorem blk1 (h : w.heap[b]? = some (.cells #[v0] t f)) : w.cell? ⟨b, 0, none⟩ = some v0 := blk_cell h rfl
theorem blk2 (h : w.heap[b]? = some (.cells #[v0, v1] t f)) : w.cell? ⟨b, 0, none⟩ = some v0 ∧ w.cell? ⟨b, 1, none⟩ = some v1 := ⟨blk_cell h rfl, blk_cell h rfl⟩
theorem blk3 (h : w.heap[b]? = some (.cells #[v0, v1, v2] t f)) : w.cell? ⟨b, 0, none⟩ = some v0 ∧ w.cell? ⟨b, 1, none⟩ = some v1 ∧ w.cell? ⟨b, 2, none⟩ = some v2 :=
  ⟨blk_cell h rfl, blk_cell h rfl, blk_cell h rfl⟩
theorem blk5 (h : w.heap[b]? = some (.cells #[v0, v1, v2, v3, v4] t f)) : w.cell? ⟨b, 0, none⟩ = some v0 ∧ w.cell? ⟨b, 1, none⟩ = some v1 ∧ w.cell? ⟨b, 2, none⟩ = some v2 ∧ w.cell? ⟨b, 3, none⟩ = some v3 ∧ w.cell? ⟨b, 4, none⟩ = some v4 :=
  ⟨blk_cell h rfl, blk_cell h rfl, blk_cell h rfl, blk_cell h rfl, blk_cell h rfl⟩
theorem blk7 (h : w.heap[b]? = some (.cells #[v0, v1, v2, v3, v4, v5, v6] t f)) : w.cell? ⟨b, 0, none⟩ = some v0 ∧ w.cell? ⟨b, 1, none⟩ = some v1 ∧ w.cell? ⟨b, 2, none⟩ = some v2 ∧ w.cell? ⟨b, 3, none⟩ = some v3 ∧ w.cell? ⟨b, 4, none⟩ = some v4 ∧ w.cell? ⟨b, 5, none⟩ = some v5 ∧ w.cell? ⟨b, 6, none⟩ = some v6 :=
  ⟨blk_cell h rfl, blk_cell h rfl, blk_cell h rfl, blk_cell h rfl, blk_cell h rfl, blk_cell h rfl, blk_cell h rfl⟩
end cells
theorem blk_frozen (h : w.heap[b]? = some (.cells cs t (0, 0))) (i : Nat) : w.frozen? ⟨b, i, none⟩ = false := by
  simp [World.frozen?, h]
theorem blk_new (w : World) (o : Obj) : (w.alloc o).heap[w.heap.size]? = some o := heap_alloc_new w o
theorem blk_alloc {o o' : Obj} (h : w.heap[b]? = some o) : (w.alloc o').heap[b]? = some o := Ext.block ((Ext.refl w).alloc o') h
theorem blk_drew (w : World) : w.drew.heap = w.heap := rfl
theorem blk_set {f : Nat × Nat} (h : w.heap[b]? = some (.cells cs t f)) (i : Nat) (v : Value) : (w.setCell ⟨b, i, none⟩ v).heap[b]? = some (.cells (cs.setIfInBounds i v) t f) := by
  simp [World.setCell, Array.getElem?_modify, h]
theorem blk_set_ne {o : Obj} {p : Addr} (h : w.heap[b]? = some o) (hn : b ≠ p.block) (v : Value) : (w.setCell p v).heap[b]? = some o := by
  rw [Below.heap_setCell _ _ _ _ hn]; exact h
end blocks

section wpat
variable {P : Program} {Q : Exit → Act → World → Prop} {a : Act} {w : World}
/-- The world under a name, with the facts that are wanted of it. -/
theorem wp_at {c : Code} (F : World → Prop) (hw : F w) (h : ∀ W, F W → c.wp P Q a W) : c.wp P Q a w := h w hw
theorem plan_at {ops : Array Oper} {plan : List PS} (F : World → Prop) (hw : F w) (h : ∀ W, F W → wpPlan P ops Q plan a W) : wpPlan P ops Q plan a w := h w hw
theorem plan_done {ops : Array Oper} (h : Q .normal a w) : wpPlan P ops (calm Q) [] a w := h
end wpat

theorem mul_div_self' (a b : Nat) (h : 0 < b) : a * b / b = a := Nat.mul_div_cancel a h

end Go.Proofs.Ytkejjahlglldlaa
