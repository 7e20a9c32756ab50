/- Lemmas. -/
import Derived.Test.YtkhnpmeohjafiaaGreatDoorMA
import Derived.Lib.Hide
import Derived.Test.YtkhnpmeohjafiaaGreatDoorML
import Derived.Test.YtkhnpmeohjafiaaGreatDoorMLexV
import Derived.Test.YtkhnpmeohjafiaaGreatDoorMF
import Derived.Test.YtkhnpmeohjafiaaGreatDoorME
import Derived.Test.YtkhnpmeohjafiaaGreatDoorMQ
import Derived.Laws.Strings2
set_option maxHeartbeats 16000000
set_option maxRecDepth 100000
namespace Go.Proofs.YtkhnpmeohjafiaaGreatDoor
open Go.RowKit
section
variable {a v W v' : World} {S : Nat → Prop}
theorem xE (E : Hid (Ext a v)) (h : Touch (fun _ => False) a v → Touch (fun _ => False) a W := by
  intro h; with_reducible (repeat (first | refine Touch.drew ?_ | refine Touch.alloc ?_ _ | refine Touch.setCell ?_ (fun h => absurd h (by dsimp only; omega)) _)); exact h) : Ext a W :=
 Touch.ext (h (E.out.touch _)) (fun _ _ h => h)
theorem aE (E : Hid (Ext a v)) (hE : Ext W v') (h : Touch (fun _ => False) a v → Touch (fun _ => False) a W := by
  intro h; with_reducible (repeat (first | refine Touch.drew ?_ | refine Touch.alloc ?_ _ | refine Touch.setCell ?_ (fun h => absurd h (by dsimp only; omega)) _)); exact h) : Hid (Ext a v') :=
 Lib.hid ((Touch.ext (h (E.out.touch _)) (fun _ _ h => h)).trans hE)
theorem xT (h : Touch S v v → Touch S v W := by
 intro h; with_reducible (repeat (first | refine Touch.drew ?_ | refine Touch.alloc ?_ _ | refine Touch.setCell ?_ (fun h => by first | exact rfl | exact Or.inl rfl | exact Or.inr (Or.inl rfl) | exact Or.inr (Or.inr (Or.inl rfl)) | exact Or.inr (Or.inr (Or.inr (Or.inl rfl))) | exact Or.inr (Or.inr (Or.inr (Or.inr (Or.inl rfl)))) | exact Or.inr (Or.inr (Or.inr (Or.inr (Or.inr (Or.inl rfl))))) | exact Or.inr (rfl) | exact Or.inr (Or.inr (rfl)) | exact Or.inr (Or.inr (Or.inr (rfl))) | exact Or.inr (Or.inr (Or.inr (Or.inr (rfl)))) | exact Or.inr (Or.inr (Or.inr (Or.inr (Or.inr (rfl))))) | exact Or.inr (Or.inr (Or.inr (Or.inr (Or.inr (Or.inr (rfl)))))) | exact absurd h (by dsimp only; omega)) _)); exact h) : Touch S v W := h (Touch.refl _ _)
theorem aT (hE : Ext W v') (h : Touch S v v → Touch S v W := by
 intro h; with_reducible (repeat (first | refine Touch.drew ?_ | refine Touch.alloc ?_ _ | refine Touch.setCell ?_ (fun h => by first | exact rfl | exact Or.inl rfl | exact Or.inr (Or.inl rfl) | exact Or.inr (Or.inr (Or.inl rfl)) | exact Or.inr (Or.inr (Or.inr (Or.inl rfl))) | exact Or.inr (Or.inr (Or.inr (Or.inr (Or.inl rfl)))) | exact Or.inr (Or.inr (Or.inr (Or.inr (Or.inr (Or.inl rfl))))) | exact Or.inr (rfl) | exact Or.inr (Or.inr (rfl)) | exact Or.inr (Or.inr (Or.inr (rfl))) | exact Or.inr (Or.inr (Or.inr (Or.inr (rfl)))) | exact Or.inr (Or.inr (Or.inr (Or.inr (Or.inr (rfl))))) | exact Or.inr (Or.inr (Or.inr (Or.inr (Or.inr (Or.inr (rfl)))))) | exact absurd h (by dsimp only; omega)) _)); exact h) : Hid (Touch S v v') := Lib.hid ((h (Touch.refl _ _)).trans (hE.touch _))
end
theorem wp_nm {P : Program} {Q : Exit → Act → World → Prop} {c : Code} {a : Act} {w : World} (h : ∀ W, Ext w W → c.wp P Q a W) : c.wp P Q a w := h w (Ext.refl w)
theorem plan_nm {P : Program} {ops : Array Oper} {Q : Exit → Act → World → Prop} {plan : List PS} {a : Act} {w : World} (h : ∀ W, Ext w W → wpPlan P ops Q plan a W) : wpPlan P ops Q plan a w := h w (Ext.refl w)
theorem list_nm {P : Program} {ops : Array Oper} {Q : Exit → Act → World → Prop} {l : List Oper} {a : Act} {w : World} (h : ∀ W, Ext w W → wpList P ops Q l a W) : wpList P ops Q l a w := h w (Ext.refl w)
theorem ne2 {a b : Nat} (h : a ≠ b) : a ≠ b ∧ b ≠ a := ⟨h, h.symm⟩
theorem nst3 (w : World) : (w.heap.size ≠ w.heap.size + 1 ∧ w.heap.size + 1 ≠ w.heap.size) ∧ (w.heap.size ≠ w.heap.size + 1 + 1 ∧ w.heap.size + 1 + 1 ≠ w.heap.size) ∧ w.heap.size + 1 ≠ w.heap.size + 1 + 1 ∧ w.heap.size + 1 + 1 ≠ w.heap.size + 1 := by omega
theorem nst4 (w : World) : ((w.heap.size ≠ w.heap.size + 1 ∧ w.heap.size + 1 ≠ w.heap.size) ∧ (w.heap.size ≠ w.heap.size + 1 + 1 ∧ w.heap.size + 1 + 1 ≠ w.heap.size) ∧ w.heap.size + 1 ≠ w.heap.size + 1 + 1 ∧ w.heap.size + 1 + 1 ≠ w.heap.size + 1) ∧ (w.heap.size ≠ w.heap.size + 1 + 1 + 1 ∧ w.heap.size + 1 + 1 + 1 ≠ w.heap.size) ∧ (w.heap.size + 1 ≠ w.heap.size + 1 + 1 + 1 ∧ w.heap.size + 1 + 1 + 1 ≠ w.heap.size + 1) ∧ w.heap.size + 1 + 1 ≠ w.heap.size + 1 + 1 + 1 ∧ w.heap.size + 1 + 1 + 1 ≠ w.heap.size + 1 + 1 := ⟨nst3 w, by omega⟩
abbrev S2 (w : World) : Nat → Prop := fun b => b = w.heap.size ∨ b = w.heap.size + 1
abbrev S3 (w : World) : Nat → Prop := fun b => b = w.heap.size ∨ b = w.heap.size + 1 ∨ b = w.heap.size + 1 + 1
abbrev S4 (w : World) : Nat → Prop := fun b => b = w.heap.size ∨ b = w.heap.size + 1 ∨ b = w.heap.size + 1 + 1 ∨ b = w.heap.size + 1 + 1 + 1
theorem blk_drw {w : World} {b : Nat} {o : Obj} (h : w.heap[b]? = some o) : w.drew.heap[b]? = some o := h
theorem blk_as {w : World} {n : Nat} {o o' : Obj} (h : n = w.heap.size) (e : o = o') : (w.alloc o).heap[n]? = some o' := by subst h e; exact blk_new w o
theorem blk_cs {w : World} {b : Nat} {cs cs' : Array Value} {t : TypeId} {f : Nat × Nat} (e : cs = cs') (h : w.heap[b]? = some (.cells cs t f)) : w.heap[b]? = some (.cells cs' t f) := by subst e; exact h
theorem far_of {w : World} {b : Nat} (l : b < w.heap.size) : b < w.heap.size + 1 ∧ b < w.heap.size + 2 ∧ b < w.heap.size + 3 ∧ b ≠ w.heap.size ∧ w.heap.size ≠ b ∧ b ≠ w.heap.size + 1 ∧ w.heap.size + 1 ≠ b ∧ b ≠ w.heap.size + 2 ∧ w.heap.size + 2 ≠ b := by omega
section
variable {w w' v W : World} {b : Nat} {t : TypeId} {f : Nat × Nat} {S : Nat → Prop} {v0 u0 : Value}
theorem opn1 (h : Hid (w.heap[b]? = some (.cells #[v0] t (0, 0)))) : (w.cell? ⟨b, 0, none⟩ = some v0) ∧ b < w.heap.size ∧ (b < w.heap.size + 1 ∧ b < w.heap.size + 2 ∧ b < w.heap.size + 3 ∧ b ≠ w.heap.size ∧ w.heap.size ≠ b ∧ b ≠ w.heap.size + 1 ∧ w.heap.size + 1 ≠ b ∧ b ≠ w.heap.size + 2 ∧ w.heap.size + 2 ≠ b) ∧ ∀ k, w.frozen? ⟨b, k, none⟩ = false :=
 have h := h.out
 ⟨blk_cell h rfl, blk_lt h, far_of (blk_lt h), fun k => blk_frozen h k⟩
theorem sb1_0 {y : Value} (e : y = v0) (h : w.heap[b]? = some (.cells #[u0] t f)) : (w.setCell ⟨b, 0, none⟩ y).heap[b]? = some (.cells #[v0] t f) := by
 subst e; have := blk_set h 0 y; simpa using this
theorem xn1 (h : W.heap[b]? = some (.cells #[v0] t f) := by repeat (first | ((with_reducible refine blk_as ?_ ?_); (· simp [size_set]); (· exact rfl)) | with_reducible refine blk_drw ?_ | with_reducible refine blk_alloc ?_ | ((with_reducible apply sb1_0); exact rfl) | with_reducible refine blk_set_ne ?_ (by dsimp only; omega) _)) : W.heap[b]? = some (.cells #[v0] t f) := h
theorem bk1 (B : Hid (v.heap[b]? = some (.cells #[u0] t f))) (hE : Ext W w') (h : v.heap[b]? = some (.cells #[u0] t f) → W.heap[b]? = some (.cells #[v0] t f) := by intro h; repeat (first | with_reducible exact h | ((with_reducible refine blk_cs ?_ h); exact rfl) | with_reducible refine blk_drw ?_ | with_reducible refine blk_alloc ?_ | ((with_reducible apply sb1_0); exact rfl) | with_reducible refine blk_set_ne ?_ (by dsimp only; omega) _)) : Hid (w'.heap[b]? = some (.cells #[v0] t f)) := Lib.hid (hE.block (h B.out))
theorem nk1 (b : Nat) (hE : Ext W w') (h : W.heap[b]? = some (.cells #[v0] t f) := by repeat (first | ((with_reducible refine blk_as ?_ ?_); (· simp [size_set]); (· exact rfl)) | with_reducible refine blk_drw ?_ | with_reducible refine blk_alloc ?_ | ((with_reducible apply sb1_0); exact rfl) | with_reducible refine blk_set_ne ?_ (by dsimp only; omega) _)) : Hid (w'.heap[b]? = some (.cells #[v0] t f)) := Lib.hid (hE.block h)
end
section
variable {w w' v W : World} {b : Nat} {t : TypeId} {f : Nat × Nat} {S : Nat → Prop} {v0 v1 u0 u1 : Value}
theorem opn2 (h : Hid (w.heap[b]? = some (.cells #[v0, v1] t (0, 0)))) : (w.cell? ⟨b, 0, none⟩ = some v0 ∧ w.cell? ⟨b, 1, none⟩ = some v1) ∧ b < w.heap.size ∧ (b < w.heap.size + 1 ∧ b < w.heap.size + 2 ∧ b < w.heap.size + 3 ∧ b ≠ w.heap.size ∧ w.heap.size ≠ b ∧ b ≠ w.heap.size + 1 ∧ w.heap.size + 1 ≠ b ∧ b ≠ w.heap.size + 2 ∧ w.heap.size + 2 ≠ b) ∧ ∀ k, w.frozen? ⟨b, k, none⟩ = false :=
 have h := h.out
 ⟨⟨blk_cell h rfl, blk_cell h rfl⟩, blk_lt h, far_of (blk_lt h), fun k => blk_frozen h k⟩
theorem sb2_0 {y : Value} (e : y = v0) (h : w.heap[b]? = some (.cells #[u0, v1] t f)) : (w.setCell ⟨b, 0, none⟩ y).heap[b]? = some (.cells #[v0, v1] t f) := by
 subst e; have := blk_set h 0 y; simpa using this
theorem sb2_1 {y : Value} (e : y = v1) (h : w.heap[b]? = some (.cells #[v0, u0] t f)) : (w.setCell ⟨b, 1, none⟩ y).heap[b]? = some (.cells #[v0, v1] t f) := by
 subst e; have := blk_set h 1 y; simpa using this
theorem xb2 (B : Hid (v.heap[b]? = some (.cells #[u0, u1] t f))) (h : v.heap[b]? = some (.cells #[u0, u1] t f) → W.heap[b]? = some (.cells #[v0, v1] t f) := by intro h; repeat (first | with_reducible exact h | ((with_reducible refine blk_cs ?_ h); exact rfl) | with_reducible refine blk_drw ?_ | with_reducible refine blk_alloc ?_ | ((with_reducible apply sb2_0); exact rfl) | ((with_reducible apply sb2_1); exact rfl) | with_reducible refine blk_set_ne ?_ (by dsimp only; omega) _)) : W.heap[b]? = some (.cells #[v0, v1] t f) := h B.out
theorem xn2 (h : W.heap[b]? = some (.cells #[v0, v1] t f) := by repeat (first | ((with_reducible refine blk_as ?_ ?_); (· simp [size_set]); (· exact rfl)) | with_reducible refine blk_drw ?_ | with_reducible refine blk_alloc ?_ | ((with_reducible apply sb2_0); exact rfl) | ((with_reducible apply sb2_1); exact rfl) | with_reducible refine blk_set_ne ?_ (by dsimp only; omega) _)) : W.heap[b]? = some (.cells #[v0, v1] t f) := h
theorem bk2 (B : Hid (v.heap[b]? = some (.cells #[u0, u1] t f))) (hE : Ext W w') (h : v.heap[b]? = some (.cells #[u0, u1] t f) → W.heap[b]? = some (.cells #[v0, v1] t f) := by intro h; repeat (first | with_reducible exact h | ((with_reducible refine blk_cs ?_ h); exact rfl) | with_reducible refine blk_drw ?_ | with_reducible refine blk_alloc ?_ | ((with_reducible apply sb2_0); exact rfl) | ((with_reducible apply sb2_1); exact rfl) | with_reducible refine blk_set_ne ?_ (by dsimp only; omega) _)) : Hid (w'.heap[b]? = some (.cells #[v0, v1] t f)) := Lib.hid (hE.block (h B.out))
theorem nk2 (b : Nat) (hE : Ext W w') (h : W.heap[b]? = some (.cells #[v0, v1] t f) := by repeat (first | ((with_reducible refine blk_as ?_ ?_); (· simp [size_set]); (· exact rfl)) | with_reducible refine blk_drw ?_ | with_reducible refine blk_alloc ?_ | ((with_reducible apply sb2_0); exact rfl) | ((with_reducible apply sb2_1); exact rfl) | with_reducible refine blk_set_ne ?_ (by dsimp only; omega) _)) : Hid (w'.heap[b]? = some (.cells #[v0, v1] t f)) := Lib.hid (hE.block h)
theorem tch2 {r : Prop} (he : Touch S w w') (h : (w.cell? ⟨b, 0, none⟩ = some v0 ∧ w.cell? ⟨b, 1, none⟩ = some v1) ∧ r) (hb : ¬ S b) : w'.cell? ⟨b, 0, none⟩ = some v0 ∧ w'.cell? ⟨b, 1, none⟩ = some v1 := by
 obtain ⟨⟨c0, c1⟩, -⟩ := h
 exact ⟨he.cell c0 hb, he.cell c1 hb⟩
end
section
variable {w w' v W : World} {b : Nat} {t : TypeId} {f : Nat × Nat} {S : Nat → Prop} {v0 v1 v2 v3 u0 u1 u2 u3 : Value}
theorem opn4 (h : Hid (w.heap[b]? = some (.cells #[v0, v1, v2, v3] t (0, 0)))) : (w.cell? ⟨b, 0, none⟩ = some v0 ∧ w.cell? ⟨b, 1, none⟩ = some v1 ∧ w.cell? ⟨b, 2, none⟩ = some v2 ∧ w.cell? ⟨b, 3, none⟩ = some v3) ∧ b < w.heap.size ∧ (b < w.heap.size + 1 ∧ b < w.heap.size + 2 ∧ b < w.heap.size + 3 ∧ b ≠ w.heap.size ∧ w.heap.size ≠ b ∧ b ≠ w.heap.size + 1 ∧ w.heap.size + 1 ≠ b ∧ b ≠ w.heap.size + 2 ∧ w.heap.size + 2 ≠ b) ∧ ∀ k, w.frozen? ⟨b, k, none⟩ = false :=
 have h := h.out
 ⟨⟨blk_cell h rfl, blk_cell h rfl, blk_cell h rfl, blk_cell h rfl⟩, blk_lt h, far_of (blk_lt h), fun k => blk_frozen h k⟩
theorem sb4_0 {y : Value} (e : y = v0) (h : w.heap[b]? = some (.cells #[u0, v1, v2, v3] t f)) : (w.setCell ⟨b, 0, none⟩ y).heap[b]? = some (.cells #[v0, v1, v2, v3] t f) := by
 subst e; have := blk_set h 0 y; simpa using this
theorem sb4_1 {y : Value} (e : y = v1) (h : w.heap[b]? = some (.cells #[v0, u0, v2, v3] t f)) : (w.setCell ⟨b, 1, none⟩ y).heap[b]? = some (.cells #[v0, v1, v2, v3] t f) := by
 subst e; have := blk_set h 1 y; simpa using this
theorem sb4_2 {y : Value} (e : y = v2) (h : w.heap[b]? = some (.cells #[v0, v1, u0, v3] t f)) : (w.setCell ⟨b, 2, none⟩ y).heap[b]? = some (.cells #[v0, v1, v2, v3] t f) := by
 subst e; have := blk_set h 2 y; simpa using this
theorem sb4_3 {y : Value} (e : y = v3) (h : w.heap[b]? = some (.cells #[v0, v1, v2, u0] t f)) : (w.setCell ⟨b, 3, none⟩ y).heap[b]? = some (.cells #[v0, v1, v2, v3] t f) := by
 subst e; have := blk_set h 3 y; simpa using this
theorem bk4 (B : Hid (v.heap[b]? = some (.cells #[u0, u1, u2, u3] t f))) (hE : Ext W w') (h : v.heap[b]? = some (.cells #[u0, u1, u2, u3] t f) → W.heap[b]? = some (.cells #[v0, v1, v2, v3] t f) := by intro h; repeat (first | with_reducible exact h | ((with_reducible refine blk_cs ?_ h); exact rfl) | with_reducible refine blk_drw ?_ | with_reducible refine blk_alloc ?_ | ((with_reducible apply sb4_0); exact rfl) | ((with_reducible apply sb4_1); exact rfl) | ((with_reducible apply sb4_2); exact rfl) | ((with_reducible apply sb4_3); exact rfl) | with_reducible refine blk_set_ne ?_ (by dsimp only; omega) _)) : Hid (w'.heap[b]? = some (.cells #[v0, v1, v2, v3] t f)) := Lib.hid (hE.block (h B.out))
theorem nk4 (b : Nat) (hE : Ext W w') (h : W.heap[b]? = some (.cells #[v0, v1, v2, v3] t f) := by repeat (first | ((with_reducible refine blk_as ?_ ?_); (· simp [size_set]); (· exact rfl)) | with_reducible refine blk_drw ?_ | with_reducible refine blk_alloc ?_ | ((with_reducible apply sb4_0); exact rfl) | ((with_reducible apply sb4_1); exact rfl) | ((with_reducible apply sb4_2); exact rfl) | ((with_reducible apply sb4_3); exact rfl) | with_reducible refine blk_set_ne ?_ (by dsimp only; omega) _)) : Hid (w'.heap[b]? = some (.cells #[v0, v1, v2, v3] t f)) := Lib.hid (hE.block h)
theorem tch4 {r : Prop} (he : Touch S w w') (h : (w.cell? ⟨b, 0, none⟩ = some v0 ∧ w.cell? ⟨b, 1, none⟩ = some v1 ∧ w.cell? ⟨b, 2, none⟩ = some v2 ∧ w.cell? ⟨b, 3, none⟩ = some v3) ∧ r) (hb : ¬ S b) : w'.cell? ⟨b, 0, none⟩ = some v0 ∧ w'.cell? ⟨b, 1, none⟩ = some v1 ∧ w'.cell? ⟨b, 2, none⟩ = some v2 ∧ w'.cell? ⟨b, 3, none⟩ = some v3 := by
 obtain ⟨⟨c0, c1, c2, c3⟩, -⟩ := h
 exact ⟨he.cell c0 hb, he.cell c1 hb, he.cell c2 hb, he.cell c3 hb⟩
end
section
variable {w w' v W : World} {b : Nat} {t : TypeId} {f : Nat × Nat} {S : Nat → Prop} {v0 v1 v2 v3 v4 u0 u1 u2 u3 u4 : Value}
theorem opn5 (h : Hid (w.heap[b]? = some (.cells #[v0, v1, v2, v3, v4] t (0, 0)))) : (w.cell? ⟨b, 0, none⟩ = some v0 ∧ w.cell? ⟨b, 1, none⟩ = some v1 ∧ w.cell? ⟨b, 2, none⟩ = some v2 ∧ w.cell? ⟨b, 3, none⟩ = some v3 ∧ w.cell? ⟨b, 4, none⟩ = some v4) ∧ b < w.heap.size ∧ (b < w.heap.size + 1 ∧ b < w.heap.size + 2 ∧ b < w.heap.size + 3 ∧ b ≠ w.heap.size ∧ w.heap.size ≠ b ∧ b ≠ w.heap.size + 1 ∧ w.heap.size + 1 ≠ b ∧ b ≠ w.heap.size + 2 ∧ w.heap.size + 2 ≠ b) ∧ ∀ k, w.frozen? ⟨b, k, none⟩ = false :=
 have h := h.out
 ⟨⟨blk_cell h rfl, blk_cell h rfl, blk_cell h rfl, blk_cell h rfl, blk_cell h rfl⟩, blk_lt h, far_of (blk_lt h), fun k => blk_frozen h k⟩
theorem sb5_0 {y : Value} (e : y = v0) (h : w.heap[b]? = some (.cells #[u0, v1, v2, v3, v4] t f)) : (w.setCell ⟨b, 0, none⟩ y).heap[b]? = some (.cells #[v0, v1, v2, v3, v4] t f) := by
 subst e; have := blk_set h 0 y; simpa using this
theorem sb5_1 {y : Value} (e : y = v1) (h : w.heap[b]? = some (.cells #[v0, u0, v2, v3, v4] t f)) : (w.setCell ⟨b, 1, none⟩ y).heap[b]? = some (.cells #[v0, v1, v2, v3, v4] t f) := by
 subst e; have := blk_set h 1 y; simpa using this
theorem sb5_2 {y : Value} (e : y = v2) (h : w.heap[b]? = some (.cells #[v0, v1, u0, v3, v4] t f)) : (w.setCell ⟨b, 2, none⟩ y).heap[b]? = some (.cells #[v0, v1, v2, v3, v4] t f) := by
 subst e; have := blk_set h 2 y; simpa using this
theorem sb5_3 {y : Value} (e : y = v3) (h : w.heap[b]? = some (.cells #[v0, v1, v2, u0, v4] t f)) : (w.setCell ⟨b, 3, none⟩ y).heap[b]? = some (.cells #[v0, v1, v2, v3, v4] t f) := by
 subst e; have := blk_set h 3 y; simpa using this
theorem sb5_4 {y : Value} (e : y = v4) (h : w.heap[b]? = some (.cells #[v0, v1, v2, v3, u0] t f)) : (w.setCell ⟨b, 4, none⟩ y).heap[b]? = some (.cells #[v0, v1, v2, v3, v4] t f) := by
 subst e; have := blk_set h 4 y; simpa using this
theorem xb5 (B : Hid (v.heap[b]? = some (.cells #[u0, u1, u2, u3, u4] t f))) (h : v.heap[b]? = some (.cells #[u0, u1, u2, u3, u4] t f) → W.heap[b]? = some (.cells #[v0, v1, v2, v3, v4] t f) := by intro h; repeat (first | with_reducible exact h | ((with_reducible refine blk_cs ?_ h); exact rfl) | with_reducible refine blk_drw ?_ | with_reducible refine blk_alloc ?_ | ((with_reducible apply sb5_0); exact rfl) | ((with_reducible apply sb5_1); exact rfl) | ((with_reducible apply sb5_2); exact rfl) | ((with_reducible apply sb5_3); exact rfl) | ((with_reducible apply sb5_4); exact rfl) | with_reducible refine blk_set_ne ?_ (by dsimp only; omega) _)) : W.heap[b]? = some (.cells #[v0, v1, v2, v3, v4] t f) := h B.out
theorem xn5 (h : W.heap[b]? = some (.cells #[v0, v1, v2, v3, v4] t f) := by repeat (first | ((with_reducible refine blk_as ?_ ?_); (· simp [size_set]); (· exact rfl)) | with_reducible refine blk_drw ?_ | with_reducible refine blk_alloc ?_ | ((with_reducible apply sb5_0); exact rfl) | ((with_reducible apply sb5_1); exact rfl) | ((with_reducible apply sb5_2); exact rfl) | ((with_reducible apply sb5_3); exact rfl) | ((with_reducible apply sb5_4); exact rfl) | with_reducible refine blk_set_ne ?_ (by dsimp only; omega) _)) : W.heap[b]? = some (.cells #[v0, v1, v2, v3, v4] t f) := h
theorem bk5 (B : Hid (v.heap[b]? = some (.cells #[u0, u1, u2, u3, u4] t f))) (hE : Ext W w') (h : v.heap[b]? = some (.cells #[u0, u1, u2, u3, u4] t f) → W.heap[b]? = some (.cells #[v0, v1, v2, v3, v4] t f) := by intro h; repeat (first | with_reducible exact h | ((with_reducible refine blk_cs ?_ h); exact rfl) | with_reducible refine blk_drw ?_ | with_reducible refine blk_alloc ?_ | ((with_reducible apply sb5_0); exact rfl) | ((with_reducible apply sb5_1); exact rfl) | ((with_reducible apply sb5_2); exact rfl) | ((with_reducible apply sb5_3); exact rfl) | ((with_reducible apply sb5_4); exact rfl) | with_reducible refine blk_set_ne ?_ (by dsimp only; omega) _)) : Hid (w'.heap[b]? = some (.cells #[v0, v1, v2, v3, v4] t f)) := Lib.hid (hE.block (h B.out))
theorem nk5 (b : Nat) (hE : Ext W w') (h : W.heap[b]? = some (.cells #[v0, v1, v2, v3, v4] t f) := by repeat (first | ((with_reducible refine blk_as ?_ ?_); (· simp [size_set]); (· exact rfl)) | with_reducible refine blk_drw ?_ | with_reducible refine blk_alloc ?_ | ((with_reducible apply sb5_0); exact rfl) | ((with_reducible apply sb5_1); exact rfl) | ((with_reducible apply sb5_2); exact rfl) | ((with_reducible apply sb5_3); exact rfl) | ((with_reducible apply sb5_4); exact rfl) | with_reducible refine blk_set_ne ?_ (by dsimp only; omega) _)) : Hid (w'.heap[b]? = some (.cells #[v0, v1, v2, v3, v4] t f)) := Lib.hid (hE.block h)
theorem tch5 {r : Prop} (he : Touch S w w') (h : (w.cell? ⟨b, 0, none⟩ = some v0 ∧ w.cell? ⟨b, 1, none⟩ = some v1 ∧ w.cell? ⟨b, 2, none⟩ = some v2 ∧ w.cell? ⟨b, 3, none⟩ = some v3 ∧ w.cell? ⟨b, 4, none⟩ = some v4) ∧ r) (hb : ¬ S b) : w'.cell? ⟨b, 0, none⟩ = some v0 ∧ w'.cell? ⟨b, 1, none⟩ = some v1 ∧ w'.cell? ⟨b, 2, none⟩ = some v2 ∧ w'.cell? ⟨b, 3, none⟩ = some v3 ∧ w'.cell? ⟨b, 4, none⟩ = some v4 := by
 obtain ⟨⟨c0, c1, c2, c3, c4⟩, -⟩ := h
 exact ⟨he.cell c0 hb, he.cell c1 hb, he.cell c2 hb, he.cell c3 hb, he.cell c4 hb⟩
end
section
variable {w w' v W : World} {b : Nat} {t : TypeId} {f : Nat × Nat} {S : Nat → Prop} {v0 v1 v2 v3 v4 v5 u0 u1 u2 u3 u4 u5 : Value}
theorem opn6 (h : Hid (w.heap[b]? = some (.cells #[v0, v1, v2, v3, v4, v5] t (0, 0)))) : (w.cell? ⟨b, 0, none⟩ = some v0 ∧ w.cell? ⟨b, 1, none⟩ = some v1 ∧ w.cell? ⟨b, 2, none⟩ = some v2 ∧ w.cell? ⟨b, 3, none⟩ = some v3 ∧ w.cell? ⟨b, 4, none⟩ = some v4 ∧ w.cell? ⟨b, 5, none⟩ = some v5) ∧ b < w.heap.size ∧ (b < w.heap.size + 1 ∧ b < w.heap.size + 2 ∧ b < w.heap.size + 3 ∧ b ≠ w.heap.size ∧ w.heap.size ≠ b ∧ b ≠ w.heap.size + 1 ∧ w.heap.size + 1 ≠ b ∧ b ≠ w.heap.size + 2 ∧ w.heap.size + 2 ≠ b) ∧ ∀ k, w.frozen? ⟨b, k, none⟩ = false :=
 have h := h.out
 ⟨⟨blk_cell h rfl, blk_cell h rfl, blk_cell h rfl, blk_cell h rfl, blk_cell h rfl, blk_cell h rfl⟩, blk_lt h, far_of (blk_lt h), fun k => blk_frozen h k⟩
theorem sb6_0 {y : Value} (e : y = v0) (h : w.heap[b]? = some (.cells #[u0, v1, v2, v3, v4, v5] t f)) : (w.setCell ⟨b, 0, none⟩ y).heap[b]? = some (.cells #[v0, v1, v2, v3, v4, v5] t f) := by
 subst e; have := blk_set h 0 y; simpa using this
theorem sb6_1 {y : Value} (e : y = v1) (h : w.heap[b]? = some (.cells #[v0, u0, v2, v3, v4, v5] t f)) : (w.setCell ⟨b, 1, none⟩ y).heap[b]? = some (.cells #[v0, v1, v2, v3, v4, v5] t f) := by
 subst e; have := blk_set h 1 y; simpa using this
theorem sb6_2 {y : Value} (e : y = v2) (h : w.heap[b]? = some (.cells #[v0, v1, u0, v3, v4, v5] t f)) : (w.setCell ⟨b, 2, none⟩ y).heap[b]? = some (.cells #[v0, v1, v2, v3, v4, v5] t f) := by
 subst e; have := blk_set h 2 y; simpa using this
theorem sb6_3 {y : Value} (e : y = v3) (h : w.heap[b]? = some (.cells #[v0, v1, v2, u0, v4, v5] t f)) : (w.setCell ⟨b, 3, none⟩ y).heap[b]? = some (.cells #[v0, v1, v2, v3, v4, v5] t f) := by
 subst e; have := blk_set h 3 y; simpa using this
theorem sb6_4 {y : Value} (e : y = v4) (h : w.heap[b]? = some (.cells #[v0, v1, v2, v3, u0, v5] t f)) : (w.setCell ⟨b, 4, none⟩ y).heap[b]? = some (.cells #[v0, v1, v2, v3, v4, v5] t f) := by
 subst e; have := blk_set h 4 y; simpa using this
theorem sb6_5 {y : Value} (e : y = v5) (h : w.heap[b]? = some (.cells #[v0, v1, v2, v3, v4, u0] t f)) : (w.setCell ⟨b, 5, none⟩ y).heap[b]? = some (.cells #[v0, v1, v2, v3, v4, v5] t f) := by
 subst e; have := blk_set h 5 y; simpa using this
theorem xb6 (B : Hid (v.heap[b]? = some (.cells #[u0, u1, u2, u3, u4, u5] t f))) (h : v.heap[b]? = some (.cells #[u0, u1, u2, u3, u4, u5] t f) → W.heap[b]? = some (.cells #[v0, v1, v2, v3, v4, v5] t f) := by intro h; repeat (first | with_reducible exact h | ((with_reducible refine blk_cs ?_ h); exact rfl) | with_reducible refine blk_drw ?_ | with_reducible refine blk_alloc ?_ | ((with_reducible apply sb6_0); exact rfl) | ((with_reducible apply sb6_1); exact rfl) | ((with_reducible apply sb6_2); exact rfl) | ((with_reducible apply sb6_3); exact rfl) | ((with_reducible apply sb6_4); exact rfl) | ((with_reducible apply sb6_5); exact rfl) | with_reducible refine blk_set_ne ?_ (by dsimp only; omega) _)) : W.heap[b]? = some (.cells #[v0, v1, v2, v3, v4, v5] t f) := h B.out
theorem bk6 (B : Hid (v.heap[b]? = some (.cells #[u0, u1, u2, u3, u4, u5] t f))) (hE : Ext W w') (h : v.heap[b]? = some (.cells #[u0, u1, u2, u3, u4, u5] t f) → W.heap[b]? = some (.cells #[v0, v1, v2, v3, v4, v5] t f) := by intro h; repeat (first | with_reducible exact h | ((with_reducible refine blk_cs ?_ h); exact rfl) | with_reducible refine blk_drw ?_ | with_reducible refine blk_alloc ?_ | ((with_reducible apply sb6_0); exact rfl) | ((with_reducible apply sb6_1); exact rfl) | ((with_reducible apply sb6_2); exact rfl) | ((with_reducible apply sb6_3); exact rfl) | ((with_reducible apply sb6_4); exact rfl) | ((with_reducible apply sb6_5); exact rfl) | with_reducible refine blk_set_ne ?_ (by dsimp only; omega) _)) : Hid (w'.heap[b]? = some (.cells #[v0, v1, v2, v3, v4, v5] t f)) := Lib.hid (hE.block (h B.out))
theorem nk6 (b : Nat) (hE : Ext W w') (h : W.heap[b]? = some (.cells #[v0, v1, v2, v3, v4, v5] t f) := by repeat (first | ((with_reducible refine blk_as ?_ ?_); (· simp [size_set]); (· exact rfl)) | with_reducible refine blk_drw ?_ | with_reducible refine blk_alloc ?_ | ((with_reducible apply sb6_0); exact rfl) | ((with_reducible apply sb6_1); exact rfl) | ((with_reducible apply sb6_2); exact rfl) | ((with_reducible apply sb6_3); exact rfl) | ((with_reducible apply sb6_4); exact rfl) | ((with_reducible apply sb6_5); exact rfl) | with_reducible refine blk_set_ne ?_ (by dsimp only; omega) _)) : Hid (w'.heap[b]? = some (.cells #[v0, v1, v2, v3, v4, v5] t f)) := Lib.hid (hE.block h)
theorem tch6 {r : Prop} (he : Touch S w w') (h : (w.cell? ⟨b, 0, none⟩ = some v0 ∧ w.cell? ⟨b, 1, none⟩ = some v1 ∧ w.cell? ⟨b, 2, none⟩ = some v2 ∧ w.cell? ⟨b, 3, none⟩ = some v3 ∧ w.cell? ⟨b, 4, none⟩ = some v4 ∧ w.cell? ⟨b, 5, none⟩ = some v5) ∧ r) (hb : ¬ S b) : w'.cell? ⟨b, 0, none⟩ = some v0 ∧ w'.cell? ⟨b, 1, none⟩ = some v1 ∧ w'.cell? ⟨b, 2, none⟩ = some v2 ∧ w'.cell? ⟨b, 3, none⟩ = some v3 ∧ w'.cell? ⟨b, 4, none⟩ = some v4 ∧ w'.cell? ⟨b, 5, none⟩ = some v5 := by
 obtain ⟨⟨c0, c1, c2, c3, c4, c5⟩, -⟩ := h
 exact ⟨he.cell c0 hb, he.cell c1 hb, he.cell c2 hb, he.cell c3 hb, he.cell c4 hb, he.cell c5 hb⟩
end
section
variable {w w' v W : World} {b : Nat} {t : TypeId} {f : Nat × Nat} {S : Nat → Prop} {v0 v1 v2 v3 v4 v5 v6 u0 u1 u2 u3 u4 u5 u6 : Value}
theorem opn7 (h : Hid (w.heap[b]? = some (.cells #[v0, v1, v2, v3, v4, v5, v6] t (0, 0)))) : (w.cell? ⟨b, 0, none⟩ = some v0 ∧ w.cell? ⟨b, 1, none⟩ = some v1 ∧ w.cell? ⟨b, 2, none⟩ = some v2 ∧ w.cell? ⟨b, 3, none⟩ = some v3 ∧ w.cell? ⟨b, 4, none⟩ = some v4 ∧ w.cell? ⟨b, 5, none⟩ = some v5 ∧ w.cell? ⟨b, 6, none⟩ = some v6) ∧ b < w.heap.size ∧ (b < w.heap.size + 1 ∧ b < w.heap.size + 2 ∧ b < w.heap.size + 3 ∧ b ≠ w.heap.size ∧ w.heap.size ≠ b ∧ b ≠ w.heap.size + 1 ∧ w.heap.size + 1 ≠ b ∧ b ≠ w.heap.size + 2 ∧ w.heap.size + 2 ≠ b) ∧ ∀ k, w.frozen? ⟨b, k, none⟩ = false :=
 have h := h.out
 ⟨⟨blk_cell h rfl, blk_cell h rfl, blk_cell h rfl, blk_cell h rfl, blk_cell h rfl, blk_cell h rfl, blk_cell h rfl⟩, blk_lt h, far_of (blk_lt h), fun k => blk_frozen h k⟩
theorem sb7_0 {y : Value} (e : y = v0) (h : w.heap[b]? = some (.cells #[u0, v1, v2, v3, v4, v5, v6] t f)) : (w.setCell ⟨b, 0, none⟩ y).heap[b]? = some (.cells #[v0, v1, v2, v3, v4, v5, v6] t f) := by
 subst e; have := blk_set h 0 y; simpa using this
theorem sb7_1 {y : Value} (e : y = v1) (h : w.heap[b]? = some (.cells #[v0, u0, v2, v3, v4, v5, v6] t f)) : (w.setCell ⟨b, 1, none⟩ y).heap[b]? = some (.cells #[v0, v1, v2, v3, v4, v5, v6] t f) := by
 subst e; have := blk_set h 1 y; simpa using this
theorem sb7_2 {y : Value} (e : y = v2) (h : w.heap[b]? = some (.cells #[v0, v1, u0, v3, v4, v5, v6] t f)) : (w.setCell ⟨b, 2, none⟩ y).heap[b]? = some (.cells #[v0, v1, v2, v3, v4, v5, v6] t f) := by
 subst e; have := blk_set h 2 y; simpa using this
theorem sb7_3 {y : Value} (e : y = v3) (h : w.heap[b]? = some (.cells #[v0, v1, v2, u0, v4, v5, v6] t f)) : (w.setCell ⟨b, 3, none⟩ y).heap[b]? = some (.cells #[v0, v1, v2, v3, v4, v5, v6] t f) := by
 subst e; have := blk_set h 3 y; simpa using this
theorem sb7_4 {y : Value} (e : y = v4) (h : w.heap[b]? = some (.cells #[v0, v1, v2, v3, u0, v5, v6] t f)) : (w.setCell ⟨b, 4, none⟩ y).heap[b]? = some (.cells #[v0, v1, v2, v3, v4, v5, v6] t f) := by
 subst e; have := blk_set h 4 y; simpa using this
theorem sb7_5 {y : Value} (e : y = v5) (h : w.heap[b]? = some (.cells #[v0, v1, v2, v3, v4, u0, v6] t f)) : (w.setCell ⟨b, 5, none⟩ y).heap[b]? = some (.cells #[v0, v1, v2, v3, v4, v5, v6] t f) := by
 subst e; have := blk_set h 5 y; simpa using this
theorem sb7_6 {y : Value} (e : y = v6) (h : w.heap[b]? = some (.cells #[v0, v1, v2, v3, v4, v5, u0] t f)) : (w.setCell ⟨b, 6, none⟩ y).heap[b]? = some (.cells #[v0, v1, v2, v3, v4, v5, v6] t f) := by
 subst e; have := blk_set h 6 y; simpa using this
theorem xb7 (B : Hid (v.heap[b]? = some (.cells #[u0, u1, u2, u3, u4, u5, u6] t f))) (h : v.heap[b]? = some (.cells #[u0, u1, u2, u3, u4, u5, u6] t f) → W.heap[b]? = some (.cells #[v0, v1, v2, v3, v4, v5, v6] t f) := by intro h; repeat (first | with_reducible exact h | ((with_reducible refine blk_cs ?_ h); exact rfl) | with_reducible refine blk_drw ?_ | with_reducible refine blk_alloc ?_ | ((with_reducible apply sb7_0); exact rfl) | ((with_reducible apply sb7_1); exact rfl) | ((with_reducible apply sb7_2); exact rfl) | ((with_reducible apply sb7_3); exact rfl) | ((with_reducible apply sb7_4); exact rfl) | ((with_reducible apply sb7_5); exact rfl) | ((with_reducible apply sb7_6); exact rfl) | with_reducible refine blk_set_ne ?_ (by dsimp only; omega) _)) : W.heap[b]? = some (.cells #[v0, v1, v2, v3, v4, v5, v6] t f) := h B.out
theorem bk7 (B : Hid (v.heap[b]? = some (.cells #[u0, u1, u2, u3, u4, u5, u6] t f))) (hE : Ext W w') (h : v.heap[b]? = some (.cells #[u0, u1, u2, u3, u4, u5, u6] t f) → W.heap[b]? = some (.cells #[v0, v1, v2, v3, v4, v5, v6] t f) := by intro h; repeat (first | with_reducible exact h | ((with_reducible refine blk_cs ?_ h); exact rfl) | with_reducible refine blk_drw ?_ | with_reducible refine blk_alloc ?_ | ((with_reducible apply sb7_0); exact rfl) | ((with_reducible apply sb7_1); exact rfl) | ((with_reducible apply sb7_2); exact rfl) | ((with_reducible apply sb7_3); exact rfl) | ((with_reducible apply sb7_4); exact rfl) | ((with_reducible apply sb7_5); exact rfl) | ((with_reducible apply sb7_6); exact rfl) | with_reducible refine blk_set_ne ?_ (by dsimp only; omega) _)) : Hid (w'.heap[b]? = some (.cells #[v0, v1, v2, v3, v4, v5, v6] t f)) := Lib.hid (hE.block (h B.out))
theorem nk7 (b : Nat) (hE : Ext W w') (h : W.heap[b]? = some (.cells #[v0, v1, v2, v3, v4, v5, v6] t f) := by repeat (first | ((with_reducible refine blk_as ?_ ?_); (· simp [size_set]); (· exact rfl)) | with_reducible refine blk_drw ?_ | with_reducible refine blk_alloc ?_ | ((with_reducible apply sb7_0); exact rfl) | ((with_reducible apply sb7_1); exact rfl) | ((with_reducible apply sb7_2); exact rfl) | ((with_reducible apply sb7_3); exact rfl) | ((with_reducible apply sb7_4); exact rfl) | ((with_reducible apply sb7_5); exact rfl) | ((with_reducible apply sb7_6); exact rfl) | with_reducible refine blk_set_ne ?_ (by dsimp only; omega) _)) : Hid (w'.heap[b]? = some (.cells #[v0, v1, v2, v3, v4, v5, v6] t f)) := Lib.hid (hE.block h)
theorem tch7 {r : Prop} (he : Touch S w w') (h : (w.cell? ⟨b, 0, none⟩ = some v0 ∧ w.cell? ⟨b, 1, none⟩ = some v1 ∧ w.cell? ⟨b, 2, none⟩ = some v2 ∧ w.cell? ⟨b, 3, none⟩ = some v3 ∧ w.cell? ⟨b, 4, none⟩ = some v4 ∧ w.cell? ⟨b, 5, none⟩ = some v5 ∧ w.cell? ⟨b, 6, none⟩ = some v6) ∧ r) (hb : ¬ S b) : w'.cell? ⟨b, 0, none⟩ = some v0 ∧ w'.cell? ⟨b, 1, none⟩ = some v1 ∧ w'.cell? ⟨b, 2, none⟩ = some v2 ∧ w'.cell? ⟨b, 3, none⟩ = some v3 ∧ w'.cell? ⟨b, 4, none⟩ = some v4 ∧ w'.cell? ⟨b, 5, none⟩ = some v5 ∧ w'.cell? ⟨b, 6, none⟩ = some v6 := by
 obtain ⟨⟨c0, c1, c2, c3, c4, c5, c6⟩, -⟩ := h
 exact ⟨he.cell c0 hb, he.cell c1 hb, he.cell c2 hb, he.cell c3 hb, he.cell c4 hb, he.cell c5 hb, he.cell c6 hb⟩
end
section
variable {w w' v W : World} {b : Nat} {t : TypeId} {f : Nat × Nat} {S : Nat → Prop} {v0 v1 v2 v3 v4 v5 v6 v7 v8 v9 v10 v11 v12 v13 u0 u1 u2 u3 u4 u5 u6 u7 u8 u9 u10 u11 u12 u13 : Value}
theorem opn14 (h : Hid (w.heap[b]? = some (.cells #[v0, v1, v2, v3, v4, v5, v6, v7, v8, v9, v10, v11, v12, v13] t (0, 0)))) : (w.cell? ⟨b, 0, none⟩ = some v0 ∧ w.cell? ⟨b, 1, none⟩ = some v1 ∧ w.cell? ⟨b, 2, none⟩ = some v2 ∧ w.cell? ⟨b, 3, none⟩ = some v3 ∧ w.cell? ⟨b, 4, none⟩ = some v4 ∧ w.cell? ⟨b, 5, none⟩ = some v5 ∧ w.cell? ⟨b, 6, none⟩ = some v6 ∧ w.cell? ⟨b, 7, none⟩ = some v7 ∧ w.cell? ⟨b, 8, none⟩ = some v8 ∧ w.cell? ⟨b, 9, none⟩ = some v9 ∧ w.cell? ⟨b, 10, none⟩ = some v10 ∧ w.cell? ⟨b, 11, none⟩ = some v11 ∧ w.cell? ⟨b, 12, none⟩ = some v12 ∧ w.cell? ⟨b, 13, none⟩ = some v13) ∧ b < w.heap.size ∧ (b < w.heap.size + 1 ∧ b < w.heap.size + 2 ∧ b < w.heap.size + 3 ∧ b ≠ w.heap.size ∧ w.heap.size ≠ b ∧ b ≠ w.heap.size + 1 ∧ w.heap.size + 1 ≠ b ∧ b ≠ w.heap.size + 2 ∧ w.heap.size + 2 ≠ b) ∧ ∀ k, w.frozen? ⟨b, k, none⟩ = false :=
 have h := h.out
 ⟨⟨blk_cell h rfl, blk_cell h rfl, blk_cell h rfl, blk_cell h rfl, blk_cell h rfl, blk_cell h rfl, blk_cell h rfl, blk_cell h rfl, blk_cell h rfl, blk_cell h rfl, blk_cell h rfl, blk_cell h rfl, blk_cell h rfl, blk_cell h rfl⟩, blk_lt h, far_of (blk_lt h), fun k => blk_frozen h k⟩
theorem sb14_0 {y : Value} (e : y = v0) (h : w.heap[b]? = some (.cells #[u0, v1, v2, v3, v4, v5, v6, v7, v8, v9, v10, v11, v12, v13] t f)) : (w.setCell ⟨b, 0, none⟩ y).heap[b]? = some (.cells #[v0, v1, v2, v3, v4, v5, v6, v7, v8, v9, v10, v11, v12, v13] t f) := by
 subst e; have := blk_set h 0 y; simpa using this
theorem sb14_1 {y : Value} (e : y = v1) (h : w.heap[b]? = some (.cells #[v0, u0, v2, v3, v4, v5, v6, v7, v8, v9, v10, v11, v12, v13] t f)) : (w.setCell ⟨b, 1, none⟩ y).heap[b]? = some (.cells #[v0, v1, v2, v3, v4, v5, v6, v7, v8, v9, v10, v11, v12, v13] t f) := by
 subst e; have := blk_set h 1 y; simpa using this
theorem sb14_2 {y : Value} (e : y = v2) (h : w.heap[b]? = some (.cells #[v0, v1, u0, v3, v4, v5, v6, v7, v8, v9, v10, v11, v12, v13] t f)) : (w.setCell ⟨b, 2, none⟩ y).heap[b]? = some (.cells #[v0, v1, v2, v3, v4, v5, v6, v7, v8, v9, v10, v11, v12, v13] t f) := by
 subst e; have := blk_set h 2 y; simpa using this
theorem sb14_3 {y : Value} (e : y = v3) (h : w.heap[b]? = some (.cells #[v0, v1, v2, u0, v4, v5, v6, v7, v8, v9, v10, v11, v12, v13] t f)) : (w.setCell ⟨b, 3, none⟩ y).heap[b]? = some (.cells #[v0, v1, v2, v3, v4, v5, v6, v7, v8, v9, v10, v11, v12, v13] t f) := by
 subst e; have := blk_set h 3 y; simpa using this
theorem sb14_4 {y : Value} (e : y = v4) (h : w.heap[b]? = some (.cells #[v0, v1, v2, v3, u0, v5, v6, v7, v8, v9, v10, v11, v12, v13] t f)) : (w.setCell ⟨b, 4, none⟩ y).heap[b]? = some (.cells #[v0, v1, v2, v3, v4, v5, v6, v7, v8, v9, v10, v11, v12, v13] t f) := by
 subst e; have := blk_set h 4 y; simpa using this
theorem sb14_5 {y : Value} (e : y = v5) (h : w.heap[b]? = some (.cells #[v0, v1, v2, v3, v4, u0, v6, v7, v8, v9, v10, v11, v12, v13] t f)) : (w.setCell ⟨b, 5, none⟩ y).heap[b]? = some (.cells #[v0, v1, v2, v3, v4, v5, v6, v7, v8, v9, v10, v11, v12, v13] t f) := by
 subst e; have := blk_set h 5 y; simpa using this
theorem sb14_6 {y : Value} (e : y = v6) (h : w.heap[b]? = some (.cells #[v0, v1, v2, v3, v4, v5, u0, v7, v8, v9, v10, v11, v12, v13] t f)) : (w.setCell ⟨b, 6, none⟩ y).heap[b]? = some (.cells #[v0, v1, v2, v3, v4, v5, v6, v7, v8, v9, v10, v11, v12, v13] t f) := by
 subst e; have := blk_set h 6 y; simpa using this
theorem sb14_7 {y : Value} (e : y = v7) (h : w.heap[b]? = some (.cells #[v0, v1, v2, v3, v4, v5, v6, u0, v8, v9, v10, v11, v12, v13] t f)) : (w.setCell ⟨b, 7, none⟩ y).heap[b]? = some (.cells #[v0, v1, v2, v3, v4, v5, v6, v7, v8, v9, v10, v11, v12, v13] t f) := by
 subst e; have := blk_set h 7 y; simpa using this
theorem sb14_8 {y : Value} (e : y = v8) (h : w.heap[b]? = some (.cells #[v0, v1, v2, v3, v4, v5, v6, v7, u0, v9, v10, v11, v12, v13] t f)) : (w.setCell ⟨b, 8, none⟩ y).heap[b]? = some (.cells #[v0, v1, v2, v3, v4, v5, v6, v7, v8, v9, v10, v11, v12, v13] t f) := by
 subst e; have := blk_set h 8 y; simpa using this
theorem sb14_9 {y : Value} (e : y = v9) (h : w.heap[b]? = some (.cells #[v0, v1, v2, v3, v4, v5, v6, v7, v8, u0, v10, v11, v12, v13] t f)) : (w.setCell ⟨b, 9, none⟩ y).heap[b]? = some (.cells #[v0, v1, v2, v3, v4, v5, v6, v7, v8, v9, v10, v11, v12, v13] t f) := by
 subst e; have := blk_set h 9 y; simpa using this
theorem sb14_10 {y : Value} (e : y = v10) (h : w.heap[b]? = some (.cells #[v0, v1, v2, v3, v4, v5, v6, v7, v8, v9, u0, v11, v12, v13] t f)) : (w.setCell ⟨b, 10, none⟩ y).heap[b]? = some (.cells #[v0, v1, v2, v3, v4, v5, v6, v7, v8, v9, v10, v11, v12, v13] t f) := by
 subst e; have := blk_set h 10 y; simpa using this
theorem sb14_11 {y : Value} (e : y = v11) (h : w.heap[b]? = some (.cells #[v0, v1, v2, v3, v4, v5, v6, v7, v8, v9, v10, u0, v12, v13] t f)) : (w.setCell ⟨b, 11, none⟩ y).heap[b]? = some (.cells #[v0, v1, v2, v3, v4, v5, v6, v7, v8, v9, v10, v11, v12, v13] t f) := by
 subst e; have := blk_set h 11 y; simpa using this
theorem sb14_12 {y : Value} (e : y = v12) (h : w.heap[b]? = some (.cells #[v0, v1, v2, v3, v4, v5, v6, v7, v8, v9, v10, v11, u0, v13] t f)) : (w.setCell ⟨b, 12, none⟩ y).heap[b]? = some (.cells #[v0, v1, v2, v3, v4, v5, v6, v7, v8, v9, v10, v11, v12, v13] t f) := by
 subst e; have := blk_set h 12 y; simpa using this
theorem sb14_13 {y : Value} (e : y = v13) (h : w.heap[b]? = some (.cells #[v0, v1, v2, v3, v4, v5, v6, v7, v8, v9, v10, v11, v12, u0] t f)) : (w.setCell ⟨b, 13, none⟩ y).heap[b]? = some (.cells #[v0, v1, v2, v3, v4, v5, v6, v7, v8, v9, v10, v11, v12, v13] t f) := by
 subst e; have := blk_set h 13 y; simpa using this
theorem xb14 (B : Hid (v.heap[b]? = some (.cells #[u0, u1, u2, u3, u4, u5, u6, u7, u8, u9, u10, u11, u12, u13] t f))) (h : v.heap[b]? = some (.cells #[u0, u1, u2, u3, u4, u5, u6, u7, u8, u9, u10, u11, u12, u13] t f) → W.heap[b]? = some (.cells #[v0, v1, v2, v3, v4, v5, v6, v7, v8, v9, v10, v11, v12, v13] t f) := by intro h; repeat (first | with_reducible exact h | ((with_reducible refine blk_cs ?_ h); exact rfl) | with_reducible refine blk_drw ?_ | with_reducible refine blk_alloc ?_ | ((with_reducible apply sb14_0); exact rfl) | ((with_reducible apply sb14_1); exact rfl) | ((with_reducible apply sb14_2); exact rfl) | ((with_reducible apply sb14_3); exact rfl) | ((with_reducible apply sb14_4); exact rfl) | ((with_reducible apply sb14_5); exact rfl) | ((with_reducible apply sb14_6); exact rfl) | ((with_reducible apply sb14_7); exact rfl) | ((with_reducible apply sb14_8); exact rfl) | ((with_reducible apply sb14_9); exact rfl) | ((with_reducible apply sb14_10); exact rfl) | ((with_reducible apply sb14_11); exact rfl) | ((with_reducible apply sb14_12); exact rfl) | ((with_reducible apply sb14_13); exact rfl) | with_reducible refine blk_set_ne ?_ (by dsimp only; omega) _)) : W.heap[b]? = some (.cells #[v0, v1, v2, v3, v4, v5, v6, v7, v8, v9, v10, v11, v12, v13] t f) := h B.out
theorem bk14 (B : Hid (v.heap[b]? = some (.cells #[u0, u1, u2, u3, u4, u5, u6, u7, u8, u9, u10, u11, u12, u13] t f))) (hE : Ext W w') (h : v.heap[b]? = some (.cells #[u0, u1, u2, u3, u4, u5, u6, u7, u8, u9, u10, u11, u12, u13] t f) → W.heap[b]? = some (.cells #[v0, v1, v2, v3, v4, v5, v6, v7, v8, v9, v10, v11, v12, v13] t f) := by intro h; repeat (first | with_reducible exact h | ((with_reducible refine blk_cs ?_ h); exact rfl) | with_reducible refine blk_drw ?_ | with_reducible refine blk_alloc ?_ | ((with_reducible apply sb14_0); exact rfl) | ((with_reducible apply sb14_1); exact rfl) | ((with_reducible apply sb14_2); exact rfl) | ((with_reducible apply sb14_3); exact rfl) | ((with_reducible apply sb14_4); exact rfl) | ((with_reducible apply sb14_5); exact rfl) | ((with_reducible apply sb14_6); exact rfl) | ((with_reducible apply sb14_7); exact rfl) | ((with_reducible apply sb14_8); exact rfl) | ((with_reducible apply sb14_9); exact rfl) | ((with_reducible apply sb14_10); exact rfl) | ((with_reducible apply sb14_11); exact rfl) | ((with_reducible apply sb14_12); exact rfl) | ((with_reducible apply sb14_13); exact rfl) | with_reducible refine blk_set_ne ?_ (by dsimp only; omega) _)) : Hid (w'.heap[b]? = some (.cells #[v0, v1, v2, v3, v4, v5, v6, v7, v8, v9, v10, v11, v12, v13] t f)) := Lib.hid (hE.block (h B.out))
theorem nk14 (b : Nat) (hE : Ext W w') (h : W.heap[b]? = some (.cells #[v0, v1, v2, v3, v4, v5, v6, v7, v8, v9, v10, v11, v12, v13] t f) := by repeat (first | ((with_reducible refine blk_as ?_ ?_); (· simp [size_set]); (· exact rfl)) | with_reducible refine blk_drw ?_ | with_reducible refine blk_alloc ?_ | ((with_reducible apply sb14_0); exact rfl) | ((with_reducible apply sb14_1); exact rfl) | ((with_reducible apply sb14_2); exact rfl) | ((with_reducible apply sb14_3); exact rfl) | ((with_reducible apply sb14_4); exact rfl) | ((with_reducible apply sb14_5); exact rfl) | ((with_reducible apply sb14_6); exact rfl) | ((with_reducible apply sb14_7); exact rfl) | ((with_reducible apply sb14_8); exact rfl) | ((with_reducible apply sb14_9); exact rfl) | ((with_reducible apply sb14_10); exact rfl) | ((with_reducible apply sb14_11); exact rfl) | ((with_reducible apply sb14_12); exact rfl) | ((with_reducible apply sb14_13); exact rfl) | with_reducible refine blk_set_ne ?_ (by dsimp only; omega) _)) : Hid (w'.heap[b]? = some (.cells #[v0, v1, v2, v3, v4, v5, v6, v7, v8, v9, v10, v11, v12, v13] t f)) := Lib.hid (hE.block h)
theorem tch14 {r : Prop} (he : Touch S w w') (h : (w.cell? ⟨b, 0, none⟩ = some v0 ∧ w.cell? ⟨b, 1, none⟩ = some v1 ∧ w.cell? ⟨b, 2, none⟩ = some v2 ∧ w.cell? ⟨b, 3, none⟩ = some v3 ∧ w.cell? ⟨b, 4, none⟩ = some v4 ∧ w.cell? ⟨b, 5, none⟩ = some v5 ∧ w.cell? ⟨b, 6, none⟩ = some v6 ∧ w.cell? ⟨b, 7, none⟩ = some v7 ∧ w.cell? ⟨b, 8, none⟩ = some v8 ∧ w.cell? ⟨b, 9, none⟩ = some v9 ∧ w.cell? ⟨b, 10, none⟩ = some v10 ∧ w.cell? ⟨b, 11, none⟩ = some v11 ∧ w.cell? ⟨b, 12, none⟩ = some v12 ∧ w.cell? ⟨b, 13, none⟩ = some v13) ∧ r) (hb : ¬ S b) : w'.cell? ⟨b, 0, none⟩ = some v0 ∧ w'.cell? ⟨b, 1, none⟩ = some v1 ∧ w'.cell? ⟨b, 2, none⟩ = some v2 ∧ w'.cell? ⟨b, 3, none⟩ = some v3 ∧ w'.cell? ⟨b, 4, none⟩ = some v4 ∧ w'.cell? ⟨b, 5, none⟩ = some v5 ∧ w'.cell? ⟨b, 6, none⟩ = some v6 ∧ w'.cell? ⟨b, 7, none⟩ = some v7 ∧ w'.cell? ⟨b, 8, none⟩ = some v8 ∧ w'.cell? ⟨b, 9, none⟩ = some v9 ∧ w'.cell? ⟨b, 10, none⟩ = some v10 ∧ w'.cell? ⟨b, 11, none⟩ = some v11 ∧ w'.cell? ⟨b, 12, none⟩ = some v12 ∧ w'.cell? ⟨b, 13, none⟩ = some v13 := by
 obtain ⟨⟨c0, c1, c2, c3, c4, c5, c6, c7, c8, c9, c10, c11, c12, c13⟩, -⟩ := h
 exact ⟨he.cell c0 hb, he.cell c1 hb, he.cell c2 hb, he.cell c3 hb, he.cell c4 hb, he.cell c5 hb, he.cell c6 hb, he.cell c7 hb, he.cell c8 hb, he.cell c9 hb, he.cell c10 hb, he.cell c11 hb, he.cell c12 hb, he.cell c13 hb⟩
end
structure Rx where
 g : Option Nat
 cap : Nat
 all : List Tok
 E : Nat
def sv (c : Rx) (a d k p : Nat) : Value := .agg #[slv c.g c.all.length c.cap, .int .i64 (a : Int), .int .i64 (c.E : Int), .int .i64 (d : Int), .int .i64 (k : Int), .int .i64 (p : Int)]
structure Rk (w : World) (c : Rx) : Prop where
 toks : Sl w 120 4 c.g c.all.length c.cap (flatT c.all)
 sign : SignOk c.all
 small : c.all.length ≤ 4096
 len : c.E ≤ 1000000000
 good : ToksOk c.all
 short : ∀ t ∈ c.all, t.2.1.length ≤ 4096
theorem Rk.ext {w w' : World} {c : Rx} (h : Rk w c) (he : Ext w w') : Rk w' c := ⟨h.toks.ext he, h.sign, h.small, h.len, h.good, h.short⟩
abbrev Xs := Except (Nat × Nat) (List Tok)
def In (c : Rx) (X : Xs) (a k p : Nat) : Prop := a ≤ c.all.length ∧ match X with
 | .ok ts => k = 0 ∧ ts = c.all.drop a
 | .error f => k = f.1 ∧ p = f.2 ∧ f.1 ≠ 0
def tokN : Xs → Tok
 | .ok (t :: _) => t
 | _ => (0, [], 0, 0)
def tokV (t : Tok) : Value := .agg #[.int .i64 (t.1 : Int), str t.2.1, .int .i64 (t.2.2.1 : Int), .int .i64 (t.2.2.2 : Int)]
theorem Rk.at {w : World} {c : Rx} {i : Nat} (h : Rk w c) (hi : i < c.all.length) :
  ∃ (b : Nat) (t : Tok), c.g = some b ∧ c.all[i]? = some t ∧ b < w.heap.size ∧ c.all.drop i = t :: c.all.drop (i + 1) ∧
   w.cell? ⟨b, i * 4, none⟩ = some (.int .i64 (t.1 : Int)) ∧ w.cell? ⟨b, i * 4 + 1, none⟩ = some (str t.2.1) ∧ w.cell? ⟨b, i * 4 + 2, none⟩ = some (.int .i64 (t.2.2.1 : Int)) ∧ w.cell? ⟨b, i * 4 + 3, none⟩ = some (.int .i64 (t.2.2.2 : Int)) := by
 obtain ⟨b, hb⟩ := h.toks.some_of_pos (by omega)
 have hS := h.toks
 rw [hb] at hS
 have ht : c.all[i]? = some (c.all[i]'hi) := List.getElem?_eq_getElem hi
 obtain ⟨c0, c1, c2, c3⟩ := flatT_get _ _ _ ht
 exact ⟨b, _, hb, ht, hS.block_lt, List.drop_eq_getElem_cons hi, hS.cell c0, hS.cell c1, hS.cell c2, hS.cell c3⟩
theorem rnext_ok (c : Rx) (X : Xs) (a d k p : Nat) (w : World) (h : Rk w c) (hx : In c X a k p) :
   Calls Tryz.prog 77 #[sv c a d k p] w (fun e w' => e = .returned (tokV (tokN X)) ∧ Ext w w') := by
 have H := Lib.hid h
 obtain ⟨ha, hX⟩ := hx
 have hsm := h.small
 unfold sv
 go_enter Tryz.func77, Tryz.ntmps77
 cases X with
 | error f =>
   obtain ⟨rfl, rfl, hf⟩ := hX
   have HT : Hid (tokN (.error f) = (0, [], 0, 0)) := Lib.hid rfl
   rw [HT.out]
   unfold tokV
   have hne : ((f.1 : Int) != 0) = true := by simp; omega
   clear h
   go_wp2
   (try simp only [Exit.inBlock, Exit.then])
   refine bodyPost_ret (v := .agg #[.int .i64 0, str [], .int .i64 0, .int .i64 0]) (by simp [results, Tryz.results77, go_sem]; try rfl) rfl ?_
   exact ⟨rfl, ((Ext.refl w).alloc _).alloc _⟩
 | ok ts =>
   obtain ⟨rfl, rfl⟩ := hX
   by_cases hlt : a < c.all.length
   · obtain ⟨b, t, hg, ht, hb, hd, c0, c1, c2, c3⟩ := h.at hlt
     have HT : Hid (tokN (.ok (c.all.drop a)) = t) := Lib.hid (by rw [hd]; rfl)
     rw [HT.out]
     unfold tokV
     have lb : b < w.heap.size + 1 := by omega
     have z1 : ∀ u : World, (Instr.indexAt 67 (slv c.g c.all.length c.cap) (.int .i64 (a : Int))).run Tryz.prog u = .ok (.pointer (some ⟨b, a * 4, none⟩)) u := fun u => run_index_slv ei_rtok (cap := c.cap) hg hlt u
     clear h hg ht hd
     go_wp2
     (try simp only [Exit.inBlock, Exit.then])
     refine bodyPost_ret (v := .agg #[.int .i64 (t.1 : Int), str t.2.1, .int .i64 (t.2.2.1 : Int), .int .i64 (t.2.2.2 : Int)]) (by simp [results, Tryz.results77, go_sem]; try rfl) rfl ?_
     exact ⟨rfl, ((Ext.refl w).alloc _).alloc _⟩
   · have HT : Hid (tokN (.ok (c.all.drop a)) = (0, [], 0, 0)) := Lib.hid (by rw [List.drop_eq_nil_of_le (by omega)]; rfl)
     rw [HT.out]
     unfold tokV
     clear h
     go_wp2
     (try simp only [Exit.inBlock, Exit.then])
     refine bodyPost_ret (v := .agg #[.int .i64 0, str [], .int .i64 0, .int .i64 0]) (by simp [results, Tryz.results77, go_sem]; try rfl) rfl ?_
     exact ⟨rfl, ((Ext.refl w).alloc _).alloc _⟩
def failX (c : Rx) (code : Nat) : Xs → Xs
 | .ok ts => .error (code, plc c.E ts)
 | .error f => .error f
theorem rfail_ok (c : Rx) (X : Xs) (a d k p code : Nat) (w : World) (h : Rk w c) (hx : In c X a k p) (hc : code ≠ 0) :
   Calls Tryz.prog 25 #[sv c a d k p, .int .i64 (code : Int)] w (fun e w' => ∃ k' p', e = .returned (sv c a d k' p') ∧ In c (failX c code X) a k' p' ∧ Ext w w') := by
 have H := Lib.hid h
 obtain ⟨ha, hX⟩ := hx
 have hsm := h.small
 unfold sv
 go_enter Tryz.func25, Tryz.ntmps25
 cases X with
 | error f =>
   obtain ⟨rfl, rfl, hf⟩ := hX
   have HF := Lib.hid hf
   have hne : ((f.1 : Int) == 0) = false := by simp; omega
   clear h hf
   go_wp2
   (try simp only [Exit.inBlock, Exit.then])
   refine bodyPost_ret (v := (.agg #[slv c.g c.all.length c.cap, .int .i64 (a : Int), .int .i64 (c.E : Int), .int .i64 (d : Int), .int .i64 (f.1 : Int), .int .i64 (f.2 : Int)])) (by simp [results, Tryz.results25, go_sem]; try rfl) rfl ?_
   exact ⟨_, _, rfl, ⟨ha, rfl, rfl, HF.out⟩, ((Ext.refl w).alloc _).alloc _⟩
 | ok ts =>
   obtain ⟨rfl, rfl⟩ := hX
   by_cases hlt : a < c.all.length
   · obtain ⟨b, t, hg, ht, hb, hd, c0, c1, c2, c3⟩ := h.at hlt
     have HP : Hid (failX c code (.ok (c.all.drop a)) = .error (code, t.2.2.2)) := Lib.hid (by rw [hd]; rfl)
     rw [HP.out]
     have lb : b < w.heap.size + 1 := by omega
     have z1 : ∀ u : World, (Instr.indexAt 67 (slv c.g c.all.length c.cap) (.int .i64 (a : Int))).run Tryz.prog u = .ok (.pointer (some ⟨b, a * 4, none⟩)) u := fun u => run_index_slv ei_rtok (cap := c.cap) hg hlt u
     clear h hg ht hd
     go_wp2
     (try simp only [Exit.inBlock, Exit.then])
     refine bodyPost_ret (v := (.agg #[slv c.g c.all.length c.cap, .int .i64 (a : Int), .int .i64 (c.E : Int), .int .i64 (d : Int), .int .i64 (code : Int), .int .i64 (t.2.2.2 : Int)])) (by simp [results, Tryz.results25, go_sem]; try rfl) rfl ?_
     exact ⟨_, _, rfl, ⟨ha, rfl, rfl, hc⟩, ((Ext.refl w).alloc _).alloc _⟩
   · have HP : Hid (failX c code (.ok (c.all.drop a)) = .error (code, c.E)) := Lib.hid (by rw [List.drop_eq_nil_of_le (by omega)]; rfl)
     rw [HP.out]
     clear h
     go_wp2
     (try simp only [Exit.inBlock, Exit.then])
     refine bodyPost_ret (v := (.agg #[slv c.g c.all.length c.cap, .int .i64 (a : Int), .int .i64 (c.E : Int), .int .i64 (d : Int), .int .i64 (code : Int), .int .i64 (c.E : Int)])) (by simp [results, Tryz.results25, go_sem]; try rfl) rfl ?_
     exact ⟨_, _, rfl, ⟨ha, rfl, rfl, hc⟩, ((Ext.refl w).alloc _).alloc _⟩
def isX (s : Str) : Xs → Bool
 | .ok ts => isT s ts
 | .error _ => false
theorem isX_tok (s : Str) (X : Xs) : isX s X = (((tokN X).1 == 1 || (tokN X).1 == 4) && (tokN X).2.1 == s) := by
 cases X with
 | error f => rfl
 | ok ts => cases ts <;> rfl
theorem ris_ok (c : Rx) (X : Xs) (a d k p : Nat) (s : Str) (w : World) (h : Rk w c) (hx : In c X a k p) :
   Calls Tryz.prog 69 #[sv c a d k p, str s] w (fun e w' => e = .returned (.bool (isX s X)) ∧ Ext w w') := by
 have H := Lib.hid h
 have HX := Lib.hid hx
 have hbs := bs_toList
 have HT := Lib.hid (isX_tok s X)
 rw [HT.out]
 have hn := rnext_ok c X a d k p (w.alloc (.cells #[slv c.g c.all.length c.cap, .int .i64 (a : Int), .int .i64 (c.E : Int), .int .i64 (d : Int), .int .i64 (k : Int), .int .i64 (p : Int)] 71)) (h.ext ((Ext.refl w).alloc _)) hx
 have HN := Lib.hid hn
 obtain ⟨t, ht⟩ : ∃ t, tokN X = t := ⟨_, rfl⟩
 rw [ht] at HN ⊢
 obtain ⟨r, hr⟩ : ∃ r, ((t.1 == 1 || t.1 == 4) && t.2.1 == s) = r := ⟨_, rfl⟩
 rw [hr]
 have HR := Lib.hid hr
 clear h hx hn ht HT hr
 unfold tokV at HN
 unfold sv at HN ⊢
 go_enter Tryz.func69, Tryz.ntmps69
 go_wp2_with fail
 refine HN.out.mono ?_
 rintro e w2 ⟨rfl, hE⟩
 have HE := Lib.hid (((Ext.refl w).alloc _).trans hE)
 clear hE
 obtain ⟨tk, tt, tn, tp⟩ := t
 by_cases h1 : tk = 1
 · have e1 : ((tk : Int) == 1) = true := by simp [h1]
   by_cases h2 : tt = s
   · subst h2
     have HV : Hid (r = true) := Lib.hid (by rw [← HR.out]; simp [h1])
     clear h1
     go_wp2
     go_ret
     exact ⟨by rw [HV.out]; rfl, HE.out.alloc _⟩
   · have hts : (tt == s) = false := by simpa using h2
     have HV : Hid (r = false) := Lib.hid (by rw [← HR.out]; simp [h2])
     clear h1
     go_wp2
     go_ret
     exact ⟨by rw [HV.out]; rfl, HE.out.alloc _⟩
 · have e1 : ((tk : Int) == 1) = false := by simp; omega
   by_cases h4 : tk = 4
   · have e4 : ((tk : Int) == 4) = true := by simp [h4]
     by_cases h2 : tt = s
     · subst h2
       have HV : Hid (r = true) := Lib.hid (by rw [← HR.out]; simp [h4])
       clear h1 h4
       go_wp2
       go_ret
       exact ⟨by rw [HV.out]; rfl, HE.out.alloc _⟩
     · have hts : (tt == s) = false := by simpa using h2
       have HV : Hid (r = false) := Lib.hid (by rw [← HR.out]; simp [h2])
       clear h1 h4
       go_wp2
       go_ret
       exact ⟨by rw [HV.out]; rfl, HE.out.alloc _⟩
   · have e4 : ((tk : Int) == 4) = false := by simp; omega
     have HV : Hid (r = false) := Lib.hid (by rw [← HR.out]; simp [h1, h4])
     clear h1 h4
     go_wp2
     go_ret
     exact ⟨by rw [HV.out]; rfl, HE.out.alloc _⟩
def behind : Xs → Xs
 | .ok ts => .ok ts.tail
 | .error f => .error f
theorem In.step {c : Rx} {X : Xs} {a k p : Nat} (h : In c X a k p) {s : Str} (hs : isX s X = true) : a < c.all.length ∧ In c (behind X) (a + 1) k p ∧ ∃ ts, X = .ok ts ∧ isT s ts = true := by
 obtain ⟨ha, hX⟩ := h
 cases X with
 | error f => cases hs
 | ok ts =>
   obtain ⟨rfl, rfl⟩ := hX
   have hlt : a < c.all.length := by
    apply Classical.byContradiction
    intro hn
    have : isT s (c.all.drop a) = true := hs
    rw [List.drop_eq_nil_of_le (by omega)] at this
    cases this
   exact ⟨hlt, ⟨by omega, rfl, by show (c.all.drop a).tail = _; rw [List.tail_drop]⟩, _, rfl, hs⟩
def mayX (s : Str) (X : Xs) : Xs := if isX s X then behind X else X
theorem rmay_ok (c : Rx) (X : Xs) (a d k p : Nat) (s : Str) (w : World) (h : Rk w c) (hx : In c X a k p) :
   Calls Tryz.prog 24 #[sv c a d k p, str s] w (fun e w' => ∃ a', e = .returned (.tuple #[sv c a' d k p, .bool (isX s X)]) ∧ In c (mayX s X) a' k p ∧ Ext w w') := by
 have H := Lib.hid h
 have HX := Lib.hid hx
 have hsm := h.small
 have hle := hx.1
 have hi := ris_ok c X a d k p s ((w.alloc (.cells #[slv c.g c.all.length c.cap, .int .i64 (a : Int), .int .i64 (c.E : Int), .int .i64 (d : Int), .int .i64 (k : Int), .int .i64 (p : Int)] 71)).alloc (.cells #[.slice none 0 0, .int .i64 0, .int .i64 0, .int .i64 0, .int .i64 0, .int .i64 0] 71)) (h.ext (((Ext.refl w).alloc _).alloc _)) hx
 have HI := Lib.hid hi
 unfold mayX
 have HB1 : Hid (((w.alloc (.cells #[slv c.g c.all.length c.cap, .int .i64 (a : Int), .int .i64 (c.E : Int), .int .i64 (d : Int), .int .i64 (k : Int), .int .i64 (p : Int)] 71)).alloc (.cells #[.slice none 0 0, .int .i64 0, .int .i64 0, .int .i64 0, .int .i64 0, .int .i64 0] 71)).heap[w.heap.size]? = some (.cells #[slv c.g c.all.length c.cap, .int .i64 (a : Int), .int .i64 (c.E : Int), .int .i64 (d : Int), .int .i64 (k : Int), .int .i64 (p : Int)] 71 (0, 0))) := Lib.hid (blk_alloc (blk_new _ _))
 have HB2 : Hid (((w.alloc (.cells #[slv c.g c.all.length c.cap, .int .i64 (a : Int), .int .i64 (c.E : Int), .int .i64 (d : Int), .int .i64 (k : Int), .int .i64 (p : Int)] 71)).alloc (.cells #[.slice none 0 0, .int .i64 0, .int .i64 0, .int .i64 0, .int .i64 0, .int .i64 0] 71)).heap[w.heap.size + 1]? = some (.cells #[.slice none 0 0, .int .i64 0, .int .i64 0, .int .i64 0, .int .i64 0, .int .i64 0] 71 (0, 0))) := Lib.hid (blk_new_at _ (by simp))
 clear h hx hi
 unfold sv at HI ⊢
 go_enter Tryz.func24, Tryz.ntmps24
 go_wp2_with fail
 refine HI.out.mono ?_
 rintro e w2 ⟨rfl, hE⟩
 have HE := Lib.hid ((((Ext.refl w).alloc _).alloc _).trans hE)
 obtain ⟨a0, a1, a2, a3, a4, a5⟩ := blk6 (Ext.block hE HB1.out)
 obtain ⟨b0, b1, b2, b3, b4, b5⟩ := blk6 (Ext.block hE HB2.out)
 have la := blk_lt (Ext.block hE HB1.out)
 have lb := blk_lt (Ext.block hE HB2.out)
 have fa1 := blk_frozen (Ext.block hE HB1.out) 1
 have fb0 := blk_frozen (Ext.block hE HB2.out) 0
 have fb1 := blk_frozen (Ext.block hE HB2.out) 1
 have fb2 := blk_frozen (Ext.block hE HB2.out) 2
 have fb3 := blk_frozen (Ext.block hE HB2.out) 3
 have fb4 := blk_frozen (Ext.block hE HB2.out) 4
 have fb5 := blk_frozen (Ext.block hE HB2.out) 5
 clear hE
 by_cases hs : isX s X = true
 · have HIN := Lib.hid (HX.out.step hs)
   have hlt : a < c.all.length := HIN.out.1
   have hr : isX s X = true := hs
   go_wp2
   (try simp only [Exit.inBlock, Exit.then])
   refine bodyPost_ret (v := (.tuple #[.agg #[slv c.g c.all.length c.cap, .int .i64 ((a : Int) + 1), .int .i64 (c.E : Int), .int .i64 (d : Int), .int .i64 (k : Int), .int .i64 (p : Int)], .bool true])) (by simp [results, Tryz.results24, go_sem, *]; try rfl) rfl ?_
   refine ⟨a + 1, rfl, HIN.out.2.1, ?_⟩
   refine Touch.ext (S := fun _ => False) ?_ (fun _ _ h => h)
   repeat (refine Touch.setCell ?_ (fun h => absurd h (by dsimp only; omega)) _)
   exact HE.out.touch _
 · have hr : isX s X = false := by simpa using hs
   go_wp2
   (try simp only [Exit.inBlock, Exit.then])
   refine bodyPost_ret (v := (.tuple #[.agg #[slv c.g c.all.length c.cap, .int .i64 (a : Int), .int .i64 (c.E : Int), .int .i64 (d : Int), .int .i64 (k : Int), .int .i64 (p : Int)], .bool false])) (by simp [results, Tryz.results24, go_sem, *]; try rfl) rfl ?_
   refine ⟨a, rfl, HX.out, ?_⟩
   refine Touch.ext (S := fun _ => False) ?_ (fun _ _ h => h)
   repeat (refine Touch.setCell ?_ (fun h => absurd h (by dsimp only; omega)) _)
   exact HE.out.touch _
theorem touch6 (w2 : World) (b : Nat) (v0 v1 v2 v3 v4 v5 : Value) : Touch (fun k => k = b) w2 ((((((w2.setCell ⟨b, 0, none⟩ v0).setCell ⟨b, 1, none⟩ v1).setCell ⟨b, 2, none⟩ v2).setCell ⟨b, 3, none⟩ v3).setCell ⟨b, 4, none⟩ v4).setCell ⟨b, 5, none⟩ v5) := by
 exact ((((((Touch.refl (fun k => k = b) w2).setCell (p := ⟨b, 0, none⟩) (fun _ => rfl) v0).setCell (p := ⟨b, 1, none⟩) (fun _ => rfl) v1).setCell (p := ⟨b, 2, none⟩) (fun _ => rfl) v2).setCell (p := ⟨b, 3, none⟩) (fun _ => rfl) v3).setCell (p := ⟨b, 4, none⟩) (fun _ => rfl) v4).setCell (p := ⟨b, 5, none⟩) (fun _ => rfl) v5
theorem Touch.fresh' {S : Nat → Prop} {a b c : World} (h : Ext a b) (k : Touch S b c) (hs : ∀ i, S i → a.heap.size ≤ i) : Ext a c :=
 Touch.ext (S := fun _ => False) ((h.touch _).trans' k fun i hi hx => by have := hs i hx; omega) fun _ _ h => h
def mustX (c : Rx) (s : Str) (X : Xs) : Xs := if isX s X then behind X else failX c 150 X
theorem rmust_ok (c : Rx) (X : Xs) (a d k p : Nat) (s : Str) (w : World) (h : Rk w c) (hx : In c X a k p) :
   Calls Tryz.prog 72 #[sv c a d k p, str s] w (fun e w' => ∃ a' k' p', e = .returned (sv c a' d k' p') ∧ In c (mustX c s X) a' k' p' ∧ Ext w w') := by
 have H := Lib.hid h
 have HX := Lib.hid hx
 have hi := rmay_ok c X a d k p s ((w.alloc (.cells #[slv c.g c.all.length c.cap, .int .i64 (a : Int), .int .i64 (c.E : Int), .int .i64 (d : Int), .int .i64 (k : Int), .int .i64 (p : Int)] 71)).alloc (.cells #[.slice none 0 0, .int .i64 0, .int .i64 0, .int .i64 0, .int .i64 0, .int .i64 0] 71)) (h.ext (((Ext.refl w).alloc _).alloc _)) hx
 have HI := Lib.hid hi
 have HB1 : Hid (((w.alloc (.cells #[slv c.g c.all.length c.cap, .int .i64 (a : Int), .int .i64 (c.E : Int), .int .i64 (d : Int), .int .i64 (k : Int), .int .i64 (p : Int)] 71)).alloc (.cells #[.slice none 0 0, .int .i64 0, .int .i64 0, .int .i64 0, .int .i64 0, .int .i64 0] 71)).heap[w.heap.size]? = some (.cells #[slv c.g c.all.length c.cap, .int .i64 (a : Int), .int .i64 (c.E : Int), .int .i64 (d : Int), .int .i64 (k : Int), .int .i64 (p : Int)] 71 (0, 0))) := Lib.hid (blk_alloc (blk_new _ _))
 have HB2 : Hid (((w.alloc (.cells #[slv c.g c.all.length c.cap, .int .i64 (a : Int), .int .i64 (c.E : Int), .int .i64 (d : Int), .int .i64 (k : Int), .int .i64 (p : Int)] 71)).alloc (.cells #[.slice none 0 0, .int .i64 0, .int .i64 0, .int .i64 0, .int .i64 0, .int .i64 0] 71)).heap[w.heap.size + 1]? = some (.cells #[.slice none 0 0, .int .i64 0, .int .i64 0, .int .i64 0, .int .i64 0, .int .i64 0] 71 (0, 0))) := Lib.hid (blk_new_at _ (by simp))
 unfold mustX
 clear h hx hi
 unfold sv at HI ⊢
 go_enter Tryz.func72, Tryz.ntmps72
 go_wp2_with fail
 refine HI.out.mono ?_
 rintro e w2 ⟨a1', rfl, hI, hE⟩
 have HE := Lib.hid ((((Ext.refl w).alloc _).alloc _).trans hE)
 have HIN := Lib.hid hI
 obtain ⟨a0, a1, a2, a3, a4, a5⟩ := blk6 (Ext.block hE HB1.out)
 obtain ⟨b0, b1, b2, b3, b4, b5⟩ := blk6 (Ext.block hE HB2.out)
 have la := blk_lt (Ext.block hE HB1.out)
 have lb := blk_lt (Ext.block hE HB2.out)
 have fa0 := blk_frozen (Ext.block hE HB1.out) 0
 have fa1 := blk_frozen (Ext.block hE HB1.out) 1
 have fa2 := blk_frozen (Ext.block hE HB1.out) 2
 have fa3 := blk_frozen (Ext.block hE HB1.out) 3
 have fa4 := blk_frozen (Ext.block hE HB1.out) 4
 have fa5 := blk_frozen (Ext.block hE HB1.out) 5
 have fb0 := blk_frozen (Ext.block hE HB2.out) 0
 have fb1 := blk_frozen (Ext.block hE HB2.out) 1
 have fb2 := blk_frozen (Ext.block hE HB2.out) 2
 have fb3 := blk_frozen (Ext.block hE HB2.out) 3
 have fb4 := blk_frozen (Ext.block hE HB2.out) 4
 have fb5 := blk_frozen (Ext.block hE HB2.out) 5
 have HE2 := Lib.hid hE
 clear hE hI
 by_cases hs : isX s X = true
 · have hr : isX s X = true := hs
   go_wp2
   (try simp only [Exit.inBlock, Exit.then])
   refine bodyPost_ret (v := (.agg #[slv c.g c.all.length c.cap, .int .i64 (a1' : Int), .int .i64 (c.E : Int), .int .i64 (d : Int), .int .i64 (k : Int), .int .i64 (p : Int)])) (by simp [results, Tryz.results72, go_sem, *]; try rfl) rfl ?_
   refine ⟨a1', k, p, rfl, ?_, ?_⟩
   · have := HIN.out; unfold mayX at this; rwa [if_pos hs] at this
   refine Touch.ext (S := fun _ => False) ?_ (fun _ _ h => h)
   repeat (refine Touch.setCell ?_ (fun h => absurd h (by dsimp only; omega)) _)
   exact HE.out.touch _
 · have hr : isX s X = false := by simpa using hs
   have HII : Hid (In c X a1' k p) := Lib.hid (by have := HIN.out; unfold mayX at this; rwa [if_neg hs] at this)
   have HT := Lib.hid (touch6 w2 w.heap.size (slv c.g c.all.length c.cap) (.int .i64 (a1' : Int)) (.int .i64 (c.E : Int)) (.int .i64 (d : Int)) (.int .i64 (k : Int)) (.int .i64 (p : Int)))
   have HX3 := Lib.hid (Touch.fresh' HE.out HT.out (fun i h => by omega))
   go_wp2_with fail
   refine (rfail_ok c X a1' d k p 150 _ (H.out.ext HX3.out) HII.out (by decide)).mono ?_
   rintro e w4 ⟨k', p', rfl, hI4, hE4⟩
   unfold sv
   have HI4 := Lib.hid hI4
   have HX4 := Lib.hid (HX3.out.trans hE4)
   have hb2 := Ext.block hE4 (HT.out.old (Ext.block HE2.out HB2.out) (by omega))
   clear hI4 b0 b1 b2 b3 b4 b5 lb fb0 fb1 fb2 fb3 fb4 fb5
   obtain ⟨b0, b1, b2, b3, b4, b5⟩ := blk6 hb2
   have lb := blk_lt hb2
   have fb0 := blk_frozen hb2 0
   have fb1 := blk_frozen hb2 1
   have fb2 := blk_frozen hb2 2
   have fb3 := blk_frozen hb2 3
   have fb4 := blk_frozen hb2 4
   have fb5 := blk_frozen hb2 5
   clear hb2 hE4 a0 a1 a2 a3 a4 a5 la fa0 fa1 fa2 fa3 fa4 fa5
   go_wp2
   (try simp only [Exit.inBlock, Exit.then])
   refine bodyPost_ret (v := (.agg #[slv c.g c.all.length c.cap, .int .i64 (a1' : Int), .int .i64 (c.E : Int), .int .i64 (d : Int), .int .i64 (k' : Int), .int .i64 (p' : Int)])) (by simp [results, Tryz.results72, go_sem, *]; try rfl) rfl ?_
   refine ⟨a1', k', p', rfl, HI4.out, ?_⟩
   refine Touch.ext (S := fun _ => False) ?_ (fun _ _ h => h)
   repeat (refine Touch.setCell ?_ (fun h => absurd h (by dsimp only; omega)) _)
   exact HX4.out.touch _
def Xs.then {α : Type} (X : Xs) (f : List Tok → Res α) : Xs :=
 match X with
 | .error e => .error e
 | .ok ts => match f ts with
   | .ok (_, r) => .ok r
   | .error e => .error e
def Got {α : Type} (X : Xs) (f : List Tok → Res α) (x : α) : Prop := ∀ ts y r, X = .ok ts → f ts = .ok (y, r) → x = y
theorem must_then {c : Rx} {s : Str} {X : Xs} : mustX c s X = X.then (must c.E s) := by
 cases X with
 | error e => rfl
 | ok ts =>
   show (if isT s ts then _ else _) = _
   unfold Xs.then must
   by_cases h : isT s ts = true
   · simp only [h, if_true]; rfl
   · simp only [h]; rfl
def rsvT : Str := [32, 67, 82, 69, 65, 84, 69, 32, 84, 65, 66, 76, 69, 32, 73, 78, 68, 69, 88, 32, 79, 78, 32, 78, 79, 32, 79, 86, 69, 82, 76, 65, 80, 32, 73, 78, 84, 32, 84, 69, 88, 84, 32, 73, 78, 83, 69, 82, 84, 32, 73, 78, 84, 79, 32, 86, 65, 76, 85, 69, 83, 32, 70, 82, 79, 77, 32, 84, 79, 32, 70, 79, 82, 69, 86, 69, 82, 32, 85, 80, 68, 65, 84, 69, 32, 83, 69, 84, 32, 70, 79, 82, 32, 87, 72, 69, 82, 69, 32, 68, 69, 76, 69, 84, 69, 32, 66, 69, 71, 73, 78, 32, 67, 79, 77, 77, 73, 84, 32, 82, 79, 76, 76, 66, 65, 67, 75, 32, 83, 69, 76, 69, 67, 84, 32, 67, 79, 65, 76, 69, 83, 67, 69, 32, 67, 79, 85, 78, 84, 32, 83, 85, 77, 32, 85, 78, 73, 79, 78, 32, 69, 88, 67, 69, 80, 84, 32, 65, 83, 32, 79, 70, 32, 65, 84, 32, 68, 85, 82, 73, 78, 71, 32, 79, 82, 68, 69, 82, 32, 66, 89, 32, 65, 78, 68, 32, 79, 82, 32, 78, 79, 84, 32]
theorem tw_stop : ∀ (w r : Str), 32 ∉ w → (w ++ 32 :: r).takeWhile (fun x => x != 32) = w
 | [], r, _ => by simp
 | x :: w, r, h => by
   have hx : (x != 32) = true := by simp only [bne_iff_ne]; rintro rfl; exact h (by simp)
   rw [List.cons_append, List.takeWhile_cons, hx, if_pos rfl, tw_stop w r fun hm => h (List.mem_cons_of_mem _ hm)]
theorem rsv_all : (List.range rsvT.length).all (fun i => !((rsvT.drop i).head? == some 32) || (rsvT.drop (i + 1)).isEmpty || reservedL.contains ((rsvT.drop (i + 1)).takeWhile fun x => x != 32)) = true := by decide +kernel
theorem rsv_any : reservedL.all (fun w => (List.range rsvT.length).any fun i => (rsvT.drop i).take (w.length + 2) == 32 :: (w ++ [32])) = true := by decide +kernel
theorem rsv_iff {w : Str} (hw : 32 ∉ w) : (∃ i, (rsvT.drop i).take (w.length + 2) = 32 :: (w ++ [32])) ↔ resv w = true := by
 constructor
 · rintro ⟨i, h⟩
   have hi : i < rsvT.length := by
    apply Classical.byContradiction
    intro hn
    rw [List.drop_eq_nil_of_le (by omega)] at h
    simp at h
   obtain ⟨r, hr⟩ : ∃ r, rsvT.drop i = 32 :: (w ++ 32 :: r) := ⟨(rsvT.drop i).drop (w.length + 2), by
    have := List.take_append_drop (w.length + 2) (rsvT.drop i)
    rw [h] at this
    rw [← this]; simp⟩
   have h1 := List.all_eq_true.1 rsv_all i (by simpa using hi)
   have hd : rsvT.drop (i + 1) = w ++ 32 :: r := by rw [← List.tail_drop, hr]; rfl
   rw [hr, hd, tw_stop w r hw] at h1
   simpa [resv] using h1
 · intro h
   have hm : w ∈ reservedL := by simpa [resv] using h
   have h1 := List.all_eq_true.1 rsv_any w hm
   obtain ⟨i, -, hi⟩ := List.any_eq_true.1 h1
   exact ⟨i, by simpa using hi⟩
def deepX (c : Rx) (d : Nat) (X : Xs) : Xs := if 32 < d + 1 then failX c 151 X else X
theorem rdeep_ok (c : Rx) (X : Xs) (a d k p : Nat) (w : World) (h : Rk w c) (hx : In c X a k p) (hd : d ≤ 1000) :
   Calls Tryz.prog 146 #[sv c a d k p] w (fun e w' => ∃ k' p', e = .returned (sv c a (d + 1) k' p') ∧ In c (deepX c d X) a k' p' ∧ Ext w w') := by
 have H := Lib.hid h
 have HX := Lib.hid hx
 clear h hx
 unfold sv deepX
 go_enter Tryz.func146, Tryz.ntmps146
 by_cases hs : 32 < d + 1
 · have hsi : (32 : Int) < (d : Int) + 1 := by omega
   go_wp2_with fail
   refine (rfail_ok c X a (d + 1) k p 151 _ (H.out.ext (((Ext.refl w).alloc _).alloc _)) HX.out (by decide)).mono ?_
   rintro e w4 ⟨k', p', rfl, hI4, hE4⟩
   unfold sv
   have HI4 := Lib.hid hI4
   have HX4 := Lib.hid ((((Ext.refl w).alloc _).alloc _).trans hE4)
   have hb2 := Ext.block hE4 (blk_new_at (w := w.alloc (.cells #[slv c.g c.all.length c.cap, .int .i64 (a : Int), .int .i64 (c.E : Int), .int .i64 ((d : Int) + 1), .int .i64 (k : Int), .int .i64 (p : Int)] 71)) (.cells #[.slice none 0 0, .int .i64 0, .int .i64 0, .int .i64 0, .int .i64 0, .int .i64 0] 71) (n := w.heap.size + 1) (by simp))
   obtain ⟨b0, b1, b2, b3, b4, b5⟩ := blk6 hb2
   have lb := blk_lt hb2
   have fb0 := blk_frozen hb2 0
   have fb1 := blk_frozen hb2 1
   have fb2 := blk_frozen hb2 2
   have fb3 := blk_frozen hb2 3
   have fb4 := blk_frozen hb2 4
   have fb5 := blk_frozen hb2 5
   clear hb2 hE4 hI4
   go_wp2
   (try simp only [Exit.inBlock, Exit.then])
   refine bodyPost_ret (v := (.agg #[slv c.g c.all.length c.cap, .int .i64 (a : Int), .int .i64 (c.E : Int), .int .i64 ((d + 1 : Nat) : Int), .int .i64 (k' : Int), .int .i64 (p' : Int)])) (by simp [results, Tryz.results146, go_sem, *]; try rfl) rfl ?_
   refine ⟨k', p', rfl, HI4.out, ?_⟩
   refine Touch.ext (S := fun _ => False) ?_ (fun _ _ h => h)
   repeat (refine Touch.setCell ?_ (fun h => absurd h (by dsimp only; omega)) _)
   exact HX4.out.touch _
 · have hsi : ¬ (32 : Int) < (d : Int) + 1 := by omega
   go_wp2
   (try simp only [Exit.inBlock, Exit.then])
   refine bodyPost_ret (v := (.agg #[slv c.g c.all.length c.cap, .int .i64 (a : Int), .int .i64 (c.E : Int), .int .i64 ((d + 1 : Nat) : Int), .int .i64 (k : Int), .int .i64 (p : Int)])) (by simp [results, Tryz.results146, go_sem, *]; try rfl) rfl ?_
   refine ⟨k, p, rfl, ?_, ?_⟩
   · exact HX.out
   · exact ((Ext.refl w).alloc _).alloc _
end Go.Proofs.YtkhnpmeohjafiaaGreatDoor
namespace Go.Proofs.YtkhnpmeohjafiaaGreatDoor
def Xs.run {α : Type} (X : Xs) (f : List Tok → Res α) : Res α :=
 match X with
 | .error e => .error e
 | .ok ts => f ts
theorem then_ok' {α : Type} {f : List Tok → Res α} {ts r : List Tok} {y : α} (h : f ts = .ok (y, r)) : Xs.then (.ok ts) f = .ok r := by
 unfold Xs.then
 simp only [h]
theorem then_err' {α : Type} {f : List Tok → Res α} {ts : List Tok} {e : Nat × Nat} (h : f ts = .error e) : Xs.then (.ok ts) f = .error e := by
 unfold Xs.then
 simp only [h]
section
variable {α β : Type} {X Y : Xs} {c : Rx} {a k p : Nat}
theorem run_bnd {f : List Tok → Res α} {g : α → List Tok → Res β} {x : α} (hx : Got X f x) : X.run (fun ts => bnd (f ts) g) = (X.then f).run (g x) := by
 cases X with
 | error e => rfl
 | ok ts =>
   show bnd (f ts) g = _
   unfold Xs.then
   cases h : f ts with
   | error e => simp only [h]; rfl
   | ok yr =>
     obtain ⟨y, r⟩ := yr
     cases hx ts y r rfl h
     simp only [h]; rfl
theorem run_fin {f : List Tok → Res α} {g : α → β} {x : α} (hx : Got X f x) : X.run (fun ts => fin g (f ts)) = (X.then f).run (fun ts => .ok (g x, ts)) := run_bnd (g := fun x ts => .ok (g x, ts)) hx
theorem run_yes {s : Str} {A B : List Tok → Res α} (h : isX s X = true) : X.run (fun ts => if isT s ts then A ts.tail else B ts) = (behind X).run A := by
 cases X with
 | error e => cases h
 | ok ts =>
   have h' : isT s ts = true := h
   show (if isT s ts then _ else _) = _
   rw [if_pos h']; rfl
theorem run_no {s : Str} {A B : List Tok → Res α} (h : isX s X = false) : X.run (fun ts => if isT s ts then A ts else B ts) = X.run B := by
 cases X with
 | error e => rfl
 | ok ts =>
   have h' : isT s ts = false := h
   show (if isT s ts then _ else _) = _
   rw [if_neg (by simp [h'])]; rfl
theorem must_got {E : Nat} {s : Str} : Got X (must E s) () := fun _ _ _ _ _ => rfl
theorem run_must {s : Str} {g : List Tok → Res β} : X.run (fun ts => bnd (must c.E s ts) fun _ r => g r) = (mustX c s X).run g := by
 rw [must_then]; exact run_bnd (g := fun _ r => g r) (x := ()) must_got
theorem run_end {F : List Tok → Res α} {z : α} (h : X.run F = Y.run fun ts => .ok (z, ts)) (hY : In c Y a k p) : In c (X.then F) a k p ∧ Got X F z := by
 cases X with
 | error e =>
   cases Y with
   | error e' => cases h; exact ⟨hY, fun ts y r hX => by cases hX⟩
   | ok ts => cases h
 | ok ts =>
   have h' : F ts = Y.run fun ts => .ok (z, ts) := h
   cases Y with
   | error e' =>
     have h2 : F ts = .error e' := h'
     exact ⟨by rw [then_err' h2]; exact hY, fun ts' y r hX hf => by cases hX; rw [h2] at hf; cases hf⟩
   | ok t2 =>
     have h2 : F ts = .ok (z, t2) := h'
     exact ⟨by rw [then_ok' h2]; exact hY, fun ts' y r hX hf => by cases hX; rw [h2] at hf; cases hf; rfl⟩
theorem isX_ok {s : Str} (h : isX s X = true) : ∃ t ts, X = .ok (t :: ts) ∧ isT s (t :: ts) = true := by
 cases X with
 | error e => cases h
 | ok ts => cases ts with
   | nil => cases h
   | cons t ts => exact ⟨t, ts, rfl, h⟩
def mu : Xs → Nat
 | .ok ts => ts.length + 1
 | .error _ => 0
theorem mu_step {f : List Tok → Res α} {s : Str} (h : isX s X = true) (hs : ∀ ts, Suf ts (f ts)) : mu ((behind X).then f) < mu X := by
 obtain ⟨t, ts, rfl, -⟩ := isX_ok h
 show mu (Xs.then (.ok ts) f) < ts.length + 1 + 1
 cases hf : f ts with
 | error e => rw [then_err' hf]; show 0 < _; omega
 | ok yr =>
   obtain ⟨y, r⟩ := yr
   rw [then_ok' hf]
   have := (hs ts y r hf).length_le
   show r.length + 1 < _; omega
def Few (X : Xs) (f : Nat) : Prop := mu X ≤ f + 1
theorem Few.step {g : List Tok → Res α} {s : Str} {f : Nat} (hf : Few X f) (h : isX s X = true) (hs : ∀ ts, Suf ts (g ts)) : ∃ f', f = f' + 1 ∧ Few ((behind X).then g) f' := by
 have h1 := mu_step h hs
 obtain ⟨t, ts, rfl, -⟩ := isX_ok h
 have h2 : ts.length + 1 + 1 ≤ f + 1 := hf
 refine ⟨f - 1, by omega, ?_⟩
 have h3 : mu (Except.ok (t :: ts) : Xs) = ts.length + 1 + 1 := rfl
 unfold Few
 omega
theorem run_sep {one : List Tok → Res α} {x : α} (hx : Got X one x) : ∃ f, Few (X.then one) f ∧ X.run (sep one) = (X.then one).run (sepL one f [x]) := by
 cases X with
 | error e => exact ⟨0, by show 0 ≤ _; omega, rfl⟩
 | ok ts =>
   cases h : one ts with
   | error e => exact ⟨0, by rw [then_err' h]; show 0 ≤ _; omega, by rw [then_err' h]; show bnd (one ts) _ = _; rw [h]; rfl⟩
   | ok yr =>
     obtain ⟨y, r⟩ := yr
     cases hx ts y r rfl h
     exact ⟨r.length, by rw [then_ok' h]; exact Nat.le_refl _, by rw [then_ok' h]; show bnd (one ts) _ = _; rw [h]; rfl⟩
theorem run_sepL_yes {one : List Tok → Res α} {f : Nat} {xs : List α} {x : α} (h : isX [44] X = true) (hx : Got (behind X) one x) : X.run (sepL one (f + 1) xs) = ((behind X).then one).run (sepL one f (xs ++ [x])) := by
 rw [show sepL one (f + 1) xs = fun ts => if isT [44] ts then bnd (one ts.tail) (fun x r => sepL one f (xs ++ [x]) r) else .ok (xs, ts) from rfl]
 rw [run_yes (A := fun ts => bnd (one ts) fun x r => sepL one f (xs ++ [x]) r) (B := fun ts => .ok (xs, ts)) h]
 exact run_bnd (g := fun x r => sepL one f (xs ++ [x]) r) hx
theorem run_sepL_no {one : List Tok → Res α} {f : Nat} {xs : List α} (h : isX [44] X = false) : X.run (sepL one f xs) = X.run fun ts => .ok (xs, ts) := by
 cases X with
 | error e => rfl
 | ok ts =>
   have h' : isT [44] ts = false := h
   cases f with
   | zero => rfl
   | succ f => show sepL one (f + 1) xs ts = _; simp only [sepL, h', Bool.false_eq_true, if_false]; rfl
theorem run_ch {rd : List Tok → Res Ex} {ops : List Str} {x : Ex} (hx : Got X rd x) : ∃ f, Few (X.then rd) f ∧ X.run (ch rd ops) = (X.then rd).run (chL rd ops f x) := by
 cases X with
 | error e => exact ⟨0, by show 0 ≤ _; omega, rfl⟩
 | ok ts =>
   cases h : rd ts with
   | error e => exact ⟨0, by rw [then_err' h]; show 0 ≤ _; omega, by rw [then_err' h]; show bnd (rd ts) _ = _; rw [h]; rfl⟩
   | ok yr =>
     obtain ⟨y, r⟩ := yr
     cases hx ts y r rfl h
     exact ⟨r.length, by rw [then_ok' h]; exact Nat.le_refl _, by rw [then_ok' h]; show bnd (rd ts) _ = _; rw [h]; rfl⟩
theorem isT_txt' {s : Str} {ts : List Tok} (h : isT s ts = true) : txt ts = s := by
 cases ts with
 | nil => cases h
 | cons t ts => simp only [isT, Bool.and_eq_true, beq_iff_eq] at h; exact h.2
theorem run_chL_yes {rd : List Tok → Res Ex} {ops : List Str} {s : Str} {f : Nat} {e x : Ex} (hs : s ∈ ops) (h : isX s X = true) (hx : Got (behind X) rd x) : X.run (chL rd ops (f + 1) e) = ((behind X).then rd).run (chL rd ops f (eTwo s e x)) := by
 rw [← run_bnd (g := fun x r => chL rd ops f (eTwo s e x) r) hx]
 cases X with
 | error e => cases h
 | ok ts =>
   have h' : isT s ts = true := h
   have h2 : anyT ops ts = true := List.any_eq_true.2 ⟨s, hs, h'⟩
   show chL rd ops (f + 1) e ts = bnd (rd ts.tail) _
   simp only [chL, h2, if_true, isT_txt' h']
theorem run_chL_no {rd : List Tok → Res Ex} {ops : List Str} {f : Nat} {e : Ex} (h : ∀ s ∈ ops, isX s X = false) : X.run (chL rd ops f e) = X.run fun ts => .ok (e, ts) := by
 cases X with
 | error e => rfl
 | ok ts =>
   have h2 : anyT ops ts = false := by
    rw [← Bool.not_eq_true]
    intro h3
    obtain ⟨s, hs, h4⟩ := List.any_eq_true.1 h3
    rw [show isT s ts = false from h s hs] at h4
    cases h4
   cases f with
   | zero => rfl
   | succ f => show chL rd ops (f + 1) e ts = _; simp only [chL, h2, Bool.false_eq_true, if_false]; rfl
def Dp (d : Nat) (X : Xs) : Prop := d ≤ 33 ∧ (d ≤ 32 ∨ ∃ e, X = .error e)
theorem Dp.then {d : Nat} {f : List Tok → Res α} (h : Dp d X) : Dp d (X.then f) := ⟨h.1, h.2.imp id fun ⟨e, he⟩ => ⟨e, by rw [he]; rfl⟩⟩
theorem Dp.behind {d : Nat} (h : Dp d X) : Dp d (behind X) := ⟨h.1, h.2.imp id fun ⟨e, he⟩ => ⟨e, by rw [he]; rfl⟩⟩
end
end Go.Proofs.YtkhnpmeohjafiaaGreatDoor
namespace Go.Proofs.YtkhnpmeohjafiaaGreatDoor
open Go.RowKit
theorem then_ok {α : Type} {f : List Tok → Res α} {ts r : List Tok} {y : α} (h : f ts = .ok (y, r)) : Xs.then (.ok ts) f = .ok r := by
 unfold Xs.then
 simp only [h]
theorem then_err {α : Type} {f : List Tok → Res α} {ts : List Tok} {e : Nat × Nat} (h : f ts = .error e) : Xs.then (.ok ts) f = .error e := by
 unfold Xs.then
 simp only [h]
theorem tok_num {X : Xs} {E : Nat} : ((tokN X).1 = 2 → ∃ ts, X = .ok ts ∧ number E ts = .ok ((tokN X).2.2.1, ts.tail)) ∧ ((tokN X).1 ≠ 2 → ∀ ts, X = .ok ts → number E ts = bad E 150 ts) := by
 cases X with
 | error e => exact ⟨fun h => absurd h (by simp [tokN]), fun _ ts h => by cases h⟩
 | ok ts =>
   cases ts with
   | nil => exact ⟨fun h => absurd h (by simp [tokN]), fun _ ts h => by cases h; rfl⟩
   | cons t r =>
     constructor
     · intro h
       refine ⟨_, rfl, ?_⟩
       have h' : t.1 = 2 := h
       simp [number, isK, h', nmb, tokN]
     · intro h ts he
       cases he
       have h' : (t.1 == 2) = false := by simpa [tokN] using h
       simp [number, isK, h']
theorem rnumber_ok (c : Rx) (X : Xs) (a d k p : Nat) (w : World) (h : Rk w c) (hx : In c X a k p) :
   Calls Tryz.prog 103 #[sv c a d k p] w (fun e w' => ∃ (n : Nat) (a' k' p' : Nat), e = .returned (.tuple #[.int .i64 (n : Int), sv c a' d k' p']) ∧ In c (X.then (number c.E)) a' k' p' ∧ Got X (number c.E) n ∧ Ext w w') := by
 have H := Lib.hid h
 have HX := Lib.hid hx
 have hsm := h.small
 have hle := hx.1
 have hn := rnext_ok c X a d k p ((w.alloc (.cells #[slv c.g c.all.length c.cap, .int .i64 (a : Int), .int .i64 (c.E : Int), .int .i64 (d : Int), .int .i64 (k : Int), .int .i64 (p : Int)] 71)).alloc (.cells #[.slice none 0 0, .int .i64 0, .int .i64 0, .int .i64 0, .int .i64 0, .int .i64 0] 71)) (h.ext (((Ext.refl w).alloc _).alloc _)) hx
 have HN := Lib.hid hn
 have HB1 : Hid (((w.alloc (.cells #[slv c.g c.all.length c.cap, .int .i64 (a : Int), .int .i64 (c.E : Int), .int .i64 (d : Int), .int .i64 (k : Int), .int .i64 (p : Int)] 71)).alloc (.cells #[.slice none 0 0, .int .i64 0, .int .i64 0, .int .i64 0, .int .i64 0, .int .i64 0] 71)).heap[w.heap.size]? = some (.cells #[slv c.g c.all.length c.cap, .int .i64 (a : Int), .int .i64 (c.E : Int), .int .i64 (d : Int), .int .i64 (k : Int), .int .i64 (p : Int)] 71 (0, 0))) := Lib.hid (blk_alloc (blk_new _ _))
 have HB2 : Hid (((w.alloc (.cells #[slv c.g c.all.length c.cap, .int .i64 (a : Int), .int .i64 (c.E : Int), .int .i64 (d : Int), .int .i64 (k : Int), .int .i64 (p : Int)] 71)).alloc (.cells #[.slice none 0 0, .int .i64 0, .int .i64 0, .int .i64 0, .int .i64 0, .int .i64 0] 71)).heap[w.heap.size + 1]? = some (.cells #[.slice none 0 0, .int .i64 0, .int .i64 0, .int .i64 0, .int .i64 0, .int .i64 0] 71 (0, 0))) := Lib.hid (blk_new_at _ (by simp))
 have HTN := Lib.hid (tok_num (X := X) (E := c.E))
 obtain ⟨t, ht⟩ : ∃ t, tokN X = t := ⟨_, rfl⟩
 rw [ht] at HN HTN
 have HTT := Lib.hid ht
 clear h hx hn ht
 unfold tokV at HN
 unfold sv at HN ⊢
 go_enter Tryz.func103, Tryz.ntmps103
 go_wp2_with fail
 refine HN.out.mono ?_
 rintro e w2 ⟨rfl, hE⟩
 have HE := Lib.hid ((((Ext.refl w).alloc _).alloc _).trans hE)
 have HE2 := Lib.hid hE
 obtain ⟨tk, tt, tn, tp⟩ := t
 obtain ⟨a0, a1, a2, a3, a4, a5⟩ := blk6 (Ext.block hE HB1.out)
 obtain ⟨b0, b1, b2, b3, b4, b5⟩ := blk6 (Ext.block hE HB2.out)
 have la := blk_lt (Ext.block hE HB1.out)
 have lb := blk_lt (Ext.block hE HB2.out)
 have fa0 := blk_frozen (Ext.block hE HB1.out) 0
 have fa1 := blk_frozen (Ext.block hE HB1.out) 1
 have fa2 := blk_frozen (Ext.block hE HB1.out) 2
 have fa3 := blk_frozen (Ext.block hE HB1.out) 3
 have fa4 := blk_frozen (Ext.block hE HB1.out) 4
 have fa5 := blk_frozen (Ext.block hE HB1.out) 5
 have fb0 := blk_frozen (Ext.block hE HB2.out) 0
 have fb1 := blk_frozen (Ext.block hE HB2.out) 1
 have fb2 := blk_frozen (Ext.block hE HB2.out) 2
 have fb3 := blk_frozen (Ext.block hE HB2.out) 3
 have fb4 := blk_frozen (Ext.block hE HB2.out) 4
 have fb5 := blk_frozen (Ext.block hE HB2.out) 5
 clear hE
 by_cases h2 : tk = 2
 · have e2 : ((tk : Int) != 2) = false := by simp [h2]
   clear h2
   go_wp2
   refine region_calm [.p 0, .l 1, .l 2, .p 3, .h 4 false] f_mixed (by kernel_rfl) (by kernel_rfl) ?_
   repeat ((first | refine plan_p rfl (fun K hK => ?_) | refine plan_l rfl (fun K hK => ?_)); go_simp; refine hK _ ?_; clear hK K)
   refine plan_c rfl rfl (fun K _ hK => ?_)
   go_wp2
   refine plan_done ?_
   go_wp2
   (try simp only [Exit.inBlock, Exit.then])
   refine bodyPost_ret (v := (.tuple #[.int .i64 (tn : Int), .agg #[slv c.g c.all.length c.cap, .int .i64 ((a + 1 : Nat) : Int), .int .i64 (c.E : Int), .int .i64 (d : Int), .int .i64 (k : Int), .int .i64 (p : Int)]])) (by simp [results, Tryz.results103, go_sem, *]; try rfl) rfl ?_
   have hk2 : tk = 2 := by have : (tk : Int) = 2 := by simpa using e2
                           omega
   obtain ⟨ts, hX, hf⟩ := HTN.out.1 hk2
   have hXX := HX.out
   have hTT := HTT.out
   subst hX
   obtain ⟨ha, rfl, rfl⟩ := hXX
   have hlt : a < c.all.length := by
     apply Classical.byContradiction
     intro hn
     rw [List.drop_eq_nil_of_le (by omega)] at hTT
     have : (0 : Nat) = tk := congrArg Prod.fst hTT
     omega
   refine ⟨tn, a + 1, 0, p, rfl, ?_, ?_, ?_⟩
   · rw [then_ok hf]
     exact ⟨by omega, rfl, by rw [List.tail_drop]⟩
   · intro ts y r hX hf'
     cases hX
     rw [hf] at hf'
     cases hf'
     rfl
   refine Touch.ext (S := fun _ => False) ?_ (fun _ _ h => h)
   refine Touch.drew (Touch.alloc ?_ _)
   repeat (refine Touch.setCell ?_ (fun h => absurd h (by dsimp only; omega)) _)
   exact HE.out.touch _
 · have e2 : ((tk : Int) != 2) = true := by simp; omega
   clear h2
   go_wp2_with fail
   have hnum := HTN.out.2 (fun h => by have : tk = 2 := h; rw [this] at e2; exact absurd e2 (by decide))
   have HNUM := Lib.hid hnum
   clear hnum
   refine (rfail_ok c X a d k p 150 _ (H.out.ext (HE.out.alloc _)) HX.out (by decide)).mono ?_
   rintro e w4 ⟨k', p', rfl, hI4, hE4⟩
   unfold sv
   have HI4 := Lib.hid hI4
   have HX4 := Lib.hid (HE.out.trans (((Ext.refl w2).alloc _).trans hE4))
   have hb2 := Ext.block (((Ext.refl w2).alloc _).trans hE4) (Ext.block HE2.out HB2.out)
   clear hI4 hE4 a0 a1 a2 a3 a4 a5 la fa0 fa1 fa2 fa3 fa4 fa5 b0 b1 b2 b3 b4 b5 lb fb0 fb1 fb2 fb3 fb4 fb5
   obtain ⟨b0, b1, b2, b3, b4, b5⟩ := blk6 hb2
   have lb := blk_lt hb2
   have fb0 := blk_frozen hb2 0
   have fb1 := blk_frozen hb2 1
   have fb2 := blk_frozen hb2 2
   have fb3 := blk_frozen hb2 3
   have fb4 := blk_frozen hb2 4
   have fb5 := blk_frozen hb2 5
   clear hb2
   go_wp2
   (try simp only [Exit.inBlock, Exit.then])
   refine bodyPost_ret (v := (.tuple #[.int .i64 (0), .agg #[slv c.g c.all.length c.cap, .int .i64 (a : Int), .int .i64 (c.E : Int), .int .i64 (d : Int), .int .i64 (k' : Int), .int .i64 (p' : Int)]])) (by simp [results, Tryz.results103, go_sem, *]; try rfl) rfl ?_
   refine ⟨0, a, k', p', rfl, ?_, ?_, ?_⟩
   · have h1 := HI4.out
     cases X with
     | error e => exact h1
     | ok ts =>
       have h2 := HNUM.out ts rfl
       rw [then_err h2]
       exact h1
   · intro ts y r hX hf
     rw [HNUM.out ts hX] at hf
     cases hf
   refine Touch.ext (S := fun _ => False) ?_ (fun _ _ h => h)
   repeat (refine Touch.setCell ?_ (fun h => absurd h (by dsimp only; omega)) _)
   exact HX4.out.touch _
structure RsInv (w wr : World) (u : Str) (i : Nat) : Prop where
 ext : Ext w wr
 no : ∀ j, j < i → (rsvT.drop j).take u.length ≠ u
theorem bs_cut (l : Str) (i n : Nat) : (bs l).extract i (i + n) = bs ((l.drop i).take n) := by
 unfold bs
 apply ByteArray.ext
 simp [List.extract_eq_take_drop]
theorem rsv_ok (s : Str) (w : World) (hs : 32 ∉ s) (hl : s.length ≤ 10000) :
  Calls Tryz.prog 99 #[str s] w (fun e w' => e = .returned (.bool (resv s)) ∧ Ext w w') := by
 have HS := Lib.hid hs
 obtain ⟨u, hu⟩ : ∃ z : Str, z = 32 :: (s ++ [32]) := ⟨_, rfl⟩
 obtain ⟨v, hv⟩ : ∃ z : Str, z = 32 :: s := ⟨_, rfl⟩
 have hc1 : ∀ x : World, (Op.stringOp .add ⟨#[32]⟩ (bs s)).run Tryz.prog x = .ok (str v) x := fun x => by rw [hv]; exact cat_ok [32] s x (by simp; omega)
 have hvl : v.length ≤ 10001 := by rw [hv]; simp; omega
 have hc2 : ∀ x : World, (Op.stringOp .add (bs v) ⟨#[32]⟩).run Tryz.prog x = .ok (str u) x := fun x => by rw [hu, show (32 :: (s ++ [32]) : Str) = v ++ [32] by rw [hv]; rfl]; exact cat_ok v [32] x (by simp; omega)
 have HU := Lib.hid hu
 have hul : u.length ≤ 10002 := by rw [hu]; simp; omega
 have hus := bs_size u
 have HU2 : Hid (2 ≤ u.length) := Lib.hid (by rw [hu]; simp)
 clear hs hl hu hv hvl
 go_enter Tryz.func99, Tryz.ntmps99
 go_wp2
 go_loopg [4] 203 (fun gk vj wr => ∃ i : Nat, i + gk = 203 ∧ vj = .int .i64 (i : Int) ∧ RsInv w wr u i)
 case atStart => exact ⟨0, by omega, rfl, Ext.refl _, fun j hj => absurd hj (by omega)⟩
 case round =>
  obtain ⟨i, hik, rfl, hI⟩ := hrel
  have HIK := Lib.hid hik
  have HI := Lib.hid hI
  clear hik hI
  by_cases hi : i + u.length ≤ 203
  · have hii : (i : Int) + (u.length : Int) ≤ 203 := by omega
    have z1 : ∀ x : World, (Instr.slice 9 (.string ⟨#[32, 67, 82, 69, 65, 84, 69, 32, 84, 65, 66, 76, 69, 32, 73, 78, 68, 69, 88, 32, 79, 78, 32, 78, 79, 32, 79, 86, 69, 82, 76, 65, 80, 32, 73, 78, 84, 32, 84, 69, 88, 84, 32, 73, 78, 83, 69, 82, 84, 32, 73, 78, 84, 79, 32, 86, 65, 76, 85, 69, 83, 32, 70, 82, 79, 77, 32, 84, 79, 32, 70, 79, 82, 69, 86, 69, 82, 32, 85, 80, 68, 65, 84, 69, 32, 83, 69, 84, 32, 70, 79, 82, 32, 87, 72, 69, 82, 69, 32, 68, 69, 76, 69, 84, 69, 32, 66, 69, 71, 73, 78, 32, 67, 79, 77, 77, 73, 84, 32, 82, 79, 76, 76, 66, 65, 67, 75, 32, 83, 69, 76, 69, 67, 84, 32, 67, 79, 65, 76, 69, 83, 67, 69, 32, 67, 79, 85, 78, 84, 32, 83, 85, 77, 32, 85, 78, 73, 79, 78, 32, 69, 88, 67, 69, 80, 84, 32, 65, 83, 32, 79, 70, 32, 65, 84, 32, 68, 85, 82, 73, 78, 71, 32, 79, 82, 68, 69, 82, 32, 66, 89, 32, 65, 78, 68, 32, 79, 82, 32, 78, 79, 84, 32]⟩) (some (.int .i64 (i : Int))) (some (.int .i64 ((i : Int) + (u.length : Int)))) none).run Tryz.prog x = .ok (str ((rsvT.drop i).take u.length)) x := fun x => by
      have hb : (⟨#[32, 67, 82, 69, 65, 84, 69, 32, 84, 65, 66, 76, 69, 32, 73, 78, 68, 69, 88, 32, 79, 78, 32, 78, 79, 32, 79, 86, 69, 82, 76, 65, 80, 32, 73, 78, 84, 32, 84, 69, 88, 84, 32, 73, 78, 83, 69, 82, 84, 32, 73, 78, 84, 79, 32, 86, 65, 76, 85, 69, 83, 32, 70, 82, 79, 77, 32, 84, 79, 32, 70, 79, 82, 69, 86, 69, 82, 32, 85, 80, 68, 65, 84, 69, 32, 83, 69, 84, 32, 70, 79, 82, 32, 87, 72, 69, 82, 69, 32, 68, 69, 76, 69, 84, 69, 32, 66, 69, 71, 73, 78, 32, 67, 79, 77, 77, 73, 84, 32, 82, 79, 76, 76, 66, 65, 67, 75, 32, 83, 69, 76, 69, 67, 84, 32, 67, 79, 65, 76, 69, 83, 67, 69, 32, 67, 79, 85, 78, 84, 32, 83, 85, 77, 32, 85, 78, 73, 79, 78, 32, 69, 88, 67, 69, 80, 84, 32, 65, 83, 32, 79, 70, 32, 65, 84, 32, 68, 85, 82, 73, 78, 71, 32, 79, 82, 68, 69, 82, 32, 66, 89, 32, 65, 78, 68, 32, 79, 82, 32, 78, 79, 84, 32]⟩ : ByteArray) = bs rsvT := rfl
      rw [hb, run_slice_string x _ _ _ _ _ _ Tryz.underlying9 (by omega) (by omega) (by rw [bs_size]; show _ ≤ ((203 : Nat) : Int); omega)]
      have h1 : ((i : Int) + (u.length : Int)).toNat = i + u.length := by omega
      rw [h1, Int.toNat_natCast, bs_cut]
    have hbs := bs_toList
    obtain ⟨q, hq⟩ : ∃ q, (rsvT.drop i).take u.length = q := ⟨_, rfl⟩
    have HQ := Lib.hid hq
    rw [hq] at z1
    clear hq
    by_cases hm : q = u
    · have HR : Hid (resv s = true) := Lib.hid ((rsv_iff HS.out).1 ⟨i, by
        have h1 := HQ.out
        rw [hm, HU.out] at h1
        have h2 : (32 :: (s ++ [32]) : Str).length = s.length + 2 := by simp
        rw [h2] at h1
        exact h1⟩)
      have hts : (q == u) = true := by simpa using hm
      clear hm
      go_wp2
      go_ret
      exact ⟨by rw [HR.out]; rfl, HI.out.ext⟩
    · have hts : (q == u) = false := by simpa using hm
      have HM := Lib.hid hm
      clear hm
      go_wp2
      go_roundg (gk - 1)
      case measure => have := HIK.out; have := HU2.out; omega
      case rel => exact ⟨i + 1, by have := HIK.out; have := HU2.out; omega, by go_num, HI.out.ext, fun j hj => by
        rcases Nat.lt_succ_iff_lt_or_eq.1 hj with h | rfl
        · exact HI.out.no j h
        · rw [HQ.out]; exact HM.out⟩
  · have hib : (i : Int) ≤ 203 := by have := HIK.out; omega
    have hww : IntKind.i64.wrap ((i : Int) + (u.length : Int)) = (i : Int) + (u.length : Int) := by rw [IntKind.wrap_i64]; omega
    have hii : decide ((i : Int) + (u.length : Int) ≤ 203) = false := by simp; omega
    have hij : (203 : Int) < (i : Int) + (u.length : Int) := by omega
    have HR : Hid (resv s = false) := Lib.hid (by
      cases h : resv s with
      | false => rfl
      | true =>
        obtain ⟨j, hj⟩ := (rsv_iff HS.out).2 h
        have h2 : u.length = s.length + 2 := by rw [HU.out]; simp
        rw [← h2, ← HU.out] at hj
        by_cases hlt : j < i
        · exact absurd hj (HI.out.no j hlt)
        · have h3 := congrArg List.length hj
          rw [List.length_take, List.length_drop] at h3
          have h4 : rsvT.length = 203 := rfl
          omega)
    go_wp2
    go_ret
    exact ⟨by rw [HR.out]; rfl, HI.out.ext⟩
theorem tokN_good {w : World} {c : Rx} {X : Xs} {a k p : Nat} (h : Rk w c) (hx : In c X a k p) : tokN X = (0, [], 0, 0) ∨ (TokOk (tokN X) ∧ (tokN X).2.1.length ≤ 4096) := by
 obtain ⟨ha, hX⟩ := hx
 cases X with
 | error e => exact .inl rfl
 | ok ts =>
   obtain ⟨rfl, rfl⟩ := hX
   cases hd : c.all.drop a with
   | nil => exact .inl rfl
   | cons t r =>
     have hm : t ∈ c.all := List.mem_of_mem_drop (i := a) (by rw [hd]; simp)
     exact .inr ⟨h.good t hm, h.short t hm⟩
theorem word_no32 {s : Str} (h : WordOk s) : 32 ∉ s := fun hm => by
 have := h.2.1 32 hm
 exact absurd this (by decide)
def nameB (t : Tok) : Bool := t.1 == 1 && !resv t.2.1 && decide (t.2.1.length ≤ 24)
theorem tok_name {X : Xs} {E : Nat} : (nameB (tokN X) = true → ∃ ts, X = .ok ts ∧ name E ts = .ok ((tokN X).2.1, ts.tail)) ∧ (nameB (tokN X) = false → ∀ ts, X = .ok ts → name E ts = bad E 150 ts) := by
 cases X with
 | error e => exact ⟨fun h => absurd h (by simp [tokN, nameB]), fun _ ts h => by cases h⟩
 | ok ts =>
   cases ts with
   | nil => exact ⟨fun h => absurd h (by simp [tokN, nameB]), fun _ ts h => by cases h; rfl⟩
   | cons t r =>
     constructor
     · intro h
       refine ⟨_, rfl, ?_⟩
       have h' : nameT (t :: r) = true := h
       simp [name, h', txt, tokN]
     · intro h ts he
       cases he
       have h' : nameT (t :: r) = false := h
       simp [name, h']
theorem lv_src {w : World} {b : Nat} {T : TypeId} {f : Nat × Nat} {v0 v1 v2 v3 v4 v5 : Value} (h : w.heap[b]? = some (.cells #[v0, v1, v2, v3, v4, v5] T f)) :
  (loadVar 71 ⟨b, 0, none⟩).run Tryz.prog w = .ok (.agg #[v0, v1, v2, v3, v4, v5]) w := by
 have c0 := blk_cell h (i := 0) rfl
 have c1 := blk_cell h (i := 1) rfl
 have c2 := blk_cell h (i := 2) rfl
 have c3 := blk_cell h (i := 3) rfl
 have c4 := blk_cell h (i := 4) rfl
 have c5 := blk_cell h (i := 5) rfl
 simp [go_sem, c0, c1, c2, c3, c4, c5]
theorem lv_ex {w : World} {b : Nat} {T : TypeId} {f : Nat × Nat} {v0 v1 v2 v3 v4 : Value} (h : w.heap[b]? = some (.cells #[v0, v1, v2, v3, v4] T f)) :
  (loadVar 45 ⟨b, 0, none⟩).run Tryz.prog w = .ok (.agg #[v0, v1, v2, v3, v4]) w := by
 obtain ⟨c0, c1, c2, c3, c4⟩ := blk5 h
 simp [go_sem, c0, c1, c2, c3, c4]
theorem lv_per {w : World} {b : Nat} {T : TypeId} {f : Nat × Nat} {v0 v1 : Value} (h : w.heap[b]? = some (.cells #[v0, v1] T f)) :
  (loadVar 28 ⟨b, 0, none⟩).run Tryz.prog w = .ok (.agg #[v0, v1]) w := by
 obtain ⟨c0, c1⟩ := blk2 h
 simp [go_sem, c0, c1]
theorem lv_qu {w : World} {b : Nat} {T : TypeId} {f : Nat × Nat} {v0 v1 v2 v3 v4 v5 v6 : Value} (h : w.heap[b]? = some (.cells #[v0, v1, v2, v3, v4, v5, v6] T f)) :
  (loadVar 49 ⟨b, 0, none⟩).run Tryz.prog w = .ok (.agg #[v0, v1, v2, v3, v4, v5, v6]) w := by
 obtain ⟨c0, c1, c2, c3, c4, c5, c6⟩ := blk7 h
 simp [go_sem, c0, c1, c2, c3, c4, c5, c6]
theorem lv_st {w : World} {b : Nat} {T : TypeId} {f : Nat × Nat} {v0 v1 v2 v3 v4 v5 v6 v7 v8 v9 v10 v11 v12 v13 : Value} (h : w.heap[b]? = some (.cells #[v0, v1, v2, v3, v4, v5, v6, v7, v8, v9, v10, v11, v12, v13] T f)) :
  (loadVar 33 ⟨b, 0, none⟩).run Tryz.prog w = .ok (.agg #[v0, v1, v2, v3, v4, v5, v6, v7, v8, v9, v10, v11, v12, v13]) w := by
 obtain ⟨c0, c1, c2, c3, c4, c5, c6, c7, c8, c9, c10, c11, c12, c13⟩ := blk14 h
 simp [go_sem, c0, c1, c2, c3, c4, c5, c6, c7, c8, c9, c10, c11, c12, c13]
section
variable {fn : Func} {t1 t2 : Tmp} {T1 T2 : TypeId} {tmps : Array Value} {w : World} {v u : Value} {p q : Addr} {P : Program}
theorem res_tc (hr : fn.results = #[.tmp t1, .cell t2 T2]) (hv : tmps.getD t1 undef = v) (h2 : tmps.getD t2 undef = .pointer (some q)) (hu : (loadVar T2 q).run P w = .ok u w) :
  (results fn tmps).run P w = .ok (.tuple #[v, u]) w := by
 rw [Array.getD_eq_getD_getElem?] at hv h2
 unfold results
 rw [hr]
 generalize loadVar = L at hu ⊢
 simp [go_sem, hv, h2, hu]
theorem res_cc (hr : fn.results = #[.cell t1 T1, .cell t2 T2]) (h1 : tmps.getD t1 undef = .pointer (some p)) (hv : (loadVar T1 p).run P w = .ok v w) (h2 : tmps.getD t2 undef = .pointer (some q)) (hu : (loadVar T2 q).run P w = .ok u w) :
  (results fn tmps).run P w = .ok (.tuple #[v, u]) w := by
 rw [Array.getD_eq_getD_getElem?] at h1 h2
 unfold results
 rw [hr]
 generalize loadVar = L at hu hv ⊢
 simp [go_sem, h1, h2, hv, hu]
theorem res_c (hr : fn.results = #[.cell t1 T1]) (h1 : tmps.getD t1 undef = .pointer (some p)) (hv : (loadVar T1 p).run P w = .ok v w) :
  (results fn tmps).run P w = .ok v w := by
 rw [Array.getD_eq_getD_getElem?] at h1
 unfold results
 rw [hr]
 generalize loadVar = L at hv ⊢
 simp [go_sem, h1, hv]
end
theorem rname_ok (c : Rx) (X : Xs) (a d k p : Nat) (w : World) (h : Rk w c) (hx : In c X a k p) :
   Calls Tryz.prog 71 #[sv c a d k p] w (fun e w' => ∃ (n : Str) (a' k' p' : Nat), e = .returned (.tuple #[str n, sv c a' d k' p']) ∧ In c (X.then (name c.E)) a' k' p' ∧ Got X (name c.E) n ∧ Ext w w') := by
 have H := Lib.hid h
 have HX := Lib.hid hx
 have hsm := h.small
 have hle := hx.1
 have HGD := Lib.hid (tokN_good h hx)
 have HTN := Lib.hid (tok_name (X := X) (E := c.E))
 obtain ⟨t, ht⟩ : ∃ t, tokN X = t := ⟨_, rfl⟩
 rw [ht] at HTN HGD
 have HTT := Lib.hid ht
 clear h hx ht
 unfold sv
 have E_w : Hid (Ext w w) := Lib.hid (Ext.refl w)
 go_enter Tryz.func71, Tryz.ntmps71
 go_wp2_with fail
 refine (rnext_ok c X a d k p _ (H.out.ext (xE E_w)) HX.out).mono ?_
 rintro e w2 ⟨rfl, hE⟩
 have n_s_r := ne2 (show w.heap.size ≠ w.heap.size + 1 by omega)
 have E_w2 := aE E_w hE;have Bs_w2 := nk6 (w.heap.size) hE;have Br_w2 := nk6 (w.heap.size + 1) hE
 clear hE
 have z_w2 := E_w2.out.size;have c_s := opn6 Bs_w2;have c_r := opn6 Br_w2
 rw [HTT.out]
 obtain ⟨tk, tt, tn, tp⟩ := t
 unfold tokV
 by_cases h1 : tk = 1
 · have e1 : ((tk : Int) != 1) = false := by simp [h1]
   have hgd : 32 ∉ tt ∧ tt.length ≤ 4096 := by
     rcases HGD.out with h | ⟨h, h'⟩
     · have : tk = 0 := congrArg Prod.fst h
       omega
     · exact ⟨word_no32 (h.1 h1), h'⟩
   have HG2 := Lib.hid hgd
   have H1 := Lib.hid h1
   clear h1 hgd
   go_wp2_with fail
   refine (rsv_ok tt _ HG2.out.1 (by have := HG2.out.2; omega)).mono ?_
   rintro e w3 ⟨rfl, hE⟩
   have n_s_t := ne2 (show w.heap.size ≠ w2.heap.size by omega);have n_r_t := ne2 (show w.heap.size + 1 ≠ w2.heap.size by omega)
   have E_w3 := aE E_w2 hE;have Bs_w3 := bk6 Bs_w2 hE;have Br_w3 := bk6 Br_w2 hE;have Bt_w3 := nk4 (w2.heap.size) hE
   clear hE c_s c_r Bs_w2 Br_w2
   have z_w3 := E_w3.out.size;have c_s := opn6 Bs_w3;have c_r := opn6 Br_w3;have c_t := opn4 Bt_w3
   (try unfold sv)
   have hts := bs_size tt
   by_cases hr : resv tt = true
   · have HNB : Hid (nameB (tk, tt, tn, tp) = false) := Lib.hid (by simp [nameB, hr])
     go_wp2_with fail
     refine (rfail_ok c X a d k p 150 _ (H.out.ext (xE E_w3)) HX.out (by decide)).mono ?_
     rintro e w4 ⟨k', p', rfl, h_I4, hE⟩
     have E_w4 := aE E_w3 hE;have Bs_w4 := bk6 Bs_w3 hE;have Br_w4 := bk6 Br_w3 hE;have Bt_w4 := bk4 Bt_w3 hE;have T_w4 : Hid (Touch (fun b => b = w.heap.size ∨ b = w.heap.size + 1 ∨ b = w2.heap.size) w3 w4) := aT hE
     clear hE c_s c_r c_t Bs_w3 Br_w3 Bt_w3
     have z_w4 := E_w4.out.size;have c_s := opn6 Bs_w4;have c_r := opn6 Br_w4;have c_t := opn4 Bt_w4
     (try unfold sv)
     have I4 := Lib.hid h_I4; clear h_I4
     have HNUM := Lib.hid (HTN.out.2 HNB.out)
     go_wp2
     (try simp only [Exit.inBlock, Exit.then])
     refine bodyPost_ret (v := .tuple #[str [], .agg #[slv c.g c.all.length c.cap, .int .i64 (a : Int), .int .i64 (c.E : Int), .int .i64 (d : Int), .int .i64 (k' : Int), .int .i64 (p' : Int)]]) (res_tc rfl rfl rfl (lv_src (xb6 Br_w4))) rfl ?_
     refine ⟨[], a, k', p', rfl, ?_, ?_, ?_⟩
     · have h1 := I4.out
       cases X with
       | error e => exact h1
       | ok ts => rw [then_err (HNUM.out ts rfl)]; exact h1
     · intro ts y r hX hf
       rw [HNUM.out ts hX] at hf
       cases hf
     exact (xE E_w4)
   · have hr' : resv tt = false := by simpa using hr
     clear hr
     by_cases hl : tt.length ≤ 24
     · have HNB : Hid (nameB (tk, tt, tn, tp) = true) := Lib.hid (by simp [nameB, hr', hl, H1.out])
       have hli : ¬ (24 : Int) < (tt.length : Int) := by omega
       clear hl
       go_wp2
       refine region_calm [.p 0, .l 1, .l 2, .p 3, .h 4 false] f_mixed (by kernel_rfl) (by kernel_rfl) ?_
       repeat ((first | refine plan_p rfl (fun K hK => ?_) | refine plan_l rfl (fun K hK => ?_)); go_simp; refine hK _ ?_; clear hK K)
       refine plan_c rfl rfl (fun K _ hK => ?_)
       go_wp2
       refine plan_done ?_
       go_wp2
       (try simp only [Exit.inBlock, Exit.then])
       refine bodyPost_ret (v := .tuple #[str tt, .agg #[slv c.g c.all.length c.cap, .int .i64 (a + 1 : Int), .int .i64 (c.E : Int), .int .i64 (d : Int), .int .i64 (k : Int), .int .i64 (p : Int)]]) (res_tc rfl rfl rfl (lv_src (xb6 Br_w3))) rfl ?_
       obtain ⟨ts, hX, hf⟩ := HTN.out.1 HNB.out
       have hXX := HX.out
       have hTT := HTT.out
       have h1 := H1.out
       subst hX
       obtain ⟨ha, rfl, rfl⟩ := hXX
       have hlt : a < c.all.length := by
         apply Classical.byContradiction
         intro hn
         rw [List.drop_eq_nil_of_le (by omega)] at hTT
         have : (0 : Nat) = tk := congrArg Prod.fst hTT
         omega
       refine ⟨tt, a + 1, 0, p, rfl, ?_, ?_, ?_⟩
       · rw [then_ok hf]
         exact ⟨by omega, rfl, by rw [List.tail_drop]⟩
       · intro ts y r hX hf'
         cases hX
         rw [hf] at hf'
         cases hf'
         rfl
       exact (xE E_w3)
     · have HNB : Hid (nameB (tk, tt, tn, tp) = false) := Lib.hid (by simp [nameB]; omega)
       have hli : (24 : Int) < (tt.length : Int) := by omega
       clear hl
       go_wp2_with fail
       refine (rfail_ok c X a d k p 150 _ (H.out.ext (xE E_w3)) HX.out (by decide)).mono ?_
       rintro e w4 ⟨k', p', rfl, h_I4, hE⟩
       have E_w4 := aE E_w3 hE;have Bs_w4 := bk6 Bs_w3 hE;have Br_w4 := bk6 Br_w3 hE;have Bt_w4 := bk4 Bt_w3 hE;have T_w4 : Hid (Touch (fun b => b = w.heap.size ∨ b = w.heap.size + 1 ∨ b = w2.heap.size) w3 w4) := aT hE
       clear hE c_s c_r c_t Bs_w3 Br_w3 Bt_w3
       have z_w4 := E_w4.out.size;have c_s := opn6 Bs_w4;have c_r := opn6 Br_w4;have c_t := opn4 Bt_w4
       (try unfold sv)
       have I4 := Lib.hid h_I4; clear h_I4
       have HNUM := Lib.hid (HTN.out.2 HNB.out)
       go_wp2
       (try simp only [Exit.inBlock, Exit.then])
       refine bodyPost_ret (v := .tuple #[str [], .agg #[slv c.g c.all.length c.cap, .int .i64 (a : Int), .int .i64 (c.E : Int), .int .i64 (d : Int), .int .i64 (k' : Int), .int .i64 (p' : Int)]]) (res_tc rfl rfl rfl (lv_src (xb6 Br_w4))) rfl ?_
       refine ⟨[], a, k', p', rfl, ?_, ?_, ?_⟩
       · have h1 := I4.out
         cases X with
         | error e => exact h1
         | ok ts => rw [then_err (HNUM.out ts rfl)]; exact h1
       · intro ts y r hX hf
         rw [HNUM.out ts hX] at hf
         cases hf
       exact (xE E_w4)
 · have e1 : ((tk : Int) != 1) = true := by simp; omega
   have H1 := Lib.hid h1
   clear h1
   have HNB : Hid (nameB (tk, tt, tn, tp) = false) := Lib.hid (by simp [nameB, H1.out])
   go_wp2_with fail
   refine (rfail_ok c X a d k p 150 _ (H.out.ext (xE E_w2)) HX.out (by decide)).mono ?_
   rintro e w4 ⟨k', p', rfl, h_I4, hE⟩
   have n_s_t := ne2 (show w.heap.size ≠ w2.heap.size by omega);have n_r_t := ne2 (show w.heap.size + 1 ≠ w2.heap.size by omega)
   have E_w4 := aE E_w2 hE;have Bs_w4 := bk6 Bs_w2 hE;have Br_w4 := bk6 Br_w2 hE;have Bt_w4 := nk4 (w2.heap.size) hE;have T_w4 : Hid (Touch (S2 w) w2 w4) := aT hE
   clear hE c_s c_r Bs_w2 Br_w2
   have z_w4 := E_w4.out.size;have c_s := opn6 Bs_w4;have c_r := opn6 Br_w4;have c_t := opn4 Bt_w4
   (try unfold sv)
   have I4 := Lib.hid h_I4; clear h_I4
   have HNUM := Lib.hid (HTN.out.2 HNB.out)
   go_wp2
   (try simp only [Exit.inBlock, Exit.then])
   refine bodyPost_ret (v := .tuple #[str [], .agg #[slv c.g c.all.length c.cap, .int .i64 (a : Int), .int .i64 (c.E : Int), .int .i64 (d : Int), .int .i64 (k' : Int), .int .i64 (p' : Int)]]) (res_tc rfl rfl rfl (lv_src (xb6 Br_w4))) rfl ?_
   refine ⟨[], a, k', p', rfl, ?_, ?_, ?_⟩
   · have h1 := I4.out
     cases X with
     | error e => exact h1
     | ok ts => rw [then_err (HNUM.out ts rfl)]; exact h1
   · intro ts y r hX hf
     rw [HNUM.out ts hX] at hf
     cases hf
   exact (xE E_w4)
end Go.Proofs.YtkhnpmeohjafiaaGreatDoor
