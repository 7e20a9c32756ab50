/- codec.Decode, walked. -/
import Derived.Test.YtlmlkphdalkfdaaText
import Derived.Tactics2
import Derived.Defers
import Derived.Recover
import Derived.Laws.Pointers
namespace Go.Proofs.Ytlmlkphdalkfdaa
open Go.RowKit

section
variable {P : Program} {ops : Array Oper} {Q : Exit → Act → List Frame → World → Prop} {cs cs' : List Frame}
/-- The operations that do not recover, walked as ever. -/
theorem wpOpsS_list {K : Act → World → Prop} (hK : ∀ a w, K a w → Q .normal a cs w) : ∀ (l : List Nat) (a : Act) (w : World),
    wpList P ops (Exit.then K (fun _ _ _ => False)) (l.filterMap fun i => ops[i]?) a w → wpOpsS P ops Q l a cs w
  | [], a, w, h => hK a w h
  | i :: rest, a, w, h => by
    unfold wpOpsS
    cases ho : ops[i]? with
    | none =>
      simp only [List.filterMap_cons, ho] at h
      exact wpOpsS_list hK rest a w h
    | some o =>
      simp only [List.filterMap_cons, ho] at h
      unfold wpList at h
      simp only []
      split at h
      · rename_i hw
        rw [if_pos hw]
        rcases h with h | ⟨_, a0, w0, h0⟩
        · unfold Oper.wp at h
          generalize (execOp a.eval o).run P w = r at h ⊢
          cases r with
          | ok n w' =>
            cases n <;> simp only [Oper.upon] at h ⊢
            case value v => exact wpOpsS_list hK rest _ _ h
            case skip => exact wpOpsS_list hK rest _ _ h
            case defer d => exact wpOpsS_list hK rest _ _ h
            case enter f args =>
              refine h.mono fun e w'' he => ?_
              cases e with
              | returned v => exact wpOpsS_list hK rest _ _ he
              | panicked c => exact he.elim
              | outgrown => obtain ⟨_, _, he⟩ := he; exact he.elim
            case row row args => exact h.mono fun v w'' he => wpOpsS_list hK rest _ _ he
          | halt x w' => cases x <;> simp only [Oper.upon] at h ⊢; exact h.elim
        · exact h0.elim
      · rename_i hw
        rw [if_neg hw]
        exact wpOpsS_list hK rest _ _ h
theorem wpOpsS_recover {i : Nat} {rest : List Nat} {o : Oper} {a : Act} {w w' : World} {v : Value} {r : List Oper} (ho : ops.toList.drop i = o :: r) (hg : o.guard = none) (hr : (execOp a.eval o).run P w = .ok .recover w') (hc : recoverD cs = some (v, cs'))
    (h : wpOpsS P ops Q rest (a.put o.dst v) cs' w') : wpOpsS P ops Q (i :: rest) a cs w := by
  unfold wpOpsS
  simp only [at_drop ho, Region.wanted, hg, if_true, hr, hc]
  exact h
theorem wpOpsS_idle {i : Nat} {rest : List Nat} {o : Oper} {a : Act} {w w' : World} {r : List Oper} (ho : ops.toList.drop i = o :: r) (hg : o.guard = none) (hr : (execOp a.eval o).run P w = .ok .recover w') (hc : recoverD cs = none)
    (h : wpOpsS P ops Q rest (a.put o.dst .nilIface) cs w') : wpOpsS P ops Q (i :: rest) a cs w := by
  unfold wpOpsS
  simp only [at_drop ho, Region.wanted, hg, if_true, hr, hc]
  exact h
/-- A region whose first operation recovers. -/
theorem wpS_region_rec {id : Nat} {a : Act} {w w' : World} {rest : List Nat} {o : Oper} {v : Value} {r : List Oper} (K : Act → World → Prop) (hl : List.range ops.size = 0 :: rest) (ho : ops.toList.drop 0 = o :: r) (hg : o.guard = none)
    (hr : (execOp a.eval o).run P w = .ok .recover w') (hc : recoverD cs = some (v, cs')) (hK : ∀ a w, K a w → Q .normal a cs' w) (hls : (rest.filterMap fun i => ops[i]?) = r)
    (h : wpList P ops (Exit.then K (fun _ _ _ => False)) r (a.put o.dst v) w') : (Code.region id ops false).wpS P Q a cs w := by
  rw [← hls] at h
  refine wpS_region ?_
  rw [hl]
  exact wpOpsS_recover ho hg hr hc (wpOpsS_list hK _ _ _ h)
theorem wpS_region_idle {id : Nat} {a : Act} {w w' : World} {rest : List Nat} {o : Oper} {r : List Oper} (K : Act → World → Prop) (hl : List.range ops.size = 0 :: rest) (ho : ops.toList.drop 0 = o :: r) (hg : o.guard = none)
    (hr : (execOp a.eval o).run P w = .ok .recover w') (hc : recoverD cs = none) (hK : ∀ a w, K a w → Q .normal a cs w) (hls : (rest.filterMap fun i => ops[i]?) = r)
    (h : wpList P ops (Exit.then K (fun _ _ _ => False)) r (a.put o.dst .nilIface) w') : (Code.region id ops false).wpS P Q a cs w := by
  rw [← hls] at h
  refine wpS_region ?_
  rw [hl]
  exact wpOpsS_idle ho hg hr hc (wpOpsS_list hK _ _ _ h)
end

theorem assert_yes (w : World) (v : Value) : (Instr.typeAssert (.iface 64 v) 20 64 true).run Try.prog w = .ok (.tuple #[v, .bool true]) w := by kernel_rfl
theorem assert_no (w : World) : (Instr.typeAssert .nilIface 20 64 true).run Try.prog w = .ok (.tuple #[.agg #[.int .i64 0, .int .i64 0], .bool false]) w := by kernel_rfl

set_option maxHeartbeats 4000000 in
theorem catch_panicking (vb fb : Nat) (code q : Int) (vs0 f0 f1 : Value) (w : World) (hv : w.heap[vb]? = some (.cells #[vs0] 28 (0, 0))) (hf : w.heap[fb]? = some (.cells #[f0, f1] 37 (0, 0))) (hne : vb ≠ fb) :
    CallsD Try.prog 28 #[.pointer (some ⟨vb, 0, none⟩), .pointer (some ⟨fb, 0, none⟩)] (.panicking (broken code q)) w fun e u' w' =>
      e = .returned (.tuple #[]) ∧ u' = .panicking [{ v := .iface 64 (.agg #[.int .i64 code, .int .i64 q]), recovered := true }] ∧
      w'.heap[vb]? = some (.cells #[.slice none 0 0] 28 (0, 0)) ∧ w'.heap[fb]? = some (.cells #[.int .i64 code, .int .i64 q] 37 (0, 0)) ∧ Touch (fun b => b = vb ∨ b = fb) w w' := by
  refine callsD_of_wpS Try.func28 rfl fun c₀ cs hu => ?_
  rw [show (#[Value.pointer (some ⟨vb, 0, none⟩), .pointer (some ⟨fb, 0, none⟩)] ++ Array.replicate (Try.f28.ntmps - #[Value.pointer (some ⟨vb, 0, none⟩), Value.pointer (some ⟨fb, 0, none⟩)].size) undef) =
    #[Value.pointer (some ⟨vb, 0, none⟩), .pointer (some ⟨fb, 0, none⟩), undef, undef, undef, undef, undef, undef, undef, undef, undef, undef] from by rw [Try.ntmps28]; rfl]
  apply wpS_seq
  have hmode : recoverD (c₀ :: cs) = some (.iface 64 (.agg #[.int .i64 code, .int .i64 q]), { c₀ with mode := .panicking [{ v := .iface 64 (.agg #[.int .i64 code, .int .i64 q]), recovered := true }] } :: cs) := by simp [recoverD, hu]
  refine wpS_region_rec (rest := [1, 2, 3, 4, 5, 6, 7]) (fun a w' => Code.wp Try.prog _ (fun e a' w' => _) a w') (by kernel_rfl) rfl rfl (w' := w) rfl hmode (fun a w' h => wpS_of_wp h) (by kernel_rfl) ?h5
  generalize hcs : ({ c₀ with mode := .panicking [{ v := .iface 64 (.agg #[.int .i64 code, .int .i64 q]), recovered := true }] } : Frame) = c1
  have HCS := Lib.hid hcs
  have v0 := blk1 hv
  obtain ⟨v1, v2⟩ := blk2 hf
  have z0 := blk_frozen hv 0
  clear hmode hcs
  have hta := assert_yes
  go_wp2
  clear hta
  have hE : Ext w (w.alloc (.cells #[.int .i64 code, .int .i64 q] 64)) := (Ext.refl w).alloc _
  have hv' := Ext.block hE hv
  have hf' := Ext.block hE hf
  obtain ⟨x0, x1⟩ := blk2 (blk_new w (.cells #[.int .i64 code, .int .i64 q] 64))
  have hnb : vb < w.heap.size ∧ fb < w.heap.size := ⟨blk_lt hv, blk_lt hf⟩
  clear v0 v1 v2 z0
  generalize w.alloc (.cells #[.int .i64 code, .int .i64 q] 64) = W at *
  generalize w.heap.size = xb at *
  have v0 := blk1 hv'
  obtain ⟨v1, v2⟩ := blk2 hf'
  have z0 := blk_frozen hv' 0
  have z1 := blk_frozen hf' 0
  have z2 := blk_frozen hf' 1
  have hn1 : ¬ vb = xb := by omega
  have hn2 : ¬ fb = xb := by omega
  go_region
  refine ⟨rfl, .panicking [{ v := .iface 64 (.agg #[.int .i64 code, .int .i64 q]), recovered := true }], by rw [← HCS.out], .tuple #[], results_none rfl _ _ _, rfl, rfl, ?_, ?_, ?_⟩
  · exact blk_set_ne (blk_set_ne (blk_set hv' 0 _) hne _) hne _
  · exact blk_set (blk_set (blk_set_ne hf' (fun e => hne e.symm) _) 0 _) 1 _
  · exact ((((hE.touch (fun b => b = vb ∨ b = fb)).setCell (p := ⟨vb, 0, none⟩) (fun _ => .inl rfl) _).setCell (p := ⟨fb, 0, none⟩) (fun _ => .inr rfl) _).setCell (p := ⟨fb, 1, none⟩) (fun _ => .inr rfl) _).drew

set_option maxHeartbeats 4000000 in
theorem catch_idle (vb fb : Nat) (w : World) :
    CallsD Try.prog 28 #[.pointer (some ⟨vb, 0, none⟩), .pointer (some ⟨fb, 0, none⟩)] .returning w fun e u' w' =>
      e = .returned (.tuple #[]) ∧ u' = .returning ∧ Ext w w' := by
  refine callsD_of_wpS Try.func28 rfl fun c₀ cs hu => ?_
  rw [show (#[Value.pointer (some ⟨vb, 0, none⟩), .pointer (some ⟨fb, 0, none⟩)] ++ Array.replicate (Try.f28.ntmps - #[Value.pointer (some ⟨vb, 0, none⟩), Value.pointer (some ⟨fb, 0, none⟩)].size) undef) =
    #[Value.pointer (some ⟨vb, 0, none⟩), .pointer (some ⟨fb, 0, none⟩), undef, undef, undef, undef, undef, undef, undef, undef, undef, undef] from by rw [Try.ntmps28]; rfl]
  apply wpS_seq
  have hmode : recoverD (c₀ :: cs) = none := by simp [recoverD, hu]
  refine wpS_region_idle (rest := [1, 2, 3, 4, 5, 6, 7]) (fun a w' => Code.wp Try.prog _ (fun e a' w' => _) a w') (by kernel_rfl) rfl rfl (w' := w) rfl hmode (fun a w' h => wpS_of_wp h) (by kernel_rfl) ?h5
  have HU := Lib.hid hu
  clear hmode hu
  have hta := assert_no
  go_wp2
  refine ⟨rfl, .returning, by rw [← HU.out], .tuple #[], results_none rfl _ _ _, rfl, rfl, (Ext.refl w).alloc _⟩

end Go.Proofs.Ytlmlkphdalkfdaa
