/- Maps whose keys are 64 bit integers: what lookup, store, delete and len do. No program is named here. -/
import Derived.Test.YtcildmdmgjehbaaMem
namespace Go.Proofs.Ytcildmdmgjehbaa
open Go.RowKit

/-- Block m is a map that reads as M, in the order of its entries. -/
def MapI (w : World) (m : Nat) (M : List (Int × Value)) : Prop :=
  ∃ es clock, w.heap[m]? = some (.map es clock) ∧ es.toList.map (fun e => (e.key, e.val)) = M.map (fun p => (Value.int .i64 p.1, p.2))

def lookI (id : Int) : List (Int × Value) → Nat → Option (Nat × Value)
  | [], _ => none
  | (k, v) :: M, i => if id = k then some (i, v) else lookI id M (i + 1)

theorem MapI.lt {w : World} {m : Nat} {M : List (Int × Value)} (h : MapI w m M) : m < w.heap.size := by
  obtain ⟨es, c, hb, _⟩ := h; exact blk_lt hb
theorem MapI.congr {w w' : World} {m : Nat} {M : List (Int × Value)} (h : MapI w m M) (hc : w'.heap[m]? = w.heap[m]?) : MapI w' m M := by
  obtain ⟨es, c, hb, h⟩ := h; exact ⟨es, c, by rw [hc]; exact hb, h⟩
theorem MapI.touch {S : Nat → Prop} {w w' : World} {m : Nat} {M : List (Int × Value)} (h : MapI w m M) (ht : Touch S w w') (hn : ¬ S m) : MapI w' m M :=
  h.congr (ht.block m h.lt hn)
theorem MapI.ext {w w' : World} {m : Nat} {M : List (Int × Value)} (h : MapI w m M) (ht : Ext w w') : MapI w' m M := h.congr (Below.block ht m h.lt)
theorem MapI.new (w : World) : MapI (w.alloc (.map #[] 0)) w.heap.size [] := ⟨#[], 0, blk_new _ _, rfl⟩

theorem findNow_int (id : Int) : ∀ (es : List MapEntry) (M : List (Int × Value)) (i : Nat), es.map (fun e => (e.key, e.val)) = M.map (fun p => (Value.int .i64 p.1, p.2)) →
    Instr.findNow (.int .i64) (.int .i64 id) es i = some (lookI id M i)
  | [], [], _, _ => rfl
  | [], _ :: _, _, h => by simp at h
  | _ :: _, [], _, h => by simp at h
  | e :: es, (k, v) :: M, i, h => by
    simp only [List.map_cons, List.cons.injEq, Prod.mk.injEq] at h
    obtain ⟨⟨h1, h2⟩, h3⟩ := h
    have ih := findNow_int id es M (i + 1) h3
    simp only [Instr.findNow, h1, Instr.sameNow, if_true, lookI]
    by_cases hk : id = k
    · subst hk; simp [h2]
    · have hk' : (id == k) = false := by simpa using hk
      simp [hk, hk', ih]

theorem map_eraseIdx' {α β : Type} (f : α → β) : ∀ (l : List α) (i : Nat), (l.eraseIdx i).map f = (l.map f).eraseIdx i
  | [], _ => by simp
  | a :: l, 0 => by simp
  | a :: l, i + 1 => by simp [map_eraseIdx' f l i]

section
variable {P : Program} {T K E : TypeId} {w : World} {m : Nat} {M : List (Int × Value)}

theorem run_checkKey_int (hK : P.underlying K = some (.int .i64)) (b : Bool) (id : Int) (w : World) : (Instr.checkKey b 10000 K (.int .i64 id)).run P w = .ok () w := by
  have h : ∀ n, (Instr.checkKey b (n + 1) K (.int .i64 id)).run P w = .ok () w := fun n => by
    simp [Instr.checkKey, run_underlying hK]
  exact h 9999

theorem run_findKey_int (hK : P.underlying K = some (.int .i64)) (id : Int) {es : Array MapEntry} (h : es.toList.map (fun e => (e.key, e.val)) = M.map (fun p => (Value.int .i64 p.1, p.2))) (w : World) :
    (Instr.findKey K (.int .i64 id) es.toList).run P w = .ok (lookI id M 0) w := by
  simp only [Instr.findKey, Sem.run_bind, run_underlying hK, Result.andThen_ok, findNow_int id es.toList M 0 h, Sem.run_pure]

theorem map_look (hT : P.underlying T = some (.map K E)) (hK : P.underlying K = some (.int .i64)) {z : Value} (hz : (P.info? E).map (·.zero) = some (some z)) (h : MapI w m M) (id : Int) :
    (Instr.lookup T (.map (some m)) (.int .i64 id) true).run P w = .ok (.tuple #[((lookI id M 0).map (·.2)).getD z, .bool (lookI id M 0).isSome]) w := by
  obtain ⟨es, c, hb, he⟩ := h
  have hz' : (zeroValue E).run P w = .ok z w := by
    cases hi : P.info? E with
    | none => rw [hi] at hz; simp at hz
    | some i => rw [hi] at hz; simp at hz; simp [zeroValue, typeInfo, hi, hz]
  cases hl : lookI id M 0 with
  | none => simp [Instr.lookup, run_underlying hT, getObj, Sem.run, hb, run_checkKey_int hK, run_findKey_int hK id he, hl, hz']
  | some q => obtain ⟨j, v⟩ := q; simp [Instr.lookup, run_underlying hT, getObj, Sem.run, hb, run_checkKey_int hK, run_findKey_int hK id he, hl]

theorem map_put (hT : P.underlying T = some (.map K E)) (hK : P.underlying K = some (.int .i64)) (h : MapI w m M) (id : Int) (v : Value) (hl : lookI id M 0 = none) :
    ∃ w2, (Instr.mapUpdate T (.map (some m)) (.int .i64 id) v).run P w = .ok () w2 ∧ MapI w2 m (M ++ [(id, v)]) ∧ Touch (fun k => k = m) w w2 := by
  obtain ⟨es, c, hb, he⟩ := h
  refine ⟨{ w with heap := w.heap.setIfInBounds m (.map (es.push { key := .int .i64 id, val := v, born := c }) (c + 1)) }, ?_, ?_, ?_⟩
  · simp [Instr.mapUpdate, run_underlying hT, getObj, setObj, Sem.run, hb, run_checkKey_int hK, run_findKey_int hK id he, hl]
  · refine ⟨es.push { key := .int .i64 id, val := v, born := c }, c + 1, ?_, ?_⟩
    · simp [blk_lt hb]
    · simp [he]
  · exact Touch.setObj (S := fun k => k = m) (Touch.refl _ w) (fun _ => rfl) _

theorem lookI_at (id : Int) : ∀ (M : List (Int × Value)) (i j : Nat) (v : Value), lookI id M i = some (j, v) → i ≤ j ∧ j - i < M.length
  | [], _, _, _, h => by simp [lookI] at h
  | (k, u) :: M, i, j, v, h => by
    simp only [lookI] at h
    split at h
    · simp at h; obtain ⟨rfl, rfl⟩ := h; simp
    · have := lookI_at id M (i + 1) j v h; simp; omega

theorem map_del (hT : P.underlying T = some (.map K E)) (hK : P.underlying K = some (.int .i64)) (h : MapI w m M) (id : Int) {j : Nat} {v : Value} (hl : lookI id M 0 = some (j, v)) {K' ty : TypeId} :
    ∃ w2, (Builtin.delete_ #[T, K'] ty #[.map (some m), .int .i64 id]).run P w = .ok (.tuple #[]) w2 ∧ MapI w2 m (M.eraseIdx j) ∧ Touch (fun k => k = m) w w2 := by
  obtain ⟨es, c, hb, he⟩ := h
  refine ⟨{ w with heap := w.heap.setIfInBounds m (.map (es.eraseIdxIfInBounds j) c) }, ?_, ?_, ?_⟩
  · simp [Builtin.delete_, run_underlying hT, getObj, setObj, Sem.run, hb, run_checkKey_int hK, run_findKey_int hK id he, hl]
  · refine ⟨es.eraseIdxIfInBounds j, c, ?_, ?_⟩
    · simp [blk_lt hb]
    · have hlen : es.toList.length = M.length := by have := congrArg List.length he; simpa using this
      have hj : j < es.size := by have := lookI_at id M 0 j v hl; simp at hlen; omega
      simp only [Array.eraseIdxIfInBounds, hj, dif_pos]
      rw [Array.toList_eraseIdx, map_eraseIdx', he, ← map_eraseIdx']
  · exact Touch.setObj (S := fun k => k = m) (Touch.refl _ w) (fun _ => rfl) _

theorem map_len (hT : P.underlying T = some (.map K E)) (h : MapI w m M) {ty : TypeId} :
    (Builtin.len_ #[T] ty #[.map (some m)]).run P w = .ok (.int .i64 M.length) w := by
  obtain ⟨es, c, hb, he⟩ := h
  have hlen : es.toList.length = M.length := by have := congrArg List.length he; simpa using this
  simp [Builtin.len_, run_underlying hT, getObj, Sem.run, hb, goInt]
  have : es.size = M.length := by simpa using hlen
  rw [this]
end
end Go.Proofs.Ytcildmdmgjehbaa
