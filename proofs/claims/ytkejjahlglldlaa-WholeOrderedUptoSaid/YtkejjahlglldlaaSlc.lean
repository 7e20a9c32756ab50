/- Slices that a call owns: their reading, and append. No program is named here. -/
import Derived.Test.YtkejjahlglldlaaMem
import Derived.Maps.AppendAt
import Derived.Laws.AppendOwnNone
namespace Go.Proofs.Ytkejjahlglldlaa
open Go.RowKit

def adr : Option Nat → Option Addr
  | none => none
  | some b => some ⟨b, 0, none⟩
abbrev ptr (v : Option Nat) : Value := .pointer (adr v)
abbrev slv (g : Option Nat) (n cap : Nat) : Value := .slice (adr g) n cap

/-- The slice (block g, n elements of 'size' cells each, capacity cap) holds the cells xs. -/
def Sl (w : World) (e : TypeId) (size : Nat) (g : Option Nat) (n cap : Nat) (xs : List Value) : Prop :=
  xs.length = n * size ∧
  match g with
  | none => n = 0 ∧ cap = 0
  | some b => ∃ cur, w.heap[b]? = some (.cells cur e (0, 0)) ∧ n ≤ cap ∧ cap ≤ maxLen ∧ cur.size = cap * size ∧ cur.toList.take (n * size) = xs

/-- The slice type t has elements e of 'size' cells and 'bytes' bytes. -/
structure EI (P : Program) (t e : TypeId) (size bytes : Nat) : Prop where
  und : P.underlying t = some (.slice e)
  info : ∃ i z, P.info? e = some i ∧ i.zero = some z ∧ i.size = size ∧ i.bytes = bytes ∧ z.cells.size = size
  pos : 0 < size
  bpos : 0 < bytes

section
variable {w w' : World} {e : TypeId} {size : Nat} {g : Option Nat} {n cap : Nat} {xs : List Value}

theorem ownBlock_slv (g : Option Nat) (n cap : Nat) : (slv g n cap).ownBlock = g := by cases g <;> rfl
theorem Sl.nil (w : World) (e : TypeId) (size : Nat) : Sl w e size none 0 0 [] := ⟨by simp, rfl, rfl⟩
theorem Sl.owns (h : Sl w e size g n cap xs) : w.ownsRow 0 e size (slv g n cap) n xs := by
  refine ⟨h.1, ?_⟩
  cases g with
  | none => obtain ⟨_, rfl, rfl⟩ := h; exact .inl ⟨rfl, rfl⟩
  | some b => obtain ⟨_, cur, hb, h1, h2, h3, h4⟩ := h; exact .inr ⟨b, cap, cur, rfl, Nat.zero_le _, hb, h1, h2, h3, h4⟩
theorem Sl.of_owns {base b : Nat} (h : w.ownsRow base e size (.slice (some ⟨b, 0, none⟩) n cap) n xs) : Sl w e size (some b) n cap xs := by
  refine ⟨h.1, ?_⟩
  rcases h.2 with ⟨h, _⟩ | ⟨b', cap', cur, h, _, hb, h1, h2, h3, h4⟩
  · cases h
  · simp only [Value.slice.injEq, Option.some.injEq, Addr.mk.injEq, and_true, true_and] at h
    obtain ⟨rfl, rfl⟩ := h
    exact ⟨cur, hb, h1, h2, h3, h4⟩
theorem Sl.block_lt {b : Nat} (h : Sl w e size (some b) n cap xs) : b < w.heap.size := by
  obtain ⟨_, cur, hb, _⟩ := h; exact blk_lt hb
theorem Sl.cell {b : Nat} (h : Sl w e size (some b) n cap xs) {j : Nat} {u : Value} (hu : xs[j]? = some u) : w.cell? ⟨b, j, none⟩ = some u := by
  obtain ⟨_, cur, hb, _, _, _, h4⟩ := h
  refine blk_cell hb ?_
  rw [← h4, List.getElem?_take] at hu
  split at hu
  · simpa using hu
  · cases hu
theorem Sl.congr (h : Sl w e size g n cap xs) (hc : ∀ b, g = some b → w'.heap[b]? = w.heap[b]?) : Sl w' e size g n cap xs := by
  refine ⟨h.1, ?_⟩
  cases g with
  | none => exact h.2
  | some b => obtain ⟨_, cur, hb, r⟩ := h; exact ⟨cur, by rw [hc b rfl]; exact hb, r⟩
theorem Sl.touch {S : Nat → Prop} (h : Sl w e size g n cap xs) (ht : Touch S w w') (hn : ∀ b, g = some b → ¬ S b) : Sl w' e size g n cap xs :=
  h.congr fun b hb => ht.block b (by subst hb; exact h.block_lt) (hn b hb)
theorem Sl.ext (h : Sl w e size g n cap xs) (ht : Ext w w') : Sl w' e size g n cap xs :=
  h.congr fun b hb => Below.block ht b (by subst hb; exact h.block_lt)
theorem Sl.len (h : Sl w e size g n cap xs) : xs.length = n * size := h.1
theorem Sl.le (h : Sl w e size g n cap xs) : n ≤ cap := by
  cases g with
  | none => obtain ⟨_, rfl, rfl⟩ := h; exact Nat.le_refl _
  | some b => obtain ⟨_, _, _, h1, _⟩ := h; exact h1
theorem Sl.some_of_pos (h : Sl w e size g n cap xs) (hn : 0 < n) : ∃ b, g = some b := by
  cases g with
  | none => obtain ⟨_, rfl, rfl⟩ := h; omega
  | some b => exact ⟨b, rfl⟩
end

theorem adr_some (b : Nat) : adr (some b) = some ⟨b, 0, none⟩ := rfl

/-- An element's address, the slice's block under a name. -/
theorem run_index_slv {P : Program} {t e : TypeId} {size bytes : Nat} (E : EI P t e size bytes) {g : Option Nat} {b n cap j : Nat} (hg : g = some b) (hj : j < n) (w : World) :
    (Instr.indexAt t (slv g n cap) (.int .i64 (j : Int))).run P w = .ok (.pointer (some ⟨b, j * size, none⟩)) w := by
  subst hg
  obtain ⟨i, z, hi, hz, h2, h3, h4⟩ := E.info
  have h0 : (0 : Int) ≤ (j : Int) ∧ (j : Int) < (n : Int) := ⟨by omega, by omega⟩
  have ha : (⟨b, 0, none⟩ : Addr).add (j * size) = ⟨b, j * size, none⟩ := by
    unfold Addr.add
    split
    · rename_i h; rw [h]
    · simp
  simp [Instr.indexAt, asIntOf, run_underlying E.und, adr_some, sizeOf, typeInfo, hi, h2, hj, ha]

section
variable {P : Program} {w : World} {ops : Array Oper} {rest : List Oper} {o : Oper} {a : Act} {Q : Exit → Act → World → Prop}

/-- append of at least one element, the cells to be appended lying from address ⟨b, off⟩ on. -/
theorem app_from {t e : TypeId} {size bytes : Nat} (E : EI P t e size bytes) (hgd : o.guard = none) (s x : Operand)
    (ho : o.op = .call { callee := .builtin .append, args := #[s, x], argTypes := #[t, t] })
    {g : Option Nat} {n cap : Nat} {xs : List Value} (hs : a.eval s = slv g n cap) (hown : Sl w e size g n cap xs)
    {b off m c : Nat} {news : List Value} (hx : a.eval x = .slice (some ⟨b, off, none⟩) m c) (hl : news.length = m * size)
    (hnews : ∀ j u, news[j]? = some u → w.cell? ⟨b, off + j, none⟩ = some u) (h1 : ∀ u ∈ news, u.oneCell' = true) (hm : 0 < m) (hb : (n + m) * bytes ≤ 140737488355328)
    (h : ∀ g' cap' w', Sl w' e size (some g') (n + m) cap' (xs ++ news) → Touch (fun k => g = some k) w w' → (g = some g' ∨ g' = w.heap.size) →
      wpList P ops Q rest (a.put o.dst (.slice (some ⟨g', 0, none⟩) (n + m) cap')) w') : wpList P ops Q (o :: rest) a w := by
  obtain ⟨i, z, hi, hz, h2, h3, h4⟩ := E.info
  have h63 : n + m ≤ maxLen := by
    have := Nat.le_mul_of_pos_right (n + m) E.bpos
    simp only [maxLen]
    omega
  refine wpList_append_own_at w hgd s x t ho 0 e i z size bytes E.und hi hz h2 h3 h4 E.pos (slv g n cap) n xs hs hown.owns ⟨b, off, none⟩ m c news hx hl ?_ h1 h63 hb (Nat.zero_le _) ?_
  · intro j u hu
    have := hnews j u hu
    unfold Addr.add
    split
    · rename_i hj; subst hj; exact this
    · exact this
  · intro v' w' hown' hgr hnil hat
    rcases hown'.2 with ⟨_, h0⟩ | ⟨g', cap', cur, rfl, _, hgg, h5, h6, h7, h8⟩
    · omega
    · refine h g' cap' w' (Sl.of_owns hown') ?_ ?_
      · rw [ownBlock_slv] at hgr
        exact ⟨hgr.os, hgr.tape, hgr.output, hgr.size, fun k hk hn => hgr.block k hk fun e => hn e.symm⟩
      · rw [ownBlock_slv] at hat
        rcases hat with hat | hat
        · exact .inl hat.symm
        · exact .inr (Option.some.inj hat)

/-- append of a literal: the elements lie in a block that is known whole. -/
theorem app_lit {t e : TypeId} {size bytes : Nat} (E : EI P t e size bytes) (hgd : o.guard = none) (s x : Operand)
    (ho : o.op = .call { callee := .builtin .append, args := #[s, x], argTypes := #[t, t] })
    {g : Option Nat} {n cap : Nat} {xs : List Value} (hs : a.eval s = slv g n cap) (hown : Sl w e size g n cap xs)
    {b m c : Nat} {news : List Value} {e' : TypeId} {f : Nat × Nat} (hx : a.eval x = .slice (some ⟨b, 0, none⟩) m c) (hl : news.length = m * size)
    (hnews : w.heap[b]? = some (.cells news.toArray e' f)) (h1 : ∀ u ∈ news, u.oneCell' = true) (hm : 0 < m) (hb : (n + m) * bytes ≤ 140737488355328)
    (h : ∀ g' cap' w', Sl w' e size (some g') (n + m) cap' (xs ++ news) → Touch (fun k => g = some k) w w' → (g = some g' ∨ g' = w.heap.size) →
      wpList P ops Q rest (a.put o.dst (.slice (some ⟨g', 0, none⟩) (n + m) cap')) w') : wpList P ops Q (o :: rest) a w :=
  app_from E hgd s x ho hs hown hx hl (fun j u hu => by rw [Nat.zero_add]; exact blk_cell hnews (by simpa using hu)) h1 hm hb h

/-- append of the elements of a slice (perhaps none). -/
theorem app_sl {t e : TypeId} {size bytes : Nat} (E : EI P t e size bytes) (hgd : o.guard = none) (s x : Operand)
    (ho : o.op = .call { callee := .builtin .append, args := #[s, x], argTypes := #[t, t] })
    {g : Option Nat} {n cap : Nat} {xs : List Value} (hs : a.eval s = slv g n cap) (hown : Sl w e size g n cap xs)
    {g2 : Option Nat} {m c : Nat} {news : List Value} (hx : a.eval x = slv g2 m c) (hown2 : Sl w e size g2 m c news) (h1 : ∀ u ∈ news, u.oneCell' = true) (hb : (n + m) * bytes ≤ 140737488355328)
    (h : ∀ g' cap' w', Sl w' e size g' (n + m) cap' (xs ++ news) → Touch (fun k => g = some k) w w' → (g' = g ∨ g' = some w.heap.size) →
      wpList P ops Q rest (a.put o.dst (slv g' (n + m) cap')) w') : wpList P ops Q (o :: rest) a w := by
  obtain ⟨i, z, hi, hz, h2, h3, h4⟩ := E.info
  cases g2 with
  | none =>
    obtain ⟨hl, rfl, rfl⟩ := hown2
    have hn : news = [] := List.eq_nil_of_length_eq_zero (by simpa using hl)
    subst hn
    refine wpList_append_own_none hgd s x t ho 0 e i size E.und hi (slv g n cap) n xs hs hown.owns hx ?_
    exact h g cap w (by simpa using hown) (Touch.refl _ _) (.inl rfl)
  | some b2 =>
    by_cases hm : 0 < m
    · refine app_from E hgd s x ho hs hown (b := b2) (off := 0) hx hown2.len (fun j u hu => by rw [Nat.zero_add]; exact hown2.cell hu) h1 hm hb ?_
      intro g' cap' w' k1 k2 k3
      exact h (some g') cap' w' k1 k2 (k3.imp Eq.symm (fun e => by rw [e]))
    · obtain rfl : m = 0 := by omega
      have hl := hown2.len
      have hn : news = [] := List.eq_nil_of_length_eq_zero (by simpa using hl)
      subst hn
      have h63 : n + 0 ≤ maxLen := by
        have := Nat.le_mul_of_pos_right (n + 0) E.bpos
        simp only [maxLen]
        omega
      refine wpList_append_own_at w hgd s x t ho 0 e i z size bytes E.und hi hz h2 h3 h4 E.pos (slv g n cap) n xs hs hown.owns ⟨b2, 0, none⟩ 0 c [] hx hl (by simp) (by simp) h63 hb (Nat.zero_le _) ?_
      intro v' w' hown' hgr hnil hat
      have hgr' : Touch (fun k => g = some k) w w' := by
        rw [ownBlock_slv] at hgr
        exact ⟨hgr.os, hgr.tape, hgr.output, hgr.size, fun k hk hn => hgr.block k hk fun e => hn e.symm⟩
      rcases hown'.2 with ⟨rfl, h0⟩ | ⟨g', cap', cur, rfl, _, hgg, h5, h6, h7, h8⟩
      · obtain rfl : n = 0 := by omega
        have hx0 : xs = [] := List.eq_nil_of_length_eq_zero (by simpa using hown.len)
        subst hx0
        have := hnil.1 rfl
        have hg : g = none := by
          cases g with
          | none => rfl
          | some b => simp [slv, adr] at this
        subst hg
        exact h none 0 w' ⟨by simp, by simp, rfl⟩ hgr' (.inl rfl)
      · refine h (some g') cap' w' (Sl.of_owns hown') hgr' ?_
        rw [ownBlock_slv] at hat
        exact hat
end
end Go.Proofs.Ytkejjahlglldlaa
