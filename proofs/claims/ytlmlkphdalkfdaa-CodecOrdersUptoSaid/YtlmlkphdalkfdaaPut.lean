/- Bytes in memory; codec.Put, walked. -/
import Derived.Test.YtlmlkphdalkfdaaVal
namespace Go.Proofs.Ytlmlkphdalkfdaa
open Go.RowKit

/-- The cells of bytes. -/
def bc (l : List UInt8) : List Value := l.map fun b => .int .u8 (b.toNat : Int)
theorem bc_append (a b : List UInt8) : bc (a ++ b) = bc a ++ bc b := by simp [bc]
theorem bc_len (a : List UInt8) : (bc a).length = a.length := by simp [bc]
theorem bc_get {l : List UInt8} {j : Nat} {x : UInt8} (h : l[j]? = some x) : (bc l)[j]? = some (.int .u8 (x.toNat : Int)) := by simp [bc, h]
theorem bc_one (l : List UInt8) : ∀ u ∈ bc l, u.oneCell' = true := by
  intro u hu
  simp only [bc, List.mem_map] at hu
  obtain ⟨b, _, rfl⟩ := hu
  rfl
theorem ei_byte : EI Try.prog 22 5 1 1 :=
  ⟨Try.underlying22, by
    obtain ⟨i, h1, h2, h3, h4⟩ := info_parts (P := Try.prog) (e := 5) (z := .int .u8 0) (size := 1) (bytes := 1) (by kernel_rfl)
    exact ⟨i, _, h1, h2, h3, h4, rfl⟩, by omega, by omega⟩
/-- The slice holds bytes of the call's own. -/
abbrev Bs (w : World) (g : Option Nat) (n cap : Nat) (l : List UInt8) : Prop := Sl w 5 1 g n cap (bc l)
theorem Sl.bytes {w : World} {g : Option Nat} {n cap : Nat} {l : List UInt8} (h : Bs w g n cap l) : l.length = n := by
  have := h.len; rw [bc_len] at this; omega
theorem Sl.at {w : World} {g : Option Nat} {n cap : Nat} {l : List UInt8} (h : Bs w g n cap l) : BytesAt w (slv g n cap) l := by
  have hn := h.bytes
  subst hn
  refine ⟨adr g, cap, rfl, fun hg => ?_, fun hp => ?_⟩
  · cases g with
    | none => exact h.2.2
    | some b => simp [adr] at hg
  obtain ⟨b, rfl⟩ := h.some_of_pos hp
  exact ⟨b, 0, rfl, fun j x hx => by rw [Nat.zero_add]; exact h.cell (bc_get hx)⟩

/-- append of bytes that lie anywhere. -/
theorem app_bytes {P : Program} {t e : TypeId} (E : EI P t e 1 1) {w : World} {ops : Array Oper} {rest : List Oper} {o : Oper} {a : Act} {Q : Exit → Act → World → Prop} (hgd : o.guard = none) (s x : Operand)
    (ho : o.op = .call { callee := .builtin .append, args := #[s, x], argTypes := #[t, t] })
    {g : Option Nat} {n cap : Nat} {xs : List Value} (hs : a.eval s = slv g n cap) (hown : Sl w e 1 g n cap xs)
    {v : Value} {l : List UInt8} (hx : a.eval x = v) (hv : BytesAt w v l) (hb : n + l.length ≤ 140737488355328)
    (h : ∀ g' cap' w', Sl w' e 1 g' (n + l.length) cap' (xs ++ bc l) → Touch (fun k => g = some k) w w' → (g' = g ∨ g' = some w.heap.size) →
      wpList P ops Q rest (a.put o.dst (slv g' (n + l.length) cap')) w') : wpList P ops Q (o :: rest) a w := by
  obtain ⟨p, c, rfl, hp0, hp⟩ := hv
  by_cases hm : 0 < l.length
  · obtain ⟨b, off, rfl, hc⟩ := hp hm
    refine app_from E hgd s x ho hs hown (b := b) (off := off) hx (by rw [bc_len]; omega) (fun j u hu => ?_) (bc_one l) hm (by omega) ?_
    · simp only [bc, List.getElem?_map] at hu
      cases hl : l[j]? with
      | none => rw [hl] at hu; simp at hu
      | some y => rw [hl] at hu; simp at hu; subst hu; exact hc j y hl
    · intro g' cap' w' k1 k2 k3
      exact h (some g') cap' w' k1 k2 (k3.imp Eq.symm (fun e => by rw [e]))
  · have hl : l = [] := List.eq_nil_of_length_eq_zero (by omega)
    subst hl
    obtain ⟨i, z, hi, hz, h2, h3, h4⟩ := E.info
    cases p with
    | none =>
      rw [hp0 rfl] at hx
      refine wpList_append_own_none hgd s x t ho 0 e i 1 E.und hi (slv g n cap) n xs hs hown.owns hx ?_
      exact h g cap w (by simpa [bc] using hown) (Touch.refl _ _) (.inl rfl)
    | some p =>
      refine wpList_append_own_at w hgd s x t ho 0 e i z 1 1 E.und hi hz h2 h3 h4 E.pos (slv g n cap) n xs hs hown.owns p 0 c [] hx (by simp) (by simp) (by simp) (by simp only [maxLen]; simp at hb; omega) (by simp at hb ⊢; omega) (Nat.zero_le _) ?_
      intro v' w' hown' hgr hnil hat
      have hgr' : Touch (fun k => g = some k) w w' := by
        rw [ownBlock_slv] at hgr
        exact ⟨hgr.os, hgr.tape, hgr.output, hgr.size, fun k hk hn => hgr.block k hk fun e => hn e.symm⟩
      rcases hown'.2 with ⟨rfl, h0⟩ | ⟨g', cap', cur, rfl, _, hgg, h5, h6, h7, h8⟩
      · obtain rfl : n = 0 := by omega
        have hx0 : xs = [] := List.eq_nil_of_length_eq_zero (by simpa using hown.len)
        subst hx0
        have := hnil.1 rfl
        have hg : g = none := by
          cases g with
          | none => rfl
          | some b => simp [slv, adr] at this
        subst hg
        exact h none 0 w' ⟨by simp [bc], by simp, rfl⟩ hgr' (.inl rfl)
      · refine h (some g') cap' w' (Sl.of_owns hown') hgr' ?_
        rw [ownBlock_slv] at hat
        exact hat

/-- append of the bytes y, at least one, that lie in a block of their own; out is the call's own (behind W). -/
theorem app_own {P : Program} {W w : World} {ops : Array Oper} {rest : List Oper} {o : Oper} {a : Act} {Q : Exit → Act → World → Prop} (E : EI P 22 5 1 1) (hgd : o.guard = none) (s x : Operand)
    (ho : o.op = .call { callee := .builtin .append, args := #[s, x], argTypes := #[22, 22] })
    {g : Option Nat} {cap : Nat} {out : List UInt8} (hs : a.eval s = slv g out.length cap) (hown : Bs w g out.length cap out) (hg : ∀ b, g = some b → W.heap.size ≤ b) (hE : Ext W w)
    (y : List UInt8) {b m c : Nat} {e' : TypeId} {f : Nat × Nat} (hx : a.eval x = .slice (some ⟨b, 0, none⟩) m c) (hy : y.length = m) (hm : 0 < m) (hnews : w.heap[b]? = some (.cells (bc y).toArray e' f)) (hb : out.length + m ≤ 140737488355328)
    (h : ∀ g' cap' w', Bs w' (some g') (out.length + m) cap' (out ++ y) → W.heap.size ≤ g' → Ext W w' → Touch (fun k => g = some k) w w' → (g = some g' ∨ g' = w.heap.size) →
      wpList P ops Q rest (a.put o.dst (.slice (some ⟨g', 0, none⟩) (out.length + m) cap')) w') : wpList P ops Q (o :: rest) a w := by
  refine app_lit E hgd s x ho hs hown hx (by rw [bc_len]; omega) hnews (bc_one y) hm (by omega) ?_
  intro g2 cap2 w2 hS2 hT2 hat2
  refine h g2 cap2 w2 ?_ ?_ ?_ hT2 hat2
  · unfold Bs; rw [bc_append]; exact hS2
  · rcases hat2 with h | h
    · exact hg _ h
    · have := hE.size; omega
  · exact Touch.ext ((hE.touch _).trans' hT2 (fun i hi h => h)) (fun i hi e => by have := hg i e; omega)

/-- The lowest s bytes of n, the highest of them first. -/
def numBE (n : Nat) : Nat → List UInt8
  | 0 => []
  | s + 1 => UInt8.ofNat (n / 256 ^ s) :: numBE n s
theorem numBE_len (n : Nat) : ∀ s, (numBE n s).length = s
  | 0 => rfl
  | s + 1 => by simp [numBE, numBE_len n s]
/-- How many bytes Put writes. -/
def putN (size : Int) : Nat := (min (max size 0) 8).toNat

theorem shr_eq (n i : Nat) (hi : i < 8) : (n : Int) / 2 ^ (8 * i) = ((n / 256 ^ i : Nat) : Int) := by
  rw [Int.natCast_ediv, Int.natCast_pow, Int.pow_mul]; rfl

theorem u8_of (m : Nat) : IntKind.u8.wrap (m : Int) = ((UInt8.ofNat m).toNat : Int) := by
  rw [IntKind.wrap_u8', UInt8.toNat_ofNat']
  omega

set_option maxHeartbeats 4000000 in
theorem Put_ok (v : Value) (l : List UInt8) (n : Nat) (size : Int) (w : World) (hv : BytesAt w v l) (hn : n < 18446744073709551616) (hl : l.length ≤ 1000000000000) (hs1 : -9223372036854775808 ≤ size) (hs2 : size ≤ 9223372036854775807) :
    Calls Try.prog 20 #[v, .int .u64 (n : Int), .int .i64 size] w
      (fun e w' => ∃ g cap, e = .returned (slv g (l.length + putN size) cap) ∧ Bs w' g (l.length + putN size) cap (l ++ numBE n (putN size)) ∧ (∀ b, g = some b → w.heap.size ≤ b) ∧ Ext w w') := by
  have hpn : (putN size : Int) = min (max size 0) 8 := by unfold putN; omega
  have hp8 : putN size ≤ 8 := by omega
  have hlo : -9223372036854775808 ≤ min (max size 0) 8 - 1 ∧ min (max size 0) 8 - 1 ≤ 7 := by omega
  go_enter Try.func20, Try.ntmps20
  go_wp2_with (at_builtin; refine app_bytes ei_byte rfl (.tmp 9) (.tmp 10) rfl (g := some w.heap.size) (n := 0) (cap := 0) (by rfl) (xs := []) ⟨by simp, #[], blk_new w _, by omega, by decide, by simp, by simp⟩ (by rfl) (hv.ext ((Ext.refl w).alloc _)) (by omega) ?_)
  intro g1 cap1 w1 hS1 hT1 hat1
  have hS1' : Bs w1 g1 l.length cap1 l := by simpa using hS1
  have hg1 : ∀ b, g1 = some b → w.heap.size ≤ b := fun b hb => by
    subst hb
    rcases hat1 with h | h <;> simp at h <;> omega
  have hE1 : Ext w w1 := Touch.ext ((((Ext.refl w).alloc _).touch _).trans hT1) (fun i hi e => by omega)
  have HS1 := Lib.hid hS1'; clear hS1 hS1' hT1 hat1
  have HG1 := Lib.hid hg1; clear hg1 hv
  generalize hS : putN size = S at *
  have hcases : (size < 0 ∧ S = 0) ∨ (8 < size ∧ S = 8) ∨ (0 ≤ size ∧ size ≤ 8 ∧ (S : Int) = size) := by omega
  have HPN := Lib.hid hS; clear hpn hlo hS
  rcases hcases with ⟨h1, rfl⟩ | ⟨h1, rfl⟩ | ⟨h1, h2, h3⟩
  · have h1' : ¬ 0 ≤ size := by omega
    go_wp2
    go_loopg [7, 8] 0 (fun k v7 v8 wr => ∃ g cap out, v7 = slv g out.length cap ∧ v8 = .int .i64 ((k : Int) - 1) ∧ k ≤ 0 ∧ out.length + k = l.length + 0 ∧ out ++ numBE n k = l ++ numBE n 0 ∧ Bs wr g out.length cap out ∧ (∀ b, g = some b → w.heap.size ≤ b) ∧ Ext w wr)
    case atStart => exact ⟨g1, cap1, l, rfl, by go_num, Nat.le_refl _, rfl, rfl, HS1.out, HG1.out, hE1⟩
    case round =>
      obtain ⟨g, cap, out, rfl, rfl, hks, hol, ho, hB, hg, hE⟩ := hrel
      have HO := Lib.hid ho; clear ho
      have HB := Lib.hid hB; clear hB
      have HG := Lib.hid hg; clear hg
      have HOL := Lib.hid hol; clear hol
      cases gk with
      | zero =>
        go_wp2
        go_ret
        have e1 := HOL.out
        have e2 := HO.out
        have e3 := HB.out
        have e4 : out = l ++ numBE n 0 := by rw [← e2]; simp [numBE]
        refine ⟨g, cap, ?_, ?_, HG.out, hE⟩
        · rw [HPN.out, ← e1]; rfl
        · rw [HPN.out, ← e4, ← e1]; exact e3
      | succ i => omega
  · have h1' : ¬ size < 0 := by omega
    have h1'' : ¬ size ≤ 8 := by omega
    go_wp2
    go_loopg [7, 8] 8 (fun k v7 v8 wr => ∃ g cap out, v7 = slv g out.length cap ∧ v8 = .int .i64 ((k : Int) - 1) ∧ k ≤ 8 ∧ out.length + k = l.length + 8 ∧ out ++ numBE n k = l ++ numBE n 8 ∧ Bs wr g out.length cap out ∧ (∀ b, g = some b → w.heap.size ≤ b) ∧ Ext w wr)
    case atStart => exact ⟨g1, cap1, l, rfl, by go_num, Nat.le_refl _, rfl, rfl, HS1.out, HG1.out, hE1⟩
    case round =>
      obtain ⟨g, cap, out, rfl, rfl, hks, hol, ho, hB, hg, hE⟩ := hrel
      have HO := Lib.hid ho; clear ho
      have HB := Lib.hid hB; clear hB
      have HG := Lib.hid hg; clear hg
      have HOL := Lib.hid hol; clear hol
      cases gk with
      | zero =>
        go_wp2
        go_ret
        have e1 := HOL.out
        have e2 := HO.out
        have e3 := HB.out
        have e4 : out = l ++ numBE n 8 := by rw [← e2]; simp [numBE]
        refine ⟨g, cap, ?_, ?_, HG.out, hE⟩
        · rw [HPN.out, ← e1]; rfl
        · rw [HPN.out, ← e4, ← e1]; exact e3
      | succ i =>
        have hki : ((i + 1 : Nat) : Int) - 1 = (i : Int) := by omega
        have hi8 : i < 8 := by omega
        have hmul : wrap64 (8 * (i : Int)) = 8 * (i : Int) := by unfold wrap64; omega
        have hmin : min (8 * i) 64 = 8 * i := Nat.min_eq_left (by omega)
        have hsh := shr_eq n i hi8
        have hu8 := u8_of (n / 256 ^ i)
        have hq : numBE n (i + 1) = UInt8.ofNat (n / 256 ^ i) :: numBE n i := rfl
        generalize n / 256 ^ i = q at hsh hu8 hq
        have HQ := Lib.hid hq; clear hq
        generalize UInt8.ofNat q = x at *
        go_wp2_with (at_builtin; refine app_own (W := w) ei_byte rfl (.tmp 20) (.tmp 26) rfl (g := g) (cap := cap) (by rfl) (HB.out.ext ((Ext.refl wr).alloc _)) HG.out (hE.alloc _) [x] (by rfl) (by rfl) (by omega) (blk_new wr _) (by have := HOL.out; omega) ?_)
        intro g2 cap2 w2 hB2 hg2 hE2 _ _
        have hlen2 : out.length + 1 = (out ++ [x]).length := by simp
        have HB2 := Lib.hid hB2; clear hB2
        have HG2 := Lib.hid hg2; clear hg2
        have HL2 := Lib.hid hlen2; clear hlen2
        go_wp2
        go_roundg i
        case measure => omega
        case rel => exact ⟨some g2, cap2, out ++ [x], by rw [← HL2.out]; rfl, by go_num, by omega, by have := HOL.out; have := HL2.out; omega, by have := HO.out; rw [HQ.out] at this; simpa using this, by rw [← HL2.out]; exact HB2.out, fun b e => by cases e; exact HG2.out, hE2⟩
  · have h1' : ¬ size < 0 := by omega
    have h3' : size - 1 = (S : Int) - 1 := by omega
    have H3 := Lib.hid h3; clear h3
    go_wp2
    go_loopg [7, 8] S (fun k v7 v8 wr => ∃ g cap out, v7 = slv g out.length cap ∧ v8 = .int .i64 ((k : Int) - 1) ∧ k ≤ S ∧ out.length + k = l.length + S ∧ out ++ numBE n k = l ++ numBE n S ∧ Bs wr g out.length cap out ∧ (∀ b, g = some b → w.heap.size ≤ b) ∧ Ext w wr)
    case atStart => exact ⟨g1, cap1, l, rfl, by go_num, Nat.le_refl _, rfl, rfl, HS1.out, HG1.out, hE1⟩
    case round =>
      obtain ⟨g, cap, out, rfl, rfl, hks, hol, ho, hB, hg, hE⟩ := hrel
      have HO := Lib.hid ho; clear ho
      have HB := Lib.hid hB; clear hB
      have HG := Lib.hid hg; clear hg
      have HOL := Lib.hid hol; clear hol
      cases gk with
      | zero =>
        go_wp2
        go_ret
        have e1 := HOL.out
        have e2 := HO.out
        have e3 := HB.out
        have e4 : out = l ++ numBE n S := by rw [← e2]; simp [numBE]
        refine ⟨g, cap, ?_, ?_, HG.out, hE⟩
        · rw [HPN.out, ← e1]; rfl
        · rw [HPN.out, ← e4, ← e1]; exact e3
      | succ i =>
        have hki : ((i + 1 : Nat) : Int) - 1 = (i : Int) := by omega
        have hi8 : i < 8 := by omega
        have hmul : wrap64 (8 * (i : Int)) = 8 * (i : Int) := by unfold wrap64; omega
        have hmin : min (8 * i) 64 = 8 * i := Nat.min_eq_left (by omega)
        have hsh := shr_eq n i hi8
        have hu8 := u8_of (n / 256 ^ i)
        have hq : numBE n (i + 1) = UInt8.ofNat (n / 256 ^ i) :: numBE n i := rfl
        generalize n / 256 ^ i = q at hsh hu8 hq
        have HQ := Lib.hid hq; clear hq
        generalize UInt8.ofNat q = x at *
        go_wp2_with (at_builtin; refine app_own (W := w) ei_byte rfl (.tmp 20) (.tmp 26) rfl (g := g) (cap := cap) (by rfl) (HB.out.ext ((Ext.refl wr).alloc _)) HG.out (hE.alloc _) [x] (by rfl) (by rfl) (by omega) (blk_new wr _) (by have := HOL.out; omega) ?_)
        intro g2 cap2 w2 hB2 hg2 hE2 _ _
        have hlen2 : out.length + 1 = (out ++ [x]).length := by simp
        have HB2 := Lib.hid hB2; clear hB2
        have HG2 := Lib.hid hg2; clear hg2
        have HL2 := Lib.hid hlen2; clear hlen2
        go_wp2
        go_roundg i
        case measure => omega
        case rel => exact ⟨some g2, cap2, out ++ [x], by rw [← HL2.out]; rfl, by go_num, by omega, by have := HOL.out; have := HL2.out; omega, by have := HO.out; rw [HQ.out] at this; simpa using this, by rw [← HL2.out]; exact HB2.out, fun b e => by cases e; exact HG2.out, hE2⟩

end Go.Proofs.Ytlmlkphdalkfdaa
