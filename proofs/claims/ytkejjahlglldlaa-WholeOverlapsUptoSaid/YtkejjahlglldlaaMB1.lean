/- Bytes, values, Check, Put, Encode: walked. The reading of values: walked. -/
import Derived.Test.YtkejjahlglldlaaMA
import Derived.Test.YtkejjahlglldlaaProg
import Derived.WalkKit
import Derived.Laws.BitsAllLaws
import Derived.LoopTactic
import Derived.Deep.LoopGhost
import Derived.Lib.Hide
import Derived.Laws.MakeOwn
import Derived.Great.BuildSlice
import Derived.Deep.WholeRow
import Derived.WalkSpells
import Derived.WalkLawsBesides
import Derived.Laws.IdiomStrings
import Derived.Tactics2
import Derived.Defers
import Derived.Recover
import Derived.Laws.Pointers
namespace Go.Proofs.Ytkejjahlglldlaa
open Go.RowKit

theorem byte_lt (x : UInt8) : x.toNat < 256 := by have := x.toNat_lt; simpa using this
/-- The slice v holds the bytes l. -/
def BytesAt (w : World) (v : Value) (l : List UInt8) : Prop :=
  ∃ a c, v = .slice a l.length c ∧ (a = none → c = 0) ∧ (0 < l.length → ∃ b off, a = some ⟨b, off, none⟩ ∧ ∀ j x, l[j]? = some x → w.cell? ⟨b, off + j, none⟩ = some (.int .u8 (x.toNat : Int)))
theorem BytesAt.ext {w w' : World} {v : Value} {l : List UInt8} (h : BytesAt w v l) (he : Ext w w') : BytesAt w' v l := by
  obtain ⟨a, c, h1, h0, h2⟩ := h
  refine ⟨a, c, h1, h0, fun hl => ?_⟩
  obtain ⟨b, off, h3, h4⟩ := h2 hl
  exact ⟨b, off, h3, fun j x hx => Ext.cell he (h4 j x hx)⟩
theorem BytesAt.nil (w : World) : BytesAt w (.slice none 0 0) [] := ⟨none, 0, rfl, fun _ => rfl, fun h => by simp at h⟩

theorem f_mixed : Try.prog.follows .mixedOrders = true := by kernel_rfl
/-- A string of these bytes. -/
def bs (l : List UInt8) : ByteArray := ByteArray.mk l.toArray
abbrev str (l : List UInt8) : Value := .string (bs l)
theorem bs_size (l : List UInt8) : (bs l).size = l.length := by simp [bs, ByteArray.size]
theorem bs_toList (l : List UInt8) : (bs l).toList = l := ByteArray.toList_mk l
theorem bs_get {l : List UInt8} {j : Nat} {x : UInt8} (hj : l[j]? = some x) (h : j < (bs l).size) : (bs l)[j]'h = x := by
  have hl : j < l.length := (List.getElem?_eq_some_iff.1 hj).1
  have : l[j] = x := (List.getElem?_eq_some_iff.1 hj).2
  rw [← this]
  rfl
theorem empty_toList : (ByteArray.mk #[]).toList = [] := ByteArray.toList_mk []

theorem top_eq (p b : Nat) (hp : p < 2) (hb : b < 2) : (IntKind.i64.wrap ((p : Int) + (b : Int))).tmod 2 = (((p + b) % 2 : Nat) : Int) := by
  rw [IntKind.wrap_i64, Int.tmod_eq_emod_of_nonneg (by omega)]; omega

theorem val_eq (x t p : Nat) (hx : x < 2) (ht : t < 2) (hp : p < 2) : ((x : Int) + (t : Int) * (p : Int)) % 2 = (((x + t * p) % 2 : Nat) : Int) := by
  omega

/-- A value: its kind, its number, its text. -/
abbrev V := Int × Int × List UInt8
def cellsV (v : V) : List Value := [.int .i64 v.1, .int .i64 v.2.1, str v.2.2]
def flatV (vs : List V) : List Value := vs.flatMap cellsV
/-- The slice of values at a. -/
def Vals (w : World) (a : Option Addr) (vs : List V) : Prop :=
  0 < vs.length → ∃ lb off, a = some ⟨lb, off, none⟩ ∧ ∀ i v, vs[i]? = some v →
    w.cell? ⟨lb, off + i * 3, none⟩ = some (.int .i64 v.1) ∧ w.cell? ⟨lb, off + i * 3 + 1, none⟩ = some (.int .i64 v.2.1) ∧ w.cell? ⟨lb, off + i * 3 + 2, none⟩ = some (str v.2.2)
theorem Vals.ext {w w' : World} {a : Option Addr} {vs : List V} (h : Vals w a vs) (he : Ext w w') : Vals w' a vs := fun hn => by
  obtain ⟨lb, off, h1, h2⟩ := h hn
  exact ⟨lb, off, h1, fun i v hv => ⟨Ext.cell he (h2 i v hv).1, Ext.cell he (h2 i v hv).2.1, Ext.cell he (h2 i v hv).2.2⟩⟩
theorem flatV_get : ∀ (vs : List V) (k : Nat) (v : V), vs[k]? = some v → (flatV vs)[k * 3]? = some (.int .i64 v.1) ∧ (flatV vs)[k * 3 + 1]? = some (.int .i64 v.2.1) ∧ (flatV vs)[k * 3 + 2]? = some (str v.2.2)
  | [], k, v, h => by simp at h
  | u :: vs, 0, v, h => by simp at h; subst h; simp [flatV, cellsV]
  | u :: vs, k + 1, v, h => by
    have := flatV_get vs k v (by simpa using h)
    rw [show (k + 1) * 3 = k * 3 + 3 from by omega]
    simpa [flatV, cellsV] using this
theorem flatV_append (a b : List V) : flatV (a ++ b) = flatV a ++ flatV b := by simp [flatV]
theorem flatV_len (a : List V) : (flatV a).length = a.length * 3 := by
  induction a with
  | nil => rfl
  | cons v a ih => simp [flatV, cellsV] at ih ⊢; omega
theorem Sl.vals {w : World} {g : Option Nat} {n cap : Nat} {vs : List V} (h : Sl w 93 3 g n cap (flatV vs)) : Vals w (adr g) vs ∧ vs.length = n := by
  have hn : vs.length = n := by have := h.len; rw [flatV_len] at this; omega
  refine ⟨fun hp => ?_, hn⟩
  obtain ⟨b, rfl⟩ := h.some_of_pos (by omega)
  refine ⟨b, 0, rfl, fun i v hv => ?_⟩
  obtain ⟨h0, h1, h2⟩ := flatV_get vs i v hv
  rw [Nat.zero_add]
  exact ⟨h.cell h0, h.cell h1, h.cell h2⟩

/-- The error's number of one value, of many. -/
def checkV (v : V) : Int := if v.1 = 1 then (if v.2.2 = [] then 0 else 21) else if v.1 = 2 ∧ v.2.1 = 0 then (if v.2.2.length ≤ 64 then 0 else 2) else 21
def checkL : List V → Int
  | [] => 0
  | v :: vs => if checkV v = 0 then checkL vs else checkV v
theorem checkL_at : ∀ (vs : List V) (i : Nat), (∀ (j : Nat) (v : V), j < i → vs[j]? = some v → checkV v = 0) → ∀ v, vs[i]? = some v → checkV v ≠ 0 → checkL vs = checkV v
  | [], i, _, v, h, _ => by simp at h
  | u :: vs, 0, _, v, h, hv => by simp at h; subst h; simp [checkL, hv]
  | u :: vs, i + 1, hl, v, h, hv => by
    have h0 := hl 0 u (by omega) (by simp)
    simp only [checkL, h0, if_true]
    exact checkL_at vs i (fun j v hj hv => hl (j + 1) v (by omega) (by simpa using hv)) v (by simpa using h) hv
theorem checkL_all : ∀ (vs : List V), (∀ (j : Nat) (v : V), vs[j]? = some v → checkV v = 0) → checkL vs = 0
  | [], _ => rfl
  | u :: vs, hl => by
    have h0 := hl 0 u (by simp)
    simp only [checkL, h0, if_true]
    exact checkL_all vs fun j v hv => hl (j + 1) v (by simpa using hv)
theorem checkL_zero : ∀ (vs : List V), checkL vs = 0 → ∀ v ∈ vs, checkV v = 0
  | [], _, v, hv => by cases hv
  | u :: vs, h, v, hv => by
    simp only [checkL] at h
    split at h
    · rename_i hu
      rcases List.mem_cons.1 hv with rfl | hv
      · exact hu
      · exact checkL_zero vs h v hv
    · rename_i hu; exact absurd h hu

set_option maxRecDepth 100000 in
set_option maxHeartbeats 4000000 in
theorem Check_ok (a : Option Addr) (n cap : Nat) (vs : List V) (w : World) (hn : vs.length = n) (hc : Vals w a vs) (hsz : n ≤ 140737488355328) (ht : ∀ v ∈ vs, v.2.2.length ≤ 140737488355328) :
    Calls Try.prog 37 #[.slice a n cap] w (fun e w' => e = .returned (.int .i64 (checkL vs)) ∧ Ext w w') := by
  have HN := Lib.hid hn; clear hn
  have HC := Lib.hid hc; clear hc
  have HT := Lib.hid ht; clear ht
  have hem := empty_toList
  go_enter Try.func37, Try.ntmps37
  go_wp2
  go_loopg [7] n (fun k v7 wr => ∃ i : Nat, i + k = n ∧ v7 = .int .i64 i ∧ Ext w wr ∧ ∀ (j : Nat) (v : V), j < i → vs[j]? = some v → checkV v = 0)
  case atStart => exact ⟨0, by omega, rfl, Ext.refl _, fun j v hj => by omega⟩
  case round =>
    obtain ⟨i, hik, rfl, hEr, hall⟩ := hrel
    have HALL := Lib.hid hall; clear hall
    by_cases hlt : i < n
    · obtain ⟨lb, off, ha, hcell⟩ := (HC.out.ext hEr) (by have := HN.out; omega)
      subst ha
      obtain ⟨⟨kk, m, t⟩, hv⟩ : ∃ v, vs[i]? = some v := ⟨vs[i]'(by rw [HN.out]; exact hlt), by rw [List.getElem?_eq_getElem]⟩
      obtain ⟨c0, c1, c2⟩ := hcell i _ hv
      have htl : t.length ≤ 140737488355328 := HT.out _ (List.mem_of_getElem? hv)
      have HV := Lib.hid hv; clear hv hcell
      simp only [] at c0 c1 c2
      have hsz := bs_size t
      have htl2 := bs_toList t
      have HIK := Lib.hid hik; clear hik
      by_cases g1 : kk = 1
      · have hk1 : (kk == 1) = true := by simp [g1]
        have hk2 : (kk == 2) = false := by simp [g1]
        by_cases g2 : t = []
        · have ht' : t.isEmpty = true := by simp [g2]
          have hck : checkV (kk, m, t) = 0 := by simp [checkV, *]
          have HCK := Lib.hid hck
          clear hck g1 g2
          go_wp2
          go_roundg (gk - 1)
          case measure => have := HIK.out; omega
          case rel => exact ⟨i + 1, by have := HIK.out; omega, by go_num, hEr.alloc _, fun j v hj hv => by
            rcases Nat.lt_or_ge j i with hji | hji
            · exact HALL.out j v hji hv
            · have : j = i := by omega
              subst this
              rw [HV.out] at hv
              cases hv
              exact HCK.out⟩
        · have ht' : t.isEmpty = false := by simp [g2]
          have hck : checkV (kk, m, t) = 21 := by simp [checkV, *]
          have hfin := checkL_at vs i HALL.out _ HV.out (by rw [hck]; decide)
          have hfin2 : checkL vs = 21 := by rw [hfin, hck]
          have HF := Lib.hid hfin2
          clear hck hfin hfin2 g1 g2
          go_wp2
          go_ret
          exact ⟨by rw [HF.out]; rfl, hEr.alloc _⟩
      · have hk1 : (kk == 1) = false := by simp [g1]
        by_cases g2 : kk = 2
        · have hk2 : (kk == 2) = true := by simp [g2]
          by_cases g3 : m = 0
          · have hm0 : (m == 0) = true := by simp [g3]
            by_cases g4 : t.length ≤ 64
            · have g4' : decide ((t.length : Int) ≤ 64) = true := by simp; omega
              have hck : checkV (kk, m, t) = 0 := by simp [checkV, *]
              have HCK := Lib.hid hck
              clear hck g1 g2 g3 g4
              go_wp2
              go_roundg (gk - 1)
              case measure => have := HIK.out; omega
              case rel => exact ⟨i + 1, by have := HIK.out; omega, by go_num, hEr.alloc _, fun j v hj hv => by
                rcases Nat.lt_or_ge j i with hji | hji
                · exact HALL.out j v hji hv
                · have : j = i := by omega
                  subst this
                  rw [HV.out] at hv
                  cases hv
                  exact HCK.out⟩
            · have g4' : decide ((t.length : Int) ≤ 64) = false := by simp; omega
              have hck : checkV (kk, m, t) = 2 := by simp [checkV, *]
              have hfin := checkL_at vs i HALL.out _ HV.out (by rw [hck]; decide)
              have hfin2 : checkL vs = 2 := by rw [hfin, hck]
              have HF := Lib.hid hfin2
              clear hck hfin hfin2 g1 g2 g3 g4
              go_wp2
              go_ret
              exact ⟨by rw [HF.out]; rfl, hEr.alloc _⟩
          · have hm0 : (m == 0) = false := by simp [g3]
            have hck : checkV (kk, m, t) = 21 := by simp [checkV, *]
            have hfin := checkL_at vs i HALL.out _ HV.out (by rw [hck]; decide)
            have hfin2 : checkL vs = 21 := by rw [hfin, hck]
            have HF := Lib.hid hfin2
            clear hck hfin hfin2 g1 g2 g3
            go_wp2
            go_ret
            exact ⟨by rw [HF.out]; rfl, hEr.alloc _⟩
        · have hk2 : (kk == 2) = false := by simp [g2]
          have hck : checkV (kk, m, t) = 21 := by simp [checkV, *]
          have hfin := checkL_at vs i HALL.out _ HV.out (by rw [hck]; decide)
          have hfin2 : checkL vs = 21 := by rw [hfin, hck]
          have HF := Lib.hid hfin2
          clear hck hfin hfin2 g1 g2
          go_wp2
          go_ret
          exact ⟨by rw [HF.out]; rfl, hEr.alloc _⟩
    · have hfin : checkL vs = 0 := checkL_all vs fun j v hv => HALL.out j v (by have := (List.getElem?_eq_some_iff.1 hv).1; have := HN.out; omega) hv
      go_wp2
      go_ret
      exact ⟨by rw [hfin]; rfl, hEr⟩

/-- The cells of bytes. -/
def bc (l : List UInt8) : List Value := l.map fun b => .int .u8 (b.toNat : Int)
theorem bc_append (a b : List UInt8) : bc (a ++ b) = bc a ++ bc b := by simp [bc]
theorem bc_len (a : List UInt8) : (bc a).length = a.length := by simp [bc]
theorem bc_get {l : List UInt8} {j : Nat} {x : UInt8} (h : l[j]? = some x) : (bc l)[j]? = some (.int .u8 (x.toNat : Int)) := by simp [bc, h]
theorem bc_one (l : List UInt8) : ∀ u ∈ bc l, u.oneCell' = true := by
  intro u hu
  simp only [bc, List.mem_map] at hu
  obtain ⟨b, _, rfl⟩ := hu
  rfl
theorem ei_byte : EI Try.prog 30 5 1 1 :=
  ⟨Try.underlying30, by
    obtain ⟨i, h1, h2, h3, h4⟩ := info_parts (P := Try.prog) (e := 5) (z := .int .u8 0) (size := 1) (bytes := 1) (by kernel_rfl)
    exact ⟨i, _, h1, h2, h3, h4, rfl⟩, by omega, by omega⟩
/-- The slice holds bytes of the call's own. -/
abbrev Bs (w : World) (g : Option Nat) (n cap : Nat) (l : List UInt8) : Prop := Sl w 5 1 g n cap (bc l)
theorem Sl.bytes {w : World} {g : Option Nat} {n cap : Nat} {l : List UInt8} (h : Bs w g n cap l) : l.length = n := by
  have := h.len; rw [bc_len] at this; omega
theorem Sl.at {w : World} {g : Option Nat} {n cap : Nat} {l : List UInt8} (h : Bs w g n cap l) : BytesAt w (slv g n cap) l := by
  have hn := h.bytes
  subst hn
  refine ⟨adr g, cap, rfl, fun hg => ?_, fun hp => ?_⟩
  · cases g with
    | none => exact h.2.2
    | some b => simp [adr] at hg
  obtain ⟨b, rfl⟩ := h.some_of_pos hp
  exact ⟨b, 0, rfl, fun j x hx => by rw [Nat.zero_add]; exact h.cell (bc_get hx)⟩

/-- append of bytes that lie anywhere. -/
theorem app_bytes {P : Program} {t e : TypeId} (E : EI P t e 1 1) {w : World} {ops : Array Oper} {rest : List Oper} {o : Oper} {a : Act} {Q : Exit → Act → World → Prop} (hgd : o.guard = none) (s x : Operand)
    (ho : o.op = .call { callee := .builtin .append, args := #[s, x], argTypes := #[t, t] })
    {g : Option Nat} {n cap : Nat} {xs : List Value} (hs : a.eval s = slv g n cap) (hown : Sl w e 1 g n cap xs)
    {v : Value} {l : List UInt8} (hx : a.eval x = v) (hv : BytesAt w v l) (hb : n + l.length ≤ 140737488355328)
    (h : ∀ g' cap' w', Sl w' e 1 g' (n + l.length) cap' (xs ++ bc l) → Touch (fun k => g = some k) w w' → (g' = g ∨ g' = some w.heap.size) →
      wpList P ops Q rest (a.put o.dst (slv g' (n + l.length) cap')) w') : wpList P ops Q (o :: rest) a w := by
  obtain ⟨p, c, rfl, hp0, hp⟩ := hv
  by_cases hm : 0 < l.length
  · obtain ⟨b, off, rfl, hc⟩ := hp hm
    refine app_from E hgd s x ho hs hown (b := b) (off := off) hx (by rw [bc_len]; omega) (fun j u hu => ?_) (bc_one l) hm (by omega) ?_
    · simp only [bc, List.getElem?_map] at hu
      cases hl : l[j]? with
      | none => rw [hl] at hu; simp at hu
      | some y => rw [hl] at hu; simp at hu; subst hu; exact hc j y hl
    · intro g' cap' w' k1 k2 k3
      exact h (some g') cap' w' k1 k2 (k3.imp Eq.symm (fun e => by rw [e]))
  · have hl : l = [] := List.eq_nil_of_length_eq_zero (by omega)
    subst hl
    obtain ⟨i, z, hi, hz, h2, h3, h4⟩ := E.info
    cases p with
    | none =>
      rw [hp0 rfl] at hx
      refine wpList_append_own_none hgd s x t ho 0 e i 1 E.und hi (slv g n cap) n xs hs hown.owns hx ?_
      exact h g cap w (by simpa [bc] using hown) (Touch.refl _ _) (.inl rfl)
    | some p =>
      refine wpList_append_own_at w hgd s x t ho 0 e i z 1 1 E.und hi hz h2 h3 h4 E.pos (slv g n cap) n xs hs hown.owns p 0 c [] hx (by simp) (by simp) (by simp) (by simp only [maxLen]; simp at hb; omega) (by simp at hb ⊢; omega) (Nat.zero_le _) ?_
      intro v' w' hown' hgr hnil hat
      have hgr' : Touch (fun k => g = some k) w w' := by
        rw [ownBlock_slv] at hgr
        exact ⟨hgr.os, hgr.tape, hgr.output, hgr.size, fun k hk hn => hgr.block k hk fun e => hn e.symm⟩
      rcases hown'.2 with ⟨rfl, h0⟩ | ⟨g', cap', cur, rfl, _, hgg, h5, h6, h7, h8⟩
      · obtain rfl : n = 0 := by omega
        have hx0 : xs = [] := List.eq_nil_of_length_eq_zero (by simpa using hown.len)
        subst hx0
        have := hnil.1 rfl
        have hg : g = none := by
          cases g with
          | none => rfl
          | some b => simp [slv, adr] at this
        subst hg
        exact h none 0 w' ⟨by simp [bc], by simp, rfl⟩ hgr' (.inl rfl)
      · refine h (some g') cap' w' (Sl.of_owns hown') hgr' ?_
        rw [ownBlock_slv] at hat
        exact hat

/-- append of the bytes y, at least one, that lie in a block of their own; out is the call's own (behind W). -/
theorem app_own {P : Program} {W w : World} {ops : Array Oper} {rest : List Oper} {o : Oper} {a : Act} {Q : Exit → Act → World → Prop} (E : EI P 30 5 1 1) (hgd : o.guard = none) (s x : Operand)
    (ho : o.op = .call { callee := .builtin .append, args := #[s, x], argTypes := #[30, 30] })
    {g : Option Nat} {cap : Nat} {out : List UInt8} (hs : a.eval s = slv g out.length cap) (hown : Bs w g out.length cap out) (hg : ∀ b, g = some b → W.heap.size ≤ b) (hE : Ext W w)
    (y : List UInt8) {b m c : Nat} {e' : TypeId} {f : Nat × Nat} (hx : a.eval x = .slice (some ⟨b, 0, none⟩) m c) (hy : y.length = m) (hm : 0 < m) (hnews : w.heap[b]? = some (.cells (bc y).toArray e' f)) (hb : out.length + m ≤ 140737488355328)
    (h : ∀ g' cap' w', Bs w' (some g') (out.length + m) cap' (out ++ y) → W.heap.size ≤ g' → Ext W w' → Touch (fun k => g = some k) w w' → (g = some g' ∨ g' = w.heap.size) →
      wpList P ops Q rest (a.put o.dst (.slice (some ⟨g', 0, none⟩) (out.length + m) cap')) w') : wpList P ops Q (o :: rest) a w := by
  refine app_lit E hgd s x ho hs hown hx (by rw [bc_len]; omega) hnews (bc_one y) hm (by omega) ?_
  intro g2 cap2 w2 hS2 hT2 hat2
  refine h g2 cap2 w2 ?_ ?_ ?_ hT2 hat2
  · unfold Bs; rw [bc_append]; exact hS2
  · rcases hat2 with h | h
    · exact hg _ h
    · have := hE.size; omega
  · exact Touch.ext ((hE.touch _).trans' hT2 (fun i hi h => h)) (fun i hi e => by have := hg i e; omega)

/-- The lowest s bytes of n, the highest of them first. -/
def numBE (n : Nat) : Nat → List UInt8
  | 0 => []
  | s + 1 => UInt8.ofNat (n / 256 ^ s) :: numBE n s
theorem numBE_len (n : Nat) : ∀ s, (numBE n s).length = s
  | 0 => rfl
  | s + 1 => by simp [numBE, numBE_len n s]
/-- How many bytes Put writes. -/
def putN (size : Int) : Nat := (min (max size 0) 8).toNat

theorem shr_eq (n i : Nat) (hi : i < 8) : (n : Int) / 2 ^ (8 * i) = ((n / 256 ^ i : Nat) : Int) := by
  rw [Int.natCast_ediv, Int.natCast_pow, Int.pow_mul]; rfl

theorem u8_of (m : Nat) : IntKind.u8.wrap (m : Int) = ((UInt8.ofNat m).toNat : Int) := by
  rw [IntKind.wrap_u8', UInt8.toNat_ofNat']
  omega

set_option maxRecDepth 100000 in
set_option maxHeartbeats 4000000 in
theorem Put_ok (v : Value) (l : List UInt8) (n : Nat) (size : Int) (w : World) (hv : BytesAt w v l) (hn : n < 18446744073709551616) (hl : l.length ≤ 1000000000000) (hs1 : -9223372036854775808 ≤ size) (hs2 : size ≤ 9223372036854775807) :
    Calls Try.prog 38 #[v, .int .u64 (n : Int), .int .i64 size] w
      (fun e w' => ∃ g cap, e = .returned (slv g (l.length + putN size) cap) ∧ Bs w' g (l.length + putN size) cap (l ++ numBE n (putN size)) ∧ (∀ b, g = some b → w.heap.size ≤ b) ∧ Ext w w') := by
  have hpn : (putN size : Int) = min (max size 0) 8 := by unfold putN; omega
  have hp8 : putN size ≤ 8 := by omega
  have hlo : -9223372036854775808 ≤ min (max size 0) 8 - 1 ∧ min (max size 0) 8 - 1 ≤ 7 := by omega
  go_enter Try.func38, Try.ntmps38
  go_wp2_with (at_builtin; refine app_bytes ei_byte rfl (.tmp 9) (.tmp 10) rfl (g := some w.heap.size) (n := 0) (cap := 0) (by rfl) (xs := []) ⟨by simp, #[], blk_new w _, by omega, by decide, by simp, by simp⟩ (by rfl) (hv.ext ((Ext.refl w).alloc _)) (by omega) ?_)
  intro g1 cap1 w1 hS1 hT1 hat1
  have hS1' : Bs w1 g1 l.length cap1 l := by simpa using hS1
  have hg1 : ∀ b, g1 = some b → w.heap.size ≤ b := fun b hb => by
    subst hb
    rcases hat1 with h | h <;> simp at h <;> omega
  have hE1 : Ext w w1 := Touch.ext ((((Ext.refl w).alloc _).touch _).trans hT1) (fun i hi e => by omega)
  have HS1 := Lib.hid hS1'; clear hS1 hS1' hT1 hat1
  have HG1 := Lib.hid hg1; clear hg1 hv
  generalize hS : putN size = S at *
  have hcases : (size < 0 ∧ S = 0) ∨ (8 < size ∧ S = 8) ∨ (0 ≤ size ∧ size ≤ 8 ∧ (S : Int) = size) := by omega
  have HPN := Lib.hid hS; clear hpn hlo hS
  rcases hcases with ⟨h1, rfl⟩ | ⟨h1, rfl⟩ | ⟨h1, h2, h3⟩
  · have h1' : ¬ 0 ≤ size := by omega
    go_wp2
    go_loopg [7, 8] 0 (fun k v7 v8 wr => ∃ g cap out, v7 = slv g out.length cap ∧ v8 = .int .i64 ((k : Int) - 1) ∧ k ≤ 0 ∧ out.length + k = l.length + 0 ∧ out ++ numBE n k = l ++ numBE n 0 ∧ Bs wr g out.length cap out ∧ (∀ b, g = some b → w.heap.size ≤ b) ∧ Ext w wr)
    case atStart => exact ⟨g1, cap1, l, rfl, by go_num, Nat.le_refl _, rfl, rfl, HS1.out, HG1.out, hE1⟩
    case round =>
      obtain ⟨g, cap, out, rfl, rfl, hks, hol, ho, hB, hg, hE⟩ := hrel
      have HO := Lib.hid ho; clear ho
      have HB := Lib.hid hB; clear hB
      have HG := Lib.hid hg; clear hg
      have HOL := Lib.hid hol; clear hol
      cases gk with
      | zero =>
        go_wp2
        go_ret
        have e1 := HOL.out
        have e2 := HO.out
        have e3 := HB.out
        have e4 : out = l ++ numBE n 0 := by rw [← e2]; simp [numBE]
        refine ⟨g, cap, ?_, ?_, HG.out, hE⟩
        · rw [HPN.out, ← e1]; rfl
        · rw [HPN.out, ← e4, ← e1]; exact e3
      | succ i => omega
  · have h1' : ¬ size < 0 := by omega
    have h1'' : ¬ size ≤ 8 := by omega
    go_wp2
    go_loopg [7, 8] 8 (fun k v7 v8 wr => ∃ g cap out, v7 = slv g out.length cap ∧ v8 = .int .i64 ((k : Int) - 1) ∧ k ≤ 8 ∧ out.length + k = l.length + 8 ∧ out ++ numBE n k = l ++ numBE n 8 ∧ Bs wr g out.length cap out ∧ (∀ b, g = some b → w.heap.size ≤ b) ∧ Ext w wr)
    case atStart => exact ⟨g1, cap1, l, rfl, by go_num, Nat.le_refl _, rfl, rfl, HS1.out, HG1.out, hE1⟩
    case round =>
      obtain ⟨g, cap, out, rfl, rfl, hks, hol, ho, hB, hg, hE⟩ := hrel
      have HO := Lib.hid ho; clear ho
      have HB := Lib.hid hB; clear hB
      have HG := Lib.hid hg; clear hg
      have HOL := Lib.hid hol; clear hol
      cases gk with
      | zero =>
        go_wp2
        go_ret
        have e1 := HOL.out
        have e2 := HO.out
        have e3 := HB.out
        have e4 : out = l ++ numBE n 8 := by rw [← e2]; simp [numBE]
        refine ⟨g, cap, ?_, ?_, HG.out, hE⟩
        · rw [HPN.out, ← e1]; rfl
        · rw [HPN.out, ← e4, ← e1]; exact e3
      | succ i =>
        have hki : ((i + 1 : Nat) : Int) - 1 = (i : Int) := by omega
        have hi8 : i < 8 := by omega
        have hmul : wrap64 (8 * (i : Int)) = 8 * (i : Int) := by unfold wrap64; omega
        have hmin : min (8 * i) 64 = 8 * i := Nat.min_eq_left (by omega)
        have hsh := shr_eq n i hi8
        have hu8 := u8_of (n / 256 ^ i)
        have hq : numBE n (i + 1) = UInt8.ofNat (n / 256 ^ i) :: numBE n i := rfl
        generalize n / 256 ^ i = q at hsh hu8 hq
        have HQ := Lib.hid hq; clear hq
        generalize UInt8.ofNat q = x at *
        go_wp2_with (at_builtin; refine app_own (W := w) ei_byte rfl (.tmp 20) (.tmp 26) rfl (g := g) (cap := cap) (by rfl) (HB.out.ext ((Ext.refl wr).alloc _)) HG.out (hE.alloc _) [x] (by rfl) (by rfl) (by omega) (blk_new wr _) (by have := HOL.out; omega) ?_)
        intro g2 cap2 w2 hB2 hg2 hE2 _ _
        have hlen2 : out.length + 1 = (out ++ [x]).length := by simp
        have HB2 := Lib.hid hB2; clear hB2
        have HG2 := Lib.hid hg2; clear hg2
        have HL2 := Lib.hid hlen2; clear hlen2
        go_wp2
        go_roundg i
        case measure => omega
        case rel => exact ⟨some g2, cap2, out ++ [x], by rw [← HL2.out]; rfl, by go_num, by omega, by have := HOL.out; have := HL2.out; omega, by have := HO.out; rw [HQ.out] at this; simpa using this, by rw [← HL2.out]; exact HB2.out, fun b e => by cases e; exact HG2.out, hE2⟩
  · have h1' : ¬ size < 0 := by omega
    have h3' : size - 1 = (S : Int) - 1 := by omega
    have H3 := Lib.hid h3; clear h3
    go_wp2
    go_loopg [7, 8] S (fun k v7 v8 wr => ∃ g cap out, v7 = slv g out.length cap ∧ v8 = .int .i64 ((k : Int) - 1) ∧ k ≤ S ∧ out.length + k = l.length + S ∧ out ++ numBE n k = l ++ numBE n S ∧ Bs wr g out.length cap out ∧ (∀ b, g = some b → w.heap.size ≤ b) ∧ Ext w wr)
    case atStart => exact ⟨g1, cap1, l, rfl, by go_num, Nat.le_refl _, rfl, rfl, HS1.out, HG1.out, hE1⟩
    case round =>
      obtain ⟨g, cap, out, rfl, rfl, hks, hol, ho, hB, hg, hE⟩ := hrel
      have HO := Lib.hid ho; clear ho
      have HB := Lib.hid hB; clear hB
      have HG := Lib.hid hg; clear hg
      have HOL := Lib.hid hol; clear hol
      cases gk with
      | zero =>
        go_wp2
        go_ret
        have e1 := HOL.out
        have e2 := HO.out
        have e3 := HB.out
        have e4 : out = l ++ numBE n S := by rw [← e2]; simp [numBE]
        refine ⟨g, cap, ?_, ?_, HG.out, hE⟩
        · rw [HPN.out, ← e1]; rfl
        · rw [HPN.out, ← e4, ← e1]; exact e3
      | succ i =>
        have hki : ((i + 1 : Nat) : Int) - 1 = (i : Int) := by omega
        have hi8 : i < 8 := by omega
        have hmul : wrap64 (8 * (i : Int)) = 8 * (i : Int) := by unfold wrap64; omega
        have hmin : min (8 * i) 64 = 8 * i := Nat.min_eq_left (by omega)
        have hsh := shr_eq n i hi8
        have hu8 := u8_of (n / 256 ^ i)
        have hq : numBE n (i + 1) = UInt8.ofNat (n / 256 ^ i) :: numBE n i := rfl
        generalize n / 256 ^ i = q at hsh hu8 hq
        have HQ := Lib.hid hq; clear hq
        generalize UInt8.ofNat q = x at *
        go_wp2_with (at_builtin; refine app_own (W := w) ei_byte rfl (.tmp 20) (.tmp 26) rfl (g := g) (cap := cap) (by rfl) (HB.out.ext ((Ext.refl wr).alloc _)) HG.out (hE.alloc _) [x] (by rfl) (by rfl) (by omega) (blk_new wr _) (by have := HOL.out; omega) ?_)
        intro g2 cap2 w2 hB2 hg2 hE2 _ _
        have hlen2 : out.length + 1 = (out ++ [x]).length := by simp
        have HB2 := Lib.hid hB2; clear hB2
        have HG2 := Lib.hid hg2; clear hg2
        have HL2 := Lib.hid hlen2; clear hlen2
        go_wp2
        go_roundg i
        case measure => omega
        case rel => exact ⟨some g2, cap2, out ++ [x], by rw [← HL2.out]; rfl, by go_num, by omega, by have := HOL.out; have := HL2.out; omega, by have := HO.out; rw [HQ.out] at this; simpa using this, by rw [← HL2.out]; exact HB2.out, fun b e => by cases e; exact HG2.out, hE2⟩

def esc1 (b : UInt8) : List UInt8 := if b = 0 then [0, 255] else [b]
def escT (t : List UInt8) : List UInt8 := t.flatMap esc1
def encV (v : V) : List UInt8 := if v.1 = 1 then 1 :: numBE (v.2.1 + 9223372036854775808).toNat 8 else 2 :: (escT v.2.2 ++ [0, 0])
def encL (vs : List V) : List UInt8 := vs.flatMap encV
def encO (vs : List V) : List UInt8 := if checkL vs = 0 then encL vs else []

theorem escT_append (a b : List UInt8) : escT (a ++ b) = escT a ++ escT b := by simp [escT]
theorem escT_len : ∀ (t : List UInt8), (escT t).length ≤ 2 * t.length
  | [] => by simp [escT]
  | b :: t => by
    have ih := escT_len t
    have : escT (b :: t) = esc1 b ++ escT t := by simp [escT]
    rw [this, List.length_append, List.length_cons]
    unfold esc1
    split <;> simp <;> omega
theorem encV_len {v : V} (h : checkV v = 0) : (encV v).length ≤ 131 := by
  unfold encV
  unfold checkV at h
  split
  · simp [numBE_len]
  · rename_i h1
    rw [if_neg h1] at h
    split at h
    · split at h
      · rename_i h3
        have := escT_len v.2.2
        simp; omega
      · cases h
    · cases h
theorem encL_append (a b : List V) : encL (a ++ b) = encL a ++ encL b := by simp [encL]
theorem encL_len : ∀ (vs : List V), (∀ v ∈ vs, checkV v = 0) → (encL vs).length ≤ 131 * vs.length
  | [], _ => by simp [encL]
  | v :: vs, h => by
    have ih := encL_len vs (fun u hu => h u (List.mem_cons_of_mem _ hu))
    have hv := encV_len (h v (List.mem_cons_self ..))
    have : encL (v :: vs) = encV v ++ encL vs := by simp [encL]
    rw [this, List.length_append, List.length_cons]
    omega

theorem xor_top {m : Nat} (h : m < 9223372036854775808) : m ^^^ 9223372036854775808 = 9223372036854775808 + m := by
  apply Nat.eq_of_testBit_eq
  intro i
  rw [Nat.testBit_xor]
  have h63 : (9223372036854775808 : Nat) = 2 ^ 63 := by decide
  rw [h63, Nat.testBit_two_pow]
  rcases Nat.lt_trichotomy i 63 with hi | hi | hi
  · rw [Nat.testBit_two_pow_add_gt hi]
    simp [show ¬ 63 = i by omega]
  · subst hi
    rw [Nat.testBit_two_pow_add_eq]
    simp
  · have h1 : m.testBit i = false := Nat.testBit_lt_two_pow (Nat.lt_trans h (by rw [h63]; exact Nat.pow_lt_pow_right (by decide) hi))
    have h2 : (2 ^ 63 + m).testBit i = false := Nat.testBit_lt_two_pow (by
      have : 2 ^ 64 ≤ 2 ^ i := Nat.pow_le_pow_right (by decide) hi
      have : (2 : Nat) ^ 64 = 2 ^ 63 + 2 ^ 63 := by decide
      rw [h63] at h
      omega)
    rw [h1, h2]
    simp [show ¬ 63 = i by omega]
theorem xor_top' {m : Nat} (h : m < 18446744073709551616) (h2 : 9223372036854775808 ≤ m) : m ^^^ 9223372036854775808 = m - 9223372036854775808 := by
  have h3 := xor_top (m := m - 9223372036854775808) (by omega)
  rw [show 9223372036854775808 + (m - 9223372036854775808) = m by omega] at h3
  rw [← h3, Nat.xor_assoc, Nat.xor_self, Nat.xor_zero]
  rw [h3]
/-- The top bit turned: what stands for a number. -/
theorem u64_top (n : Int) (h1 : -9223372036854775808 ≤ n) (h2 : n ≤ 9223372036854775807) :
    bits .xor .u64 (IntKind.u64.wrap n) 9223372036854775808 = (((n + 9223372036854775808).toNat : Nat) : Int) := by
  have hw : IntKind.u64.wrap n = (((n % 18446744073709551616).toNat : Nat) : Int) := by simp [IntKind.wrap, IntKind.bits, IntKind.signed]; omega
  have h3 := u64_xor_nat (n % 18446744073709551616).toNat 9223372036854775808 (by omega) (by decide)
  rw [hw]
  rw [show ((9223372036854775808 : Int)) = ((9223372036854775808 : Nat) : Int) from rfl, h3]
  by_cases h : n < 0
  · rw [xor_top' (by omega) (by omega)]; omega
  · rw [xor_top (by omega)]; omega

theorem blk_new2 (w : World) (o o' : Obj) : ((w.alloc o).alloc o').heap[w.heap.size + 1]? = some o' := by
  have := blk_new (w.alloc o) o'
  rwa [World.size_alloc] at this

set_option maxRecDepth 100000 in
set_option maxHeartbeats 4000000 in
theorem Encode_ok (a : Option Addr) (n cap : Nat) (vs : List V) (w : World) (hn : vs.length = n) (hc : Vals w a vs) (hsz : n ≤ 1000000000) (ht : ∀ v ∈ vs, v.2.2.length ≤ 140737488355328)
    (hi : ∀ v ∈ vs, -9223372036854775808 ≤ v.2.1 ∧ v.2.1 ≤ 9223372036854775807) :
    Calls Try.prog 9 #[.slice a n cap] w
      (fun e w' => ∃ g m c, e = .returned (.tuple #[slv g m c, .int .i64 (checkL vs)]) ∧ Bs w' g m c (encO vs) ∧ (∀ b, g = some b → w.heap.size ≤ b) ∧ Ext w w') := by
  have hck := Check_ok a n cap vs w hn hc (by omega) ht
  have HN := Lib.hid hn; clear hn
  have HC := Lib.hid hc; clear hc
  have HT := Lib.hid ht; clear ht
  have HI := Lib.hid hi; clear hi
  go_enter Try.func9, Try.ntmps9
  go_wp2_with fail
  refine hck.mono ?_
  clear hck
  rintro e w1 ⟨rfl, hE1⟩
  by_cases h0 : checkL vs = 0
  · have hall := checkL_zero vs h0
    have HALL := Lib.hid hall; clear hall
    have H0 := Lib.hid h0
    rw [h0]
    have HENC : Hid (encO vs = encL vs) := if_pos h0
    clear h0
    go_wp2
    go_loopg [5, 16] n (fun k v5 v16 wr => ∃ (i : Nat) (g : Option Nat) (cap : Nat) (out : List UInt8), i + k = n ∧ v5 = slv g out.length cap ∧ v16 = .int .i64 i ∧ out = encL (vs.take i) ∧ Bs wr g out.length cap out ∧ (∀ b, g = some b → w.heap.size ≤ b) ∧ Ext w wr)
    case atStart => exact ⟨0, none, 0, [], by omega, rfl, rfl, by simp [encL], Sl.nil _ _ _, by simp, hE1⟩
    case round =>
      obtain ⟨i, g, cap1, out, hik, rfl, rfl, ho, hB, hg, hE⟩ := hrel
      by_cases hlt : i < n
      · obtain ⟨lb, off, ha, hcell⟩ := (HC.out.ext hE) (by have := HN.out; omega)
        subst ha
        obtain ⟨⟨kk, m, t⟩, hv⟩ : ∃ v, vs[i]? = some v := ⟨vs[i]'(by rw [HN.out]; exact hlt), by rw [List.getElem?_eq_getElem]⟩
        obtain ⟨c0, c1, c2⟩ := hcell i _ hv
        simp only [] at c0 c1 c2
        have hmem := List.mem_of_getElem? hv
        have hck := HALL.out _ hmem
        obtain ⟨hm1, hm2⟩ := HI.out _ hmem
        simp only [] at hm1 hm2
        have hol : out.length ≤ 131 * i := by
          rw [ho]
          refine Nat.le_trans (encL_len _ (fun v hv => HALL.out v (List.mem_of_mem_take hv))) ?_
          rw [List.length_take]; omega
        have hnext : encL (vs.take (i + 1)) = out ++ encV (kk, m, t) := by
          rw [ho, List.take_add_one, hv, encL_append]; simp [encL]
        have HNEXT := Lib.hid hnext; clear hnext ho hcell hmem
        have HV := Lib.hid hv; clear hv
        have HIK := Lib.hid hik; clear hik
        have HB := Lib.hid hB; clear hB
        have HG := Lib.hid hg; clear hg
        have hfr := fun b => blk_frozen (w := wr.alloc (.cells #[.int .i64 kk, .int .i64 m, str t] 93)) (blk_new wr _) b
        by_cases h1 : kk = 1
        · subst h1
          have hu8 : IntKind.u8.wrap 1 = 1 := by decide
          go_wp2_with (at_builtin; refine app_own (W := w) ei_byte rfl (.tmp 20) (.tmp 24) rfl (g := g) (cap := cap1) (by rfl) (HB.out.ext (((Ext.refl wr).alloc _).alloc _)) HG.out ((hE.alloc _).alloc _) [1] (by rfl) (by rfl) (by omega) (blk_new2 _ _ _) (by omega) ?_)
          intro g2 cap2 w2 hB2 hg2 hE2 hT2 hat2
          have hgv : ¬ g = some wr.heap.size := fun e => by
            subst e
            have := HB.out.block_lt; omega
          have hVb : w2.heap[wr.heap.size]? = some (.cells #[.int .i64 1, .int .i64 m, str t] 93 (0, 0)) :=
            Touch.old hT2 (blk_alloc (blk_new wr _)) hgv
          clear hT2 hat2 hfr c0 c1 c2
          obtain ⟨d0, d1, d2⟩ := blk3 hVb
          have hg2l := hB2.block_lt
          have hput := Put_ok (slv (some g2) (out.length + 1) cap2) (out ++ [1]) (m + 9223372036854775808).toNat 8 w2 hB2.at (by omega) (by simp; omega) (by decide) (by decide)
          have HPUT := Lib.hid hput; clear hput
          have HX := Lib.hid (u64_top m hm1 hm2)
          clear hVb hgv hB2
          generalize wr.heap.size = vb at *
          go_wp2_with fail
          rw [HX.out]
          refine HPUT.out.mono ?_
          rintro e w3 ⟨g3, cap3, rfl, hB3, hg3, hE3⟩
          have hb3 : Bs w3 g3 (out.length + 9) cap3 (out ++ encV (1, m, t)) := by
            have h8 : putN 8 = 8 := by decide
            rw [h8] at hB3
            have h9 : (out ++ [(1 : UInt8)]).length + 8 = out.length + 9 := by simp
            rw [h9] at hB3
            simpa [encV] using hB3
          have hlen3 : (out ++ [(1 : UInt8)]).length + putN 8 = out.length + 9 := by simp [show putN 8 = 8 by decide]
          have hlen4 : out.length + 9 = (out ++ encV (1, m, t)).length := by simp [encV, numBE_len]
          rw [hlen3]
          have hg3' : ∀ b, g3 = some b → w.heap.size ≤ b := fun b hb => Nat.le_trans hE2.size (hg3 b hb)
          have hE3' := hE2.trans hE3
          have HB3 := Lib.hid hb3
          have HG3 := Lib.hid hg3'
          have HL4 := Lib.hid hlen4
          clear hB3 hb3 hg3 hg3' hlen3 hlen4 hck d0 d1 d2
          go_wp2
          go_roundg (gk - 1)
          case measure => have := HIK.out; omega
          case rel => exact ⟨i + 1, g3, cap3, out ++ encV (1, m, t), by have := HIK.out; omega, by rw [← HL4.out], by go_num, HNEXT.out.symm, by rw [← HL4.out]; exact HB3.out, HG3.out, hE3'⟩
        · have hk : kk = 2 ∧ m = 0 ∧ t.length ≤ 64 := by
            unfold checkV at hck
            simp only [h1, if_false] at hck
            split at hck
            · rename_i h2
              split at hck
              · exact ⟨h2.1, h2.2, by assumption⟩
              · cases hck
            · cases hck
          obtain ⟨rfl, rfl, htl⟩ := hk
          have hu8 : IntKind.u8.wrap 2 = 2 := by decide
          go_wp2_with (at_builtin; refine app_own (W := w) ei_byte rfl (.tmp 20) (.tmp 24) rfl (g := g) (cap := cap1) (by rfl) (HB.out.ext (((Ext.refl wr).alloc _).alloc _)) HG.out ((hE.alloc _).alloc _) [2] (by rfl) (by rfl) (by omega) (blk_new2 _ _ _) (by omega) ?_)
          intro g2 cap2 w2 hB2 hg2 hE2 hT2 hat2
          have hgv : ¬ g = some wr.heap.size := fun e => by
            subst e
            have := HB.out.block_lt; omega
          have hVb : w2.heap[wr.heap.size]? = some (.cells #[.int .i64 2, .int .i64 0, str t] 93 (0, 0)) :=
            Touch.old hT2 (blk_alloc (blk_new wr _)) hgv
          have hgv2 : g2 ≠ wr.heap.size := fun e => by
            rcases hat2 with h | h
            · exact hgv (by rw [h, e])
            · omega
          clear hT2 hat2 hfr c0 c1 c2 hgv h1 hck
          obtain ⟨d0, d1, d2⟩ := blk3 hVb
          generalize wr.heap.size = vb at *
          have HVB := Lib.hid hVb; clear hVb
          have HB2 := Lib.hid hB2; clear hB2
          have HV2 := Lib.hid hgv2; clear hgv2
          have hsz := bs_size t
          have hbl : vb < w2.heap.size := blk_lt HVB.out
          have hoe : out ++ [(2 : UInt8)] = out ++ 2 :: escT (t.take 0) := by simp [escT]
          have HOE := Lib.hid hoe; clear hoe
          go_wp2
          go_loopg [5, 38] t.length (fun k v5 v38 wr => ∃ (j g cap : Nat) (o : List UInt8), j + k = t.length ∧ v5 = .slice (some ⟨g, 0, none⟩) o.length cap ∧ v38 = .int .i64 j ∧ o = out ++ 2 :: escT (t.take j) ∧ Bs wr (some g) o.length cap o ∧
            w.heap.size ≤ g ∧ g ≠ vb ∧ wr.heap[vb]? = some (.cells #[.int .i64 2, .int .i64 0, str t] 93 (0, 0)) ∧ Ext w wr)
          case atStart => exact ⟨0, g2, cap2, out ++ [2], by omega, by simp, rfl, HOE.out, by simpa using HB2.out, hg2, HV2.out, HVB.out, hE2⟩
          case round =>
            obtain ⟨j, g3, cap3, o, hjk, rfl, rfl, ho, hB3, hg3, hgv3, hVb3, hE3⟩ := hrel
            obtain ⟨b0, b1, b2⟩ := blk3 hVb3
            have hol3 : o.length ≤ out.length + 1 + 2 * t.length := by
              have := escT_len (t.take j)
              have : (t.take j).length ≤ t.length := by rw [List.length_take]; omega
              rw [ho]; simp; omega
            by_cases hlt2 : j < t.length
            · obtain ⟨x, hx⟩ : ∃ x, t[j]? = some x := ⟨_, List.getElem?_eq_getElem hlt2⟩
              have hbx := bs_get hx
              have hnx : out ++ 2 :: escT (t.take (j + 1)) = o ++ esc1 x := by
                rw [ho, List.take_add_one, hx, escT_append]; simp [escT]
              have HNX := Lib.hid hnx; clear hnx ho hx
              have HB3 := Lib.hid hB3; clear hB3
              have HJK := Lib.hid hjk; clear hjk
              have HGV := Lib.hid hgv3; clear hgv3
              have HVB3 := Lib.hid hVb3; clear hVb3
              go_wp2_with (at_builtin; refine app_own (W := w) ei_byte rfl (.tmp 41) (.tmp 46) rfl (g := some g3) (cap := cap3) (by rfl) (HB3.out.ext ((Ext.refl wr).alloc _)) (by simpa using hg3) (hE3.alloc _) [x] (by rfl) (by rfl) (by omega) (blk_new _ _) (by omega) ?_)
              intro g4 cap4 w4 hB4 hg4 hE4 hT4 hat4
              have hVb4 := Touch.old hT4 (blk_alloc HVB3.out) (fun e => HGV.out e)
              have hgv4 : g4 ≠ vb := fun e => by
                rcases hat4 with h | h
                · exact HGV.out (h.trans e)
                · have := blk_lt HVB3.out; omega
              clear hT4 hat4 b0 b1 b2
              obtain ⟨b0, b1, b2⟩ := blk3 hVb4
              by_cases hx0 : x = 0
              · subst hx0
                have HB4 := Lib.hid hB4; clear hB4
                have HG4 := Lib.hid hgv4; clear hgv4
                have HV4 := Lib.hid hVb4; clear hVb4
                go_wp2_with (at_builtin; refine app_own (W := w) ei_byte rfl (.tmp 53) (.tmp 54) rfl (g := some g4) (cap := cap4) (out := o ++ [0]) (by simp [Act.eval, slv, adr]) (by simpa using HB4.out.ext ((Ext.refl w4).alloc _)) (by simpa using hg4) (hE4.alloc _) [255] (by rfl) (by rfl) (by omega) (blk_new _ _) (by simp; omega) ?_)
                intro g5 cap5 w5 hB5 hg5 hE5 hT5 hat5
                have hVb5 := Touch.old hT5 (blk_alloc HV4.out) (fun e => HG4.out e)
                have hgv5 : g5 ≠ vb := fun e => by
                  rcases hat5 with h | h
                  · exact HG4.out (h.trans e)
                  · have := blk_lt HV4.out; omega
                clear hT5 hat5
                have HB5 := Lib.hid hB5; clear hB5
                have HG5 := Lib.hid hgv5; clear hgv5
                have HV5 := Lib.hid hVb5; clear hVb5
                go_wp2
                go_roundg (t.length - j - 1)
                case measure => have := HJK.out; omega
                case rel => exact ⟨j + 1, g5, cap5, o ++ [0, 255], by have := HJK.out; omega, by simp, by go_num, by rw [HNX.out]; rfl, by simpa using HB5.out, hg5, HG5.out, HV5.out, hE5⟩
              · have hxz : ((x.toNat : Int) == 0) = false := by
                  have : x.toNat ≠ 0 := fun e => hx0 (UInt8.toNat_inj.1 (by simpa using e))
                  simp; omega
                have HB4 := Lib.hid hB4; clear hB4
                have HG4 := Lib.hid hgv4; clear hgv4
                have HV4 := Lib.hid hVb4; clear hVb4
                have HX0 := Lib.hid hx0; clear hx0
                go_wp2
                go_roundg (t.length - j - 1)
                case measure => have := HJK.out; omega
                case rel => exact ⟨j + 1, g4, cap4, o ++ [x], by have := HJK.out; omega, by simp, by go_num, by rw [HNX.out, esc1, if_neg HX0.out], by simpa using HB4.out, hg4, HG4.out, HV4.out, hE4⟩
            · have hj : j = t.length := by omega
              subst hj
              rw [List.take_length] at ho
              have HO := Lib.hid ho; clear ho
              have HB3 := Lib.hid hB3; clear hB3
              go_wp2_with (at_builtin; refine app_own (W := w) ei_byte rfl (.tmp 57) (.tmp 58) rfl (g := some g3) (cap := cap3) (by rfl) (HB3.out.ext ((Ext.refl wr).alloc _)) (by simpa using hg3) (hE3.alloc _) [0, 0] (by rfl) (by rfl) (by omega) (blk_new _ _) (by omega) ?_)
              intro g4 cap4 w4 hB4 hg4 hE4 hT4 hat4
              have hoe : o ++ [(0 : UInt8), 0] = encL (vs.take (i + 1)) := by
                rw [HNEXT.out, HO.out]; simp [encV]
              have HOE2 := Lib.hid hoe
              have HB4 := Lib.hid hB4
              clear hoe hB4 hT4 hat4
              go_wp2
              go_roundg (n - i - 1)
              case measure => have := HIK.out; omega
              case rel => exact ⟨i + 1, some g4, cap4, o ++ [0, 0], by have := HIK.out; omega, by simp [slv, adr], by go_num, HOE2.out, by simpa using HB4.out, by simpa using hg4, hE4⟩
      · have hi : i = n := by omega
        subst hi
        have he : out = encL vs := by rw [ho, List.take_of_length_le (by rw [HN.out]; exact Nat.le_refl _)]
        have HE := Lib.hid he; clear he ho
        have HB := Lib.hid hB; clear hB
        have HG := Lib.hid hg; clear hg
        go_wp2
        go_ret2
        exact ⟨g, out.length, cap1, by rw [H0.out]; rfl, by rw [HENC.out, ← HE.out]; exact HB.out, HG.out, hE⟩
  · have hne : (checkL vs == 0) = false := by simp [h0]
    have HENC : Hid (encO vs = []) := if_neg h0
    clear h0
    go_wp2
    go_ret2
    exact ⟨none, 0, 0, rfl, by rw [HENC.out]; exact Sl.nil _ _ _, by simp, hE1⟩


end Go.Proofs.Ytkejjahlglldlaa
namespace Go.Proofs.Ytkejjahlglldlaa
open Go.RowKit

/-- The source at sb: it reads the bytes l, and stands at p. -/
def Src (w : World) (sb : Nat) (a : Option Addr) (c : Nat) (l : List UInt8) (p : Nat) : Prop :=
  w.heap[sb]? = some (.cells #[.slice a l.length c, .int .i64 (p : Int)] 103 (0, 0)) ∧ p ≤ l.length ∧
  (0 < l.length → ∃ b off, a = some ⟨b, off, none⟩ ∧ b ≠ sb ∧ ∀ j x, l[j]? = some x → w.cell? ⟨b, off + j, none⟩ = some (.int .u8 (x.toNat : Int)))
theorem Src.touch {S : Nat → Prop} {w w' : World} {sb : Nat} {a : Option Addr} {c : Nat} {l : List UInt8} {p : Nat} (h : Src w sb a c l p) (ht : Touch S w w') (h1 : ¬ S sb) (h2 : ∀ q : Addr, a = some q → ¬ S q.block) : Src w' sb a c l p := by
  obtain ⟨h3, h4, h5⟩ := h
  refine ⟨Touch.old ht h3 h1, h4, fun hl => ?_⟩
  obtain ⟨b, off, rfl, hb, hc⟩ := h5 hl
  exact ⟨b, off, rfl, hb, fun j x hx => Touch.cell ht (hc j x hx) (h2 ⟨b, off, none⟩ rfl)⟩
theorem Src.ext {w w' : World} {sb : Nat} {a : Option Addr} {c : Nat} {l : List UInt8} {p : Nat} (h : Src w sb a c l p) (he : Ext w w') : Src w' sb a c l p :=
  h.touch (he.touch fun _ => False) (fun h => h) (fun _ _ h => h)

/-- What Decode gives up with. -/
abbrev broken (code at_ : Int) : List PanicEntry := [{ v := .iface 99 (.agg #[.int .i64 code, .int .i64 at_]), recovered := false }]

set_option maxRecDepth 100000 in
set_option maxHeartbeats 4000000 in
theorem next_end (sb : Nat) (a : Option Addr) (c : Nat) (l : List UInt8) (p : Nat) (w : World) (h : Src w sb a c l p) (hp : p = l.length) :
    Calls Try.prog 43 #[.pointer (some ⟨sb, 0, none⟩)] w (fun e w' => e = .panicked (broken 20 p) ∧ Ext w w') := by
  obtain ⟨hb, hle, hc⟩ := h
  obtain ⟨c0, c1⟩ := blk2 hb
  subst hp
  have hE : Ext w w.drew := (Ext.refl w).drew
  clear hb hle hc
  go_enter Try.func43, Try.ntmps43
  go_wp2
  refine region_calm [.p 0, .p 1, .p 2, .l 3, .p 4, .p 5, .p 6, .l 7, .p 8, .p 9] f_mixed (by kernel_rfl) (by kernel_rfl) ?_
  repeat (first | (refine plan_p rfl (fun K hK => ?_); go_simp; refine hK _ ?_; clear hK K) | (refine plan_l rfl (fun K hK => ?_); go_simp; refine hK _ ?_; clear hK K))
  refine plan_done ?_
  go_wp2
  exact ⟨rfl, rfl, hE⟩

set_option maxRecDepth 100000 in
set_option maxHeartbeats 4000000 in
theorem next_ok (sb : Nat) (a : Option Addr) (c : Nat) (l : List UInt8) (p : Nat) (w : World) (h : Src w sb a c l p) (x : UInt8) (hx : l[p]? = some x) (hl : l.length ≤ 140737488355328) :
    Calls Try.prog 43 #[.pointer (some ⟨sb, 0, none⟩)] w (fun e w' => e = .returned (.int .u8 (x.toNat : Int)) ∧ Src w' sb a c l (p + 1) ∧ Touch (fun b => b = sb) w w') := by
  obtain ⟨hb, hle, hc⟩ := h
  have hlt : p < l.length := (List.getElem?_eq_some_iff.1 hx).1
  obtain ⟨b, off, rfl, hne, hcc⟩ := hc (by omega)
  obtain ⟨c0, c1⟩ := blk2 hb
  have cx := hcc p x hx
  have hnew : Src ((w.setCell ⟨sb, 1, none⟩ (.int .i64 ((p : Int) + 1))).drew.drew) sb (some ⟨b, off, none⟩) c l (p + 1) := by
    refine ⟨?_, hlt, fun _ => ⟨b, off, rfl, hne, fun j y hy => ?_⟩⟩
    · exact blk_set hb 1 _
    · have : (w.setCell ⟨sb, 1, none⟩ (.int .i64 ((p : Int) + 1))).cell? ⟨b, off + j, none⟩ = w.cell? ⟨b, off + j, none⟩ := World.cell?_setCell_other _ _ _ _ (fun e => hne (congrArg Addr.block e).symm)
      exact this.trans (hcc j y hy)
  have hT : Touch (fun b => b = sb) w ((w.setCell ⟨sb, 1, none⟩ (.int .i64 ((p : Int) + 1))).drew.drew) := (((Touch.refl (fun b => b = sb) w).setCell (p := ⟨sb, 1, none⟩) (fun _ => rfl) _).drew).drew
  have fr := blk_frozen hb 1
  have HN := Lib.hid hnew; clear hnew
  have HT := Lib.hid hT; clear hT
  have hpl : (p : Int) ≤ 140737488355328 := by omega
  have hee : ((p : Int) == (l.length : Int)) = false := by simp; omega
  clear hb hle hc hcc hx
  go_enter Try.func43, Try.ntmps43
  go_wp2
  refine region_calm [.p 0, .p 1, .p 2, .l 3, .p 4, .p 5, .p 6, .l 7, .p 8, .p 9] f_mixed (by kernel_rfl) (by kernel_rfl) ?_
  repeat (first | (refine plan_p rfl (fun K hK => ?_); go_simp; refine hK _ ?_; clear hK K) | (refine plan_l rfl (fun K hK => ?_); go_simp; refine hK _ ?_; clear hK K))
  refine plan_done ?_
  go_wp2
  have f0 : (w.setCell ⟨sb, 1, none⟩ (.int .i64 ((p : Int) + 1))).cell? ⟨sb, 0, none⟩ = some (.slice (some ⟨b, off, none⟩) l.length c) :=
    (World.cell?_setCell_other _ _ _ _ (fun e => by have := congrArg Addr.off e; simp at this)).trans c0
  have f1 : (w.setCell ⟨sb, 1, none⟩ (.int .i64 ((p : Int) + 1))).cell? ⟨sb, 1, none⟩ = some (.int .i64 ((p : Int) + 1)) := World.cell?_setCell_same _ _ _ c1
  have fx : (w.setCell ⟨sb, 1, none⟩ (.int .i64 ((p : Int) + 1))).cell? ⟨b, off + p, none⟩ = some (.int .u8 (x.toNat : Int)) :=
    (World.cell?_setCell_other _ _ _ _ (fun e => hne (congrArg Addr.block e).symm)).trans cx
  clear c0 c1 cx fr hee
  generalize w.setCell ⟨sb, 1, none⟩ (.int .i64 ((p : Int) + 1)) = W4 at *
  have hw : IntKind.i64.wrap (p : Int) = (p : Int) := by rw [IntKind.wrap_i64]; omega
  have hix : (0 : Int) ≤ (p : Int) ∧ (p : Int) < (l.length : Int) := by omega
  refine region_calm [.p 0, .p 1, .p 2, .l 3, .p 4, .p 5, .p 6, .l 7, .p 8, .p 9, .l 10, .p 11] f_mixed (by kernel_rfl) (by kernel_rfl) ?_
  repeat (first | (refine plan_p rfl (fun K hK => ?_); go_simp; refine hK _ ?_; clear hK K) | (refine plan_l rfl (fun K hK => ?_); go_simp; refine hK _ ?_; clear hK K))
  refine plan_done ?_
  go_wp2
  go_ret
  exact ⟨rfl, HN.out, HT.out⟩

/-- What is read behind a kind byte at 'start': the fault's code and place; or the text, and where it ends. -/
def textD (start : Nat) : Nat → List UInt8 → List UInt8 → (Nat × Nat) ⊕ (List UInt8 × Nat)
  | p, [], _ => .inl (20, p)
  | p, x :: r, out => if x = 0 then
      match r with
      | [] => .inl (20, p + 1)
      | y :: r' => if y = 0 then (if out.length > 64 then .inl (2, start) else .inr (out, p + 2)) else if y = 255 then textD start (p + 2) r' (out ++ [0]) else .inl (22, p + 1)
    else textD start (p + 1) r (out ++ [x])

theorem textD_nil (start p : Nat) (out : List UInt8) : textD start p [] out = .inl (20, p) := by unfold textD; rfl
theorem textD_some (start p : Nat) (x : UInt8) (r out : List UInt8) (h : x ≠ 0) : textD start p (x :: r) out = textD start (p + 1) r (out ++ [x]) := by
  rw [textD.eq_def]; simp [h]
theorem textD_zero_nil (start p : Nat) (out : List UInt8) : textD start p [0] out = .inl (20, p + 1) := by
  rw [textD.eq_def]; simp
theorem textD_zero (start p : Nat) (y : UInt8) (r out : List UInt8) : textD start p (0 :: y :: r) out =
    if y = 0 then (if out.length > 64 then .inl (2, start) else .inr (out, p + 2)) else if y = 255 then textD start (p + 2) r (out ++ [0]) else .inl (22, p + 1) := by
  rw [textD.eq_def]; simp

/-- What comes of text. -/
def TextPost (w : World) (sb : Nat) (a : Option Addr) (c : Nat) (l : List UInt8) (R : (Nat × Nat) ⊕ (List UInt8 × Nat)) (e : Ending) (w' : World) : Prop :=
  Touch (fun b => b = sb) w w' ∧ match R with
  | .inl (code, q) => e = .panicked (broken code q)
  | .inr (t, q) => e = .returned (str t) ∧ Src w' sb a c l q

theorem conv_bytes {w : World} {g : Option Nat} {n cap : Nat} {l : List UInt8} (h : Bs w g n cap l) : (convert 30 9 (slv g n cap)).run Try.prog w = .ok (str l) w := by
  have hn := h.bytes
  subst hn
  cases g with
  | none =>
    obtain ⟨_, h0, rfl⟩ := h
    have : l = [] := List.eq_nil_of_length_eq_zero h0
    subst this
    exact run_convert_bytes_nil (w := w) 30 5 Try.underlying30 Try.underlying5 0 0 9 Try.underlying9
  | some b =>
    refine run_convert_bytes_back w _ _ 5 ⟨b, 0, none⟩ cap l Try.underlying30 Try.underlying5 Try.underlying9 (fun j hj => ?_)
    have := h.cell (bc_get (List.getElem?_eq_getElem hj))
    unfold Addr.add
    split
    · rename_i h0; subst h0; exact this
    · simpa using this

/-- append of the bytes y to bytes of the call's own; S: what the call may touch besides. -/
theorem app_tch {P : Program} {S : Nat → Prop} {W w : World} {ops : Array Oper} {rest : List Oper} {o : Oper} {a : Act} {Q : Exit → Act → World → Prop} (E : EI P 30 5 1 1) (hgd : o.guard = none) (s x : Operand)
    (ho : o.op = .call { callee := .builtin .append, args := #[s, x], argTypes := #[30, 30] })
    {g : Option Nat} {cap : Nat} {out : List UInt8} (hs : a.eval s = slv g out.length cap) (hown : Bs w g out.length cap out) (hg : ∀ b, g = some b → W.heap.size ≤ b) (hE : Touch S W w)
    (y : List UInt8) {b m c : Nat} {e' : TypeId} {f : Nat × Nat} (hx : a.eval x = .slice (some ⟨b, 0, none⟩) m c) (hy : y.length = m) (hm : 0 < m) (hnews : w.heap[b]? = some (.cells (bc y).toArray e' f)) (hb : out.length + m ≤ 140737488355328)
    (h : ∀ g' cap' w', Bs w' (some g') (out.length + m) cap' (out ++ y) → W.heap.size ≤ g' → Touch S W w' → Touch (fun k => g = some k) w w' →
      wpList P ops Q rest (a.put o.dst (.slice (some ⟨g', 0, none⟩) (out.length + m) cap')) w') : wpList P ops Q (o :: rest) a w := by
  refine app_lit E hgd s x ho hs hown hx (by rw [bc_len]; omega) hnews (bc_one y) hm (by omega) ?_
  intro g2 cap2 w2 hS2 hT2 hat2
  refine h g2 cap2 w2 ?_ ?_ ?_ hT2
  · unfold Bs; rw [bc_append]; exact hS2
  · rcases hat2 with h | h
    · exact hg _ h
    · have := hE.size; omega
  · exact hE.trans' hT2 (fun i hi h => by have := hg i h; omega)

set_option maxRecDepth 100000 in
set_option maxHeartbeats 4000000 in
theorem text_ok (sb : Nat) (a : Option Addr) (c : Nat) (l : List UInt8) (p : Nat) (w : World) (h : Src w sb a c l p) (hp : 0 < p) (hl : l.length ≤ 140737488355328) (ha : ∀ q, a = some q → q.block < w.heap.size) :
    Calls Try.prog 44 #[.pointer (some ⟨sb, 0, none⟩)] w (fun e w' => TextPost w sb a c l (textD (p - 1) p (l.drop p) []) e w') := by
  generalize hR : textD (p - 1) p (l.drop p) [] = R
  have HR := Lib.hid hR; clear hR
  have hsb : sb < w.heap.size := blk_lt h.1
  have hpl : p ≤ l.length := h.2.1
  obtain ⟨c0, c1⟩ := blk2 h.1
  have H := Lib.hid h; clear h
  have HA := Lib.hid ha; clear ha
  go_enter Try.func44, Try.ntmps44
  go_wp2
  go_loopg [3] (l.length - p) (fun k v3 wr => ∃ (q : Nat) (g : Option Nat) (cap : Nat) (out : List UInt8), k = l.length - q ∧ v3 = slv g out.length cap ∧ out.length ≤ q ∧ Src wr sb a c l q ∧ Bs wr g out.length cap out ∧
    (∀ b, g = some b → w.heap.size ≤ b) ∧ Touch (fun b => b = sb) w wr ∧ textD (p - 1) q (l.drop q) out = R)
  case atStart => exact ⟨p, none, 0, [], rfl, rfl, by simp, H.out, Sl.nil _ _ _, by simp, Touch.refl _ _, HR.out⟩
  case round =>
    clear c0 c1
    obtain ⟨q, g, cap, out, hk, rfl, hoq, hS, hB, hg, hT, hD⟩ := hrel
    have HS := Lib.hid hS
    have hql := hS.2.1
    have HB := Lib.hid hB
    have HG := Lib.hid hg
    have HT := Lib.hid hT
    have HK := Lib.hid hk
    clear hS hB hg hT hk
    by_cases hlt : q < l.length
    · obtain ⟨x, hx⟩ : ∃ x, l[q]? = some x := ⟨_, List.getElem?_eq_getElem hlt⟩
      have hd : l.drop q = x :: l.drop (q + 1) := by
        rw [List.drop_eq_getElem_cons hlt]; rw [List.getElem?_eq_getElem hlt] at hx; cases hx; rfl
      rw [hd] at hD
      have HD := Lib.hid hD; clear hD hd
      go_wp2_with fail
      refine (next_ok sb a c l q wr HS.out x hx hl).mono ?_
      rintro e w2 ⟨rfl, hS2, hT2⟩
      have hB2 : Bs w2 g out.length cap out := HB.out.touch hT2 (fun b e => by have := HG.out b e; omega)
      have hT2' := HT.out.trans hT2
      have HS2 := Lib.hid hS2; clear hS2
      have HB2 := Lib.hid hB2; clear hB2
      have HX := Lib.hid hx; clear hx
      by_cases hx0 : x = 0
      · subst hx0
        by_cases hlt2 : q + 1 < l.length
        · obtain ⟨y, hy⟩ : ∃ y, l[q + 1]? = some y := ⟨_, List.getElem?_eq_getElem hlt2⟩
          have hd : l.drop (q + 1) = y :: l.drop (q + 2) := by
            rw [List.drop_eq_getElem_cons hlt2]; rw [List.getElem?_eq_getElem hlt2] at hy; cases hy; rfl
          rw [hd] at HD
          have hR2 := HD.out
          rw [textD_zero] at hR2
          have HR2 := Lib.hid hR2; clear HD hR2 hd
          go_wp2_with fail
          refine (next_ok sb a c l (q + 1) w2 HS2.out y hy hl).mono ?_
          rintro e w3 ⟨rfl, hS3, hT3⟩
          have hB3 : Bs w3 g out.length cap out := HB2.out.touch hT3 (fun b e => by have := HG.out b e; omega)
          have hT3' := hT2'.trans hT3
          have HS3 := Lib.hid hS3; clear hS3
          have HB3 := Lib.hid hB3; clear hB3
          have HY := Lib.hid hy; clear hy hT2 hT3
          by_cases hy0 : y = 0
          · subst hy0
            by_cases hlen : out.length > 64
            · have hlen' : (64 : Int) < (out.length : Int) := by omega
              have HR3 : Hid (.inl (2, p - 1) = R) := by have := HR2.out; rw [if_pos rfl, if_pos hlen] at this; exact this
              clear HR2
              go_wp2
              refine ⟨rfl, ?_⟩
              rw [← HR3.out]
              refine ⟨hT3', ?_⟩
              simp only []
              rw [show ((p - 1 : Nat) : Int) = (p : Int) - 1 by omega]
              rfl
            · have hlen' : ¬ (64 : Int) < (out.length : Int) := by omega
              have HR3 : Hid (.inr (out, q + 2) = R) := by have := HR2.out; rw [if_pos rfl, if_neg hlen] at this; exact this
              clear HR2
              have hcv := conv_bytes HB3.out
              go_wp2
              go_ret
              rw [← HR3.out]
              exact ⟨hT3', rfl, HS3.out⟩
          · have hyz : ((y.toNat : Int) == 0) = false := by
              have : y.toNat ≠ 0 := fun e => hy0 (UInt8.toNat_inj.1 (by simpa using e))
              simp; omega
            by_cases hy1 : y = 255
            · subst hy1
              have HR3 : Hid (textD (p - 1) (q + 2) (l.drop (q + 2)) (out ++ [0]) = R) := by have := HR2.out; rw [if_neg hy0, if_pos rfl] at this; exact this
              clear HR2 hy0
              go_wp2_with (at_builtin; refine app_tch (W := w) (S := fun b => b = sb) ei_byte rfl (.tmp 46) (.tmp 48) rfl (g := g) (cap := cap) (by rfl) (HB3.out.ext ((Ext.refl w3).alloc _)) HG.out (hT3'.alloc _) [0] (by rfl) (by rfl) (by omega) (blk_new _ _) (by omega) ?_)
              intro g4 cap4 w4 hB4 hg4 hE4 hT4
              have hS4 : Src w4 sb a c l (q + 2) := (HS3.out.ext ((Ext.refl w3).alloc _)).touch hT4 (fun e => by have := HG.out _ e; omega) (fun r e h => by have := HG.out _ h; have := HA.out r e; omega)
              have HB4 := Lib.hid hB4
              have HS4 := Lib.hid hS4
              clear hB4 hS4 hT4
              go_wp2
              go_roundg (l.length - (q + 2))
              case measure => have := HK.out; omega
              case rel => exact ⟨q + 2, some g4, cap4, out ++ [0], rfl, by simp [slv, adr], by simp; omega, HS4.out, by simpa using HB4.out, by simpa using hg4, hE4, HR3.out⟩
            · have hyf : ((y.toNat : Int) == 255) = false := by
                have : y.toNat ≠ 255 := fun e => hy1 (UInt8.toNat_inj.1 (by simpa using e))
                simp; omega
              have HR3 : Hid (.inl (22, q + 1) = R) := by have := HR2.out; rw [if_neg hy0, if_neg hy1] at this; exact this
              obtain ⟨d0, d1⟩ := blk2 HS3.out.1
              clear HR2 hy0 hy1
              go_wp2
              refine ⟨rfl, ?_⟩
              rw [← HR3.out]
              refine ⟨hT3', ?_⟩

              simp only []
              rfl
        · have hq : q + 1 = l.length := by omega
          have hdn : l.drop (q + 1) = [] := List.drop_eq_nil_of_le (by omega)
          rw [hdn] at HD
          have HR2 : Hid (.inl (20, q + 1) = R) := by have := HD.out; rwa [textD_zero_nil] at this
          clear HD hdn
          go_wp2_with fail
          refine (next_end sb a c l (q + 1) w2 HS2.out hq).mono ?_
          rintro e w3 ⟨rfl, hE3⟩
          go_wp2
          refine ⟨rfl, ?_⟩
          rw [← HR2.out]
          exact ⟨hT2'.trans (hE3.touch _), by simp only [hq]; rfl⟩
      · have hxz : ((x.toNat : Int) == 0) = false := by
          have : x.toNat ≠ 0 := fun e => hx0 (UInt8.toNat_inj.1 (by simpa using e))
          simp; omega
        have HD2 : Hid (textD (p - 1) (q + 1) (l.drop (q + 1)) (out ++ [x]) = R) := by
          have := HD.out; rwa [textD_some _ _ _ _ _ hx0] at this
        clear hx0
        go_wp2_with (at_builtin; refine app_tch (W := w) (S := fun b => b = sb) ei_byte rfl (.tmp 46) (.tmp 48) rfl (g := g) (cap := cap) (by rfl) (HB2.out.ext ((Ext.refl w2).alloc _)) HG.out (hT2'.alloc _) [x] (by rfl) (by rfl) (by omega) (blk_new _ _) (by omega) ?_)
        intro g4 cap4 w4 hB4 hg4 hE4 hT4
        have hS4 : Src w4 sb a c l (q + 1) := (HS2.out.ext ((Ext.refl w2).alloc _)).touch hT4 (fun e => by have := HG.out _ e; omega) (fun r e h => by have := HG.out _ h; have := HA.out r e; omega)
        have HB4 := Lib.hid hB4
        have HS4 := Lib.hid hS4
        clear hB4 hS4 hT4
        go_wp2
        go_roundg (l.length - (q + 1))
        case measure => have := HK.out; omega
        case rel => exact ⟨q + 1, some g4, cap4, out ++ [x], rfl, by simp [slv, adr], by simp; omega, HS4.out, by simpa using HB4.out, by simpa using hg4, hE4, HD2.out⟩
    · have hq : q = l.length := by omega
      have hdn : l.drop q = [] := List.drop_eq_nil_of_le (by omega)
      rw [hdn, textD_nil] at hD
      have HD := Lib.hid hD; clear hD hdn
      go_wp2_with fail
      refine (next_end sb a c l q wr HS.out hq).mono ?_
      rintro e w3 ⟨rfl, hE3⟩
      go_wp2
      refine ⟨rfl, ?_⟩
      rw [← HD.out]
      exact ⟨HT.out.trans (hE3.touch _), by simp only [hq]; rfl⟩

section
variable {P : Program} {ops : Array Oper} {Q : Exit → Act → List Frame → World → Prop} {cs cs' : List Frame}
/-- The operations that do not recover, walked as ever. -/
theorem wpOpsS_list {K : Act → World → Prop} (hK : ∀ a w, K a w → Q .normal a cs w) : ∀ (l : List Nat) (a : Act) (w : World),
    wpList P ops (Exit.then K (fun _ _ _ => False)) (l.filterMap fun i => ops[i]?) a w → wpOpsS P ops Q l a cs w
  | [], a, w, h => hK a w h
  | i :: rest, a, w, h => by
    unfold wpOpsS
    cases ho : ops[i]? with
    | none =>
      simp only [List.filterMap_cons, ho] at h
      exact wpOpsS_list hK rest a w h
    | some o =>
      simp only [List.filterMap_cons, ho] at h
      unfold wpList at h
      simp only []
      split at h
      · rename_i hw
        rw [if_pos hw]
        rcases h with h | ⟨_, a0, w0, h0⟩
        · unfold Oper.wp at h
          generalize (execOp a.eval o).run P w = r at h ⊢
          cases r with
          | ok n w' =>
            cases n <;> simp only [Oper.upon] at h ⊢
            case value v => exact wpOpsS_list hK rest _ _ h
            case skip => exact wpOpsS_list hK rest _ _ h
            case defer d => exact wpOpsS_list hK rest _ _ h
            case enter f args =>
              refine h.mono fun e w'' he => ?_
              cases e with
              | returned v => exact wpOpsS_list hK rest _ _ he
              | panicked c => exact he.elim
              | outgrown => obtain ⟨_, _, he⟩ := he; exact he.elim
            case row row args => exact h.mono fun v w'' he => wpOpsS_list hK rest _ _ he
          | halt x w' => cases x <;> simp only [Oper.upon] at h ⊢; exact h.elim
        · exact h0.elim
      · rename_i hw
        rw [if_neg hw]
        exact wpOpsS_list hK rest _ _ h
theorem wpOpsS_recover {i : Nat} {rest : List Nat} {o : Oper} {a : Act} {w w' : World} {v : Value} {r : List Oper} (ho : ops.toList.drop i = o :: r) (hg : o.guard = none) (hr : (execOp a.eval o).run P w = .ok .recover w') (hc : recoverD cs = some (v, cs'))
    (h : wpOpsS P ops Q rest (a.put o.dst v) cs' w') : wpOpsS P ops Q (i :: rest) a cs w := by
  unfold wpOpsS
  simp only [at_drop ho, Region.wanted, hg, if_true, hr, hc]
  exact h
theorem wpOpsS_idle {i : Nat} {rest : List Nat} {o : Oper} {a : Act} {w w' : World} {r : List Oper} (ho : ops.toList.drop i = o :: r) (hg : o.guard = none) (hr : (execOp a.eval o).run P w = .ok .recover w') (hc : recoverD cs = none)
    (h : wpOpsS P ops Q rest (a.put o.dst .nilIface) cs w') : wpOpsS P ops Q (i :: rest) a cs w := by
  unfold wpOpsS
  simp only [at_drop ho, Region.wanted, hg, if_true, hr, hc]
  exact h
/-- A region whose first operation recovers. -/
theorem wpS_region_rec {id : Nat} {a : Act} {w w' : World} {rest : List Nat} {o : Oper} {v : Value} {r : List Oper} (K : Act → World → Prop) (hl : List.range ops.size = 0 :: rest) (ho : ops.toList.drop 0 = o :: r) (hg : o.guard = none)
    (hr : (execOp a.eval o).run P w = .ok .recover w') (hc : recoverD cs = some (v, cs')) (hK : ∀ a w, K a w → Q .normal a cs' w) (hls : (rest.filterMap fun i => ops[i]?) = r)
    (h : wpList P ops (Exit.then K (fun _ _ _ => False)) r (a.put o.dst v) w') : (Code.region id ops false).wpS P Q a cs w := by
  rw [← hls] at h
  refine wpS_region ?_
  rw [hl]
  exact wpOpsS_recover ho hg hr hc (wpOpsS_list hK _ _ _ h)
theorem wpS_region_idle {id : Nat} {a : Act} {w w' : World} {rest : List Nat} {o : Oper} {r : List Oper} (K : Act → World → Prop) (hl : List.range ops.size = 0 :: rest) (ho : ops.toList.drop 0 = o :: r) (hg : o.guard = none)
    (hr : (execOp a.eval o).run P w = .ok .recover w') (hc : recoverD cs = none) (hK : ∀ a w, K a w → Q .normal a cs w) (hls : (rest.filterMap fun i => ops[i]?) = r)
    (h : wpList P ops (Exit.then K (fun _ _ _ => False)) r (a.put o.dst .nilIface) w') : (Code.region id ops false).wpS P Q a cs w := by
  rw [← hls] at h
  refine wpS_region ?_
  rw [hl]
  exact wpOpsS_idle ho hg hr hc (wpOpsS_list hK _ _ _ h)
end

theorem assert_yes (w : World) (v : Value) : (Instr.typeAssert (.iface 99 v) 20 99 true).run Try.prog w = .ok (.tuple #[v, .bool true]) w := by kernel_rfl
theorem assert_no (w : World) : (Instr.typeAssert .nilIface 20 99 true).run Try.prog w = .ok (.tuple #[.agg #[.int .i64 0, .int .i64 0], .bool false]) w := by kernel_rfl

set_option maxRecDepth 100000 in
set_option maxHeartbeats 4000000 in
theorem catch_panicking (vb fb : Nat) (code q : Int) (vs0 f0 f1 : Value) (w : World) (hv : w.heap[vb]? = some (.cells #[vs0] 23 (0, 0))) (hf : w.heap[fb]? = some (.cells #[f0, f1] 37 (0, 0))) (hne : vb ≠ fb) :
    CallsD Try.prog 42 #[.pointer (some ⟨vb, 0, none⟩), .pointer (some ⟨fb, 0, none⟩)] (.panicking (broken code q)) w fun e u' w' =>
      e = .returned (.tuple #[]) ∧ u' = .panicking [{ v := .iface 99 (.agg #[.int .i64 code, .int .i64 q]), recovered := true }] ∧
      w'.heap[vb]? = some (.cells #[.slice none 0 0] 23 (0, 0)) ∧ w'.heap[fb]? = some (.cells #[.int .i64 code, .int .i64 q] 37 (0, 0)) ∧ Touch (fun b => b = vb ∨ b = fb) w w' := by
  refine callsD_of_wpS Try.func42 rfl fun c₀ cs hu => ?_
  rw [show (#[Value.pointer (some ⟨vb, 0, none⟩), .pointer (some ⟨fb, 0, none⟩)] ++ Array.replicate (Try.f42.ntmps - #[Value.pointer (some ⟨vb, 0, none⟩), Value.pointer (some ⟨fb, 0, none⟩)].size) undef) =
    #[Value.pointer (some ⟨vb, 0, none⟩), .pointer (some ⟨fb, 0, none⟩), undef, undef, undef, undef, undef, undef, undef, undef, undef, undef] from by rw [Try.ntmps42]; rfl]
  apply wpS_seq
  have hmode : recoverD (c₀ :: cs) = some (.iface 99 (.agg #[.int .i64 code, .int .i64 q]), { c₀ with mode := .panicking [{ v := .iface 99 (.agg #[.int .i64 code, .int .i64 q]), recovered := true }] } :: cs) := by simp [recoverD, hu]
  refine wpS_region_rec (rest := [1, 2, 3, 4, 5, 6, 7]) (fun a w' => Code.wp Try.prog _ (fun e a' w' => _) a w') (by kernel_rfl) rfl rfl (w' := w) rfl hmode (fun a w' h => wpS_of_wp h) (by kernel_rfl) ?h5
  generalize hcs : ({ c₀ with mode := .panicking [{ v := .iface 99 (.agg #[.int .i64 code, .int .i64 q]), recovered := true }] } : Frame) = c1
  have HCS := Lib.hid hcs
  have v0 := blk1 hv
  obtain ⟨v1, v2⟩ := blk2 hf
  have z0 := blk_frozen hv 0
  clear hmode hcs
  have hta := assert_yes
  go_wp2
  clear hta
  have hE : Ext w (w.alloc (.cells #[.int .i64 code, .int .i64 q] 99)) := (Ext.refl w).alloc _
  have hv' := Ext.block hE hv
  have hf' := Ext.block hE hf
  obtain ⟨x0, x1⟩ := blk2 (blk_new w (.cells #[.int .i64 code, .int .i64 q] 99))
  have hnb : vb < w.heap.size ∧ fb < w.heap.size := ⟨blk_lt hv, blk_lt hf⟩
  clear v0 v1 v2 z0
  generalize w.alloc (.cells #[.int .i64 code, .int .i64 q] 99) = W at *
  generalize w.heap.size = xb at *
  have v0 := blk1 hv'
  obtain ⟨v1, v2⟩ := blk2 hf'
  have z0 := blk_frozen hv' 0
  have z1 := blk_frozen hf' 0
  have z2 := blk_frozen hf' 1
  have hn1 : ¬ vb = xb := by omega
  have hn2 : ¬ fb = xb := by omega
  go_region
  refine ⟨rfl, .panicking [{ v := .iface 99 (.agg #[.int .i64 code, .int .i64 q]), recovered := true }], by rw [← HCS.out], .tuple #[], results_none rfl _ _ _, rfl, rfl, ?_, ?_, ?_⟩
  · exact blk_set_ne (blk_set_ne (blk_set hv' 0 _) hne _) hne _
  · exact blk_set (blk_set (blk_set_ne hf' (fun e => hne e.symm) _) 0 _) 1 _
  · exact ((((hE.touch (fun b => b = vb ∨ b = fb)).setCell (p := ⟨vb, 0, none⟩) (fun _ => .inl rfl) _).setCell (p := ⟨fb, 0, none⟩) (fun _ => .inr rfl) _).setCell (p := ⟨fb, 1, none⟩) (fun _ => .inr rfl) _).drew

set_option maxRecDepth 100000 in
set_option maxHeartbeats 4000000 in
theorem catch_idle (vb fb : Nat) (w : World) :
    CallsD Try.prog 42 #[.pointer (some ⟨vb, 0, none⟩), .pointer (some ⟨fb, 0, none⟩)] .returning w fun e u' w' =>
      e = .returned (.tuple #[]) ∧ u' = .returning ∧ Ext w w' := by
  refine callsD_of_wpS Try.func42 rfl fun c₀ cs hu => ?_
  rw [show (#[Value.pointer (some ⟨vb, 0, none⟩), .pointer (some ⟨fb, 0, none⟩)] ++ Array.replicate (Try.f42.ntmps - #[Value.pointer (some ⟨vb, 0, none⟩), Value.pointer (some ⟨fb, 0, none⟩)].size) undef) =
    #[Value.pointer (some ⟨vb, 0, none⟩), .pointer (some ⟨fb, 0, none⟩), undef, undef, undef, undef, undef, undef, undef, undef, undef, undef] from by rw [Try.ntmps42]; rfl]
  apply wpS_seq
  have hmode : recoverD (c₀ :: cs) = none := by simp [recoverD, hu]
  refine wpS_region_idle (rest := [1, 2, 3, 4, 5, 6, 7]) (fun a w' => Code.wp Try.prog _ (fun e a' w' => _) a w') (by kernel_rfl) rfl rfl (w' := w) rfl hmode (fun a w' h => wpS_of_wp h) (by kernel_rfl) ?h5
  have HU := Lib.hid hu
  clear hmode hu
  have hta := assert_no
  go_wp2
  refine ⟨rfl, .returning, by rw [← HU.out], .tuple #[], results_none rfl _ _ _, rfl, rfl, (Ext.refl w).alloc _⟩


end Go.Proofs.Ytkejjahlglldlaa
