/- Decode: walked. Values that come in; Compare and Same of the document; the laws of writing and reading. -/
import Derived.Test.YtkejjahlglldlaaMB1
import Derived.Test.YtkejjahlglldlaaMA
import Derived.Deep.RegionWith
import Derived.Lib.SmallJoins
import Derived.Laws.StructEq
import Derived.Lib.Bytealg
namespace Go.Proofs.Ytkejjahlglldlaa
open Go.RowKit

/-- The number of bytes, the highest first. -/
def getN (l : List UInt8) : Nat := l.foldl (fun n b => n * 256 + b.toNat) 0
theorem getN_snoc (l : List UInt8) (b : UInt8) : getN (l ++ [b]) = getN l * 256 + b.toNat := by simp [getN]
theorem getN_lt : ∀ (k : Nat) (l : List UInt8), l.length = k → getN l < 256 ^ k
  | 0, l, h => by have := List.eq_nil_of_length_eq_zero h; subst this; simp [getN]
  | k + 1, l, h => by
    have hne : l ≠ [] := fun e => by subst e; simp at h
    have hd := List.dropLast_concat_getLast hne
    rw [← hd, getN_snoc]
    have := getN_lt k l.dropLast (by rw [List.length_dropLast]; omega)
    have := byte_lt (l.getLast hne)
    rw [Nat.pow_succ]
    omega

/-- What bytes are read as, from place p on: a fault's code and place, or the values. -/
def decD (l : List UInt8) : Nat → Nat → List V → (Nat × Nat) ⊕ List V
  | 0, _, acc => .inr acc
  | f + 1, p, acc => match l.drop p with
    | [] => .inr acc
    | k :: r =>
      if k = 1 then (if r.length < 8 then .inl (20, l.length) else decD l f (p + 9) (acc ++ [(1, (getN (r.take 8) : Int) - 9223372036854775808, [])]))
      else if k = 2 then match textD p (p + 1) r [] with
        | .inl e => .inl e
        | .inr (t, q) => decD l f q (acc ++ [(2, 0, t)])
      else .inl (21, p)
def decOf (l : List UInt8) : (Nat × Nat) ⊕ List V := decD l (l.length + 1) 0 []
def valsOf : (Nat × Nat) ⊕ List V → List V
  | .inl _ => []
  | .inr vs => vs
def codeOf : (Nat × Nat) ⊕ List V → Nat
  | .inl (c, _) => c
  | .inr _ => 0
def placeOf : (Nat × Nat) ⊕ List V → Nat
  | .inl (_, q) => q
  | .inr _ => 0

theorem decD_cons {l : List UInt8} {p : Nat} {k : UInt8} {r : List UInt8} (h : l.drop p = k :: r) (f : Nat) (acc : List V) : decD l (f + 1) p acc =
      if k = 1 then (if r.length < 8 then .inl (20, l.length) else decD l f (p + 9) (acc ++ [(1, (getN (r.take 8) : Int) - 9223372036854775808, [])]))
      else if k = 2 then match textD p (p + 1) r [] with
        | .inl e => .inl e
        | .inr (t, q) => decD l f q (acc ++ [(2, 0, t)])
      else .inl (21, p) := by
  rw [decD.eq_def]; simp only [h]
theorem decD_nil {l : List UInt8} {p : Nat} (h : l.drop p = []) (f : Nat) (acc : List V) : decD l (f + 1) p acc = .inr acc := by
  rw [decD.eq_def]; simp only [h]

theorem textD_end : ∀ (n : Nat) (r out : List UInt8) (start p : Nat) (t : List UInt8) (q : Nat), r.length ≤ n → textD start p r out = .inr (t, q) → p < q ∧ q ≤ p + r.length ∧ t.length ≤ 64
  | 0, r, out, start, p, t, q, hn, h => by
    have := List.eq_nil_of_length_eq_zero (Nat.le_zero.1 hn)
    subst this
    rw [textD_nil] at h; cases h
  | n + 1, [], out, start, p, t, q, hn, h => by rw [textD_nil] at h; cases h
  | n + 1, x :: r, out, start, p, t, q, hn, h => by
    simp only [List.length_cons] at hn ⊢
    by_cases hx : x = 0
    · subst hx
      cases r with
      | nil => rw [textD_zero_nil] at h; cases h
      | cons y r =>
        rw [textD_zero] at h
        simp only [List.length_cons] at hn ⊢
        split at h
        · split at h
          · cases h
          · cases h; omega
        · split at h
          · have := textD_end n r _ start (p + 2) t q (by omega) h
            omega
          · cases h
    · rw [textD_some _ _ _ _ _ hx] at h
      have := textD_end n r _ start (p + 1) t q (by omega) h
      omega

theorem ei_value : EI Try.prog 23 93 3 32 :=
  ⟨Try.underlying23, by
    obtain ⟨i, h1, h2, h3, h4⟩ := info_parts (P := Try.prog) (e := 93) (z := .agg #[.int .i64 0, .int .i64 0, .string ⟨#[]⟩]) (size := 3) (bytes := 32) (by kernel_rfl)
    exact ⟨i, _, h1, h2, h3, h4, rfl⟩, by omega, by omega⟩

/-- The loop's state. -/
def DInv (w : World) (vb fb sb : Nat) (a : Option Addr) (c : Nat) (l : List UInt8) (p : Nat) (g : Option Nat) (cap : Nat) (vs : List V) (wr : World) : Prop :=
  Src wr sb a c l p ∧ wr.heap[vb]? = some (.cells #[slv g vs.length cap] 23 (0, 0)) ∧ wr.heap[fb]? = some (.cells #[.int .i64 0, .int .i64 0] 37 (0, 0)) ∧
  Sl wr 93 3 g vs.length cap (flatV vs) ∧ (∀ b, g = some b → w.heap.size ≤ b ∧ b ≠ vb ∧ b ≠ fb ∧ b ≠ sb) ∧ Ext w wr
theorem DInv.push {w wr w4 : World} {vb fb sb : Nat} {a : Option Addr} {c : Nat} {l : List UInt8} {q : Nat} {g : Option Nat} {g' cap' : Nat} {vs : List V} {v : V} {x : Value}
    (hS : Src wr sb a c l q) (hV : wr.heap[vb]? = some (.cells #[x] 23 (0, 0))) (hF : wr.heap[fb]? = some (.cells #[.int .i64 0, .int .i64 0] 37 (0, 0)))
    (hG : ∀ b, g = some b → w.heap.size ≤ b ∧ b ≠ vb ∧ b ≠ fb ∧ b ≠ sb) (hE : Ext w wr) (hA : ∀ q : Addr, a = some q → q.block < w.heap.size) (h1 : w.heap.size ≤ vb) (h3 : vb ≠ fb) (h4 : vb ≠ sb)
    (hT : Touch (fun k => g = some k) wr w4) (hS4 : Sl w4 93 3 (some g') (vs.length + 1) cap' (flatV (vs ++ [v]))) (hat : g = some g' ∨ wr.heap.size ≤ g') :
    DInv w vb fb sb a c l q (some g') cap' (vs ++ [v]) (w4.setCell ⟨vb, 0, none⟩ (slv (some g') (vs.length + 1) cap')) := by
  have hl : (vs ++ [v]).length = vs.length + 1 := by simp
  have hV4 := Touch.old hT hV (fun e => (hG _ e).2.1 rfl)
  have hF4 := Touch.old hT hF (fun e => (hG _ e).2.2.1 rfl)
  have hS5 := hS.touch hT (fun e => (hG _ e).2.2.2 rfl) (fun r e h => by have := (hG _ h).1; have := hA r e; omega)
  have hTv : Touch (fun b => b = vb) w4 (w4.setCell ⟨vb, 0, none⟩ (slv (some g') (vs.length + 1) cap')) := (Touch.refl (fun b => b = vb) w4).setCell (p := ⟨vb, 0, none⟩) (fun _ => rfl) _
  have hg : w.heap.size ≤ g' ∧ g' ≠ vb ∧ g' ≠ fb ∧ g' ≠ sb := by
    rcases hat with h | h
    · exact hG _ h
    · have := blk_lt hV; have := blk_lt hF; have := blk_lt hS.1; have := hE.size
      omega
  refine ⟨hS5.touch hTv (fun e => h4 e.symm) (fun r e h => by have := hA r e; omega), ?_, Touch.old hTv hF4 (fun e => h3 e.symm), ?_, ?_, ?_⟩
  · rw [hl]; exact blk_set hV4 0 _
  · rw [hl]; exact hS4.touch hTv (fun b e h => by cases e; exact hg.2.1 h)
  · intro b e; cases e; exact hg
  · exact Touch.ext (((hE.touch (fun b => b = vb ∨ g = some b)).trans (hT.mono (fun i _ h => .inr h))).trans (hTv.mono (fun i _ h => .inl h))) (fun i hi e => by
      rcases e with e | e
      · omega
      · have := (hG _ e).1; omega)
/-- append of one value. -/
theorem app_val {P : Program} {w : World} {ops : Array Oper} {rest : List Oper} {o : Oper} {a : Act} {Q : Exit → Act → World → Prop} (E : EI P 23 93 3 32) (hgd : o.guard = none) (s x : Operand)
    (ho : o.op = .call { callee := .builtin .append, args := #[s, x], argTypes := #[23, 23] })
    {g : Option Nat} {cap : Nat} {vs : List V} (hs : a.eval s = slv g vs.length cap) (hown : Sl w 93 3 g vs.length cap (flatV vs))
    (v : V) {b c : Nat} {e' : TypeId} {f : Nat × Nat} (hx : a.eval x = .slice (some ⟨b, 0, none⟩) 1 c) (hnews : w.heap[b]? = some (.cells (cellsV v).toArray e' f)) (hb : vs.length ≤ 1000000000000)
    (h : ∀ g' cap' w', Sl w' 93 3 (some g') (vs.length + 1) cap' (flatV (vs ++ [v])) → Touch (fun k => g = some k) w w' → (g = some g' ∨ g' = w.heap.size) →
      wpList P ops Q rest (a.put o.dst (.slice (some ⟨g', 0, none⟩) (vs.length + 1) cap')) w') : wpList P ops Q (o :: rest) a w := by
  refine app_lit E hgd s x ho hs hown hx (by simp [cellsV]) hnews (by intro u hu; simp only [cellsV, List.mem_cons, List.not_mem_nil, or_false] at hu; rcases hu with rfl | rfl | rfl <;> rfl) (by omega) (by omega) ?_
  intro g2 cap2 w2 hS2 hT2 hat2
  refine h g2 cap2 w2 ?_ hT2 hat2
  rw [flatV_append]
  have : flatV [v] = cellsV v := by simp [flatV]
  rw [this]; exact hS2
theorem or_byte {N : Nat} (h : N < 72057594037927936) (y : UInt8) : bits .or .u64 ((N : Int) * 256) (IntKind.u64.wrap (y.toNat : Int)) = ((N * 256 + y.toNat : Nat) : Int) := by
  have hy := byte_lt y
  have hw : IntKind.u64.wrap (y.toNat : Int) = (y.toNat : Int) := by simp [IntKind.wrap, IntKind.bits, IntKind.signed]; omega
  have h1 := u64_or_nat (N * 256) y.toNat (by omega) (by omega)
  rw [nat_join 8 (N * 256) y.toNat (by omega) (by omega)] at h1
  rw [hw, ← h1]; rfl
theorem u64_back {N : Nat} (h : N < 18446744073709551616) : wrap64 (bits .xor .u64 (N : Int) 9223372036854775808) = (N : Int) - 9223372036854775808 := by
  have h3 := u64_xor_nat N 9223372036854775808 h (by decide)
  rw [show ((9223372036854775808 : Int)) = ((9223372036854775808 : Nat) : Int) from rfl, h3]
  by_cases hn : N < 9223372036854775808
  · rw [xor_top hn]; unfold wrap64; omega
  · rw [xor_top' h (by omega)]; unfold wrap64; omega
/-- Behind a panic: two slots stand as they did, and what is to be called. -/
def PQ (F : List PanicEntry → World → Prop) (x2 x3 : Value) (D : List Deferred) : Exit → Act → World → Prop
  | .panic c, a, w => F c w ∧ a.tmps[2]? = some x2 ∧ a.tmps[3]? = some x3 ∧ a.defers = D
  | _, _, _ => False
theorem put_keep (a : Act) (d : Option Tmp) (v : Value) (k : Nat) (h : d ≠ some k) : (a.put d v).tmps[k]? = a.tmps[k]? := by
  cases d with
  | none => rfl
  | some t =>
    have : t ≠ k := fun e => h (by rw [e])
    simp [Act.put, Array.getElem?_setIfInBounds, this]
theorem put_defers' (a : Act) (d : Option Tmp) (v : Value) : (a.put d v).defers = a.defers := by cases d <;> rfl
theorem region_panics [Tch.TS] {P : Program} {ops : Array Oper} {Q : Exit → Act → World → Prop} {id : Nat} {a : Act} {w : World} (plan : List PS) (hf : P.follows .mixedOrders = true) (hk : regionOk ops plan = true) (hn : decide ((plan.map PS.no).Nodup) = true)
    (hd : ops.toList.all (fun o => o.dst != some 2 && o.dst != some 3) = true) (F : List PanicEntry → World → Prop) (x2 x3 : Value) (D : List Deferred)
    (h : Tch.wpPlan P ops (PQ F x2 x3 D) plan a w.drew) (hq : ∀ c a' w', F c w' → a'.tmps[2]? = some x2 → a'.tmps[3]? = some x3 → a'.defers = D → Q (.panic c) a' w') : (Code.region id ops true).wp P Q a w := by
  have h1 := Tch.region_plan (id := id) plan hf hk hn (fun i o ho c a v w h => ?_) h
  · refine Code.wp_mono (fun e a w he => ?_) h1
    cases e <;> try exact he.elim
    exact hq _ _ _ he.1 he.2.1 he.2.2.1 he.2.2.2
  · have hm : o ∈ ops.toList := Array.mem_toList_iff.2 (Array.mem_of_getElem? ho)
    have h2 := List.all_eq_true.1 hd o hm
    simp only [Bool.and_eq_true, bne_iff_ne] at h2
    obtain ⟨h3, h4, h5, h6⟩ := h
    rw [put_keep _ _ _ _ h2.1] at h4
    rw [put_keep _ _ _ _ h2.2] at h5
    rw [put_defers'] at h6
    exact ⟨h3, h4, h5, h6⟩
theorem tch_done [Tch.TS] {P : Program} {ops : Array Oper} {Q : Exit → Act → World → Prop} {a : Act} {w : World} (h : Q .normal a w) : Tch.wpPlan P ops (calm Q) [] a w := h
/-- What comes back. -/
def DPost (w : World) (R : (Nat × Nat) ⊕ List V) (e : Ending) (w' : World) : Prop :=
  ∃ g m cap, e = .returned (.tuple #[slv g m cap, .agg #[.int .i64 (codeOf R), .int .i64 (placeOf R)]]) ∧
      Sl w' 93 3 g m cap (flatV (valsOf R)) ∧ (∀ b, g = some b → w.heap.size ≤ b) ∧ Ext w w'

set_option maxRecDepth 100000 in
set_option maxHeartbeats 8000000 in
theorem Decode_ok (a : Option Addr) (n c : Nat) (l : List UInt8) (w : World) (hn : n = l.length) (hb : BytesAt w (.slice a n c) l) (hl : l.length ≤ 1000000000) :
    Calls Try.prog 11 #[.slice a n c] w (fun e w' => DPost w (decOf l) e w') := by
  subst hn
  generalize hR : decOf l = R
  unfold decOf at hR
  have hmf : ∀ (fn : Fn) (first cap : Array Value) (w : World), (Instr.makeFunc fn first cap).run Try.prog w = .ok (.func fn first cap) w := fun _ _ _ _ => rfl
  have HR := Lib.hid hR; clear hR
  obtain ⟨a', c', he, ha0, hc⟩ := hb
  obtain ⟨rfl, rfl⟩ : a = a' ∧ c = c' := by cases he; exact ⟨rfl, rfl⟩
  clear he
  have hAB : ∀ q : Addr, 0 < l.length → a = some q → q.block < w.heap.size := fun q hl e => by
    obtain ⟨b, off, h1, h2⟩ := hc hl
    rw [h1] at e; cases e
    have := h2 0 l[0] (List.getElem?_eq_getElem hl)
    exact World.block_lt_of_cell? w _ this
  have HC := Lib.hid hc; clear hc
  have HAB := Lib.hid hAB; clear hAB ha0
  go_enter_defers Try.func11, Try.ntmps11
  go_wp2
  have hI : DInv w w.heap.size (w.heap.size + 1) (w.heap.size + 1 + 1) a c l 0 none 0 [] (((w.alloc (.cells #[.slice none 0 0] 23)).alloc (.cells #[.int .i64 0, .int .i64 0] 37)).alloc (.cells #[.slice a l.length c, .int .i64 0] 103)) := by
    have h0 := blk_new w (.cells #[.slice none 0 0] 23)
    have h1 := blk_new2 w (.cells #[.slice none 0 0] 23) (.cells #[.int .i64 0, .int .i64 0] 37)
    have h2 := blk_new2 (w.alloc (.cells #[.slice none 0 0] 23)) (.cells #[.int .i64 0, .int .i64 0] 37) (.cells #[.slice a l.length c, .int .i64 0] 103)
    rw [World.size_alloc] at h2
    have hE : Ext w (((w.alloc (.cells #[.slice none 0 0] 23)).alloc (.cells #[.int .i64 0, .int .i64 0] 37)).alloc (.cells #[.slice a l.length c, .int .i64 0] 103)) := (((Ext.refl w).alloc _).alloc _).alloc _
    refine ⟨⟨h2, by omega, fun hp => ?_⟩, blk_alloc (blk_alloc h0), blk_alloc h1, Sl.nil _ _ _, fun b hb => by simp at hb, hE⟩
    obtain ⟨b, off, h3, h4⟩ := HC.out hp
    refine ⟨b, off, h3, ?_, fun j x hx => Ext.cell hE (h4 j x hx)⟩
    have := HAB.out ⟨b, off, none⟩ hp h3
    simp only at this
    omega
  have HI := Lib.hid hI; clear hI
  generalize ((w.alloc (.cells #[.slice none 0 0] 23)).alloc (.cells #[.int .i64 0, .int .i64 0] 37)).alloc (.cells #[.slice a l.length c, .int .i64 0] 103) = W3 at *
  have hbl : w.heap.size ≤ w.heap.size ∧ w.heap.size ≤ w.heap.size + 1 ∧ w.heap.size ≤ w.heap.size + 1 + 1 ∧ w.heap.size ≠ w.heap.size + 1 ∧ w.heap.size ≠ w.heap.size + 1 + 1 ∧ w.heap.size + 1 ≠ w.heap.size + 1 + 1 := by omega
  revert HI hbl
  generalize w.heap.size + 1 + 1 = sb
  generalize w.heap.size + 1 = fb
  generalize hvb : w.heap.size = vb at HAB ⊢
  intro HI hbl
  rw [← hvb] at hbl HAB
  obtain ⟨hb1, hb2, hb3, hne1, hne2, hne3⟩ := hbl
  rw [hvb] at hne1 hne2
  have hb1 : w.heap.size ≤ vb := by omega
  clear hvb
  go_loopg [] l.length (fun k wr => ∃ (p : Nat) (g : Option Nat) (cap f : Nat) (vs : List V), k = l.length - p ∧ l.length - p < f ∧ vs.length ≤ p ∧ DInv w vb fb sb a c l p g cap vs wr ∧ decD l f p vs = R)
  case atStart => exact ⟨0, none, 0, l.length + 1, [], rfl, by omega, by simp, HI.out, HR.out⟩
  case round =>
    obtain ⟨p, g, cap, f, vs, hk, hf, hvp, ⟨hS, hV, hF, hSl, hG, hE⟩, hD⟩ := hrel
    obtain ⟨f, rfl⟩ : ∃ f', f = f' + 1 := ⟨f - 1, by omega⟩
    obtain ⟨c0, c1⟩ := blk2 hS.1
    have hpl := hS.2.1
    have HS := Lib.hid hS; clear hS
    have HV := Lib.hid hV; clear hV
    have HF := Lib.hid hF; clear hF
    have HSL := Lib.hid hSl; clear hSl
    have HG := Lib.hid hG; clear hG
    have HK := Lib.hid hk; clear hk
    have HD := Lib.hid hD; clear hD
    by_cases hlt : p < l.length
    · obtain ⟨x, hx⟩ : ∃ x, l[p]? = some x := ⟨_, List.getElem?_eq_getElem hlt⟩
      have hd : l.drop p = x :: l.drop (p + 1) := by
        rw [List.drop_eq_getElem_cons hlt]; rw [List.getElem?_eq_getElem hlt] at hx; cases hx; rfl
      have hD2 := HD.out
      rw [decD_cons hd] at hD2
      have HD2 := Lib.hid hD2; clear HD hD2 hd
      go_wp2_with fail
      refine (next_ok sb a c l p wr HS.out x hx (by omega)).mono ?_
      rintro e w2 ⟨rfl, hS2, hT2⟩
      have hV2 := Touch.old hT2 HV.out (fun e => hne2 e)
      have hF2 := Touch.old hT2 HF.out (fun e => hne3 e)
      have hSl2 := HSL.out.touch hT2 (fun b e h => (HG.out b e).2.2.2 h)
      have hE2 : Ext w w2 := Touch.ext ((hE.touch _).trans hT2) (fun i hi e => by omega)
      have HS2 := Lib.hid hS2
      have HV2 := Lib.hid hV2
      have HF2 := Lib.hid hF2
      have HSL2 := Lib.hid hSl2
      have hw : wrap64 (x.toNat : Int) = (x.toNat : Int) := by have := byte_lt x; unfold wrap64; omega
      clear hS2 hV2 hF2 hSl2 hx c0 c1 hT2 HS HV HF HSL
      by_cases hx1 : x = 1
      · subst hx1
        have hr : (l.drop (p + 1)).length = l.length - (p + 1) := by rw [List.length_drop]
        have HD3 := HD2.out
        rw [if_pos rfl, hr] at HD3
        have HDX := Lib.hid HD3; clear HD3 HD2 hr hw
        go_wp2
        go_loopg [6, 32] 8 (fun k v6 v32 wr => ∃ j : Nat, j + k = 8 ∧ v6 = .int .u64 ((getN ((l.drop (p + 1)).take j) : Nat) : Int) ∧ v32 = .int .i64 j ∧ Src wr sb a c l (p + 1 + j) ∧ Touch (fun b => b = sb) w2 wr)
        case atStart => exact ⟨0, by omega, by simp [getN], rfl, HS2.out, Touch.refl _ _⟩
        case round =>
          rename_i gk1 wr1 _ _ _ _
          obtain ⟨j, hjk, rfl, rfl, hS4, hT4⟩ := hrel
          have HS4 := Lib.hid hS4; clear hS4
          have hE4 : Ext w wr := Touch.ext ((hE2.touch _).trans hT4) (fun i hi e => by omega)
          by_cases hj8 : j < 8
          · have HJK := Lib.hid hjk; clear hjk
            by_cases hlt2 : p + 1 + j < l.length
            · obtain ⟨y, hy⟩ : ∃ y, l[p + 1 + j]? = some y := ⟨_, List.getElem?_eq_getElem hlt2⟩
              go_wp2_with fail
              refine (next_ok sb a c l (p + 1 + j) wr HS4.out y hy (by omega)).mono ?_
              rintro e w5 ⟨rfl, hS5, hT5⟩
              have hnx : getN ((l.drop (p + 1)).take (j + 1)) = getN ((l.drop (p + 1)).take j) * 256 + y.toNat := by
                rw [List.take_add_one, List.getElem?_drop, hy]; exact getN_snoc _ _
              have hNl : getN ((l.drop (p + 1)).take j) < 256 ^ j := getN_lt j _ (by rw [List.length_take, List.length_drop]; omega)
              have hN7 : getN ((l.drop (p + 1)).take j) < 72057594037927936 := Nat.lt_of_lt_of_le hNl (Nat.pow_le_pow_right (n := 256) (by decide) (show j ≤ 7 by omega))
              generalize getN ((l.drop (p + 1)).take j) = N at *
              have HS5 := Lib.hid hS5
              have HNX := Lib.hid hnx
              have hT6 := hT4.trans hT5
              clear hS5 hnx hy hNl
              go_wp2
              go_roundg (8 - j - 1)
              case measure => have := HJK.out; omega
              case rel => exact ⟨j + 1, by have := HJK.out; omega, by rw [HNX.out, or_byte hN7], by go_num, HS5.out, hT6⟩
            · have hq : p + 1 + j = l.length := by have := HS4.out.2.1; omega
              have hV4 := Touch.old hT4 HV2.out (fun e => hne2 e)
              have hF4 := Touch.old hT4 HF2.out (fun e => hne3 e)
              have HV4 := Lib.hid hV4
              have HF4 := Lib.hid hF4
              have HR3 : Hid (.inl (20, l.length) = R) := by have := HDX.out; rw [if_pos (by omega)] at this; exact this
              clear hV4 hF4 HDX hT4
              go_wp2_with fail
              refine (next_end sb a c l (p + 1 + j) wr HS4.out hq).mono ?_
              rintro e w5 ⟨rfl, hE5⟩
              rw [hq]
              go_wp2
              have hVx := Ext.block hE5 HV4.out
              have hFx := Ext.block hE5 HF4.out
              have hEx := hE4.trans hE5
              refine leaves_cons (f := 42) (args := #[.pointer (some ⟨vb, 0, none⟩), .pointer (some ⟨fb, 0, none⟩)]) (by simp) (by simp [go_sem]) ?_
              refine (catch_panicking vb fb _ _ _ _ _ _ hVx hFx hne1).mono ?_
              rintro e u' w9 ⟨rfl, rfl, hv9, hf9, hT9⟩
              have k0 := blk1 hv9
              obtain ⟨k1, k2⟩ := blk2 hf9
              have hE9 : Ext w w9 := Touch.ext ((hEx.touch (fun b => b = vb ∨ b = fb)).trans hT9) (fun i hi e => by omega)
              simp [Leaves, settle, results, Try.results11, go_sem, k0, k1, k2]
              exact ⟨none, 0, 0, by rw [← HR3.out]; rfl, by rw [← HR3.out]; exact Sl.nil _ _ _, by simp, hE9⟩
          · have hj : j = 8 := by omega
            subst hj
            have hV4 := Touch.old hT4 HV2.out (fun e => hne2 e)
            have hF4 := Touch.old hT4 HF2.out (fun e => hne3 e)
            have hSl4 := HSL2.out.touch hT4 (fun b e h => (HG.out b e).2.2.2 h)
            have v0 := blk1 hV4
            have z0 := blk_frozen hV4 0
            have HV4 := Lib.hid hV4
            have HF4 := Lib.hid hF4
            have HSL4 := Lib.hid hSl4
            have hlen8 : p + 9 ≤ l.length := HS4.out.2.1
            have hNl : getN ((l.drop (p + 1)).take 8) < 256 ^ 8 := getN_lt 8 _ (by rw [List.length_take, List.length_drop]; omega)
            have HD9 := HDX.out
            rw [if_neg (show ¬ l.length - (p + 1) < 8 by omega)] at HD9
            generalize getN ((l.drop (p + 1)).take 8) = N at *
            have HDY := Lib.hid HD9
            have HNL := Lib.hid hNl
            clear hV4 hF4 hSl4 hT4 HD9 HDX hNl
            have ht0 := bs_toList []
            go_wp2_with (at_builtin; refine app_val ei_value rfl (.tmp 41) (.tmp 46) rfl (g := g) (cap := cap) (vs := vs) (by rfl) (HSL4.out.ext ((Ext.refl wr).alloc _)) (1, wrap64 (bits .xor .u64 (N : Int) 9223372036854775808), []) (by rfl) (blk_new wr _) (by omega) ?_)
            intro g5 cap5 w5 hS5 hT5 hat5
            have hV5 := Touch.old hT5 (blk_alloc HV4.out) (fun e => (HG.out _ e).2.1 rfl)
            have v5 := blk1 hV5
            have z5 := blk_frozen hV5 0
            have hA : ∀ q : Addr, a = some q → q.block < w.heap.size := fun q e => HAB.out q (by omega) e
            rw [u64_back HNL.out] at hS5
            have hI := DInv.push (HS4.out.ext ((Ext.refl wr).alloc _)) (blk_alloc HV4.out) (blk_alloc HF4.out) HG.out (hE4.alloc _) hA hb1 hne1 hne2 hT5 hS5 (hat5.imp id (fun e => by simp; omega))
            have HI5 := Lib.hid hI
            clear hI hV5 hT5 hat5 hS5 v0 z0 hA
            go_wp2
            go_roundg (l.length - (p + 9))
            case measure => have := HK.out; omega
            case rel => exact ⟨p + 9, some g5, cap5, f, _, rfl, by omega, by simp; omega, HI5.out, HDY.out⟩
      · have hx1' : ((x.toNat : Int) == 1) = false := by
          have : x.toNat ≠ 1 := fun e => hx1 (UInt8.toNat_inj.1 (by simpa using e))
          simp; omega
        by_cases hx2 : x = 2
        · subst hx2
          have hA : ∀ q : Addr, a = some q → q.block < w2.heap.size := fun q e => by have := HAB.out q (by omega) e; have := hE2.size; omega
          have htx := text_ok sb a c l (p + 1) w2.drew (HS2.out.ext (Ext.refl w2).drew) (by omega) (by omega) hA
          rw [Nat.add_sub_cancel] at htx
          have hR2 := HD2.out
          rw [if_neg (by decide), if_pos rfl] at hR2
          have hfrom := textD_end (l.drop (p + 1)).length (l.drop (p + 1)) [] p (p + 1)
          generalize textD p (p + 1) (l.drop (p + 1)) [] = X at htx hR2 hfrom
          have v0 := blk1 HV2.out
          have z0 := blk_frozen HV2.out 0
          cases X with
          | inl cq =>
            obtain ⟨code, q⟩ := cq
            have HR3 : Hid (.inl (code, q) = R) := hR2
            have HTX := Lib.hid htx
            clear hw hx1 hx1' HD2 hR2 hfrom htx hA
            go_wp2_with fail
            letI : Tch.TS := ⟨fun b => b = sb⟩
            refine region_panics [.e 0, .p 1, .h 2 true, .p 3, .h 4 true, .h 5 false, .h 6 false] f_mixed (by kernel_rfl) (by kernel_rfl) (by kernel_rfl) (fun ch w' => ch = broken code q ∧ Touch (fun b => b = sb) w2 w')
              (.pointer (some ⟨vb, 0, none⟩)) (.pointer (some ⟨fb, 0, none⟩)) [{ target := Target.fn (Fn.func 42) #[.pointer (some ⟨vb, 0, none⟩), .pointer (some ⟨fb, 0, none⟩)], args := #[] }] ?_ ?_
            · refine Tch.plan_e1 rfl rfl (slv g vs.length cap) (fun w' he => ?_) (fun K hK => ?_)
              · have c0 := Touch.cell he v0 (fun e => hne2 e)
                go_simp
              · go_simp; refine hK _ ?_; clear hK K
                refine Tch.plan_p rfl (fun K hK => ?_); go_simp; refine hK _ ?_; clear hK K
                refine Tch.plan_t rfl (fun K hK => ?_)
                clear hK
                go_wp2_with fail
                refine HTX.out.mono ?_
                rintro e w5 ⟨hT5, rfl⟩
                exact ⟨⟨rfl, ((Touch.refl _ w2).drew).trans hT5⟩, rfl, rfl, rfl⟩
            · rintro ch ⟨tmps, ds⟩ w5 ⟨rfl, hT5⟩ ht2 ht3 rfl
              simp only [] at ht2 ht3
              have hVx := Touch.old hT5 HV2.out (fun e => hne2 e)
              have hFx := Touch.old hT5 HF2.out (fun e => hne3 e)
              have hEx : Ext w w5 := Touch.ext ((hE2.touch _).trans hT5) (fun i hi e => by omega)
              have hVX := Lib.hid hVx
              clear v0 z0
              have e2 : tmps.getD 2 undef = .pointer (some ⟨vb, 0, none⟩) := by rw [Array.getD_eq_getD_getElem?, ht2]; rfl
              have e3 : tmps.getD 3 undef = .pointer (some ⟨fb, 0, none⟩) := by rw [Array.getD_eq_getD_getElem?, ht3]; rfl
              refine leaves_cons (f := 42) (args := #[.pointer (some ⟨vb, 0, none⟩), .pointer (some ⟨fb, 0, none⟩)]) (by simp) (by simp [go_sem, ht2, ht3, e2, e3]) ?_
              refine (catch_panicking vb fb _ _ _ _ _ _ hVx hFx hne1).mono ?_
              rintro e u' w9 ⟨rfl, rfl, hv9, hf9, hT9⟩
              have k0 := blk1 hv9
              obtain ⟨k1, k2⟩ := blk2 hf9
              have hE9 : Ext w w9 := Touch.ext ((hEx.touch (fun b => b = vb ∨ b = fb)).trans hT9) (fun i hi e => by omega)
              simp [Leaves, settle, results, Try.results11, go_sem, ht2, ht3, e2, e3, k0, k1, k2]
              exact ⟨none, 0, 0, by rw [← HR3.out]; rfl, by rw [← HR3.out]; exact Sl.nil _ _ _, by simp, hE9⟩
          | inr tq =>
            obtain ⟨tt, q⟩ := tq
            have HR3 : Hid (decD l f q (vs ++ [(2, 0, tt)]) = R) := hR2
            obtain ⟨hq1, hq2, htt⟩ := hfrom tt q (Nat.le_refl _) rfl
            rw [List.length_drop] at hq2
            have HTX := Lib.hid htx
            clear hw hx1 hx1' HD2 hR2 hfrom htx hA
            go_wp2_with fail
            letI : Tch.TS := ⟨fun b => b = sb⟩
            refine Tch.region_calm [.e 0, .p 1, .h 2 true, .p 3, .h 4 true, .h 5 false, .h 6 false] f_mixed (by kernel_rfl) (by kernel_rfl) ?_
            refine Tch.plan_e1 rfl rfl (slv g vs.length cap) (fun w' he => ?_) (fun K hK => ?_)
            · have c0 := Touch.cell he v0 (fun e => hne2 e)
              go_simp
            · go_simp; refine hK _ ?_; clear hK K
              refine Tch.plan_p rfl (fun K hK => ?_); go_simp; refine hK _ ?_; clear hK K
              refine Tch.plan_ct rfl rfl (fun K _ hK => ?_)
              go_wp2_with fail
              refine HTX.out.mono ?_
              rintro e w5 ⟨hT5, rfl, hS5⟩
              go_wp2_with fail
              refine hK _ _ (hT5) ?_; clear hK K
              have hT6 : Touch (fun b => b = sb) w2 w5 := ((Touch.refl _ w2).drew).trans hT5
              have hV5 := Touch.old hT6 HV2.out (fun e => hne2 e)
              have hF5 := Touch.old hT6 HF2.out (fun e => hne3 e)
              have hSl5 := HSL2.out.touch hT6 (fun b e h => (HG.out b e).2.2.2 h)
              have hE5 : Ext w w5 := Touch.ext ((hE2.touch _).trans hT6) (fun i hi e => by omega)
              have HS5 := Lib.hid hS5
              have HV5 := Lib.hid hV5
              have HF5 := Lib.hid hF5
              have HSL5 := Lib.hid hSl5
              clear hS5 hV5 hF5 hSl5 hT5 hT6 v0 z0 HTX
              refine Tch.plan_p rfl (fun K hK => ?_); go_simp; refine hK _ ?_; clear hK K
              refine Tch.plan_ct rfl rfl (fun K _ hK => ?_)
              go_wp2_with fail
              refine hK _ _ ((Touch.refl _ w5).alloc _) ?_; clear hK K
              refine Tch.plan_c rfl rfl (fun K _ hK => ?_)
              refine app_val ei_value rfl (.tmp 50) (.tmp 54) rfl (g := g) (cap := cap) (vs := vs) (by rfl) (HSL5.out.ext ((Ext.refl w5).alloc _)) (2, 0, tt) (by rfl) (blk_new w5 _) (by omega) ?_
              intro g6 cap6 w6 hS6 hT6 hat6
              go_wp2_with fail
              try (refine hK _ _ ?_; clear hK K)
              have hV6 := Touch.old hT6 (blk_alloc HV5.out) (fun e => (HG.out _ e).2.1 rfl)
              have v6 := blk1 hV6
              have z6 := blk_frozen hV6 0
              have hA : ∀ q : Addr, a = some q → q.block < w.heap.size := fun q e => HAB.out q (by omega) e
              have hI := DInv.push (HS5.out.ext ((Ext.refl w5).alloc _)) (blk_alloc HV5.out) (blk_alloc HF5.out) HG.out (hE5.alloc _) hA hb1 hne1 hne2 hT6 hS6 (hat6.imp id (fun e => Nat.le_of_eq e.symm))
              have HI5 := Lib.hid hI
              clear hI hV6 hT6 hat6 hS6 hA
              refine Tch.plan_c rfl rfl (fun K _ hK => ?_)
              go_wp2_with fail
              try (refine hK _ _ ?_; clear hK K)
              refine tch_done ?_
              go_wp2
              go_roundg (l.length - q)
              case measure => have := HK.out; omega
              case rel => exact ⟨q, some g6, cap6, f, _, rfl, by omega, by simp; omega, HI5.out, HR3.out⟩
        · have hx2' : ((x.toNat : Int) == 2) = false := by
            have : x.toNat ≠ 2 := fun e => hx2 (UInt8.toNat_inj.1 (by simpa using e))
            simp; omega
          have HR3 : Hid (.inl (21, p) = R) := by have := HD2.out; rw [if_neg hx1, if_neg hx2] at this; exact this
          obtain ⟨d0, d1⟩ := blk2 HS2.out.1
          have hVx := HV2.out
          have hFx := HF2.out
          have hEx := hE2
          have HVX := Lib.hid hVx
          have HFX := Lib.hid hFx
          clear hx1 hx2 HD2 hVx hFx hEx
          go_wp2
          have hVx := HVX.out
          have hFx := HFX.out
          have hEx := hE2
          refine leaves_cons (f := 42) (args := #[.pointer (some ⟨vb, 0, none⟩), .pointer (some ⟨fb, 0, none⟩)]) (by simp) (by simp [go_sem]) ?_
          refine (catch_panicking vb fb _ _ _ _ _ _ hVx hFx hne1).mono ?_
          rintro e u' w9 ⟨rfl, rfl, hv9, hf9, hT9⟩
          have k0 := blk1 hv9
          obtain ⟨k1, k2⟩ := blk2 hf9
          have hE9 : Ext w w9 := Touch.ext ((hEx.touch (fun b => b = vb ∨ b = fb)).trans hT9) (fun i hi e => by omega)
          simp [Leaves, settle, results, Try.results11, go_sem, k0, k1, k2]
          exact ⟨none, 0, 0, by rw [← HR3.out]; rfl, by rw [← HR3.out]; exact Sl.nil _ _ _, by simp, hE9⟩
    · have hdn : l.drop p = [] := List.drop_eq_nil_of_le (by omega)
      have hD2 := HD.out
      rw [decD_nil hdn] at hD2
      have HD2 := Lib.hid hD2; clear HD hD2 hdn
      have hp : p = l.length := by omega
      have v0 := blk1 HV.out
      obtain ⟨v1, v2⟩ := blk2 HF.out
      have z0 := blk_frozen HV.out 0
      have z1 := blk_frozen HF.out 0
      have z2 := blk_frozen HF.out 1
      go_wp2
      refine leaves_cons (f := 42) (args := #[.pointer (some ⟨vb, 0, none⟩), .pointer (some ⟨fb, 0, none⟩)]) (by simp) (by simp [go_sem]) ?_
      refine (catch_idle vb fb _).mono ?_
      rintro e u' w9 ⟨rfl, rfl, hE9⟩
      have hW : ∃ W, Ext w W ∧ Ext W w9 ∧ W.heap[vb]? = some (.cells #[slv g vs.length cap] 23 (0, 0)) ∧ W.heap[fb]? = some (.cells #[.int .i64 0, .int .i64 0] 37 (0, 0)) ∧ Sl W 93 3 g vs.length cap (flatV vs) := by
        refine ⟨_, ?_, hE9, ?_, ?_, ?_⟩
        · exact Touch.ext ((((hE.touch (fun b => b = vb ∨ b = fb)).setCell (p := ⟨vb, 0, none⟩) (fun _ => .inl rfl) _).setCell (p := ⟨fb, 0, none⟩) (fun _ => .inr rfl) _).setCell (p := ⟨fb, 1, none⟩) (fun _ => .inr rfl) _) (fun i hi e => by omega)
        · exact blk_set_ne (blk_set_ne (blk_set HV.out 0 _) hne1 _) hne1 _
        · exact blk_set (blk_set (blk_set_ne HF.out (fun e => hne1 e.symm) _) 0 _) 1 _
        · exact HSL.out.touch ((((Touch.refl (fun b => b = vb ∨ b = fb) wr).setCell (p := ⟨vb, 0, none⟩) (fun _ => .inl rfl) _).setCell (p := ⟨fb, 0, none⟩) (fun _ => .inr rfl) _).setCell (p := ⟨fb, 1, none⟩) (fun _ => .inr rfl) _) (fun b e h => by have := HG.out b e; omega)
      obtain ⟨W, hW1, hW2, hW3, hW4, hW5⟩ := hW
      have k0 := blk1 (Ext.block hW2 hW3)
      obtain ⟨k1, k2⟩ := blk2 (Ext.block hW2 hW4)
      have hS9 := hW5.ext hW2
      have hE10 := hW1.trans hW2
      clear hE9 hW1 hW2 hW3 hW4 hW5
      simp [Leaves, settle, results, Try.results11, go_sem, k0, k1, k2]
      exact ⟨g, vs.length, cap, by rw [← HD2.out]; rfl, by rw [← HD2.out]; exact hS9, fun b e => (HG.out b e).1, hE10⟩


end Go.Proofs.Ytkejjahlglldlaa
namespace Go.Proofs.Ytkejjahlglldlaa
open Go.RowKit

theorem vals_block {w : World} {b : Nat} {vs : List V} {e : TypeId} {f : Nat × Nat} (h : w.heap[b]? = some (.cells (flatV vs).toArray e f)) : Vals w (some ⟨b, 0, none⟩) vs := fun hp => by
  refine ⟨b, 0, rfl, fun i v hv => ?_⟩
  obtain ⟨h0, h1, h2⟩ := flatV_get vs i v hv
  rw [Nat.zero_add]
  exact ⟨blk_cell h (by simpa using h0), blk_cell h (by simpa using h1), blk_cell h (by simpa using h2)⟩
theorem conv_at {w : World} {v : Value} {l : List UInt8} (h : BytesAt w v l) : (convert 30 9 v).run Try.prog w = .ok (str l) w := by
  obtain ⟨a, c, rfl, h0, hc⟩ := h
  cases a with
  | none =>
    obtain rfl := h0 rfl
    cases l with
    | nil => exact run_convert_bytes_nil (w := w) 30 5 Try.underlying30 Try.underlying5 0 0 9 Try.underlying9
    | cons x l => obtain ⟨b, off, h, _⟩ := hc (by simp); cases h
  | some p =>
    refine run_convert_bytes_back w _ _ 5 p c l Try.underlying30 Try.underlying5 Try.underlying9 (fun j hj => ?_)
    obtain ⟨b, off, h, h2⟩ := hc (by omega)
    cases h
    have := h2 j _ (List.getElem?_eq_getElem hj)
    unfold Addr.add
    split
    · rename_i h0; subst h0; exact this
    · exact this

theorem size_byte : Try.prog.elem 30 = 5 ∧ ∀ w : World, (sizeOf 5).run Try.prog w = .ok 1 w := by
  refine ⟨by kernel_rfl, fun w => ?_⟩
  obtain ⟨i, z, h1, _, h2, _⟩ := ei_byte.info
  simp [sizeOf, typeInfo, h1, h2]
theorem add_flat (b off k : Nat) : (⟨b, off, none⟩ : Addr).add k = ⟨b, off + k, none⟩ := by
  unfold Addr.add; split <;> simp_all
theorem und_elem : Try.prog.underlying 30 = some (.slice (Try.prog.elem 30)) := by rw [size_byte.1]; exact Try.underlying30
/-- -1, 0 or 1 of two values. -/
def oneV (u v : V) : Int :=
  if u.1 < v.1 ∨ (u.1 = v.1 ∧ (u.2.1 < v.2.1 ∨ (u.2.1 = v.2.1 ∧ Op.bytesLess u.2.2 v.2.2 = true))) then -1 else if u = v then 0 else 1
abbrev aggV (v : V) : Value := .agg #[.int .i64 v.1, .int .i64 v.2.1, str v.2.2]

set_option maxRecDepth 100000 in
set_option maxHeartbeats 8000000 in
theorem One_ok (k k' n n' : Int) (t t' : List UInt8) (w : World) :
    Calls Try.prog 85 #[aggV (k, n, t), aggV (k', n', t')] w (fun e w' => e = .returned (.int .i64 (oneV (k, n, t) (k', n', t'))) ∧ Ext w w') := by
  have hb := bs_toList t
  have hb' := bs_toList t'
  have hE : Ext w ((w.alloc (.cells #[.int .i64 k, .int .i64 n, str t] 93)).alloc (.cells #[.int .i64 k', .int .i64 n', str t'] 93)) := ((Ext.refl w).alloc _).alloc _
  by_cases h1 : k < k'
  · have hv : oneV (k, n, t) (k', n', t') = -1 := by simp [oneV, h1]
    rw [hv]
    go_enter Try.func85, Try.ntmps85
    go_wp2
    go_ret
    exact ⟨rfl, hE⟩
  · by_cases h2 : k = k'
    · subst h2
      by_cases h3 : n < n'
      · have hv : oneV (k, n, t) (k, n', t') = -1 := by simp [oneV, h3]
        rw [hv]
        go_enter Try.func85, Try.ntmps85
        go_wp2
        go_ret
        exact ⟨rfl, hE⟩
      · by_cases h4 : n = n'
        · subst h4
          by_cases h5 : Op.bytesLess t t' = true
          · have hv : oneV (k, n, t) (k, n, t') = -1 := by simp [oneV, h5]
            rw [hv]
            go_enter Try.func85, Try.ntmps85
            go_wp2
            go_ret
            exact ⟨rfl, hE⟩
          · have h5' : Op.bytesLess t t' = false := by simpa using h5
            by_cases h6 : t = t'
            · have hv : oneV (k, n, t) (k, n, t') = 0 := by simp [oneV, h5', h6]; rw [h6] at h5'; simp [h5']
              rw [hv]
              have h6' : (t == t') = true := by simp [h6]
              clear h5 h6 hv
              go_enter Try.func85, Try.ntmps85
              go_wp2
              go_ret
              exact ⟨rfl, hE⟩
            · have hv : oneV (k, n, t) (k, n, t') = 1 := by simp [oneV, h5', h6]
              rw [hv]
              have h6' : (t == t') = false := by simp [h6]
              clear h5 h6 hv
              go_enter Try.func85, Try.ntmps85
              go_wp2
              go_ret
              exact ⟨rfl, hE⟩
        · have hv : oneV (k, n, t) (k, n', t') = 1 := by simp [oneV, h3, h4]
          rw [hv]
          have h4' : (n == n') = false := by simp [h4]
          clear h4 hv
          go_enter Try.func85, Try.ntmps85
          go_wp2
          go_ret
          exact ⟨rfl, hE⟩
    · have hv : oneV (k, n, t) (k', n', t') = 1 := by simp [oneV, h1, h2]
      rw [hv]
      have h2' : (k == k') = false := by simp [h2]
      clear h2 hv
      go_enter Try.func85, Try.ntmps85
      go_wp2
      go_ret
      exact ⟨rfl, hE⟩

/-- -1, 0 or 1 of two lists. -/
def cmpL : List V → List V → Int
  | [], [] => 0
  | [], _ :: _ => -1
  | _ :: _, [] => 1
  | u :: us, v :: vs => if oneV u v = 0 then cmpL us vs else oneV u v
theorem drop_cons {us : List V} {i : Nat} {u : V} (h : us[i]? = some u) : us.drop i = u :: us.drop (i + 1) := by
  have hl := (List.getElem?_eq_some_iff.1 h).1
  rw [List.drop_eq_getElem_cons hl, (List.getElem?_eq_some_iff.1 h).2]

set_option maxRecDepth 100000 in
set_option maxHeartbeats 8000000 in
theorem RCompare_ok (a b : Option Addr) (n n' c c' : Nat) (us vs : List V) (w : World) (hn : us.length = n) (hn' : vs.length = n') (hu : Vals w a us) (hv : Vals w b vs) (hsz : n ≤ 1000000000) (hsz' : n' ≤ 1000000000) :
    Calls Try.prog 45 #[.slice a n c, .slice b n' c'] w (fun e w' => e = .returned (.int .i64 (cmpL us vs)) ∧ Ext w w') := by
  generalize hR : cmpL us vs = R
  have HR := Lib.hid hR; clear hR
  have HN := Lib.hid hn; clear hn
  have HN' := Lib.hid hn'; clear hn'
  have HU := Lib.hid hu; clear hu
  have HV := Lib.hid hv; clear hv
  go_enter Try.func45, Try.ntmps45
  go_wp2
  go_loopg [5] n (fun k v5 wr => ∃ i : Nat, i + k = n ∧ i ≤ n' ∧ v5 = .int .i64 i ∧ Ext w wr ∧ cmpL (us.drop i) (vs.drop i) = R)
  case atStart => exact ⟨0, by omega, by omega, rfl, Ext.refl _, HR.out⟩
  case round =>
    obtain ⟨i, hik, hin, rfl, hE, hD⟩ := hrel
    by_cases hlt : i < n
    · by_cases hlt' : i < n'
      · obtain ⟨la, oa, ha, hca⟩ := (HU.out.ext hE) (by have := HN.out; omega)
        obtain ⟨lb, ob, hb, hcb⟩ := (HV.out.ext hE) (by have := HN'.out; omega)
        subst ha hb
        obtain ⟨⟨k, m, t⟩, hx⟩ : ∃ v, us[i]? = some v := ⟨us[i]'(by rw [HN.out]; exact hlt), by rw [List.getElem?_eq_getElem]⟩
        obtain ⟨⟨k', m', t'⟩, hy⟩ : ∃ v, vs[i]? = some v := ⟨vs[i]'(by rw [HN'.out]; exact hlt'), by rw [List.getElem?_eq_getElem]⟩
        obtain ⟨c0, c1, c2⟩ := hca i _ hx
        obtain ⟨d0, d1, d2⟩ := hcb i _ hy
        simp only [] at c0 c1 c2 d0 d1 d2
        rw [drop_cons hx, drop_cons hy, cmpL] at hD
        have HD := Lib.hid hD
        have HIK := Lib.hid hik
        have hone := One_ok k k' m m' t t'
        generalize oneV (k, m, t) (k', m', t') = r at *
        have HONE := Lib.hid hone
        clear hD hik hone hx hy hca hcb
        go_wp2
        refine region_calm [.p 0, .p 1, .p 2, .l 3, .p 4, .p 5, .p 6, .l 7, .h 8 false, .p 9] f_mixed (by kernel_rfl) (by kernel_rfl) ?_
        repeat (first | (refine plan_p rfl (fun K hK => ?_); go_simp; refine hK _ ?_; clear hK K) | (refine plan_l rfl (fun K hK => ?_); go_simp; refine hK _ ?_; clear hK K))
        refine plan_c rfl rfl (fun K _ hK => ?_)
        go_wp2_with fail
        refine (HONE.out _).mono ?_
        rintro e w2 ⟨rfl, hE2⟩
        go_wp2_with fail
        repeat (first | (refine plan_p rfl (fun K hK => ?_); go_simp; refine hK _ ?_; clear hK K) | (refine plan_l rfl (fun K hK => ?_); go_simp; refine hK _ ?_; clear hK K))
        refine plan_done ?_
        have hE3 := hE.drew.trans hE2
        clear c0 c1 c2 d0 d1 d2
        by_cases hr : r = 0
        · have HD2 : Hid (cmpL (us.drop (i + 1)) (vs.drop (i + 1)) = R) := by have := HD.out; rwa [if_pos hr] at this
          subst hr
          go_wp2
          go_roundg (gk - 1)
          case measure => have := HIK.out; omega
          case rel => exact ⟨i + 1, by have := HIK.out; omega, by omega, by go_num, hE3, HD2.out⟩
        · have HD2 : Hid (r = R) := by have := HD.out; rwa [if_neg hr] at this
          have hrb : (r != 0) = true := by simp [hr]
          clear hr
          go_wp2
          go_ret
          exact ⟨by rw [← HD2.out]; rfl, hE3⟩
      · have hi : i = n' := by omega
        have h1 : vs.drop i = [] := List.drop_eq_nil_of_le (by have := HN'.out; omega)
        obtain ⟨u, hx⟩ : ∃ v, us[i]? = some v := ⟨us[i]'(by rw [HN.out]; exact hlt), by rw [List.getElem?_eq_getElem]⟩
        rw [h1, drop_cons hx, cmpL] at hD
        have HD := Lib.hid hD
        have h2 : ¬ (n : Int) < (n' : Int) := by omega
        have h3 : (n' : Int) < (n : Int) := by omega
        clear hD h1 hi hx
        go_wp2
        go_ret
        exact ⟨by rw [← HD.out]; rfl, hE⟩
    · have hi : i = n := by omega
      have h1 : us.drop i = [] := List.drop_eq_nil_of_le (by have := HN.out; omega)
      by_cases hlt' : i < n'
      · obtain ⟨u, hx⟩ : ∃ v, vs[i]? = some v := ⟨vs[i]'(by rw [HN'.out]; exact hlt'), by rw [List.getElem?_eq_getElem]⟩
        rw [h1, drop_cons hx, cmpL] at hD
        have HD := Lib.hid hD
        have h3 : (n : Int) < (n' : Int) := by omega
        clear hD h1 hi hx
        go_wp2
        go_ret
        exact ⟨by rw [← HD.out]; rfl, hE⟩
      · have h2 : vs.drop i = [] := List.drop_eq_nil_of_le (by have := HN'.out; omega)
        rw [h1, h2, cmpL] at hD
        have HD := Lib.hid hD
        have h3 : ¬ (n : Int) < (n' : Int) := by omega
        have h4 : ¬ (n' : Int) < (n : Int) := by omega
        clear hD h1 h2 hi
        go_wp2
        go_ret
        exact ⟨by rw [← HD.out]; rfl, hE⟩

theorem oneV_self (u : V) (h : Op.bytesLess u.2.2 u.2.2 = false) : oneV u u = 0 := by
  simp [oneV, h]
theorem bytesLess_self : ∀ t : List UInt8, Op.bytesLess t t = false
  | [] => rfl
  | x :: t => by
    have ih := bytesLess_self t
    unfold Op.bytesLess
    simp [ih]
theorem cmpL_self : ∀ us : List V, cmpL us us = 0
  | [] => rfl
  | u :: us => by rw [cmpL, if_pos (oneV_self u (bytesLess_self _))]; exact cmpL_self us

set_option maxRecDepth 100000 in
set_option maxHeartbeats 4000000 in
theorem Same_ok (a b : Option Addr) (n n' c c' : Nat) (us vs : List V) (w : World) (hn : us.length = n) (hn' : vs.length = n') (hu : Vals w a us) (hv : Vals w b vs) (hsz : n ≤ 1000000000) (hsz' : n' ≤ 1000000000) :
    Calls Try.prog 12 #[.slice a n c, .slice b n' c'] w (fun e w' => e = .returned (.bool (decide (us.length = vs.length) && (cmpL us vs == 0))) ∧ Ext w w') := by
  have hcm := RCompare_ok a b n n' c c' us vs w hn hn' hu hv hsz hsz'
  have HN := Lib.hid hn
  have HN' := Lib.hid hn'
  have HCM := Lib.hid hcm
  clear hcm hu hv
  rw [hn, hn']
  clear hn hn'
  by_cases h : n = n'
  · have h' : ((n : Int) == (n' : Int)) = true := by simp [h]
    have hd : decide (n = n') = true := by simp [h]
    rw [hd]
    clear h hd
    go_enter Try.func12, Try.ntmps12
    go_wp2_with fail
    refine HCM.out.mono ?_
    rintro e w2 ⟨rfl, hE2⟩
    go_wp2
    go_ret
    exact ⟨by simp, hE2⟩
  · have h' : ((n : Int) == (n' : Int)) = false := by simp; omega
    have hd : decide (n = n') = false := by simp [h]
    rw [hd]
    clear h hd
    go_enter Try.func12, Try.ntmps12
    go_wp2
    go_ret
    exact ⟨by simp, Ext.refl _⟩

theorem drop_len {l : List UInt8} {p : Nat} {k : UInt8} {r : List UInt8} (h : l.drop p = k :: r) : p + 1 + r.length = l.length ∧ r = l.drop (p + 1) := by
  have h1 : (l.drop p).length = r.length + 1 := by rw [h]; rfl
  rw [List.length_drop] at h1
  have h2 : l.drop (p + 1) = (l.drop p).drop 1 := by rw [List.drop_drop]
  rw [h] at h2
  exact ⟨by omega, h2.symm⟩
theorem getN_cons : ∀ (l : List UInt8) (x : UInt8), getN (x :: l) = x.toNat * 256 ^ l.length + getN l := by
  have h : ∀ (l : List UInt8) (a : Nat), l.foldl (fun n b => n * 256 + b.toNat) a = a * 256 ^ l.length + getN l := by
    intro l
    induction l with
    | nil => intro a; simp [getN]
    | cons y l ih =>
      intro a
      rw [List.foldl_cons, ih, List.length_cons, Nat.pow_succ]
      have h2 : getN (y :: l) = y.toNat * 256 ^ l.length + getN l := by
        unfold getN
        rw [List.foldl_cons, ih]
        simp [getN]
      rw [h2, Nat.add_mul, Nat.mul_assoc, Nat.mul_comm 256, Nat.add_assoc]
  intro l x
  unfold getN
  rw [List.foldl_cons, h]
  simp [getN]
theorem ofNat_add (a c : Nat) : UInt8.ofNat (a * 256 + c) = UInt8.ofNat c := by
  apply UInt8.toNat_inj.1
  rw [UInt8.toNat_ofNat', UInt8.toNat_ofNat']
  omega
theorem numBE_add : ∀ (s a b : Nat), numBE (a * 256 ^ s + b) s = numBE b s
  | 0, _, _ => rfl
  | s + 1, a, b => by
    have hp : 0 < 256 ^ s := Nat.pow_pos (by decide)
    have h1 : a * 256 ^ (s + 1) + b = (a * 256) * 256 ^ s + b := by rw [Nat.pow_succ, Nat.mul_assoc, Nat.mul_comm 256]
    have h2 : ((a * 256) * 256 ^ s + b) / 256 ^ s = a * 256 + b / 256 ^ s := by
      rw [Nat.add_comm, Nat.add_mul_div_right _ _ hp, Nat.add_comm]
    rw [numBE, h1, h2, ofNat_add, numBE_add s]
    rfl
theorem numBE_getN : ∀ (l : List UInt8), numBE (getN l) l.length = l
  | [] => rfl
  | x :: l => by
    have hp : 0 < 256 ^ l.length := Nat.pow_pos (by decide)
    have hl := getN_lt l.length l rfl
    rw [List.length_cons, numBE, getN_cons, numBE_add, numBE_getN l]
    congr 1
    rw [Nat.add_comm, Nat.add_mul_div_right _ _ hp, Nat.div_eq_of_lt hl, Nat.zero_add]
    apply UInt8.toNat_inj.1
    have := byte_lt x
    rw [UInt8.toNat_ofNat']
    omega
theorem getN_numBE (n : Nat) : ∀ s, getN (numBE n s) = n % 256 ^ s
  | 0 => by simp [numBE, getN, Nat.mod_one]
  | s + 1 => by
    rw [numBE, getN_cons, getN_numBE n s, numBE_len, UInt8.toNat_ofNat', show 2 ^ 8 = 256 from rfl]
    rw [Nat.pow_succ, Nat.mod_mul, Nat.mul_comm, Nat.add_comm]

theorem textD_esc (start : Nat) (rest : List UInt8) : ∀ (t out : List UInt8) (p : Nat), out.length + t.length ≤ 64 → textD start p (escT t ++ (0 :: 0 :: rest)) out = .inr (out ++ t, p + (escT t).length + 2)
  | [], out, p, h => by
    simp only [List.length_nil, Nat.add_zero] at h
    show textD start p (0 :: 0 :: rest) out = _
    rw [textD_zero, if_pos rfl, if_neg (by omega)]
    simp [escT]
  | b :: t, out, p, h => by
    simp only [List.length_cons] at h
    have he : escT (b :: t) = esc1 b ++ escT t := by simp [escT]
    rw [he]
    by_cases hb : b = 0
    · subst hb
      have h1 : esc1 0 = [0, 255] := rfl
      rw [h1]
      show textD start p (0 :: 255 :: (escT t ++ (0 :: 0 :: rest))) out = _
      rw [textD_zero, if_neg (by decide), if_pos rfl, textD_esc start rest t (out ++ [0]) (p + 2) (by simp; omega)]
      simp; omega
    · have h1 : esc1 b = [b] := if_neg hb
      rw [h1]
      show textD start p (b :: (escT t ++ (0 :: 0 :: rest))) out = _
      rw [textD_some _ _ _ _ _ hb, textD_esc start rest t (out ++ [b]) (p + 1) (by simp; omega)]
      simp; omega
theorem textD_inv (start : Nat) : ∀ (n : Nat) (r out : List UInt8) (p : Nat) (t : List UInt8) (q : Nat), r.length ≤ n → textD start p r out = .inr (t, q) →
    ∃ t', t = out ++ t' ∧ r = escT t' ++ (0 :: 0 :: r.drop (q - p)) ∧ p < q
  | 0, r, out, p, t, q, hn, h => by
    have := List.eq_nil_of_length_eq_zero (Nat.le_zero.1 hn)
    subst this
    rw [textD_nil] at h; cases h
  | n + 1, [], out, p, t, q, hn, h => by rw [textD_nil] at h; cases h
  | n + 1, x :: r, out, p, t, q, hn, h => by
    simp only [List.length_cons] at hn
    by_cases hx : x = 0
    · subst hx
      cases r with
      | nil => rw [textD_zero_nil] at h; cases h
      | cons y r =>
        rw [textD_zero] at h
        simp only [List.length_cons] at hn
        split at h
        · rename_i hy
          subst hy
          split at h
          · cases h
          · cases h
            exact ⟨[], by simp, by rw [show p + 2 - p = 2 by omega]; rfl, by omega⟩
        · split at h
          · rename_i hy
            subst hy
            obtain ⟨t', h1, h2, h3⟩ := textD_inv start n r _ (p + 2) t q (by omega) h
            refine ⟨0 :: t', by rw [h1]; simp, ?_, by omega⟩
            have he : escT (0 :: t') = [0, 255] ++ escT t' := by simp [escT, esc1]
            have hd : (0 :: 255 :: r).drop (q - p) = r.drop (q - (p + 2)) := by
              rw [show q - p = (q - (p + 2)) + 2 by omega]; rfl
            rw [he, hd]
            conv => lhs; rw [h2]
            rfl
          · cases h
    · rw [textD_some _ _ _ _ _ hx] at h
      obtain ⟨t', h1, h2, h3⟩ := textD_inv start n r _ (p + 1) t q (by omega) h
      refine ⟨x :: t', by rw [h1]; simp, ?_, by omega⟩
      have he : escT (x :: t') = [x] ++ escT t' := by simp [escT, esc1, hx]
      have hd : (x :: r).drop (q - p) = r.drop (q - (p + 1)) := by
        rw [show q - p = (q - (p + 1)) + 1 by omega]; rfl
      rw [he, hd]
      conv => lhs; rw [h2]
      rfl

/-- What a value that passes looks like. -/
theorem checkV_form {v : V} (h : checkV v = 0) : (∃ n, v = (1, n, [])) ∨ ∃ t, v = (2, 0, t) ∧ t.length ≤ 64 := by
  obtain ⟨k, n, t⟩ := v
  unfold checkV at h
  simp only at h
  split at h
  · rename_i hk
    split at h
    · rename_i ht; exact .inl ⟨n, by rw [hk, ht]⟩
    · cases h
  · split at h
    · rename_i hk
      split at h
      · rename_i ht; exact .inr ⟨t, by rw [hk.1, hk.2], ht⟩
      · cases h
    · cases h

theorem decD_enc : ∀ (vs : List V) (pre : List UInt8) (acc : List V) (f : Nat), (∀ v ∈ vs, checkV v = 0) → (∀ v ∈ vs, -9223372036854775808 ≤ v.2.1 ∧ v.2.1 ≤ 9223372036854775807) → vs.length < f →
    decD (pre ++ encL vs) f pre.length acc = .inr (acc ++ vs)
  | [], pre, acc, f, _, _, hf => by
    obtain ⟨f, rfl⟩ : ∃ f', f = f' + 1 := ⟨f - 1, by simp at hf; omega⟩
    rw [decD_nil (by simp [encL])]
    simp
  | v :: vs, pre, acc, f, hc, hr, hf => by
    simp only [List.length_cons] at hf
    obtain ⟨f, rfl⟩ : ∃ f', f = f' + 1 := ⟨f - 1, by omega⟩
    have he : encL (v :: vs) = encV v ++ encL vs := by simp [encL]
    have hc' := fun u hu => hc u (List.mem_cons_of_mem _ hu)
    have hr' := fun u hu => hr u (List.mem_cons_of_mem _ hu)
    rcases checkV_form (hc v (List.mem_cons_self ..)) with ⟨n, rfl⟩ | ⟨t, rfl, ht⟩
    · obtain ⟨h1, h2⟩ := hr _ (List.mem_cons_self ..)
      simp only at h1 h2
      have hN : (n + 9223372036854775808).toNat < 18446744073709551616 := by omega
      have hv : encV (1, n, []) = 1 :: numBE (n + 9223372036854775808).toNat 8 := by simp [encV]
      have hd : (pre ++ encL ((1, n, []) :: vs)).drop pre.length = 1 :: (numBE (n + 9223372036854775808).toNat 8 ++ encL vs) := by
        rw [List.drop_left, he, hv]; rfl
      have hl8 := numBE_len (n + 9223372036854775808).toNat 8
      rw [decD_cons hd, if_pos rfl, if_neg (by simp [hl8])]
      have ht8 : (numBE (n + 9223372036854775808).toNat 8 ++ encL vs).take 8 = numBE (n + 9223372036854775808).toNat 8 := by
        rw [← hl8]; exact List.take_left ..
      have hg : getN (numBE (n + 9223372036854775808).toNat 8) = (n + 9223372036854775808).toNat := by
        rw [getN_numBE]; exact Nat.mod_eq_of_lt hN
      rw [ht8, hg]
      have hpre : pre ++ encL ((1, n, []) :: vs) = (pre ++ (1 :: numBE (n + 9223372036854775808).toNat 8)) ++ encL vs := by rw [he, hv]; simp
      have hlen : pre.length + 9 = (pre ++ (1 :: numBE (n + 9223372036854775808).toNat 8)).length := by simp [hl8]
      have hval : (((n + 9223372036854775808).toNat : Nat) : Int) - 9223372036854775808 = n := by omega
      rw [hpre, hlen, hval, decD_enc vs _ _ f hc' hr' (by omega)]
      simp
    · have hv : encV (2, 0, t) = 2 :: (escT t ++ [0, 0]) := by simp [encV]
      have hd : (pre ++ encL ((2, 0, t) :: vs)).drop pre.length = 2 :: (escT t ++ (0 :: 0 :: encL vs)) := by
        rw [List.drop_left, he, hv]; simp
      rw [decD_cons hd, if_neg (by decide), if_pos rfl, textD_esc _ _ t [] (pre.length + 1) (by simpa using ht)]
      have hpre : pre ++ encL ((2, 0, t) :: vs) = (pre ++ (2 :: (escT t ++ [0, 0]))) ++ encL vs := by rw [he, hv]; simp
      have hlen : pre.length + 1 + (escT t).length + 2 = (pre ++ (2 :: (escT t ++ [0, 0]))).length := by simp; omega
      simp only [List.nil_append]
      rw [hpre, hlen, decD_enc vs _ _ f hc' hr' (by omega)]
      simp
theorem encL_len_ge : ∀ (vs : List V), vs.length ≤ (encL vs).length
  | [] => by simp
  | v :: vs => by
    have ih := encL_len_ge vs
    have he : encL (v :: vs) = encV v ++ encL vs := by simp [encL]
    have : 1 ≤ (encV v).length := by unfold encV; split <;> simp
    rw [he, List.length_append, List.length_cons]
    omega
/-- What is written is read again. -/
theorem dec_enc (vs : List V) (h : checkL vs = 0) (hr : ∀ v ∈ vs, -9223372036854775808 ≤ v.2.1 ∧ v.2.1 ≤ 9223372036854775807) : decOf (encL vs) = .inr vs := by
  have := decD_enc vs [] [] ((encL vs).length + 1) (checkL_zero vs h) hr (by have := encL_len_ge vs; omega)
  simpa [decOf] using this

theorem decD_inv (l : List UInt8) : ∀ (f p : Nat) (acc vs : List V), l.length - p < f → p ≤ l.length → decD l f p acc = .inr vs →
    ∃ us, vs = acc ++ us ∧ (∀ u ∈ us, checkV u = 0 ∧ -9223372036854775808 ≤ u.2.1 ∧ u.2.1 ≤ 9223372036854775807) ∧ encL us = l.drop p
  | 0, p, acc, vs, hf, _, _ => by omega
  | f + 1, p, acc, vs, hf, hp, h => by
    cases hd : l.drop p with
    | nil => rw [decD_nil hd] at h; cases h; exact ⟨[], by simp, by simp, by simp [encL]⟩
    | cons k r =>
      rw [decD_cons hd] at h
      obtain ⟨h3, h4⟩ := drop_len hd
      split at h
      · rename_i hk
        subst hk
        split at h
        · cases h
        · rename_i h8
          obtain ⟨us, h5, h6, h7⟩ := decD_inv l f (p + 9) _ vs (by omega) (by omega) h
          have hlt : (r.take 8).length = 8 := by rw [List.length_take]; omega
          have hN := getN_lt 8 _ hlt
          refine ⟨(1, (getN (r.take 8) : Int) - 9223372036854775808, []) :: us, by rw [h5]; simp, ?_, ?_⟩
          · intro u hu
            rcases List.mem_cons.1 hu with rfl | hu
            · refine ⟨by simp [checkV], ?_, ?_⟩ <;> simp only <;> omega
            · exact h6 u hu
          · have he : encL ((1, (getN (r.take 8) : Int) - 9223372036854775808, []) :: us) = encV (1, (getN (r.take 8) : Int) - 9223372036854775808, []) ++ encL us := by simp [encL]
            have hv : encV (1, (getN (r.take 8) : Int) - 9223372036854775808, []) = 1 :: numBE (getN (r.take 8)) 8 := by
              simp only [encV, if_true]
              rw [show ((getN (r.take 8) : Int) - 9223372036854775808 + 9223372036854775808).toNat = getN (r.take 8) by omega]
            have hb := numBE_getN (r.take 8)
            rw [hlt] at hb
            have hdd : l.drop (p + 9) = r.drop 8 := by rw [h4, List.drop_drop]
            rw [he, hv, hb, h7, hdd]
            show 1 :: (r.take 8 ++ r.drop 8) = _
            rw [List.take_append_drop]
      · split at h
        · rename_i hk
          subst hk
          split at h
          · cases h
          · rename_i t q hx
            have hend := textD_end r.length r [] p (p + 1) t q (Nat.le_refl _) hx
            obtain ⟨t', h8, h9, h10⟩ := textD_inv p r.length r [] (p + 1) t q (Nat.le_refl _) hx
            simp only [List.nil_append] at h8
            subst h8
            obtain ⟨us, h5, h6, h7⟩ := decD_inv l f q _ vs (by omega) (by omega) h
            refine ⟨(2, 0, t) :: us, by rw [h5]; simp, ?_, ?_⟩
            · intro u hu
              rcases List.mem_cons.1 hu with rfl | hu
              · refine ⟨by simp [checkV, hend.2.2], ?_, ?_⟩ <;> simp only <;> omega
              · exact h6 u hu
            · have he : encL ((2, 0, t) :: us) = encV (2, 0, t) ++ encL us := by simp [encL]
              have hv : encV (2, 0, t) = 2 :: (escT t ++ [0, 0]) := by simp [encV]
              have hdd : l.drop q = r.drop (q - (p + 1)) := by rw [h4, List.drop_drop]; congr 1; omega
              rw [he, hv, h7, hdd]
              conv => rhs; rw [h9]
              simp
        · cases h
/-- What is read is written just so. -/
theorem enc_dec (l : List UInt8) (vs : List V) (h : decOf l = .inr vs) : checkL vs = 0 ∧ encL vs = l ∧ ∀ u ∈ vs, -9223372036854775808 ≤ u.2.1 ∧ u.2.1 ≤ 9223372036854775807 := by
  obtain ⟨us, h1, h2, h3⟩ := decD_inv l (l.length + 1) 0 [] vs (by omega) (by omega) h
  simp only [List.nil_append] at h1
  subst h1
  exact ⟨checkL_all vs fun j v hv => (h2 v (List.mem_of_getElem? hv)).1, by simpa using h3, fun u hu => (h2 u hu).2⟩

theorem bytesLess_getN : ∀ (x y : List UInt8), x.length = y.length → Op.bytesLess x y = decide (getN x < getN y)
  | [], [], _ => by simp [Op.bytesLess, getN]
  | [], _ :: _, h => by simp at h
  | _ :: _, [], h => by simp at h
  | a :: x, b :: y, h => by
    simp only [List.length_cons, Nat.add_right_cancel_iff] at h
    have ih := bytesLess_getN x y h
    have hx := getN_lt x.length x rfl
    have hy := getN_lt y.length y rfl
    unfold Op.bytesLess
    rw [ih, getN_cons, getN_cons, h]
    rw [h] at hx
    have hp : 0 < 256 ^ y.length := Nat.pow_pos (by decide)
    generalize 256 ^ y.length = B at *
    generalize getN x = X at *
    generalize getN y = Y at *
    rw [Bool.eq_iff_iff]
    simp only [Bool.or_eq_true, Bool.and_eq_true, decide_eq_true_eq, beq_iff_eq]
    rw [UInt8.lt_iff_toNat_lt]
    constructor
    · rintro (h1 | ⟨rfl, h2⟩)
      · have : (a.toNat + 1) * B ≤ b.toNat * B := Nat.mul_le_mul_right B h1
        rw [Nat.add_mul] at this
        omega
      · omega
    · intro h1
      rcases Nat.lt_trichotomy a.toNat b.toNat with h2 | h2 | h2
      · exact .inl h2
      · have := UInt8.toNat_inj.1 h2
        subst this
        exact .inr ⟨rfl, by omega⟩
      · have : (b.toNat + 1) * B ≤ a.toNat * B := Nat.mul_le_mul_right B h2
        rw [Nat.add_mul] at this
        omega
theorem bytesLess_num (n m : Nat) (hn : n < 18446744073709551616) (hm : m < 18446744073709551616) : Op.bytesLess (numBE n 8) (numBE m 8) = decide (n < m) := by
  rw [bytesLess_getN _ _ (by rw [numBE_len, numBE_len]), getN_numBE, getN_numBE, Nat.mod_eq_of_lt (show n < 256 ^ 8 from hn), Nat.mod_eq_of_lt (show m < 256 ^ 8 from hm)]
theorem checkL_one (v : V) : checkL [v] = checkV v := by
  simp only [checkL]; split
  · rename_i h; exact h.symm
  · rfl
theorem encO_one (v : V) (h : checkV v = 0) : encO [v] = encV v := by
  unfold encO; rw [checkL_one, if_pos h]; simp [encL]

theorem bl_trans : ∀ (x y z : List UInt8), Op.bytesLess x y = true → Op.bytesLess y z = true → Op.bytesLess x z = true
  | _, [], _, h, _ => by simp [Op.bytesLess] at h
  | _, _ :: _, [], _, h => by simp [Op.bytesLess] at h
  | [], _ :: _, _ :: _, _, _ => by simp [Op.bytesLess]
  | a :: x, b :: y, c :: z, h1, h2 => by
    unfold Op.bytesLess at h1 h2 ⊢
    simp only [Bool.or_eq_true, Bool.and_eq_true, decide_eq_true_eq, beq_iff_eq] at h1 h2 ⊢
    rcases h1 with h1 | ⟨rfl, h1⟩
    · rcases h2 with h2 | ⟨rfl, h2⟩
      · exact .inl (UInt8.lt_trans h1 h2)
      · exact .inl h1
    · rcases h2 with h2 | ⟨rfl, h2⟩
      · exact .inl h2
      · exact .inr ⟨rfl, bl_trans x y z h1 h2⟩
theorem bl_total : ∀ (x y : List UInt8), x ≠ y → Op.bytesLess x y = false → Op.bytesLess y x = true
  | [], [], h, _ => absurd rfl h
  | [], _ :: _, _, h => by simp [Op.bytesLess] at h
  | _ :: _, [], _, _ => by simp [Op.bytesLess]
  | a :: x, b :: y, h, h1 => by
    unfold Op.bytesLess at h1 ⊢
    simp only [Bool.or_eq_false_iff, decide_eq_false_iff_not, Bool.and_eq_false_iff, beq_eq_false_iff_ne] at h1
    simp only [Bool.or_eq_true, Bool.and_eq_true, decide_eq_true_eq, beq_iff_eq]
    by_cases hab : a = b
    · subst hab
      refine .inr ⟨rfl, bl_total x y (fun e => h (by rw [e])) (h1.2.resolve_left (fun h => h rfl))⟩
    · refine .inl ?_
      have h2 : ¬ a.toNat < b.toNat := fun h => h1.1 (UInt8.lt_iff_toNat_lt.2 h)
      have h3 : a.toNat ≠ b.toNat := fun h => hab (UInt8.toNat_inj.1 h)
      exact UInt8.lt_iff_toNat_lt.2 (by omega)
theorem bl_asymm (x y : List UInt8) (h : Op.bytesLess x y = true) : Op.bytesLess y x = false := by
  cases h2 : Op.bytesLess y x with
  | false => rfl
  | true => have := bl_trans x y x h h2; rw [bytesLess_self] at this; cases this

/-- u stands ahead of v. -/
def Lt (u v : V) : Prop := u.1 < v.1 ∨ (u.1 = v.1 ∧ (u.2.1 < v.2.1 ∨ (u.2.1 = v.2.1 ∧ Op.bytesLess u.2.2 v.2.2 = true)))
instance (u v : V) : Decidable (Lt u v) := by unfold Lt; exact inferInstance
theorem Lt.irrefl (u : V) : ¬ Lt u u := by
  rintro (h | ⟨_, h | ⟨_, h⟩⟩)
  · omega
  · omega
  · rw [bytesLess_self] at h; cases h
theorem Lt.trans {u v x : V} (h1 : Lt u v) (h2 : Lt v x) : Lt u x := by
  rcases h1 with h1 | ⟨e1, h1 | ⟨e2, h1⟩⟩ <;> rcases h2 with h2 | ⟨g1, h2 | ⟨g2, h2⟩⟩
  · exact .inl (by omega)
  · exact .inl (by omega)
  · exact .inl (by omega)
  · exact .inl (by omega)
  · exact .inr ⟨by omega, .inl (by omega)⟩
  · exact .inr ⟨by omega, .inl (by omega)⟩
  · exact .inl (by omega)
  · exact .inr ⟨by omega, .inl (by omega)⟩
  · exact .inr ⟨by omega, .inr ⟨by omega, bl_trans _ _ _ h1 h2⟩⟩
theorem Lt.total {u v : V} (h : u ≠ v) (h2 : ¬ Lt u v) : Lt v u := by
  obtain ⟨k, n, t⟩ := u
  obtain ⟨k', n', t'⟩ := v
  unfold Lt at *
  simp only at *
  by_cases hk : k = k'
  · subst hk
    by_cases hn : n = n'
    · subst hn
      have ht : t ≠ t' := fun e => h (by rw [e])
      have hb : Op.bytesLess t t' = false := by
        cases hb : Op.bytesLess t t' with
        | false => rfl
        | true => exact absurd (.inr ⟨rfl, .inr ⟨rfl, hb⟩⟩) h2
      exact .inr ⟨rfl, .inr ⟨rfl, bl_total t t' ht hb⟩⟩
    · exact .inr ⟨rfl, .inl (by
        have : ¬ n < n' := fun h => h2 (.inr ⟨rfl, .inl h⟩)
        omega)⟩
  · exact .inl (by
      have : ¬ k < k' := fun h => h2 (.inl h)
      omega)
theorem oneV_lt {u v : V} (h : Lt u v) : oneV u v = -1 := if_pos h
theorem oneV_eq (u : V) : oneV u u = 0 := oneV_self u (bytesLess_self _)
theorem oneV_gt {u v : V} (h : Lt v u) : oneV u v = 1 := by
  have h1 : ¬ Lt u v := fun h2 => Lt.irrefl _ (Lt.trans h h2)
  have h2 : u ≠ v := fun e => by subst e; exact Lt.irrefl _ h
  unfold Lt at h1
  unfold oneV
  rw [if_neg h1, if_neg h2]
theorem oneV_cases (u v : V) : (Lt u v ∧ oneV u v = -1 ∧ oneV v u = 1) ∨ (u = v ∧ oneV u v = 0) ∨ (Lt v u ∧ oneV u v = 1 ∧ oneV v u = -1) := by
  by_cases h : u = v
  · subst h; exact .inr (.inl ⟨rfl, oneV_eq u⟩)
  · by_cases h2 : Lt u v
    · exact .inl ⟨h2, oneV_lt h2, oneV_gt h2⟩
    · have h3 := Lt.total h h2
      exact .inr (.inr ⟨h3, oneV_gt h3, oneV_lt h3⟩)

theorem cmpL_neg : ∀ (us vs : List V), cmpL vs us = - cmpL us vs
  | [], [] => rfl
  | [], _ :: _ => rfl
  | _ :: _, [] => rfl
  | u :: us, v :: vs => by
    have ih := cmpL_neg us vs
    rw [cmpL, cmpL]
    rcases oneV_cases u v with ⟨_, h1, h2⟩ | ⟨rfl, h1⟩ | ⟨_, h1, h2⟩
    · rw [h1, h2]; simp
    · rw [h1]; simpa using ih
    · rw [h1, h2]; simp
theorem cmpL_three : ∀ (us vs : List V), cmpL us vs = -1 ∨ cmpL us vs = 0 ∨ cmpL us vs = 1
  | [], [] => .inr (.inl rfl)
  | [], _ :: _ => .inl rfl
  | _ :: _, [] => .inr (.inr rfl)
  | u :: us, v :: vs => by
    have ih := cmpL_three us vs
    rw [cmpL]
    rcases oneV_cases u v with ⟨_, h1, h2⟩ | ⟨rfl, h1⟩ | ⟨_, h1, h2⟩
    · rw [h1]; simp
    · rw [h1]; simpa using ih
    · rw [h1]; simp
theorem cmpL_trans : ∀ (a b c : List V), cmpL a b ≤ 0 → cmpL b c ≤ 0 → cmpL a c ≤ 0
  | [], _, [], _, _ => by simp [cmpL]
  | [], _, _ :: _, _, _ => by simp [cmpL]
  | _ :: _, [], _, h, _ => by simp [cmpL] at h
  | _ :: _, _ :: _, [], _, h => by simp [cmpL] at h
  | u :: us, v :: vs, x :: xs, h1, h2 => by
    have ih := cmpL_trans us vs xs
    rw [cmpL] at h1 h2 ⊢
    rcases oneV_cases u v with ⟨g1, e1, _⟩ | ⟨rfl, e1⟩ | ⟨_, e1, _⟩
    · rcases oneV_cases v x with ⟨g2, e2, _⟩ | ⟨rfl, e2⟩ | ⟨_, e2, _⟩
      · rw [oneV_lt (Lt.trans g1 g2)]; simp
      · rw [e1]; simp
      · rw [e2] at h2; simp at h2
    · rw [e1] at h1
      simp only [if_true] at h1
      rcases oneV_cases u x with ⟨g2, e2, _⟩ | ⟨rfl, e2⟩ | ⟨_, e2, _⟩
      · rw [e2]; simp
      · rw [e2] at h2 ⊢
        simp only [if_true] at h2 ⊢
        exact ih h1 h2
      · rw [e2] at h2; simp at h2
    · rw [e1] at h1; simp at h1
theorem cmpL_eq : ∀ (us vs : List V), cmpL us vs = 0 → us = vs
  | [], [], _ => rfl
  | [], _ :: _, h => by simp [cmpL] at h
  | _ :: _, [], h => by simp [cmpL] at h
  | u :: us, v :: vs, h => by
    rw [cmpL] at h
    rcases oneV_cases u v with ⟨_, h1, h2⟩ | ⟨rfl, h1⟩ | ⟨_, h1, h2⟩
    · rw [h1] at h; simp at h
    · rw [h1] at h
      simp only [if_true] at h
      rw [cmpL_eq us vs h]
    · rw [h1] at h; simp at h

theorem bl_cons (a b : UInt8) (x y : List UInt8) : Op.bytesLess (a :: x) (b :: y) = (decide (a < b) || (a == b && Op.bytesLess x y)) := by
  conv => lhs; unfold Op.bytesLess
theorem bl_pre : ∀ (p x y : List UInt8), Op.bytesLess (p ++ x) (p ++ y) = Op.bytesLess x y
  | [], _, _ => rfl
  | a :: p, x, y => by
    show Op.bytesLess (a :: (p ++ x)) (a :: (p ++ y)) = _
    rw [bl_cons, bl_pre p x y]
    have : ¬ a < a := UInt8.lt_irrefl a
    simp [this]
theorem bl_len : ∀ (x y X Y : List UInt8), x.length = y.length → x ≠ y → Op.bytesLess (x ++ X) (y ++ Y) = Op.bytesLess x y
  | [], [], _, _, _, h => absurd rfl h
  | [], _ :: _, _, _, h, _ => by simp at h
  | _ :: _, [], _, _, h, _ => by simp at h
  | a :: x, b :: y, X, Y, h, hne => by
    simp only [List.length_cons, Nat.add_right_cancel_iff] at h
    show Op.bytesLess (a :: (x ++ X)) (b :: (y ++ Y)) = _
    rw [bl_cons, bl_cons]
    by_cases hab : a = b
    · subst hab
      rw [bl_len x y X Y h (fun e => hne (by rw [e]))]
    · have : (a == b) = false := by simp [hab]
      rw [this]; simp
theorem bl_esc : ∀ (t t' X Y : List UInt8), t ≠ t' → Op.bytesLess (escT t ++ (0 :: 0 :: X)) (escT t' ++ (0 :: 0 :: Y)) = Op.bytesLess t t'
  | [], [], _, _, h => absurd rfl h
  | [], b :: t', X, Y, _ => by
    have he : escT (b :: t') = esc1 b ++ escT t' := by simp [escT]
    rw [he]
    by_cases hb : b = 0
    · subst hb
      rfl
    · have h1 : esc1 b = [b] := if_neg hb
      rw [h1]
      show Op.bytesLess (0 :: 0 :: X) (b :: (escT t' ++ (0 :: 0 :: Y))) = true
      rw [bl_cons]
      have : (0 : UInt8) < b := UInt8.lt_iff_toNat_lt.2 (by
        have : b.toNat ≠ 0 := fun e => hb (UInt8.toNat_inj.1 (by simpa using e))
        simp; omega)
      simp [this]
  | b :: t, [], X, Y, _ => by
    have he : escT (b :: t) = esc1 b ++ escT t := by simp [escT]
    rw [he]
    by_cases hb : b = 0
    · subst hb
      rfl
    · have h1 : esc1 b = [b] := if_neg hb
      rw [h1]
      show Op.bytesLess (b :: (escT t ++ (0 :: 0 :: X))) (0 :: 0 :: Y) = false
      rw [bl_cons]
      have h2 : ¬ b < 0 := by rw [UInt8.lt_iff_toNat_lt]; simp
      simp [h2, hb]
  | b :: t, b' :: t', X, Y, h => by
    have he : escT (b :: t) = esc1 b ++ escT t := by simp [escT]
    have he' : escT (b' :: t') = esc1 b' ++ escT t' := by simp [escT]
    by_cases hbb : b = b'
    · subst hbb
      have hne : t ≠ t' := fun e => h (by rw [e])
      rw [he, he', List.append_assoc, List.append_assoc, bl_pre, bl_esc t t' X Y hne]
      have := bl_pre [b] t t'
      exact this.symm
    · rw [he, he']
      have hq : (b == b') = false := by simp [hbb]
      by_cases hb : b = 0
      · subst hb
        have hb' : b' ≠ 0 := fun e => hbb e.symm
        have h1 : esc1 b' = [b'] := if_neg hb'
        have h2 : esc1 0 = [0, 255] := rfl
        rw [h1, h2]
        show Op.bytesLess (0 :: 255 :: (escT t ++ (0 :: 0 :: X))) (b' :: (escT t' ++ (0 :: 0 :: Y))) = _
        rw [bl_cons, bl_cons]
        rw [hq]; simp
      · have h1 : esc1 b = [b] := if_neg hb
        rw [h1]
        by_cases hb' : b' = 0
        · subst hb'
          have h2 : esc1 0 = [0, 255] := rfl
          rw [h2]
          show Op.bytesLess (b :: (escT t ++ (0 :: 0 :: X))) (0 :: 255 :: (escT t' ++ (0 :: 0 :: Y))) = _
          rw [bl_cons, bl_cons]
          rw [hq]; simp
        · have h2 : esc1 b' = [b'] := if_neg hb'
          rw [h2]
          show Op.bytesLess (b :: (escT t ++ (0 :: 0 :: X))) (b' :: (escT t' ++ (0 :: 0 :: Y))) = _
          rw [bl_cons, bl_cons]
          rw [hq]; simp

theorem bl_enc : ∀ (us vs : List V), (∀ u ∈ us, checkV u = 0 ∧ -9223372036854775808 ≤ u.2.1 ∧ u.2.1 ≤ 9223372036854775807) → (∀ v ∈ vs, checkV v = 0 ∧ -9223372036854775808 ≤ v.2.1 ∧ v.2.1 ≤ 9223372036854775807) →
    Op.bytesLess (encL us) (encL vs) = decide (cmpL us vs < 0)
  | [], [], _, _ => rfl
  | [], v :: vs, _, _ => by
    have he : encL (v :: vs) = encV v ++ encL vs := by simp [encL]
    have h0 : encL [] = [] := rfl
    rw [he, h0]
    obtain ⟨x, r, hx⟩ : ∃ x r, encV v = x :: r := by unfold encV; split <;> exact ⟨_, _, rfl⟩
    rw [hx]
    simp [Op.bytesLess, cmpL]
  | u :: us, [], _, _ => by
    have h0 : encL [] = [] := rfl
    rw [h0]
    have : ∀ x : List UInt8, Op.bytesLess x [] = false := fun x => by cases x <;> rfl
    rw [this]; simp [cmpL]
  | u :: us, v :: vs, hu, hv => by
    have he : encL (u :: us) = encV u ++ encL us := by simp [encL]
    have he' : encL (v :: vs) = encV v ++ encL vs := by simp [encL]
    have hu' := fun x hx => hu x (List.mem_cons_of_mem _ hx)
    have hv' := fun x hx => hv x (List.mem_cons_of_mem _ hx)
    rw [he, he', cmpL]
    by_cases heq : u = v
    · subst heq
      rw [bl_pre, bl_enc us vs hu' hv', if_pos (oneV_eq u)]
    · have hone : (oneV u v < 0) ↔ Lt u v := by
        rcases oneV_cases u v with ⟨h, h1, _⟩ | ⟨rfl, h1⟩ | ⟨h, h1, _⟩
        · rw [h1]; exact ⟨fun _ => h, fun _ => by decide⟩
        · exact absurd rfl heq
        · rw [h1]; exact ⟨fun h => by omega, fun h2 => absurd (Lt.trans h h2) (Lt.irrefl _)⟩
      have hnz : oneV u v ≠ 0 := by
        rcases oneV_cases u v with ⟨h, h1, _⟩ | ⟨rfl, h1⟩ | ⟨h, h1, _⟩
        · omega
        · exact absurd rfl heq
        · omega
      rw [if_neg hnz]
      have hgoal : Op.bytesLess (encV u ++ encL us) (encV v ++ encL vs) = decide (Lt u v) := by
        obtain ⟨cu, u1, u2⟩ := hu u (List.mem_cons_self ..)
        obtain ⟨cv, v1, v2⟩ := hv v (List.mem_cons_self ..)
        rcases checkV_form cu with ⟨n, rfl⟩ | ⟨t, rfl, _⟩ <;> rcases checkV_form cv with ⟨m, rfl⟩ | ⟨t', rfl, _⟩
        · simp only at u1 u2 v1 v2
          have hn : n ≠ m := fun e => heq (by rw [e])
          have e1 : encV (1, n, []) = [1] ++ numBE (n + 9223372036854775808).toNat 8 := by simp [encV]
          have e2 : encV (1, m, []) = [1] ++ numBE (m + 9223372036854775808).toNat 8 := by simp [encV]
          have hless := bytesLess_num (n + 9223372036854775808).toNat (m + 9223372036854775808).toNat (by omega) (by omega)
          have hne : numBE (n + 9223372036854775808).toNat 8 ≠ numBE (m + 9223372036854775808).toNat 8 := fun e => by
            have := congrArg getN e
            rw [getN_numBE, getN_numBE, Nat.mod_eq_of_lt (show (n + 9223372036854775808).toNat < 256 ^ 8 by show _ < 18446744073709551616; omega), Nat.mod_eq_of_lt (show (m + 9223372036854775808).toNat < 256 ^ 8 by show _ < 18446744073709551616; omega)] at this
            omega
          rw [e1, e2, List.append_assoc, List.append_assoc, bl_pre, bl_len _ _ _ _ (by rw [numBE_len, numBE_len]) hne, hless]
          rw [Bool.eq_iff_iff]
          simp only [decide_eq_true_eq, Lt]
          constructor
          · intro h; exact .inr ⟨trivial, .inl (by omega)⟩
          · rintro (h | ⟨_, h | ⟨h, _⟩⟩)
            · omega
            · omega
            · exact absurd h hn
        · have : Lt (1, n, []) (2, 0, t') := .inl (by simp)
          simp only [this, decide_true]
          simp [encV, Op.bytesLess]
        · have : ¬ Lt (2, 0, t) (1, m, []) := by
            rintro (h | ⟨h, _⟩)
            · simp only at h; omega
            · simp only at h; omega
          simp only [this, decide_false]
          simp [encV, Op.bytesLess]
        · have ht : t ≠ t' := fun e => heq (by rw [e])
          have e1 : encV (2, 0, t) ++ encL us = [2] ++ (escT t ++ (0 :: 0 :: encL us)) := by simp [encV]
          have e2 : encV (2, 0, t') ++ encL vs = [2] ++ (escT t' ++ (0 :: 0 :: encL vs)) := by simp [encV]
          rw [e1, e2, bl_pre, bl_esc t t' _ _ ht]
          rw [Bool.eq_iff_iff]
          simp only [decide_eq_true_eq, Lt]
          constructor
          · intro h; exact .inr ⟨trivial, .inr ⟨trivial, h⟩⟩
          · rintro (h | ⟨_, h | ⟨_, h⟩⟩)
            · omega
            · omega
            · exact h
      rw [hgoal]
      rw [Bool.eq_iff_iff]
      simp only [decide_eq_true_eq]
      exact hone.symm
theorem enc_inj (us vs : List V) (hu : ∀ u ∈ us, checkV u = 0 ∧ -9223372036854775808 ≤ u.2.1 ∧ u.2.1 ≤ 9223372036854775807) (hv : ∀ v ∈ vs, checkV v = 0 ∧ -9223372036854775808 ≤ v.2.1 ∧ v.2.1 ≤ 9223372036854775807) :
    (encL us == encL vs) = decide (cmpL us vs = 0) := by
  have h1 := bl_enc us vs hu hv
  have h2 := bl_enc vs us hv hu
  rw [Bool.eq_iff_iff, beq_iff_eq, decide_eq_true_eq]
  constructor
  · intro h
    rw [h, bytesLess_self] at h1
    rw [h, bytesLess_self] at h2
    rw [cmpL_neg us vs] at h2
    have h3 := of_decide_eq_false h1.symm
    have h4 := of_decide_eq_false h2.symm
    omega
  · intro h
    rw [cmpL_eq us vs h]

set_option maxRecDepth 100000 in
set_option maxHeartbeats 400000 in
theorem isNaN_i64 (a : Int) (w : World) :
    Calls Try.prog 87 #[.int .i64 a] w fun e w' => e = .returned (.bool false) ∧ w = w' := by
  go_enter Try.func87, Try.ntmps87
  go_wp2
  go_ret
  exact ⟨by simp, rfl⟩
set_option maxRecDepth 100000 in
set_option maxHeartbeats 400000 in
theorem isNaN_int (a : Int) (w : World) :
    Calls Try.prog 86 #[.int .i64 a] w fun e w' => e = .returned (.bool false) ∧ w = w' := by
  go_enter Try.func86, Try.ntmps86
  go_wp2
  go_ret
  exact ⟨by simp, rfl⟩
def cmpI (a b : Int) : Int := if a < b then -1 else if b < a then 1 else 0
set_option maxRecDepth 100000 in
set_option maxHeartbeats 400000 in
theorem compare_i64 (a b : Int) (w : World) :
    Calls Try.prog 48 #[.int .i64 a, .int .i64 b] w fun e w' => e = .returned (.int .i64 (cmpI a b)) ∧ w = w' := by
  go_enter Try.func48, Try.ntmps48
  go_wp2_with (go_at_call 87; refine (isNaN_i64 _ _).mono ?_; rintro e w' ⟨rfl, rfl⟩)
  all_goals (go_ret; refine ⟨?_, rfl⟩; simp [cmpI, *])
  rw [if_neg (by omega), if_neg (by omega)]
set_option maxRecDepth 100000 in
set_option maxHeartbeats 400000 in
theorem compare_int (a b : Int) (w : World) :
    Calls Try.prog 47 #[.int .i64 a, .int .i64 b] w fun e w' => e = .returned (.int .i64 (cmpI a b)) ∧ w = w' := by
  go_enter Try.func47, Try.ntmps47
  go_wp2_with (go_at_call 86; refine (isNaN_int _ _).mono ?_; rintro e w' ⟨rfl, rfl⟩)
  all_goals (go_ret; refine ⟨?_, rfl⟩; simp [cmpI, *])
  rw [if_neg (by omega), if_neg (by omega)]
/-- The first number that is not 0. -/
def orL : List Int → Int
  | [] => 0
  | x :: xs => if x = 0 then orL xs else x
theorem orL_zero : ∀ (xs : List Int), (∀ j, j < xs.length → xs[j]?.getD 0 = 0) → orL xs = 0
  | [], _ => rfl
  | x :: xs, h => by
    have h0 : x = 0 := by simpa using h 0 (by simp)
    simp only [orL, h0, if_true]
    exact orL_zero xs fun j hj => by simpa using h (j + 1) (by simp; omega)
theorem orL_at : ∀ (xs : List Int) (k : Nat), k < xs.length → (∀ j, j < k → xs[j]?.getD 0 = 0) → xs[k]?.getD 0 ≠ 0 → orL xs = xs[k]?.getD 0
  | [], k, hk, _, _ => by simp at hk
  | x :: xs, 0, _, _, h => by simp at h; simp [orL, h]
  | x :: xs, k + 1, hk, hz, h => by
    have h0 : x = 0 := by simpa using hz 0 (by omega)
    simp only [orL, h0, if_true]
    rw [orL_at xs k (by simpa using hk) (fun j hj => by simpa using hz (j + 1) (by omega)) (by simpa using h)]
    simp
set_option maxRecDepth 100000 in
set_option maxHeartbeats 400000 in
theorem or_any (p : Nat) (xs : List Int) (n : Nat) (w : World) (hn : n = xs.length) (hm : n ≤ 1000) (hc : ∀ j, j < n → w.cell? ⟨p, j, none⟩ = some (.int .i64 (xs[j]?.getD 0))) :
    Calls Try.prog 46 #[.slice (some ⟨p, 0, none⟩) n n] w fun e w' => e = .returned (.int .i64 (orL xs)) ∧ w = w' := by
  have Hn : Hid (n = xs.length) := hn
  clear hn
  have Hc : Hid (∀ j, j < n → w.cell? ⟨p, j, none⟩ = some (.int .i64 (xs[j]?.getD 0))) := hc
  clear hc
  go_enter Try.func46, Try.ntmps46
  go_wp2
  go_loop [8] (fun i => ∃ k : Nat, k ≤ n ∧ i = .int .i64 k ∧ Hid (∀ j, j < k → xs[j]?.getD 0 = 0)) (fun i => n - (intOf i).toNat)
  case atStart => exact ⟨0, Nat.zero_le _, rfl, fun j hj => by omega⟩
  case round =>
    obtain ⟨k, hk, rfl, hz⟩ := hrel
    by_cases hlt : k < n
    · have hcell := Hc.out k hlt
      by_cases h0 : xs[k]?.getD 0 = 0
      · rw [h0] at hcell
        go_wp2
        go_round
        case rel => exact ⟨k + 1, by omega, by go_num, fun j hj => by
          by_cases h : j = k
          · subst h; exact h0
          · exact hz.out j (by omega)⟩
        case measure => simp [intOf]; omega
      · have h0' : (xs[k]?.getD 0 == 0) = false := by simpa using h0
        have h0'' : (xs[k]?.getD 0 != 0) = true := by simpa using h0
        generalize hx : xs[k]?.getD 0 = x at *
        have Hx := Lib.hid hx; clear hx
        go_wp2
        go_ret
        refine ⟨?_, rfl⟩
        rw [orL_at xs k (by rw [← Hn.out]; exact hlt) hz.out (by rw [Hx.out]; exact h0), Hx.out]
        rfl
    · go_wp2
      go_ret
      refine ⟨?_, rfl⟩
      rw [orL_zero xs (fun j hj => hz.out j (by have := Hn.out; omega))]
      rfl

set_option maxRecDepth 100000 in
set_option maxHeartbeats 1000000 in
theorem cmpstr_any (a b : ByteArray) (w : World) :
    Calls Try.prog 88 #[.string a, .string b] w fun e w' => e = .returned (.int .i64 (Lib.compareBytes a.data.toList b.data.toList)) ∧ w = w' := by
  go_enter Try.func88, Try.ntmps88
  go_wp2_with fail
  rw [run_callFunc_extern Try.func109 (by kernel_rfl) (by kernel_rfl) (by kernel_rfl) (e := Extern.BytealgCompare.compare) (by kernel_rfl), Lib.run_compareString]
  simp only [Result.andThen]
  rw [Oper.upon_value]
  go_wp2
  go_ret
  exact ⟨rfl, rfl⟩
set_option maxRecDepth 100000 in
set_option maxHeartbeats 1000000 in
theorem strcmp_any (a b : ByteArray) (w : World) :
    Calls Try.prog 49 #[.string a, .string b] w fun e w' => e = .returned (.int .i64 (Lib.compareBytes a.data.toList b.data.toList)) ∧ w = w' := by
  go_enter Try.func49, Try.ntmps49
  go_wp2_with (go_at_call 88; refine (cmpstr_any _ _ _).mono ?_; rintro e w' ⟨rfl, rfl⟩)
  go_ret
  exact ⟨rfl, rfl⟩

theorem strcmp_bs (a b : List UInt8) (w : World) :
    Calls Try.prog 49 #[str a, str b] w fun e w' => e = .returned (.int .i64 (Lib.compareBytes a b)) ∧ w = w' := by
  have h := strcmp_any (bs a) (bs b) w
  have ha : (bs a).data.toList = a := by simp [bs]
  have hb : (bs b).data.toList = b := by simp [bs]
  rw [ha, hb] at h
  exact h

theorem cmpB_eq : ∀ (a b : List UInt8), Lib.compareBytes a b = if Op.bytesLess a b = true then -1 else if a = b then 0 else 1
  | [], [] => by simp [Lib.compareBytes, Op.bytesLess]
  | [], _ :: _ => by simp [Lib.compareBytes, Op.bytesLess]
  | _ :: _, [] => by simp [Lib.compareBytes, Op.bytesLess]
  | x :: a, y :: b => by
    have ih := cmpB_eq a b
    rw [bl_cons]
    unfold Lib.compareBytes
    by_cases hxy : x = y
    · subst hxy
      have hlt : ¬ x < x := UInt8.lt_irrefl x
      simp [hlt, ih]
    · by_cases hlt : x < y
      · simp [hlt]
      · have hyx : y < x := UInt8.lt_of_le_of_ne (UInt8.not_lt.1 hlt) (Ne.symm hxy)
        simp [hlt, hyx, hxy]
theorem oneV_or (k k' n n' : Int) (t t' : List UInt8) : orL [cmpI k k', cmpI n n', Lib.compareBytes t t'] = oneV (k, n, t) (k', n', t') := by
  rw [cmpB_eq]
  unfold oneV
  simp only [orL, cmpI, Prod.mk.injEq]
  by_cases h1 : k < k'
  · simp [h1]
  · by_cases h2 : k = k'
    · subst h2
      by_cases h3 : n < n'
      · simp [h3]
      · by_cases h4 : n = n'
        · subst h4
          by_cases h5 : Op.bytesLess t t' = true
          · simp [h5]
          · by_cases h6 : t = t'
            · subst h6; simp [h5]
            · simp [h5, h6]
        · have h5 : n' < n := by omega
          simp [h3, h4, h5]
    · have h3 : k' < k := by omega
      simp [h1, h2, h3]

theorem cmpL_end (us vs : List V) (i : Nat) (h1 : i ≤ us.length) (h2 : i ≤ vs.length) (h : i = us.length ∨ i = vs.length) : cmpL (us.drop i) (vs.drop i) = cmpI us.length vs.length := by
  have e1 : (us.drop i).length = us.length - i := List.length_drop ..
  have e2 : (vs.drop i).length = vs.length - i := List.length_drop ..
  unfold cmpI
  rcases hx : us.drop i with _ | ⟨x, xs⟩ <;> rcases hy : vs.drop i with _ | ⟨y, ys⟩ <;> rw [hx] at e1 <;> rw [hy] at e2 <;> simp only [List.length_nil, List.length_cons] at e1 e2 <;> simp only [cmpL]
  · rw [if_neg (by omega), if_neg (by omega)]
  · rw [if_pos (by omega)]
  · rw [if_neg (by omega), if_pos (by omega)]
  · omega

set_option maxRecDepth 100000 in
set_option maxHeartbeats 8000000 in
theorem Compare_ok (a b : Option Addr) (n n' c c' : Nat) (us vs : List V) (w : World) (hn : us.length = n) (hn' : vs.length = n') (hu : Vals w a us) (hv : Vals w b vs) (hsz : n ≤ 1000000000) (hsz' : n' ≤ 1000000000) :
    Calls Try.prog 13 #[.slice a n c, .slice b n' c'] w (fun e w' => e = .returned (.int .i64 (cmpL us vs)) ∧ Ext w w') := by
  generalize hR : cmpL us vs = R
  have HR := Lib.hid hR; clear hR
  have HN := Lib.hid hn; clear hn
  have HN' := Lib.hid hn'; clear hn'
  have HU := Lib.hid hu; clear hu
  have HV := Lib.hid hv; clear hv
  by_cases hnn : n ≤ n'
  · skip
    go_enter Try.func13, Try.ntmps13
    go_wp2
    go_loopg [12] n (fun gk v12 wr => ∃ i : Nat, i + gk = n ∧ v12 = .int .i64 i ∧ Ext w wr ∧ cmpL (us.drop i) (vs.drop i) = R)
    case atStart => exact ⟨0, by omega, rfl, Ext.refl _, HR.out⟩
    case round =>
      obtain ⟨i, hik, rfl, hE, hD⟩ := hrel
      by_cases hlt : i < n
      · have hin : i < n := by omega
        have hin' : i < n' := by omega
        obtain ⟨la, oa, ha, hca⟩ := (HU.out.ext hE) (by have := HN.out; omega)
        obtain ⟨lb, ob, hb, hcb⟩ := (HV.out.ext hE) (by have := HN'.out; omega)
        subst ha hb
        obtain ⟨⟨k, m, t⟩, hx⟩ : ∃ v, us[i]? = some v := ⟨us[i]'(by rw [HN.out]; exact hin), by rw [List.getElem?_eq_getElem]⟩
        obtain ⟨⟨k', m', t'⟩, hy⟩ : ∃ v, vs[i]? = some v := ⟨vs[i]'(by rw [HN'.out]; exact hin'), by rw [List.getElem?_eq_getElem]⟩
        obtain ⟨c0, c1, c2⟩ := hca i _ hx
        obtain ⟨d0, d1, d2⟩ := hcb i _ hy
        simp only [] at c0 c1 c2 d0 d1 d2
        rw [drop_cons hx, drop_cons hy, cmpL] at hD
        have HD := Lib.hid hD
        have HIK := Lib.hid hik
        clear hD hik hx hy hca hcb hnn
        go_wp2
        refine region_calm [.p 0, .p 1, .p 2, .p 3, .l 4, .p 5, .p 6, .p 7, .p 8, .l 9, .p 11, .p 12, .p 13, .p 14, .l 15, .p 16, .p 17, .p 18, .p 19, .l 20, .p 22, .p 23, .p 24, .p 25, .l 26, .p 27, .p 28, .p 29, .p 30, .l 31, .h 10 true, .h 21 true, .h 32 false, .h 33 false, .h 34 false, .p 35] f_mixed (by kernel_rfl) (by kernel_rfl) ?_
        repeat (first | (refine plan_p rfl (fun K hK => ?_); go_simp; refine hK _ ?_; clear hK K) | (refine plan_l rfl (fun K hK => ?_); go_simp; refine hK _ ?_; clear hK K))
        refine plan_ct rfl rfl (fun K _ hK => ?_)
        go_wp2_with (go_at_call 47; refine (compare_int _ _ _).mono ?_; rintro e w' ⟨rfl, rfl⟩)
        refine hK _ _ (Ext.refl _) ?_; clear hK K
        refine plan_ct rfl rfl (fun K _ hK => ?_)
        go_wp2_with (go_at_call 48; refine (compare_i64 _ _ _).mono ?_; rintro e w' ⟨rfl, rfl⟩)
        refine hK _ _ (Ext.refl _) ?_; clear hK K
        clear c0 c1 c2 d0 d1 d2
        refine plan_c rfl rfl (fun K _ hK => ?_)
        go_wp2_with (go_at_call 49; refine (strcmp_bs _ _ _).mono ?_; rintro e w' ⟨rfl, rfl⟩)
        refine plan_c rfl rfl (fun K _ hK => ?_)
        go_wp2
        refine plan_c rfl rfl (fun K _ hK => ?_)
        go_wp2_with fail
        refine (or_any _ [cmpI k k', cmpI m m', Lib.compareBytes t t'] 3 _ rfl (by omega) ?_).mono ?_
        · intro j hj
          obtain rfl | rfl | rfl : j = 0 ∨ j = 1 ∨ j = 2 := by omega
          all_goals go_simp
        rintro e w2 ⟨rfl, rfl⟩
        rw [oneV_or]
        generalize oneV (k, m, t) (k', m', t') = r at *
        go_wp2
        repeat (first | (refine plan_p rfl (fun K hK => ?_); go_simp; refine hK _ ?_; clear hK K) | (refine plan_l rfl (fun K hK => ?_); go_simp; refine hK _ ?_; clear hK K))
        refine plan_done ?_
        by_cases hr : r = 0
        · have HD2 : Hid (cmpL (us.drop (i + 1)) (vs.drop (i + 1)) = R) := by have := HD.out; rwa [if_pos hr] at this
          subst hr
          go_wp2
          go_roundg (gk - 1)
          case measure => have := HIK.out; omega
          case rel => exact ⟨i + 1, by have := HIK.out; omega, by go_num, by repeat (first | exact hE | refine Ext.alloc ?_ _ | refine Ext.drew ?_), HD2.out⟩
        · have HD2 : Hid (r = R) := by have := HD.out; rwa [if_neg hr] at this
          have hrb : (r != 0) = true := by simp [hr]
          clear hr
          go_wp2
          go_ret
          exact ⟨by rw [← HD2.out]; rfl, by repeat (first | exact hE | refine Ext.alloc ?_ _ | refine Ext.drew ?_)⟩
      · have hi : i = n := by omega
        have hend := cmpL_end us vs i (by have := HN.out; omega) (by have := HN'.out; omega) (by have := HN.out; have := HN'.out; omega)
        rw [hend, HN.out, HN'.out] at hD
        have HD := Lib.hid hD
        clear hD hend hi hnn
        go_wp2_with fail
        refine (compare_int _ _ _).mono ?_
        rintro e w2 ⟨rfl, rfl⟩
        go_wp2
        go_ret
        exact ⟨by rw [← HD.out]; rfl, hE⟩
  · skip
    go_enter Try.func13, Try.ntmps13
    go_wp2
    go_loopg [12] n' (fun gk v12 wr => ∃ i : Nat, i + gk = n' ∧ v12 = .int .i64 i ∧ Ext w wr ∧ cmpL (us.drop i) (vs.drop i) = R)
    case atStart => exact ⟨0, by omega, rfl, Ext.refl _, HR.out⟩
    case round =>
      obtain ⟨i, hik, rfl, hE, hD⟩ := hrel
      by_cases hlt : i < n'
      · have hin : i < n := by omega
        have hin' : i < n' := by omega
        obtain ⟨la, oa, ha, hca⟩ := (HU.out.ext hE) (by have := HN.out; omega)
        obtain ⟨lb, ob, hb, hcb⟩ := (HV.out.ext hE) (by have := HN'.out; omega)
        subst ha hb
        obtain ⟨⟨k, m, t⟩, hx⟩ : ∃ v, us[i]? = some v := ⟨us[i]'(by rw [HN.out]; exact hin), by rw [List.getElem?_eq_getElem]⟩
        obtain ⟨⟨k', m', t'⟩, hy⟩ : ∃ v, vs[i]? = some v := ⟨vs[i]'(by rw [HN'.out]; exact hin'), by rw [List.getElem?_eq_getElem]⟩
        obtain ⟨c0, c1, c2⟩ := hca i _ hx
        obtain ⟨d0, d1, d2⟩ := hcb i _ hy
        simp only [] at c0 c1 c2 d0 d1 d2
        rw [drop_cons hx, drop_cons hy, cmpL] at hD
        have HD := Lib.hid hD
        have HIK := Lib.hid hik
        clear hD hik hx hy hca hcb hnn
        go_wp2
        refine region_calm [.p 0, .p 1, .p 2, .p 3, .l 4, .p 5, .p 6, .p 7, .p 8, .l 9, .p 11, .p 12, .p 13, .p 14, .l 15, .p 16, .p 17, .p 18, .p 19, .l 20, .p 22, .p 23, .p 24, .p 25, .l 26, .p 27, .p 28, .p 29, .p 30, .l 31, .h 10 true, .h 21 true, .h 32 false, .h 33 false, .h 34 false, .p 35] f_mixed (by kernel_rfl) (by kernel_rfl) ?_
        repeat (first | (refine plan_p rfl (fun K hK => ?_); go_simp; refine hK _ ?_; clear hK K) | (refine plan_l rfl (fun K hK => ?_); go_simp; refine hK _ ?_; clear hK K))
        refine plan_ct rfl rfl (fun K _ hK => ?_)
        go_wp2_with (go_at_call 47; refine (compare_int _ _ _).mono ?_; rintro e w' ⟨rfl, rfl⟩)
        refine hK _ _ (Ext.refl _) ?_; clear hK K
        refine plan_ct rfl rfl (fun K _ hK => ?_)
        go_wp2_with (go_at_call 48; refine (compare_i64 _ _ _).mono ?_; rintro e w' ⟨rfl, rfl⟩)
        refine hK _ _ (Ext.refl _) ?_; clear hK K
        clear c0 c1 c2 d0 d1 d2
        refine plan_c rfl rfl (fun K _ hK => ?_)
        go_wp2_with (go_at_call 49; refine (strcmp_bs _ _ _).mono ?_; rintro e w' ⟨rfl, rfl⟩)
        refine plan_c rfl rfl (fun K _ hK => ?_)
        go_wp2
        refine plan_c rfl rfl (fun K _ hK => ?_)
        go_wp2_with fail
        refine (or_any _ [cmpI k k', cmpI m m', Lib.compareBytes t t'] 3 _ rfl (by omega) ?_).mono ?_
        · intro j hj
          obtain rfl | rfl | rfl : j = 0 ∨ j = 1 ∨ j = 2 := by omega
          all_goals go_simp
        rintro e w2 ⟨rfl, rfl⟩
        rw [oneV_or]
        generalize oneV (k, m, t) (k', m', t') = r at *
        go_wp2
        repeat (first | (refine plan_p rfl (fun K hK => ?_); go_simp; refine hK _ ?_; clear hK K) | (refine plan_l rfl (fun K hK => ?_); go_simp; refine hK _ ?_; clear hK K))
        refine plan_done ?_
        by_cases hr : r = 0
        · have HD2 : Hid (cmpL (us.drop (i + 1)) (vs.drop (i + 1)) = R) := by have := HD.out; rwa [if_pos hr] at this
          subst hr
          go_wp2
          go_roundg (gk - 1)
          case measure => have := HIK.out; omega
          case rel => exact ⟨i + 1, by have := HIK.out; omega, by go_num, by repeat (first | exact hE | refine Ext.alloc ?_ _ | refine Ext.drew ?_), HD2.out⟩
        · have HD2 : Hid (r = R) := by have := HD.out; rwa [if_neg hr] at this
          have hrb : (r != 0) = true := by simp [hr]
          clear hr
          go_wp2
          go_ret
          exact ⟨by rw [← HD2.out]; rfl, by repeat (first | exact hE | refine Ext.alloc ?_ _ | refine Ext.drew ?_)⟩
      · have hi : i = n' := by omega
        have hend := cmpL_end us vs i (by have := HN.out; omega) (by have := HN'.out; omega) (by have := HN.out; have := HN'.out; omega)
        rw [hend, HN.out, HN'.out] at hD
        have HD := Lib.hid hD
        clear hD hend hi hnn
        go_wp2_with fail
        refine (compare_int _ _ _).mono ?_
        rintro e w2 ⟨rfl, rfl⟩
        go_wp2
        go_ret
        exact ⟨by rw [← HD.out]; rfl, hE⟩

end Go.Proofs.Ytkejjahlglldlaa
