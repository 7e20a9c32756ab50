/- Decode: walked. -/
import Derived.Test.YtkejjahlglldlaaCoB
import Derived.Test.YtkejjahlglldlaaRegT
import Derived.Deep.RegionWith
namespace Go.Proofs.Ytkejjahlglldlaa
open Go.RowKit

/-- The number of bytes, the highest first. -/
def getN (l : List UInt8) : Nat := l.foldl (fun n b => n * 256 + b.toNat) 0
theorem getN_snoc (l : List UInt8) (b : UInt8) : getN (l ++ [b]) = getN l * 256 + b.toNat := by simp [getN]
theorem getN_lt : ∀ (k : Nat) (l : List UInt8), l.length = k → getN l < 256 ^ k
  | 0, l, h => by have := List.eq_nil_of_length_eq_zero h; subst this; simp [getN]
  | k + 1, l, h => by
    have hne : l ≠ [] := fun e => by subst e; simp at h
    have hd := List.dropLast_concat_getLast hne
    rw [← hd, getN_snoc]
    have := getN_lt k l.dropLast (by rw [List.length_dropLast]; omega)
    have := byte_lt (l.getLast hne)
    rw [Nat.pow_succ]
    omega

/-- What bytes are read as, from place p on: a fault's code and place, or the values. -/
def decD (l : List UInt8) : Nat → Nat → List V → (Nat × Nat) ⊕ List V
  | 0, _, acc => .inr acc
  | f + 1, p, acc => match l.drop p with
    | [] => .inr acc
    | k :: r =>
      if k = 1 then (if r.length < 8 then .inl (20, l.length) else decD l f (p + 9) (acc ++ [(1, (getN (r.take 8) : Int) - 9223372036854775808, [])]))
      else if k = 2 then match textD p (p + 1) r [] with
        | .inl e => .inl e
        | .inr (t, q) => decD l f q (acc ++ [(2, 0, t)])
      else .inl (21, p)
def decOf (l : List UInt8) : (Nat × Nat) ⊕ List V := decD l (l.length + 1) 0 []
def valsOf : (Nat × Nat) ⊕ List V → List V
  | .inl _ => []
  | .inr vs => vs
def codeOf : (Nat × Nat) ⊕ List V → Nat
  | .inl (c, _) => c
  | .inr _ => 0
def placeOf : (Nat × Nat) ⊕ List V → Nat
  | .inl (_, q) => q
  | .inr _ => 0

theorem decD_cons {l : List UInt8} {p : Nat} {k : UInt8} {r : List UInt8} (h : l.drop p = k :: r) (f : Nat) (acc : List V) : decD l (f + 1) p acc =
      if k = 1 then (if r.length < 8 then .inl (20, l.length) else decD l f (p + 9) (acc ++ [(1, (getN (r.take 8) : Int) - 9223372036854775808, [])]))
      else if k = 2 then match textD p (p + 1) r [] with
        | .inl e => .inl e
        | .inr (t, q) => decD l f q (acc ++ [(2, 0, t)])
      else .inl (21, p) := by
  rw [decD.eq_def]; simp only [h]
theorem decD_nil {l : List UInt8} {p : Nat} (h : l.drop p = []) (f : Nat) (acc : List V) : decD l (f + 1) p acc = .inr acc := by
  rw [decD.eq_def]; simp only [h]

theorem textD_end : ∀ (n : Nat) (r out : List UInt8) (start p : Nat) (t : List UInt8) (q : Nat), r.length ≤ n → textD start p r out = .inr (t, q) → p < q ∧ q ≤ p + r.length ∧ t.length ≤ 64
  | 0, r, out, start, p, t, q, hn, h => by
    have := List.eq_nil_of_length_eq_zero (Nat.le_zero.1 hn)
    subst this
    rw [textD_nil] at h; cases h
  | n + 1, [], out, start, p, t, q, hn, h => by rw [textD_nil] at h; cases h
  | n + 1, x :: r, out, start, p, t, q, hn, h => by
    simp only [List.length_cons] at hn ⊢
    by_cases hx : x = 0
    · subst hx
      cases r with
      | nil => rw [textD_zero_nil] at h; cases h
      | cons y r =>
        rw [textD_zero] at h
        simp only [List.length_cons] at hn ⊢
        split at h
        · split at h
          · cases h
          · cases h; omega
        · split at h
          · have := textD_end n r _ start (p + 2) t q (by omega) h
            omega
          · cases h
    · rw [textD_some _ _ _ _ _ hx] at h
      have := textD_end n r _ start (p + 1) t q (by omega) h
      omega

theorem ei_value : EI Try.prog 23 93 3 32 :=
  ⟨Try.underlying23, by
    obtain ⟨i, h1, h2, h3, h4⟩ := info_parts (P := Try.prog) (e := 93) (z := .agg #[.int .i64 0, .int .i64 0, .string ⟨#[]⟩]) (size := 3) (bytes := 32) (by kernel_rfl)
    exact ⟨i, _, h1, h2, h3, h4, rfl⟩, by omega, by omega⟩

/-- The loop's state. -/
def DInv (w : World) (vb fb sb : Nat) (a : Option Addr) (c : Nat) (l : List UInt8) (p : Nat) (g : Option Nat) (cap : Nat) (vs : List V) (wr : World) : Prop :=
  Src wr sb a c l p ∧ wr.heap[vb]? = some (.cells #[slv g vs.length cap] 23 (0, 0)) ∧ wr.heap[fb]? = some (.cells #[.int .i64 0, .int .i64 0] 37 (0, 0)) ∧
  Sl wr 93 3 g vs.length cap (flatV vs) ∧ (∀ b, g = some b → w.heap.size ≤ b ∧ b ≠ vb ∧ b ≠ fb ∧ b ≠ sb) ∧ Ext w wr
theorem DInv.push {w wr w4 : World} {vb fb sb : Nat} {a : Option Addr} {c : Nat} {l : List UInt8} {q : Nat} {g : Option Nat} {g' cap' : Nat} {vs : List V} {v : V} {x : Value}
    (hS : Src wr sb a c l q) (hV : wr.heap[vb]? = some (.cells #[x] 23 (0, 0))) (hF : wr.heap[fb]? = some (.cells #[.int .i64 0, .int .i64 0] 37 (0, 0)))
    (hG : ∀ b, g = some b → w.heap.size ≤ b ∧ b ≠ vb ∧ b ≠ fb ∧ b ≠ sb) (hE : Ext w wr) (hA : ∀ q : Addr, a = some q → q.block < w.heap.size) (h1 : w.heap.size ≤ vb) (h3 : vb ≠ fb) (h4 : vb ≠ sb)
    (hT : Touch (fun k => g = some k) wr w4) (hS4 : Sl w4 93 3 (some g') (vs.length + 1) cap' (flatV (vs ++ [v]))) (hat : g = some g' ∨ wr.heap.size ≤ g') :
    DInv w vb fb sb a c l q (some g') cap' (vs ++ [v]) (w4.setCell ⟨vb, 0, none⟩ (slv (some g') (vs.length + 1) cap')) := by
  have hl : (vs ++ [v]).length = vs.length + 1 := by simp
  have hV4 := Touch.old hT hV (fun e => (hG _ e).2.1 rfl)
  have hF4 := Touch.old hT hF (fun e => (hG _ e).2.2.1 rfl)
  have hS5 := hS.touch hT (fun e => (hG _ e).2.2.2 rfl) (fun r e h => by have := (hG _ h).1; have := hA r e; omega)
  have hTv : Touch (fun b => b = vb) w4 (w4.setCell ⟨vb, 0, none⟩ (slv (some g') (vs.length + 1) cap')) := (Touch.refl (fun b => b = vb) w4).setCell (p := ⟨vb, 0, none⟩) (fun _ => rfl) _
  have hg : w.heap.size ≤ g' ∧ g' ≠ vb ∧ g' ≠ fb ∧ g' ≠ sb := by
    rcases hat with h | h
    · exact hG _ h
    · have := blk_lt hV; have := blk_lt hF; have := blk_lt hS.1; have := hE.size
      omega
  refine ⟨hS5.touch hTv (fun e => h4 e.symm) (fun r e h => by have := hA r e; omega), ?_, Touch.old hTv hF4 (fun e => h3 e.symm), ?_, ?_, ?_⟩
  · rw [hl]; exact blk_set hV4 0 _
  · rw [hl]; exact hS4.touch hTv (fun b e h => by cases e; exact hg.2.1 h)
  · intro b e; cases e; exact hg
  · exact Touch.ext (((hE.touch (fun b => b = vb ∨ g = some b)).trans (hT.mono (fun i _ h => .inr h))).trans (hTv.mono (fun i _ h => .inl h))) (fun i hi e => by
      rcases e with e | e
      · omega
      · have := (hG _ e).1; omega)
/-- append of one value. -/
theorem app_val {P : Program} {w : World} {ops : Array Oper} {rest : List Oper} {o : Oper} {a : Act} {Q : Exit → Act → World → Prop} (E : EI P 23 93 3 32) (hgd : o.guard = none) (s x : Operand)
    (ho : o.op = .call { callee := .builtin .append, args := #[s, x], argTypes := #[23, 23] })
    {g : Option Nat} {cap : Nat} {vs : List V} (hs : a.eval s = slv g vs.length cap) (hown : Sl w 93 3 g vs.length cap (flatV vs))
    (v : V) {b c : Nat} {e' : TypeId} {f : Nat × Nat} (hx : a.eval x = .slice (some ⟨b, 0, none⟩) 1 c) (hnews : w.heap[b]? = some (.cells (cellsV v).toArray e' f)) (hb : vs.length ≤ 1000000000000)
    (h : ∀ g' cap' w', Sl w' 93 3 (some g') (vs.length + 1) cap' (flatV (vs ++ [v])) → Touch (fun k => g = some k) w w' → (g = some g' ∨ g' = w.heap.size) →
      wpList P ops Q rest (a.put o.dst (.slice (some ⟨g', 0, none⟩) (vs.length + 1) cap')) w') : wpList P ops Q (o :: rest) a w := by
  refine app_lit E hgd s x ho hs hown hx (by simp [cellsV]) hnews (by intro u hu; simp only [cellsV, List.mem_cons, List.not_mem_nil, or_false] at hu; rcases hu with rfl | rfl | rfl <;> rfl) (by omega) (by omega) ?_
  intro g2 cap2 w2 hS2 hT2 hat2
  refine h g2 cap2 w2 ?_ hT2 hat2
  rw [flatV_append]
  have : flatV [v] = cellsV v := by simp [flatV]
  rw [this]; exact hS2
theorem or_byte {N : Nat} (h : N < 72057594037927936) (y : UInt8) : bits .or .u64 ((N : Int) * 256) (IntKind.u64.wrap (y.toNat : Int)) = ((N * 256 + y.toNat : Nat) : Int) := by
  have hy := byte_lt y
  have hw : IntKind.u64.wrap (y.toNat : Int) = (y.toNat : Int) := by simp [IntKind.wrap, IntKind.bits, IntKind.signed]; omega
  have h1 := u64_or_nat (N * 256) y.toNat (by omega) (by omega)
  rw [nat_join 8 (N * 256) y.toNat (by omega) (by omega)] at h1
  rw [hw, ← h1]; rfl
theorem u64_back {N : Nat} (h : N < 18446744073709551616) : wrap64 (bits .xor .u64 (N : Int) 9223372036854775808) = (N : Int) - 9223372036854775808 := by
  have h3 := u64_xor_nat N 9223372036854775808 h (by decide)
  rw [show ((9223372036854775808 : Int)) = ((9223372036854775808 : Nat) : Int) from rfl, h3]
  by_cases hn : N < 9223372036854775808
  · rw [xor_top hn]; unfold wrap64; omega
  · rw [xor_top' h (by omega)]; unfold wrap64; omega
/-- Behind a panic: two slots stand as they did, and what is to be called. -/
def PQ (F : List PanicEntry → World → Prop) (x2 x3 : Value) (D : List Deferred) : Exit → Act → World → Prop
  | .panic c, a, w => F c w ∧ a.tmps[2]? = some x2 ∧ a.tmps[3]? = some x3 ∧ a.defers = D
  | _, _, _ => False
theorem put_keep (a : Act) (d : Option Tmp) (v : Value) (k : Nat) (h : d ≠ some k) : (a.put d v).tmps[k]? = a.tmps[k]? := by
  cases d with
  | none => rfl
  | some t =>
    have : t ≠ k := fun e => h (by rw [e])
    simp [Act.put, Array.getElem?_setIfInBounds, this]
theorem put_defers' (a : Act) (d : Option Tmp) (v : Value) : (a.put d v).defers = a.defers := by cases d <;> rfl
theorem region_panics [Tch.TS] {P : Program} {ops : Array Oper} {Q : Exit → Act → World → Prop} {id : Nat} {a : Act} {w : World} (plan : List PS) (hf : P.follows .mixedOrders = true) (hk : regionOk ops plan = true) (hn : decide ((plan.map PS.no).Nodup) = true)
    (hd : ops.toList.all (fun o => o.dst != some 2 && o.dst != some 3) = true) (F : List PanicEntry → World → Prop) (x2 x3 : Value) (D : List Deferred)
    (h : Tch.wpPlan P ops (PQ F x2 x3 D) plan a w.drew) (hq : ∀ c a' w', F c w' → a'.tmps[2]? = some x2 → a'.tmps[3]? = some x3 → a'.defers = D → Q (.panic c) a' w') : (Code.region id ops true).wp P Q a w := by
  have h1 := Tch.region_plan (id := id) plan hf hk hn (fun i o ho c a v w h => ?_) h
  · refine Code.wp_mono (fun e a w he => ?_) h1
    cases e <;> try exact he.elim
    exact hq _ _ _ he.1 he.2.1 he.2.2.1 he.2.2.2
  · have hm : o ∈ ops.toList := Array.mem_toList_iff.2 (Array.mem_of_getElem? ho)
    have h2 := List.all_eq_true.1 hd o hm
    simp only [Bool.and_eq_true, bne_iff_ne] at h2
    obtain ⟨h3, h4, h5, h6⟩ := h
    rw [put_keep _ _ _ _ h2.1] at h4
    rw [put_keep _ _ _ _ h2.2] at h5
    rw [put_defers'] at h6
    exact ⟨h3, h4, h5, h6⟩
theorem tch_done [Tch.TS] {P : Program} {ops : Array Oper} {Q : Exit → Act → World → Prop} {a : Act} {w : World} (h : Q .normal a w) : Tch.wpPlan P ops (calm Q) [] a w := h
/-- What comes back. -/
def DPost (w : World) (R : (Nat × Nat) ⊕ List V) (e : Ending) (w' : World) : Prop :=
  ∃ g m cap, e = .returned (.tuple #[slv g m cap, .agg #[.int .i64 (codeOf R), .int .i64 (placeOf R)]]) ∧
      Sl w' 93 3 g m cap (flatV (valsOf R)) ∧ (∀ b, g = some b → w.heap.size ≤ b) ∧ Ext w w'

set_option maxRecDepth 100000 in
set_option maxHeartbeats 8000000 in
theorem Decode_ok (a : Option Addr) (n c : Nat) (l : List UInt8) (w : World) (hn : n = l.length) (hb : BytesAt w (.slice a n c) l) (hl : l.length ≤ 1000000000) :
    Calls Try.prog 11 #[.slice a n c] w (fun e w' => DPost w (decOf l) e w') := by
  subst hn
  generalize hR : decOf l = R
  unfold decOf at hR
  have hmf : ∀ (fn : Fn) (first cap : Array Value) (w : World), (Instr.makeFunc fn first cap).run Try.prog w = .ok (.func fn first cap) w := fun _ _ _ _ => rfl
  have HR := Lib.hid hR; clear hR
  obtain ⟨a', c', he, ha0, hc⟩ := hb
  obtain ⟨rfl, rfl⟩ : a = a' ∧ c = c' := by cases he; exact ⟨rfl, rfl⟩
  clear he
  have hAB : ∀ q : Addr, 0 < l.length → a = some q → q.block < w.heap.size := fun q hl e => by
    obtain ⟨b, off, h1, h2⟩ := hc hl
    rw [h1] at e; cases e
    have := h2 0 l[0] (List.getElem?_eq_getElem hl)
    exact World.block_lt_of_cell? w _ this
  have HC := Lib.hid hc; clear hc
  have HAB := Lib.hid hAB; clear hAB ha0
  go_enter_defers Try.func11, Try.ntmps11
  go_wp2
  have hI : DInv w w.heap.size (w.heap.size + 1) (w.heap.size + 1 + 1) a c l 0 none 0 [] (((w.alloc (.cells #[.slice none 0 0] 23)).alloc (.cells #[.int .i64 0, .int .i64 0] 37)).alloc (.cells #[.slice a l.length c, .int .i64 0] 103)) := by
    have h0 := blk_new w (.cells #[.slice none 0 0] 23)
    have h1 := blk_new2 w (.cells #[.slice none 0 0] 23) (.cells #[.int .i64 0, .int .i64 0] 37)
    have h2 := blk_new2 (w.alloc (.cells #[.slice none 0 0] 23)) (.cells #[.int .i64 0, .int .i64 0] 37) (.cells #[.slice a l.length c, .int .i64 0] 103)
    rw [World.size_alloc] at h2
    have hE : Ext w (((w.alloc (.cells #[.slice none 0 0] 23)).alloc (.cells #[.int .i64 0, .int .i64 0] 37)).alloc (.cells #[.slice a l.length c, .int .i64 0] 103)) := (((Ext.refl w).alloc _).alloc _).alloc _
    refine ⟨⟨h2, by omega, fun hp => ?_⟩, blk_alloc (blk_alloc h0), blk_alloc h1, Sl.nil _ _ _, fun b hb => by simp at hb, hE⟩
    obtain ⟨b, off, h3, h4⟩ := HC.out hp
    refine ⟨b, off, h3, ?_, fun j x hx => Ext.cell hE (h4 j x hx)⟩
    have := HAB.out ⟨b, off, none⟩ hp h3
    simp only at this
    omega
  have HI := Lib.hid hI; clear hI
  generalize ((w.alloc (.cells #[.slice none 0 0] 23)).alloc (.cells #[.int .i64 0, .int .i64 0] 37)).alloc (.cells #[.slice a l.length c, .int .i64 0] 103) = W3 at *
  have hbl : w.heap.size ≤ w.heap.size ∧ w.heap.size ≤ w.heap.size + 1 ∧ w.heap.size ≤ w.heap.size + 1 + 1 ∧ w.heap.size ≠ w.heap.size + 1 ∧ w.heap.size ≠ w.heap.size + 1 + 1 ∧ w.heap.size + 1 ≠ w.heap.size + 1 + 1 := by omega
  revert HI hbl
  generalize w.heap.size + 1 + 1 = sb
  generalize w.heap.size + 1 = fb
  generalize hvb : w.heap.size = vb at HAB ⊢
  intro HI hbl
  rw [← hvb] at hbl HAB
  obtain ⟨hb1, hb2, hb3, hne1, hne2, hne3⟩ := hbl
  rw [hvb] at hne1 hne2
  have hb1 : w.heap.size ≤ vb := by omega
  clear hvb
  go_loopg [] l.length (fun k wr => ∃ (p : Nat) (g : Option Nat) (cap f : Nat) (vs : List V), k = l.length - p ∧ l.length - p < f ∧ vs.length ≤ p ∧ DInv w vb fb sb a c l p g cap vs wr ∧ decD l f p vs = R)
  case atStart => exact ⟨0, none, 0, l.length + 1, [], rfl, by omega, by simp, HI.out, HR.out⟩
  case round =>
    obtain ⟨p, g, cap, f, vs, hk, hf, hvp, ⟨hS, hV, hF, hSl, hG, hE⟩, hD⟩ := hrel
    obtain ⟨f, rfl⟩ : ∃ f', f = f' + 1 := ⟨f - 1, by omega⟩
    obtain ⟨c0, c1⟩ := blk2 hS.1
    have hpl := hS.2.1
    have HS := Lib.hid hS; clear hS
    have HV := Lib.hid hV; clear hV
    have HF := Lib.hid hF; clear hF
    have HSL := Lib.hid hSl; clear hSl
    have HG := Lib.hid hG; clear hG
    have HK := Lib.hid hk; clear hk
    have HD := Lib.hid hD; clear hD
    by_cases hlt : p < l.length
    · obtain ⟨x, hx⟩ : ∃ x, l[p]? = some x := ⟨_, List.getElem?_eq_getElem hlt⟩
      have hd : l.drop p = x :: l.drop (p + 1) := by
        rw [List.drop_eq_getElem_cons hlt]; rw [List.getElem?_eq_getElem hlt] at hx; cases hx; rfl
      have hD2 := HD.out
      rw [decD_cons hd] at hD2
      have HD2 := Lib.hid hD2; clear HD hD2 hd
      go_wp2_with fail
      refine (next_ok sb a c l p wr HS.out x hx (by omega)).mono ?_
      rintro e w2 ⟨rfl, hS2, hT2⟩
      have hV2 := Touch.old hT2 HV.out (fun e => hne2 e)
      have hF2 := Touch.old hT2 HF.out (fun e => hne3 e)
      have hSl2 := HSL.out.touch hT2 (fun b e h => (HG.out b e).2.2.2 h)
      have hE2 : Ext w w2 := Touch.ext ((hE.touch _).trans hT2) (fun i hi e => by omega)
      have HS2 := Lib.hid hS2
      have HV2 := Lib.hid hV2
      have HF2 := Lib.hid hF2
      have HSL2 := Lib.hid hSl2
      have hw : wrap64 (x.toNat : Int) = (x.toNat : Int) := by have := byte_lt x; unfold wrap64; omega
      clear hS2 hV2 hF2 hSl2 hx c0 c1 hT2 HS HV HF HSL
      by_cases hx1 : x = 1
      · subst hx1
        have hr : (l.drop (p + 1)).length = l.length - (p + 1) := by rw [List.length_drop]
        have HD3 := HD2.out
        rw [if_pos rfl, hr] at HD3
        have HDX := Lib.hid HD3; clear HD3 HD2 hr hw
        go_wp2
        go_loopg [6, 32] 8 (fun k v6 v32 wr => ∃ j : Nat, j + k = 8 ∧ v6 = .int .u64 ((getN ((l.drop (p + 1)).take j) : Nat) : Int) ∧ v32 = .int .i64 j ∧ Src wr sb a c l (p + 1 + j) ∧ Touch (fun b => b = sb) w2 wr)
        case atStart => exact ⟨0, by omega, by simp [getN], rfl, HS2.out, Touch.refl _ _⟩
        case round =>
          rename_i gk1 wr1 _ _ _ _
          obtain ⟨j, hjk, rfl, rfl, hS4, hT4⟩ := hrel
          have HS4 := Lib.hid hS4; clear hS4
          have hE4 : Ext w wr := Touch.ext ((hE2.touch _).trans hT4) (fun i hi e => by omega)
          by_cases hj8 : j < 8
          · have HJK := Lib.hid hjk; clear hjk
            by_cases hlt2 : p + 1 + j < l.length
            · obtain ⟨y, hy⟩ : ∃ y, l[p + 1 + j]? = some y := ⟨_, List.getElem?_eq_getElem hlt2⟩
              go_wp2_with fail
              refine (next_ok sb a c l (p + 1 + j) wr HS4.out y hy (by omega)).mono ?_
              rintro e w5 ⟨rfl, hS5, hT5⟩
              have hnx : getN ((l.drop (p + 1)).take (j + 1)) = getN ((l.drop (p + 1)).take j) * 256 + y.toNat := by
                rw [List.take_add_one, List.getElem?_drop, hy]; exact getN_snoc _ _
              have hNl : getN ((l.drop (p + 1)).take j) < 256 ^ j := getN_lt j _ (by rw [List.length_take, List.length_drop]; omega)
              have hN7 : getN ((l.drop (p + 1)).take j) < 72057594037927936 := Nat.lt_of_lt_of_le hNl (Nat.pow_le_pow_right (n := 256) (by decide) (show j ≤ 7 by omega))
              generalize getN ((l.drop (p + 1)).take j) = N at *
              have HS5 := Lib.hid hS5
              have HNX := Lib.hid hnx
              have hT6 := hT4.trans hT5
              clear hS5 hnx hy hNl
              go_wp2
              go_roundg (8 - j - 1)
              case measure => have := HJK.out; omega
              case rel => exact ⟨j + 1, by have := HJK.out; omega, by rw [HNX.out, or_byte hN7], by go_num, HS5.out, hT6⟩
            · have hq : p + 1 + j = l.length := by have := HS4.out.2.1; omega
              have hV4 := Touch.old hT4 HV2.out (fun e => hne2 e)
              have hF4 := Touch.old hT4 HF2.out (fun e => hne3 e)
              have HV4 := Lib.hid hV4
              have HF4 := Lib.hid hF4
              have HR3 : Hid (.inl (20, l.length) = R) := by have := HDX.out; rw [if_pos (by omega)] at this; exact this
              clear hV4 hF4 HDX hT4
              go_wp2_with fail
              refine (next_end sb a c l (p + 1 + j) wr HS4.out hq).mono ?_
              rintro e w5 ⟨rfl, hE5⟩
              rw [hq]
              go_wp2
              have hVx := Ext.block hE5 HV4.out
              have hFx := Ext.block hE5 HF4.out
              have hEx := hE4.trans hE5
              refine leaves_cons (f := 42) (args := #[.pointer (some ⟨vb, 0, none⟩), .pointer (some ⟨fb, 0, none⟩)]) (by simp) (by simp [go_sem]) ?_
              refine (catch_panicking vb fb _ _ _ _ _ _ hVx hFx hne1).mono ?_
              rintro e u' w9 ⟨rfl, rfl, hv9, hf9, hT9⟩
              have k0 := blk1 hv9
              obtain ⟨k1, k2⟩ := blk2 hf9
              have hE9 : Ext w w9 := Touch.ext ((hEx.touch (fun b => b = vb ∨ b = fb)).trans hT9) (fun i hi e => by omega)
              simp [Leaves, settle, results, Try.results11, go_sem, k0, k1, k2]
              exact ⟨none, 0, 0, by rw [← HR3.out]; rfl, by rw [← HR3.out]; exact Sl.nil _ _ _, by simp, hE9⟩
          · have hj : j = 8 := by omega
            subst hj
            have hV4 := Touch.old hT4 HV2.out (fun e => hne2 e)
            have hF4 := Touch.old hT4 HF2.out (fun e => hne3 e)
            have hSl4 := HSL2.out.touch hT4 (fun b e h => (HG.out b e).2.2.2 h)
            have v0 := blk1 hV4
            have z0 := blk_frozen hV4 0
            have HV4 := Lib.hid hV4
            have HF4 := Lib.hid hF4
            have HSL4 := Lib.hid hSl4
            have hlen8 : p + 9 ≤ l.length := HS4.out.2.1
            have hNl : getN ((l.drop (p + 1)).take 8) < 256 ^ 8 := getN_lt 8 _ (by rw [List.length_take, List.length_drop]; omega)
            have HD9 := HDX.out
            rw [if_neg (show ¬ l.length - (p + 1) < 8 by omega)] at HD9
            generalize getN ((l.drop (p + 1)).take 8) = N at *
            have HDY := Lib.hid HD9
            have HNL := Lib.hid hNl
            clear hV4 hF4 hSl4 hT4 HD9 HDX hNl
            have ht0 := bs_toList []
            go_wp2_with (at_builtin; refine app_val ei_value rfl (.tmp 41) (.tmp 46) rfl (g := g) (cap := cap) (vs := vs) (by rfl) (HSL4.out.ext ((Ext.refl wr).alloc _)) (1, wrap64 (bits .xor .u64 (N : Int) 9223372036854775808), []) (by rfl) (blk_new wr _) (by omega) ?_)
            intro g5 cap5 w5 hS5 hT5 hat5
            have hV5 := Touch.old hT5 (blk_alloc HV4.out) (fun e => (HG.out _ e).2.1 rfl)
            have v5 := blk1 hV5
            have z5 := blk_frozen hV5 0
            have hA : ∀ q : Addr, a = some q → q.block < w.heap.size := fun q e => HAB.out q (by omega) e
            rw [u64_back HNL.out] at hS5
            have hI := DInv.push (HS4.out.ext ((Ext.refl wr).alloc _)) (blk_alloc HV4.out) (blk_alloc HF4.out) HG.out (hE4.alloc _) hA hb1 hne1 hne2 hT5 hS5 (hat5.imp id (fun e => by simp; omega))
            have HI5 := Lib.hid hI
            clear hI hV5 hT5 hat5 hS5 v0 z0 hA
            go_wp2
            go_roundg (l.length - (p + 9))
            case measure => have := HK.out; omega
            case rel => exact ⟨p + 9, some g5, cap5, f, _, rfl, by omega, by simp; omega, HI5.out, HDY.out⟩
      · have hx1' : ((x.toNat : Int) == 1) = false := by
          have : x.toNat ≠ 1 := fun e => hx1 (UInt8.toNat_inj.1 (by simpa using e))
          simp; omega
        by_cases hx2 : x = 2
        · subst hx2
          have hA : ∀ q : Addr, a = some q → q.block < w2.heap.size := fun q e => by have := HAB.out q (by omega) e; have := hE2.size; omega
          have htx := text_ok sb a c l (p + 1) w2.drew (HS2.out.ext (Ext.refl w2).drew) (by omega) (by omega) hA
          rw [Nat.add_sub_cancel] at htx
          have hR2 := HD2.out
          rw [if_neg (by decide), if_pos rfl] at hR2
          have hfrom := textD_end (l.drop (p + 1)).length (l.drop (p + 1)) [] p (p + 1)
          generalize textD p (p + 1) (l.drop (p + 1)) [] = X at htx hR2 hfrom
          have v0 := blk1 HV2.out
          have z0 := blk_frozen HV2.out 0
          cases X with
          | inl cq =>
            obtain ⟨code, q⟩ := cq
            have HR3 : Hid (.inl (code, q) = R) := hR2
            have HTX := Lib.hid htx
            clear hw hx1 hx1' HD2 hR2 hfrom htx hA
            go_wp2_with fail
            letI : Tch.TS := ⟨fun b => b = sb⟩
            refine region_panics [.e 0, .p 1, .h 2 true, .p 3, .h 4 true, .h 5 false, .h 6 false] f_mixed (by kernel_rfl) (by kernel_rfl) (by kernel_rfl) (fun ch w' => ch = broken code q ∧ Touch (fun b => b = sb) w2 w')
              (.pointer (some ⟨vb, 0, none⟩)) (.pointer (some ⟨fb, 0, none⟩)) [{ target := Target.fn (Fn.func 42) #[.pointer (some ⟨vb, 0, none⟩), .pointer (some ⟨fb, 0, none⟩)], args := #[] }] ?_ ?_
            · refine Tch.plan_e1 rfl rfl (slv g vs.length cap) (fun w' he => ?_) (fun K hK => ?_)
              · have c0 := Touch.cell he v0 (fun e => hne2 e)
                go_simp
              · go_simp; refine hK _ ?_; clear hK K
                refine Tch.plan_p rfl (fun K hK => ?_); go_simp; refine hK _ ?_; clear hK K
                refine Tch.plan_t rfl (fun K hK => ?_)
                clear hK
                go_wp2_with fail
                refine HTX.out.mono ?_
                rintro e w5 ⟨hT5, rfl⟩
                exact ⟨⟨rfl, ((Touch.refl _ w2).drew).trans hT5⟩, rfl, rfl, rfl⟩
            · rintro ch ⟨tmps, ds⟩ w5 ⟨rfl, hT5⟩ ht2 ht3 rfl
              simp only [] at ht2 ht3
              have hVx := Touch.old hT5 HV2.out (fun e => hne2 e)
              have hFx := Touch.old hT5 HF2.out (fun e => hne3 e)
              have hEx : Ext w w5 := Touch.ext ((hE2.touch _).trans hT5) (fun i hi e => by omega)
              have hVX := Lib.hid hVx
              clear v0 z0
              have e2 : tmps.getD 2 undef = .pointer (some ⟨vb, 0, none⟩) := by rw [Array.getD_eq_getD_getElem?, ht2]; rfl
              have e3 : tmps.getD 3 undef = .pointer (some ⟨fb, 0, none⟩) := by rw [Array.getD_eq_getD_getElem?, ht3]; rfl
              refine leaves_cons (f := 42) (args := #[.pointer (some ⟨vb, 0, none⟩), .pointer (some ⟨fb, 0, none⟩)]) (by simp) (by simp [go_sem, ht2, ht3, e2, e3]) ?_
              refine (catch_panicking vb fb _ _ _ _ _ _ hVx hFx hne1).mono ?_
              rintro e u' w9 ⟨rfl, rfl, hv9, hf9, hT9⟩
              have k0 := blk1 hv9
              obtain ⟨k1, k2⟩ := blk2 hf9
              have hE9 : Ext w w9 := Touch.ext ((hEx.touch (fun b => b = vb ∨ b = fb)).trans hT9) (fun i hi e => by omega)
              simp [Leaves, settle, results, Try.results11, go_sem, ht2, ht3, e2, e3, k0, k1, k2]
              exact ⟨none, 0, 0, by rw [← HR3.out]; rfl, by rw [← HR3.out]; exact Sl.nil _ _ _, by simp, hE9⟩
          | inr tq =>
            obtain ⟨tt, q⟩ := tq
            have HR3 : Hid (decD l f q (vs ++ [(2, 0, tt)]) = R) := hR2
            obtain ⟨hq1, hq2, htt⟩ := hfrom tt q (Nat.le_refl _) rfl
            rw [List.length_drop] at hq2
            have HTX := Lib.hid htx
            clear hw hx1 hx1' HD2 hR2 hfrom htx hA
            go_wp2_with fail
            letI : Tch.TS := ⟨fun b => b = sb⟩
            refine Tch.region_calm [.e 0, .p 1, .h 2 true, .p 3, .h 4 true, .h 5 false, .h 6 false] f_mixed (by kernel_rfl) (by kernel_rfl) ?_
            refine Tch.plan_e1 rfl rfl (slv g vs.length cap) (fun w' he => ?_) (fun K hK => ?_)
            · have c0 := Touch.cell he v0 (fun e => hne2 e)
              go_simp
            · go_simp; refine hK _ ?_; clear hK K
              refine Tch.plan_p rfl (fun K hK => ?_); go_simp; refine hK _ ?_; clear hK K
              refine Tch.plan_ct rfl rfl (fun K _ hK => ?_)
              go_wp2_with fail
              refine HTX.out.mono ?_
              rintro e w5 ⟨hT5, rfl, hS5⟩
              go_wp2_with fail
              refine hK _ _ (hT5) ?_; clear hK K
              have hT6 : Touch (fun b => b = sb) w2 w5 := ((Touch.refl _ w2).drew).trans hT5
              have hV5 := Touch.old hT6 HV2.out (fun e => hne2 e)
              have hF5 := Touch.old hT6 HF2.out (fun e => hne3 e)
              have hSl5 := HSL2.out.touch hT6 (fun b e h => (HG.out b e).2.2.2 h)
              have hE5 : Ext w w5 := Touch.ext ((hE2.touch _).trans hT6) (fun i hi e => by omega)
              have HS5 := Lib.hid hS5
              have HV5 := Lib.hid hV5
              have HF5 := Lib.hid hF5
              have HSL5 := Lib.hid hSl5
              clear hS5 hV5 hF5 hSl5 hT5 hT6 v0 z0 HTX
              refine Tch.plan_p rfl (fun K hK => ?_); go_simp; refine hK _ ?_; clear hK K
              refine Tch.plan_ct rfl rfl (fun K _ hK => ?_)
              go_wp2_with fail
              refine hK _ _ ((Touch.refl _ w5).alloc _) ?_; clear hK K
              refine Tch.plan_c rfl rfl (fun K _ hK => ?_)
              refine app_val ei_value rfl (.tmp 50) (.tmp 54) rfl (g := g) (cap := cap) (vs := vs) (by rfl) (HSL5.out.ext ((Ext.refl w5).alloc _)) (2, 0, tt) (by rfl) (blk_new w5 _) (by omega) ?_
              intro g6 cap6 w6 hS6 hT6 hat6
              go_wp2_with fail
              try (refine hK _ _ ?_; clear hK K)
              have hV6 := Touch.old hT6 (blk_alloc HV5.out) (fun e => (HG.out _ e).2.1 rfl)
              have v6 := blk1 hV6
              have z6 := blk_frozen hV6 0
              have hA : ∀ q : Addr, a = some q → q.block < w.heap.size := fun q e => HAB.out q (by omega) e
              have hI := DInv.push (HS5.out.ext ((Ext.refl w5).alloc _)) (blk_alloc HV5.out) (blk_alloc HF5.out) HG.out (hE5.alloc _) hA hb1 hne1 hne2 hT6 hS6 (hat6.imp id (fun e => Nat.le_of_eq e.symm))
              have HI5 := Lib.hid hI
              clear hI hV6 hT6 hat6 hS6 hA
              refine Tch.plan_c rfl rfl (fun K _ hK => ?_)
              go_wp2_with fail
              try (refine hK _ _ ?_; clear hK K)
              refine tch_done ?_
              go_wp2
              go_roundg (l.length - q)
              case measure => have := HK.out; omega
              case rel => exact ⟨q, some g6, cap6, f, _, rfl, by omega, by simp; omega, HI5.out, HR3.out⟩
        · have hx2' : ((x.toNat : Int) == 2) = false := by
            have : x.toNat ≠ 2 := fun e => hx2 (UInt8.toNat_inj.1 (by simpa using e))
            simp; omega
          have HR3 : Hid (.inl (21, p) = R) := by have := HD2.out; rw [if_neg hx1, if_neg hx2] at this; exact this
          obtain ⟨d0, d1⟩ := blk2 HS2.out.1
          have hVx := HV2.out
          have hFx := HF2.out
          have hEx := hE2
          have HVX := Lib.hid hVx
          have HFX := Lib.hid hFx
          clear hx1 hx2 HD2 hVx hFx hEx
          go_wp2
          have hVx := HVX.out
          have hFx := HFX.out
          have hEx := hE2
          refine leaves_cons (f := 42) (args := #[.pointer (some ⟨vb, 0, none⟩), .pointer (some ⟨fb, 0, none⟩)]) (by simp) (by simp [go_sem]) ?_
          refine (catch_panicking vb fb _ _ _ _ _ _ hVx hFx hne1).mono ?_
          rintro e u' w9 ⟨rfl, rfl, hv9, hf9, hT9⟩
          have k0 := blk1 hv9
          obtain ⟨k1, k2⟩ := blk2 hf9
          have hE9 : Ext w w9 := Touch.ext ((hEx.touch (fun b => b = vb ∨ b = fb)).trans hT9) (fun i hi e => by omega)
          simp [Leaves, settle, results, Try.results11, go_sem, k0, k1, k2]
          exact ⟨none, 0, 0, by rw [← HR3.out]; rfl, by rw [← HR3.out]; exact Sl.nil _ _ _, by simp, hE9⟩
    · have hdn : l.drop p = [] := List.drop_eq_nil_of_le (by omega)
      have hD2 := HD.out
      rw [decD_nil hdn] at hD2
      have HD2 := Lib.hid hD2; clear HD hD2 hdn
      have hp : p = l.length := by omega
      have v0 := blk1 HV.out
      obtain ⟨v1, v2⟩ := blk2 HF.out
      have z0 := blk_frozen HV.out 0
      have z1 := blk_frozen HF.out 0
      have z2 := blk_frozen HF.out 1
      go_wp2
      refine leaves_cons (f := 42) (args := #[.pointer (some ⟨vb, 0, none⟩), .pointer (some ⟨fb, 0, none⟩)]) (by simp) (by simp [go_sem]) ?_
      refine (catch_idle vb fb _).mono ?_
      rintro e u' w9 ⟨rfl, rfl, hE9⟩
      have hW : ∃ W, Ext w W ∧ Ext W w9 ∧ W.heap[vb]? = some (.cells #[slv g vs.length cap] 23 (0, 0)) ∧ W.heap[fb]? = some (.cells #[.int .i64 0, .int .i64 0] 37 (0, 0)) ∧ Sl W 93 3 g vs.length cap (flatV vs) := by
        refine ⟨_, ?_, hE9, ?_, ?_, ?_⟩
        · exact Touch.ext ((((hE.touch (fun b => b = vb ∨ b = fb)).setCell (p := ⟨vb, 0, none⟩) (fun _ => .inl rfl) _).setCell (p := ⟨fb, 0, none⟩) (fun _ => .inr rfl) _).setCell (p := ⟨fb, 1, none⟩) (fun _ => .inr rfl) _) (fun i hi e => by omega)
        · exact blk_set_ne (blk_set_ne (blk_set HV.out 0 _) hne1 _) hne1 _
        · exact blk_set (blk_set (blk_set_ne HF.out (fun e => hne1 e.symm) _) 0 _) 1 _
        · exact HSL.out.touch ((((Touch.refl (fun b => b = vb ∨ b = fb) wr).setCell (p := ⟨vb, 0, none⟩) (fun _ => .inl rfl) _).setCell (p := ⟨fb, 0, none⟩) (fun _ => .inr rfl) _).setCell (p := ⟨fb, 1, none⟩) (fun _ => .inr rfl) _) (fun b e h => by have := HG.out b e; omega)
      obtain ⟨W, hW1, hW2, hW3, hW4, hW5⟩ := hW
      have k0 := blk1 (Ext.block hW2 hW3)
      obtain ⟨k1, k2⟩ := blk2 (Ext.block hW2 hW4)
      have hS9 := hW5.ext hW2
      have hE10 := hW1.trans hW2
      clear hE9 hW1 hW2 hW3 hW4 hW5
      simp [Leaves, settle, results, Try.results11, go_sem, k0, k1, k2]
      exact ⟨g, vs.length, cap, by rw [← HD2.out]; rfl, by rw [← HD2.out]; exact hS9, fun b e => (HG.out b e).1, hE10⟩


end Go.Proofs.Ytkejjahlglldlaa
