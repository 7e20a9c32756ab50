/- Some nodes in memory: their blocks and their slices, each step keeping the others. No program is walked here. -/
import Derived.Test.YtkejjahlglldlaaMDel
namespace Go.Proofs.Ytkejjahlglldlaa
open Go.RowKit Go.Lib

/-- A slice: its elements' type, its block, its length and capacity, its cells. -/
structure SD where
  ty : TypeId
  g : Option Nat
  n : Nat
  cap : Nat
  xs : List Value
def upd {α : Type} (f : Nat → α) (i : Nat) (v : α) : Nat → α := fun j => if j = i then v else f j
theorem upd_at {α : Type} (f : Nat → α) (i : Nat) (v : α) : upd f i v i = v := by simp [upd]
theorem upd_ne {α : Type} {f : Nat → α} {i j : Nat} {v : α} (h : j ≠ i) : upd f i v j = f j := by simp [upd, h]

/-- H nodes' blocks with S slices, all apart, in the world W that came from w0; O: the blocks that may be touched. -/
structure Mm (w0 : World) (O : Nat → Prop) (H S : Nat) (hd : Nat → Nat) (hc : Nat → Array Value) (s : Nat → SD) (W : World) : Prop where
  hb : ∀ i < H, W.heap[hd i]? = some (.cells (hc i) 82 (0, 0))
  sl : ∀ i < S, Sl W (s i).ty 1 (s i).g (s i).n (s i).cap (s i).xs
  hh : ∀ i < H, ∀ j < H, i ≠ j → hd i ≠ hd j
  hs : ∀ i < H, ∀ j < S, (s j).g ≠ some (hd i)
  ss : ∀ i < S, ∀ j < S, i ≠ j → ∀ b, (s i).g = some b → (s j).g ≠ some b
  touch : Touch O w0 W
  oh : ∀ i < H, O (hd i)
  os : ∀ i < S, ∀ b, (s i).g = some b → O b ∨ w0.heap.size ≤ b
  ho : ∀ i < H, hd i < w0.heap.size

section
variable {w0 W : World} {O : Nat → Prop} {H S : Nat} {hd : Nat → Nat} {hc : Nat → Array Value} {s : Nat → SD}

theorem Mm.hlt (h : Mm w0 O H S hd hc s W) {i : Nat} (hi : i < H) : hd i < W.heap.size := blk_lt (h.hb i hi)
theorem Mm.slt (h : Mm w0 O H S hd hc s W) {i : Nat} (hi : i < S) {b : Nat} (hb : (s i).g = some b) : b < W.heap.size := by
  have := h.sl i hi
  rw [hb] at this
  exact this.block_lt
theorem Mm.ext {W' : World} (h : Mm w0 O H S hd hc s W) (he : Ext W W') : Mm w0 O H S hd hc s W' :=
  ⟨fun i hi => Ext.block he (h.hb i hi), fun i hi => (h.sl i hi).ext he, h.hh, h.hs, h.ss, h.touch.trans (he.touch _), h.oh, h.os, h.ho⟩
/-- A slice is made anew (or in its place). -/
theorem Mm.slice {W1 : World} (h : Mm w0 O H S hd hc s W) {i : Nat} (hi : i < S) {ty : TypeId} {g' : Option Nat} {n' cap' : Nat} {xs' : List Value} (hS : Sl W1 ty 1 g' n' cap' xs') (hT : Touch (fun k => (s i).g = some k) W W1)
    (hg : ∀ b, g' = some b → (s i).g = some b ∨ W.heap.size ≤ b) : Mm w0 O H S hd hc (upd s i ⟨ty, g', n', cap', xs'⟩) W1 := by
  refine ⟨fun j hj => hT.old (h.hb j hj) (h.hs j hj i hi), fun j hj => ?_, h.hh, fun j hj k hk => ?_, fun j hj k hk hjk b hb => ?_, ?_, h.oh, fun j hj b hb => ?_, h.ho⟩
  · by_cases e : j = i
    · subst e; rw [upd_at]; exact hS
    · rw [upd_ne e]
      exact (h.sl j hj).touch hT fun b hb hx => h.ss j hj i hi e b hb hx
  · by_cases e : k = i
    · subst e; rw [upd_at]
      intro hx
      rcases hg _ hx with hg | hg
      · exact h.hs j hj k hk hg
      · have := h.hlt hj; omega
    · rw [upd_ne e]; exact h.hs j hj k hk
  · by_cases e : j = i
    · subst e
      rw [upd_at] at hb
      rw [upd_ne (Ne.symm hjk)]
      intro hx
      rcases hg _ hb with hg | hg
      · exact h.ss j hj k hk hjk _ hg hx
      · have := h.slt hk hx; omega
    · rw [upd_ne e] at hb
      by_cases e2 : k = i
      · subst e2
        rw [upd_at]
        intro hx
        rcases hg _ hx with hg | hg
        · exact h.ss j hj k hk hjk _ hb hg
        · have := h.slt hj hb; omega
      · rw [upd_ne e2]; exact h.ss j hj k hk hjk b hb
  · refine h.touch.trans' hT fun k hk hx => ?_
    rcases h.os i hi k hx with h' | h'
    · exact h'
    · omega
  · by_cases e : j = i
    · subst e
      rw [upd_at] at hb
      rcases hg _ hb with hg | hg
      · exact h.os j hj _ hg
      · have := h.touch.size; exact .inr (by omega)
    · rw [upd_ne e] at hb; exact h.os j hj b hb
/-- A node's cell is written. -/
theorem Mm.head (h : Mm w0 O H S hd hc s W) {i : Nat} (hi : i < H) (k : Nat) (v : Value) : Mm w0 O H S hd (upd hc i ((hc i).setIfInBounds k v)) s (W.setCell ⟨hd i, k, none⟩ v) := by
  refine ⟨fun j hj => ?_, fun j hj => (h.sl j hj).set_off _ _ fun b hb e => h.hs i hi j hj (by rw [hb, e]), h.hh, h.hs, h.ss, h.touch.setCell (p := ⟨hd i, k, none⟩) (fun _ => h.oh i hi) _, h.oh, h.os, h.ho⟩
  by_cases e : j = i
  · subst e; rw [upd_at]; exact blk_set (h.hb j hj) k v
  · rw [upd_ne e]; exact blk_set_ne (h.hb j hj) (h.hh j hj i hi e) v
theorem Sl.put {w : World} {e : TypeId} {b n cap k : Nat} {xs : List Value} (h : Sl w e 1 (some b) n cap xs) (v : Value) (hk : k < n) : Sl (w.setCell ⟨b, k, none⟩ v) e 1 (some b) n cap (xs.set k v) := by
  obtain ⟨h0, cur, hb, h1, h2, h3, h4⟩ := h
  refine ⟨by simpa using h0, cur.setIfInBounds k v, blk_set hb k v, h1, h2, by simpa using h3, ?_⟩
  rw [Array.toList_setIfInBounds, List.take_set, h4]
/-- An element of a slice is written. -/
theorem Mm.elem (h : Mm w0 O H S hd hc s W) {i : Nat} (hi : i < S) {b k : Nat} (hb : (s i).g = some b) (v : Value) (hk : k < (s i).n) :
    Mm w0 O H S hd hc (upd s i ⟨(s i).ty, (s i).g, (s i).n, (s i).cap, (s i).xs.set k v⟩) (W.setCell ⟨b, k, none⟩ v) := by
  refine h.slice hi ?_ ?_ (fun x hx => .inl hx)
  · have := h.sl i hi
    rw [hb] at this ⊢
    exact this.put v hk
  · exact Touch.setCell (Touch.refl _ _) (p := ⟨b, k, none⟩) (fun _ => hb) v
/-- A slice is cut short. -/
theorem Mm.short (h : Mm w0 O H S hd hc s W) {i : Nat} (hi : i < S) {k : Nat} (hk : k ≤ (s i).n) : Mm w0 O H S hd hc (upd s i ⟨(s i).ty, (s i).g, k, (s i).cap, (s i).xs.take k⟩) W := by
  refine ⟨h.hb, fun j hj => ?_, h.hh, fun j hj l hl => ?_, fun j hj l hl hjl b hb => ?_, h.touch, h.oh, fun j hj b hb => ?_, h.ho⟩
  · by_cases e : j = i
    · subst e; rw [upd_at]; exact (h.sl j hj).take hk
    · rw [upd_ne e]; exact h.sl j hj
  · by_cases e : l = i
    · subst e; rw [upd_at]; exact h.hs j hj l hl
    · rw [upd_ne e]; exact h.hs j hj l hl
  · by_cases e : j = i
    · subst e
      rw [upd_at] at hb
      rw [upd_ne (Ne.symm hjl)]
      exact h.ss j hj l hl hjl b hb
    · rw [upd_ne e] at hb
      by_cases e2 : l = i
      · subst e2; rw [upd_at]; exact h.ss j hj l hl hjl b hb
      · rw [upd_ne e2]; exact h.ss j hj l hl hjl b hb
  · by_cases e : j = i
    · subst e; rw [upd_at] at hb; exact h.os j hj b hb
    · rw [upd_ne e] at hb; exact h.os j hj b hb
end

theorem nodup_fm (f : Nat → List Nat) : ∀ S, ((List.range S).flatMap f).Nodup ↔ (∀ i < S, (f i).Nodup) ∧ ∀ i < S, ∀ j < S, i ≠ j → ∀ b ∈ f i, b ∉ f j
  | 0 => by simp
  | S + 1 => by
    rw [List.range_succ, List.flatMap_append, List.nodup_append, nodup_fm f S]
    simp only [List.flatMap_cons, List.flatMap_nil, List.append_nil, List.mem_flatMap, List.mem_range]
    constructor
    · rintro ⟨⟨h1, h2⟩, h3, h4⟩
      refine ⟨fun i hi => ?_, fun i hi j hj hij b hb hb2 => ?_⟩
      · by_cases e : i = S
        · subst e; exact h3
        · exact h1 i (by omega)
      · by_cases e : i = S
        · subst e; exact h4 b ⟨j, by omega, hb2⟩ b hb rfl
        · by_cases e2 : j = S
          · subst e2; exact h4 b ⟨i, by omega, hb⟩ b hb2 rfl
          · exact h2 i (by omega) j (by omega) hij b hb hb2
    · rintro ⟨h1, h2⟩
      refine ⟨⟨fun i hi => h1 i (by omega), fun i hi j hj => h2 i (by omega) j (by omega)⟩, h1 S (by omega), fun a ⟨i, hi, ha⟩ b hb e => ?_⟩
      subst e
      exact h2 i (by omega) S (by omega) (by omega) a ha hb
/-- All the blocks. -/
def ownM (H S : Nat) (hd : Nat → Nat) (s : Nat → SD) : List Nat := (List.range H).flatMap (fun i => [hd i]) ++ (List.range S).flatMap (fun i => (s i).g.toList)
theorem ownM_iff (H S : Nat) (hd : Nat → Nat) (s : Nat → SD) : (ownM H S hd s).Nodup ↔ (∀ i < H, ∀ j < H, i ≠ j → hd i ≠ hd j) ∧ (∀ i < H, ∀ j < S, (s j).g ≠ some (hd i)) ∧ ∀ i < S, ∀ j < S, i ≠ j → ∀ b, (s i).g = some b → (s j).g ≠ some b := by
  unfold ownM
  rw [List.nodup_append, nodup_fm, nodup_fm]
  simp only [List.mem_flatMap, List.mem_range, Option.mem_toList, List.mem_singleton]
  constructor
  · rintro ⟨⟨_, h1⟩, ⟨_, h2⟩, h3⟩
    exact ⟨fun i hi j hj hij e => h1 i hi j hj hij (hd i) rfl e, fun i hi j hj e => h3 (hd i) ⟨i, hi, rfl⟩ (hd i) ⟨j, hj, e⟩ rfl, fun i hi j hj hij b hb hb2 => h2 i hi j hj hij b hb hb2⟩
  · rintro ⟨h1, h2, h3⟩
    refine ⟨⟨fun i _ => by simp, fun i hi j hj hij b hb hb2 => h1 i hi j hj hij (hb ▸ hb2)⟩, ⟨fun i _ => by cases (s i).g <;> simp, fun i hi j hj hij b hb hb2 => h3 i hi j hj hij b hb hb2⟩, ?_⟩
    rintro a ⟨i, hi, rfl⟩ b ⟨j, hj, hb⟩ e
    subst e
    exact h2 i hi j hj hb
theorem Mm.nodup {w0 W : World} {O : Nat → Prop} {H S : Nat} {hd : Nat → Nat} {hc : Nat → Array Value} {s : Nat → SD} (h : Mm w0 O H S hd hc s W) : (ownM H S hd s).Nodup := (ownM_iff H S hd s).2 ⟨h.hh, h.hs, h.ss⟩

def hd3 (nb b1 b2 : Nat) : Nat → Nat
  | 0 => nb | 1 => b1 | _ => b2
def hc3 (a b c : Array Value) : Nat → Array Value
  | 0 => a | 1 => b | _ => c
abbrev hcN (gk gv gc : Option Nat) (n p ck cv cc : Nat) : Array Value := #[slv gk n ck, slv gv n cv, slv gc p cc]
abbrev sdK (es : List Ent) (g : Option Nat) (c : Nat) : SD := ⟨9, g, es.length, c, sK es⟩
abbrev sdV (es : List Ent) (g : Option Nat) (c : Nat) : SD := ⟨2, g, es.length, c, sV es⟩
abbrev sdP (ps : List Nat) (g : Option Nat) (c : Nat) : SD := ⟨78, g, ps.length, c, sP ps⟩
def s9 (a0 a1 a2 a3 a4 a5 a6 a7 a8 : SD) : Nat → SD
  | 0 => a0 | 1 => a1 | 2 => a2 | 3 => a3 | 4 => a4 | 5 => a5 | 6 => a6 | 7 => a7 | _ => a8

theorem Mm.start3 {w : World} {nb b1 b2 : Nat} {es e1 e2 : List Ent} {ps p1 p2 : List Nat} {gk gv gc hk hv hc jk jv jc : Option Nat} {ck cv cc dk dv dc fk fv fc : Nat}
    (hN : NodeAt w nb es ps gk gv gc ck cv cc) (h1 : NodeAt w b1 e1 p1 hk hv hc dk dv dc) (h2 : NodeAt w b2 e2 p2 jk jv jc fk fv fc) (hnd : (ownL nb gk gv gc ++ (ownL b1 hk hv hc ++ ownL b2 jk jv jc)).Nodup) :
    Mm w (fun k => k ∈ ownL nb gk gv gc ++ (ownL b1 hk hv hc ++ ownL b2 jk jv jc)) 3 9 (hd3 nb b1 b2) (hc3 (hcN gk gv gc es.length ps.length ck cv cc) (hcN hk hv hc e1.length p1.length dk dv dc) (hcN jk jv jc e2.length p2.length fk fv fc))
      (s9 (sdK es gk ck) (sdV es gv cv) (sdP ps gc cc) (sdK e1 hk dk) (sdV e1 hv dv) (sdP p1 hc dc) (sdK e2 jk fk) (sdV e2 jv fv) (sdP p2 jc fc)) w := by
  have hN0 : (ownM 3 9 (hd3 nb b1 b2) (s9 (sdK es gk ck) (sdV es gv cv) (sdP ps gc cc) (sdK e1 hk dk) (sdV e1 hv dv) (sdP p1 hc dc) (sdK e2 jk fk) (sdV e2 jv fv) (sdP p2 jc fc))).Nodup := by
    refine (List.Perm.nodup_iff ?_).1 hnd
    rw [List.perm_iff_count]
    intro a
    show _ = List.count a (([nb] ++ ([b1] ++ ([b2] ++ []))) ++ (gk.toList ++ (gv.toList ++ (gc.toList ++ (hk.toList ++ (hv.toList ++ (hc.toList ++ (jk.toList ++ (jv.toList ++ (jc.toList ++ []))))))))))
    simp only [List.count_append, List.count_cons, List.count_nil]
    omega
  obtain ⟨a1, a2, a3⟩ := (ownM_iff _ _ _ _).1 hN0
  refine ⟨?_, ?_, a1, a2, a3, Touch.refl _ _, ?_, ?_, ?_⟩
  · intro i hi
    match i, hi with
    | 0, _ => exact hN.blk
    | 1, _ => exact h1.blk
    | 2, _ => exact h2.blk
  · intro i hi
    match i, hi with
    | 0, _ => exact hN.keys
    | 1, _ => exact hN.vals
    | 2, _ => exact hN.kids
    | 3, _ => exact h1.keys
    | 4, _ => exact h1.vals
    | 5, _ => exact h1.kids
    | 6, _ => exact h2.keys
    | 7, _ => exact h2.vals
    | 8, _ => exact h2.kids
  · intro i hi
    match i, hi with
    | 0, _ => simp [hd3]
    | 1, _ => simp [hd3]
    | 2, _ => simp [hd3]
  · intro i hi b hb
    refine .inl ?_
    match i, hi with
    | 0, _ => have : gk = some b := hb; simp [this]
    | 1, _ => have : gv = some b := hb; simp [this]
    | 2, _ => have : gc = some b := hb; simp [this]
    | 3, _ => have : hk = some b := hb; simp [this]
    | 4, _ => have : hv = some b := hb; simp [this]
    | 5, _ => have : hc = some b := hb; simp [this]
    | 6, _ => have : jk = some b := hb; simp [this]
    | 7, _ => have : jv = some b := hb; simp [this]
    | 8, _ => have : jc = some b := hb; simp [this]
  · intro i hi
    match i, hi with
    | 0, _ => exact hN.lt nb (by simp)
    | 1, _ => exact h1.lt b1 (by simp)
    | 2, _ => exact h2.lt b2 (by simp)

/-- A node is a node again. -/
theorem Mm.node {w0 W : World} {O : Nat → Prop} {H S : Nat} {hd : Nat → Nat} {hc : Nat → Array Value} {s : Nat → SD} (h : Mm w0 O H S hd hc s W) (i : Nat) {b : Nat} {es : List Ent} {ps : List Nat} {gk gv gc : Option Nat} {ck cv cc nk nv np : Nat} {xk xv xp : List Value} (hi : i < H) (hi2 : 3 * i + 2 < S)
    (hhd : hd i = b) (hh : hc i = #[slv gk nk ck, slv gv nv cv, slv gc np cc]) (h0 : s (3 * i) = ⟨9, gk, nk, ck, xk⟩) (h1 : s (3 * i + 1) = ⟨2, gv, nv, cv, xv⟩) (h2 : s (3 * i + 2) = ⟨78, gc, np, cc, xp⟩)
    (a0 : nk = es.length) (a1 : nv = es.length) (a2 : np = ps.length) (b0 : xk = sK es) (b1 : xv = sV es) (b2 : xp = sP ps) : NodeAt W b es ps gk gv gc ck cv cc := by
  subst a0 a1 a2 b0 b1 b2 hhd
  refine ⟨?_, ?_, ?_, ?_⟩
  · have := h.hb i hi; rw [hh] at this; exact this
  · have := h.sl (3 * i) (by omega); rw [h0] at this; exact this
  · have := h.sl (3 * i + 1) (by omega); rw [h1] at this; exact this
  · have := h.sl (3 * i + 2) hi2; rw [h2] at this; exact this

theorem Mm.conv {w0 W : World} {O : Nat → Prop} {hd : Nat → Nat} {hc hc' : Nat → Array Value} {s s' : Nat → SD} (h : Mm w0 O 3 9 hd hc s W) (e0 : hc 0 = hc' 0) (e1 : hc 1 = hc' 1) (e2 : hc 2 = hc' 2)
    (a0 : s 0 = s' 0) (a1 : s 1 = s' 1) (a2 : s 2 = s' 2) (a3 : s 3 = s' 3) (a4 : s 4 = s' 4) (a5 : s 5 = s' 5) (a6 : s 6 = s' 6) (a7 : s 7 = s' 7) (a8 : s 8 = s' 8) : Mm w0 O 3 9 hd hc' s' W := by
  have k : ∀ i < 9, s i = s' i := by
    intro i hi
    match i, hi with
    | 0, _ => exact a0
    | 1, _ => exact a1
    | 2, _ => exact a2
    | 3, _ => exact a3
    | 4, _ => exact a4
    | 5, _ => exact a5
    | 6, _ => exact a6
    | 7, _ => exact a7
    | 8, _ => exact a8
  have l : ∀ i < 3, hc i = hc' i := by
    intro i hi
    match i, hi with
    | 0, _ => exact e0
    | 1, _ => exact e1
    | 2, _ => exact e2
  exact ⟨fun i hi => by rw [← l i hi]; exact h.hb i hi, fun i hi => by rw [← k i hi]; exact h.sl i hi, h.hh, fun i hi j hj => by rw [← k j hj]; exact h.hs i hi j hj,
    fun i hi j hj => by rw [← k i hi, ← k j hj]; exact h.ss i hi j hj, h.touch, h.oh, fun i hi => by rw [← k i hi]; exact h.os i hi, h.ho⟩
theorem Mm.nd3 {w0 W : World} {O : Nat → Prop} {hd : Nat → Nat} {hc : Nat → Array Value} {s : Nat → SD} (h : Mm w0 O 3 9 hd hc s W) {nb b1 b2 : Nat} {gk gv gc hk hv hc jk jv jc : Option Nat}
    (e0 : hd 0 = nb) (e1 : hd 1 = b1) (e2 : hd 2 = b2) (a0 : (s 0).g = gk) (a1 : (s 1).g = gv) (a2 : (s 2).g = gc) (a3 : (s 3).g = hk) (a4 : (s 4).g = hv) (a5 : (s 5).g = hc) (a6 : (s 6).g = jk) (a7 : (s 7).g = jv) (a8 : (s 8).g = jc) :
    (ownL nb gk gv gc ++ (ownL b1 hk hv hc ++ ownL b2 jk jv jc)).Nodup := by
  subst e0 e1 e2 a0 a1 a2 a3 a4 a5 a6 a7 a8
  refine (List.Perm.nodup_iff ?_).1 h.nodup
  rw [List.perm_iff_count]
  intro a
  show List.count a (([hd 0] ++ ([hd 1] ++ ([hd 2] ++ []))) ++ ((s 0).g.toList ++ ((s 1).g.toList ++ ((s 2).g.toList ++ ((s 3).g.toList ++ ((s 4).g.toList ++ ((s 5).g.toList ++ ((s 6).g.toList ++ ((s 7).g.toList ++ ((s 8).g.toList ++ [])))))))))) = _
  simp only [List.count_append, List.count_cons, List.count_nil]
  omega
theorem nodup_drop {X Y Z : List Nat} (h : (X ++ (Y ++ Z)).Nodup) : (X ++ Y).Nodup := by
  rw [← List.append_assoc] at h
  exact (List.nodup_append.1 h).1
theorem Mm.sub {w0 W : World} {O : Nat → Prop} {H S : Nat} {hd : Nat → Nat} {hc : Nat → Array Value} {s : Nat → SD} (h : Mm w0 O H S hd hc s W) (i : Nat) {b : Nat} {gk gv gc : Option Nat} (hi : i < H) (hi2 : 3 * i + 2 < S)
    (e0 : hd i = b) (a0 : (s (3 * i)).g = gk) (a1 : (s (3 * i + 1)).g = gv) (a2 : (s (3 * i + 2)).g = gc) : ∀ x ∈ ownL b gk gv gc, O x ∨ w0.heap.size ≤ x := by
  subst e0 a0 a1 a2
  intro x hx
  simp only [ownL, List.mem_cons, List.mem_append, Option.mem_toList] at hx
  rcases hx with rfl | hx | hx | hx
  · exact .inl (h.oh i hi)
  · exact h.os _ (by omega) x hx
  · exact h.os _ (by omega) x hx
  · exact h.os _ hi2 x hx

section
variable {w0 W W' : World} {O : Nat → Prop} {H S : Nat} {hd : Nat → Nat} {hc : Nat → Array Value} {s : Nat → SD}
/-- The cells of a node. -/
theorem Mm.c3 (h : Mm w0 O H S hd hc s W) (i : Nat) {b : Nat} {v0 v1 v2 : Value} (hi : i < H) (hhd : hd i = b) (hhc : hc i = #[v0, v1, v2]) : W.cell? ⟨b, 0, none⟩ = some v0 ∧ W.cell? ⟨b, 1, none⟩ = some v1 ∧ W.cell? ⟨b, 2, none⟩ = some v2 := by
  have := h.hb i hi
  rw [hhc, hhd] at this
  exact blk3 this
/-- .. behind a call that may touch one slice. -/
theorem Mm.c3t (h : Mm w0 O H S hd hc s W) {j : Nat} (hj : j < S) {g : Option Nat} (hg : (s j).g = g) (he : Touch (fun k => g = some k) W W') (i : Nat) {b : Nat} {v0 v1 v2 : Value} (hi : i < H) (hhd : hd i = b) (hhc : hc i = #[v0, v1, v2]) : W'.cell? ⟨b, 0, none⟩ = some v0 ∧ W'.cell? ⟨b, 1, none⟩ = some v1 ∧ W'.cell? ⟨b, 2, none⟩ = some v2 := by
  subst hg
  have := he.old (h.hb i hi) (h.hs i hi j hj)
  rw [hhc, hhd] at this
  exact blk3 this
theorem Mm.fz (h : Mm w0 O H S hd hc s W) (i : Nat) {b : Nat} (hi : i < H) (hhd : hd i = b) (k : Nat) : W.frozen? ⟨b, k, none⟩ = false := by
  subst hhd
  exact blk_frozen (h.hb i hi) k
/-- An element. -/
theorem Mm.el (h : Mm w0 O H S hd hc s W) (i : Nat) {b k : Nat} {d : SD} {v : Value} (hi : i < S) (hd : s i = d) (hb : d.g = some b) (hv : d.xs[k]? = some v) : W.cell? ⟨b, k, none⟩ = some v := by
  subst hd
  have := h.sl i hi
  rw [hb] at this
  exact this.cell hv
theorem Mm.elt (h : Mm w0 O H S hd hc s W) {j : Nat} (hj : j < S) {g : Option Nat} (hg : (s j).g = g) (he : Touch (fun k => g = some k) W W') (i : Nat) (hij : i ≠ j) {b k : Nat} {d : SD} {v : Value} (hi : i < S) (hd : s i = d) (hb : d.g = some b) (hv : d.xs[k]? = some v) : W'.cell? ⟨b, k, none⟩ = some v := by
  subst hg hd
  have := (h.sl i hi).touch he (fun x hx => h.ss i hi j hj hij x hx)
  rw [hb] at this
  exact this.cell hv
theorem Mm.fzs (h : Mm w0 O H S hd hc s W) (i : Nat) {b : Nat} {d : SD} (hi : i < S) (hd : s i = d) (hb : d.g = some b) (k : Nat) : W.frozen? ⟨b, k, none⟩ = false := by
  subst hd
  have := h.sl i hi
  rw [hb] at this
  exact this.frozen k
theorem Mm.sd (h : Mm w0 O H S hd hc s W) (i : Nat) {d : SD} (hi : i < S) (hd : s i = d) : Sl W d.ty 1 d.g d.n d.cap d.xs := hd ▸ h.sl i hi
end
end Go.Proofs.Ytkejjahlglldlaa
