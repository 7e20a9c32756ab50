/- ritree.Nodes: its state. No program is walked here. -/
import Derived.Test.YtkejjahlglldlaaMSrt
import Derived.Test.YtkejjahlglldlaaMBmB
namespace Go.Proofs.Ytkejjahlglldlaa
open Go.RowKit Go.Lib

structure NNe (lb rb pb : Nat) (gl gr : Option Nat) : Prop where
  lr : lb ≠ rb
  lp : lb ≠ pb
  rp : rb ≠ pb
  gll : gl ≠ some lb
  glr : gl ≠ some rb
  glp : gl ≠ some pb
  grl : gr ≠ some lb
  grr : gr ≠ some rb
  grp : gr ≠ some pb
  gg : ∀ b, gl = some b → gr ≠ some b
structure NNew (w0 : World) (lb rb : Nat) (gl gr : Option Nat) : Prop where
  lb : w0.heap.size ≤ lb
  rb : w0.heap.size ≤ rb
  gl : ∀ b, gl = some b → w0.heap.size ≤ b
  gr : ∀ b, gr = some b → w0.heap.size ≤ b
structure NXs (W : World) (x : Option Nat) (lb rb : Nat) (gl gr : Option Nat) : Prop where
  lt : ∀ b, x = some b → b < W.heap.size
  l : ∀ b, x = some b → b ≠ lb
  r : ∀ b, x = some b → b ≠ rb
  gl : ∀ b, x = some b → gl ≠ some b
  gr : ∀ b, x = some b → gr ≠ some b
/-- What Nodes holds: the period's block, the two lists' cells and slices; D: the nodes that it has seen; x: a block that is kept apart. -/
structure NS (w0 : World) (F T lb rb pb : Nat) (x : Option Nat) (W : World) (D : List Nat) (gl : Option Nat) (cl : Nat) (Ls : List Int) (gr : Option Nat) (cr : Nat) (Rs : List Int) : Prop where
  l : W.heap[lb]? = some (.cells #[slv gl Ls.length cl] 46 (0, 0))
  r : W.heap[rb]? = some (.cells #[slv gr Rs.length cr] 46 (0, 0))
  p : W.heap[pb]? = some (.cells #[.int .i64 (F : Int), .int .i64 (T : Int)] 45 (0, 0))
  sl : ISl W gl Ls.length cl Ls
  sr : ISl W gr Rs.length cr Rs
  ne : NNe lb rb pb gl gr
  ext : Ext w0 W
  new : NNew w0 lb rb gl gr
  xs : NXs W x lb rb gl gr
  al : ∀ y ∈ Ls, 0 ≤ y ∧ y < (F : Int)
  ar : ∀ y ∈ Rs, (T : Int) ≤ y ∧ y ≤ 1099511627776
  has : ∀ y ∈ D, (y < F → (y : Int) ∈ Ls) ∧ (T ≤ y → (y : Int) ∈ Rs)
  len : Ls.length + Rs.length ≤ D.length
  tf : F < T

section
variable {w0 W : World} {F T lb rb pb : Nat} {x : Option Nat} {D : List Nat} {gl : Option Nat} {cl : Nat} {Ls : List Int} {gr : Option Nat} {cr : Nat} {Rs : List Int}
theorem NS.go (h : NS w0 F T lb rb pb x W D gl cl Ls gr cr Rs) {W' : World} (hE : Ext W W') : NS w0 F T lb rb pb x W' D gl cl Ls gr cr Rs :=
  ⟨Ext.block hE h.l, Ext.block hE h.r, Ext.block hE h.p, h.sl.ext hE, h.sr.ext hE, h.ne, h.ext.trans hE, h.new, ⟨fun b hb => Nat.lt_of_lt_of_le (h.xs.lt b hb) hE.size, h.xs.l, h.xs.r, h.xs.gl, h.xs.gr⟩, h.al, h.ar, h.has, h.len, h.tf⟩
theorem NS.side (h : NS w0 F T lb rb pb x W D gl cl Ls gr cr Rs) {x' : Option Nat} (hx : NXs W x' lb rb gl gr) : NS w0 F T lb rb pb x' W D gl cl Ls gr cr Rs :=
  ⟨h.l, h.r, h.p, h.sl, h.sr, h.ne, h.ext, h.new, hx, h.al, h.ar, h.has, h.len, h.tf⟩
theorem NS.fresh (h : NS w0 F T lb rb pb x W D gl cl Ls gr cr Rs) {W' : World} (hE : Ext W W') {b : Nat} (hb : W.heap.size ≤ b) (hb2 : b < W'.heap.size) : NS w0 F T lb rb pb (some b) W' D gl cl Ls gr cr Rs := by
  refine (h.go hE).side ⟨fun c hc => by cases hc; exact hb2, fun c hc e => ?_, fun c hc e => ?_, fun c hc e => ?_, fun c hc e => ?_⟩
  · cases hc; have := blk_lt h.l; omega
  · cases hc; have := blk_lt h.r; omega
  · cases hc; have h1 := h.sl; rw [e] at h1; have := h1.block_lt; omega
  · cases hc; have h1 := h.sr; rw [e] at h1; have := h1.block_lt; omega
theorem NS.seen (h : NS w0 F T lb rb pb x W D gl cl Ls gr cr Rs) {y : Nat} (h1 : F ≤ y) (h2 : y < T) : NS w0 F T lb rb pb x W (D ++ [y]) gl cl Ls gr cr Rs :=
  ⟨h.l, h.r, h.p, h.sl, h.sr, h.ne, h.ext, h.new, h.xs, h.al, h.ar, fun z hz => by
    rcases List.mem_append.1 hz with hz | hz
    · exact h.has z hz
    · simp at hz; subst hz; exact ⟨fun h3 => by omega, fun h3 => by omega⟩, by have := h.len; simp; omega, h.tf⟩
/-- The list on the left is made anew. -/
theorem NS.left (h : NS w0 F T lb rb pb x W D gl cl Ls gr cr Rs) {W' : World} {gn : Option Nat} {cn : Nat} {Ns : List Int} {D' : List Nat} (hS : ISl W' gn Ns.length cn Ns) (hB : W'.heap[lb]? = some (.cells #[slv gn Ns.length cn] 46 (0, 0))) (hT : Touch (fun k => k = lb ∨ gl = some k) W W')
    (hg : ∀ b, gn = some b → gl = some b ∨ W.heap.size ≤ b) (hall : ∀ y ∈ Ns, 0 ≤ y ∧ y < (F : Int)) (hhas : ∀ y ∈ D', (y < F → (y : Int) ∈ Ns) ∧ (T ≤ y → (y : Int) ∈ Rs)) (hlen : Ns.length + Rs.length ≤ D'.length) :
    NS w0 F T lb rb pb x W' D' gn cn Ns gr cr Rs := by
  have hlb := blk_lt h.l
  have hrb := blk_lt h.r
  have hpb := blk_lt h.p
  have hxs := h.xs
  have hsz := h.ext.size
  have hno := h.r
  have hoth : ∀ b, gr = some b → b < W.heap.size := fun b hb => by
    have := h.sr
    rw [hb] at this
    exact this.block_lt
  have gnl : gn ≠ some lb := fun e => (hg lb e).elim h.ne.gll (fun h2 => by omega)
  have gnr : gn ≠ some rb := fun e => (hg rb e).elim h.ne.glr (fun h2 => by omega)
  have gnp : gn ≠ some pb := fun e => (hg pb e).elim h.ne.glp (fun h2 => by omega)
  refine ⟨hB, by rw [hT.block rb hrb (by rintro (e | e); exact h.ne.lr e.symm; exact h.ne.glr e)]; exact h.r, ?_, hS, h.sr.touch hT (fun b hb => by rintro (e | e); exact h.ne.grl (e ▸ hb); exact h.ne.gg b e hb), ?_, ?_, ?_, ?_, hall, h.ar, hhas, hlen, h.tf⟩
  · rw [hT.block pb hpb (by rintro (e | e); exact h.ne.lp e.symm; exact h.ne.glp e)]; exact h.p
  · refine ⟨h.ne.lr, h.ne.lp, h.ne.rp, gnl, gnr, gnp, h.ne.grl, h.ne.grr, h.ne.grp, ?_⟩
    exact fun b hb e => (hg b hb).elim (fun h2 => h.ne.gg b h2 e) (fun h2 => by have := hoth b e; omega)
  · exact Touch.ext (((h.ext.touch _).trans' hT (fun i _ hi => hi))) (fun i hi e => by
      rcases e with e | e
      · have := h.new.lb; omega
      · have := h.new.gl i e; omega)
  · refine ⟨h.new.lb, h.new.rb, fun b hb => (hg b hb).elim (h.new.gl b) (fun h2 => by omega), h.new.gr⟩
  · refine ⟨fun b hb => Nat.lt_of_lt_of_le (hxs.lt b hb) hT.size, hxs.l, hxs.r, fun b hb e => (hg b e).elim (fun h2 => hxs.gl b hb h2) (fun h2 => by have := hxs.lt b hb; omega), hxs.gr⟩
/-- The list on the right is made anew. -/
theorem NS.right (h : NS w0 F T lb rb pb x W D gl cl Ls gr cr Rs) {W' : World} {gn : Option Nat} {cn : Nat} {Ns : List Int} {D' : List Nat} (hS : ISl W' gn Ns.length cn Ns) (hB : W'.heap[rb]? = some (.cells #[slv gn Ns.length cn] 46 (0, 0))) (hT : Touch (fun k => k = rb ∨ gr = some k) W W')
    (hg : ∀ b, gn = some b → gr = some b ∨ W.heap.size ≤ b) (hall : ∀ y ∈ Ns, (T : Int) ≤ y ∧ y ≤ 1099511627776) (hhas : ∀ y ∈ D', (y < F → (y : Int) ∈ Ls) ∧ (T ≤ y → (y : Int) ∈ Ns)) (hlen : Ls.length + Ns.length ≤ D'.length) :
    NS w0 F T lb rb pb x W' D' gl cl Ls gn cn Ns := by
  have hlb := blk_lt h.l
  have hrb := blk_lt h.r
  have hpb := blk_lt h.p
  have hxs := h.xs
  have hsz := h.ext.size
  have hno := h.l
  have hoth : ∀ b, gl = some b → b < W.heap.size := fun b hb => by
    have := h.sl
    rw [hb] at this
    exact this.block_lt
  have gnl : gn ≠ some lb := fun e => (hg lb e).elim h.ne.grl (fun h2 => by omega)
  have gnr : gn ≠ some rb := fun e => (hg rb e).elim h.ne.grr (fun h2 => by omega)
  have gnp : gn ≠ some pb := fun e => (hg pb e).elim h.ne.grp (fun h2 => by omega)
  refine ⟨by rw [hT.block lb hlb (by rintro (e | e); exact h.ne.lr e; exact h.ne.grl e)]; exact h.l, hB, ?_, h.sl.touch hT (fun b hb => by rintro (e | e); exact h.ne.glr (e ▸ hb); exact h.ne.gg b hb e), hS, ?_, ?_, ?_, ?_, h.al, hall, hhas, hlen, h.tf⟩
  · rw [hT.block pb hpb (by rintro (e | e); exact h.ne.rp e.symm; exact h.ne.grp e)]; exact h.p
  · refine ⟨h.ne.lr, h.ne.lp, h.ne.rp, h.ne.gll, h.ne.glr, h.ne.glp, gnl, gnr, gnp, ?_⟩
    exact fun b hb e => (hg b e).elim (fun h2 => h.ne.gg b hb h2) (fun h2 => by have := hoth b hb; omega)
  · exact Touch.ext (((h.ext.touch _).trans' hT (fun i _ hi => hi))) (fun i hi e => by
      rcases e with e | e
      · have := h.new.rb; omega
      · have := h.new.gr i e; omega)
  · refine ⟨h.new.lb, h.new.rb, h.new.gl, fun b hb => (hg b hb).elim (h.new.gr b) (fun h2 => by omega)⟩
  · refine ⟨fun b hb => Nat.lt_of_lt_of_le (hxs.lt b hb) hT.size, hxs.l, hxs.r, hxs.gl, fun b hb e => (hg b e).elim (fun h2 => hxs.gr b hb h2) (fun h2 => by have := hxs.lt b hb; omega)⟩
/-- A node is put to one list. -/
theorem NS.putL (h : NS w0 F T lb rb pb x W D gl cl Ls gr cr Rs) {y : Nat} (hy : y < F) {g' c' : Nat} {W1 : World} (hS : Sl W1 2 1 (some g') (Ls.length + 1) c' (intsV Ls ++ [.int .i64 (y : Int)])) (hT : Touch (fun k => gl = some k) (W.alloc (.cells #[.int .i64 (y : Int)] 2)) W1) (hat : gl = some g' ∨ g' = W.heap.size + 1) :
    NS w0 F T lb rb pb x (W1.setCell ⟨lb, 0, none⟩ (.slice (some ⟨g', 0, none⟩) (Ls.length + 1) c')) (D ++ [y]) (some g') c' (Ls ++ [(y : Int)]) gr cr Rs := by
  have hl : (Ls ++ [(y : Int)]).length = Ls.length + 1 := by simp
  have hg' : some g' ≠ some lb := by
    intro e; cases e
    rcases hat with e | e
    · exact h.ne.gll e
    · have := blk_lt h.l; omega
  have h1 : W1.heap[lb]? = some (.cells #[slv gl Ls.length cl] 46 (0, 0)) := hT.old (blk_alloc h.l) h.ne.gll
  refine h.left (W' := W1.setCell ⟨lb, 0, none⟩ (.slice (some ⟨g', 0, none⟩) (Ls.length + 1) c')) (Ns := Ls ++ [(y : Int)]) ?_ ?_ ?_ ?_ ?_ ?_ ?_
  · rw [hl]
    have := hS.set_off ⟨lb, 0, none⟩ (.slice (some ⟨g', 0, none⟩) (Ls.length + 1) c') (fun b hb e => hg' (by rw [hb, e]))
    show Sl _ _ _ _ _ _ (intsV _)
    rw [show intsV (Ls ++ [(y : Int)]) = intsV Ls ++ [.int .i64 (y : Int)] from List.map_append ..]
    exact this
  · rw [hl]; exact blk_set h1 0 _
  · exact ((((Ext.refl W).alloc _).touch _).trans' (hT.mono (fun k _ e => .inr e)) (fun _ _ e => e)).setCell (p := ⟨lb, 0, none⟩) (fun _ => .inl rfl) _
  · intro b hb; cases hb
    rcases hat with e | e
    · exact .inl e
    · exact .inr (by omega)
  · intro z hz
    rcases List.mem_append.1 hz with hz | hz
    · exact h.al z hz
    · simp at hz; omega
  · intro z hz
    rcases List.mem_append.1 hz with hz | hz
    · exact ⟨fun h3 => List.mem_append_left _ ((h.has z hz).1 h3), (h.has z hz).2⟩
    · simp at hz; subst hz
      refine ⟨fun _ => by simp, fun h3 => ?_⟩
      have := h.tf; omega
  · have := h.len; simp; omega
theorem NS.putR (h : NS w0 F T lb rb pb x W D gl cl Ls gr cr Rs) {y : Nat} (hy : T ≤ y) (hy2 : y ≤ 1099511627776) {g' c' : Nat} {W1 : World} (hS : Sl W1 2 1 (some g') (Rs.length + 1) c' (intsV Rs ++ [.int .i64 (y : Int)])) (hT : Touch (fun k => gr = some k) (W.alloc (.cells #[.int .i64 (y : Int)] 2)) W1) (hat : gr = some g' ∨ g' = W.heap.size + 1) :
    NS w0 F T lb rb pb x (W1.setCell ⟨rb, 0, none⟩ (.slice (some ⟨g', 0, none⟩) (Rs.length + 1) c')) (D ++ [y]) gl cl Ls (some g') c' (Rs ++ [(y : Int)]) := by
  have hl : (Rs ++ [(y : Int)]).length = Rs.length + 1 := by simp
  have hg' : some g' ≠ some rb := by
    intro e; cases e
    rcases hat with e | e
    · exact h.ne.grr e
    · have := blk_lt h.r; omega
  have h1 : W1.heap[rb]? = some (.cells #[slv gr Rs.length cr] 46 (0, 0)) := hT.old (blk_alloc h.r) h.ne.grr
  refine h.right (W' := W1.setCell ⟨rb, 0, none⟩ (.slice (some ⟨g', 0, none⟩) (Rs.length + 1) c')) (Ns := Rs ++ [(y : Int)]) ?_ ?_ ?_ ?_ ?_ ?_ ?_
  · rw [hl]
    have := hS.set_off ⟨rb, 0, none⟩ (.slice (some ⟨g', 0, none⟩) (Rs.length + 1) c') (fun b hb e => hg' (by rw [hb, e]))
    show Sl _ _ _ _ _ _ (intsV _)
    rw [show intsV (Rs ++ [(y : Int)]) = intsV Rs ++ [.int .i64 (y : Int)] from List.map_append ..]
    exact this
  · rw [hl]; exact blk_set h1 0 _
  · exact ((((Ext.refl W).alloc _).touch _).trans' (hT.mono (fun k _ e => .inr e)) (fun _ _ e => e)).setCell (p := ⟨rb, 0, none⟩) (fun _ => .inl rfl) _
  · intro b hb; cases hb
    rcases hat with e | e
    · exact .inl e
    · exact .inr (by omega)
  · intro z hz
    rcases List.mem_append.1 hz with hz | hz
    · exact h.ar z hz
    · simp at hz; omega
  · intro z hz
    rcases List.mem_append.1 hz with hz | hz
    · exact ⟨(h.has z hz).1, fun h3 => List.mem_append_left _ ((h.has z hz).2 h3)⟩
    · simp at hz; subst hz
      refine ⟨fun h3 => ?_, fun _ => by simp⟩
      have := h.tf; omega
  · have := h.len; simp; omega
end
/-- The nodes that a way must have. -/
def Covers (D : List Nat) (n : Nat) : Prop := 0 ∈ D ∧ ∀ k b, Under n k b → n ≠ bb k b → 2 ^ k * (2 * b + 2) ≤ 1099511627776 → bb k b ∈ D
theorem Covers.mono {D D' : List Nat} {n : Nat} (h : Covers D n) (hs : ∀ x ∈ D, x ∈ D') : Covers D' n := ⟨hs _ h.1, fun k b h1 h2 h3 => hs _ (h.2 k b h1 h2 h3)⟩
end Go.Proofs.Ytkejjahlglldlaa
