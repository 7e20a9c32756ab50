/- btree.walk: what it gives out; the plain law. No program is walked here. -/
import Derived.Test.YtkejjahlglldlaaBt8
import Derived.Test.YtkejjahlglldlaaRgI
import Derived.RangeFuncMany
import Derived.RangeFuncKeeps
namespace Go.Proofs.Ytkejjahlglldlaa
open Go.RowKit Go.Lib

/-- What lies from B on in cells lies as it lay. -/
structure KB (B : Nat) (W W' : World) : Prop where
  size : W.heap.size ≤ W'.heap.size
  cells : ∀ k cs t f, B ≤ k → W.heap[k]? = some (.cells cs t f) → W'.heap[k]? = some (.cells cs t f)
theorem KB.refl (B : Nat) (W : World) : KB B W W := ⟨Nat.le_refl _, fun _ _ _ _ _ h => h⟩
theorem KB.trans {B : Nat} {X Y Z : World} (h : KB B X Y) (k : KB B Y Z) : KB B X Z := ⟨Nat.le_trans h.size k.size, fun i cs t f hB hi => k.cells i cs t f hB (h.cells i cs t f hB hi)⟩
theorem KB.drew {B : Nat} {W W' : World} (h : KB B W W') : KB B W W'.drew := ⟨h.size, h.cells⟩
theorem KB.ext {B : Nat} {W W' : World} (h : Ext W W') : KB B W W' := ⟨h.size, fun _ _ _ _ _ hi => Ext.block h hi⟩

def BlkCells (W : World) (x : Nat) : Prop := ∃ cs t f, W.heap[x]? = some (.cells cs t f)
theorem Sl.isCells {w : World} {e : TypeId} {sz n cap : Nat} {g : Option Nat} {xs : List Value} (h : Sl w e sz g n cap xs) : ∀ b, g = some b → BlkCells w b := by
  intro b hb; subst hb
  obtain ⟨_, cur, hb, _⟩ := h
  exact ⟨_, _, _, hb⟩
theorem NodeAt.isCells {W : World} {b : Nat} {es : List Ent} {ps : List Nat} {gk gv gc : Option Nat} {ck cv cc : Nat} (h : NodeAt W b es ps gk gv gc ck cv cc) : ∀ x ∈ ownL b gk gv gc, BlkCells W x := by
  intro x hx
  simp only [ownL, List.mem_cons, List.mem_append, Option.mem_toList] at hx
  rcases hx with rfl | hx | hx | hx
  · exact ⟨_, _, _, h.blk⟩
  · exact h.keys.isCells x hx
  · exact h.vals.isCells x hx
  · exact h.kids.isCells x hx
theorem Rep.isCells {W : World} {m : Nat} : ∀ {h : Nat} {k : Kid}, Rep W m h k → ∀ x ∈ k.bs, BlkCells W x
  | 0, k, ⟨es, gk, gv, gc, ck, cv, cc, h1, h2, h3, h4⟩, x, hx => h1.isCells x (by rw [← h4]; exact hx)
  | h + 1, k, ⟨es, ks, gk, gv, gc, ck, cv, cc, h1, h2, h3, h4, h5, h6⟩, x, hx => by
    rw [h4] at hx
    rcases List.mem_append.1 hx with hx | hx
    · exact h1.isCells x hx
    · obtain ⟨q, hq, hx⟩ := List.mem_flatMap.1 hx
      exact (h6 q hq).1.isCells x hx
theorem Rep.kb {W W' : World} {m h B : Nat} {k : Kid} (hr : Rep W m h k) (hb : ∀ x ∈ k.bs, B ≤ x) (hK : KB B W W') : Rep W' m h k := hr.congr fun x hx => by
  obtain ⟨cs, t, f, h1⟩ := hr.isCells x hx
  rw [h1]; exact hK.cells x cs t f (hb x hx) h1
theorem NodeAt.kb {W W' : World} {B b : Nat} {es : List Ent} {ps : List Nat} {gk gv gc : Option Nat} {ck cv cc : Nat} (h : NodeAt W b es ps gk gv gc ck cv cc) (hb : ∀ x ∈ ownL b gk gv gc, B ≤ x) (hK : KB B W W') : NodeAt W' b es ps gk gv gc ck cv cc := h.congr fun x hx => by
  obtain ⟨cs, t, f, h1⟩ := h.isCells x hx
  rw [h1]; exact hK.cells x cs t f (hb x hx) h1

/-- Is it in the range? -/
def inR (fr to : List UInt8) (e : Ent) : Bool := !(Op.bytesLess e.1 fr) && (decide (to = []) || Op.bytesLess e.1 to)
def sel (fr to : List UInt8) (L : List Ent) : List Ent := L.filter (inR fr to)
def allU (fr to : List UInt8) (L : List Ent) : Prop := ∀ e ∈ L, Op.bytesLess e.1 fr = false → to = [] ∨ blt e.1 to
def over (fr to : List UInt8) (L : List Ent) : Prop := to ≠ [] ∧ ∃ e ∈ L, Op.bytesLess e.1 fr = false ∧ Op.bytesLess e.1 to = false
theorem sel_append (fr to : List UInt8) (A B : List Ent) : sel fr to (A ++ B) = sel fr to A ++ sel fr to B := List.filter_append ..
theorem sel_below {fr to : List UInt8} {A : List Ent} (h : ∀ e ∈ A, blt e.1 fr) : sel fr to A = [] := by
  unfold sel
  rw [List.filter_eq_nil_iff]
  intro e he
  have h1 : Op.bytesLess e.1 fr = true := h e he
  simp [inR, h1]
theorem allU_below {fr to : List UInt8} {A : List Ent} (h : ∀ e ∈ A, blt e.1 fr) : allU fr to A := fun e he hn => by
  have h1 : Op.bytesLess e.1 fr = true := h e he
  rw [h1] at hn; cases hn
theorem allU.append {fr to : List UInt8} {A B : List Ent} (h : allU fr to A) (h2 : allU fr to B) : allU fr to (A ++ B) := fun e he => (List.mem_append.1 he).elim (h e) (h2 e)
theorem over.left {fr to : List UInt8} {A : List Ent} (h : over fr to A) (B : List Ent) : over fr to (A ++ B) := ⟨h.1, let ⟨e, he, h2⟩ := h.2; ⟨e, List.mem_append_left _ he, h2⟩⟩
theorem over.right {fr to : List UInt8} {B : List Ent} (h : over fr to B) (A : List Ent) : over fr to (A ++ B) := ⟨h.1, let ⟨e, he, h2⟩ := h.2; ⟨e, List.mem_append_right _ he, h2⟩⟩
/-- Behind what is over nothing is in the range. -/
theorem sel_over {fr to : List UInt8} {A B : List Ent} (hs : Srt (A ++ B)) (h : over fr to A) : sel fr to B = [] := by
  obtain ⟨h1, e, he, h2, h3⟩ := h
  unfold sel
  rw [List.filter_eq_nil_iff]
  intro b hb
  have h4 := (srt_append.1 hs).2.2 e he b hb
  have h5 : Op.bytesLess b.1 to = false := by
    cases h6 : Op.bytesLess b.1 to with
    | false => rfl
    | true => have := bl_trans _ _ _ h4 h6; rw [h3] at this; cases this
  simp [inR, h1, h5]

/-- The kids' contents, none at a leaf. -/
def lsOf (ks : List Kid) (n : Nat) : List (List Ent) := if ks = [] then List.replicate (n + 1) [] else ks.map Kid.L
theorem inter_empty : ∀ es : List Ent, inter (List.replicate (es.length + 1) []) es = es
  | [] => rfl
  | e :: es => by
    show [] ++ e :: inter (List.replicate (es.length + 1) []) es = e :: es
    rw [inter_empty es]; rfl
theorem lsOf_inter {W : World} {m h : Nat} {ks : List Kid} {es : List Ent} (hk : KidsOk W m h ks es.length) : inter (lsOf ks es.length) es = inter (ks.map Kid.L) es ∧ (lsOf ks es.length).length = es.length + 1 := by
  unfold lsOf
  split
  · rename_i h0
    subst h0
    exact ⟨by rw [inter_empty]; rfl, by simp⟩
  · rename_i h0
    refine ⟨rfl, ?_⟩
    rw [List.length_map]
    cases h with
    | zero => exact absurd hk h0
    | succ h => exact hk.1
theorem pre_snoc : ∀ (P : List (List Ent)) (x : List Ent) (L : List Ent) (e : Ent), P.length = x.length → pre (P ++ [L]) (x ++ [e]) = pre P x ++ (L ++ [e])
  | [], [], L, e, _ => by simp [pre]
  | [], _ :: _, _, _, h => by simp at h
  | _ :: _, [], _, _, h => by simp at h
  | A :: P, a :: x, L, e, h => by
    simp only [List.length_cons, Nat.add_right_cancel_iff] at h
    show A ++ a :: pre (P ++ [L]) (x ++ [e]) = A ++ a :: pre P x ++ (L ++ [e])
    rw [pre_snoc P x L e h]; simp
/-- What stands ahead of the place i. -/
def part (Ls : List (List Ent)) (es : List Ent) (i : Nat) : List Ent := pre (Ls.take i) (es.take i)
theorem part_at {Ls : List (List Ent)} {es : List Ent} {i : Nat} {L : List Ent} (hl : Ls.length = es.length + 1) (hL : Ls[i]? = some L) : inter Ls es = part Ls es i ++ (L ++ suf (Ls.drop (i + 1)) (es.drop i)) := by
  have hi := (List.getElem?_eq_some_iff.1 hL).1
  have h1 : Ls = Ls.take i ++ L :: Ls.drop (i + 1) := by
    conv => lhs; rw [← List.take_append_drop i Ls]
    rw [List.drop_eq_getElem_cons hi, (List.getElem?_eq_some_iff.1 hL).2]
  have h2 := inter_mid' (Ls.take i) (Ls.drop (i + 1)) (es.take i) (es.drop i) L (by simp; omega)
  rw [← h1, List.take_append_drop] at h2
  exact h2
theorem part_succ {Ls : List (List Ent)} {es : List Ent} {i : Nat} {L : List Ent} {e : Ent} (hL : Ls[i]? = some L) (he : es[i]? = some e) : part Ls es (i + 1) = part Ls es i ++ (L ++ [e]) := by
  unfold part
  have h1 := (List.getElem?_eq_some_iff.1 hL).1
  have h2 := (List.getElem?_eq_some_iff.1 he).1
  rw [List.take_add_one, List.take_add_one, hL, he]
  exact pre_snoc _ _ _ _ (by simp; omega)
theorem part_end {Ls : List (List Ent)} {es : List Ent} {L : List Ent} (hl : Ls.length = es.length + 1) (hL : Ls[es.length]? = some L) : inter Ls es = part Ls es es.length ++ L := by
  rw [part_at hl hL, List.drop_length]
  simp [suf]
theorem part_mid {Ls : List (List Ent)} {es : List Ent} {i : Nat} {L : List Ent} {e : Ent} (hl : Ls.length = es.length + 1) (hL : Ls[i]? = some L) (he : es[i]? = some e) : ∃ R, inter Ls es = part Ls es i ++ (L ++ (e :: R)) := by
  refine ⟨inter (Ls.drop (i + 1)) (es.drop (i + 1)), ?_⟩
  rw [part_at hl hL]
  have h2 := (List.getElem?_eq_some_iff.1 he).1
  rw [List.drop_eq_getElem_cons h2, (List.getElem?_eq_some_iff.1 he).2]
  rfl
theorem part_first {Ls : List (List Ent)} {es : List Ent} {fr : List UInt8} (hl : Ls.length = es.length + 1) (hs : Srt (inter Ls es)) : ∀ e ∈ part Ls es (pos fr es), blt e.1 fr := by
  have hp := pos_le fr es
  obtain ⟨L, hL⟩ : ∃ L, Ls[pos fr es]? = some L := ⟨Ls[pos fr es]'(by omega), List.getElem?_eq_getElem _⟩
  rw [part_at hl hL] at hs
  exact pre_lt (by simp; omega) hs (fun e he => pos_lt fr es e he)
end Go.Proofs.Ytkejjahlglldlaa
