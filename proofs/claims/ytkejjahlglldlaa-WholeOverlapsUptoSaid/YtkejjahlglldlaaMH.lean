/- btree.walk: what it gives out; the plain law. No program is walked here. btree.walk: walked, over whatever loop body. btree.Range: what it hands back gives out the keys of its range, in order. WholeOrdered, the plain law: what the tree holds; whose bytes lie in a head's range. No program in sight. -/
import Derived.Test.YtkejjahlglldlaaMF
import Derived.Test.YtkejjahlglldlaaMRgI
import Derived.RangeFuncMany
import Derived.RangeFuncKeeps
import Derived.Test.YtkejjahlglldlaaMD
import Derived.RangeFuncNested
import Derived.RangeFuncBound
import Derived.RangeFuncLeaves
import Derived.Shelf.Abstract
import Derived.Shelf.RegionOpen
import Derived.WalkKit
import Derived.OwnWalkIn
import Derived.TacticsInMore
namespace Go.Proofs.Ytkejjahlglldlaa
open Go.RowKit Go.Lib

/-- What lies from B on in cells lies as it lay. -/
structure KB (B : Nat) (W W' : World) : Prop where
  size : W.heap.size ≤ W'.heap.size
  cells : ∀ k cs t f, B ≤ k → W.heap[k]? = some (.cells cs t f) → W'.heap[k]? = some (.cells cs t f)
theorem KB.refl (B : Nat) (W : World) : KB B W W := ⟨Nat.le_refl _, fun _ _ _ _ _ h => h⟩
theorem KB.trans {B : Nat} {X Y Z : World} (h : KB B X Y) (k : KB B Y Z) : KB B X Z := ⟨Nat.le_trans h.size k.size, fun i cs t f hB hi => k.cells i cs t f hB (h.cells i cs t f hB hi)⟩
theorem KB.drew {B : Nat} {W W' : World} (h : KB B W W') : KB B W W'.drew := ⟨h.size, h.cells⟩
theorem KB.ext {B : Nat} {W W' : World} (h : Ext W W') : KB B W W' := ⟨h.size, fun _ _ _ _ _ hi => Ext.block h hi⟩

def BlkCells (W : World) (x : Nat) : Prop := ∃ cs t f, W.heap[x]? = some (.cells cs t f)
theorem Sl.isCells {w : World} {e : TypeId} {sz n cap : Nat} {g : Option Nat} {xs : List Value} (h : Sl w e sz g n cap xs) : ∀ b, g = some b → BlkCells w b := by
  intro b hb; subst hb
  obtain ⟨_, cur, hb, _⟩ := h
  exact ⟨_, _, _, hb⟩
theorem NodeAt.isCells {W : World} {b : Nat} {es : List Ent} {ps : List Nat} {gk gv gc : Option Nat} {ck cv cc : Nat} (h : NodeAt W b es ps gk gv gc ck cv cc) : ∀ x ∈ ownL b gk gv gc, BlkCells W x := by
  intro x hx
  simp only [ownL, List.mem_cons, List.mem_append, Option.mem_toList] at hx
  rcases hx with rfl | hx | hx | hx
  · exact ⟨_, _, _, h.blk⟩
  · exact h.keys.isCells x hx
  · exact h.vals.isCells x hx
  · exact h.kids.isCells x hx
theorem Rep.isCells {W : World} {m : Nat} : ∀ {h : Nat} {k : Kid}, Rep W m h k → ∀ x ∈ k.bs, BlkCells W x
  | 0, k, ⟨es, gk, gv, gc, ck, cv, cc, h1, h2, h3, h4⟩, x, hx => h1.isCells x (by rw [← h4]; exact hx)
  | h + 1, k, ⟨es, ks, gk, gv, gc, ck, cv, cc, h1, h2, h3, h4, h5, h6⟩, x, hx => by
    rw [h4] at hx
    rcases List.mem_append.1 hx with hx | hx
    · exact h1.isCells x hx
    · obtain ⟨q, hq, hx⟩ := List.mem_flatMap.1 hx
      exact (h6 q hq).1.isCells x hx
theorem Rep.kb {W W' : World} {m h B : Nat} {k : Kid} (hr : Rep W m h k) (hb : ∀ x ∈ k.bs, B ≤ x) (hK : KB B W W') : Rep W' m h k := hr.congr fun x hx => by
  obtain ⟨cs, t, f, h1⟩ := hr.isCells x hx
  rw [h1]; exact hK.cells x cs t f (hb x hx) h1
theorem NodeAt.kb {W W' : World} {B b : Nat} {es : List Ent} {ps : List Nat} {gk gv gc : Option Nat} {ck cv cc : Nat} (h : NodeAt W b es ps gk gv gc ck cv cc) (hb : ∀ x ∈ ownL b gk gv gc, B ≤ x) (hK : KB B W W') : NodeAt W' b es ps gk gv gc ck cv cc := h.congr fun x hx => by
  obtain ⟨cs, t, f, h1⟩ := h.isCells x hx
  rw [h1]; exact hK.cells x cs t f (hb x hx) h1

/-- Is it in the range? -/
def inR (fr to : List UInt8) (e : Ent) : Bool := !(Op.bytesLess e.1 fr) && (decide (to = []) || Op.bytesLess e.1 to)
def sel (fr to : List UInt8) (L : List Ent) : List Ent := L.filter (inR fr to)
def allU (fr to : List UInt8) (L : List Ent) : Prop := ∀ e ∈ L, Op.bytesLess e.1 fr = false → to = [] ∨ blt e.1 to
def over (fr to : List UInt8) (L : List Ent) : Prop := to ≠ [] ∧ ∃ e ∈ L, Op.bytesLess e.1 fr = false ∧ Op.bytesLess e.1 to = false
theorem sel_append (fr to : List UInt8) (A B : List Ent) : sel fr to (A ++ B) = sel fr to A ++ sel fr to B := List.filter_append ..
theorem sel_below {fr to : List UInt8} {A : List Ent} (h : ∀ e ∈ A, blt e.1 fr) : sel fr to A = [] := by
  unfold sel
  rw [List.filter_eq_nil_iff]
  intro e he
  have h1 : Op.bytesLess e.1 fr = true := h e he
  simp [inR, h1]
theorem allU_below {fr to : List UInt8} {A : List Ent} (h : ∀ e ∈ A, blt e.1 fr) : allU fr to A := fun e he hn => by
  have h1 : Op.bytesLess e.1 fr = true := h e he
  rw [h1] at hn; cases hn
theorem allU.append {fr to : List UInt8} {A B : List Ent} (h : allU fr to A) (h2 : allU fr to B) : allU fr to (A ++ B) := fun e he => (List.mem_append.1 he).elim (h e) (h2 e)
theorem over.left {fr to : List UInt8} {A : List Ent} (h : over fr to A) (B : List Ent) : over fr to (A ++ B) := ⟨h.1, let ⟨e, he, h2⟩ := h.2; ⟨e, List.mem_append_left _ he, h2⟩⟩
theorem over.right {fr to : List UInt8} {B : List Ent} (h : over fr to B) (A : List Ent) : over fr to (A ++ B) := ⟨h.1, let ⟨e, he, h2⟩ := h.2; ⟨e, List.mem_append_right _ he, h2⟩⟩
/-- Behind what is over nothing is in the range. -/
theorem sel_over {fr to : List UInt8} {A B : List Ent} (hs : Srt (A ++ B)) (h : over fr to A) : sel fr to B = [] := by
  obtain ⟨h1, e, he, h2, h3⟩ := h
  unfold sel
  rw [List.filter_eq_nil_iff]
  intro b hb
  have h4 := (srt_append.1 hs).2.2 e he b hb
  have h5 : Op.bytesLess b.1 to = false := by
    cases h6 : Op.bytesLess b.1 to with
    | false => rfl
    | true => have := bl_trans _ _ _ h4 h6; rw [h3] at this; cases this
  simp [inR, h1, h5]

/-- The kids' contents, none at a leaf. -/
def lsOf (ks : List Kid) (n : Nat) : List (List Ent) := if ks = [] then List.replicate (n + 1) [] else ks.map Kid.L
theorem inter_empty : ∀ es : List Ent, inter (List.replicate (es.length + 1) []) es = es
  | [] => rfl
  | e :: es => by
    show [] ++ e :: inter (List.replicate (es.length + 1) []) es = e :: es
    rw [inter_empty es]; rfl
theorem lsOf_inter {W : World} {m h : Nat} {ks : List Kid} {es : List Ent} (hk : KidsOk W m h ks es.length) : inter (lsOf ks es.length) es = inter (ks.map Kid.L) es ∧ (lsOf ks es.length).length = es.length + 1 := by
  unfold lsOf
  split
  · rename_i h0
    subst h0
    exact ⟨by rw [inter_empty]; rfl, by simp⟩
  · rename_i h0
    refine ⟨rfl, ?_⟩
    rw [List.length_map]
    cases h with
    | zero => exact absurd hk h0
    | succ h => exact hk.1
theorem pre_snoc : ∀ (P : List (List Ent)) (x : List Ent) (L : List Ent) (e : Ent), P.length = x.length → pre (P ++ [L]) (x ++ [e]) = pre P x ++ (L ++ [e])
  | [], [], L, e, _ => by simp [pre]
  | [], _ :: _, _, _, h => by simp at h
  | _ :: _, [], _, _, h => by simp at h
  | A :: P, a :: x, L, e, h => by
    simp only [List.length_cons, Nat.add_right_cancel_iff] at h
    show A ++ a :: pre (P ++ [L]) (x ++ [e]) = A ++ a :: pre P x ++ (L ++ [e])
    rw [pre_snoc P x L e h]; simp
/-- What stands ahead of the place i. -/
def part (Ls : List (List Ent)) (es : List Ent) (i : Nat) : List Ent := pre (Ls.take i) (es.take i)
theorem part_at {Ls : List (List Ent)} {es : List Ent} {i : Nat} {L : List Ent} (hl : Ls.length = es.length + 1) (hL : Ls[i]? = some L) : inter Ls es = part Ls es i ++ (L ++ suf (Ls.drop (i + 1)) (es.drop i)) := by
  have hi := (List.getElem?_eq_some_iff.1 hL).1
  have h1 : Ls = Ls.take i ++ L :: Ls.drop (i + 1) := by
    conv => lhs; rw [← List.take_append_drop i Ls]
    rw [List.drop_eq_getElem_cons hi, (List.getElem?_eq_some_iff.1 hL).2]
  have h2 := inter_mid' (Ls.take i) (Ls.drop (i + 1)) (es.take i) (es.drop i) L (by simp; omega)
  rw [← h1, List.take_append_drop] at h2
  exact h2
theorem part_succ {Ls : List (List Ent)} {es : List Ent} {i : Nat} {L : List Ent} {e : Ent} (hL : Ls[i]? = some L) (he : es[i]? = some e) : part Ls es (i + 1) = part Ls es i ++ (L ++ [e]) := by
  unfold part
  have h1 := (List.getElem?_eq_some_iff.1 hL).1
  have h2 := (List.getElem?_eq_some_iff.1 he).1
  rw [List.take_add_one, List.take_add_one, hL, he]
  exact pre_snoc _ _ _ _ (by simp; omega)
theorem part_end {Ls : List (List Ent)} {es : List Ent} {L : List Ent} (hl : Ls.length = es.length + 1) (hL : Ls[es.length]? = some L) : inter Ls es = part Ls es es.length ++ L := by
  rw [part_at hl hL, List.drop_length]
  simp [suf]
theorem part_mid {Ls : List (List Ent)} {es : List Ent} {i : Nat} {L : List Ent} {e : Ent} (hl : Ls.length = es.length + 1) (hL : Ls[i]? = some L) (he : es[i]? = some e) : ∃ R, inter Ls es = part Ls es i ++ (L ++ (e :: R)) := by
  refine ⟨inter (Ls.drop (i + 1)) (es.drop (i + 1)), ?_⟩
  rw [part_at hl hL]
  have h2 := (List.getElem?_eq_some_iff.1 he).1
  rw [List.drop_eq_getElem_cons h2, (List.getElem?_eq_some_iff.1 he).2]
  rfl
theorem part_first {Ls : List (List Ent)} {es : List Ent} {fr : List UInt8} (hl : Ls.length = es.length + 1) (hs : Srt (inter Ls es)) : ∀ e ∈ part Ls es (pos fr es), blt e.1 fr := by
  have hp := pos_le fr es
  obtain ⟨L, hL⟩ : ∃ L, Ls[pos fr es]? = some L := ⟨Ls[pos fr es]'(by omega), List.getElem?_eq_getElem _⟩
  rw [part_at hl hL] at hs
  exact pre_lt (by simp; omega) hs (fun e he => pos_lt fr es e he)
end Go.Proofs.Ytkejjahlglldlaa
namespace Go.Proofs.Ytkejjahlglldlaa
open Go.RowKit Go.Lib Go.Shelf

def WPost (fr to : List UInt8) (J Jx : List Ent → World → Prop) (B : Nat) (L : List Ent) (pr : List Ent) (W : World) (e : Ending) (W' : World) : Prop :=
  (e = .returned (.bool true) ∧ J (pr ++ sel fr to L) W' ∧ KB B W W' ∧ allU fr to L) ∨
  (e = .returned (.bool false) ∧ ((J (pr ++ sel fr to L) W' ∧ KB B W W' ∧ over fr to L) ∨ ∃ q, q <+: sel fr to L ∧ Jx (pr ++ q) W'))

theorem prefix_sel {fr to : List UInt8} {A C q : List Ent} (h : q <+: sel fr to C) (D : List Ent) : sel fr to A ++ q <+: sel fr to (A ++ (C ++ D)) := by
  obtain ⟨t, ht⟩ := h
  refine ⟨t ++ sel fr to D, ?_⟩
  rw [sel_append, sel_append, ← ht]; simp

set_option maxRecDepth 100000 in
set_option maxHeartbeats 16000000 in
theorem walk_step (m h B N l : Nat) (hm64 : m ≤ 64) (fr to : List UInt8) (J Jx : List Ent → World → Prop) (hJd : ∀ p W, J p W → J p W.drew)
    (PX : Ent → Prop) (hY : ∀ p x W, PX x → J p W → p.length < N → YieldAt Fence.wide 0 Try.prog l #[str x.1, .int .i64 x.2] W fun e W' => (e = .returned (.bool true) ∧ J (p ++ [x]) W' ∧ KB B W W') ∨ (e = .returned (.bool false) ∧ Jx (p ++ [x]) W'))
    (ih : ∀ h', h = h' + 1 → ∀ (k : Kid) (W : World) (pr : List Ent), Rep W m h' k → k.n + 1 ≤ 2 * m → (∀ x ∈ k.bs, B ≤ x) → Srt k.L → (∀ e ∈ sel fr to k.L, PX e) → J pr W → pr.length + (sel fr to k.L).length ≤ N →
      Calls Try.prog 41 #[.pointer (some ⟨k.b, 0, none⟩), str fr, str to, .func (.yield l) #[] #[]] W (WPost fr to J Jx B k.L pr W))
    (k : Kid) (W : World) (pr : List Ent) (hr : Rep W m h k) (hhi : k.n + 1 ≤ 2 * m) (hB : ∀ x ∈ k.bs, B ≤ x) (hsrt : Srt k.L) (hPX : ∀ e ∈ sel fr to k.L, PX e) (hJ : J pr W) (hN : pr.length + (sel fr to k.L).length ≤ N) :
    Calls Try.prog 41 #[.pointer (some ⟨k.b, 0, none⟩), str fr, str to, .func (.yield l) #[] #[]] W (WPost fr to J Jx B k.L pr W) := by
  obtain ⟨es, ks, gk, gv, gc, ck, cv, cc, h1, h2, h3, h4, h5⟩ := hr.open
  obtain ⟨hl1, hl2⟩ := lsOf_inter h5
  obtain ⟨Ls, hLs⟩ : ∃ Ls, lsOf ks es.length = Ls := ⟨_, rfl⟩
  rw [hLs] at hl1 hl2
  have hes : es.length ≤ 127 := by omega
  have HNA := Lib.hid h1; have HNN := Lib.hid h2; have HBS := Lib.hid h4; have HOK := Lib.hid h5; have IH := Lib.hid ih; have HY := Lib.hid hY; have HJD := Lib.hid hJd; have HB := Lib.hid hB
  have HL := Lib.hid (h3.trans hl1.symm); have HLL := Lib.hid hl2; have HLS := Lib.hid hLs; have HSRT := Lib.hid hsrt; have HJ := Lib.hid hJ; have HN := Lib.hid hN; have HPX := Lib.hid hPX
  have HSN : Hid (Srt es) := by
    have := hsrt
    rw [HL.out] at this
    exact this.node
  have HOB : Hid (∀ x ∈ ownL k.b gk gv gc, B ≤ x) := fun x hx => hB x (by rw [h4]; exact List.mem_append_left _ hx)
  clear h1 h2 h3 h4 h5 ih hY hJd hB hl1 hl2 hLs hsrt hJ hN hr hPX
  have hple := pos_le fr es
  obtain ⟨p, hp⟩ : ∃ p, pos fr es = p := ⟨_, rfl⟩
  rw [hp] at hple
  have HP := Lib.hid hp
  go_enter Try.func41, Try.ntmps41
  go_wp2_with fail
  refine (find_ok HNA.out fr (by omega) HSN.out).mono ?_
  rintro e w' ⟨rfl, rfl⟩
  rw [hp]
  clear hp
  go_wp2
  go_loopg [9] (es.length + 1 - p) (fun r v9 wr => ∃ i : Nat, i + r = es.length + 1 ∧ v9 = .int .i64 (i : Int) ∧ p ≤ i ∧ i ≤ es.length ∧ J (pr ++ sel fr to (part Ls es i)) wr ∧ KB B W wr ∧ allU fr to (part Ls es i))
  case atStart =>
    have hbel := part_first (fr := fr) HLL.out (by rw [← HL.out]; exact HSRT.out)
    rw [HP.out] at hbel
    exact ⟨p, by omega, rfl, Nat.le_refl _, hple, by rw [sel_below hbel, List.append_nil]; exact HJ.out, KB.refl _ _, allU_below hbel⟩
  case round =>
    obtain ⟨i, hir, rfl, hpi, hie, hJi, hKi, hAi⟩ := hrel
    have HJI := Lib.hid hJi; have HKI := Lib.hid hKi; have HAI := Lib.hid hAi; have HIR := Lib.hid hir
    have HPI : Hid (pos fr es ≤ i) := by rw [HP.out]; exact hpi
    clear hJi hKi hAi hir
    have HNR := Lib.hid (HNA.out.kb HOB.out HKI.out)
    obtain ⟨n0, n1, n2⟩ := blk3 HNR.out.blk
    obtain ⟨Lk, hLk⟩ : ∃ Lk, Ls[i]? = some Lk := ⟨Ls[i]'(by have := HLL.out; omega), List.getElem?_eq_getElem _⟩
    have HLK := Lib.hid hLk; clear hLk
    by_cases hks : ks = []
    · have hpk' : decide (ks.map Kid.b = []) = true := decide_eq_true (by rw [hks]; rfl)
      have hLk0 : Lk = [] := by
        have h1 := HLK.out
        rw [← HLS.out, hks] at h1
        simp [lsOf, List.getElem?_replicate] at h1
        exact h1.2
      have HKS := Lib.hid hks; clear hks
      have HNW := HNR
      have HJ2 : Hid (J (pr ++ sel fr to (part Ls es i ++ Lk)) wr) := by rw [hLk0, List.append_nil]; exact HJI.out
      have HK2 : Hid (KB B W wr) := HKI.out
      have HA2 : Hid (allU fr to (part Ls es i ++ Lk)) := by rw [hLk0, List.append_nil]; exact HAI.out
      clear hLk0
      by_cases hin : i = es.length
      · have hin' : ((i : Int) == (es.length : Int)) = true := by simp [hin]
        have HIN := Lib.hid hin; clear hin
        go_wp2_with (first | (go_at_call 34; refine (leaf_ok HNR.out).mono ?_; rintro e w' ⟨rfl, rfl⟩))
        go_ret
        refine .inl ⟨rfl, ?_, HK2.out, ?_⟩
        · rw [HL.out, part_end HLL.out (by rw [← HIN.out]; exact HLK.out), ← HIN.out]; exact HJ2.out
        · rw [HL.out, part_end HLL.out (by rw [← HIN.out]; exact HLK.out), ← HIN.out]; exact HA2.out
      · have hin' : ((i : Int) == (es.length : Int)) = false := by simp; omega
        obtain ⟨x, hx⟩ : ∃ x, es[i]? = some x := ⟨es[i]'(by omega), List.getElem?_eq_getElem _⟩
        have HX := Lib.hid hx; clear hx
        obtain ⟨R, hR⟩ := part_mid HLL.out HLK.out HX.out
        have HR := Lib.hid hR; clear hR
        have HSRT2 : Hid (Srt (part Ls es i ++ (Lk ++ (x :: R)))) := by
          have := HSRT.out
          rw [HL.out, HR.out] at this
          exact this
        have HGE : Hid (Op.bytesLess x.1 fr = false) := by
          refine pos_ge fr es HSN.out x ?_
          rw [List.mem_iff_getElem]
          refine ⟨i - pos fr es, by rw [List.length_drop]; have := HPI.out; omega, ?_⟩
          rw [List.getElem_drop]
          have := (List.getElem?_eq_some_iff.1 HX.out).2
          have h3 : pos fr es + (i - pos fr es) = i := by have := HPI.out; omega
          simp only [h3]; exact this
        go_wp2_with (first | (go_at_call 34; refine (leaf_ok HNR.out).mono ?_; rintro e w' ⟨rfl, rfl⟩))
        clear n0 n1 n2
        obtain ⟨n0, n1, n2⟩ := blk3 HNW.out.blk
        obtain ⟨gkb, hgkb⟩ := HNW.out.keys.some_of_pos (by omega)
        obtain ⟨gvb, hgvb⟩ := HNW.out.vals.some_of_pos (by omega)
        have hks := HNW.out.keys
        have hvs := HNW.out.vals
        rw [hgkb] at hks
        rw [hgvb] at hvs
        have hkc := hks.cell (sK_get HX.out)
        have hvc := hvs.cell (sV_get HX.out)
        have hki := fun U => run_index_slv (P := Try.prog) ei_string (cap := ck) hgkb (j := i) (n := es.length) (by omega) U
        have hvi := fun U => run_index_slv (P := Try.prog) ei_int64 (cap := cv) hgvb (j := i) (n := es.length) (by omega) U
        have HGK := Lib.hid hgkb; have HGV := Lib.hid hgvb
        clear hks hvs hgkb hgvb
        refine (wpIn_wide (n := 1)).1 ?_
        have hlenN : (pr ++ sel fr to (part Ls es i ++ Lk)).length < N ∨ inR fr to x = false := by
          cases hin2 : inR fr to x with
          | false => exact .inr rfl
          | true =>
            left
            have h1 := HN.out
            rw [HL.out, HR.out, ← List.append_assoc, sel_append] at h1
            have h2 : sel fr to (x :: R) = x :: sel fr to R := by unfold sel; rw [List.filter_cons, if_pos hin2]
            rw [h2] at h1
            simp only [List.length_append, List.length_cons] at h1 ⊢
            omega
        have HLN := Lib.hid hlenN; clear hlenN
        have hro : Fence.wide.round = none := rfl
        have hfn : ∀ f, Fence.wide.fn f := fun _ => trivial
        have hdd : ∀ k : Nat, (Fence.wide.depth.isSome = true → 1 ≤ k) := fun k h => by cases h
        by_cases hto : to = []
        · have hemp : (bs to).toList.isEmpty = true := by rw [bs_toList, hto]; rfl
          have hinx : inR fr to x = true := by simp [inR, HGE.out, hto]
          have HINX := Lib.hid hinx; clear hinx
          have HXU : Hid (to = [] ∨ blt x.1 to) := .inl hto
          clear hto
          refine regionI (fun _ => trivial) (by kernel_rfl) [.p 0, .p 1, .p 2, .p 3, .p 4, .p 5, .l 6, .p 7, .p 8, .l 9, .p 10, .h 11 false, .p 12, .p 13, .p 14, .p 15, .p 16, .p 17, .p 18, .l 19, .p 20, .p 21, .l 22, .p 23, .p 24, .p 25, .l 26, .p 27, .p 28, .l 29, .h 30 false, .p 31, .p 32] f_mixed (by kernel_rfl) (by kernel_rfl) ?_
          repeat (first | (refine iplan_p rfl (fun K hK => ?_); go_simp; refine hK _ ?_; clear hK K) | (refine iplan_l rfl (fun K hK => ?_); go_simp; refine hK _ ?_; clear hK K))
          refine iplan_h rfl (fun K hK => ?_)
          gi_wp2
          repeat (first | (refine iplan_p rfl (fun K hK => ?_); go_simp; refine hK _ ?_; clear hK K) | (refine iplan_l rfl (fun K hK => ?_); go_simp; refine hK _ ?_; clear hK K))
          refine iplan_h rfl (fun K hK => ?_)
          obtain ⟨fn, tmps, assign, body, hy, hRd⟩ := HY.out (pr ++ sel fr to (part Ls es i ++ Lk)) x wr.drew (HPX.out x (by
            rw [HL.out, HR.out, sel_append, sel_append]
            refine List.mem_append_right _ (List.mem_append_right _ ?_)
            unfold sel
            rw [List.filter_cons, if_pos HINX.out]
            exact List.mem_cons_self ..)) (HJD.out _ _ HJ2.out) (HLN.out.resolve_right (by rw [HINX.out]; exact Bool.noConfusion))
          gi_wp2
          refine hRd.mono ?_
          clear hRd hy
          rintro e W3 (⟨rfl, hJ3, hK3⟩ | ⟨rfl, hx3⟩)
          · gi_wp2
            repeat (first | (refine iplan_p rfl (fun K hK => ?_); go_simp; refine hK _ ?_; clear hK K) | (refine iplan_l rfl (fun K hK => ?_); go_simp; refine hK _ ?_; clear hK K))
            refine iplan_done ?_
            go_wp2
            go_roundg (gk - 1)
            case measure => have := HIR.out; omega
            case rel =>
              refine ⟨i + 1, by have := HIR.out; omega, by go_num, by omega, by omega, ?_, HK2.out.trans ⟨hK3.size, hK3.cells⟩, ?_⟩
              · rw [part_succ HLK.out HX.out, ← List.append_assoc, sel_append _ _ _ [x]]
                have : sel fr to [x] = [x] := by unfold sel; rw [List.filter_cons, if_pos HINX.out]; rfl
                rw [this, ← List.append_assoc]; exact hJ3
              · rw [part_succ HLK.out HX.out, ← List.append_assoc]
                exact HA2.out.append (fun e he _ => by simp at he; subst he; exact HXU.out)
          · gi_wp2
            repeat (first | (refine iplan_p rfl (fun K hK => ?_); go_simp; refine hK _ ?_; clear hK K) | (refine iplan_l rfl (fun K hK => ?_); go_simp; refine hK _ ?_; clear hK K))
            refine iplan_done ?_
            go_wp2
            go_ret
            refine .inr ⟨rfl, .inr ⟨sel fr to (part Ls es i ++ Lk) ++ [x], ?_, by rw [← List.append_assoc]; exact hx3⟩⟩
            rw [HL.out, HR.out, ← List.append_assoc, sel_append _ _ _ (x :: R)]
            have : sel fr to (x :: R) = [x] ++ sel fr to R := by unfold sel; rw [List.filter_cons, if_pos HINX.out]; rfl
            rw [this, ← List.append_assoc]
            exact List.prefix_append _ _
        · have hemp : (bs to).toList.isEmpty = false := by rw [bs_toList]; simpa using hto
          have HTO := Lib.hid hto; clear hto
          cases hbl : Op.bytesLess x.1 to
          · have hcmp : (0 ≤ Lib.compareBytes x.1 to) := by rw [cmpB_eq, hbl]; simp; split <;> omega
            have HBL := Lib.hid hbl; clear hbl
            refine regionI (fun _ => trivial) (by kernel_rfl) [.p 0, .p 1, .p 2, .p 3, .p 4, .p 5, .l 6, .p 7, .p 8, .l 9, .p 10, .h 11 false, .p 12, .p 13, .p 14, .p 15, .p 16, .p 17, .p 18, .l 19, .p 20, .p 21, .l 22, .p 23, .p 24, .p 25, .l 26, .p 27, .p 28, .l 29, .h 30 false, .p 31, .p 32] f_mixed (by kernel_rfl) (by kernel_rfl) ?_
            repeat (first | (refine iplan_p rfl (fun K hK => ?_); go_simp; refine hK _ ?_; clear hK K) | (refine iplan_l rfl (fun K hK => ?_); go_simp; refine hK _ ?_; clear hK K))
            refine iplan_h rfl (fun K hK => ?_)
            gi_wp2_with (gi_at_call 49; refine (callsIn_wide.2 (strcmp_bs _ _ _)).mono ?_; rintro e w' ⟨rfl, rfl⟩)
            repeat (first | (refine iplan_p rfl (fun K hK => ?_); go_simp; refine hK _ ?_; clear hK K) | (refine iplan_l rfl (fun K hK => ?_); go_simp; refine hK _ ?_; clear hK K))
            refine iplan_h rfl (fun K hK => ?_)
            gi_wp2
            repeat (first | (refine iplan_p rfl (fun K hK => ?_); go_simp; refine hK _ ?_; clear hK K) | (refine iplan_l rfl (fun K hK => ?_); go_simp; refine hK _ ?_; clear hK K))
            refine iplan_done ?_
            go_wp2
            go_ret
            have hov : over fr to [x] := ⟨HTO.out, x, by simp, HGE.out, HBL.out⟩
            have hsx : sel fr to (x :: R) = [] := by
              have h1 : sel fr to [x] = [] := by unfold sel; rw [List.filter_cons, if_neg (by simp [inR, HTO.out, HBL.out])]; rfl
              have h2 := sel_over (A := [x]) (B := R) (srt_append.1 (srt_append.1 HSRT2.out).2.1).2.1 hov
              have h3 : x :: R = [x] ++ R := rfl
              rw [h3, sel_append, h1, h2]; rfl
            refine .inr ⟨rfl, .inl ⟨?_, HK2.out.drew, ?_⟩⟩
            · rw [HL.out, HR.out, ← List.append_assoc, sel_append _ _ _ (x :: R), hsx, List.append_nil]
              exact HJD.out _ _ HJ2.out
            · rw [HL.out, HR.out]
              exact ((hov.left R).right Lk).right _
          · have hcmp : ¬ (0 ≤ Lib.compareBytes x.1 to) := by rw [cmpB_eq, hbl]; simp
            have hinx : inR fr to x = true := by simp [inR, HGE.out, hbl]
            have HINX := Lib.hid hinx; clear hinx
            have HXU : Hid (to = [] ∨ blt x.1 to) := .inr hbl
            clear hbl
            refine regionI (fun _ => trivial) (by kernel_rfl) [.p 0, .p 1, .p 2, .p 3, .p 4, .p 5, .l 6, .p 7, .p 8, .l 9, .p 10, .h 11 false, .p 12, .p 13, .p 14, .p 15, .p 16, .p 17, .p 18, .l 19, .p 20, .p 21, .l 22, .p 23, .p 24, .p 25, .l 26, .p 27, .p 28, .l 29, .h 30 false, .p 31, .p 32] f_mixed (by kernel_rfl) (by kernel_rfl) ?_
            repeat (first | (refine iplan_p rfl (fun K hK => ?_); go_simp; refine hK _ ?_; clear hK K) | (refine iplan_l rfl (fun K hK => ?_); go_simp; refine hK _ ?_; clear hK K))
            refine iplan_h rfl (fun K hK => ?_)
            gi_wp2_with (gi_at_call 49; refine (callsIn_wide.2 (strcmp_bs _ _ _)).mono ?_; rintro e w' ⟨rfl, rfl⟩)
            repeat (first | (refine iplan_p rfl (fun K hK => ?_); go_simp; refine hK _ ?_; clear hK K) | (refine iplan_l rfl (fun K hK => ?_); go_simp; refine hK _ ?_; clear hK K))
            refine iplan_h rfl (fun K hK => ?_)
            obtain ⟨fn, tmps, assign, body, hy, hRd⟩ := HY.out (pr ++ sel fr to (part Ls es i ++ Lk)) x wr.drew (HPX.out x (by
              rw [HL.out, HR.out, sel_append, sel_append]
              refine List.mem_append_right _ (List.mem_append_right _ ?_)
              unfold sel
              rw [List.filter_cons, if_pos HINX.out]
              exact List.mem_cons_self ..)) (HJD.out _ _ HJ2.out) (HLN.out.resolve_right (by rw [HINX.out]; exact Bool.noConfusion))
            gi_wp2
            refine hRd.mono ?_
            clear hRd hy
            rintro e W3 (⟨rfl, hJ3, hK3⟩ | ⟨rfl, hx3⟩)
            · gi_wp2
              repeat (first | (refine iplan_p rfl (fun K hK => ?_); go_simp; refine hK _ ?_; clear hK K) | (refine iplan_l rfl (fun K hK => ?_); go_simp; refine hK _ ?_; clear hK K))
              refine iplan_done ?_
              go_wp2
              go_roundg (gk - 1)
              case measure => have := HIR.out; omega
              case rel =>
                refine ⟨i + 1, by have := HIR.out; omega, by go_num, by omega, by omega, ?_, HK2.out.trans ⟨hK3.size, hK3.cells⟩, ?_⟩
                · rw [part_succ HLK.out HX.out, ← List.append_assoc, sel_append _ _ _ [x]]
                  have : sel fr to [x] = [x] := by unfold sel; rw [List.filter_cons, if_pos HINX.out]; rfl
                  rw [this, ← List.append_assoc]; exact hJ3
                · rw [part_succ HLK.out HX.out, ← List.append_assoc]
                  exact HA2.out.append (fun e he _ => by simp at he; subst he; exact HXU.out)
            · gi_wp2
              repeat (first | (refine iplan_p rfl (fun K hK => ?_); go_simp; refine hK _ ?_; clear hK K) | (refine iplan_l rfl (fun K hK => ?_); go_simp; refine hK _ ?_; clear hK K))
              refine iplan_done ?_
              go_wp2
              go_ret
              refine .inr ⟨rfl, .inr ⟨sel fr to (part Ls es i ++ Lk) ++ [x], ?_, by rw [← List.append_assoc]; exact hx3⟩⟩
              rw [HL.out, HR.out, ← List.append_assoc, sel_append _ _ _ (x :: R)]
              have : sel fr to (x :: R) = [x] ++ sel fr to R := by unfold sel; rw [List.filter_cons, if_pos HINX.out]; rfl
              rw [this, ← List.append_assoc]
              exact List.prefix_append _ _
    · have hpk' : decide (ks.map Kid.b = []) = false := decide_eq_false (by simpa using hks)
      have HKS := Lib.hid hks; clear hks
      obtain ⟨h', hh'⟩ : ∃ h', h = h' + 1 := by
        cases h with
        | zero => exact absurd HOK.out HKS.out
        | succ h' => exact ⟨h', rfl⟩
      subst hh'
      have HKL : Hid (ks.length = es.length + 1) := HOK.out.1
      obtain ⟨y, hy⟩ : ∃ y, ks[i]? = some y := ⟨ks[i]'(by have := HKL.out; omega), List.getElem?_eq_getElem _⟩
      have hym := HOK.out.2 y (List.mem_of_getElem? hy)
      have hyL : Lk = y.L := by
        have h1 := HLK.out
        rw [← HLS.out] at h1
        unfold lsOf at h1
        rw [if_neg HKS.out, List.getElem?_map, hy] at h1
        exact (Option.some.inj h1).symm
      have hyB : ∀ x ∈ y.bs, B ≤ x := fun x hx => HB.out x (by rw [HBS.out]; exact List.mem_append_right _ (List.mem_flatMap.2 ⟨y, List.mem_of_getElem? hy, hx⟩))
      have hyS : Srt y.L := by
        have h1 := HSRT.out
        rw [HL.out, part_at HLL.out HLK.out, hyL] at h1
        exact (srt_append.1 (srt_append.1 h1).2.1).1
      have hyN : (pr ++ sel fr to (part Ls es i)).length + (sel fr to y.L).length ≤ N := by
        have h1 := HN.out
        rw [HL.out, part_at HLL.out HLK.out, hyL, sel_append, sel_append] at h1
        simp only [List.length_append] at h1 ⊢
        omega
      have hyP : ∀ e ∈ sel fr to y.L, PX e := fun e he => HPX.out e (by
        rw [HL.out, part_at HLL.out HLK.out, hyL, sel_append, sel_append]
        exact List.mem_append_right _ (List.mem_append_left _ he))
      obtain ⟨gcb, hgcb⟩ := HNR.out.kids.some_of_pos (by rw [List.length_map]; have := HKL.out; omega)
      have hsc := HNR.out.kids
      rw [hgcb] at hsc
      have hci := hsc.cell (sP_get (show (ks.map Kid.b)[i]? = some y.b by rw [List.getElem?_map, hy]; rfl))
      obtain ⟨kn, hkn⟩ : ∃ kn, (ks.map Kid.b).length = kn := ⟨_, rfl⟩
      have hri := fun U => run_index_slv (P := Try.prog) ei_node (cap := cc) hgcb (j := i) (n := kn) (by rw [← hkn, List.length_map]; have := HKL.out; omega) U
      rw [hkn] at n2
      have HCALL := Lib.hid (IH.out h' rfl y wr (pr ++ sel fr to (part Ls es i)) (hym.1.kb hyB HKI.out) hym.2.2 hyB hyS hyP HJI.out hyN)
      rw [← hyL] at HCALL
      have HYM := Lib.hid hym; have HG := Lib.hid hgcb; have HKN := Lib.hid hkn
      clear hym hgcb hkn hsc hy hyL hyB hyS hyN hyP
      by_cases hin : i = es.length
      · have hin' : ((i : Int) == (es.length : Int)) = true := by simp [hin]
        have HIN := Lib.hid hin; clear hin
        go_wp2_with (first | (go_at_call 34; refine (leaf_ok HNR.out).mono ?_; rintro e w' ⟨rfl, rfl⟩))
        refine HCALL.out.mono ?_
        clear HCALL
        rintro e W2 (⟨rfl, hJ2, hK2, hA2⟩ | ⟨rfl, hF⟩)
        · have HJ2 : Hid (J (pr ++ sel fr to (part Ls es i ++ Lk)) W2) := by rw [sel_append, ← List.append_assoc]; exact hJ2
          have HK2 : Hid (KB B W W2) := HKI.out.trans hK2
          have HA2 : Hid (allU fr to (part Ls es i ++ Lk)) := HAI.out.append hA2
          have HNW := Lib.hid (HNA.out.kb HOB.out HK2.out)
          clear hJ2 hK2 hA2 n0 n1 n2 hci
          obtain ⟨n0, n1, n2⟩ := blk3 HNW.out.blk
          go_wp2
          go_ret
          refine .inl ⟨rfl, ?_, HK2.out, ?_⟩
          · rw [HL.out, part_end HLL.out (by rw [← HIN.out]; exact HLK.out), ← HIN.out]; exact HJ2.out
          · rw [HL.out, part_end HLL.out (by rw [← HIN.out]; exact HLK.out), ← HIN.out]; exact HA2.out
        · clear n0 n1 n2
          go_wp2
          go_ret
          refine .inr ⟨rfl, ?_⟩
          rw [HL.out, part_at HLL.out HLK.out]
          rcases hF with ⟨h1, h2, h3⟩ | ⟨q, h1, h2⟩
          · have h4 : sel fr to (suf (Ls.drop (i + 1)) (es.drop i)) = [] := by
              have h5 := HSRT.out
              rw [HL.out, part_at HLL.out HLK.out] at h5
              exact sel_over (srt_append.1 h5).2.1 h3
            refine .inl ⟨?_, HKI.out.trans h2, (h3.left _).right _⟩
            rw [sel_append, sel_append, h4, List.append_nil, ← List.append_assoc]; exact h1
          · exact .inr ⟨_, prefix_sel h1 _, by rw [← List.append_assoc]; exact h2⟩
      · have hin' : ((i : Int) == (es.length : Int)) = false := by simp; omega
        obtain ⟨x, hx⟩ : ∃ x, es[i]? = some x := ⟨es[i]'(by omega), List.getElem?_eq_getElem _⟩
        have HX := Lib.hid hx; clear hx
        obtain ⟨R, hR⟩ := part_mid HLL.out HLK.out HX.out
        have HR := Lib.hid hR; clear hR
        have HSRT2 : Hid (Srt (part Ls es i ++ (Lk ++ (x :: R)))) := by
          have := HSRT.out
          rw [HL.out, HR.out] at this
          exact this
        have HGE : Hid (Op.bytesLess x.1 fr = false) := by
          refine pos_ge fr es HSN.out x ?_
          rw [List.mem_iff_getElem]
          refine ⟨i - pos fr es, by rw [List.length_drop]; have := HPI.out; omega, ?_⟩
          rw [List.getElem_drop]
          have := (List.getElem?_eq_some_iff.1 HX.out).2
          have h3 : pos fr es + (i - pos fr es) = i := by have := HPI.out; omega
          simp only [h3]; exact this
        go_wp2_with (first | (go_at_call 34; refine (leaf_ok HNR.out).mono ?_; rintro e w' ⟨rfl, rfl⟩))
        refine HCALL.out.mono ?_
        clear HCALL
        rintro e W2 (⟨rfl, hJ2, hK2, hA2⟩ | ⟨rfl, hF⟩)
        · have HJ2 : Hid (J (pr ++ sel fr to (part Ls es i ++ Lk)) W2) := by rw [sel_append, ← List.append_assoc]; exact hJ2
          have HK2 : Hid (KB B W W2) := HKI.out.trans hK2
          have HA2 : Hid (allU fr to (part Ls es i ++ Lk)) := HAI.out.append hA2
          have HNW := Lib.hid (HNA.out.kb HOB.out HK2.out)
          clear hJ2 hK2 hA2 n0 n1 n2 hci
          obtain ⟨n0, n1, n2⟩ := blk3 HNW.out.blk
          go_wp2
          clear n0 n1 n2
          obtain ⟨n0, n1, n2⟩ := blk3 HNW.out.blk
          obtain ⟨gkb, hgkb⟩ := HNW.out.keys.some_of_pos (by omega)
          obtain ⟨gvb, hgvb⟩ := HNW.out.vals.some_of_pos (by omega)
          have hks := HNW.out.keys
          have hvs := HNW.out.vals
          rw [hgkb] at hks
          rw [hgvb] at hvs
          have hkc := hks.cell (sK_get HX.out)
          have hvc := hvs.cell (sV_get HX.out)
          have hki := fun U => run_index_slv (P := Try.prog) ei_string (cap := ck) hgkb (j := i) (n := es.length) (by omega) U
          have hvi := fun U => run_index_slv (P := Try.prog) ei_int64 (cap := cv) hgvb (j := i) (n := es.length) (by omega) U
          have HGK := Lib.hid hgkb; have HGV := Lib.hid hgvb
          clear hks hvs hgkb hgvb
          refine (wpIn_wide (n := 1)).1 ?_
          have hlenN : (pr ++ sel fr to (part Ls es i ++ Lk)).length < N ∨ inR fr to x = false := by
            cases hin2 : inR fr to x with
            | false => exact .inr rfl
            | true =>
              left
              have h1 := HN.out
              rw [HL.out, HR.out, ← List.append_assoc, sel_append] at h1
              have h2 : sel fr to (x :: R) = x :: sel fr to R := by unfold sel; rw [List.filter_cons, if_pos hin2]
              rw [h2] at h1
              simp only [List.length_append, List.length_cons] at h1 ⊢
              omega
          have HLN := Lib.hid hlenN; clear hlenN
          have hro : Fence.wide.round = none := rfl
          have hfn : ∀ f, Fence.wide.fn f := fun _ => trivial
          have hdd : ∀ k : Nat, (Fence.wide.depth.isSome = true → 1 ≤ k) := fun k h => by cases h
          by_cases hto : to = []
          · have hemp : (bs to).toList.isEmpty = true := by rw [bs_toList, hto]; rfl
            have hinx : inR fr to x = true := by simp [inR, HGE.out, hto]
            have HINX := Lib.hid hinx; clear hinx
            have HXU : Hid (to = [] ∨ blt x.1 to) := .inl hto
            clear hto
            refine regionI (fun _ => trivial) (by kernel_rfl) [.p 0, .p 1, .p 2, .p 3, .p 4, .p 5, .l 6, .p 7, .p 8, .l 9, .p 10, .h 11 false, .p 12, .p 13, .p 14, .p 15, .p 16, .p 17, .p 18, .l 19, .p 20, .p 21, .l 22, .p 23, .p 24, .p 25, .l 26, .p 27, .p 28, .l 29, .h 30 false, .p 31, .p 32] f_mixed (by kernel_rfl) (by kernel_rfl) ?_
            repeat (first | (refine iplan_p rfl (fun K hK => ?_); go_simp; refine hK _ ?_; clear hK K) | (refine iplan_l rfl (fun K hK => ?_); go_simp; refine hK _ ?_; clear hK K))
            refine iplan_h rfl (fun K hK => ?_)
            gi_wp2
            repeat (first | (refine iplan_p rfl (fun K hK => ?_); go_simp; refine hK _ ?_; clear hK K) | (refine iplan_l rfl (fun K hK => ?_); go_simp; refine hK _ ?_; clear hK K))
            refine iplan_h rfl (fun K hK => ?_)
            obtain ⟨fn, tmps, assign, body, hy, hRd⟩ := HY.out (pr ++ sel fr to (part Ls es i ++ Lk)) x W2.drew (HPX.out x (by
              rw [HL.out, HR.out, sel_append, sel_append]
              refine List.mem_append_right _ (List.mem_append_right _ ?_)
              unfold sel
              rw [List.filter_cons, if_pos HINX.out]
              exact List.mem_cons_self ..)) (HJD.out _ _ HJ2.out) (HLN.out.resolve_right (by rw [HINX.out]; exact Bool.noConfusion))
            gi_wp2
            refine hRd.mono ?_
            clear hRd hy
            rintro e W3 (⟨rfl, hJ3, hK3⟩ | ⟨rfl, hx3⟩)
            · gi_wp2
              repeat (first | (refine iplan_p rfl (fun K hK => ?_); go_simp; refine hK _ ?_; clear hK K) | (refine iplan_l rfl (fun K hK => ?_); go_simp; refine hK _ ?_; clear hK K))
              refine iplan_done ?_
              go_wp2
              go_roundg (gk - 1)
              case measure => have := HIR.out; omega
              case rel =>
                refine ⟨i + 1, by have := HIR.out; omega, by go_num, by omega, by omega, ?_, HK2.out.trans ⟨hK3.size, hK3.cells⟩, ?_⟩
                · rw [part_succ HLK.out HX.out, ← List.append_assoc, sel_append _ _ _ [x]]
                  have : sel fr to [x] = [x] := by unfold sel; rw [List.filter_cons, if_pos HINX.out]; rfl
                  rw [this, ← List.append_assoc]; exact hJ3
                · rw [part_succ HLK.out HX.out, ← List.append_assoc]
                  exact HA2.out.append (fun e he _ => by simp at he; subst he; exact HXU.out)
            · gi_wp2
              repeat (first | (refine iplan_p rfl (fun K hK => ?_); go_simp; refine hK _ ?_; clear hK K) | (refine iplan_l rfl (fun K hK => ?_); go_simp; refine hK _ ?_; clear hK K))
              refine iplan_done ?_
              go_wp2
              go_ret
              refine .inr ⟨rfl, .inr ⟨sel fr to (part Ls es i ++ Lk) ++ [x], ?_, by rw [← List.append_assoc]; exact hx3⟩⟩
              rw [HL.out, HR.out, ← List.append_assoc, sel_append _ _ _ (x :: R)]
              have : sel fr to (x :: R) = [x] ++ sel fr to R := by unfold sel; rw [List.filter_cons, if_pos HINX.out]; rfl
              rw [this, ← List.append_assoc]
              exact List.prefix_append _ _
          · have hemp : (bs to).toList.isEmpty = false := by rw [bs_toList]; simpa using hto
            have HTO := Lib.hid hto; clear hto
            cases hbl : Op.bytesLess x.1 to
            · have hcmp : (0 ≤ Lib.compareBytes x.1 to) := by rw [cmpB_eq, hbl]; simp; split <;> omega
              have HBL := Lib.hid hbl; clear hbl
              refine regionI (fun _ => trivial) (by kernel_rfl) [.p 0, .p 1, .p 2, .p 3, .p 4, .p 5, .l 6, .p 7, .p 8, .l 9, .p 10, .h 11 false, .p 12, .p 13, .p 14, .p 15, .p 16, .p 17, .p 18, .l 19, .p 20, .p 21, .l 22, .p 23, .p 24, .p 25, .l 26, .p 27, .p 28, .l 29, .h 30 false, .p 31, .p 32] f_mixed (by kernel_rfl) (by kernel_rfl) ?_
              repeat (first | (refine iplan_p rfl (fun K hK => ?_); go_simp; refine hK _ ?_; clear hK K) | (refine iplan_l rfl (fun K hK => ?_); go_simp; refine hK _ ?_; clear hK K))
              refine iplan_h rfl (fun K hK => ?_)
              gi_wp2_with (gi_at_call 49; refine (callsIn_wide.2 (strcmp_bs _ _ _)).mono ?_; rintro e w' ⟨rfl, rfl⟩)
              repeat (first | (refine iplan_p rfl (fun K hK => ?_); go_simp; refine hK _ ?_; clear hK K) | (refine iplan_l rfl (fun K hK => ?_); go_simp; refine hK _ ?_; clear hK K))
              refine iplan_h rfl (fun K hK => ?_)
              gi_wp2
              repeat (first | (refine iplan_p rfl (fun K hK => ?_); go_simp; refine hK _ ?_; clear hK K) | (refine iplan_l rfl (fun K hK => ?_); go_simp; refine hK _ ?_; clear hK K))
              refine iplan_done ?_
              go_wp2
              go_ret
              have hov : over fr to [x] := ⟨HTO.out, x, by simp, HGE.out, HBL.out⟩
              have hsx : sel fr to (x :: R) = [] := by
                have h1 : sel fr to [x] = [] := by unfold sel; rw [List.filter_cons, if_neg (by simp [inR, HTO.out, HBL.out])]; rfl
                have h2 := sel_over (A := [x]) (B := R) (srt_append.1 (srt_append.1 HSRT2.out).2.1).2.1 hov
                have h3 : x :: R = [x] ++ R := rfl
                rw [h3, sel_append, h1, h2]; rfl
              refine .inr ⟨rfl, .inl ⟨?_, HK2.out.drew, ?_⟩⟩
              · rw [HL.out, HR.out, ← List.append_assoc, sel_append _ _ _ (x :: R), hsx, List.append_nil]
                exact HJD.out _ _ HJ2.out
              · rw [HL.out, HR.out]
                exact ((hov.left R).right Lk).right _
            · have hcmp : ¬ (0 ≤ Lib.compareBytes x.1 to) := by rw [cmpB_eq, hbl]; simp
              have hinx : inR fr to x = true := by simp [inR, HGE.out, hbl]
              have HINX := Lib.hid hinx; clear hinx
              have HXU : Hid (to = [] ∨ blt x.1 to) := .inr hbl
              clear hbl
              refine regionI (fun _ => trivial) (by kernel_rfl) [.p 0, .p 1, .p 2, .p 3, .p 4, .p 5, .l 6, .p 7, .p 8, .l 9, .p 10, .h 11 false, .p 12, .p 13, .p 14, .p 15, .p 16, .p 17, .p 18, .l 19, .p 20, .p 21, .l 22, .p 23, .p 24, .p 25, .l 26, .p 27, .p 28, .l 29, .h 30 false, .p 31, .p 32] f_mixed (by kernel_rfl) (by kernel_rfl) ?_
              repeat (first | (refine iplan_p rfl (fun K hK => ?_); go_simp; refine hK _ ?_; clear hK K) | (refine iplan_l rfl (fun K hK => ?_); go_simp; refine hK _ ?_; clear hK K))
              refine iplan_h rfl (fun K hK => ?_)
              gi_wp2_with (gi_at_call 49; refine (callsIn_wide.2 (strcmp_bs _ _ _)).mono ?_; rintro e w' ⟨rfl, rfl⟩)
              repeat (first | (refine iplan_p rfl (fun K hK => ?_); go_simp; refine hK _ ?_; clear hK K) | (refine iplan_l rfl (fun K hK => ?_); go_simp; refine hK _ ?_; clear hK K))
              refine iplan_h rfl (fun K hK => ?_)
              obtain ⟨fn, tmps, assign, body, hy, hRd⟩ := HY.out (pr ++ sel fr to (part Ls es i ++ Lk)) x W2.drew (HPX.out x (by
                rw [HL.out, HR.out, sel_append, sel_append]
                refine List.mem_append_right _ (List.mem_append_right _ ?_)
                unfold sel
                rw [List.filter_cons, if_pos HINX.out]
                exact List.mem_cons_self ..)) (HJD.out _ _ HJ2.out) (HLN.out.resolve_right (by rw [HINX.out]; exact Bool.noConfusion))
              gi_wp2
              refine hRd.mono ?_
              clear hRd hy
              rintro e W3 (⟨rfl, hJ3, hK3⟩ | ⟨rfl, hx3⟩)
              · gi_wp2
                repeat (first | (refine iplan_p rfl (fun K hK => ?_); go_simp; refine hK _ ?_; clear hK K) | (refine iplan_l rfl (fun K hK => ?_); go_simp; refine hK _ ?_; clear hK K))
                refine iplan_done ?_
                go_wp2
                go_roundg (gk - 1)
                case measure => have := HIR.out; omega
                case rel =>
                  refine ⟨i + 1, by have := HIR.out; omega, by go_num, by omega, by omega, ?_, HK2.out.trans ⟨hK3.size, hK3.cells⟩, ?_⟩
                  · rw [part_succ HLK.out HX.out, ← List.append_assoc, sel_append _ _ _ [x]]
                    have : sel fr to [x] = [x] := by unfold sel; rw [List.filter_cons, if_pos HINX.out]; rfl
                    rw [this, ← List.append_assoc]; exact hJ3
                  · rw [part_succ HLK.out HX.out, ← List.append_assoc]
                    exact HA2.out.append (fun e he _ => by simp at he; subst he; exact HXU.out)
              · gi_wp2
                repeat (first | (refine iplan_p rfl (fun K hK => ?_); go_simp; refine hK _ ?_; clear hK K) | (refine iplan_l rfl (fun K hK => ?_); go_simp; refine hK _ ?_; clear hK K))
                refine iplan_done ?_
                go_wp2
                go_ret
                refine .inr ⟨rfl, .inr ⟨sel fr to (part Ls es i ++ Lk) ++ [x], ?_, by rw [← List.append_assoc]; exact hx3⟩⟩
                rw [HL.out, HR.out, ← List.append_assoc, sel_append _ _ _ (x :: R)]
                have : sel fr to (x :: R) = [x] ++ sel fr to R := by unfold sel; rw [List.filter_cons, if_pos HINX.out]; rfl
                rw [this, ← List.append_assoc]
                exact List.prefix_append _ _
        · clear n0 n1 n2
          go_wp2
          go_ret
          refine .inr ⟨rfl, ?_⟩
          rw [HL.out, part_at HLL.out HLK.out]
          rcases hF with ⟨h1, h2, h3⟩ | ⟨q, h1, h2⟩
          · have h4 : sel fr to (suf (Ls.drop (i + 1)) (es.drop i)) = [] := by
              have h5 := HSRT.out
              rw [HL.out, part_at HLL.out HLK.out] at h5
              exact sel_over (srt_append.1 h5).2.1 h3
            refine .inl ⟨?_, HKI.out.trans h2, (h3.left _).right _⟩
            rw [sel_append, sel_append, h4, List.append_nil, ← List.append_assoc]; exact h1
          · exact .inr ⟨_, prefix_sel h1 _, by rw [← List.append_assoc]; exact h2⟩
theorem walk_ok (m B N l : Nat) (hm64 : m ≤ 64) (fr to : List UInt8) (J Jx : List Ent → World → Prop) (hJd : ∀ p W, J p W → J p W.drew)
    (PX : Ent → Prop) (hY : ∀ p x W, PX x → J p W → p.length < N → YieldAt Fence.wide 0 Try.prog l #[str x.1, .int .i64 x.2] W fun e W' => (e = .returned (.bool true) ∧ J (p ++ [x]) W' ∧ KB B W W') ∨ (e = .returned (.bool false) ∧ Jx (p ++ [x]) W')) :
    ∀ (h : Nat) (k : Kid) (W : World) (pr : List Ent), Rep W m h k → k.n + 1 ≤ 2 * m → (∀ x ∈ k.bs, B ≤ x) → Srt k.L → (∀ e ∈ sel fr to k.L, PX e) → J pr W → pr.length + (sel fr to k.L).length ≤ N →
      Calls Try.prog 41 #[.pointer (some ⟨k.b, 0, none⟩), str fr, str to, .func (.yield l) #[] #[]] W (WPost fr to J Jx B k.L pr W)
  | 0, k, W, pr, hr, h1, h2, h3, hp, h4, h5 => walk_step m 0 B N l hm64 fr to J Jx hJd PX hY (fun h' e => by cases e) k W pr hr h1 h2 h3 hp h4 h5
  | h + 1, k, W, pr, hr, h1, h2, h3, hp, h4, h5 => walk_step m (h + 1) B N l hm64 fr to J Jx hJd PX hY (fun h' e k W pr hr h1 h2 h3 hp h4 h5 => by cases e; exact walk_ok m B N l hm64 fr to J Jx hJd PX hY h k W pr hr h1 h2 h3 hp h4 h5) k W pr hr h1 h2 h3 hp h4 h5
end Go.Proofs.Ytkejjahlglldlaa
namespace Go.Proofs.Ytkejjahlglldlaa
open Go.RowKit Go.Lib Go.Shelf

theorem ext_grown {W W' : World} (h : Ext W W') : W.grownBy W' none := ⟨h.os, h.tape, h.output, h.size, fun k hk _ => Below.block h k hk⟩
theorem RoundIn.anyN {m m' : Nat} {P : Program} {l : Nat} {f : FuncId} {tmps : Array Value} {assign body : Code} {w : World} {R : Ending → World → Prop} (h : RoundIn Fence.wide m P l f tmps assign body w R) : RoundIn Fence.wide m' P l f tmps assign body w R :=
  ⟨h.1, fun c cs _ => h.2 c cs (room_wide _)⟩
theorem YieldAt.anyN {m : Nat} (m' : Nat) {P : Program} {l : Nat} {args : Array Value} {W : World} {R : Ending → World → Prop} (h : YieldAt Fence.wide m P l args W R) : YieldAt Fence.wide m' P l args W R := by
  obtain ⟨fn, tmps, assign, body, hy, hR⟩ := h
  exact ⟨fn, tmps, assign, body, hy, RoundIn.anyN hR⟩

/-- What the iterator has captured. -/
structure Caught (w : World) (tb : Nat) (fr to : List UInt8) (b : Nat) : Prop where
  c0 : w.heap[b]? = some (.cells #[.pointer (some ⟨tb, 0, none⟩)] 24 (0, 0))
  c1 : w.heap[b + 1]? = some (.cells #[str fr] 9 (0, 0))
  c2 : w.heap[b + 2]? = some (.cells #[str to] 9 (0, 0))
abbrev iterV (b : Nat) : Value := .func (.func 39) #[] #[.pointer (some ⟨b, 0, none⟩), .pointer (some ⟨b + 1, 0, none⟩), .pointer (some ⟨b + 2, 0, none⟩)]

set_option maxRecDepth 100000 in
set_option maxHeartbeats 2000000 in
theorem Range_ok (tb : Nat) (fr to : List UInt8) (w : World) :
    Calls Try.prog 10 #[.pointer (some ⟨tb, 0, none⟩), str fr, str to] w fun e w' => e = .returned (iterV w.heap.size) ∧ Caught w' tb fr to w.heap.size ∧ Ext w w' := by
  go_enter Try.func10, Try.ntmps10
  go_wp2
  go_ret
  refine ⟨rfl, ⟨?_, ?_, ?_⟩, (((Ext.refl w).alloc _).alloc _).alloc _⟩
  · exact blk_alloc (blk_alloc (blk_new w _))
  · have := blk_new (w.alloc (.cells #[.pointer (some ⟨tb, 0, none⟩)] 24)) (.cells #[str fr] 9)
    rw [World.size_alloc] at this
    exact blk_alloc this
  · have := blk_new ((w.alloc (.cells #[.pointer (some ⟨tb, 0, none⟩)] 24)).alloc (.cells #[str fr] 9)) (.cells #[str to] 9)
    rw [World.size_alloc, World.size_alloc] at this
    exact this

def IterPost (fr to : List UInt8) (L : List Ent) (J Jx : List Ent → World → Prop) (e : Ending) (W' : World) : Prop :=
  (∃ v, e = .returned v) ∧ ((∃ xs, xs = sel fr to L ∧ J xs W') ∨ (∃ pre, pre <+: sel fr to L ∧ Jx pre W'))
set_option maxRecDepth 100000 in
set_option maxHeartbeats 4000000 in
theorem iter_ok (tb m B l b : Nat) (L : List Ent) (bs : List Nat) (fr to : List UInt8) (J Jx : List Ent → World → Prop) (W : World) (hT : TreeAt W tb m L bs) (hC : Caught W tb fr to b) (hB : B ≤ W.heap.size) (hJa : AbidesFrom W.heap.size J)
    (PX : Ent → Prop) (hPX : ∀ e ∈ sel fr to L, PX e) (hY : ∀ p x W, PX x → J p W → p.length < (sel fr to L).length → YieldAt Fence.wide 0 Try.prog l #[str x.1, .int .i64 x.2] W fun e W' => (e = .returned (.bool true) ∧ J (p ++ [x]) W' ∧ KB B W W') ∨ (e = .returned (.bool false) ∧ Jx (p ++ [x]) W')) (h0 : J [] W) :
    Calls Try.prog 39 #[.func (.yield l) #[] #[], .pointer (some ⟨b, 0, none⟩), .pointer (some ⟨b + 1, 0, none⟩), .pointer (some ⟨b + 2, 0, none⟩)] W (IterPost fr to L J Jx) := by
  obtain ⟨rb, H, n, bs', hb, hr, hlo, hhi, hbs⟩ := hT.ex
  obtain ⟨t0, t1, t2⟩ := blk3 hb
  have x0 := blk1 hC.c0
  have x1 := blk1 hC.c1
  have x2 := blk1 hC.c2
  have hJd : ∀ p W', J p W' → J p W'.drew := fun p W' h => hJa p W' _ none h (ext_grown ((Ext.refl W').drew)) (fun r e => by cases e)
  have HR := Lib.hid hr; have HY := Lib.hid hY; have HPX := Lib.hid hPX; have HJA := Lib.hid hJa; have HJD := Lib.hid hJd; have H0 := Lib.hid h0; have HS := Lib.hid hT.srt; have HM := Lib.hid hT.hi; have HBB := Lib.hid hB; have HHI := Lib.hid hhi
  clear hr hY hPX hJa hJd h0 hT hC hB hb hlo hbs hhi
  go_enter Try.func39, Try.ntmps39
  go_wp2
  refine region_calm [.l 0, .p 1, .p 2, .l 3, .l 5, .l 6, .p 7, .h 4 true, .h 8 false] f_mixed (by kernel_rfl) (by kernel_rfl) ?_
  repeat (first | (refine plan_p rfl (fun K hK => ?_); go_simp; refine hK _ ?_; clear hK K) | (refine plan_l rfl (fun K hK => ?_); go_simp; refine hK _ ?_; clear hK K))
  refine plan_ct rfl rfl (fun K _ hK => ?_)
  go_wp2_with fail
  refine (copied_ok m HM.out H ⟨rb, n, L, bs'⟩ W.drew (HR.out.ext (Ext.refl W).drew) HHI.out).mono ?_
  rintro e W2 ⟨k', rfl, hk1, hk2, hk3, hk4, hE⟩
  go_wp2
  refine hK _ _ (hE) ?_; clear hK K
  refine plan_c rfl rfl (fun K _ hK => ?_)
  go_wp2_with fail
  have hJ2 : J [] W2 := HJA.out [] W W2 none H0.out (ext_grown ((Ext.refl W).drew.trans hE)) (fun r e => by cases e)
  have hL : k'.L = L := hk3
  refine (walk_ok m B (sel fr to L).length l HM.out fr to J Jx HJD.out PX HY.out H k' W2 [] hk1 (by rw [hk2]; exact HHI.out) (fun x hx => Nat.le_trans HBB.out (hk4 x hx)) (by rw [hL]; exact HS.out) (by rw [hL]; exact HPX.out) hJ2 (by rw [hL]; simp)).mono ?_
  rw [hL]
  have fin : ∀ (W' : World) (v : Value), ((∃ xs, xs = sel fr to L ∧ J xs W') ∨ (∃ pre, pre <+: sel fr to L ∧ Jx pre W')) → IterPost fr to L J Jx (.returned v) W' := fun W' v h => ⟨⟨v, rfl⟩, h⟩
  have FIN := Lib.hid fin; clear fin
  clear hk1 hk2 hk3 hk4 hJ2 hL t0 t1 t2 x0 x1 x2
  rintro e W3 (⟨rfl, h1, -, -⟩ | ⟨rfl, (⟨h1, -, -⟩ | ⟨q, h1, h2⟩)⟩)
  · have H1 := Lib.hid h1; clear h1
    go_wp2
    refine plan_done ?_
    go_wp2
    (try simp only [Exit.inBlock, Exit.then]); refine bodyPost_end (results_none rfl _ _ _) rfl ?_
    exact FIN.out _ _ (.inl ⟨_, rfl, by simpa using H1.out⟩)
  · have H1 := Lib.hid h1; clear h1
    go_wp2
    refine plan_done ?_
    go_wp2
    (try simp only [Exit.inBlock, Exit.then]); refine bodyPost_end (results_none rfl _ _ _) rfl ?_
    exact FIN.out _ _ (.inl ⟨_, rfl, by simpa using H1.out⟩)
  · have H1 := Lib.hid h1; have H2 := Lib.hid h2; clear h1 h2
    go_wp2
    refine plan_done ?_
    go_wp2
    (try simp only [Exit.inBlock, Exit.then]); refine bodyPost_end (results_none rfl _ _ _) rfl ?_
    exact FIN.out _ _ (.inr ⟨q, H1.out, by simpa using H2.out⟩)

/-- An entry of L. -/
abbrev EntOf (L : List Ent) := { e : Ent // e ∈ L }
abbrev encE {L : List Ent} (e : EntOf L) : Array Value := #[str e.1.1, .int .i64 e.1.2]
theorem Caught.below {w W : World} {tb b : Nat} {fr to : List UInt8} (h : Caught w tb fr to b) (hE : Ext w W) : Caught W tb fr to b := ⟨Ext.block hE h.c0, Ext.block hE h.c1, Ext.block hE h.c2⟩
theorem range_stops (n tb m B b : Nat) (L : List Ent) (bs : List Nat) (fr to : List UInt8) (w : World) (hT : TreeAt w tb m L bs) (hC : Caught w tb fr to b) (hB : B ≤ w.heap.size) :
    SeqStopsK Fence.wide n Try.prog 39 #[.pointer (some ⟨b, 0, none⟩), .pointer (some ⟨b + 1, 0, none⟩), .pointer (some ⟨b + 2, 0, none⟩)] (encE (L := L)) (KB B) (fun ys => ys.map Subtype.val = sel fr to L) (fun p => p.map Subtype.val <+: sel fr to L) (sel fr to L).length w := by
  intro l J Jx W hW hJ hJx hY h0
  refine callsIn_wide.2 ?_
  refine (iter_ok tb m B l b L bs fr to (fun p W => ∃ q : List (EntOf L), q.map Subtype.val = p ∧ J q W) (fun p W => ∃ q : List (EntOf L), q.map Subtype.val = p ∧ Jx q W) W (hT.ext hW) (hC.below hW) (Nat.le_trans hB hW.size)
    (fun p W1 W2 row ⟨q, h1, h2⟩ hg hr => ⟨q, h1, hJ q W1 W2 row h2 hg hr⟩) (fun e => e ∈ L) (fun e he => (List.mem_filter.1 he).1) ?_ ⟨[], rfl, h0⟩).mono ?_
  · rintro p x W1 hx ⟨q, rfl, hq⟩ hlen
    refine YieldAt.mono (YieldAt.anyN 0 (hY q ⟨x, hx⟩ W1 hq (by simpa using hlen))) ?_
    rintro e W' (⟨he, hj, hk⟩ | ⟨he, hj⟩)
    · exact .inl ⟨he, ⟨q ++ [⟨x, hx⟩], by simp, hj⟩, hk⟩
    · exact .inr ⟨he, ⟨q ++ [⟨x, hx⟩], by simp, hj⟩⟩
  · rintro e W' ⟨he, (⟨xs, rfl, q, hq, hj⟩ | ⟨pre, hp, q, hq, hj⟩)⟩
    · exact ⟨he, .inl ⟨q, hq, hj⟩⟩
    · exact ⟨he, .inr ⟨q, (by show q.map Subtype.val <+: _; rw [hq]; exact hp), hj⟩⟩
theorem KB.t {B : Nat} {X Y Z : World} (h : KB B X Y) (k : KB B Y Z) : KB B X Z := h.trans k
theorem KB.b {w : World} (B : Nat) (W : World) (l : Nat) (o o' : Obj) (_ : w.heap.size ≤ l) (h : W.heap[l]? = some o) (hc : o.isCells = false) (_ : o.isWalk = false) : KB B W (W.putObj l o') :=
  have hg := grownBy_putObj' W l o'
  ⟨hg.size, fun k cs t f _ hk => by
    rw [hg.block k (Array.getElem?_eq_some_iff.1 hk).1 (fun e => ?_)]
    · exact hk
    · cases e
      rw [h] at hk
      cases hk
      simp [Obj.isCells] at hc⟩
end Go.Proofs.Ytkejjahlglldlaa
namespace Go.Proofs.Ytkejjahlglldlaa

def okV (v : V) : Prop := checkV v = 0 ∧ -9223372036854775808 ≤ v.2.1 ∧ v.2.1 ≤ 9223372036854775807
/-- The tree behind k rows. -/
def putK (rows : List (List V)) : Nat → List Ent
  | 0 => []
  | k + 1 => match rows[k]? with
    | some row => if checkL row = 0 then ins (encL row) (k : Int) (putK rows k) else putK rows k
    | none => putK rows k
theorem putK_srt (rows : List (List V)) : ∀ k, Srt (putK rows k)
  | 0 => List.Pairwise.nil
  | k + 1 => by
    rw [putK]
    split
    · split
      · exact ins_srt _ _ (putK_srt rows k)
      · exact putK_srt rows k
    · exact putK_srt rows k
theorem putK_mem (rows : List (List V)) : ∀ k, ∀ e ∈ putK rows k, ∃ j row, j < k ∧ rows[j]? = some row ∧ checkL row = 0 ∧ e = (encL row, (j : Int))
  | 0, e, h => by cases h
  | k + 1, e, h => by
    have up : (∃ j row, j < k ∧ rows[j]? = some row ∧ checkL row = 0 ∧ e = (encL row, (j : Int))) → ∃ j row, j < k + 1 ∧ rows[j]? = some row ∧ checkL row = 0 ∧ e = (encL row, (j : Int)) :=
      fun ⟨j, row, h1, h2⟩ => ⟨j, row, by omega, h2⟩
    rw [putK] at h
    split at h
    · rename_i row hrow
      split at h
      · rename_i hc
        rcases mem_ins h with rfl | h
        · exact ⟨k, row, by omega, hrow, hc, rfl⟩
        · exact up (putK_mem rows k e h)
      · exact up (putK_mem rows k e h)
    · exact up (putK_mem rows k e h)
theorem putK_len (rows : List (List V)) : ∀ k, (putK rows k).length ≤ k
  | 0 => Nat.le_refl _
  | k + 1 => by
    have h := putK_len rows k
    rw [putK]
    split
    · split
      · rw [ins_len _ _ (putK_srt rows k)]
        split <;> omega
      · omega
    · omega
theorem bl_nil (x : List UInt8) : Op.bytesLess x [] = false := by cases x <;> rfl
theorem sel_all (L : List Ent) : sel [] [] L = L := by
  unfold sel
  rw [List.filter_eq_self]
  intro e _
  simp [inR, bl_nil]

theorem checkL_ok {vs : List V} (h : checkL vs = 0) (hr : ∀ v ∈ vs, -9223372036854775808 ≤ v.2.1 ∧ v.2.1 ≤ 9223372036854775807) : ∀ v ∈ vs, okV v := fun v hv => ⟨checkL_zero vs h v hv, hr v hv⟩
/-- Two values' bytes differ within both. -/
theorem encV_ne {u v : V} (hu : okV u) (hv : okV v) (h : u ≠ v) : ∃ c, ∀ X Y, Op.bytesLess (encV u ++ X) (encV v ++ Y) = c := by
  rcases checkV_form hu.1 with ⟨n, rfl⟩ | ⟨t, rfl, _⟩ <;> rcases checkV_form hv.1 with ⟨n', rfl⟩ | ⟨t', rfl, _⟩
  · have hne : n ≠ n' := fun e => h (by rw [e])
    have hb : numBE (n + 9223372036854775808).toNat 8 ≠ numBE (n' + 9223372036854775808).toNat 8 := fun e => by
      have e2 := congrArg getN e
      rw [getN_numBE, getN_numBE] at e2
      have h1 : -9223372036854775808 ≤ n ∧ n ≤ 9223372036854775807 := hu.2
      have h2 : -9223372036854775808 ≤ n' ∧ n' ≤ 9223372036854775807 := hv.2
      omega
    refine ⟨Op.bytesLess (1 :: numBE (n + 9223372036854775808).toNat 8) (1 :: numBE (n' + 9223372036854775808).toNat 8), fun X Y => ?_⟩
    exact bl_len (1 :: numBE (n + 9223372036854775808).toNat 8) (1 :: numBE (n' + 9223372036854775808).toNat 8) X Y (by simp [numBE_len]) (fun e => hb (List.cons.inj e).2)
  · exact ⟨true, fun X Y => rfl⟩
  · exact ⟨false, fun X Y => rfl⟩
  · have hne : t ≠ t' := fun e => h (by rw [e])
    refine ⟨Op.bytesLess t t', fun X Y => ?_⟩
    have e1 : ∀ (s Z : List UInt8), encV (2, 0, s) ++ Z = [2] ++ (escT s ++ (0 :: 0 :: Z)) := fun s Z => by simp [encV]
    rw [e1, e1, bl_pre]
    exact bl_esc t t' X Y hne
theorem encV_head {u : V} (hu : okV u) : ∃ x r, encV u = x :: r ∧ x < 255 := by
  rcases checkV_form hu.1 with ⟨n, rfl⟩ | ⟨t, rfl, _⟩
  · exact ⟨1, _, rfl, by decide⟩
  · exact ⟨2, _, rfl, by decide⟩
theorem encL_cons (v : V) (vs : List V) : encL (v :: vs) = encV v ++ encL vs := by simp [encL]
/-- Whose bytes lie from a head's on and below the next. -/
theorem head_range : ∀ (head row : List V), (∀ u ∈ head, okV u) → (∀ u ∈ row, okV u) →
    (!(Op.bytesLess (encL row) (encL head)) && Op.bytesLess (encL row) (encL head ++ [255])) = decide (row.take head.length = head)
  | [], row, _, hr => by
    have h1 : Op.bytesLess (encL row) (encL []) = false := bl_nil _
    rw [h1]
    have h2 : Op.bytesLess (encL row) (encL [] ++ [255]) = true := by
      cases row with
      | nil => rfl
      | cons v vs =>
        obtain ⟨x, r, hx, h5⟩ := encV_head (hr v (by simp))
        rw [encL_cons, hx]
        show Op.bytesLess (x :: (r ++ encL vs)) [255] = true
        rw [bl_cons]; simp [h5]
    rw [h2]; simp
  | h :: hs, [], hh, _ => by
    obtain ⟨x, r, hx, _⟩ := encV_head (hh h (by simp))
    have h1 : Op.bytesLess (encL []) (encL (h :: hs)) = true := by rw [encL_cons, hx]; rfl
    rw [h1]; simp
  | h :: hs, v :: vs, hh, hr => by
    by_cases e : v = h
    · subst e
      rw [encL_cons, encL_cons, List.append_assoc, bl_pre, bl_pre, head_range hs vs (fun u hu => hh u (List.mem_cons_of_mem _ hu)) (fun u hu => hr u (List.mem_cons_of_mem _ hu))]
      simp
    · obtain ⟨c, hc⟩ := encV_ne (hr v (by simp)) (hh h (by simp)) e
      rw [encL_cons, encL_cons, List.append_assoc, hc, hc]
      have : ¬ ((v :: vs).take (h :: hs).length = h :: hs) := by
        simp only [List.length_cons, List.take_succ_cons]
        intro e2
        exact e (List.cons.inj e2).1
      rw [decide_eq_false this]
      cases c <;> rfl
/-- Does a row begin with the head? -/
def begins (head row : List V) : Bool := decide (head.length ≤ row.length) && (decide ((row.take head.length).length = head.length) && (cmpL (row.take head.length) head == 0))
theorem begins_eq (head row : List V) : begins head row = decide (row.take head.length = head) := by
  unfold begins
  by_cases h : row.take head.length = head
  · have hl := congrArg List.length h
    rw [List.length_take] at hl
    have h1 : head.length ≤ row.length := by omega
    rw [h, cmpL_self]
    simp [h1]
  · rw [decide_eq_false h]
    by_cases h1 : head.length ≤ row.length
    · have h2 : ¬ (cmpL (row.take head.length) head = 0) := fun e => h (cmpL_eq _ _ e)
      simp [h2]
    · simp [h1]
theorem inR_begins {head row : List V} (hh : ∀ u ∈ head, okV u) (hr : ∀ u ∈ row, okV u) (j : Int) : inR (encL head) (encL head ++ [255]) (encL row, j) = begins head row := by
  rw [begins_eq, ← head_range head row hh hr]
  simp [inR]
/-- How many of the first entries begin with the head. -/
def cntB (rows : List (List V)) (head : List V) (L : List Ent) : Nat := (L.filter fun e => match rows[e.2.toNat]? with
  | some row => begins head row
  | none => false).length
theorem cnt_sel {rows : List (List V)} {head : List V} (hh : ∀ u ∈ head, okV u) (hr : ∀ row ∈ rows, ∀ u ∈ row, -9223372036854775808 ≤ u.2.1 ∧ u.2.1 ≤ 9223372036854775807) (k : Nat) :
    (sel (encL head) (encL head ++ [255]) (putK rows k)).length = cntB rows head (putK rows k) := by
  unfold sel cntB
  congr 1
  refine List.filter_congr fun e he => ?_
  obtain ⟨j, row, _, h1, h2, rfl⟩ := putK_mem rows k e he
  rw [inR_begins hh (checkL_ok h2 (hr row (List.mem_of_getElem? h1)))]
  simp [h1]
theorem cntB_snoc (rows : List (List V)) (head : List V) (L : List Ent) (e : Ent) {row : List V} (h : rows[e.2.toNat]? = some row) : cntB rows head (L ++ [e]) = cntB rows head L + if begins head row = true then 1 else 0 := by
  unfold cntB
  rw [List.filter_append, List.length_append]
  congr 1
  rw [List.filter_cons]
  simp only [h]
  split <;> rfl
/-- What comes next stands behind. -/
theorem next_behind {rows : List (List V)} {k j : Nat} {p rest : List Ent} {x y : Ent} {us vs : List V} {i : Int} (hr : ∀ row ∈ rows, ∀ u ∈ row, -9223372036854775808 ≤ u.2.1 ∧ u.2.1 ≤ 9223372036854775807) (hp : p ++ [x] ++ (y :: rest) = putK rows k)
    (hx : x = (encL us, i)) (hy : y = (encL vs, (j : Int))) (hu : ∀ u ∈ us, okV u) (hv : ∀ u ∈ vs, okV u) : cmpL us vs < 0 := by
  have hs := putK_srt rows k
  rw [← hp] at hs
  have h1 : blt x.1 y.1 := (srt_append.1 hs).2.2 x (by simp) y (by simp)
  rw [hx, hy] at h1
  have h2 := bl_enc us vs hu hv
  simp only [blt] at h1
  rw [h1] at h2
  simpa using h2.symm
end Go.Proofs.Ytkejjahlglldlaa
