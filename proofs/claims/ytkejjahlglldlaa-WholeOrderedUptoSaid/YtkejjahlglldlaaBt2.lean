/- The tree's plain law, further: a node cut in two, putting in below a kid. No program in sight. -/
import Derived.Test.YtkejjahlglldlaaBtL
namespace Go.Proofs.Ytkejjahlglldlaa

theorem inter_sub : ∀ (Ls : List (List Ent)) (es : List Ent), es.Sublist (inter Ls es)
  | [], es => List.Sublist.refl _
  | L :: Ls, [] => List.nil_sublist _
  | L :: Ls, e :: es => ((inter_sub Ls es).cons_cons e).trans (List.sublist_append_right _ _)
theorem Srt.node {Ls : List (List Ent)} {es : List Ent} (h : Srt (inter Ls es)) : Srt es := List.Pairwise.sublist (inter_sub Ls es) h
theorem inter_mid' (P Q : List (List Ent)) (x y : List Ent) (L : List Ent) (h : P.length = x.length) : inter (P ++ L :: Q) (x ++ y) = pre P x ++ (L ++ suf Q y) := by
  rw [inter_at P x (L :: Q) y h (by simp), inter_cons]
/-- A kid cut in two: the node's contents stay. -/
theorem inter_split (P Q : List (List Ent)) (x y L1 L2 : List Ent) (e : Ent) (h : P.length = x.length) : inter (P ++ L1 :: L2 :: Q) (x ++ e :: y) = inter (P ++ (L1 ++ e :: L2) :: Q) (x ++ y) := by
  rw [inter_mid' _ _ _ _ _ h, inter_mid' _ _ _ _ _ h]
  show pre P x ++ (L1 ++ e :: inter (L2 :: Q) y) = _
  rw [inter_cons]
  simp
/-- A node cut in two, leaf or not. -/
theorem inter_halves {Ls : List (List Ent)} {es : List Ent} {j : Nat} {e : Ent} (he : es[j]? = some e) (hl : Ls = [] ∨ Ls.length = es.length + 1) :
    inter Ls es = inter (Ls.take (j + 1)) (es.take j) ++ e :: inter (Ls.drop (j + 1)) (es.drop (j + 1)) := by
  have hj := (List.getElem?_eq_some_iff.1 he).1
  have h1 : es = es.take j ++ e :: es.drop (j + 1) := by
    conv => lhs; rw [← List.take_append_drop j es]
    rw [List.drop_eq_getElem_cons hj, (List.getElem?_eq_some_iff.1 he).2]
  rcases hl with rfl | hl
  · simp only [List.take_nil, List.drop_nil, inter]
    exact h1
  · have h2 := inter_cut (Ls.take (j + 1)) (es.take j) e (Ls.drop (j + 1)) (es.drop (j + 1)) (by rw [List.length_take, List.length_take]; omega) (by
      intro h; have := congrArg List.length h; rw [List.length_drop] at this; simp at this; omega)
    rw [List.take_append_drop, ← h1] at h2
    exact h2
/-- Putting in below a kid. -/
theorem ins_down {P Q : List (List Ent)} {x y L : List Ent} {k : List UInt8} {v : Int} (h : P.length = x.length) (hs : Srt (inter (P ++ L :: Q) (x ++ y))) (hx : ∀ e ∈ x, blt e.1 k) (hy : ∀ e ∈ y, blt k e.1) :
    ins k v (inter (P ++ L :: Q) (x ++ y)) = pre P x ++ (ins k v L ++ suf Q y) := by
  rw [inter_mid' _ _ _ _ _ h] at hs ⊢
  have h1 : ∀ a ∈ pre P x, blt a.1 k := pre_lt h hs hx
  have h2 : ∀ a ∈ suf Q y, blt k a.1 := by rw [← List.append_assoc] at hs; exact suf_gt hs hy
  rw [ins_left _ h1, ins_right _ h2]
theorem hasK_down {P Q : List (List Ent)} {x y L : List Ent} {k : List UInt8} (h : P.length = x.length) (hs : Srt (inter (P ++ L :: Q) (x ++ y))) (hx : ∀ e ∈ x, blt e.1 k) (hy : ∀ e ∈ y, blt k e.1) :
    hasK k (inter (P ++ L :: Q) (x ++ y)) = hasK k L := by
  rw [inter_mid' _ _ _ _ _ h] at hs ⊢
  have h1 : ∀ a ∈ pre P x, blt a.1 k := pre_lt h hs hx
  have h2 : ∀ a ∈ suf Q y, blt k a.1 := by rw [← List.append_assoc] at hs; exact suf_gt hs hy
  rw [hasK_append, hasK_append, hasK_lt h1, hasK_gt h2]; simp
/-- The key stands in the node itself. -/
theorem ins_here {P Q : List (List Ent)} {x y : List Ent} {k : List UInt8} {v v0 : Int} (h : P.length = x.length) (hs : Srt (inter (P ++ Q) (x ++ (k, v0) :: y))) (hq : Q ≠ []) (hx : ∀ e ∈ x, blt e.1 k) :
    ins k v (inter (P ++ Q) (x ++ (k, v0) :: y)) = inter (P ++ Q) (x ++ (k, v) :: y) ∧ hasK k (inter (P ++ Q) (x ++ (k, v0) :: y)) = true := by
  cases Q with
  | nil => exact absurd rfl hq
  | cons L Q =>
    rw [inter_mid' _ _ _ _ _ h] at hs ⊢
    rw [inter_mid' _ _ _ _ _ h]
    have h1 : ∀ a ∈ pre P x, blt a.1 k := pre_lt h hs hx
    have h3 : Srt (L ++ suf Q ((k, v0) :: y)) := (srt_append.1 hs).2.1
    have h2 : ∀ a ∈ L, blt a.1 k := fun a ha => (srt_append.1 h3).2.2 a ha (k, v0) (by simp [suf])
    constructor
    · rw [ins_left _ h1, ins_left _ h2]
      show _ ++ (L ++ ins k v ((k, v0) :: inter Q y)) = _
      rw [ins, if_pos rfl]; rfl
    · rw [hasK_append, hasK_append]
      have : hasK k (suf Q ((k, v0) :: y)) = true := by simp [suf, hasK]
      rw [this]; simp
theorem ins_leaf {es : List Ent} {k : List UInt8} {v : Int} {i : Nat} (hx : ∀ e ∈ es.take i, blt e.1 k) (hy : ∀ e ∈ es.drop i, blt k e.1) : ins k v es = es.take i ++ (k, v) :: es.drop i ∧ hasK k es = false := by
  constructor
  · conv => lhs; rw [← List.take_append_drop i es]
    rw [ins_left _ hx, ins_head hy]
  · rw [← List.take_append_drop i es, hasK_append, hasK_lt hx, hasK_gt hy]; rfl
theorem ins_leaf_here {x y : List Ent} {k : List UInt8} {v v0 : Int} (hx : ∀ e ∈ x, blt e.1 k) : ins k v (x ++ (k, v0) :: y) = x ++ (k, v) :: y ∧ hasK k (x ++ (k, v0) :: y) = true := by
  constructor
  · rw [ins_left _ hx, ins, if_pos rfl]
  · rw [hasK_append]; simp [hasK]
/-- Is the key at its place? -/
def at_ (k : List UInt8) (es : List Ent) : Bool := match es[pos k es]? with
  | some e => decide (e.1 = k)
  | none => false
theorem at_true {k : List UInt8} {es : List Ent} (h : at_ k es = true) : ∃ v, es[pos k es]? = some (k, v) ∧ es = es.take (pos k es) ++ (k, v) :: es.drop (pos k es + 1) := by
  unfold at_ at h
  split at h
  · rename_i e he
    have h1 := of_decide_eq_true h
    obtain ⟨k', v⟩ := e
    simp at h1
    subst h1
    refine ⟨v, he, ?_⟩
    have hj := (List.getElem?_eq_some_iff.1 he).1
    conv => lhs; rw [← List.take_append_drop (pos k' es) es]
    rw [List.drop_eq_getElem_cons hj, (List.getElem?_eq_some_iff.1 he).2]
  · cases h
theorem at_false {k : List UInt8} {es : List Ent} (h : at_ k es = false) : ∀ e, es[pos k es]? = some e → e.1 ≠ k := by
  intro e he
  unfold at_ at h
  rw [he] at h
  simpa using h
end Go.Proofs.Ytkejjahlglldlaa
