/- The plain law of a tree of bounded nodes: contents, putting in, giving out. No program in sight. The tree's plain law, further: a node cut in two, putting in below a kid. No program in sight. A tree of bounded nodes in memory: what a world holds of it; places to come back to. slices.Clone at texts, numbers, nodes; slices.BinarySearch at texts: walked. slices.BinarySearch at texts; a node's find and leaf; sizes.most: walked. -/
import Derived.Test.YtkejjahlglldlaaMB2
import Derived.Test.YtkejjahlglldlaaMIns
import Derived.Test.YtkejjahlglldlaaMC
namespace Go.Proofs.Ytkejjahlglldlaa

abbrev Ent := List UInt8 × Int
abbrev blt (x y : List UInt8) : Prop := Op.bytesLess x y = true
def ins (k : List UInt8) (v : Int) : List Ent → List Ent
  | [] => [(k, v)]
  | e :: r => if e.1 = k then (k, v) :: r else if Op.bytesLess k e.1 = true then (k, v) :: e :: r else e :: ins k v r
def Srt (l : List Ent) : Prop := l.Pairwise fun a b => blt a.1 b.1
def hasK (k : List UInt8) (l : List Ent) : Bool := l.any fun e => e.1 == k

theorem blt_ne {x y : List UInt8} (h : blt x y) : x ≠ y := fun e => by subst e; rw [blt, bytesLess_self] at h; cases h
theorem blt_not {x y : List UInt8} (h : blt x y) : Op.bytesLess y x = false := bl_asymm x y h

theorem ins_left {k : List UInt8} {v : Int} : ∀ {A : List Ent} (L : List Ent), (∀ a ∈ A, blt a.1 k) → ins k v (A ++ L) = A ++ ins k v L
  | [], _, _ => rfl
  | a :: A, L, h => by
    have h1 := h a (List.mem_cons_self ..)
    show ins k v (a :: (A ++ L)) = _
    rw [ins, if_neg (blt_ne h1), if_neg (by rw [blt_not h1]; exact Bool.false_ne_true), ins_left L fun x hx => h x (List.mem_cons_of_mem _ hx)]
    rfl
theorem ins_head {k : List UInt8} {v : Int} : ∀ {B : List Ent}, (∀ b ∈ B, blt k b.1) → ins k v B = (k, v) :: B
  | [], _ => rfl
  | b :: B, h => by
    have h1 := h b (List.mem_cons_self ..)
    rw [ins, if_neg (fun e => blt_ne h1 e.symm), if_pos h1]
theorem ins_right {k : List UInt8} {v : Int} : ∀ (L : List Ent) {B : List Ent}, (∀ b ∈ B, blt k b.1) → ins k v (L ++ B) = ins k v L ++ B
  | [], B, h => ins_head h
  | e :: L, B, h => by
    show ins k v (e :: (L ++ B)) = _
    rw [ins, ins, ins_right L h]
    split
    · rfl
    · split <;> rfl
theorem hasK_append (k : List UInt8) (A B : List Ent) : hasK k (A ++ B) = (hasK k A || hasK k B) := List.any_append ..
theorem hasK_lt {k : List UInt8} {A : List Ent} (h : ∀ a ∈ A, blt a.1 k) : hasK k A = false := by
  unfold hasK
  rw [List.any_eq_false]
  intro a ha
  have := blt_ne (h a ha)
  simpa using this
theorem hasK_gt {k : List UInt8} {A : List Ent} (h : ∀ a ∈ A, blt k a.1) : hasK k A = false := by
  unfold hasK
  rw [List.any_eq_false]
  intro a ha
  have := blt_ne (h a ha)
  simpa using fun e => this e.symm
theorem ins_len (k : List UInt8) (v : Int) : ∀ {L : List Ent}, Srt L → (ins k v L).length = if hasK k L = true then L.length else L.length + 1
  | [], _ => rfl
  | e :: L, h => by
    obtain ⟨h1, h2⟩ := List.pairwise_cons.1 h
    rw [ins]
    by_cases he : e.1 = k
    · subst he
      rw [if_pos rfl]
      have : hasK e.1 (e :: L) = true := by simp [hasK]
      rw [if_pos this]; rfl
    · have hh : hasK k (e :: L) = hasK k L := by
        show ((e.1 == k) || hasK k L) = hasK k L
        have : (e.1 == k) = false := by simpa using he
        rw [this]; rfl
      rw [if_neg he, hh]
      by_cases hl : Op.bytesLess k e.1 = true
      · rw [if_pos hl]
        have : hasK k L = false := hasK_gt fun a ha => bl_trans _ _ _ hl (h1 a ha)
        rw [this]; rfl
      · rw [if_neg hl, List.length_cons, ins_len k v h2]
        split <;> rfl
theorem mem_ins {k : List UInt8} {v : Int} : ∀ {L : List Ent} {x : Ent}, x ∈ ins k v L → x = (k, v) ∨ x ∈ L
  | [], x, h => by rw [ins] at h; simpa using h
  | e :: L, x, h => by
    rw [ins] at h
    split at h
    · rcases List.mem_cons.1 h with h | h
      · exact .inl h
      · exact .inr (List.mem_cons_of_mem _ h)
    · split at h
      · rcases List.mem_cons.1 h with h | h
        · exact .inl h
        · exact .inr h
      · rcases List.mem_cons.1 h with h | h
        · exact .inr (h ▸ List.mem_cons_self ..)
        · rcases mem_ins h with h | h
          · exact .inl h
          · exact .inr (List.mem_cons_of_mem _ h)
theorem ins_srt (k : List UInt8) (v : Int) : ∀ {L : List Ent}, Srt L → Srt (ins k v L)
  | [], _ => by rw [ins]; exact List.pairwise_singleton _ _
  | e :: L, h => by
    obtain ⟨h1, h2⟩ := List.pairwise_cons.1 h
    rw [ins]
    by_cases he : e.1 = k
    · subst he
      rw [if_pos rfl]
      exact List.pairwise_cons.2 ⟨h1, h2⟩
    · rw [if_neg he]
      by_cases hl : Op.bytesLess k e.1 = true
      · rw [if_pos hl]
        refine List.pairwise_cons.2 ⟨fun a ha => ?_, h⟩
        rcases List.mem_cons.1 ha with rfl | ha
        · exact hl
        · exact bl_trans _ _ _ hl (h1 a ha)
      · rw [if_neg hl]
        refine List.pairwise_cons.2 ⟨fun a ha => ?_, ins_srt k v h2⟩
        rcases mem_ins ha with rfl | ha
        · exact bl_total _ _ (fun e => he e.symm) (by simpa using hl)
        · exact h1 a ha

/-- The contents of a node: its kids' contents with its own between them. -/
def inter : List (List Ent) → List Ent → List Ent
  | [], es => es
  | L :: _, [] => L
  | L :: Ls, e :: es => L ++ e :: inter Ls es
/-- What stands ahead of a kid. -/
def pre : List (List Ent) → List Ent → List Ent
  | L :: Ls, e :: es => L ++ e :: pre Ls es
  | _, _ => []
/-- What stands behind a kid. -/
def suf : List (List Ent) → List Ent → List Ent
  | _, [] => []
  | Ls, e :: es => e :: inter Ls es
theorem inter_cons (L : List Ent) (Ls : List (List Ent)) (es : List Ent) : inter (L :: Ls) es = L ++ suf Ls es := by
  cases es with
  | nil => simp [inter, suf]
  | cons e es => rfl
theorem inter_at : ∀ (P : List (List Ent)) (x : List Ent) (Q : List (List Ent)) (y : List Ent), P.length = x.length → Q ≠ [] → inter (P ++ Q) (x ++ y) = pre P x ++ inter Q y
  | [], [], Q, y, _, _ => rfl
  | [], _ :: _, _, _, h, _ => by simp at h
  | _ :: _, [], _, _, h, _ => by simp at h
  | L :: P, e :: x, Q, y, h, hq => by
    simp only [List.length_cons, Nat.add_right_cancel_iff] at h
    show L ++ e :: inter (P ++ Q) (x ++ y) = L ++ e :: pre P x ++ inter Q y
    rw [inter_at P x Q y h hq]
    simp
/-- A node cut in two. -/
theorem inter_cut : ∀ (A : List (List Ent)) (x : List Ent) (e : Ent) (B : List (List Ent)) (y : List Ent), A.length = x.length + 1 → B ≠ [] → inter (A ++ B) (x ++ e :: y) = inter A x ++ e :: inter B y
  | [], _, _, _, _, h, _ => by simp at h
  | [L], [], e, B, y, _, _ => by simp [inter]
  | _ :: _ :: _, [], _, _, _, h, _ => by simp at h
  | L :: A, e' :: x, e, B, y, h, hb => by
    simp only [List.length_cons, Nat.add_right_cancel_iff] at h
    show L ++ e' :: inter (A ++ B) (x ++ e :: y) = L ++ e' :: inter A x ++ e :: inter B y
    rw [inter_cut A x e B y h hb]
    simp
theorem pre_last : ∀ (P : List (List Ent)) (x : List Ent) (e : Ent), P.length = x.length + 1 → ∃ X, pre P (x ++ [e]) = X ++ [e]
  | [], _, _, h => by simp at h
  | [L], [], e, _ => ⟨L, rfl⟩
  | _ :: _ :: _, [], _, h => by simp at h
  | L :: P, e' :: x, e, h => by
    simp only [List.length_cons, Nat.add_right_cancel_iff] at h
    obtain ⟨X, hX⟩ := pre_last P x e h
    refine ⟨L ++ e' :: X, ?_⟩
    show L ++ e' :: pre P (x ++ [e]) = _
    rw [hX]; simp
theorem srt_append {A B : List Ent} : Srt (A ++ B) ↔ Srt A ∧ Srt B ∧ ∀ a ∈ A, ∀ b ∈ B, blt a.1 b.1 := List.pairwise_append
/-- All ahead of a place stand ahead of the key. -/
theorem pre_lt {P : List (List Ent)} {x R : List Ent} {k : List UInt8} (hl : P.length = x.length) (hs : Srt (pre P x ++ R)) (hx : ∀ e ∈ x, blt e.1 k) : ∀ a ∈ pre P x, blt a.1 k := by
  rcases List.eq_nil_or_concat x with rfl | ⟨x', e, rfl⟩
  · cases P with
    | nil => intro a ha; simp [pre] at ha
    | cons _ _ => simp at hl
  · rw [List.concat_eq_append] at *
    obtain ⟨X, hX⟩ := pre_last P x' e (by simpa using hl)
    have he := hx e (by simp)
    rw [hX] at hs ⊢
    intro a ha
    rcases List.mem_append.1 ha with ha | ha
    · have := (srt_append.1 (srt_append.1 hs).1).2.2 a ha e (by simp)
      exact bl_trans _ _ _ this he
    · simp at ha; subst ha; exact he
/-- All behind a place stand behind the key. -/
theorem suf_gt {Q : List (List Ent)} {y R : List Ent} {k : List UInt8} (hs : Srt (R ++ suf Q y)) (hy : ∀ e ∈ y, blt k e.1) : ∀ a ∈ suf Q y, blt k a.1 := by
  cases y with
  | nil => intro a ha; simp [suf] at ha
  | cons e y =>
    have he := hy e (List.mem_cons_self ..)
    intro a ha
    have h2 := (srt_append.1 hs).2.1
    rcases List.mem_cons.1 ha with rfl | ha
    · exact he
    · exact bl_trans _ _ _ he ((List.pairwise_cons.1 h2).1 a ha)

/-- The place of a key among the keys: so many stand ahead of it. -/
def pos (k : List UInt8) : List Ent → Nat
  | [] => 0
  | e :: r => if Op.bytesLess e.1 k = true then pos k r + 1 else 0
theorem pos_le (k : List UInt8) : ∀ es, pos k es ≤ es.length
  | [] => Nat.le_refl _
  | e :: r => by
    rw [pos]; split
    · have := pos_le k r; simp; omega
    · omega
theorem pos_lt (k : List UInt8) : ∀ (es : List Ent) (e : Ent), e ∈ es.take (pos k es) → blt e.1 k
  | [], e, h => by simp at h
  | x :: r, e, h => by
    rw [pos] at h
    split at h
    · rename_i hx
      rw [List.take_succ_cons] at h
      rcases List.mem_cons.1 h with rfl | h
      · exact hx
      · exact pos_lt k r e h
    · simp at h
theorem pos_ge (k : List UInt8) : ∀ (es : List Ent), Srt es → ∀ e ∈ es.drop (pos k es), Op.bytesLess e.1 k = false
  | [], _, e, h => by simp at h
  | x :: r, hs, e, h => by
    obtain ⟨h1, h2⟩ := List.pairwise_cons.1 hs
    rw [pos] at h
    split at h
    · rw [List.drop_succ_cons] at h
      exact pos_ge k r h2 e h
    · rename_i hx
      rw [List.drop_zero] at h
      cases he : Op.bytesLess e.1 k with
      | false => rfl
      | true =>
        rcases List.mem_cons.1 h with rfl | h
        · exact absurd he hx
        · exact absurd (bl_trans _ _ _ (h1 e h) he) hx
/-- The place is found by its being between. -/
theorem pos_unique (k : List UInt8) {es : List Ent} {i : Nat} (hi : i ≤ es.length) (h1 : ∀ e ∈ es.take i, blt e.1 k) (h2 : ∀ e, es[i]? = some e → Op.bytesLess e.1 k = false) : i = pos k es := by
  induction es generalizing i with
  | nil => simp at hi; subst hi; rfl
  | cons x r ih =>
    cases i with
    | zero =>
      have := h2 x rfl
      rw [pos, this]; rfl
    | succ i =>
      have hx := h1 x (by simp)
      rw [pos, if_pos hx]
      have := ih (i := i) (by simpa using hi) (fun e he => h1 e (by rw [List.take_succ_cons]; exact List.mem_cons_of_mem _ he)) (fun e he => h2 e (by simpa using he))
      omega
/-- Keys behind the place that aren't the key stand behind it. -/
theorem pos_gt (k : List UInt8) {es : List Ent} (hs : Srt es) (hn : ∀ e, es[pos k es]? = some e → e.1 ≠ k) : ∀ e ∈ es.drop (pos k es), blt k e.1 := by
  intro e he
  have h1 := pos_ge k es hs e he
  refine bl_total _ _ (fun h => ?_) h1
  obtain ⟨j, hj, rfl⟩ := List.getElem_of_mem he
  rw [List.getElem_drop] at h
  have hj' : pos k es + j < es.length := by rw [List.length_drop] at hj; omega
  cases j with
  | zero => exact hn _ (List.getElem?_eq_getElem (by omega)) (by simpa using h)
  | succ j =>
    have h0 : pos k es < es.length := by omega
    have h3 := pos_ge k es hs (es[pos k es]) (by
      rw [List.mem_iff_getElem]; exact ⟨0, by rw [List.length_drop]; omega, by rw [List.getElem_drop]; simp⟩)
    have h4 := (List.pairwise_iff_getElem.1 hs) (pos k es) (pos k es + (j + 1)) h0 hj' (by omega)
    have h5 : ∀ z : List UInt8, z = k → blt es[pos k es].1 z → blt es[pos k es].1 k := fun z hz hb => hz ▸ hb
    replace h5 := h5 _ h h4
    rw [blt, h3] at h5; cases h5

end Go.Proofs.Ytkejjahlglldlaa
namespace Go.Proofs.Ytkejjahlglldlaa

theorem inter_sub : ∀ (Ls : List (List Ent)) (es : List Ent), es.Sublist (inter Ls es)
  | [], es => List.Sublist.refl _
  | L :: Ls, [] => List.nil_sublist _
  | L :: Ls, e :: es => ((inter_sub Ls es).cons_cons e).trans (List.sublist_append_right _ _)
theorem Srt.node {Ls : List (List Ent)} {es : List Ent} (h : Srt (inter Ls es)) : Srt es := List.Pairwise.sublist (inter_sub Ls es) h
theorem inter_mid' (P Q : List (List Ent)) (x y : List Ent) (L : List Ent) (h : P.length = x.length) : inter (P ++ L :: Q) (x ++ y) = pre P x ++ (L ++ suf Q y) := by
  rw [inter_at P x (L :: Q) y h (by simp), inter_cons]
/-- A kid cut in two: the node's contents stay. -/
theorem inter_split (P Q : List (List Ent)) (x y L1 L2 : List Ent) (e : Ent) (h : P.length = x.length) : inter (P ++ L1 :: L2 :: Q) (x ++ e :: y) = inter (P ++ (L1 ++ e :: L2) :: Q) (x ++ y) := by
  rw [inter_mid' _ _ _ _ _ h, inter_mid' _ _ _ _ _ h]
  show pre P x ++ (L1 ++ e :: inter (L2 :: Q) y) = _
  rw [inter_cons]
  simp
/-- A node cut in two, leaf or not. -/
theorem inter_halves {Ls : List (List Ent)} {es : List Ent} {j : Nat} {e : Ent} (he : es[j]? = some e) (hl : Ls = [] ∨ Ls.length = es.length + 1) :
    inter Ls es = inter (Ls.take (j + 1)) (es.take j) ++ e :: inter (Ls.drop (j + 1)) (es.drop (j + 1)) := by
  have hj := (List.getElem?_eq_some_iff.1 he).1
  have h1 : es = es.take j ++ e :: es.drop (j + 1) := by
    conv => lhs; rw [← List.take_append_drop j es]
    rw [List.drop_eq_getElem_cons hj, (List.getElem?_eq_some_iff.1 he).2]
  rcases hl with rfl | hl
  · simp only [List.take_nil, List.drop_nil, inter]
    exact h1
  · have h2 := inter_cut (Ls.take (j + 1)) (es.take j) e (Ls.drop (j + 1)) (es.drop (j + 1)) (by rw [List.length_take, List.length_take]; omega) (by
      intro h; have := congrArg List.length h; rw [List.length_drop] at this; simp at this; omega)
    rw [List.take_append_drop, ← h1] at h2
    exact h2
/-- Putting in below a kid. -/
theorem ins_down {P Q : List (List Ent)} {x y L : List Ent} {k : List UInt8} {v : Int} (h : P.length = x.length) (hs : Srt (inter (P ++ L :: Q) (x ++ y))) (hx : ∀ e ∈ x, blt e.1 k) (hy : ∀ e ∈ y, blt k e.1) :
    ins k v (inter (P ++ L :: Q) (x ++ y)) = pre P x ++ (ins k v L ++ suf Q y) := by
  rw [inter_mid' _ _ _ _ _ h] at hs ⊢
  have h1 : ∀ a ∈ pre P x, blt a.1 k := pre_lt h hs hx
  have h2 : ∀ a ∈ suf Q y, blt k a.1 := by rw [← List.append_assoc] at hs; exact suf_gt hs hy
  rw [ins_left _ h1, ins_right _ h2]
theorem hasK_down {P Q : List (List Ent)} {x y L : List Ent} {k : List UInt8} (h : P.length = x.length) (hs : Srt (inter (P ++ L :: Q) (x ++ y))) (hx : ∀ e ∈ x, blt e.1 k) (hy : ∀ e ∈ y, blt k e.1) :
    hasK k (inter (P ++ L :: Q) (x ++ y)) = hasK k L := by
  rw [inter_mid' _ _ _ _ _ h] at hs ⊢
  have h1 : ∀ a ∈ pre P x, blt a.1 k := pre_lt h hs hx
  have h2 : ∀ a ∈ suf Q y, blt k a.1 := by rw [← List.append_assoc] at hs; exact suf_gt hs hy
  rw [hasK_append, hasK_append, hasK_lt h1, hasK_gt h2]; simp
/-- The key stands in the node itself. -/
theorem ins_here {P Q : List (List Ent)} {x y : List Ent} {k : List UInt8} {v v0 : Int} (h : P.length = x.length) (hs : Srt (inter (P ++ Q) (x ++ (k, v0) :: y))) (hq : Q ≠ []) (hx : ∀ e ∈ x, blt e.1 k) :
    ins k v (inter (P ++ Q) (x ++ (k, v0) :: y)) = inter (P ++ Q) (x ++ (k, v) :: y) ∧ hasK k (inter (P ++ Q) (x ++ (k, v0) :: y)) = true := by
  cases Q with
  | nil => exact absurd rfl hq
  | cons L Q =>
    rw [inter_mid' _ _ _ _ _ h] at hs ⊢
    rw [inter_mid' _ _ _ _ _ h]
    have h1 : ∀ a ∈ pre P x, blt a.1 k := pre_lt h hs hx
    have h3 : Srt (L ++ suf Q ((k, v0) :: y)) := (srt_append.1 hs).2.1
    have h2 : ∀ a ∈ L, blt a.1 k := fun a ha => (srt_append.1 h3).2.2 a ha (k, v0) (by simp [suf])
    constructor
    · rw [ins_left _ h1, ins_left _ h2]
      show _ ++ (L ++ ins k v ((k, v0) :: inter Q y)) = _
      rw [ins, if_pos rfl]; rfl
    · rw [hasK_append, hasK_append]
      have : hasK k (suf Q ((k, v0) :: y)) = true := by simp [suf, hasK]
      rw [this]; simp
theorem ins_leaf {es : List Ent} {k : List UInt8} {v : Int} {i : Nat} (hx : ∀ e ∈ es.take i, blt e.1 k) (hy : ∀ e ∈ es.drop i, blt k e.1) : ins k v es = es.take i ++ (k, v) :: es.drop i ∧ hasK k es = false := by
  constructor
  · conv => lhs; rw [← List.take_append_drop i es]
    rw [ins_left _ hx, ins_head hy]
  · rw [← List.take_append_drop i es, hasK_append, hasK_lt hx, hasK_gt hy]; rfl
theorem ins_leaf_here {x y : List Ent} {k : List UInt8} {v v0 : Int} (hx : ∀ e ∈ x, blt e.1 k) : ins k v (x ++ (k, v0) :: y) = x ++ (k, v) :: y ∧ hasK k (x ++ (k, v0) :: y) = true := by
  constructor
  · rw [ins_left _ hx, ins, if_pos rfl]
  · rw [hasK_append]; simp [hasK]
/-- Is the key at its place? -/
def at_ (k : List UInt8) (es : List Ent) : Bool := match es[pos k es]? with
  | some e => decide (e.1 = k)
  | none => false
theorem at_true {k : List UInt8} {es : List Ent} (h : at_ k es = true) : ∃ v, es[pos k es]? = some (k, v) ∧ es = es.take (pos k es) ++ (k, v) :: es.drop (pos k es + 1) := by
  unfold at_ at h
  split at h
  · rename_i e he
    have h1 := of_decide_eq_true h
    obtain ⟨k', v⟩ := e
    simp at h1
    subst h1
    refine ⟨v, he, ?_⟩
    have hj := (List.getElem?_eq_some_iff.1 he).1
    conv => lhs; rw [← List.take_append_drop (pos k' es) es]
    rw [List.drop_eq_getElem_cons hj, (List.getElem?_eq_some_iff.1 he).2]
  · cases h
theorem at_false {k : List UInt8} {es : List Ent} (h : at_ k es = false) : ∀ e, es[pos k es]? = some e → e.1 ≠ k := by
  intro e he
  unfold at_ at h
  rw [he] at h
  simpa using h
end Go.Proofs.Ytkejjahlglldlaa
namespace Go.Proofs.Ytkejjahlglldlaa
open Go.RowKit

def sK (es : List Ent) : List Value := es.map fun e => str e.1
def sV (es : List Ent) : List Value := es.map fun e => .int .i64 e.2
def sP (ps : List Nat) : List Value := ps.map fun b => ptr (some b)
theorem sK_one (es : List Ent) : ∀ u ∈ sK es, u.oneCell' = true := by
  intro u hu; simp only [sK, List.mem_map] at hu; obtain ⟨_, _, rfl⟩ := hu; rfl
theorem sV_one (es : List Ent) : ∀ u ∈ sV es, u.oneCell' = true := by
  intro u hu; simp only [sV, List.mem_map] at hu; obtain ⟨_, _, rfl⟩ := hu; rfl
theorem sP_one (ps : List Nat) : ∀ u ∈ sP ps, u.oneCell' = true := by
  intro u hu; simp only [sP, List.mem_map] at hu; obtain ⟨_, _, rfl⟩ := hu; rfl

abbrev ownL (b : Nat) (gk gv gc : Option Nat) : List Nat := b :: (gk.toList ++ (gv.toList ++ gc.toList))

/-- The node in block b: its keys and values, its kids' blocks; the blocks of its slices. -/
structure NodeAt (W : World) (b : Nat) (es : List Ent) (ps : List Nat) (gk gv gc : Option Nat) (ck cv cc : Nat) : Prop where
  blk : W.heap[b]? = some (.cells #[slv gk es.length ck, slv gv es.length cv, slv gc ps.length cc] 82 (0, 0))
  keys : Sl W 9 1 gk es.length ck (sK es)
  vals : Sl W 2 1 gv es.length cv (sV es)
  kids : Sl W 78 1 gc ps.length cc (sP ps)

theorem NodeAt.congr {W W' : World} {b : Nat} {es : List Ent} {ps : List Nat} {gk gv gc : Option Nat} {ck cv cc : Nat} (h : NodeAt W b es ps gk gv gc ck cv cc) (hc : ∀ k ∈ ownL b gk gv gc, W'.heap[k]? = W.heap[k]?) :
    NodeAt W' b es ps gk gv gc ck cv cc :=
  ⟨by rw [hc b (by simp)]; exact h.blk, h.keys.congr fun k hk => hc k (by simp [hk]), h.vals.congr fun k hk => hc k (by simp [hk]), h.kids.congr fun k hk => hc k (by simp [hk])⟩
theorem NodeAt.lt {W : World} {b : Nat} {es : List Ent} {ps : List Nat} {gk gv gc : Option Nat} {ck cv cc : Nat} (h : NodeAt W b es ps gk gv gc ck cv cc) : ∀ k ∈ ownL b gk gv gc, k < W.heap.size := by
  intro k hk
  simp only [ownL, List.mem_cons, List.mem_append, Option.mem_toList] at hk
  rcases hk with rfl | hk | hk | hk
  · exact blk_lt h.blk
  · subst hk; exact h.keys.block_lt
  · subst hk; exact h.vals.block_lt
  · subst hk; exact h.kids.block_lt
theorem NodeAt.touch {S : Nat → Prop} {W W' : World} {b : Nat} {es : List Ent} {ps : List Nat} {gk gv gc : Option Nat} {ck cv cc : Nat} (h : NodeAt W b es ps gk gv gc ck cv cc) (ht : Touch S W W') (hn : ∀ k ∈ ownL b gk gv gc, ¬ S k) :
    NodeAt W' b es ps gk gv gc ck cv cc := h.congr fun k hk => ht.block k (h.lt k hk) (hn k hk)

/-- A kid: its block, its number of keys, its contents, all its blocks. -/
structure Kid where
  b : Nat
  n : Nat
  L : List Ent
  bs : List Nat

/-- A node of height h and all below it. -/
def Rep (W : World) (m : Nat) : Nat → Kid → Prop
  | 0, k => ∃ es gk gv gc ck cv cc, NodeAt W k.b es [] gk gv gc ck cv cc ∧ k.n = es.length ∧ k.L = es ∧ k.bs = ownL k.b gk gv gc
  | h + 1, k => ∃ (es : List Ent) (ks : List Kid) (gk gv gc : Option Nat) (ck cv cc : Nat), NodeAt W k.b es (ks.map Kid.b) gk gv gc ck cv cc ∧ k.n = es.length ∧ k.L = inter (ks.map Kid.L) es ∧ k.bs = ownL k.b gk gv gc ++ ks.flatMap Kid.bs ∧
      ks.length = es.length + 1 ∧ ∀ x ∈ ks, Rep W m h x ∧ m ≤ x.n + 1 ∧ x.n + 1 ≤ 2 * m
def KidsOk (W : World) (m : Nat) : Nat → List Kid → Nat → Prop
  | 0, ks, _ => ks = []
  | h + 1, ks, n => ks.length = n + 1 ∧ ∀ x ∈ ks, Rep W m h x ∧ m ≤ x.n + 1 ∧ x.n + 1 ≤ 2 * m

theorem Rep.open {W : World} {m h : Nat} {k : Kid} (hr : Rep W m h k) : ∃ (es : List Ent) (ks : List Kid) (gk gv gc : Option Nat) (ck cv cc : Nat), NodeAt W k.b es (ks.map Kid.b) gk gv gc ck cv cc ∧ k.n = es.length ∧ k.L = inter (ks.map Kid.L) es ∧ k.bs = ownL k.b gk gv gc ++ ks.flatMap Kid.bs ∧
    KidsOk W m h ks es.length := by
  cases h with
  | zero =>
    obtain ⟨es, gk, gv, gc, ck, cv, cc, h1, h2, h3, h4⟩ := hr
    exact ⟨es, [], gk, gv, gc, ck, cv, cc, h1, h2, by simp [h3, inter], by simp [h4], rfl⟩
  | succ h =>
    obtain ⟨es, ks, gk, gv, gc, ck, cv, cc, h1, h2, h3, h4, h5, h6⟩ := hr
    exact ⟨es, ks, gk, gv, gc, ck, cv, cc, h1, h2, h3, h4, h5, h6⟩
theorem Rep.close {W : World} {m h : Nat} {k : Kid} {es : List Ent} {ks : List Kid} {gk gv gc : Option Nat} {ck cv cc : Nat} (h1 : NodeAt W k.b es (ks.map Kid.b) gk gv gc ck cv cc) (h2 : k.n = es.length) (h3 : k.L = inter (ks.map Kid.L) es)
    (h4 : k.bs = ownL k.b gk gv gc ++ ks.flatMap Kid.bs) (h5 : KidsOk W m h ks es.length) : Rep W m h k := by
  cases h with
  | zero =>
    have h5 : ks = [] := h5
    subst h5
    exact ⟨es, gk, gv, gc, ck, cv, cc, h1, h2, by simpa [inter] using h3, by simpa using h4⟩
  | succ h => exact ⟨es, ks, gk, gv, gc, ck, cv, cc, h1, h2, h3, h4, h5.1, h5.2⟩
theorem Rep.congr {W W' : World} {m : Nat} : ∀ {h : Nat} {k : Kid}, Rep W m h k → (∀ b ∈ k.bs, W'.heap[b]? = W.heap[b]?) → Rep W' m h k
  | 0, k, ⟨es, gk, gv, gc, ck, cv, cc, h1, h2, h3, h4⟩, hc => ⟨es, gk, gv, gc, ck, cv, cc, h1.congr fun b hb => hc b (by rw [h4]; exact hb), h2, h3, h4⟩
  | h + 1, k, ⟨es, ks, gk, gv, gc, ck, cv, cc, h1, h2, h3, h4, h5, h6⟩, hc =>
    ⟨es, ks, gk, gv, gc, ck, cv, cc, h1.congr fun b hb => hc b (by rw [h4]; exact List.mem_append_left _ hb), h2, h3, h4, h5,
      fun x hx => ⟨(h6 x hx).1.congr fun b hb => hc b (by rw [h4]; exact List.mem_append_right _ (List.mem_flatMap.2 ⟨x, hx, hb⟩)), (h6 x hx).2⟩⟩
theorem Rep.lt {W : World} {m : Nat} : ∀ {h : Nat} {k : Kid}, Rep W m h k → ∀ b ∈ k.bs, b < W.heap.size
  | 0, k, ⟨es, gk, gv, gc, ck, cv, cc, h1, h2, h3, h4⟩, b, hb => h1.lt b (by rw [← h4]; exact hb)
  | h + 1, k, ⟨es, ks, gk, gv, gc, ck, cv, cc, h1, h2, h3, h4, h5, h6⟩, b, hb => by
    rw [h4] at hb
    rcases List.mem_append.1 hb with hb | hb
    · exact h1.lt b hb
    · obtain ⟨x, hx, hb⟩ := List.mem_flatMap.1 hb
      exact (h6 x hx).1.lt b hb
theorem Rep.touch {S : Nat → Prop} {W W' : World} {m h : Nat} {k : Kid} (hr : Rep W m h k) (ht : Touch S W W') (hn : ∀ b ∈ k.bs, ¬ S b) : Rep W' m h k := hr.congr fun b hb => ht.block b (hr.lt b hb) (hn b hb)
theorem Rep.ext {W W' : World} {m h : Nat} {k : Kid} (hr : Rep W m h k) (ht : Ext W W') : Rep W' m h k := hr.congr fun b hb => Below.block ht b (hr.lt b hb)
theorem Rep.mem {W : World} {m h : Nat} {k : Kid} (hr : Rep W m h k) : k.b ∈ k.bs := by
  obtain ⟨es, ks, gk, gv, gc, ck, cv, cc, h1, h2, h3, h4, h5⟩ := hr.open
  rw [h4]; simp
theorem KidsOk.congr {W W' : World} {m h n : Nat} {ks : List Kid} (hk : KidsOk W m h ks n) (hc : ∀ x ∈ ks, ∀ b ∈ x.bs, W'.heap[b]? = W.heap[b]?) : KidsOk W' m h ks n := by
  cases h with
  | zero => exact hk
  | succ h => exact ⟨hk.1, fun x hx => ⟨(hk.2 x hx).1.congr (hc x hx), (hk.2 x hx).2⟩⟩

/-- A place in the tree under rb: what is put there for the node in block b gives the tree again. F: the blocks outside; A, B: what stands ahead of and behind the node's contents. -/
def Hole (W : World) (m loR H rb h b lo : Nat) (F : List Nat) (A B : List Ent) : Prop :=
  ∀ (W' : World) (n' : Nat) (L' : List Ent) (bs' : List Nat), Rep W' m h ⟨b, n', L', bs'⟩ → lo ≤ n' → n' + 1 ≤ 2 * m → (∀ x ∈ F, W'.heap[x]? = W.heap[x]?) →
    ∃ N' Bs, Rep W' m H ⟨rb, N', A ++ L' ++ B, Bs⟩ ∧ loR ≤ N' ∧ N' + 1 ≤ 2 * m ∧ Bs.Perm (F ++ bs')
theorem Hole.root (W : World) (m lo H rb : Nat) : Hole W m lo H rb H rb lo [] [] [] := fun W' n' L' bs' hr h1 h2 _ => ⟨n', bs', by simpa using hr, h1, h2, by simp⟩
theorem Hole.congr {W W' : World} {m loR H rb h b lo : Nat} {F : List Nat} {A B : List Ent} (hh : Hole W m loR H rb h b lo F A B) (hc : ∀ x ∈ F, W'.heap[x]? = W.heap[x]?) : Hole W' m loR H rb h b lo F A B :=
  fun W2 n' L' bs' hr h1 h2 h3 => hh W2 n' L' bs' hr h1 h2 fun x hx => (h3 x hx).trans (hc x hx)

theorem inter_mid (P Q : List (List Ent)) (x y : List Ent) (L : List Ent) (h : P.length = x.length) : inter (P ++ L :: Q) (x ++ y) = pre P x ++ (L ++ suf Q y) := by
  rw [inter_at P x (L :: Q) y h (by simp), inter_cons]
/-- One step down. -/
theorem Hole.down {W : World} {m loR H rb h b lo : Nat} {F : List Nat} {A B : List Ent} (hh : Hole W m loR H rb (h + 1) b lo F A B) {es x y : List Ent} {ks P Q : List Kid} {k : Kid} {gk gv gc : Option Nat} {ck cv cc : Nat}
    (hn : NodeAt W b es (ks.map Kid.b) gk gv gc ck cv cc) (he : es = x ++ y) (hks : ks = P ++ k :: Q) (hP : P.length = x.length) (hk : KidsOk W m (h + 1) ks es.length) (hlo : lo ≤ es.length) (hhi : es.length + 1 ≤ 2 * m) :
    Hole W m loR H rb h k.b (m - 1) (F ++ ownL b gk gv gc ++ (P.flatMap Kid.bs ++ Q.flatMap Kid.bs)) (A ++ pre (P.map Kid.L) x) (suf (Q.map Kid.L) y ++ B) := by
  intro W' n' L' bs' hr h1 h2 h3
  obtain ⟨N', Bs, r1, r2, r3, r4⟩ := hh W' es.length (inter ((P ++ ⟨k.b, n', L', bs'⟩ :: Q).map Kid.L) es) (ownL b gk gv gc ++ (P ++ ⟨k.b, n', L', bs'⟩ :: Q).flatMap Kid.bs)
    (Rep.close (es := es) (ks := P ++ ⟨k.b, n', L', bs'⟩ :: Q) (by
        have h4 : (P ++ ⟨k.b, n', L', bs'⟩ :: Q).map Kid.b = ks.map Kid.b := by rw [hks]; simp
        rw [h4]
        exact hn.congr fun q hq => h3 q (by simp only [List.mem_append]; exact .inl (.inr hq))) rfl rfl rfl
      ⟨by rw [← hk.1, hks]; simp, fun q hq => by
        rcases List.mem_append.1 hq with hq | hq
        · have := hk.2 q (by rw [hks]; simp [hq])
          exact ⟨this.1.congr fun c hc => h3 c (by simp only [List.mem_append, List.mem_flatMap]; exact .inr (.inl ⟨q, hq, hc⟩)), this.2⟩
        · rcases List.mem_cons.1 hq with rfl | hq
          · exact ⟨hr, (by show m ≤ n' + 1; omega), h2⟩
          · have := hk.2 q (by rw [hks]; simp [hq])
            exact ⟨this.1.congr fun c hc => h3 c (by simp only [List.mem_append, List.mem_flatMap]; exact .inr (.inr ⟨q, hq, hc⟩)), this.2⟩⟩)
    hlo hhi (fun q hq => h3 q (by simp only [List.mem_append]; exact .inl (.inl hq)))
  refine ⟨N', Bs, ?_, r2, r3, r4.trans ?_⟩
  · have h5 : A ++ inter ((P ++ ⟨k.b, n', L', bs'⟩ :: Q).map Kid.L) es ++ B = A ++ pre (P.map Kid.L) x ++ L' ++ (suf (Q.map Kid.L) y ++ B) := by
      rw [List.map_append, List.map_cons, he, inter_mid _ _ _ _ _ (by simpa using hP)]
      simp
    rw [← h5]; exact r1
  · simp only [List.flatMap_append, List.flatMap_cons, List.append_assoc]
    refine List.Perm.append_left _ (List.Perm.append_left _ ?_)
    refine List.Perm.append_left _ ?_
    exact List.perm_append_comm
end Go.Proofs.Ytkejjahlglldlaa
namespace Go.Proofs.Ytkejjahlglldlaa
open Go.RowKit Go.Lib

def ClnPS (n : Nat) (xs : List Value) (w : World) (e : Ending) (w' : World) : Prop :=
  ∃ g cap', e = .returned (slv g n cap') ∧ Sl w' 9 1 g n cap' xs ∧ (∀ b, g = some b → w.heap.size ≤ b) ∧ Ext w w'
set_option maxRecDepth 100000 in
set_option maxHeartbeats 8000000 in
theorem ClnS (s : Option Nat) (off n cap : Nat) (xs : List Value) (w : World) (hn : xs.length = n) (hc : ∀ b, s = some b → ∀ j u, xs[j]? = some u → w.cell? ⟨b, off + j, none⟩ = some u) (hnil : s = none → n = 0) (h1 : ∀ u ∈ xs, u.oneCell' = true) (hsz : n ≤ 1000000000) :
    Calls Try.prog 76 #[.slice (s.map fun b => ⟨b, off, none⟩) n cap] w (ClnPS n xs w) := by
  cases s with
  | none =>
    obtain rfl := hnil rfl
    have hps : xs = [] := List.eq_nil_of_length_eq_zero hn
    subst hps
    have hnl : ∀ u : World, (binOp .eql 79 (.slice none 0 cap) (.slice none 0 0)).run Try.prog u = .ok (.bool true) u := fun u => Lib.run_eql_slice_nil u _ _ none 0 cap 0 0 Try.underlying79
    show Calls Try.prog 76 #[.slice none 0 cap] w _
    go_enter Try.func76, Try.ntmps76
    go_wp2
    go_ret
    exact ⟨none, 0, rfl, Sl.nil _ _ _, by simp, Ext.refl _⟩
  | some p =>
    have hempty : ∀ u : World, Sl (u.alloc (.cells #[] 9)) 9 1 (some u.heap.size) 0 0 [] := fun u => ⟨by simp, #[], blk_new u _, Nat.le_refl _, by simp [maxLen], rfl, rfl⟩
    have hnl : ∀ u : World, (binOp .eql 79 (.slice (some ⟨p, off, none⟩) n cap) (.slice none 0 0)).run Try.prog u = .ok (.bool false) u := fun u => Lib.run_eql_slice_nil u _ _ (some ⟨p, off, none⟩) n cap 0 0 Try.underlying79
    show Calls Try.prog 76 #[.slice (some ⟨p, off, none⟩) n cap] w _
    have HC := Lib.hid (hc p rfl); clear hc
    have H1 := Lib.hid h1; clear h1
    have HN := Lib.hid hn; clear hn
    clear hnil
    go_enter Try.func76, Try.ntmps76
    go_wp2_with (at_builtin; refine (fun (h : True → _) => h trivial) ?_)
    intro _
    by_cases hn0 : n = 0
    · subst hn0
      have hps : xs = [] := List.eq_nil_of_length_eq_zero HN.out
      subst hps
      refine app_none ei_string rfl (.tmp 5) (.tmp 6) rfl (g := w.heap.size) (n := 0) (cap := 0) (by rfl) (hempty w) (by rfl) (by omega) ?_
      intro g5 cap5 w5 hS5 hT5 hat5
      clear hnl hempty
      go_wp2
      go_ret
      refine ⟨g5, cap5, rfl, hS5, ?_, Touch.freshX ((Ext.refl w).alloc _) hT5 (fun k hk => by cases hk; exact Nat.le_refl _)⟩
      intro b hb
      subst hb
      rcases hat5 with h | h
      · cases h; exact Nat.le_refl _
      · cases h; simp
    · refine app_from ei_string rfl (.tmp 5) (.tmp 6) rfl (g := some w.heap.size) (n := 0) (cap := 0) (by rfl) (hempty w) (b := p) (off := off) (m := n) (c := cap) (news := xs) (by rfl) (by rw [HN.out, Nat.mul_one]) (fun j u hu => Ext.cell ((Ext.refl w).alloc _) (HC.out j u hu)) H1.out (by omega) (by omega) ?_
      intro g5 cap5 w5 hS5 hT5 hat5
      rw [Nat.zero_add] at hS5 ⊢
      clear hnl hempty
      go_wp2
      go_ret
      refine ⟨some g5, cap5, rfl, by simpa using hS5, ?_, Touch.freshX ((Ext.refl w).alloc _) hT5 (fun k hk => by cases hk; exact Nat.le_refl _)⟩
      intro b hb
      cases hb
      rcases hat5 with h | h
      · cases h; exact Nat.le_refl _
      · rw [h]; simp
def ClnPI (n : Nat) (xs : List Value) (w : World) (e : Ending) (w' : World) : Prop :=
  ∃ g cap', e = .returned (slv g n cap') ∧ Sl w' 2 1 g n cap' xs ∧ (∀ b, g = some b → w.heap.size ≤ b) ∧ Ext w w'
set_option maxRecDepth 100000 in
set_option maxHeartbeats 8000000 in
theorem ClnI (s : Option Nat) (off n cap : Nat) (xs : List Value) (w : World) (hn : xs.length = n) (hc : ∀ b, s = some b → ∀ j u, xs[j]? = some u → w.cell? ⟨b, off + j, none⟩ = some u) (hnil : s = none → n = 0) (h1 : ∀ u ∈ xs, u.oneCell' = true) (hsz : n ≤ 1000000000) :
    Calls Try.prog 77 #[.slice (s.map fun b => ⟨b, off, none⟩) n cap] w (ClnPI n xs w) := by
  cases s with
  | none =>
    obtain rfl := hnil rfl
    have hps : xs = [] := List.eq_nil_of_length_eq_zero hn
    subst hps
    have hnl : ∀ u : World, (binOp .eql 46 (.slice none 0 cap) (.slice none 0 0)).run Try.prog u = .ok (.bool true) u := fun u => Lib.run_eql_slice_nil u _ _ none 0 cap 0 0 Try.underlying46
    show Calls Try.prog 77 #[.slice none 0 cap] w _
    go_enter Try.func77, Try.ntmps77
    go_wp2
    go_ret
    exact ⟨none, 0, rfl, Sl.nil _ _ _, by simp, Ext.refl _⟩
  | some p =>
    have hempty : ∀ u : World, Sl (u.alloc (.cells #[] 2)) 2 1 (some u.heap.size) 0 0 [] := fun u => ⟨by simp, #[], blk_new u _, Nat.le_refl _, by simp [maxLen], rfl, rfl⟩
    have hnl : ∀ u : World, (binOp .eql 46 (.slice (some ⟨p, off, none⟩) n cap) (.slice none 0 0)).run Try.prog u = .ok (.bool false) u := fun u => Lib.run_eql_slice_nil u _ _ (some ⟨p, off, none⟩) n cap 0 0 Try.underlying46
    show Calls Try.prog 77 #[.slice (some ⟨p, off, none⟩) n cap] w _
    have HC := Lib.hid (hc p rfl); clear hc
    have H1 := Lib.hid h1; clear h1
    have HN := Lib.hid hn; clear hn
    clear hnil
    go_enter Try.func77, Try.ntmps77
    go_wp2_with (at_builtin; refine (fun (h : True → _) => h trivial) ?_)
    intro _
    by_cases hn0 : n = 0
    · subst hn0
      have hps : xs = [] := List.eq_nil_of_length_eq_zero HN.out
      subst hps
      refine app_none ei_int64 rfl (.tmp 5) (.tmp 6) rfl (g := w.heap.size) (n := 0) (cap := 0) (by rfl) (hempty w) (by rfl) (by omega) ?_
      intro g5 cap5 w5 hS5 hT5 hat5
      clear hnl hempty
      go_wp2
      go_ret
      refine ⟨g5, cap5, rfl, hS5, ?_, Touch.freshX ((Ext.refl w).alloc _) hT5 (fun k hk => by cases hk; exact Nat.le_refl _)⟩
      intro b hb
      subst hb
      rcases hat5 with h | h
      · cases h; exact Nat.le_refl _
      · cases h; simp
    · refine app_from ei_int64 rfl (.tmp 5) (.tmp 6) rfl (g := some w.heap.size) (n := 0) (cap := 0) (by rfl) (hempty w) (b := p) (off := off) (m := n) (c := cap) (news := xs) (by rfl) (by rw [HN.out, Nat.mul_one]) (fun j u hu => Ext.cell ((Ext.refl w).alloc _) (HC.out j u hu)) H1.out (by omega) (by omega) ?_
      intro g5 cap5 w5 hS5 hT5 hat5
      rw [Nat.zero_add] at hS5 ⊢
      clear hnl hempty
      go_wp2
      go_ret
      refine ⟨some g5, cap5, rfl, by simpa using hS5, ?_, Touch.freshX ((Ext.refl w).alloc _) hT5 (fun k hk => by cases hk; exact Nat.le_refl _)⟩
      intro b hb
      cases hb
      rcases hat5 with h | h
      · cases h; exact Nat.le_refl _
      · rw [h]; simp
def ClnPN (n : Nat) (xs : List Value) (w : World) (e : Ending) (w' : World) : Prop :=
  ∃ g cap', e = .returned (slv g n cap') ∧ Sl w' 78 1 g n cap' xs ∧ (∀ b, g = some b → w.heap.size ≤ b) ∧ Ext w w'
set_option maxRecDepth 100000 in
set_option maxHeartbeats 8000000 in
theorem ClnN (s : Option Nat) (off n cap : Nat) (xs : List Value) (w : World) (hn : xs.length = n) (hc : ∀ b, s = some b → ∀ j u, xs[j]? = some u → w.cell? ⟨b, off + j, none⟩ = some u) (hnil : s = none → n = 0) (h1 : ∀ u ∈ xs, u.oneCell' = true) (hsz : n ≤ 1000000000) :
    Calls Try.prog 78 #[.slice (s.map fun b => ⟨b, off, none⟩) n cap] w (ClnPN n xs w) := by
  cases s with
  | none =>
    obtain rfl := hnil rfl
    have hps : xs = [] := List.eq_nil_of_length_eq_zero hn
    subst hps
    have hnl : ∀ u : World, (binOp .eql 80 (.slice none 0 cap) (.slice none 0 0)).run Try.prog u = .ok (.bool true) u := fun u => Lib.run_eql_slice_nil u _ _ none 0 cap 0 0 Try.underlying80
    show Calls Try.prog 78 #[.slice none 0 cap] w _
    go_enter Try.func78, Try.ntmps78
    go_wp2
    go_ret
    exact ⟨none, 0, rfl, Sl.nil _ _ _, by simp, Ext.refl _⟩
  | some p =>
    have hempty : ∀ u : World, Sl (u.alloc (.cells #[] 78)) 78 1 (some u.heap.size) 0 0 [] := fun u => ⟨by simp, #[], blk_new u _, Nat.le_refl _, by simp [maxLen], rfl, rfl⟩
    have hnl : ∀ u : World, (binOp .eql 80 (.slice (some ⟨p, off, none⟩) n cap) (.slice none 0 0)).run Try.prog u = .ok (.bool false) u := fun u => Lib.run_eql_slice_nil u _ _ (some ⟨p, off, none⟩) n cap 0 0 Try.underlying80
    show Calls Try.prog 78 #[.slice (some ⟨p, off, none⟩) n cap] w _
    have HC := Lib.hid (hc p rfl); clear hc
    have H1 := Lib.hid h1; clear h1
    have HN := Lib.hid hn; clear hn
    clear hnil
    go_enter Try.func78, Try.ntmps78
    go_wp2_with (at_builtin; refine (fun (h : True → _) => h trivial) ?_)
    intro _
    by_cases hn0 : n = 0
    · subst hn0
      have hps : xs = [] := List.eq_nil_of_length_eq_zero HN.out
      subst hps
      refine app_none ei_node rfl (.tmp 5) (.tmp 6) rfl (g := w.heap.size) (n := 0) (cap := 0) (by rfl) (hempty w) (by rfl) (by omega) ?_
      intro g5 cap5 w5 hS5 hT5 hat5
      clear hnl hempty
      go_wp2
      go_ret
      refine ⟨g5, cap5, rfl, hS5, ?_, Touch.freshX ((Ext.refl w).alloc _) hT5 (fun k hk => by cases hk; exact Nat.le_refl _)⟩
      intro b hb
      subst hb
      rcases hat5 with h | h
      · cases h; exact Nat.le_refl _
      · cases h; simp
    · refine app_from ei_node rfl (.tmp 5) (.tmp 6) rfl (g := some w.heap.size) (n := 0) (cap := 0) (by rfl) (hempty w) (b := p) (off := off) (m := n) (c := cap) (news := xs) (by rfl) (by rw [HN.out, Nat.mul_one]) (fun j u hu => Ext.cell ((Ext.refl w).alloc _) (HC.out j u hu)) H1.out (by omega) (by omega) ?_
      intro g5 cap5 w5 hS5 hT5 hat5
      rw [Nat.zero_add] at hS5 ⊢
      clear hnl hempty
      go_wp2
      go_ret
      refine ⟨some g5, cap5, rfl, by simpa using hS5, ?_, Touch.freshX ((Ext.refl w).alloc _) hT5 (fun k hk => by cases hk; exact Nat.le_refl _)⟩
      intro b hb
      cases hb
      rcases hat5 with h | h
      · cases h; exact Nat.le_refl _
      · rw [h]; simp
end Go.Proofs.Ytkejjahlglldlaa
namespace Go.Proofs.Ytkejjahlglldlaa
open Go.RowKit Go.Lib

set_option maxRecDepth 100000 in
set_option maxHeartbeats 400000 in
theorem isNaN_cs (a : List UInt8) (w : World) : Calls Try.prog 143 #[str a] w fun e w' => e = .returned (.bool false) ∧ w = w' := by
  go_enter Try.func143, Try.ntmps143
  go_wp2
  go_ret
  exact ⟨by simp, rfl⟩
set_option maxRecDepth 100000 in
set_option maxHeartbeats 400000 in
theorem isNaN_ss (a : List UInt8) (w : World) : Calls Try.prog 106 #[str a] w fun e w' => e = .returned (.bool false) ∧ w = w' := by
  go_enter Try.func106, Try.ntmps106
  go_wp2
  go_ret
  exact ⟨by simp, rfl⟩
set_option maxRecDepth 100000 in
set_option maxHeartbeats 400000 in
theorem less_s (a b : List UInt8) (w : World) : Calls Try.prog 105 #[str a, str b] w fun e w' => e = .returned (.bool (Op.bytesLess a b)) ∧ w = w' := by
  go_enter Try.func105, Try.ntmps105
  go_wp2_with (go_at_call 143; refine (isNaN_cs _ _).mono ?_; rintro e w' ⟨rfl, rfl⟩)
  go_ret
  exact ⟨by simp [bs_toList], rfl⟩
theorem sK_get {es : List Ent} {i : Nat} {e : Ent} (h : es[i]? = some e) : (sK es)[i]? = some (str e.1) := by simp [sK, h]
theorem sV_get {es : List Ent} {i : Nat} {e : Ent} (h : es[i]? = some e) : (sV es)[i]? = some (.int .i64 e.2) := by simp [sV, h]
theorem sP_get {ps : List Nat} {i : Nat} {b : Nat} (h : ps[i]? = some b) : (sP ps)[i]? = some (.pointer (some ⟨b, 0, none⟩)) := by simp [sP, h, adr]

theorem Srt.below {es : List Ent} (h : Srt es) {j : Nat} {x : Ent} {k : List UInt8} (hx : es[j]? = some x) (hk : Op.bytesLess x.1 k = true) : ∀ e ∈ es.take (j + 1), blt e.1 k := by
  intro e he
  obtain ⟨i, hi, rfl⟩ := List.getElem_of_mem he
  rw [List.length_take] at hi
  rw [List.getElem_take]
  obtain ⟨hj, rfl⟩ := List.getElem?_eq_some_iff.1 hx
  by_cases hij : i = j
  · subst hij; exact hk
  · exact bl_trans _ _ _ ((List.pairwise_iff_getElem.1 h) i j (by omega) hj (by omega)) hk

set_option maxRecDepth 100000 in
set_option maxHeartbeats 2000000 in
theorem search_ok (g : Option Nat) (cap : Nat) (es : List Ent) (k : List UInt8) (w : World) (hs : Sl w 9 1 g es.length cap (sK es)) (hsz : es.length ≤ 1000000000) (hsrt : Srt es) :
    Calls Try.prog 80 #[slv g es.length cap, str k] w fun e w' => e = .returned (.tuple #[.int .i64 (pos k es : Int), .bool (at_ k es)]) ∧ w = w' := by
  have HS := Lib.hid hs; clear hs
  have HSRT := Lib.hid hsrt; clear hsrt
  obtain ⟨n, hn⟩ : ∃ n, n = es.length := ⟨_, rfl⟩
  rw [← hn] at hsz ⊢
  have HN := Lib.hid hn; clear hn
  go_enter Try.func80, Try.ntmps80
  go_wp2
  go_loopg [7, 8] n (fun m v7 v8 wr => ∃ i j : Nat, v7 = .int .i64 (i : Int) ∧ v8 = .int .i64 (j : Int) ∧ i + m = j ∧ j ≤ n ∧ (∀ e ∈ es.take i, blt e.1 k) ∧ (∀ e, es[j]? = some e → Op.bytesLess e.1 k = false) ∧ w = wr)
  case atStart => exact ⟨0, n, rfl, rfl, by omega, Nat.le_refl _, by simp, fun e he => absurd (List.getElem?_eq_some_iff.1 he).1 (by have := HN.out; omega), rfl⟩
  case round =>
    obtain ⟨i, j, rfl, rfl, hij, hjn, hlo, hhi, hw⟩ := hrel
    have HLO := Lib.hid hlo; clear hlo
    have HHI := Lib.hid hhi; clear hhi
    have HW := Lib.hid hw; clear hw
    by_cases hlt : i < j
    · obtain ⟨h, hh⟩ : ∃ h : Nat, h = (i + j) / 2 := ⟨_, rfl⟩
      have hh1 : i ≤ h ∧ h < j := by omega
      obtain ⟨b, hb⟩ := HS.out.some_of_pos (by have := HN.out; omega)
      obtain ⟨e, he⟩ : ∃ e, es[h]? = some e := ⟨es[h]'(by have := HN.out; omega), List.getElem?_eq_getElem _⟩
      have hc := HS.out
      rw [hb] at hc
      have hc2 := hc.cell (sK_get he)
      rw [HW.out] at hc2
      have HE := Lib.hid he
      have HB := Lib.hid hb
      have hdiv : ((i : Int) + (j : Int)) / 2 = (h : Int) := by omega
      have hri := fun W => run_index_slv (P := Try.prog) ei_string (cap := cap) HB.out (j := h) (n := n) (by omega) W
      have HH := Lib.hid hh
      clear hc he hb hh
      cases hbl : Op.bytesLess e.1 k
      · go_wp2_with (first | (go_at_call 105; refine (less_s _ _ _).mono ?_; rintro e w' ⟨rfl, rfl⟩))
        go_roundg (h - i)
        case measure => omega
        case rel => exact ⟨i, h, rfl, rfl, by omega, by omega, HLO.out, fun e' he' => by rw [HE.out] at he'; cases he'; exact hbl, HW.out⟩
      · go_wp2_with (first | (go_at_call 105; refine (less_s _ _ _).mono ?_; rintro e w' ⟨rfl, rfl⟩))
        go_roundg (j - (h + 1))
        case measure => omega
        case rel => exact ⟨h + 1, j, by go_num, rfl, by omega, hjn, Srt.below HSRT.out HE.out hbl, HHI.out, HW.out⟩
    · obtain rfl : i = j := by omega
      have hpos : i = pos k es := pos_unique k (by have := HN.out; omega) HLO.out HHI.out
      have HPOS := Lib.hid hpos; clear hpos
      by_cases hin : i < n
      · obtain ⟨b, hb⟩ := HS.out.some_of_pos (by have := HN.out; omega)
        obtain ⟨e, he⟩ : ∃ e, es[i]? = some e := ⟨es[i]'(by have := HN.out; omega), List.getElem?_eq_getElem _⟩
        have hc := HS.out
        rw [hb] at hc
        have hc2 := hc.cell (sK_get he)
        rw [HW.out] at hc2
        have HE := Lib.hid he
        have HB := Lib.hid hb
        have hri := fun W => run_index_slv (P := Try.prog) ei_string (cap := cap) HB.out (j := i) (n := n) (by omega) W
        clear hc he hb
        go_wp2_with (first | (go_at_call 106; refine (isNaN_ss _ _).mono ?_; rintro e w' ⟨rfl, rfl⟩))
        · rename_i h
          rw [bs_toList, bs_toList] at h
          go_ret2
          refine ⟨?_, HW.out⟩
          have : at_ k es = true := by unfold at_; rw [← HPOS.out, HE.out]; exact decide_eq_true h
          rw [this, ← HPOS.out]
          rfl
        · rename_i h
          rw [bs_toList, bs_toList] at h
          have hb2 : ((bs e.1).toList == (bs k).toList) = false := by rw [bs_toList, bs_toList]; simpa using h
          rw [hb2]
          go_ret2
          refine ⟨?_, HW.out⟩
          have : at_ k es = false := by unfold at_; rw [← HPOS.out, HE.out]; exact decide_eq_false h
          rw [this, ← HPOS.out]
          rfl
      · go_wp2
        go_ret2
        refine ⟨?_, HW.out⟩
        have : at_ k es = false := by unfold at_; rw [← HPOS.out, List.getElem?_eq_none (by have := HN.out; omega)]
        rw [this, ← HPOS.out]
        rfl

theorem blk3' {w : World} {b : Nat} {t : TypeId} {f : Nat × Nat} {v0 v1 v2 : Value} (h : w.heap[b]? = some (.cells #[v0, v1, v2] t f)) : w.cell? ⟨b, 0, none⟩ = some v0 ∧ w.cell? ⟨b, 1, none⟩ = some v1 ∧ w.cell? ⟨b, 2, none⟩ = some v2 := blk3 h
set_option maxRecDepth 100000 in
set_option maxHeartbeats 1000000 in
theorem find_ok {b : Nat} {es : List Ent} {ps : List Nat} {gk gv gc : Option Nat} {ck cv cc : Nat} {w : World} (hn : NodeAt w b es ps gk gv gc ck cv cc) (k : List UInt8) (hsz : es.length ≤ 1000000000) (hsrt : Srt es) :
    Calls Try.prog 33 #[.pointer (some ⟨b, 0, none⟩), str k] w fun e w' => e = .returned (.tuple #[.int .i64 (pos k es : Int), .bool (at_ k es)]) ∧ w = w' := by
  obtain ⟨c0, c1, c2⟩ := blk3 hn.blk
  have HK := Lib.hid hn.keys
  have HS := Lib.hid hsrt
  clear hn hsrt
  go_enter Try.func33, Try.ntmps33
  go_wp2_with (first | (go_at_call 80; refine (search_ok gk ck es k w HK.out hsz HS.out).mono ?_; rintro e w' ⟨rfl, rfl⟩))
  go_ret2
  exact ⟨rfl, rfl⟩
set_option maxRecDepth 100000 in
set_option maxHeartbeats 1000000 in
theorem leaf_ok {b : Nat} {es : List Ent} {ps : List Nat} {gk gv gc : Option Nat} {ck cv cc : Nat} {w : World} (hn : NodeAt w b es ps gk gv gc ck cv cc) :
    Calls Try.prog 34 #[.pointer (some ⟨b, 0, none⟩)] w fun e w' => e = .returned (.bool (decide (ps = []))) ∧ w = w' := by
  obtain ⟨c0, c1, c2⟩ := blk3 hn.blk
  clear hn
  cases ps with
  | nil =>
    go_enter Try.func34, Try.ntmps34
    go_wp2
    go_ret
    exact ⟨rfl, rfl⟩
  | cons p ps =>
    have hz : (((p :: ps).length : Int) == 0) = false := by simp; omega
    generalize (p :: ps).length = n at *
    go_enter Try.func34, Try.ntmps34
    go_wp2
    go_ret
    exact ⟨rfl, rfl⟩
set_option maxRecDepth 100000 in
set_option maxHeartbeats 1000000 in
theorem most_ok (m : Nat) (hm : m ≤ 64) (w : World) :
    Calls Try.prog 31 #[.agg #[.int .i64 (m : Int)]] w fun e w' => e = .returned (.int .i64 (2 * (m : Int) - 1)) ∧ Ext w w' := by
  go_enter Try.func31, Try.ntmps31
  go_wp2
  go_ret
  exact ⟨rfl, (Ext.refl w).alloc _⟩
end Go.Proofs.Ytkejjahlglldlaa
