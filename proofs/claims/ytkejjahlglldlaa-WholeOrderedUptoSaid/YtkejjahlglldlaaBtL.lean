/- The plain law of a tree of bounded nodes: contents, putting in, giving out. No program in sight. -/
import Derived.Test.YtkejjahlglldlaaCoD
namespace Go.Proofs.Ytkejjahlglldlaa

abbrev Ent := List UInt8 × Int
abbrev blt (x y : List UInt8) : Prop := Op.bytesLess x y = true
def ins (k : List UInt8) (v : Int) : List Ent → List Ent
  | [] => [(k, v)]
  | e :: r => if e.1 = k then (k, v) :: r else if Op.bytesLess k e.1 = true then (k, v) :: e :: r else e :: ins k v r
def Srt (l : List Ent) : Prop := l.Pairwise fun a b => blt a.1 b.1
def hasK (k : List UInt8) (l : List Ent) : Bool := l.any fun e => e.1 == k

theorem blt_ne {x y : List UInt8} (h : blt x y) : x ≠ y := fun e => by subst e; rw [blt, bytesLess_self] at h; cases h
theorem blt_not {x y : List UInt8} (h : blt x y) : Op.bytesLess y x = false := bl_asymm x y h

theorem ins_left {k : List UInt8} {v : Int} : ∀ {A : List Ent} (L : List Ent), (∀ a ∈ A, blt a.1 k) → ins k v (A ++ L) = A ++ ins k v L
  | [], _, _ => rfl
  | a :: A, L, h => by
    have h1 := h a (List.mem_cons_self ..)
    show ins k v (a :: (A ++ L)) = _
    rw [ins, if_neg (blt_ne h1), if_neg (by rw [blt_not h1]; exact Bool.false_ne_true), ins_left L fun x hx => h x (List.mem_cons_of_mem _ hx)]
    rfl
theorem ins_head {k : List UInt8} {v : Int} : ∀ {B : List Ent}, (∀ b ∈ B, blt k b.1) → ins k v B = (k, v) :: B
  | [], _ => rfl
  | b :: B, h => by
    have h1 := h b (List.mem_cons_self ..)
    rw [ins, if_neg (fun e => blt_ne h1 e.symm), if_pos h1]
theorem ins_right {k : List UInt8} {v : Int} : ∀ (L : List Ent) {B : List Ent}, (∀ b ∈ B, blt k b.1) → ins k v (L ++ B) = ins k v L ++ B
  | [], B, h => ins_head h
  | e :: L, B, h => by
    show ins k v (e :: (L ++ B)) = _
    rw [ins, ins, ins_right L h]
    split
    · rfl
    · split <;> rfl
theorem hasK_append (k : List UInt8) (A B : List Ent) : hasK k (A ++ B) = (hasK k A || hasK k B) := List.any_append ..
theorem hasK_lt {k : List UInt8} {A : List Ent} (h : ∀ a ∈ A, blt a.1 k) : hasK k A = false := by
  unfold hasK
  rw [List.any_eq_false]
  intro a ha
  have := blt_ne (h a ha)
  simpa using this
theorem hasK_gt {k : List UInt8} {A : List Ent} (h : ∀ a ∈ A, blt k a.1) : hasK k A = false := by
  unfold hasK
  rw [List.any_eq_false]
  intro a ha
  have := blt_ne (h a ha)
  simpa using fun e => this e.symm
theorem ins_len (k : List UInt8) (v : Int) : ∀ {L : List Ent}, Srt L → (ins k v L).length = if hasK k L = true then L.length else L.length + 1
  | [], _ => rfl
  | e :: L, h => by
    obtain ⟨h1, h2⟩ := List.pairwise_cons.1 h
    rw [ins]
    by_cases he : e.1 = k
    · subst he
      rw [if_pos rfl]
      have : hasK e.1 (e :: L) = true := by simp [hasK]
      rw [if_pos this]; rfl
    · have hh : hasK k (e :: L) = hasK k L := by
        show ((e.1 == k) || hasK k L) = hasK k L
        have : (e.1 == k) = false := by simpa using he
        rw [this]; rfl
      rw [if_neg he, hh]
      by_cases hl : Op.bytesLess k e.1 = true
      · rw [if_pos hl]
        have : hasK k L = false := hasK_gt fun a ha => bl_trans _ _ _ hl (h1 a ha)
        rw [this]; rfl
      · rw [if_neg hl, List.length_cons, ins_len k v h2]
        split <;> rfl
theorem mem_ins {k : List UInt8} {v : Int} : ∀ {L : List Ent} {x : Ent}, x ∈ ins k v L → x = (k, v) ∨ x ∈ L
  | [], x, h => by rw [ins] at h; simpa using h
  | e :: L, x, h => by
    rw [ins] at h
    split at h
    · rcases List.mem_cons.1 h with h | h
      · exact .inl h
      · exact .inr (List.mem_cons_of_mem _ h)
    · split at h
      · rcases List.mem_cons.1 h with h | h
        · exact .inl h
        · exact .inr h
      · rcases List.mem_cons.1 h with h | h
        · exact .inr (h ▸ List.mem_cons_self ..)
        · rcases mem_ins h with h | h
          · exact .inl h
          · exact .inr (List.mem_cons_of_mem _ h)
theorem ins_srt (k : List UInt8) (v : Int) : ∀ {L : List Ent}, Srt L → Srt (ins k v L)
  | [], _ => by rw [ins]; exact List.pairwise_singleton _ _
  | e :: L, h => by
    obtain ⟨h1, h2⟩ := List.pairwise_cons.1 h
    rw [ins]
    by_cases he : e.1 = k
    · subst he
      rw [if_pos rfl]
      exact List.pairwise_cons.2 ⟨h1, h2⟩
    · rw [if_neg he]
      by_cases hl : Op.bytesLess k e.1 = true
      · rw [if_pos hl]
        refine List.pairwise_cons.2 ⟨fun a ha => ?_, h⟩
        rcases List.mem_cons.1 ha with rfl | ha
        · exact hl
        · exact bl_trans _ _ _ hl (h1 a ha)
      · rw [if_neg hl]
        refine List.pairwise_cons.2 ⟨fun a ha => ?_, ins_srt k v h2⟩
        rcases mem_ins ha with rfl | ha
        · exact bl_total _ _ (fun e => he e.symm) (by simpa using hl)
        · exact h1 a ha

/-- The contents of a node: its kids' contents with its own between them. -/
def inter : List (List Ent) → List Ent → List Ent
  | [], es => es
  | L :: _, [] => L
  | L :: Ls, e :: es => L ++ e :: inter Ls es
/-- What stands ahead of a kid. -/
def pre : List (List Ent) → List Ent → List Ent
  | L :: Ls, e :: es => L ++ e :: pre Ls es
  | _, _ => []
/-- What stands behind a kid. -/
def suf : List (List Ent) → List Ent → List Ent
  | _, [] => []
  | Ls, e :: es => e :: inter Ls es
theorem inter_cons (L : List Ent) (Ls : List (List Ent)) (es : List Ent) : inter (L :: Ls) es = L ++ suf Ls es := by
  cases es with
  | nil => simp [inter, suf]
  | cons e es => rfl
theorem inter_at : ∀ (P : List (List Ent)) (x : List Ent) (Q : List (List Ent)) (y : List Ent), P.length = x.length → Q ≠ [] → inter (P ++ Q) (x ++ y) = pre P x ++ inter Q y
  | [], [], Q, y, _, _ => rfl
  | [], _ :: _, _, _, h, _ => by simp at h
  | _ :: _, [], _, _, h, _ => by simp at h
  | L :: P, e :: x, Q, y, h, hq => by
    simp only [List.length_cons, Nat.add_right_cancel_iff] at h
    show L ++ e :: inter (P ++ Q) (x ++ y) = L ++ e :: pre P x ++ inter Q y
    rw [inter_at P x Q y h hq]
    simp
/-- A node cut in two. -/
theorem inter_cut : ∀ (A : List (List Ent)) (x : List Ent) (e : Ent) (B : List (List Ent)) (y : List Ent), A.length = x.length + 1 → B ≠ [] → inter (A ++ B) (x ++ e :: y) = inter A x ++ e :: inter B y
  | [], _, _, _, _, h, _ => by simp at h
  | [L], [], e, B, y, _, _ => by simp [inter]
  | _ :: _ :: _, [], _, _, _, h, _ => by simp at h
  | L :: A, e' :: x, e, B, y, h, hb => by
    simp only [List.length_cons, Nat.add_right_cancel_iff] at h
    show L ++ e' :: inter (A ++ B) (x ++ e :: y) = L ++ e' :: inter A x ++ e :: inter B y
    rw [inter_cut A x e B y h hb]
    simp
theorem pre_last : ∀ (P : List (List Ent)) (x : List Ent) (e : Ent), P.length = x.length + 1 → ∃ X, pre P (x ++ [e]) = X ++ [e]
  | [], _, _, h => by simp at h
  | [L], [], e, _ => ⟨L, rfl⟩
  | _ :: _ :: _, [], _, h => by simp at h
  | L :: P, e' :: x, e, h => by
    simp only [List.length_cons, Nat.add_right_cancel_iff] at h
    obtain ⟨X, hX⟩ := pre_last P x e h
    refine ⟨L ++ e' :: X, ?_⟩
    show L ++ e' :: pre P (x ++ [e]) = _
    rw [hX]; simp
theorem srt_append {A B : List Ent} : Srt (A ++ B) ↔ Srt A ∧ Srt B ∧ ∀ a ∈ A, ∀ b ∈ B, blt a.1 b.1 := List.pairwise_append
/-- All ahead of a place stand ahead of the key. -/
theorem pre_lt {P : List (List Ent)} {x R : List Ent} {k : List UInt8} (hl : P.length = x.length) (hs : Srt (pre P x ++ R)) (hx : ∀ e ∈ x, blt e.1 k) : ∀ a ∈ pre P x, blt a.1 k := by
  rcases List.eq_nil_or_concat x with rfl | ⟨x', e, rfl⟩
  · cases P with
    | nil => intro a ha; simp [pre] at ha
    | cons _ _ => simp at hl
  · rw [List.concat_eq_append] at *
    obtain ⟨X, hX⟩ := pre_last P x' e (by simpa using hl)
    have he := hx e (by simp)
    rw [hX] at hs ⊢
    intro a ha
    rcases List.mem_append.1 ha with ha | ha
    · have := (srt_append.1 (srt_append.1 hs).1).2.2 a ha e (by simp)
      exact bl_trans _ _ _ this he
    · simp at ha; subst ha; exact he
/-- All behind a place stand behind the key. -/
theorem suf_gt {Q : List (List Ent)} {y R : List Ent} {k : List UInt8} (hs : Srt (R ++ suf Q y)) (hy : ∀ e ∈ y, blt k e.1) : ∀ a ∈ suf Q y, blt k a.1 := by
  cases y with
  | nil => intro a ha; simp [suf] at ha
  | cons e y =>
    have he := hy e (List.mem_cons_self ..)
    intro a ha
    have h2 := (srt_append.1 hs).2.1
    rcases List.mem_cons.1 ha with rfl | ha
    · exact he
    · exact bl_trans _ _ _ he ((List.pairwise_cons.1 h2).1 a ha)

/-- The place of a key among the keys: so many stand ahead of it. -/
def pos (k : List UInt8) : List Ent → Nat
  | [] => 0
  | e :: r => if Op.bytesLess e.1 k = true then pos k r + 1 else 0
theorem pos_le (k : List UInt8) : ∀ es, pos k es ≤ es.length
  | [] => Nat.le_refl _
  | e :: r => by
    rw [pos]; split
    · have := pos_le k r; simp; omega
    · omega
theorem pos_lt (k : List UInt8) : ∀ (es : List Ent) (e : Ent), e ∈ es.take (pos k es) → blt e.1 k
  | [], e, h => by simp at h
  | x :: r, e, h => by
    rw [pos] at h
    split at h
    · rename_i hx
      rw [List.take_succ_cons] at h
      rcases List.mem_cons.1 h with rfl | h
      · exact hx
      · exact pos_lt k r e h
    · simp at h
theorem pos_ge (k : List UInt8) : ∀ (es : List Ent), Srt es → ∀ e ∈ es.drop (pos k es), Op.bytesLess e.1 k = false
  | [], _, e, h => by simp at h
  | x :: r, hs, e, h => by
    obtain ⟨h1, h2⟩ := List.pairwise_cons.1 hs
    rw [pos] at h
    split at h
    · rw [List.drop_succ_cons] at h
      exact pos_ge k r h2 e h
    · rename_i hx
      rw [List.drop_zero] at h
      cases he : Op.bytesLess e.1 k with
      | false => rfl
      | true =>
        rcases List.mem_cons.1 h with rfl | h
        · exact absurd he hx
        · exact absurd (bl_trans _ _ _ (h1 e h) he) hx
/-- The place is found by its being between. -/
theorem pos_unique (k : List UInt8) {es : List Ent} {i : Nat} (hi : i ≤ es.length) (h1 : ∀ e ∈ es.take i, blt e.1 k) (h2 : ∀ e, es[i]? = some e → Op.bytesLess e.1 k = false) : i = pos k es := by
  induction es generalizing i with
  | nil => simp at hi; subst hi; rfl
  | cons x r ih =>
    cases i with
    | zero =>
      have := h2 x rfl
      rw [pos, this]; rfl
    | succ i =>
      have hx := h1 x (by simp)
      rw [pos, if_pos hx]
      have := ih (i := i) (by simpa using hi) (fun e he => h1 e (by rw [List.take_succ_cons]; exact List.mem_cons_of_mem _ he)) (fun e he => h2 e (by simpa using he))
      omega
/-- Keys behind the place that aren't the key stand behind it. -/
theorem pos_gt (k : List UInt8) {es : List Ent} (hs : Srt es) (hn : ∀ e, es[pos k es]? = some e → e.1 ≠ k) : ∀ e ∈ es.drop (pos k es), blt k e.1 := by
  intro e he
  have h1 := pos_ge k es hs e he
  refine bl_total _ _ (fun h => ?_) h1
  obtain ⟨j, hj, rfl⟩ := List.getElem_of_mem he
  rw [List.getElem_drop] at h
  have hj' : pos k es + j < es.length := by rw [List.length_drop] at hj; omega
  cases j with
  | zero => exact hn _ (List.getElem?_eq_getElem (by omega)) (by simpa using h)
  | succ j =>
    have h0 : pos k es < es.length := by omega
    have h3 := pos_ge k es hs (es[pos k es]) (by
      rw [List.mem_iff_getElem]; exact ⟨0, by rw [List.length_drop]; omega, by rw [List.getElem_drop]; simp⟩)
    have h4 := (List.pairwise_iff_getElem.1 hs) (pos k es) (pos k es + (j + 1)) h0 hj' (by omega)
    have h5 : ∀ z : List UInt8, z = k → blt es[pos k es].1 z → blt es[pos k es].1 k := fun z hz hb => hz ▸ hb
    replace h5 := h5 _ h h4
    rw [blt, h3] at h5; cases h5

end Go.Proofs.Ytkejjahlglldlaa
