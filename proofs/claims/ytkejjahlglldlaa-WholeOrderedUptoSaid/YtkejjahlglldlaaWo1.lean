/- WholeOrdered, the plain law: what the tree holds; whose bytes lie in a head's range. No program in sight. -/
import Derived.Test.YtkejjahlglldlaaBtD
namespace Go.Proofs.Ytkejjahlglldlaa

def okV (v : V) : Prop := checkV v = 0 ∧ -9223372036854775808 ≤ v.2.1 ∧ v.2.1 ≤ 9223372036854775807
/-- The tree behind k rows. -/
def putK (rows : List (List V)) : Nat → List Ent
  | 0 => []
  | k + 1 => match rows[k]? with
    | some row => if checkL row = 0 then ins (encL row) (k : Int) (putK rows k) else putK rows k
    | none => putK rows k
theorem putK_srt (rows : List (List V)) : ∀ k, Srt (putK rows k)
  | 0 => List.Pairwise.nil
  | k + 1 => by
    rw [putK]
    split
    · split
      · exact ins_srt _ _ (putK_srt rows k)
      · exact putK_srt rows k
    · exact putK_srt rows k
theorem putK_mem (rows : List (List V)) : ∀ k, ∀ e ∈ putK rows k, ∃ j row, j < k ∧ rows[j]? = some row ∧ checkL row = 0 ∧ e = (encL row, (j : Int))
  | 0, e, h => by cases h
  | k + 1, e, h => by
    have up : (∃ j row, j < k ∧ rows[j]? = some row ∧ checkL row = 0 ∧ e = (encL row, (j : Int))) → ∃ j row, j < k + 1 ∧ rows[j]? = some row ∧ checkL row = 0 ∧ e = (encL row, (j : Int)) :=
      fun ⟨j, row, h1, h2⟩ => ⟨j, row, by omega, h2⟩
    rw [putK] at h
    split at h
    · rename_i row hrow
      split at h
      · rename_i hc
        rcases mem_ins h with rfl | h
        · exact ⟨k, row, by omega, hrow, hc, rfl⟩
        · exact up (putK_mem rows k e h)
      · exact up (putK_mem rows k e h)
    · exact up (putK_mem rows k e h)
theorem putK_len (rows : List (List V)) : ∀ k, (putK rows k).length ≤ k
  | 0 => Nat.le_refl _
  | k + 1 => by
    have h := putK_len rows k
    rw [putK]
    split
    · split
      · rw [ins_len _ _ (putK_srt rows k)]
        split <;> omega
      · omega
    · omega
theorem bl_nil (x : List UInt8) : Op.bytesLess x [] = false := by cases x <;> rfl
theorem sel_all (L : List Ent) : sel [] [] L = L := by
  unfold sel
  rw [List.filter_eq_self]
  intro e _
  simp [inR, bl_nil]

theorem checkL_ok {vs : List V} (h : checkL vs = 0) (hr : ∀ v ∈ vs, -9223372036854775808 ≤ v.2.1 ∧ v.2.1 ≤ 9223372036854775807) : ∀ v ∈ vs, okV v := fun v hv => ⟨checkL_zero vs h v hv, hr v hv⟩
/-- Two values' bytes differ within both. -/
theorem encV_ne {u v : V} (hu : okV u) (hv : okV v) (h : u ≠ v) : ∃ c, ∀ X Y, Op.bytesLess (encV u ++ X) (encV v ++ Y) = c := by
  rcases checkV_form hu.1 with ⟨n, rfl⟩ | ⟨t, rfl, _⟩ <;> rcases checkV_form hv.1 with ⟨n', rfl⟩ | ⟨t', rfl, _⟩
  · have hne : n ≠ n' := fun e => h (by rw [e])
    have hb : numBE (n + 9223372036854775808).toNat 8 ≠ numBE (n' + 9223372036854775808).toNat 8 := fun e => by
      have e2 := congrArg getN e
      rw [getN_numBE, getN_numBE] at e2
      have h1 : -9223372036854775808 ≤ n ∧ n ≤ 9223372036854775807 := hu.2
      have h2 : -9223372036854775808 ≤ n' ∧ n' ≤ 9223372036854775807 := hv.2
      omega
    refine ⟨Op.bytesLess (1 :: numBE (n + 9223372036854775808).toNat 8) (1 :: numBE (n' + 9223372036854775808).toNat 8), fun X Y => ?_⟩
    exact bl_len (1 :: numBE (n + 9223372036854775808).toNat 8) (1 :: numBE (n' + 9223372036854775808).toNat 8) X Y (by simp [numBE_len]) (fun e => hb (List.cons.inj e).2)
  · exact ⟨true, fun X Y => rfl⟩
  · exact ⟨false, fun X Y => rfl⟩
  · have hne : t ≠ t' := fun e => h (by rw [e])
    refine ⟨Op.bytesLess t t', fun X Y => ?_⟩
    have e1 : ∀ (s Z : List UInt8), encV (2, 0, s) ++ Z = [2] ++ (escT s ++ (0 :: 0 :: Z)) := fun s Z => by simp [encV]
    rw [e1, e1, bl_pre]
    exact bl_esc t t' X Y hne
theorem encV_head {u : V} (hu : okV u) : ∃ x r, encV u = x :: r ∧ x < 255 := by
  rcases checkV_form hu.1 with ⟨n, rfl⟩ | ⟨t, rfl, _⟩
  · exact ⟨1, _, rfl, by decide⟩
  · exact ⟨2, _, rfl, by decide⟩
theorem encL_cons (v : V) (vs : List V) : encL (v :: vs) = encV v ++ encL vs := by simp [encL]
/-- Whose bytes lie from a head's on and below the next. -/
theorem head_range : ∀ (head row : List V), (∀ u ∈ head, okV u) → (∀ u ∈ row, okV u) →
    (!(Op.bytesLess (encL row) (encL head)) && Op.bytesLess (encL row) (encL head ++ [255])) = decide (row.take head.length = head)
  | [], row, _, hr => by
    have h1 : Op.bytesLess (encL row) (encL []) = false := bl_nil _
    rw [h1]
    have h2 : Op.bytesLess (encL row) (encL [] ++ [255]) = true := by
      cases row with
      | nil => rfl
      | cons v vs =>
        obtain ⟨x, r, hx, h5⟩ := encV_head (hr v (by simp))
        rw [encL_cons, hx]
        show Op.bytesLess (x :: (r ++ encL vs)) [255] = true
        rw [bl_cons]; simp [h5]
    rw [h2]; simp
  | h :: hs, [], hh, _ => by
    obtain ⟨x, r, hx, _⟩ := encV_head (hh h (by simp))
    have h1 : Op.bytesLess (encL []) (encL (h :: hs)) = true := by rw [encL_cons, hx]; rfl
    rw [h1]; simp
  | h :: hs, v :: vs, hh, hr => by
    by_cases e : v = h
    · subst e
      rw [encL_cons, encL_cons, List.append_assoc, bl_pre, bl_pre, head_range hs vs (fun u hu => hh u (List.mem_cons_of_mem _ hu)) (fun u hu => hr u (List.mem_cons_of_mem _ hu))]
      simp
    · obtain ⟨c, hc⟩ := encV_ne (hr v (by simp)) (hh h (by simp)) e
      rw [encL_cons, encL_cons, List.append_assoc, hc, hc]
      have : ¬ ((v :: vs).take (h :: hs).length = h :: hs) := by
        simp only [List.length_cons, List.take_succ_cons]
        intro e2
        exact e (List.cons.inj e2).1
      rw [decide_eq_false this]
      cases c <;> rfl
/-- Does a row begin with the head? -/
def begins (head row : List V) : Bool := decide (head.length ≤ row.length) && (decide ((row.take head.length).length = head.length) && (cmpL (row.take head.length) head == 0))
theorem begins_eq (head row : List V) : begins head row = decide (row.take head.length = head) := by
  unfold begins
  by_cases h : row.take head.length = head
  · have hl := congrArg List.length h
    rw [List.length_take] at hl
    have h1 : head.length ≤ row.length := by omega
    rw [h, cmpL_self]
    simp [h1]
  · rw [decide_eq_false h]
    by_cases h1 : head.length ≤ row.length
    · have h2 : ¬ (cmpL (row.take head.length) head = 0) := fun e => h (cmpL_eq _ _ e)
      simp [h2]
    · simp [h1]
theorem inR_begins {head row : List V} (hh : ∀ u ∈ head, okV u) (hr : ∀ u ∈ row, okV u) (j : Int) : inR (encL head) (encL head ++ [255]) (encL row, j) = begins head row := by
  rw [begins_eq, ← head_range head row hh hr]
  simp [inR]
/-- How many of the first entries begin with the head. -/
def cntB (rows : List (List V)) (head : List V) (L : List Ent) : Nat := (L.filter fun e => match rows[e.2.toNat]? with
  | some row => begins head row
  | none => false).length
theorem cnt_sel {rows : List (List V)} {head : List V} (hh : ∀ u ∈ head, okV u) (hr : ∀ row ∈ rows, ∀ u ∈ row, -9223372036854775808 ≤ u.2.1 ∧ u.2.1 ≤ 9223372036854775807) (k : Nat) :
    (sel (encL head) (encL head ++ [255]) (putK rows k)).length = cntB rows head (putK rows k) := by
  unfold sel cntB
  congr 1
  refine List.filter_congr fun e he => ?_
  obtain ⟨j, row, _, h1, h2, rfl⟩ := putK_mem rows k e he
  rw [inR_begins hh (checkL_ok h2 (hr row (List.mem_of_getElem? h1)))]
  simp [h1]
theorem cntB_snoc (rows : List (List V)) (head : List V) (L : List Ent) (e : Ent) {row : List V} (h : rows[e.2.toNat]? = some row) : cntB rows head (L ++ [e]) = cntB rows head L + if begins head row = true then 1 else 0 := by
  unfold cntB
  rw [List.filter_append, List.length_append]
  congr 1
  rw [List.filter_cons]
  simp only [h]
  split <;> rfl
/-- What comes next stands behind. -/
theorem next_behind {rows : List (List V)} {k j : Nat} {p rest : List Ent} {x y : Ent} {us vs : List V} {i : Int} (hr : ∀ row ∈ rows, ∀ u ∈ row, -9223372036854775808 ≤ u.2.1 ∧ u.2.1 ≤ 9223372036854775807) (hp : p ++ [x] ++ (y :: rest) = putK rows k)
    (hx : x = (encL us, i)) (hy : y = (encL vs, (j : Int))) (hu : ∀ u ∈ us, okV u) (hv : ∀ u ∈ vs, okV u) : cmpL us vs < 0 := by
  have hs := putK_srt rows k
  rw [← hp] at hs
  have h1 : blt x.1 y.1 := (srt_append.1 hs).2.2 x (by simp) y (by simp)
  rw [hx, hy] at h1
  have h2 := bl_enc us vs hu hv
  simp only [blt] at h1
  rw [h1] at h2
  simpa using h2.symm
end Go.Proofs.Ytkejjahlglldlaa
