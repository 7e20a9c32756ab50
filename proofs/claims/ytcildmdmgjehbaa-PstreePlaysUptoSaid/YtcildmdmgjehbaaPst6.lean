/- The tree of points, seen as its sorted list: contracts for the laws. -/
import Derived.Test.YtcildmdmgjehbaaPstL
namespace Go.Proofs.Ytcildmdmgjehbaa
open Go.RowKit

/-- The tree object tb holds the points L, in order; bs: its blocks. -/
def TreeOk (w : World) (tb : Nat) (L : List Pt) (bs : List Nat) : Prop :=
  ∃ t M, TreeRep w tb t M bs ∧ t.toL = L ∧ Srt t ∧ Hp t ∧ L.Perm M ∧ (L.map (fun q => q.2.2)).Nodup

theorem TreeOk.ext {w w' : World} {tb : Nat} {L : List Pt} {bs : List Nat} (h : TreeOk w tb L bs) (he : Ext w w') : TreeOk w' tb L bs := by
  obtain ⟨t, M, h1, h2⟩ := h; exact ⟨t, M, h1.ext he, h2⟩
theorem TreeOk.touch {S : Nat → Prop} {w w' : World} {tb : Nat} {L : List Pt} {bs : List Nat} (h : TreeOk w tb L bs) (he : Touch S w w') (hn : ∀ k ∈ bs, ¬ S k) : TreeOk w' tb L bs := by
  obtain ⟨t, M, h1, h2⟩ := h; exact ⟨t, M, h1.touch he hn, h2⟩
theorem TreeOk.lt {w : World} {tb : Nat} {L : List Pt} {bs : List Nat} (h : TreeOk w tb L bs) : ∀ k ∈ bs, k < w.heap.size := by
  obtain ⟨t, M, h1, h2⟩ := h; exact h1.lt
theorem TreeOk.srt {w : World} {tb : Nat} {L : List Pt} {bs : List Nat} (h : TreeOk w tb L bs) : L.Pairwise kLt := by
  obtain ⟨t, M, h1, rfl, h2, _⟩ := h; exact h2
theorem TreeOk.ids {w : World} {tb : Nat} {L : List Pt} {bs : List Nat} (h : TreeOk w tb L bs) : (L.map (fun q => q.2.2)).Nodup := by
  obtain ⟨t, M, h1, _, _, _, _, h2⟩ := h; exact h2

theorem lookP_none {id : Int} : ∀ {M : List Pt} {i : Nat}, (∀ q ∈ M, q.2.2 ≠ id) → lookP id M i = none
  | [], _, _ => rfl
  | q :: M, i, h => by
    have hne : ¬ id = q.2.2 := fun e => h q (List.mem_cons_self ..) e.symm
    rw [lookP, if_neg hne]
    exact lookP_none (M := M) fun q' hq => h q' (List.mem_cons_of_mem _ hq)
theorem lookP_of_none {id : Int} : ∀ {M : List Pt} {i : Nat}, lookP id M i = none → ∀ q ∈ M, q.2.2 ≠ id
  | [], _, _, q, hq => by simp at hq
  | q :: M, i, h, q', hq => by
    simp only [lookP] at h
    split at h
    · simp at h
    · rename_i hne
      rcases List.mem_cons.1 hq with rfl | hq
      · exact fun e => hne e.symm
      · exact lookP_of_none h q' hq
theorem lookP_some {id : Int} : ∀ {M : List Pt} {i : Nat} {j : Nat} {q : Pt}, lookP id M i = some (j, q) → q ∈ M ∧ q.2.2 = id ∧ i ≤ j ∧ M.Perm (q :: M.eraseIdx (j - i))
  | [], _, _, _, h => by simp [lookP] at h
  | p :: M, i, j, q, h => by
    simp only [lookP] at h
    split at h
    · rename_i he
      simp only [Option.some.injEq, Prod.mk.injEq] at h
      obtain ⟨rfl, rfl⟩ := h
      exact ⟨by simp, he.symm, Nat.le_refl _, by simp⟩
    · obtain ⟨h1, h2, h3, h4⟩ := lookP_some h
      refine ⟨by simp [h1], h2, by omega, ?_⟩
      rw [show j - i = (j - (i + 1)) + 1 from by omega, List.eraseIdx_cons_succ]
      exact (h4.cons p).trans (List.Perm.swap _ _ _)

theorem unique_id {L : List Pt} (h : (L.map (fun q => q.2.2)).Nodup) {p q : Pt} (hp : p ∈ L) (hq : q ∈ L) (he : p.2.2 = q.2.2) : p = q := by
  induction L with
  | nil => simp at hp
  | cons a L ih =>
    simp only [List.map_cons, List.nodup_cons, List.mem_map, not_exists, not_and] at h
    rcases List.mem_cons.1 hp with h1 | h1 <;> rcases List.mem_cons.1 hq with h2 | h2
    · rw [h1, h2]
    · exact absurd (h1 ▸ he).symm (h.1 q h2)
    · exact absurd (h2 ▸ he) (h.1 p h1)
    · exact ih h.2 h1 h2

def NewOk (w : World) (e : Ending) (w' : World) : Prop := ∃ tb bs, e = .returned (.pointer (some ⟨tb, 0, none⟩)) ∧ TreeOk w' tb [] bs ∧ (∀ k ∈ bs, w.heap.size ≤ k) ∧ Ext w w'
theorem New_ok (w : World) : Calls Try.prog 8 #[] w (NewOk w) :=
  (New_any w).mono fun e w' ⟨tb, bs, h1, h2, h3, h4⟩ => ⟨tb, bs, h1, ⟨.nil, [], h2, rfl, by simp [Srt, PT.toL], trivial, List.Perm.refl _, by simp⟩, h3, h4⟩

def AddOk (tb : Nat) (p : Pt) (L : List Pt) (bs : List Nat) (w : World) (e : Ending) (w' : World) : Prop :=
  ∃ L' bs', e = .returned (.int .i64 0) ∧ TreeOk w' tb L' bs' ∧ L'.Perm (p :: L) ∧ (∀ k ∈ bs', k ∈ bs ∨ w.heap.size ≤ k) ∧ Touch (fun k => k ∈ bs) w w'
theorem Add_ok (tb : Nat) (px py pid : Int) (L : List Pt) (bs : List Nat) (w : World) (h : TreeOk w tb L bs) (hid : ∀ q ∈ L, q.2.2 ≠ pid) :
    Calls Try.prog 9 #[.pointer (some ⟨tb, 0, none⟩), pt px py pid] w (AddOk tb (px, py, pid) L bs w) := by
  obtain ⟨t, M, h1, rfl, h3, h4, h5, h6⟩ := h
  refine (Add_new tb px py pid t M bs w h1 (lookP_none fun q hq => hid q (h5.symm.subset hq))).mono ?_
  rintro e w' ⟨bs', g1, g2, g3, g4⟩
  have hk : noKey px pid t.toL := fun q hq => fun e => hid q hq e.2
  have hp := padd_perm px py pid t
  refine ⟨(padd px py pid t).toL, bs', g1, ⟨padd px py pid t, _, g2, rfl, padd_srt px py pid t h3 hk, padd_hp px py pid t h4 hk, ?_, ?_⟩, hp, g3, g4⟩
  · exact hp.trans ((List.Perm.cons _ h5).trans (List.perm_append_singleton _ _).symm)
  · refine (hp.map _).nodup_iff.2 ?_
    simp only [List.map_cons, List.nodup_cons, List.mem_map, not_exists, not_and]
    exact ⟨hid, h6⟩
theorem Add_dup (tb : Nat) (px py pid : Int) (L : List Pt) (bs : List Nat) (w : World) (h : TreeOk w tb L bs) (hid : ∃ q ∈ L, q.2.2 = pid) :
    Calls Try.prog 9 #[.pointer (some ⟨tb, 0, none⟩), pt px py pid] w (fun e w' => e = .returned (.int .i64 90) ∧ Ext w w') := by
  obtain ⟨t, M, h1, rfl, h3, h4, h5, h6⟩ := h
  cases hl : lookP pid M 0 with
  | none =>
    obtain ⟨q, hq, he⟩ := hid
    exact absurd he (lookP_of_none hl q (h5.subset hq))
  | some jq => obtain ⟨j, q⟩ := jq; exact Add_there tb px py pid t M bs w h1 hl

def CutOk (tb : Nat) (p : Pt) (L : List Pt) (bs : List Nat) (w : World) (e : Ending) (w' : World) : Prop :=
  ∃ L' bs', e = .returned (.int .i64 0) ∧ TreeOk w' tb L' bs' ∧ L.Perm (p :: L') ∧ L'.Sublist L ∧ (∀ k ∈ bs', k ∈ bs) ∧ Touch (fun k => k ∈ bs) w w'
theorem Cut_ok (tb : Nat) (p : Pt) (L : List Pt) (bs : List Nat) (w : World) (h : TreeOk w tb L bs) (hp : p ∈ L) :
    Calls Try.prog 15 #[.pointer (some ⟨tb, 0, none⟩), .int .i64 p.2.2] w (CutOk tb p L bs w) := by
  obtain ⟨t, M, h1, rfl, h3, h4, h5, h6⟩ := h
  cases hl : lookP p.2.2 M 0 with
  | none => exact absurd rfl (lookP_of_none hl p (h5.subset hp))
  | some jq =>
    obtain ⟨j, q⟩ := jq
    obtain ⟨g1, g2, g3, g4⟩ := lookP_some hl
    have hqp : q = p := unique_id h6 (h5.symm.subset g1) hp g2
    subst hqp
    obtain ⟨px, py, pid⟩ := q
    have hway := pcut_way px py pid t h3 hp
    refine (Cut_some tb pid px py pid t M bs w h1 hl hway).mono ?_
    rintro e w' ⟨bs', k1, k2, k3, k4⟩
    have hperm := pcut_perm px py pid t hway
    have hsub := pcut_sub px py pid t
    refine ⟨(pcut px py pid t).toL, bs', k1, ⟨pcut px py pid t, _, k2, rfl, pcut_srt px py pid t h3, pcut_hp px py pid t h3 h4, ?_, ?_⟩, hperm, hsub, k3, k4⟩
    · refine (List.perm_cons (px, py, pid)).1 ?_
      exact hperm.symm.trans (h5.trans g4)
    · exact (hsub.map _).nodup h6
theorem Cut_no (tb : Nat) (id : Int) (L : List Pt) (bs : List Nat) (w : World) (h : TreeOk w tb L bs) (hid : ∀ q ∈ L, q.2.2 ≠ id) :
    Calls Try.prog 15 #[.pointer (some ⟨tb, 0, none⟩), .int .i64 id] w (fun e w' => e = .returned (.int .i64 4) ∧ Ext w w') := by
  obtain ⟨t, M, h1, rfl, h3, h4, h5, h6⟩ := h
  exact Cut_none tb id t M bs w h1 (lookP_none fun q hq => hid q (h5.symm.subset hq))

def inRange (low high least : Int) (L : List Pt) : List Pt := L.filter fun q => decide (low ≤ q.1 ∧ q.1 ≤ high ∧ least ≤ q.2.1)
theorem Find_ok (low high least : Int) (tb : Nat) (L : List Pt) (bs : List Nat) (w : World) (h : TreeOk w tb L bs) (hsz : L.length * 24 ≤ 140737488355328) :
    Calls Try.prog 11 #[.pointer (some ⟨tb, 0, none⟩), .int .i64 low, .int .i64 high, .int .i64 least] w (PointsPost (inRange low high least L) w) := by
  obtain ⟨t, M, ⟨v, m, bn, g1, g2, g3, _⟩, rfl, h3, h4, h5, h6⟩ := h
  have := Find_any low high least t v bn tb m w g1 g2 (by rw [count_toL]; exact hsz)
  rw [pfind_eq low high least t h3 h4] at this
  exact this

theorem Len_ok (tb : Nat) (L : List Pt) (bs : List Nat) (w : World) (h : TreeOk w tb L bs) :
    Calls Try.prog 10 #[.pointer (some ⟨tb, 0, none⟩)] w (fun e w' => e = .returned (.int .i64 L.length) ∧ w = w') := by
  obtain ⟨t, M, ⟨v, m, bn, g1, g2, g3, _⟩, rfl, h3, h4, h5, h6⟩ := h
  have := Len_any tb m v M w g1 g3
  rw [← h5.length_eq] at this
  exact this

theorem Top_ok (tb : Nat) (L : List Pt) (bs : List Nat) (w : World) (h : TreeOk w tb L bs) (hne : L ≠ []) :
    ∃ p ∈ L, (∀ q ∈ L, q = p ∨ kAb p q) ∧ Calls Try.prog 14 #[.pointer (some ⟨tb, 0, none⟩)] w (fun e w' => e = .returned (.tuple #[pt p.1 p.2.1 p.2.2, .int .i64 0]) ∧ Ext w w') := by
  obtain ⟨t, M, ⟨v, m, bn, g1, g2, g3, _⟩, rfl, h3, h4, h5, h6⟩ := h
  cases t with
  | nil => exact absurd rfl hne
  | node x y i l r =>
    refine ⟨(x, y, i), by simp [PT.toL], ?_, Top_any tb m v (.node x y i l r) bn w g1 g2⟩
    intro q hq
    simp only [PT.toL, List.mem_append, List.mem_cons] at hq
    rcases hq with hq | hq | hq
    · exact .inr (h4.1 q hq)
    · exact .inl hq
    · exact .inr (h4.2.1 q hq)
theorem Top_none (tb : Nat) (bs : List Nat) (w : World) (h : TreeOk w tb [] bs) :
    Calls Try.prog 14 #[.pointer (some ⟨tb, 0, none⟩)] w (fun e w' => e = .returned (.tuple #[pt 0 0 0, .int .i64 5]) ∧ Ext w w') := by
  obtain ⟨t, M, ⟨v, m, bn, g1, g2, g3, _⟩, h2, h3, h4, h5, h6⟩ := h
  cases t with
  | nil => exact Top_any tb m v .nil bn w g1 g2
  | node x y i l r => simp [PT.toL] at h2
end Go.Proofs.Ytcildmdmgjehbaa
