/- append of a literal, inside a fence. No program is named here. What the interval tree gives out: the plain law. No program is walked here. ritree.Overlap's closure: what a tree's range holds is put to a list: walked. ritree.Overlap: walked. -/
import Derived.Test.YtkejjahlglldlaaMA
import Derived.Maps.OwnIn
import Derived.Test.YtkejjahlglldlaaMRi5
import Derived.Test.YtkejjahlglldlaaMH
import Derived.Test.YtkejjahlglldlaaMI
import Derived.Test.YtkejjahlglldlaaMWo2
namespace Go.Proofs.Ytkejjahlglldlaa
open Go.RowKit

section
variable {F : Fence} {nF : Nat} {P : Program} {w : World} {ops : Array Oper} {rest : List Oper} {o : Oper} {a : Act} {Q : Exit → Act → World → Prop}
theorem app_litI {t e : TypeId} {size bytes : Nat} (E : EI P t e size bytes) (hgd : o.guard = none) (s x : Operand)
    (ho : o.op = .call { callee := .builtin .append, args := #[s, x], argTypes := #[t, t] })
    {g : Option Nat} {n cap : Nat} {xs : List Value} (hs : a.eval s = slv g n cap) (hown : Sl w e size g n cap xs)
    {b m c : Nat} {news : List Value} {e' : TypeId} {f : Nat × Nat} (hx : a.eval x = .slice (some ⟨b, 0, none⟩) m c) (hl : news.length = m * size)
    (hnews : w.heap[b]? = some (.cells news.toArray e' f)) (h1 : ∀ u ∈ news, u.oneCell' = true) (hm : 0 < m) (hb : (n + m) * bytes ≤ 140737488355328)
    (h : ∀ g' cap' w', Sl w' e size (some g') (n + m) cap' (xs ++ news) → Touch (fun k => g = some k) w w' → (g = some g' ∨ g' = w.heap.size) →
      wpListIn F nF P ops Q rest (a.put o.dst (.slice (some ⟨g', 0, none⟩) (n + m) cap')) w') : wpListIn F nF P ops Q (o :: rest) a w := by
  obtain ⟨i, z, hi, hz, h2, h3, h4⟩ := E.info
  have h63 : n + m ≤ maxLen := by
    have := Nat.le_mul_of_pos_right (n + m) E.bpos
    simp only [maxLen]
    omega
  refine wpListIn_append_own_at w hgd s x t ho 0 e i z size bytes E.und hi hz h2 h3 h4 E.pos (slv g n cap) n xs hs hown.owns ⟨b, 0, none⟩ m c news hx hl ?_ h1 h63 hb (Nat.zero_le _) ?_
  · intro j u hu
    have := blk_cell hnews (show news.toArray[j]? = some u by simpa using hu)
    unfold Addr.add
    split
    · rename_i hj; subst hj; exact this
    · rw [Nat.zero_add]; exact this
  · intro v' w' hown' hgr hnil hat
    rcases hown'.2 with ⟨_, h0⟩ | ⟨g', cap', cur, rfl, _, hgg, h5, h6, h7, h8⟩
    · omega
    · refine h g' cap' w' (Sl.of_owns hown') ?_ ?_
      · rw [ownBlock_slv] at hgr
        exact ⟨hgr.os, hgr.tape, hgr.output, hgr.size, fun k hk hn => hgr.block k hk fun e => hn e.symm⟩
      · rw [ownBlock_slv] at hat
        rcases hat with hat | hat
        · exact .inl hat.symm
        · exact .inr (Option.some.inj hat)
end
end Go.Proofs.Ytkejjahlglldlaa
namespace Go.Proofs.Ytkejjahlglldlaa
open Go.RowKit Go.Lib

/-- Two periods have an instant in common. -/
def ov (q p : Per) : Prop := q.1 < p.2 ∧ p.1 < q.2
def idsU (F : Nat) (U : List Ent) (n : Nat) : List Int := (sel (kb3 n (F + 1) 0) (kb3 (n + 1) 0 0) U).map Prod.snd
def idsM (F T : Nat) (L : List Ent) : List Int := (sel (kb3 F 0 0) (kb3 T 0 0) L).map Prod.snd
def idsR (T : Nat) (L : List Ent) (n : Nat) : List Int := (sel (kb3 n 0 0) (kb3 n T 0) L).map Prod.snd

theorem inR_iff {fr tu : List UInt8} {e : Ent} (htu : tu ≠ []) : inR fr tu e = true ↔ ¬ Op.bytesLess e.1 fr = true ∧ Op.bytesLess e.1 tu = true := by
  unfold inR
  simp [htu]
theorem mem_sel {fr tu : List UInt8} {L : List Ent} {e : Ent} (htu : tu ≠ []) : e ∈ sel fr tu L ↔ e ∈ L ∧ ¬ Op.bytesLess e.1 fr = true ∧ Op.bytesLess e.1 tu = true := by
  unfold sel
  rw [List.mem_filter, inR_iff htu]

section
variable {rs : List Row} {L U : List Ent} {F T : Nat}
theorem mem_idsU (hU : Holds2 kU rs U) (hok : ∀ r ∈ rs, okR r) (hF : F < 1099511627776) {n : Nat} (hn : n ≤ 1099511627776) (i : Int) : i ∈ idsU F U n ↔ ∃ r ∈ rs, r.1 = i ∧ fk r.2 = n ∧ (F : Int) < r.2.2 := by
  unfold idsU
  simp only [List.mem_map]
  constructor
  · rintro ⟨e, he, rfl⟩
    obtain ⟨h1, h2, h3⟩ := (mem_sel (kb3_ne _ _ _)).1 he
    obtain ⟨r, hr, rfl⟩ := (hU.iff e).1 h1
    obtain ⟨a1, a2, a3, a4⟩ := okR_nat (hok r hr)
    have f1 := fk_lt (hok r hr).1
    have i1 := idN_lt (hok r hr).2
    rw [show (kU r).1 = kb3 (fk r.2) r.2.2.toNat (idN r.1) from rfl, kb3_less (by omega) (by omega) i1 (by omega) (by omega) (by omega)] at h2 h3
    exact ⟨r, hr, rfl, by omega, by omega⟩
  · rintro ⟨r, hr, rfl, h1, h2⟩
    obtain ⟨a1, a2, a3, a4⟩ := okR_nat (hok r hr)
    have f1 := fk_lt (hok r hr).1
    have i1 := idN_lt (hok r hr).2
    refine ⟨kU r, (mem_sel (kb3_ne _ _ _)).2 ⟨(hU.iff _).2 ⟨r, hr, rfl⟩, ?_, ?_⟩, rfl⟩
    · rw [show (kU r).1 = kb3 (fk r.2) r.2.2.toNat (idN r.1) from rfl, kb3_less (by omega) (by omega) i1 (by omega) (by omega) (by omega)]; omega
    · rw [show (kU r).1 = kb3 (fk r.2) r.2.2.toNat (idN r.1) from rfl, kb3_less (by omega) (by omega) i1 (by omega) (by omega) (by omega)]; omega
theorem mem_idsM (hL : Holds2 kL rs L) (hok : ∀ r ∈ rs, okR r) (hF : F < T) (hT : T ≤ 1099511627776) (i : Int) : i ∈ idsM F T L ↔ ∃ r ∈ rs, r.1 = i ∧ F ≤ fk r.2 ∧ fk r.2 < T := by
  unfold idsM
  simp only [List.mem_map]
  constructor
  · rintro ⟨e, he, rfl⟩
    obtain ⟨h1, h2, h3⟩ := (mem_sel (kb3_ne _ _ _)).1 he
    obtain ⟨r, hr, rfl⟩ := (hL.iff e).1 h1
    obtain ⟨a1, a2, a3, a4⟩ := okR_nat (hok r hr)
    have f1 := fk_lt (hok r hr).1
    have i1 := idN_lt (hok r hr).2
    rw [show (kL r).1 = kb3 (fk r.2) r.2.1.toNat (idN r.1) from rfl, kb3_less (by omega) (by omega) i1 (by omega) (by omega) (by omega)] at h2 h3
    exact ⟨r, hr, rfl, by omega, by omega⟩
  · rintro ⟨r, hr, rfl, h1, h2⟩
    obtain ⟨a1, a2, a3, a4⟩ := okR_nat (hok r hr)
    have f1 := fk_lt (hok r hr).1
    have i1 := idN_lt (hok r hr).2
    refine ⟨kL r, (mem_sel (kb3_ne _ _ _)).2 ⟨(hL.iff _).2 ⟨r, hr, rfl⟩, ?_, ?_⟩, rfl⟩
    · rw [show (kL r).1 = kb3 (fk r.2) r.2.1.toNat (idN r.1) from rfl, kb3_less (by omega) (by omega) i1 (by omega) (by omega) (by omega)]; omega
    · rw [show (kL r).1 = kb3 (fk r.2) r.2.1.toNat (idN r.1) from rfl, kb3_less (by omega) (by omega) i1 (by omega) (by omega) (by omega)]; omega
theorem mem_idsR (hL : Holds2 kL rs L) (hok : ∀ r ∈ rs, okR r) (hT : T ≤ 1099511627776) {n : Nat} (hn : n ≤ 1099511627776) (i : Int) : i ∈ idsR T L n ↔ ∃ r ∈ rs, r.1 = i ∧ fk r.2 = n ∧ r.2.1 < (T : Int) := by
  unfold idsR
  simp only [List.mem_map]
  constructor
  · rintro ⟨e, he, rfl⟩
    obtain ⟨h1, h2, h3⟩ := (mem_sel (kb3_ne _ _ _)).1 he
    obtain ⟨r, hr, rfl⟩ := (hL.iff e).1 h1
    obtain ⟨a1, a2, a3, a4⟩ := okR_nat (hok r hr)
    have f1 := fk_lt (hok r hr).1
    have i1 := idN_lt (hok r hr).2
    rw [show (kL r).1 = kb3 (fk r.2) r.2.1.toNat (idN r.1) from rfl, kb3_less (by omega) (by omega) i1 (by omega) (by omega) (by omega)] at h2 h3
    exact ⟨r, hr, rfl, by omega, by omega⟩
  · rintro ⟨r, hr, rfl, h1, h2⟩
    obtain ⟨a1, a2, a3, a4⟩ := okR_nat (hok r hr)
    have f1 := fk_lt (hok r hr).1
    have i1 := idN_lt (hok r hr).2
    refine ⟨kL r, (mem_sel (kb3_ne _ _ _)).2 ⟨(hL.iff _).2 ⟨r, hr, rfl⟩, ?_, ?_⟩, rfl⟩
    · rw [show (kL r).1 = kb3 (fk r.2) r.2.1.toNat (idN r.1) from rfl, kb3_less (by omega) (by omega) i1 (by omega) (by omega) (by omega)]; omega
    · rw [show (kL r).1 = kb3 (fk r.2) r.2.1.toNat (idN r.1) from rfl, kb3_less (by omega) (by omega) i1 (by omega) (by omega) (by omega)]; omega

theorem row_of_id (hids : (rs.map Prod.fst).Nodup) {r s : Row} (hr : r ∈ rs) (hs : s ∈ rs) (e : r.1 = s.1) : r = s := by
  obtain ⟨i, hi, rfl⟩ := List.getElem_of_mem hr
  obtain ⟨j, hj, rfl⟩ := List.getElem_of_mem hs
  have h6 : (rs.map Prod.fst)[i]'(by simpa using hi) = (rs.map Prod.fst)[j]'(by simpa using hj) := by simpa using e
  have := nodup_idx hids h6
  subst this
  rfl
theorem ids_nodup {k : Row → Ent} (hk : ∀ r, (k r).2 = r.1) (hL : Holds2 k rs L) (hs : Srt L) (hids : (rs.map Prod.fst).Nodup) (fr tu : List UInt8) : ((sel fr tu L).map Prod.snd).Nodup := by
  have h1 : (L.map Prod.snd).Nodup := by
    rw [List.nodup_iff_pairwise_ne, List.pairwise_map]
    refine List.Pairwise.imp_of_mem ?_ hs
    intro a b ha hb hlt e
    obtain ⟨r, hr, rfl⟩ := (hL.iff a).1 ha
    obtain ⟨s, hs, rfl⟩ := (hL.iff b).1 hb
    rw [hk, hk] at e
    rw [row_of_id hids hr hs e] at hlt
    exact blt_ne hlt rfl
  exact h1.sublist (List.filter_sublist.map _)

/-- All that is collected. -/
def allIds (F T : Nat) (L U : List Ent) (Ls Rs : List Nat) : List Int := Ls.flatMap (idsU F U) ++ idsM F T L ++ Rs.flatMap (idsR T L)
theorem flat_nodup {f : Nat → List Int} : ∀ {l : List Nat}, l.Nodup → (∀ n ∈ l, (f n).Nodup) → (∀ n ∈ l, ∀ m ∈ l, ∀ i, i ∈ f n → i ∈ f m → n = m) → (l.flatMap f).Nodup
  | [], _, _, _ => by simp
  | n :: l, h1, h2, h3 => by
    obtain ⟨a1, a2⟩ := List.nodup_cons.1 h1
    rw [List.flatMap_cons]
    refine List.nodup_append.2 ⟨h2 n (by simp), flat_nodup a2 (fun m hm => h2 m (List.mem_cons_of_mem _ hm)) (fun m hm m' hm' => h3 m (List.mem_cons_of_mem _ hm) m' (List.mem_cons_of_mem _ hm')), fun a ha b hb e => ?_⟩
    subst e
    obtain ⟨m, hm, hb⟩ := List.mem_flatMap.1 hb
    have := h3 n (by simp) m (List.mem_cons_of_mem _ hm) a ha hb
    subst this
    exact a1 hm

theorem collected (hL : Holds2 kL rs L) (hU : Holds2 kU rs U) (hsL : Srt L) (hsU : Srt U) (hids : (rs.map Prod.fst).Nodup) (hok : ∀ r ∈ rs, okR r) (hF : F < T) (hT : T ≤ 1099511627776) {Ls Rs : List Nat} {D : List Nat}
    (hnL : Ls.Nodup) (hnR : Rs.Nodup) (hbL : ∀ n ∈ Ls, n < F) (hbR : ∀ n ∈ Rs, T ≤ n ∧ n ≤ 1099511627776) (hc1 : Covers D F) (hc2 : Covers D (T - 1)) (hD : ∀ y ∈ D, (y < F → y ∈ Ls) ∧ (T ≤ y → y ∈ Rs)) :
    (allIds F T L U Ls Rs).Nodup ∧ ∀ i, i ∈ allIds F T L U Ls Rs ↔ ∃ r ∈ rs, r.1 = i ∧ ov r.2 ((F : Int), (T : Int)) := by
  have mU : ∀ n ∈ Ls, ∀ i, i ∈ idsU F U n ↔ ∃ r ∈ rs, r.1 = i ∧ fk r.2 = n ∧ (F : Int) < r.2.2 := fun n hn i => mem_idsU hU hok (by omega) (by have := hbL n hn; omega) i
  have mM := fun i => mem_idsM hL hok hF hT i
  have mR : ∀ n ∈ Rs, ∀ i, i ∈ idsR T L n ↔ ∃ r ∈ rs, r.1 = i ∧ fk r.2 = n ∧ r.2.1 < (T : Int) := fun n hn i => mem_idsR hL hok hT (hbR n hn).2 i
  refine ⟨?_, fun i => ?_⟩
  · unfold allIds
    refine List.nodup_append.2 ⟨List.nodup_append.2 ⟨flat_nodup hnL (fun n _ => ids_nodup (fun _ => rfl) hU hsU hids _ _) ?_, ids_nodup (fun _ => rfl) hL hsL hids _ _, ?_⟩, flat_nodup hnR (fun n _ => ids_nodup (fun _ => rfl) hL hsL hids _ _) ?_, ?_⟩
    · intro n hn m hm i h1 h2
      obtain ⟨r, hr, e1, e2, _⟩ := (mU n hn i).1 h1
      obtain ⟨s, hs, e3, e4, _⟩ := (mU m hm i).1 h2
      have := row_of_id hids hr hs (e1.trans e3.symm)
      subst this
      exact e2.symm.trans e4
    · intro a ha b hb e
      subst e
      obtain ⟨n, hn, ha⟩ := List.mem_flatMap.1 ha
      obtain ⟨r, hr, e1, e2, _⟩ := (mU n hn a).1 ha
      obtain ⟨s, hs, e3, e4, _⟩ := (mM a).1 hb
      have := row_of_id hids hr hs (e1.trans e3.symm)
      subst this
      have := hbL n hn
      omega
    · intro n hn m hm i h1 h2
      obtain ⟨r, hr, e1, e2, _⟩ := (mR n hn i).1 h1
      obtain ⟨s, hs, e3, e4, _⟩ := (mR m hm i).1 h2
      have := row_of_id hids hr hs (e1.trans e3.symm)
      subst this
      exact e2.symm.trans e4
    · intro a ha b hb e
      subst e
      obtain ⟨n, hn, hb⟩ := List.mem_flatMap.1 hb
      obtain ⟨s, hs, e3, e4, _⟩ := (mR n hn a).1 hb
      have := (hbR n hn).1
      rcases List.mem_append.1 ha with ha | ha
      · obtain ⟨m, hm, ha⟩ := List.mem_flatMap.1 ha
        obtain ⟨r, hr, e1, e2, _⟩ := (mU m hm a).1 ha
        have := row_of_id hids hr hs (e1.trans e3.symm)
        subst this
        have := hbL m hm
        omega
      · obtain ⟨r, hr, e1, e2, e5⟩ := (mM a).1 ha
        have := row_of_id hids hr hs (e1.trans e3.symm)
        subst this
        omega
  · unfold allIds
    simp only [List.mem_append, List.mem_flatMap]
    constructor
    · rintro ((⟨n, hn, h⟩ | h) | ⟨n, hn, h⟩)
      · obtain ⟨r, hr, e1, e2, e3⟩ := (mU n hn i).1 h
        have h5 := fork_mem (fk_spec (hok r hr).1) (hok r hr).1.2.1
        have := hbL n hn
        exact ⟨r, hr, e1, by show r.2.1 < (T : Int); omega, e3⟩
      · obtain ⟨r, hr, e1, e2, e3⟩ := (mM i).1 h
        have h5 := fork_mem (fk_spec (hok r hr).1) (hok r hr).1.2.1
        exact ⟨r, hr, e1, by show r.2.1 < (T : Int); omega, by show (F : Int) < r.2.2; omega⟩
      · obtain ⟨r, hr, e1, e2, e3⟩ := (mR n hn i).1 h
        have h5 := fork_mem (fk_spec (hok r hr).1) (hok r hr).1.2.1
        have := (hbR n hn).1
        exact ⟨r, hr, e1, e3, by show (F : Int) < r.2.2; omega⟩
    · rintro ⟨r, hr, e1, o1, o2⟩
      have o1 : r.2.1 < (T : Int) := o1
      have o2 : (F : Int) < r.2.2 := o2
      have hsp := fk_spec (hok r hr).1
      have h5 := fork_mem hsp (hok r hr).1.2.1
      have h7 := (hok r hr).1.1
      by_cases hl : fk r.2 < F
      · refine .inl (.inl ⟨fk r.2, ?_, (mU _ ?_ i).2 ⟨r, hr, e1, rfl, o2⟩⟩)
        all_goals
          refine (hD _ ?_).1 hl
          rcases hsp with ⟨_, h0⟩ | ⟨k, b, h0, _, _, _, b1, b2, b3⟩
          · have : fk r.2 = 0 := by omega
            rw [this]; exact hc1.1
          · have h0 : fk r.2 = bb k b := by omega
            rw [h0]
            exact hc1.2 k b ⟨by omega, by omega⟩ (by omega) b3
      · by_cases hr2 : T ≤ fk r.2
        · refine .inr ⟨fk r.2, ?_, (mR _ ?_ i).2 ⟨r, hr, e1, rfl, o1⟩⟩
          all_goals
            refine (hD _ ?_).2 hr2
            rcases hsp with ⟨_, h0⟩ | ⟨k, b, h0, _, _, _, b1, b2, b3⟩
            · omega
            · have h0 : fk r.2 = bb k b := by omega
              rw [h0]
              exact hc2.2 k b ⟨by omega, by omega⟩ (by omega) b3
        · exact .inl (.inr ((mM i).2 ⟨r, hr, e1, by omega, by omega⟩))
end
end Go.Proofs.Ytkejjahlglldlaa
namespace Go.Proofs.Ytkejjahlglldlaa
open Go.RowKit Go.Lib Go.Shelf

/-- Between two rounds: the list so far. -/
def IT (wL : World) (ob : Nat) (g : Option Nat) (out : List Int) {L : List Ent} (pre : List (EntOf L)) (W : World) : Prop :=
  ∃ (g' : Option Nat) (cap' : Nat), W.heap[ob]? = some (.cells #[slv g' (out.length + pre.length) cap'] 46 (0, 0)) ∧ ISl W g' (out.length + pre.length) cap' (out ++ pre.map fun e => e.1.2) ∧ g' ≠ some ob ∧ (∀ b, g' = some b → g = some b ∨ wL.heap.size ≤ b) ∧ Touch (fun k => k = ob ∨ g = some k) wL W
theorem IT_own (wL : World) (ob : Nat) (g : Option Nat) (out : List Int) (L : List Ent) : OwnFrom wL.heap.size (IT wL ob g out (L := L)) := by
  rintro pre W W' row ⟨g', cap', h1, h2, h3, h4, h5⟩ hg hr
  have hr2 := fun q e => (hr q e).2
  exact ⟨g', cap', blk_kept h1 hg hr2, h2.kept hg hr2, h3, h4, touch_kept h5 (Nat.le_refl _) hg hr⟩
theorem pts_cell {W : World} {ob k n c : Nat} {g : Option Nat} {t : TypeId} {f : Nat × Nat} (h : W.heap[ob]? = some (.cells #[slv g n c] t f)) : Ob.Pts W ob k ↔ g = some k := by
  constructor
  · rintro ⟨cs, t', f', off, n', c', p1, p2⟩
    rw [h] at p1
    cases p1
    cases g with
    | none => simp [slv, adr] at p2
    | some b => simp [slv, adr] at p2; rw [p2.1.1]
  · intro hg
    subst hg
    exact ⟨_, _, _, 0, n, c, h, rfl⟩
theorem IT_next {wL W W1 : World} {ob : Nat} {g g' : Option Nat} {cap' g2 c2 : Nat} {out : List Int} {L : List Ent} {pre : List (EntOf L)} {x : EntOf L} (hob : ob < wL.heap.size)
    (h1 : W.heap[ob]? = some (.cells #[slv g' (out.length + pre.length) cap'] 46 (0, 0))) (h2 : ISl W g' (out.length + pre.length) cap' (out ++ pre.map fun e => e.1.2)) (h3 : g' ≠ some ob) (h4 : ∀ b, g' = some b → g = some b ∨ wL.heap.size ≤ b) (h5 : Touch (fun k => k = ob ∨ g = some k) wL W)
    (hS : Sl W1 2 1 (some g2) (out.length + pre.length + 1) c2 (intsV (out ++ pre.map fun e => e.1.2) ++ [.int .i64 x.1.2])) (hT : Touch (fun k => g' = some k) (W.alloc (.cells #[.int .i64 x.1.2] 2)) W1) (hat : g' = some g2 ∨ g2 = W.heap.size + 1) :
    KeepsFrom wL.heap.size W (W1.setCell ⟨ob, 0, none⟩ (.slice (some ⟨g2, 0, none⟩) (out.length + pre.length + 1) c2)) ∧ Ob.KB ob wL.heap.size W (W1.setCell ⟨ob, 0, none⟩ (.slice (some ⟨g2, 0, none⟩) (out.length + pre.length + 1) c2)) ∧
      IT wL ob g out (pre ++ [x]) (W1.setCell ⟨ob, 0, none⟩ (.slice (some ⟨g2, 0, none⟩) (out.length + pre.length + 1) c2)) := by
  have hsz := h5.size
  have hobW := blk_lt h1
  have hT2 : Touch (fun k => k = ob ∨ g' = some k) W (W1.setCell ⟨ob, 0, none⟩ (.slice (some ⟨g2, 0, none⟩) (out.length + pre.length + 1) c2)) :=
    ((((Ext.refl W).alloc _).touch _).trans' (hT.mono (fun k _ e => .inr e)) (fun _ _ e => e)).setCell (p := ⟨ob, 0, none⟩) (fun _ => .inl rfl) _
  have hB1 : W1.heap[ob]? = some (.cells #[slv g' (out.length + pre.length) cap'] 46 (0, 0)) := hT.old (blk_alloc h1) h3
  have hB2 : (W1.setCell ⟨ob, 0, none⟩ (.slice (some ⟨g2, 0, none⟩) (out.length + pre.length + 1) c2)).heap[ob]? = some (.cells #[slv (some g2) (out.length + pre.length + 1) c2] 46 (0, 0)) := blk_set hB1 0 _
  have hg2 : some g2 ≠ some ob := by
    intro e; cases e
    rcases hat with e | e
    · exact h3 e
    · omega
  have hl : out.length + (pre ++ [x]).length = out.length + pre.length + 1 := by simp; omega
  refine ⟨⟨hT2.size, fun k o hk hko hc => hT2.old hko ?_⟩, ⟨hT2.size, fun k cs t f hk hn hko => hT2.old hko ?_, fun k hp => ?_⟩, some g2, c2, ?_, ?_, hg2, ?_, ?_⟩
  · rintro (e | e)
    · subst e; rw [h1] at hko; cases hko; simp [Obj.isCells] at hc
    · obtain ⟨cs, t, f, hb⟩ := h2.isCells k e
      rw [hb] at hko; cases hko; simp [Obj.isCells] at hc
  · rintro (e | e)
    · subst e; omega
    · exact hn ((pts_cell h1).2 e)
  · rw [pts_cell hB2] at hp
    cases hp
    rcases hat with e | e
    · exact .inl ((pts_cell h1).2 e)
    · exact .inr (by omega)
  · rw [hl]; exact hB2
  · rw [hl]
    show Sl _ _ _ _ _ _ (intsV _)
    have e1 : intsV (out ++ (pre ++ [x]).map fun e => e.1.2) = intsV (out ++ pre.map fun e => e.1.2) ++ [.int .i64 x.1.2] := by simp [intsV]
    rw [e1]
    exact hS.set_off _ _ (fun b hb e => hg2 (by rw [hb, e]))
  · intro b hb; cases hb
    rcases hat with e | e
    · exact h4 _ e
    · exact .inr (by omega)
  · refine h5.trans' hT2 fun k hk e => ?_
    rcases e with e | e
    · exact .inl e
    · rcases h4 k e with e2 | e2
      · exact .inr e2
      · omega

/-- What the closure leaves. -/
def TakePost (ob : Nat) (g : Option Nat) (out ids : List Int) (w : World) (e : Ending) (w' : World) : Prop :=
  (∃ v, e = .returned v) ∧ ∃ (g' : Option Nat) (cap' : Nat), w'.heap[ob]? = some (.cells #[slv g' (out ++ ids).length cap'] 46 (0, 0)) ∧ ISl w' g' (out ++ ids).length cap' (out ++ ids) ∧ g' ≠ some ob ∧ (∀ b, g' = some b → g = some b ∨ w.heap.size ≤ b) ∧ Touch (fun k => k = ob ∨ g = some k) w w'
attribute [local go_sem] Oper.semAt_some in
set_option maxRecDepth 100000 in
set_option maxHeartbeats 4000000 in
theorem Take_ok (tb m ob cap : Nat) (L : List Ent) (bs : List Nat) (fr tu : List UInt8) (g : Option Nat) (out : List Int) (w : World) (hT : TreeAt w tb m L bs) (hB : w.heap[ob]? = some (.cells #[slv g out.length cap] 46 (0, 0))) (hS : ISl w g out.length cap out) (hne : g ≠ some ob)
    (hlen : out.length + L.length ≤ 10000000000000) :
    Calls Try.prog 58 #[.pointer (some ⟨tb, 0, none⟩), str fr, str tu, .pointer (some ⟨ob, 0, none⟩)] w (TakePost ob g out ((sel fr tu L).map Prod.snd) w) := by
  have HT := Lib.hid hT; have HB := Lib.hid hB; have HS := Lib.hid hS; have HNE := Lib.hid hne
  clear hT hB hS hne
  refine (callsIn_wide (n := 9)).1 (callsIn_of_wp_marks Try.func58 rfl trivial (wpIn_wide.2 ?_) rfl)
  simp only [Try.ntmps58, List.size_toArray, List.length_cons, List.length_nil, Nat.reduceAdd, Nat.reduceSub, Array.replicate_succ, Array.replicate_zero, List.push_toArray, List.append_toArray, List.nil_append, List.cons_append]
  go_wp2_with fail
  refine (Range_ok tb fr tu w).mono ?_
  rintro e wL ⟨rfl, hCa, hEL⟩
  have hobL : ob < wL.heap.size := Nat.lt_of_lt_of_le (blk_lt HB.out) hEL.size
  have HBL := Lib.hid (Ext.block hEL HB.out)
  have HSL := Lib.hid (HS.out.ext hEL)
  have HTL := Lib.hid (HT.out.ext hEL)
  have HEL := Lib.hid hEL
  have hpt : ∀ k, Ob.Pts wL ob k → k < wL.heap.size := fun k hk => by
    have h1 := (pts_cell HBL.out).1 hk
    have h2 := HSL.out
    rw [h1] at h2
    exact h2.block_lt
  clear hEL
  go_wp2_with fail
  refine Ob.range_round (n := 9) (ob := ob) (α := EntOf L) (by omega) hobL (gf := 39) rfl (enters_of Try.func39 (by kernel_rfl) rfl)
    (Ob.range_stops 8 tb m ob wL.heap.size w.heap.size L bs fr tu wL HTL.out hCa (Nat.le_refl _) hobL hpt) (fun _ => rfl) (IT wL ob g out) (fun _ _ _ => False) (IT_own wL ob g out L) (fun _ _ _ _ _ h _ _ => h) ?h0 ?round ?done ?stop
  case h0 => exact ⟨g, cap, by simpa using HBL.out, by simpa using HSL.out, HNE.out, fun b hb => .inl hb, Touch.refl _ _⟩
  case stop => intro D c pre W _ hp hn; exact hn.elim
  case round =>
    intro l0 pre0 x W0 K hI hK
    have hro : (Fence.wide.inRound l0).round = some l0 := rfl
    have hfn : ∀ f, (Fence.wide.inRound l0).fn f := fun _ => trivial
    gi_wp2
    refine hK _ _ (KeepsFrom.refl _ _) (Ob.KB.refl _ _ _) hI ?_
    clear hro hfn hK hI pre0 l0 K W0
    intro l pre W hI hpl
    obtain ⟨g', cap', h1, h2, h3, h4, h5⟩ := hI
    have H1 := Lib.hid h1; have H2 := Lib.hid h2; have H3 := Lib.hid h3; have H4 := Lib.hid h4; have H5 := Lib.hid h5
    clear h1 h2 h3 h4 h5
    have c3 := blk1 H1.out
    have hro : (Fence.wide.inRound l).round = some l := rfl
    have hfn : ∀ f, (Fence.wide.inRound l).fn f := fun _ => trivial
    have hpl2 : pre.length ≤ L.length := by
      have h1 : (sel fr tu L).length ≤ L.length := List.length_filter_le _ _
      omega
    gi_wp2_with (gi_at_builtin; refine app_litI ei_int64 rfl (.tmp 15) (.tmp 17) rfl (g := g') (n := out.length + pre.length) (cap := cap') (b := W.heap.size) (by rfl) (H2.out.ext ((Ext.refl _).alloc _)) (by rfl) (news := [.int .i64 x.1.2]) rfl (blk_new W _) (by intro u hu; simp at hu; subst hu; rfl) (by omega) (by omega) ?_)
    intro g2 c2 W1 hS hT hat
    have hz := blk_frozen (hT.old (blk_alloc (o' := .cells #[.int .i64 x.1.2] 2) H1.out) H3.out) 0
    have hc := blk1 (hT.old (blk_alloc (o' := .cells #[.int .i64 x.1.2] 2) H1.out) H3.out)
    have HN := Lib.hid (IT_next hobL H1.out H2.out H3.out H4.out H5.out (by simpa [intsV] using hS) hT hat)
    clear hS hT hat c3
    gi_wp2_with fail
    exact HN.out
  case done =>
    intro D xs W hD hxs hI hKd
    obtain ⟨g', cap', h1, h2, h3, h4, h5⟩ := hI
    have hids : xs.map (fun e => e.1.2) = (sel fr tu L).map Prod.snd := by rw [← hxs, List.map_map]; rfl
    rw [hids] at h2
    have hl : out.length + xs.length = (out ++ (sel fr tu L).map Prod.snd).length := by rw [← hids]; simp
    rw [hl] at h1 h2
    have HR : Hid (∀ W', Touch (fun k => k = D) W W' → TakePost ob g out ((sel fr tu L).map Prod.snd) w (.returned (.tuple #[])) W') := Lib.hid (by
      intro W' hTD
      have hobD : ob ≠ D := by omega
      refine ⟨⟨_, rfl⟩, g', cap', hTD.old h1 hobD, h2.touch hTD (fun b hb e => ?_), h3, fun b hb => (h4 b hb).imp (fun e => e) (fun e => Nat.le_trans HEL.out.size e), ?_⟩
      · subst e
        obtain ⟨cs, t, f, hb2⟩ := h2.isCells b hb
        rw [hb2] at hKd; cases hKd
      · refine ((HEL.out.touch _).trans' h5 (fun _ _ e => e)).trans' hTD fun k hk e => ?_
        have := HEL.out.size
        omega)
    clear h1 h2 h3 h4 h5 hxs hids hl
    go_wp2
    exact leaves_marks [D] W (fun D' h => by simp at h; subst h; exact hKd) (by simp) (fun W' hTD => ⟨.tuple #[], results_none rfl _ _ _, HR.out W' (hTD.mono (fun k _ e => by simpa using e))⟩)
end Go.Proofs.Ytkejjahlglldlaa
namespace Go.Proofs.Ytkejjahlglldlaa
open Go.RowKit Go.Lib

set_option maxRecDepth 100000 in
set_option maxHeartbeats 2000000 in
theorem Nodes_no (q : Per) (w : World) (hq : ¬ okP q) : Calls Try.prog 57 #[perV q] w fun e w' => e = .returned (.tuple #[.slice none 0 0, .slice none 0 0, .int .i64 40]) ∧ Ext w w' := by
  have HQ := Lib.hid hq; clear hq
  go_enter Try.func57, Try.ntmps57
  go_wp2_with fail
  refine (Check_no q _ HQ.out).mono ?_
  rintro e w1 ⟨rfl, hE1⟩
  have HE1 : Hid (Ext w w1) := Lib.hid (((((Ext.refl w).alloc _).alloc _).alloc _).trans hE1)
  have h2 := Ext.block hE1 (blk_alloc (blk_new (w.alloc (.cells #[.int .i64 q.1, .int .i64 q.2] 45)) (.cells #[.slice none 0 0] 46)))
  have h3 := Ext.block hE1 (blk_new ((w.alloc (.cells #[.int .i64 q.1, .int .i64 q.2] 45)).alloc (.cells #[.slice none 0 0] 46)) (.cells #[.slice none 0 0] 46))
  simp only [World.size_alloc] at h2 h3
  have HB2 := Lib.hid h2; have HB3 := Lib.hid h3
  clear h2 h3 hE1
  have hlb : w.heap.size ≤ w.heap.size + 1 := by omega
  have hrb : w.heap.size ≤ w.heap.size + 1 + 1 := by omega
  have hlr : ¬ w.heap.size + 1 = w.heap.size + 1 + 1 := by omega
  have hrl : ¬ w.heap.size + 1 + 1 = w.heap.size + 1 := by omega
  have HLB := Lib.hid hlb; have HRB := Lib.hid hrb
  clear hlb hrb
  generalize hrbn : w.heap.size + 1 + 1 = rb at *
  generalize hlbn : w.heap.size + 1 = lb at *
  clear hrbn hlbn
  have c2 := blk_cell HB2.out (i := 0) rfl
  have c3 := blk_cell HB3.out (i := 0) rfl
  have z2 := blk_frozen HB2.out 0
  have z3 := blk_frozen HB3.out 0
  have B1 : Hid (((w1.setCell ⟨lb, 0, none⟩ (.slice none 0 0)).setCell ⟨rb, 0, none⟩ (.slice none 0 0)).heap[lb]? = some (.cells #[.slice none 0 0] 46 (0, 0))) := Lib.hid (blk_set_ne (blk_set HB2.out 0 _) hlr _)
  have B2 : Hid (((w1.setCell ⟨lb, 0, none⟩ (.slice none 0 0)).setCell ⟨rb, 0, none⟩ (.slice none 0 0)).heap[rb]? = some (.cells #[.slice none 0 0] 46 (0, 0))) := Lib.hid (blk_set (blk_set_ne HB3.out hrl _) 0 _)
  go_wp2
  have r0 := blk_cell B1.out (i := 0) rfl
  have r1 := blk_cell B2.out (i := 0) rfl
  refine bodyPost_ret (v := .tuple #[.slice none 0 0, .slice none 0 0, .int .i64 40]) (by simp [results, Try.results57, go_sem, r0, r1]; try rfl) rfl ?_
  refine ⟨rfl, Touch.ext (S := fun k => k = lb ∨ k = rb) (((HE1.out.touch _).setCell (p := ⟨lb, 0, none⟩) (fun _ => .inl rfl) _).setCell (p := ⟨rb, 0, none⟩) (fun _ => .inr rfl) _) (fun i hi e => ?_)⟩
  have h5 := HLB.out
  have h6 := HRB.out
  rcases e with e | e <;> omega

/-- The list that Overlap fills, behind W4. -/
structure OV (W4 : World) (ob : Nat) (out : List Int) (W : World) : Prop where
  ex : ∃ (g : Option Nat) (cap : Nat), W.heap[ob]? = some (.cells #[slv g out.length cap] 46 (0, 0)) ∧ ISl W g out.length cap out ∧ g ≠ some ob ∧ ∀ b, g = some b → W4.heap.size ≤ b
  touch : Touch (fun k => k = ob) W4 W
theorem OV.ext {W4 W W' : World} {ob : Nat} {out : List Int} (h : OV W4 ob out W) (hE : Ext W W') : OV W4 ob out W' := by
  obtain ⟨g, cap, h1, h2, h3, h4⟩ := h.ex
  exact ⟨⟨g, cap, Ext.block hE h1, h2.ext hE, h3, h4⟩, h.touch.trans (hE.touch _)⟩
/-- One range more. -/
theorem OV.take {W4 W : World} {ob tb m : Nat} {out : List Int} {L : List Ent} {bs : List Nat} (h : OV W4 ob out W) (hT : TreeAt W4 tb m L bs) (hob : ob ∉ bs) (fr tu : List UInt8) (hlen : out.length + L.length ≤ 10000000000000) :
    Calls Try.prog 58 #[.pointer (some ⟨tb, 0, none⟩), str fr, str tu, .pointer (some ⟨ob, 0, none⟩)] W fun e w' => (∃ v, e = .returned v) ∧ OV W4 ob (out ++ (sel fr tu L).map Prod.snd) w' := by
  obtain ⟨g, cap, h1, h2, h3, h4⟩ := h.ex
  refine (Take_ok tb m ob cap L bs fr tu g out W (hT.touch h.touch (fun x hx e => hob (e ▸ hx))) h1 h2 h3 hlen).mono ?_
  rintro e w' ⟨hv, g', cap', q1, q2, q3, q4, q5⟩
  have hz := h.touch.size
  refine ⟨hv, ⟨g', cap', q1, q2, q3, fun b hb => (q4 b hb).elim (h4 b) (fun e => Nat.le_trans hz e)⟩, h.touch.trans' q5 fun k hk e => ?_⟩
  rcases e with e | e
  · exact e
  · have := h4 k e; omega

theorem sel_len (fr tu : List UInt8) (L : List Ent) : ((sel fr tu L).map Prod.snd).length ≤ L.length := by rw [List.length_map]; exact List.length_filter_le _ _

def OvlPost (F T : Nat) (rs : List Row) (w : World) (e : Ending) (w' : World) : Prop :=
  ∃ (g : Option Nat) (cap : Nat) (ids : List Int), e = .returned (.tuple #[slv g ids.length cap, .int .i64 0]) ∧ ISl w' g ids.length cap ids ∧ Ext w w' ∧ ids.Pairwise (fun a b => a < b) ∧ ∀ i, i ∈ ids ↔ ∃ r ∈ rs, r.1 = i ∧ ov r.2 ((F : Int), (T : Int))

set_option maxRecDepth 100000 in
set_option maxHeartbeats 2000000 in
theorem RiOvl_no (t : Nat) (q : Per) (w : World) (hq : ¬ okP q) : Calls Try.prog 21 #[.pointer (some ⟨t, 0, none⟩), perV q] w fun e w' => e = .returned (.tuple #[.slice none 0 0, .int .i64 40]) ∧ Ext w w' := by
  have HQ := Lib.hid hq; clear hq
  go_enter Try.func21, Try.ntmps21
  go_wp2_with fail
  refine (Nodes_no q _ HQ.out).mono ?_
  rintro e w1 ⟨rfl, hE1⟩
  have HE := Lib.hid (((Ext.refl w).alloc _).trans hE1); clear hE1
  go_wp2
  go_ret2
  exact ⟨rfl, HE.out⟩

theorem key0_ok (a b : Nat) (w : World) (ha : a < 9223372036854775808) (hb : b < 9223372036854775808) :
    Calls Try.prog 51 #[.int .i64 (a : Int), .int .i64 (b : Int), .int .i64 (-9223372036854775808)] w fun e w' => e = .returned (str (kb3 a b 0)) ∧ Ext w w' :=
  key_ok a b (-9223372036854775808) w ha hb ⟨by omega, by omega⟩
theorem flat_len {f : Nat → List Int} {B : Nat} : ∀ {l : List Nat}, (∀ n, (f n).length ≤ B) → (l.flatMap f).length ≤ l.length * B
  | [], _ => by simp
  | n :: l, h => by
    have := flat_len (l := l) h
    have := h n
    rw [List.flatMap_cons, List.length_append, List.length_cons, Nat.succ_mul]
    omega
theorem nats_of {Ls : List Int} {F : Int} (h : ∀ y ∈ Ls, 0 ≤ y ∧ y < F) {i : Nat} {y : Int} (hy : Ls[i]? = some y) : ∃ n : Nat, y = (n : Int) ∧ (Ls.map Int.toNat)[i]? = some n ∧ (n : Int) < F := by
  have h1 := h y (List.mem_of_getElem? hy)
  exact ⟨y.toNat, by omega, by simp [hy], by omega⟩
theorem nodup_nats {Ls : List Int} (h : Ls.Pairwise fun a b => a < b) (h0 : ∀ y ∈ Ls, 0 ≤ y) : (Ls.map Int.toNat).Nodup := by
  rw [List.nodup_iff_pairwise_ne, List.pairwise_map]
  refine List.Pairwise.imp_of_mem ?_ h
  intro a b ha hb hlt e
  have := h0 a ha
  have := h0 b hb
  omega
theorem mem_nats {Ls : List Int} (h0 : ∀ y ∈ Ls, 0 ≤ y) {n : Nat} : n ∈ Ls.map Int.toNat ↔ (n : Int) ∈ Ls := by
  rw [List.mem_map]
  constructor
  · rintro ⟨y, hy, rfl⟩
    have := h0 y hy
    rw [Int.toNat_of_nonneg this]; exact hy
  · intro h; exact ⟨_, h, by simp⟩

set_option maxRecDepth 100000 in
set_option maxHeartbeats 8000000 in
theorem RiOvl_ok (t F T : Nat) (rs : List Row) (bs : List Nat) (w : World) (h : RiOk w t rs bs) (hok : okP ((F : Int), (T : Int))) (hlen : rs.length ≤ 1000000000) :
    Calls Try.prog 21 #[.pointer (some ⟨t, 0, none⟩), perV ((F : Int), (T : Int))] w (OvlPost F T rs w) := by
  have HH := Lib.hid h
  have HOK := Lib.hid hok
  have hFT : F < T := by have := hok.2.1; simp only at this; omega
  have hT : T ≤ 1099511627776 := by have := hok.2.2; simp only at this; omega
  clear h hok
  go_enter Try.func21, Try.ntmps21
  go_wp2_with fail
  refine (Nodes_ok F T _ HOK.out).mono ?_
  rintro e w1 ⟨gl, gr, cl, cr, Ls, Rs, rfl, hSL, hSR, hE1, hsL, hsR, hbL, hbR, hln, D, hc1, hc2, hD⟩
  have HE1 : Hid (Ext w w1) := Lib.hid (((Ext.refl w).alloc _).trans hE1)
  have HP := Lib.hid (Ext.block hE1 (blk_new w (.cells #[.int .i64 (F : Int), .int .i64 (T : Int)] 45)))
  have HSL := Lib.hid hSL; have HSR := Lib.hid hSR; have HsL := Lib.hid hsL; have HsR := Lib.hid hsR; have HbL := Lib.hid hbL; have HbR := Lib.hid hbR; have HC1 := Lib.hid hc1; have HC2 := Lib.hid hc2; have HD := Lib.hid hD
  obtain ⟨hlL, hlR⟩ := hln
  clear hSL hSR hE1 hsL hsR hbL hbR hc1 hc2 hD
  generalize hpb : w.heap.size = pb at *
  have HPB := Lib.hid hpb; clear hpb
  have HV0 : Hid (OV (w1.alloc (.cells #[.slice none 0 0] 46)) w1.heap.size [] (w1.alloc (.cells #[.slice none 0 0] 46))) :=
    Lib.hid ⟨⟨none, 0, blk_new _ _, Sl.nil _ _ _, by simp, by simp⟩, Touch.refl _ _⟩
  have HOBL : Hid (∀ x, x < w1.heap.size → x ≠ w1.heap.size) := Lib.hid (fun x hx => by omega)
  have HE4 : Hid (Ext w1 (w1.alloc (.cells #[.slice none 0 0] 46))) := Lib.hid ((Ext.refl w1).alloc _)
  go_wp2
  have hobn : w1.heap.size = (w1.alloc (.cells #[.slice none 0 0] 46)).heap.size - 1 := by rw [World.size_alloc]; omega
  clear hobn
  have HW1 : Hid (∀ x, x < w1.heap.size → ¬ x = w1.heap.size) := Lib.hid (fun x hx => by omega)
  have hbslt := HH.out.lt
  have hz1 := HE1.out.size
  have HBS0 : Hid (∀ x ∈ bs, x ≠ w1.heap.size) := Lib.hid (fun x hx => by have := hbslt x hx; omega)
  have HPO : Hid (pb ≠ w1.heap.size) := Lib.hid (by have := blk_lt HP.out; omega)
  have HGL : Hid (∀ b, gl = some b → b ≠ w1.heap.size) := Lib.hid (fun b hb => by have h1 := HSL.out; rw [hb] at h1; have := h1.block_lt; omega)
  have HGR : Hid (∀ b, gr = some b → b ≠ w1.heap.size) := Lib.hid (fun b hb => by have h1 := HSR.out; rw [hb] at h1; have := h1.block_lt; omega)
  have HOB2 : Hid (w.heap.size ≤ w1.heap.size) := Lib.hid hz1
  clear hbslt hz1 HW1 HOBL
  have HP4 := Lib.hid (Ext.block HE4.out HP.out)
  have HSL4 := Lib.hid (HSL.out.ext HE4.out)
  have HSR4 := Lib.hid (HSR.out.ext HE4.out)
  have HH4 := Lib.hid (HH.out.ext (HE1.out.trans HE4.out))
  have HE14 := Lib.hid (HE1.out.trans HE4.out)
  clear HP HSL HSR HE4 HE1 HH
  generalize w1.alloc (.cells #[.slice none 0 0] 46) = W4 at *
  generalize w1.heap.size = ob at *
  obtain ⟨lo, up, mb, L, U, bl, bu, h1, h2, h3, h4, h5, h6, h7⟩ := HH4.out.ex
  have HTB := Lib.hid h1; have HLT := Lib.hid h2; have HUT := Lib.hid h3; have HHL := Lib.hid h5; have HHU := Lib.hid h6
  have HTO : Hid (t ≠ ob) := Lib.hid (HBS0.out t (by rw [h7]; simp))
  have HOL : Hid (ob ∉ bl) := Lib.hid (fun e => HBS0.out ob (by rw [h7]; simp [e]) rfl)
  have HOU : Hid (ob ∉ bu) := Lib.hid (fun e => HBS0.out ob (by rw [h7]; simp [e]) rfl)
  have hLl : L.length ≤ 1000000000 := holds_sz h5 hlen
  have hUl : U.length ≤ 1000000000 := holds_sz h6 hlen
  clear h1 h2 h3 h4 h5 h6 h7 HBS0
  have hwF : IntKind.i64.wrap ((F : Int) + 1) = (F : Int) + 1 := by rw [IntKind.wrap_i64]; omega
  obtain ⟨LN, hLN⟩ : ∃ LN, Ls.length = LN := ⟨_, rfl⟩
  have HLN := Lib.hid hLN
  rw [hLN] at hlL ⊢
  clear hLN
  go_loopg [27] LN (fun k v27 wz => ∃ i : Nat, v27 = .int .i64 (i : Int) ∧ i + k = LN ∧ OV W4 ob (((Ls.map Int.toNat).take i).flatMap (idsU F U)) wz)
  case atStart => exact ⟨0, rfl, by omega, by simpa using HV0.out⟩
  case round =>
    obtain ⟨i, rfl, hik, hV⟩ := hrel
    have HV := Lib.hid hV
    clear hV HV0
    have HVC := HV
    by_cases hi : i = LN
    · have hlt : decide (i < LN) = false := decide_eq_false (by omega)
      have HI := Lib.hid hi; clear hi
      have HV9 : Hid (OV W4 ob ((Ls.map Int.toNat).flatMap (idsU F U)) wr) := Lib.hid (by
        have h9 := HV.out
        rw [HI.out, List.take_of_length_le (by rw [List.length_map, HLN.out]; exact Nat.le_refl _)] at h9
        exact h9)
      have hol : ((Ls.map Int.toNat).flatMap (idsU F U)).length ≤ 200 * 1000000000 := by
        refine Nat.le_trans (flat_len (B := 1000000000) (fun n => Nat.le_trans (sel_len _ _ _) hUl)) (Nat.mul_le_mul_right _ (by rw [List.length_map, HLN.out]; exact hlL))
      have HOLN : Hid (((Ls.map Int.toNat).flatMap (idsU F U)).length + L.length ≤ 10000000000000) := Lib.hid (by omega)
      have HOL2 := Lib.hid hol
      clear hol
      go_wp2_with fail
      refine region_calm [.p 0, .p 1, .p 2, .p 3, .l 4, .p 5, .l 6, .p 8, .l 9, .h 7 true, .h 10 true, .h 11 false] f_mixed (by kernel_rfl) (by kernel_rfl) ?_
      replace HVC := Lib.hid (HV9.out.ext (Ext.refl wr).drew)
      clear HV HV9
      generalize wr.drew = V1 at *
      have HV5 := HVC
      have HTB1 := Lib.hid (HVC.out.touch.old HTB.out HTO.out)
      have HP1 := Lib.hid (HVC.out.touch.old HP4.out HPO.out)
      obtain ⟨c0, c1, c2⟩ := blk3 HTB1.out
      have p0 := blk_cell HP1.out (i := 0) rfl
      have p1 := blk_cell HP1.out (i := 1) rfl
      repeat (first | (refine plan_p rfl (fun K hK => ?_); go_simp; refine hK _ ?_; clear hK K) | (refine plan_l rfl (fun K hK => ?_); go_simp; refine hK _ ?_; clear hK K))
      refine plan_ct rfl rfl (fun K _ hK => ?_)
      go_wp2_with fail
      refine (show Calls _ _ #[.int .i64 ((F : Nat) : Int), .int .i64 ((0 : Nat) : Int), .int .i64 (-9223372036854775808)] _ _ from (key0_ok F 0 _ (by omega) (by omega)).mono ?_)
      rintro e W6 ⟨rfl, hE6⟩
      go_wp2
      refine hK _ _ (hE6) ?_; clear hK K
      have HV6 := Lib.hid (HV5.out.ext hE6)
      clear hE6 c0 c1 c2 p0 p1
      repeat (first | (refine plan_p rfl (fun K hK => ?_); go_simp; refine hK _ ?_; clear hK K) | (refine plan_l rfl (fun K hK => ?_); go_simp; refine hK _ ?_; clear hK K))
      refine plan_ct rfl rfl (fun K _ hK => ?_)
      go_wp2_with fail
      refine (show Calls _ _ #[.int .i64 ((T : Nat) : Int), .int .i64 ((0 : Nat) : Int), .int .i64 (-9223372036854775808)] _ _ from (key0_ok T 0 _ (by omega) (by omega)).mono ?_)
      rintro e W7 ⟨rfl, hE7⟩
      go_wp2
      refine hK _ _ (hE7) ?_; clear hK K
      have HV7 := Lib.hid (HV6.out.ext hE7)
      clear hE7
      repeat (first | (refine plan_p rfl (fun K hK => ?_); go_simp; refine hK _ ?_; clear hK K) | (refine plan_l rfl (fun K hK => ?_); go_simp; refine hK _ ?_; clear hK K))
      refine plan_c rfl rfl (fun K _ hK => ?_)
      go_wp2_with fail
      refine (HV7.out.take HLT.out HOL.out (kb3 F 0 0) (kb3 T 0 0) HOLN.out).mono ?_
      rintro e W8 ⟨⟨v8, rfl⟩, hV8⟩
      have HV8 := Lib.hid hV8
      clear hV8
      go_wp2
      refine plan_done ?_
      have HVM : Hid (OV W4 ob ((Ls.map Int.toNat).flatMap (idsU F U) ++ idsM F T L) W8) := HV8
      have hoM : ((Ls.map Int.toNat).flatMap (idsU F U) ++ idsM F T L).length ≤ 201 * 1000000000 := by
        have h1 := HOL2.out
        have h2 : (idsM F T L).length ≤ 1000000000 := Nat.le_trans (sel_len _ _ _) hLl
        rw [List.length_append]; omega
      have HOM := Lib.hid hoM
      clear HV8 HV7 HV6 HV5 HVC HOLN HOL2 hoM HTB1 HP1
      obtain ⟨PRE, hPRE⟩ : ∃ PRE, (Ls.map Int.toNat).flatMap (idsU F U) ++ idsM F T L = PRE := ⟨_, rfl⟩
      rw [hPRE] at HVM HOM
      have HPRE := Lib.hid hPRE
      clear hPRE
      obtain ⟨RN, hRN⟩ : ∃ RN, Rs.length = RN := ⟨_, rfl⟩
      have HRN := Lib.hid hRN
      rw [hRN] at hlR ⊢
      clear hRN
      go_wp2
      go_loopg [60] RN (fun k v60 wz => ∃ i : Nat, v60 = .int .i64 (i : Int) ∧ i + k = RN ∧ OV W4 ob (PRE ++ ((Rs.map Int.toNat).take i).flatMap (idsR T L)) wz)
      case atStart => exact ⟨0, rfl, by omega, by simpa using HVM.out⟩
      case round =>
        obtain ⟨i, rfl, hik, hV⟩ := hrel
        have HV := Lib.hid hV
        clear hV HVM hlt
        have HVC := HV
        by_cases hi : i = RN
        · have hlt : decide (i < RN) = false := decide_eq_false (by omega)
          have HI2 := Lib.hid hi; clear hi
          have HV9 : Hid (OV W4 ob (allIds F T L U (Ls.map Int.toNat) (Rs.map Int.toNat)) wr) := Lib.hid (by
            have h9 := HV.out
            rw [HI2.out, List.take_of_length_le (by rw [List.length_map, HRN.out]; exact Nat.le_refl _), ← HPRE.out] at h9
            exact h9)
          have hol : (allIds F T L U (Ls.map Int.toNat) (Rs.map Int.toNat)).length ≤ 4398046511104 := by
            have h1 := HOM.out
            rw [← HPRE.out] at h1
            have h2 := flat_len (l := Rs.map Int.toNat) (B := 1000000000) (fun n => Nat.le_trans (sel_len (kb3 n 0 0) (kb3 n T 0) L) hLl)
            have h3 : ((Rs.map Int.toNat).flatMap (idsR T L)).length ≤ (Rs.map Int.toNat).length * 1000000000 := h2
            have h4 : (Rs.map Int.toNat).length ≤ 200 := by rw [List.length_map, HRN.out]; exact hlR
            have h5 := Nat.mul_le_mul_right 1000000000 h4
            unfold allIds
            rw [List.length_append]; omega
          have hcol := collected (rs := rs) HHL.out HHU.out HLT.out.srt HUT.out.srt HH4.out.ids HH4.out.ok hFT hT (nodup_nats HsL.out (fun y hy => (HbL.out y hy).1)) (nodup_nats HsR.out (fun y hy => by have := (HbR.out y hy).1; omega))
            (fun n hn => by have := (HbL.out _ ((mem_nats (fun y hy => (HbL.out y hy).1)).1 hn)).2; omega) (fun n hn => by have := HbR.out _ ((mem_nats (fun y hy => by have := (HbR.out y hy).1; omega)).1 hn); omega) HC1.out HC2.out
            (fun y hy => ⟨fun h => (mem_nats (fun y hy => (HbL.out y hy).1)).2 ((HD.out y hy).1 h), fun h => (mem_nats (fun y hy => by have := (HbR.out y hy).1; omega)).2 ((HD.out y hy).2 h)⟩)
          obtain ⟨A, hA⟩ : ∃ A, allIds F T L U (Ls.map Int.toNat) (Rs.map Int.toNat) = A := ⟨_, rfl⟩
          rw [hA] at HV9 hol hcol
          have HCOL := Lib.hid hcol
          clear hcol hA HV HVC
          obtain ⟨g, cap, q1, q2, q3, q4⟩ := HV9.out.ex
          have Q1 := Lib.hid q1; have Q2 := Lib.hid q2; have Q3 := Lib.hid q3; have Q4 := Lib.hid q4
          clear q1 q2 q3 q4
          have c9 := blk1 Q1.out
          go_wp2_with fail
          refine (sortI_ok g A.length cap A wr Q2.out hol).mono ?_
          rintro e W9 ⟨rfl, hS9, hT9⟩
          have HS9 := Lib.hid hS9; have HT9 := Lib.hid hT9
          clear hS9 hT9 c9
          have c9 := blk1 (HT9.out.old Q1.out Q3.out)
          go_wp2
          go_ret2
          have hml : (A.mergeSort fun x y => decide (x ≤ y)).length = A.length := List.length_mergeSort ..
          have hpm := List.mergeSort_perm A (fun x y => decide (x ≤ y))
          refine ⟨g, cap, A.mergeSort fun x y => decide (x ≤ y), (by rw [hml]; rfl), by rw [hml]; exact HS9.out, ?_, ?_, fun i => by rw [hpm.mem_iff]; exact HCOL.out.2 i⟩
          · refine Touch.ext (S := fun k => k = ob ∨ g = some k) (((HE14.out.touch _).trans' (HV9.out.touch.mono (fun k _ e => .inl e)) (fun _ _ e => e)).trans' (HT9.out.mono (fun k _ e => .inr e)) (fun _ _ e => e)) (fun i hi e => ?_)
            have h5 := HOB2.out
            have h6 := HE14.out.size
            rcases e with e | e
            · omega
            · have := Q4.out i e; omega
          · have h1 := List.pairwise_mergeSort (le := fun x y : Int => decide (x ≤ y)) (fun a b c h1 h2 => by simp at *; omega) (fun a b => by simp; omega) A
            have h2 : (A.mergeSort fun x y => decide (x ≤ y)).Nodup := hpm.nodup_iff.2 HCOL.out.1
            refine List.Pairwise.imp₂ ?_ h1 h2
            intro a b hab hne
            have : a ≤ b := by simpa using hab
            have : a ≠ b := hne
            omega
        · have hi2 : i < RN := by omega
          obtain ⟨y, hy⟩ : ∃ y, Rs[i]? = some y := ⟨Rs[i]'(by have := HRN.out; omega), List.getElem?_eq_getElem _⟩
          obtain ⟨n, rfl, hn, hnF⟩ := nats_of (F := 1099511627777) (fun y hy => by have := HbR.out y hy; omega) hy
          have hnF' : n ≤ 1099511627776 := by omega
          obtain ⟨grb, HGB⟩ : ∃ b, Hid (gr = some b) := HSR4.out.some_of_pos (by have := HRN.out; omega)
          have hs1 := HSR4.out.touch HV.out.touch (fun b hb e => HGR.out b hb e)
          rw [HGB.out] at hs1
          have hcy := hs1.cell (j := i) (u := .int .i64 (n : Int)) (by simp [hy])
          have hri := fun U => run_index_slv (P := Try.prog) ei_int64 (g := gr) (b := grb) (cap := cr) HGB.out (j := i) (n := RN) hi2 U
          have hlt : decide (i < RN) = true := decide_eq_true hi2
          have hwi : IntKind.i64.wrap ((i : Int) + 1) = (i : Int) + 1 := by rw [IntKind.wrap_i64]; omega
          have hLB : (PRE ++ ((Rs.map Int.toNat).take i).flatMap (idsR T L)).length + L.length ≤ 10000000000000 := by
            have h7 := HOM.out
            have h8 : ((Rs.map Int.toNat).take i).length ≤ 200 := by rw [List.length_take, List.length_map]; omega
            have h9 := Nat.mul_le_mul_right 1000000000 h8
            have h10 : (((Rs.map Int.toNat).take i).flatMap (idsR T L)).length ≤ ((Rs.map Int.toNat).take i).length * 1000000000 := flat_len (fun n => Nat.le_trans (sel_len (kb3 n 0 0) (kb3 n T 0) L) hLl)
            rw [List.length_append]; omega
          have HLB := Lib.hid hLB; have HN := Lib.hid hn
          clear hLB hs1 hy hn hnF hi
          go_wp2
          clear hcy
          refine region_calm [.p 0, .p 1, .p 2, .p 3, .l 4, .p 5, .p 7, .p 8, .l 9, .h 6 true, .h 10 true, .h 11 false] f_mixed (by kernel_rfl) (by kernel_rfl) ?_
          replace HVC := Lib.hid (HV.out.ext (Ext.refl wr).drew)
          generalize wr.drew = V1 at *
          have HV5 := HVC
          have HTB1 := Lib.hid (HVC.out.touch.old HTB.out HTO.out)
          have HP1 := Lib.hid (HVC.out.touch.old HP4.out HPO.out)
          obtain ⟨c0, c1, c2⟩ := blk3 HTB1.out
          have p0 := blk_cell HP1.out (i := 0) rfl
          have p1 := blk_cell HP1.out (i := 1) rfl
          repeat (first | (refine plan_p rfl (fun K hK => ?_); go_simp; refine hK _ ?_; clear hK K) | (refine plan_l rfl (fun K hK => ?_); go_simp; refine hK _ ?_; clear hK K))
          refine plan_ct rfl rfl (fun K _ hK => ?_)
          go_wp2_with fail
          refine (show Calls _ _ #[.int .i64 ((n : Nat) : Int), .int .i64 ((0 : Nat) : Int), .int .i64 (-9223372036854775808)] _ _ from (key0_ok n 0 _ (by omega) (by omega)).mono ?_)
          rintro e W6 ⟨rfl, hE6⟩
          go_wp2
          refine hK _ _ (hE6) ?_; clear hK K
          have HV6 := Lib.hid (HV5.out.ext hE6)
          clear hE6 c0 c1 c2 p0 p1
          repeat (first | (refine plan_p rfl (fun K hK => ?_); go_simp; refine hK _ ?_; clear hK K) | (refine plan_l rfl (fun K hK => ?_); go_simp; refine hK _ ?_; clear hK K))
          refine plan_ct rfl rfl (fun K _ hK => ?_)
          go_wp2_with fail
          refine (show Calls _ _ #[.int .i64 ((n : Nat) : Int), .int .i64 ((T : Nat) : Int), .int .i64 (-9223372036854775808)] _ _ from (key0_ok n T _ (by omega) (by omega)).mono ?_)
          rintro e W7 ⟨rfl, hE7⟩
          go_wp2
          refine hK _ _ (hE7) ?_; clear hK K
          have HV7 := Lib.hid (HV6.out.ext hE7)
          clear hE7
          repeat (first | (refine plan_p rfl (fun K hK => ?_); go_simp; refine hK _ ?_; clear hK K) | (refine plan_l rfl (fun K hK => ?_); go_simp; refine hK _ ?_; clear hK K))
          refine plan_c rfl rfl (fun K _ hK => ?_)
          go_wp2_with fail
          refine (HV7.out.take HLT.out HOL.out (kb3 n 0 0) (kb3 n T 0) HLB.out).mono ?_
          rintro e W8 ⟨⟨v8, rfl⟩, hV8⟩
          have HV8 := Lib.hid hV8
          clear hV8
          go_wp2
          refine plan_done ?_
          go_wp2
          go_roundg (gk - 1)
          case measure => omega
          case rel => exact ⟨i + 1, rfl, by omega, by
            rw [List.take_add_one, HN.out]
            simp only [Option.toList_some, List.flatMap_append, List.flatMap_cons, List.flatMap_nil, List.append_nil]
            rw [← List.append_assoc]
            exact HV8.out⟩
    · have hi2 : i < LN := by omega
      obtain ⟨y, hy⟩ : ∃ y, Ls[i]? = some y := ⟨Ls[i]'(by have := HLN.out; omega), List.getElem?_eq_getElem _⟩
      obtain ⟨n, rfl, hn, hnF⟩ := nats_of HbL.out hy
      have hnF' : n < F := by omega
      obtain ⟨glb, HGB⟩ : ∃ b, Hid (gl = some b) := HSL4.out.some_of_pos (by have := HLN.out; omega)
      have hs1 := HSL4.out.touch HV.out.touch (fun b hb e => HGL.out b hb e)
      rw [HGB.out] at hs1
      have hcy := hs1.cell (j := i) (u := .int .i64 (n : Int)) (by simp [hy])
      have hri := fun U => run_index_slv (P := Try.prog) ei_int64 (g := gl) (b := glb) (cap := cl) HGB.out (j := i) (n := LN) hi2 U
      have hlt : decide (i < LN) = true := decide_eq_true hi2
      have hwi : IntKind.i64.wrap ((i : Int) + 1) = (i : Int) + 1 := by rw [IntKind.wrap_i64]; omega
      have hwn : IntKind.i64.wrap ((n : Int) + 1) = (n : Int) + 1 := by rw [IntKind.wrap_i64]; omega
      have hLB : (((Ls.map Int.toNat).take i).flatMap (idsU F U)).length + U.length ≤ 10000000000000 := by
        have := flat_len (l := (Ls.map Int.toNat).take i) (B := 1000000000) (fun n => Nat.le_trans (sel_len (kb3 n (F + 1) 0) (kb3 (n + 1) 0 0) U) hUl)
        have h8 : ((Ls.map Int.toNat).take i).length ≤ 200 := by rw [List.length_take, List.length_map]; omega
        have h9 := Nat.mul_le_mul_right 1000000000 h8
        have h10 : (((Ls.map Int.toNat).take i).flatMap (idsU F U)).length ≤ ((Ls.map Int.toNat).take i).length * 1000000000 := this
        omega
      have HLB := Lib.hid hLB; have HN := Lib.hid hn
      clear hLB hs1 hy hn hnF hi
      go_wp2
      clear hcy
      refine region_calm [.p 0, .p 1, .p 2, .p 3, .l 4, .p 5, .p 6, .l 7, .p 8, .p 10, .p 11, .h 9 true, .h 12 true, .h 13 false] f_mixed (by kernel_rfl) (by kernel_rfl) ?_
      replace HVC := Lib.hid (HV.out.ext (Ext.refl wr).drew)
      generalize wr.drew = V1 at *
      have HV5 := HVC
      have HTB1 := Lib.hid (HVC.out.touch.old HTB.out HTO.out)
      have HP1 := Lib.hid (HVC.out.touch.old HP4.out HPO.out)
      obtain ⟨c0, c1, c2⟩ := blk3 HTB1.out
      have p0 := blk_cell HP1.out (i := 0) rfl
      have p1 := blk_cell HP1.out (i := 1) rfl
      repeat (first | (refine plan_p rfl (fun K hK => ?_); go_simp; refine hK _ ?_; clear hK K) | (refine plan_l rfl (fun K hK => ?_); go_simp; refine hK _ ?_; clear hK K))
      refine plan_ct rfl rfl (fun K _ hK => ?_)
      go_wp2_with fail
      refine (show Calls _ _ #[.int .i64 ((n : Nat) : Int), .int .i64 (((F + 1) : Nat) : Int), .int .i64 (-9223372036854775808)] _ _ from (key0_ok n (F + 1) _ (by omega) (by omega)).mono ?_)
      rintro e W6 ⟨rfl, hE6⟩
      go_wp2
      refine hK _ _ (hE6) ?_; clear hK K
      have HV6 := Lib.hid (HV5.out.ext hE6)
      clear hE6 c0 c1 c2 p0 p1
      repeat (first | (refine plan_p rfl (fun K hK => ?_); go_simp; refine hK _ ?_; clear hK K) | (refine plan_l rfl (fun K hK => ?_); go_simp; refine hK _ ?_; clear hK K))
      refine plan_ct rfl rfl (fun K _ hK => ?_)
      go_wp2_with fail
      refine (show Calls _ _ #[.int .i64 (((n + 1) : Nat) : Int), .int .i64 ((0 : Nat) : Int), .int .i64 (-9223372036854775808)] _ _ from (key0_ok (n + 1) 0 _ (by omega) (by omega)).mono ?_)
      rintro e W7 ⟨rfl, hE7⟩
      go_wp2
      refine hK _ _ (hE7) ?_; clear hK K
      have HV7 := Lib.hid (HV6.out.ext hE7)
      clear hE7
      repeat (first | (refine plan_p rfl (fun K hK => ?_); go_simp; refine hK _ ?_; clear hK K) | (refine plan_l rfl (fun K hK => ?_); go_simp; refine hK _ ?_; clear hK K))
      refine plan_c rfl rfl (fun K _ hK => ?_)
      go_wp2_with fail
      refine (HV7.out.take HUT.out HOU.out (kb3 n (F + 1) 0) (kb3 (n + 1) 0 0) HLB.out).mono ?_
      rintro e W8 ⟨⟨v8, rfl⟩, hV8⟩
      have HV8 := Lib.hid hV8
      clear hV8
      go_wp2
      refine plan_done ?_
      go_wp2
      go_roundg (gk - 1)
      case measure => omega
      case rel => exact ⟨i + 1, rfl, by omega, by
        rw [List.take_add_one, HN.out]
        simp only [Option.toList_some, List.flatMap_append, List.flatMap_cons, List.flatMap_nil, List.append_nil]
        exact HV8.out⟩
end Go.Proofs.Ytkejjahlglldlaa
