/- WholeOrdered: for every order, every slice of rows of values and every slice of values the law returns true and the input reads as it did: the row's statement of the second form, proved. Condition: none beyond the row's own (its bound on the input's bulk). -/
import Derived.Test.YtkejjahlglldlaaOpn
import Derived.Test.YtkejjahlglldlaaWo3
namespace Go.Proofs.Ytkejjahlglldlaa
open Go.ChangeShapes Go.WideShapes Go.ChangeAt Go.RowKit Go.Deep

theorem laidOut : laidOutB Try.prog = true := by kernel_rfl
theorem own : ownKnob Try.prog.godebug = none := by kernel_rfl

theorem bs_of (s : ByteArray) : bs s.data.toList = s := by cases s; simp [bs]

/-- Values one by one. -/
theorem vals_exist {w : World} {a : Addr} {B : Nat} : ∀ (n : Nat), (∀ i, i < n → ∃ v : V, w.cell? (a.add (i * 3)) = some (.int .i64 v.1) ∧ w.cell? (a.add (i * 3 + 1)) = some (.int .i64 v.2.1) ∧ w.cell? (a.add (i * 3 + 2)) = some (str v.2.2) ∧
      v.2.2.length ≤ B ∧ -9223372036854775808 ≤ v.2.1 ∧ v.2.1 ≤ 9223372036854775807 ∧ -9223372036854775808 ≤ v.1 ∧ v.1 ≤ 9223372036854775807) →
    ∃ vs : List V, vs.length = n ∧ ∀ (i : Nat) (v : V), vs[i]? = some v → w.cell? (a.add (i * 3)) = some (.int .i64 v.1) ∧ w.cell? (a.add (i * 3 + 1)) = some (.int .i64 v.2.1) ∧ w.cell? (a.add (i * 3 + 2)) = some (str v.2.2) ∧
      v.2.2.length ≤ B ∧ -9223372036854775808 ≤ v.2.1 ∧ v.2.1 ≤ 9223372036854775807 ∧ -9223372036854775808 ≤ v.1 ∧ v.1 ≤ 9223372036854775807
  | 0, _ => ⟨[], rfl, by simp⟩
  | n + 1, h => by
    obtain ⟨vs, h1, h2⟩ := vals_exist n fun i hi => h i (by omega)
    obtain ⟨v, hv⟩ := h n (by omega)
    refine ⟨vs ++ [v], by simp [h1], fun i u hu => ?_⟩
    rcases Nat.lt_or_ge i vs.length with hl | hl
    · rw [List.getElem?_append_left hl] at hu
      exact h2 i u hu
    · rw [List.getElem?_append_right hl] at hu
      have h5 : i - vs.length = 0 := by
        have := (List.getElem?_eq_some_iff.1 hu).1
        simp at this; omega
      rw [h5] at hu
      simp at hu
      obtain rfl : i = n := by omega
      rw [← hu]; exact hv

set_option maxRecDepth 100000 in
/-- A slice of values, as its one cell reads. -/
theorem open_valsC {H : Type} {enc : TypeId × Value → H} {w : World} {fuel : Nat} {cs : List Value} {x : DataW H × List MemPlace}
    (hf : DataW.trod enc Try.prog w 0 (fun _ => true) true fuel 23 cs = some x) :
    ∃ (sv : Option Addr) (n cap : Nat) (vs : List V), cs = [.slice sv n cap] ∧ vs.length = n ∧ Vals w sv vs ∧ n ≤ Rows.uptoBulk x.1 ∧
      ∀ u ∈ vs, u.2.2.length ≤ Rows.uptoBulk x.1 ∧ -9223372036854775808 ≤ u.2.1 ∧ u.2.1 ≤ 9223372036854775807 ∧ -9223372036854775808 ≤ u.1 ∧ u.1 ≤ 9223372036854775807 := by
  rcases open_slice_fields Try.underlying23 Try.underlying93 (by kernel_rfl) (by kernel_rfl) hf with ⟨hcs, hx⟩ | ⟨a, len, cap', m, D, Pl, hcs, -, hle, -, hm, hx, hi⟩
  · subst hcs
    exact ⟨none, 0, 0, [], rfl, rfl, (fun h => absurd h (by simp)), Nat.zero_le _, by simp⟩
  · obtain ⟨d, pl⟩ := x
    subst hcs
    simp only [if_true] at hm
    simp only [Prod.mk.injEq] at hx
    obtain ⟨rfl, -⟩ := hx
    have hcell : ∀ i, i < len → ∃ v : V, w.cell? (a.add (i * 3)) = some (.int .i64 v.1) ∧ w.cell? (a.add (i * 3 + 1)) = some (.int .i64 v.2.1) ∧ w.cell? (a.add (i * 3 + 2)) = some (str v.2.2) ∧
        v.2.2.length ≤ Rows.uptoBulk (DataW.slice ((List.range len).map D) ((List.range (m - len)).map fun j => D (len + j))) ∧ -9223372036854775808 ≤ v.2.1 ∧ v.2.1 ≤ 9223372036854775807 ∧ -9223372036854775808 ≤ v.1 ∧ v.1 ≤ 9223372036854775807 := by
      intro i hin
      obtain ⟨ys, k, hD, -, hyl, hf'⟩ := hi i (by omega)
      obtain ⟨v0, y0, c0, -, t0⟩ := hf' 0 _ rfl
      obtain ⟨v1, y1, c1, -, t1⟩ := hf' 1 _ rfl
      obtain ⟨v2, y2, c2, e2, t2⟩ := hf' 2 _ rfl
      obtain ⟨x0, e0, -, w0⟩ := DataW.trod_int Try.underlying3 t0
      obtain ⟨x1, e1, -, w1⟩ := DataW.trod_int Try.underlying2 t1
      obtain ⟨s, es, ey, hs⟩ := DataW.trod_string Try.underlying9 t2
      simp at e0 e1 es
      subst e0 e1 es
      have hb0 := bounds_i64 w0
      have hb1 := bounds_i64 w1
      refine ⟨(x0, x1, s.data.toList), c0, c1, ?_, ?_, by simp only; omega, by simp only; omega, by simp only; omega, by simp only; omega⟩
      · show _ = some (Value.string (bs s.data.toList))
        rw [bs_of]; exact c2
      · have h1 : D i ∈ (List.range len).map D := List.mem_map.2 ⟨i, List.mem_range.2 hin, rfl⟩
        have h2 := Blk.part_le h1
        have h3 : y2.1 ∈ ys.map (·.1) := List.mem_map.2 ⟨y2, List.mem_of_getElem? e2, rfl⟩
        have h4 := Blk.part_le h3
        rw [ey] at h4
        simp only [Blk.string_eq] at h4
        rw [hD] at h2
        simp only [Rows.uptoBulk] at h2 ⊢
        omega
    obtain ⟨vs, h1, h2⟩ := vals_exist len hcell
    refine ⟨some a, len, cap', vs, rfl, h1, fun hp => ?_, ?_, fun q hq => ?_⟩
    · obtain ⟨lb, off, sp⟩ := a
      have h3 := World.cell?_spot (h2 0 vs[0] (List.getElem?_eq_getElem hp)).1
      simp [Addr.add] at h3
      subst h3
      refine ⟨lb, off, rfl, fun i q hq => ?_⟩
      obtain ⟨g0, g1, g2, _⟩ := h2 i q hq
      rw [add_flat] at g0 g1 g2
      exact ⟨g0, by rw [Nat.add_assoc]; exact g1, by rw [Nat.add_assoc]; exact g2⟩
    · have := Blk.slice_le ((List.range len).map D) ((List.range (m - len)).map fun j => D (len + j))
      simp at this
      show len ≤ Rows.uptoBulk (DataW.slice _ _)
      omega
    · obtain ⟨i, hi', rfl⟩ := List.getElem_of_mem hq
      have := h2 i _ (List.getElem?_eq_getElem hi')
      exact this.2.2.2

set_option maxRecDepth 100000 in
theorem open_vals {H : Type} {enc : TypeId × Value → H} {w : World} {b0 : Nat} {v : Value} {d : DataW H} {p : List MemPlace}
    (hv : Value.okWide Try.prog w .any b0 23 v) (h : DataW.Trod enc Try.prog w 0 (fun _ => true) true 23 v d p) :
    ∃ (sv : Option Addr) (n cap : Nat) (vs : List V), v = .slice sv n cap ∧ vs.length = n ∧ Vals w sv vs ∧ n ≤ Rows.uptoBulk d ∧
      ∀ u ∈ vs, u.2.2.length ≤ Rows.uptoBulk d ∧ -9223372036854775808 ≤ u.2.1 ∧ u.2.1 ≤ 9223372036854775807 ∧ -9223372036854775808 ≤ u.1 ∧ u.1 ≤ 9223372036854775807 := by
  obtain ⟨sv, n, cap, rfl⟩ := okWide_slice Try.underlying23 hv
  obtain ⟨fuel, hf⟩ := h
  obtain ⟨sv', n', cap', vs, h1, h2, h3, h4, h5⟩ := open_valsC hf
  simp [Value.cells] at h1
  obtain ⟨rfl, rfl, rfl⟩ := h1
  exact ⟨sv, n, cap, vs, rfl, h2, h3, h4, h5⟩

/-- Rows one by one. -/
theorem rows_exist {w : World} {a : Addr} {B : Nat} {Pr : List V → Prop} : ∀ (n : Nat), (∀ i, i < n → ∃ (row : List V) (p : Option Addr) (m c : Nat), w.cell? (a.add i) = some (.slice p m c) ∧ row.length = m ∧ Vals w p row ∧ Pr row) →
    ∃ rows : List (List V), rows.length = n ∧ ∀ (i : Nat) (row : List V), rows[i]? = some row → (∃ p m c, w.cell? (a.add i) = some (.slice p m c) ∧ row.length = m ∧ Vals w p row) ∧ Pr row
  | 0, _ => ⟨[], rfl, by simp⟩
  | n + 1, h => by
    obtain ⟨rows, h1, h2⟩ := rows_exist (B := B) n fun i hi => h i (by omega)
    obtain ⟨row, p, m, c, h3, h4, h5, h6⟩ := h n (by omega)
    refine ⟨rows ++ [row], by simp [h1], fun i u hu => ?_⟩
    rcases Nat.lt_or_ge i rows.length with hl | hl
    · rw [List.getElem?_append_left hl] at hu
      exact h2 i u hu
    · rw [List.getElem?_append_right hl] at hu
      have h7 : i - rows.length = 0 := by
        have := (List.getElem?_eq_some_iff.1 hu).1
        simp at this; omega
      rw [h7] at hu
      simp at hu
      obtain rfl : i = n := by omega
      subst hu
      exact ⟨⟨p, m, c, h3, h4, h5⟩, h6⟩

set_option maxRecDepth 100000 in
/-- The slice of rows that came in. -/
theorem open_rows {H : Type} {enc : TypeId × Value → H} {w : World} {b0 : Nat} {v : Value} {d : DataW H} {p : List MemPlace}
    (hv : Value.okWide Try.prog w .any b0 22 v) (h : DataW.Trod enc Try.prog w 0 (fun _ => true) true 22 v d p) :
    ∃ (sv : Option Addr) (n cap : Nat) (rows : List (List V)), v = .slice sv n cap ∧ rows.length = n ∧ RowsAt w sv rows ∧ n ≤ Rows.uptoBulk d ∧
      ∀ row ∈ rows, row.length ≤ Rows.uptoBulk d ∧ ∀ u ∈ row, u.2.2.length ≤ Rows.uptoBulk d ∧ -9223372036854775808 ≤ u.2.1 ∧ u.2.1 ≤ 9223372036854775807 := by
  obtain ⟨sv, n, cap, rfl⟩ := okWide_slice Try.underlying22 hv
  obtain ⟨fuel, hf⟩ := h
  rcases open_slice Try.underlying22 hf with ⟨hcs, hx⟩ | ⟨a, len, cap', m, k, D, Pl, hcs, -, hle, -, hm, hx, hi⟩
  · simp [Value.cells] at hcs
    obtain ⟨rfl, rfl, rfl⟩ := hcs
    exact ⟨none, 0, 0, [], rfl, rfl, (fun h => absurd h (by simp)), Nat.zero_le _, by simp⟩
  · simp [Value.cells] at hcs
    obtain ⟨rfl, rfl, rfl⟩ := hcs
    simp only [if_true] at hm
    simp only [Prod.mk.injEq] at hx
    obtain ⟨rfl, -⟩ := hx
    have hC : Try.prog.cellsOf 23 = 1 := by kernel_rfl
    have hB : ∀ i, i < n → Rows.uptoBulk (D i) ≤ Rows.uptoBulk (DataW.slice ((List.range n).map D) ((List.range (m - n)).map fun j => D (n + j))) := by
      intro i hin
      have h1 : D i ∈ (List.range n).map D := List.mem_map.2 ⟨i, List.mem_range.2 hin, rfl⟩
      have h2 := Blk.part_le h1
      simp only [Rows.uptoBulk] at h2 ⊢
      omega
    have hcell : ∀ i, i < n → ∃ (row : List V) (p : Option Addr) (m' c : Nat), w.cell? (a.add i) = some (.slice p m' c) ∧ row.length = m' ∧ Vals w p row ∧
        (row.length ≤ Rows.uptoBulk (DataW.slice ((List.range n).map D) ((List.range (m - n)).map fun j => D (n + j))) ∧ ∀ u ∈ row, u.2.2.length ≤ Rows.uptoBulk (DataW.slice ((List.range n).map D) ((List.range (m - n)).map fun j => D (n + j))) ∧ -9223372036854775808 ≤ u.2.1 ∧ u.2.1 ≤ 9223372036854775807) := by
      intro i hin
      obtain ⟨cs', hc, ht'⟩ := hi i (by omega)
      rw [hC] at hc
      obtain ⟨_, hcl, hat⟩ := World.cells?_some hc
      obtain ⟨p, m', c, row, he, h2, h3, h4, h5⟩ := open_valsC ht'
      have h0 := hat 0 (by omega)
      rw [he] at h0
      have ha : (a.add (i * 1)).add 0 = a.add i := by rw [Go.Deep.add_add, Nat.mul_one, Nat.add_zero]
      rw [ha] at h0
      have hb := hB i hin
      exact ⟨row, p, m', c, h0, h2, h3, by simp only at h4; omega, fun u hu => by have := h5 u hu; simp only at this; exact ⟨by omega, this.2.1, this.2.2.1⟩⟩
    obtain ⟨rows, h1, h2⟩ := rows_exist (B := 0) n hcell
    refine ⟨some a, n, cap, rows, rfl, h1, fun hp => ?_, ?_, fun q hq => ?_⟩
    · obtain ⟨lb, off, sp⟩ := a
      obtain ⟨⟨p0, m0, c0, h3, -⟩, -⟩ := h2 0 rows[0] (List.getElem?_eq_getElem hp)
      have h4 := World.cell?_spot h3
      simp [Addr.add] at h4
      subst h4
      refine ⟨lb, off, rfl, fun i q hq => ?_⟩
      obtain ⟨⟨p, m', c, g0, g1, g2⟩, -⟩ := h2 i q hq
      rw [add_flat] at g0
      exact ⟨p, m', c, g0, g1, g2⟩
    · have := Blk.slice_le ((List.range n).map D) ((List.range (m - n)).map fun j => D (n + j))
      simp at this
      omega
    · obtain ⟨i, hi', rfl⟩ := List.getElem_of_mem hq
      exact (h2 i _ (List.getElem?_eq_getElem hi')).2

set_option maxRecDepth 100000 in
theorem ordered_contract (H : Type) (enc : TypeId × Value → H) (W : World) (base : Nat) (args : Array Value) (ds gs : List (DataW H)) (before : List MemPlace)
    (hval : ∀ (j : Nat) t v, Try.f3.params[j]? = some t → args[j]? = some v → Value.okWide Try.prog W .any base t v)
    (hW : DataW.Whole enc Try.prog Try.f3.params.toList Rows.wholeOrderedSpec.vars false W args.toList ds gs before) (hk : Rows.uptoSmall H (ds ++ gs) = true) :
    Calls Try.prog 3 args W fun e W' => ∃ v, e = .returned v ∧ Rows.wholeOrderedSpec.post enc Try.prog Try.f3 false true false false W args v W' := by
  have hW' := hW
  obtain ⟨p, q, hA0, hV, rfl, hfz, hnd⟩ := hW
  have hA : DataW.TrodAll enc Try.prog W 0 (fun _ => true) true Try.f3.params.toList args.toList ds p := hA0
  rw [Try.params3] at hA hval
  obtain ⟨v0, vs0, d0, ds0, p0, q0, hargs, rfl, rfl, h0, r0⟩ := trodAll_cons hA
  obtain ⟨v1, vs1, d1, ds1, p1, q1, rfl, rfl, rfl, h1, r1⟩ := trodAll_cons r0
  obtain ⟨v2, vs2, d2, ds2, p2, q2, rfl, rfl, rfl, h2, r2⟩ := trodAll_cons r1
  obtain ⟨rfl, rfl, rfl⟩ := trodAll_nil r2
  obtain rfl : args = #[v0, v1, v2] := by cases args; simp_all
  obtain ⟨rfl, rfl⟩ := trodVars_none hV
  obtain ⟨a, rfl, rfl, rfl, w0⟩ := open_int Try.underlying3 (hval 0 3 v0 rfl rfl) h0
  obtain ⟨sv, n, cap, rows, rfl, hn, hr, hb1, hr2⟩ := open_rows (hval 1 22 v1 rfl rfl) h1
  obtain ⟨hv, hm, hcap, head, rfl, hhn, hh, hb2, hh2⟩ := open_vals (hval 2 23 v2 rfl rfl) h2
  have hbd1 := Blk.arg_le hk (d := d1) (by simp)
  have hbd2 := Blk.arg_le hk (d := d2) (by simp)
  have e0 := bounds_i64 w0
  refine (ordered_any a sv hv n cap hm hcap rows head W hn hr hhn hh (by omega) (fun row h => by have := (hr2 row h).1; omega) (by omega) (fun row h u hu => ((hr2 row h).2 u hu).2) (fun u hu => ⟨(hh2 u hu).2.1, (hh2 u hu).2.2.1⟩)
    (fun row h u hu => by have := ((hr2 row h).2 u hu).1; omega) (fun u hu => by have := (hh2 u hu).1; omega) e0).mono fun e W' ⟨he, hg⟩ => ?_
  subst he
  exact ⟨_, rfl, post_true laidOut (by kernel_rfl) (by kernel_rfl) Try.underlying4 rfl rfl rfl rfl hW' hg⟩

set_option maxRecDepth 100000 in
theorem ordered_lifted (os : Os) (started : os.Started) (H : Type) (enc : TypeId × Value → H) (F : Stop.Interp) :
    ReturnsInHanded {} Try.checked os 3 .any ((Rows.OpenSpec.upto Rows.wholeOrderedSpec).pre6 enc Try.prog Try.f3 Rows.wholeOrderedUptoRow.domain false) (((Rows.OpenSpec.upto Rows.wholeOrderedSpec).at F).post enc Try.prog Try.f3 false true false false) := by
  refine returnsInHanded_of_cond (C := Try.checked) (s := Rows.OpenSpec.upto Rows.wholeOrderedSpec) (k := Rows.uptoSmall) rfl own started (by kernel_rfl) Try.func3
    (OpenSpec.witness (enc := enc) (C := Try.checked) (s := Rows.OpenSpec.upto Rows.wholeOrderedSpec) (k := Rows.uptoSmall) rfl false ⟨#[], #[.int .i64 0, .slice none 0 0, .slice none 0 0], []⟩ 8 (by kernel_rfl) (by kernel_rfl) (by kernel_rfl)
      (x := ([.lit (.int .i64 0), .nil, .nil], [], [])) (by kernel_rfl) rfl (by kernel_rfl)) ?_
  intro W base args ds gs before hval hW _ hk _
  exact ordered_contract H enc W base args ds gs before hval hW hk

set_option maxRecDepth 100000 in
theorem ordered_said : Rows.WholeOrderedUptoSaid :=
  OpenClaim.holds_of_cond 3 Try.f3 rfl rfl rfl rfl rfl rfl rfl ⟨rfl, rfl, rfl, rfl, rfl⟩ rfl rfl rfl rfl rfl (by kernel_rfl) Try.func3 (by kernel_rfl)
    (of_decide_eq_true (by kernel_rfl)) (by unfold Func.isWrapper; first | (rw [if_pos (by decide +kernel)]; kernel_rfl) | (rw [if_neg (by decide +kernel)]; exact ⟨rfl, rfl⟩))
    (fun os started H enc _ F => ordered_lifted os started H enc F)
end Go.Proofs.Ytkejjahlglldlaa
