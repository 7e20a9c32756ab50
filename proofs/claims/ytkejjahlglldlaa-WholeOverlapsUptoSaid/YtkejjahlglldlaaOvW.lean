/- WholeOverlaps: for every slice of periods, every period and every slice of numbers the law returns true and the input reads as it did: the row's statement of the second form, proved. Condition: none beyond the row's own (its bound on the input's bulk). -/
import Derived.Test.YtkejjahlglldlaaMOpn
import Derived.Test.YtkejjahlglldlaaMOv2
namespace Go.Proofs.Ytkejjahlglldlaa
open Go.ChangeShapes Go.WideShapes Go.ChangeAt Go.RowKit Go.Deep

theorem laidOut : laidOutB Try.prog = true := by kernel_rfl
theorem own : ownKnob Try.prog.godebug = none := by kernel_rfl

set_option maxRecDepth 100000 in
/-- The period that came in. -/
theorem open_per {H : Type} {enc : TypeId × Value → H} {w : World} {b0 : Nat} {v : Value} {d : DataW H} {p : List MemPlace}
    (hv : Value.okWide Try.prog w .any b0 45 v) (h : DataW.Trod enc Try.prog w 0 (fun _ => true) true 45 v d p) :
    ∃ a z : Int, v = perV (a, z) ∧ (Lit.int .i64 a).wf = true ∧ (Lit.int .i64 z).wf = true := by
  have hv' := hv
  simp only [Value.okWide, Try.underlying45] at hv'
  obtain ⟨⟨cs⟩, rfl, hsz, -⟩ := hv'
  obtain ⟨fuel, hf⟩ := h
  obtain ⟨ys, n1, -, -, hlen, hyl, hf1⟩ := DataW.trod_struct Try.underlying45 hf
  simp only [Value.cells] at hlen hf1
  have hC : Try.prog.cellsOf 45 = 2 := by kernel_rfl
  have hCI : Try.prog.cellsOf 2 = 1 := by kernel_rfl
  rw [hC] at hlen
  have hl2 : ys.length = 2 := hyl
  have g0 := hf1 0 _ rfl
  have g1 := hf1 1 _ rfl
  rw [List.getElem?_eq_getElem (by omega)] at g0 g1
  match cs, hlen with
  | [c0, c1], _ =>
    replace g0 : DataW.trod enc Try.prog w 0 (fun _ => true) true n1 2 (([c0, c1].drop 0).take (Try.prog.cellsOf 2)) = some ys[0] := g0
    replace g1 : DataW.trod enc Try.prog w 0 (fun _ => true) true n1 2 (([c0, c1].drop 1).take (Try.prog.cellsOf 2)) = some ys[1] := g1
    rw [hCI] at g0 g1
    obtain ⟨x0, e0, -, w0⟩ := DataW.trod_int Try.underlying2 g0
    obtain ⟨x1, e1, -, w1⟩ := DataW.trod_int Try.underlying2 g1
    simp at e0 e1
    subst e0 e1
    exact ⟨x0, x1, rfl, w0, w1⟩

set_option maxRecDepth 100000 in
/-- The slice of periods that came in. -/
theorem open_pers {H : Type} {enc : TypeId × Value → H} {w : World} {b0 : Nat} {v : Value} {d : DataW H} {p : List MemPlace}
    (hv : Value.okWide Try.prog w .any b0 43 v) (h : DataW.Trod enc Try.prog w 0 (fun _ => true) true 43 v d p) :
    ∃ (sv : Option Addr) (n cap : Nat) (ps : List (Int × Int)), v = .slice sv n cap ∧ ps.length = n ∧ Pers w sv ps ∧ (sv = none → n = 0) ∧ n ≤ Rows.uptoBulk d ∧ ∀ q ∈ ps, (Lit.int .i64 q.1).wf = true ∧ (Lit.int .i64 q.2).wf = true := by
  obtain ⟨sv, n, cap, rfl⟩ := okWide_slice Try.underlying43 hv
  obtain ⟨fuel, hf⟩ := h
  rcases open_slice_fields Try.underlying43 Try.underlying45 (by kernel_rfl) (by kernel_rfl) hf with ⟨hcs, hx⟩ | ⟨a, len, cap', m, D, Pl, hcs, -, hle, -, hm, hx, hi⟩
  · simp [Value.cells] at hcs
    obtain ⟨rfl, rfl, rfl⟩ := hcs
    exact ⟨none, 0, 0, [], rfl, rfl, (fun h => absurd h (by simp)), fun _ => rfl, Nat.zero_le _, by simp⟩
  · simp [Value.cells] at hcs
    obtain ⟨rfl, rfl, rfl⟩ := hcs
    simp only [if_true] at hm
    simp only [Prod.mk.injEq] at hx
    obtain ⟨rfl, -⟩ := hx
    have hcell : ∀ i, i < n → ∃ q : Int × Int, w.cell? (a.add (i * 2)) = some (.int .i64 q.1) ∧ w.cell? (a.add (i * 2 + 1)) = some (.int .i64 q.2) ∧ (Lit.int .i64 q.1).wf = true ∧ (Lit.int .i64 q.2).wf = true := by
      intro i hin
      obtain ⟨ys, k, -, -, -, hf'⟩ := hi i (by omega)
      obtain ⟨v0, y0, c0, -, t0⟩ := hf' 0 _ rfl
      obtain ⟨v1, y1, c1, -, t1⟩ := hf' 1 _ rfl
      obtain ⟨x0, e0, -, w0⟩ := DataW.trod_int Try.underlying2 t0
      obtain ⟨x1, e1, -, w1⟩ := DataW.trod_int Try.underlying2 t1
      simp at e0 e1
      subst e0 e1
      exact ⟨(x0, x1), c0, c1, w0, w1⟩
    have hex : ∃ ps : List (Int × Int), ps.length = n ∧ ∀ i q, ps[i]? = some q → w.cell? (a.add (i * 2)) = some (.int .i64 q.1) ∧ w.cell? (a.add (i * 2 + 1)) = some (.int .i64 q.2) ∧ (Lit.int .i64 q.1).wf = true ∧ (Lit.int .i64 q.2).wf = true := by
      clear hi hm hf hle hv
      induction n with
      | zero => exact ⟨[], rfl, by simp⟩
      | succ n ih =>
        obtain ⟨ps, h1, h2⟩ := ih (fun i hin => hcell i (by omega))
        obtain ⟨q, hq⟩ := hcell n (by omega)
        refine ⟨ps ++ [q], by simp [h1], fun i q' hq' => ?_⟩
        rcases Nat.lt_or_ge i ps.length with hl | hl
        · rw [List.getElem?_append_left hl] at hq'
          exact h2 i q' hq'
        · rw [List.getElem?_append_right hl] at hq'
          have h3 : i - ps.length = 0 := by
            have := (List.getElem?_eq_some_iff.1 hq').1
            simp at this; omega
          rw [h3] at hq'
          simp at hq'
          obtain rfl : i = n := by omega
          rw [← hq']
          exact hq
    obtain ⟨ps, h1, h2⟩ := hex
    refine ⟨some a, n, cap, ps, rfl, h1, fun hp => ?_, (fun h => by cases h), ?_, fun q hq => ?_⟩
    · obtain ⟨lb, off, sp⟩ := a
      obtain ⟨q0, hq0⟩ : ∃ q, ps[0]? = some q := ⟨ps[0]'hp, by rw [List.getElem?_eq_getElem]⟩
      have h3 := World.cell?_spot (h2 0 q0 hq0).1
      simp [Addr.add] at h3
      subst h3
      have ha : ∀ k : Nat, (⟨lb, off, none⟩ : Addr).add k = ⟨lb, off + k, none⟩ := fun k => by
        unfold Addr.add; split <;> simp_all
      refine ⟨lb, off, rfl, fun i q hq => ⟨?_, ?_⟩⟩
      · rw [← ha]; exact (h2 i q hq).1
      · rw [Nat.add_assoc, ← ha]; exact (h2 i q hq).2.1
    · have := Blk.slice_le ((List.range n).map D) ((List.range (m - n)).map fun j => D (n + j))
      simp at this
      omega
    · obtain ⟨i, hi', rfl⟩ := List.getElem_of_mem hq
      exact (h2 i _ (List.getElem?_eq_getElem hi')).2.2

/-- As many numbers as cells that hold one. -/
theorem nums_exist {p : Nat → Int → Prop} : ∀ (n : Nat), (∀ i, i < n → ∃ x, p i x) → ∃ xs : List Int, xs.length = n ∧ ∀ i x, xs[i]? = some x → p i x
  | 0, _ => ⟨[], rfl, by simp⟩
  | n + 1, h => by
    obtain ⟨xs, h1, h2⟩ := nums_exist n fun i hi => h i (by omega)
    obtain ⟨x, hx⟩ := h n (by omega)
    refine ⟨xs ++ [x], by simp [h1], fun i u hu => ?_⟩
    rcases Nat.lt_or_ge i xs.length with hl | hl
    · rw [List.getElem?_append_left hl] at hu
      exact h2 i u hu
    · rw [List.getElem?_append_right hl] at hu
      have h5 : i - xs.length = 0 := by
        have := (List.getElem?_eq_some_iff.1 hu).1
        simp at this; omega
      rw [h5] at hu
      simp at hu
      obtain rfl : i = n := by omega
      rw [← hu]; exact hx

set_option maxRecDepth 100000 in
/-- The slice of numbers that came in. -/
theorem open_gone {H : Type} {enc : TypeId × Value → H} {w : World} {b0 : Nat} {v : Value} {d : DataW H} {p : List MemPlace}
    (hv : Value.okWide Try.prog w .any b0 46 v) (h : DataW.Trod enc Try.prog w 0 (fun _ => true) true 46 v d p) :
    ∃ (gv : Option Addr) (m gcap : Nat) (gone : List Int), v = .slice gv m gcap ∧ gone.length = m ∧ (∀ j x, gone[j]? = some x → ∃ lb off, gv = some ⟨lb, off, none⟩ ∧ w.cell? ⟨lb, off + j, none⟩ = some (.int .i64 x)) ∧ m ≤ Rows.uptoBulk d := by
  obtain ⟨sv, n, cap, rfl⟩ := okWide_slice Try.underlying46 hv
  obtain ⟨fuel, hf⟩ := h
  rcases open_slice1 Try.underlying46 (by kernel_rfl) hf with ⟨hcs, hx⟩ | ⟨a, len, cap', m, k, V, D, Pl, hcs, -, hle, -, hm, hx, hi⟩
  · simp [Value.cells] at hcs
    obtain ⟨rfl, rfl, rfl⟩ := hcs
    exact ⟨none, 0, 0, [], rfl, rfl, by simp, Nat.zero_le _⟩
  · simp [Value.cells] at hcs
    obtain ⟨rfl, rfl, rfl⟩ := hcs
    simp only [if_true] at hm
    simp only [Prod.mk.injEq] at hx
    obtain ⟨rfl, -⟩ := hx
    obtain ⟨xs, h1, h2⟩ := nums_exist (p := fun i x => w.cell? (a.add i) = some (.int .i64 x)) n (fun i hin => by
      obtain ⟨hc, ht⟩ := hi i (by omega)
      obtain ⟨x, he, -, -⟩ := DataW.trod_int Try.underlying2 ht
      simp at he
      exact ⟨x, by rw [← he]; exact hc⟩)
    refine ⟨some a, n, cap, xs, rfl, h1, fun j x hx => ?_, ?_⟩
    · have h3 := h2 j x hx
      obtain ⟨lb, off, sp⟩ := a
      have h4 := World.cell?_spot (h2 0 (xs[0]'(by have := (List.getElem?_eq_some_iff.1 hx).1; omega)) (List.getElem?_eq_getElem _))
      simp [Addr.add] at h4
      subst h4
      refine ⟨lb, off, rfl, ?_⟩
      rw [show (⟨lb, off + j, none⟩ : Addr) = (⟨lb, off, none⟩ : Addr).add j by unfold Addr.add; split <;> simp_all]
      exact h3
    · have := Blk.slice_le ((List.range n).map D) ((List.range (m - n)).map fun j => D (n + j))
      simp at this
      omega

set_option maxRecDepth 100000 in
theorem overlaps_contract (H : Type) (enc : TypeId × Value → H) (W : World) (base : Nat) (args : Array Value) (ds gs : List (DataW H)) (before : List MemPlace)
    (hval : ∀ (j : Nat) t v, Try.f4.params[j]? = some t → args[j]? = some v → Value.okWide Try.prog W .any base t v)
    (hW : DataW.Whole enc Try.prog Try.f4.params.toList Rows.wholeOverlapsSpec.vars false W args.toList ds gs before) (hk : Rows.uptoSmall H (ds ++ gs) = true) :
    Calls Try.prog 4 args W fun e W' => ∃ v, e = .returned v ∧ Rows.wholeOverlapsSpec.post enc Try.prog Try.f4 false true false false W args v W' := by
  have hW' := hW
  obtain ⟨p, q, hA0, hV, rfl, hfz, hnd⟩ := hW
  have hA : DataW.TrodAll enc Try.prog W 0 (fun _ => true) true Try.f4.params.toList args.toList ds p := hA0
  rw [Try.params4] at hA hval
  obtain ⟨v0, vs0, d0, ds0, p0, q0, hargs, rfl, rfl, h0, r0⟩ := trodAll_cons hA
  obtain ⟨v1, vs1, d1, ds1, p1, q1, rfl, rfl, rfl, h1, r1⟩ := trodAll_cons r0
  obtain ⟨v2, vs2, d2, ds2, p2, q2, rfl, rfl, rfl, h2, r2⟩ := trodAll_cons r1
  obtain ⟨rfl, rfl, rfl⟩ := trodAll_nil r2
  obtain rfl : args = #[v0, v1, v2] := by cases args; simp_all
  obtain ⟨rfl, rfl⟩ := trodVars_none hV
  obtain ⟨sv, n, cap, ps, rfl, hn, hc, hnil, hb, -⟩ := open_pers (hval 0 43 v0 rfl rfl) h0
  obtain ⟨a, z, rfl, -, -⟩ := open_per (hval 1 45 v1 rfl rfl) h1
  obtain ⟨gv, m, gcap, gone, rfl, hgn, hg, hb2⟩ := open_gone (hval 2 46 v2 rfl rfl) h2
  have hbd := Blk.arg_le hk (d := d0) (by simp)
  have hbd2 := Blk.arg_le hk (d := d2) (by simp)
  refine (overlaps_any sv gv n cap m gcap ps gone a z W hn hc hg hgn (by omega) (by omega)).mono fun e W' ⟨he, hg⟩ => ?_
  subst he
  exact ⟨_, rfl, post_true laidOut (by kernel_rfl) (by kernel_rfl) Try.underlying4 rfl rfl rfl rfl hW' hg⟩

set_option maxRecDepth 100000 in
theorem overlaps_lifted (os : Os) (started : os.Started) (H : Type) (enc : TypeId × Value → H) (F : Stop.Interp) :
    ReturnsInHanded {} Try.checked os 4 .any ((Rows.OpenSpec.upto Rows.wholeOverlapsSpec).pre6 enc Try.prog Try.f4 Rows.wholeOverlapsUptoRow.domain false) (((Rows.OpenSpec.upto Rows.wholeOverlapsSpec).at F).post enc Try.prog Try.f4 false true false false) := by
  refine returnsInHanded_of_cond (C := Try.checked) (s := Rows.OpenSpec.upto Rows.wholeOverlapsSpec) (k := Rows.uptoSmall) rfl own started (by kernel_rfl) Try.func4
    (OpenSpec.witness (enc := enc) (C := Try.checked) (s := Rows.OpenSpec.upto Rows.wholeOverlapsSpec) (k := Rows.uptoSmall) rfl false ⟨#[], #[.slice none 0 0, .agg #[.int .i64 0, .int .i64 0], .slice none 0 0], []⟩ 8 (by kernel_rfl) (by kernel_rfl) (by kernel_rfl)
      (x := ([.nil, .agg [.lit (.int .i64 0), .lit (.int .i64 0)], .nil], [], [])) (by kernel_rfl) rfl (by kernel_rfl)) ?_
  intro W base args ds gs before hval hW _ hk _
  exact overlaps_contract H enc W base args ds gs before hval hW hk

set_option maxRecDepth 100000 in
theorem overlaps_said : Rows.WholeOverlapsUptoSaid :=
  OpenClaim.holds_of_cond 4 Try.f4 rfl rfl rfl rfl rfl rfl rfl ⟨rfl, rfl, rfl, rfl, rfl⟩ rfl rfl rfl rfl rfl (by kernel_rfl) Try.func4 (by kernel_rfl)
    (of_decide_eq_true (by kernel_rfl)) (by unfold Func.isWrapper; first | (rw [if_pos (by decide +kernel)]; kernel_rfl) | (rw [if_neg (by decide +kernel)]; exact ⟨rfl, rfl⟩))
    (fun os started H enc _ F => overlaps_lifted os started H enc F)
end Go.Proofs.Ytkejjahlglldlaa
