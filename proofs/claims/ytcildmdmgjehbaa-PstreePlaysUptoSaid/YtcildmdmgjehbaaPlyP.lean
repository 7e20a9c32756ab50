/- PstreePlays: for every slice of calls the law returns true and the input reads as it did: the row's statement of the second form, proved. Condition: none beyond the row's own (its bound on the input's bulk). -/
import Derived.Test.YtcildmdmgjehbaaSplP
import Derived.Test.YtcildmdmgjehbaaPly3
namespace Go.Proofs.Ytcildmdmgjehbaa
open Go.ChangeShapes Go.WideShapes Go.ChangeAt Go.RowKit Go.Deep

/-- The slice of calls that came in. -/
theorem open_oprs {H : Type} {enc : TypeId × Value → H} {w : World} {b0 : Nat} {v : Value} {d : DataW H} {p : List MemPlace}
    (hv : Value.okWide Try.prog w .any b0 40 v) (h : DataW.Trod enc Try.prog w 0 (fun _ => true) true 40 v d p) :
    ∃ (sv : Option Addr) (n cap : Nat) (os : List Opr), v = .slice sv n cap ∧ os.length = n ∧ Oprs w sv os ∧ n ≤ Rows.uptoBulk d ∧ ∀ o ∈ os, (Lit.int .i64 o.x).wf = true ∧ (Lit.int .i64 o.y).wf = true := by
  obtain ⟨sv, n, cap, rfl⟩ := okWide_slice Try.underlying40 hv
  obtain ⟨fuel, hf⟩ := h
  rcases open_slice Try.underlying40 hf with ⟨hcs, hx⟩ | ⟨a, len, cap', m, k, D, Pl, hcs, -, hle, -, hm, hx, hi⟩
  · simp [Value.cells] at hcs
    obtain ⟨rfl, rfl, rfl⟩ := hcs
    exact ⟨none, 0, 0, [], rfl, rfl, (fun h => absurd h (by simp)), Nat.zero_le _, by simp⟩
  · simp [Value.cells] at hcs
    obtain ⟨rfl, rfl, rfl⟩ := hcs
    simp only [if_true] at hm
    simp only [Prod.mk.injEq] at hx
    obtain ⟨rfl, -⟩ := hx
    have hC : Try.prog.cellsOf 43 = 7 := by kernel_rfl
    have hCP : Try.prog.cellsOf 31 = 3 := by kernel_rfl
    have hCI : Try.prog.cellsOf 2 = 1 := by kernel_rfl
    have hCN : Try.prog.cellsOf 3 = 1 := by kernel_rfl
    have one : ∀ (cs : List Value) (j : Nat) (x : Int) , (cs.drop j).take 1 = [.int .i64 x] → cs[j]? = some (.int .i64 x) := by
      intro cs j x h
      have := congrArg (fun l : List Value => l[0]?) h
      simpa [List.getElem?_take, List.getElem?_drop] using this
    have hcell : ∀ i, i < n → ∃ o : Opr, w.cell? (a.add (i * 7 + 0)) = some (.int .i64 o.k) ∧ w.cell? (a.add (i * 7 + 1)) = some (.int .i64 o.x) ∧ w.cell? (a.add (i * 7 + 2)) = some (.int .i64 o.y) ∧ w.cell? (a.add (i * 7 + 3)) = some (.int .i64 o.i) ∧
        w.cell? (a.add (i * 7 + 4)) = some (.int .i64 o.lo) ∧ w.cell? (a.add (i * 7 + 5)) = some (.int .i64 o.hi) ∧ w.cell? (a.add (i * 7 + 6)) = some (.int .i64 o.le) ∧ (Lit.int .i64 o.x).wf = true ∧ (Lit.int .i64 o.y).wf = true := by
      intro i hin
      obtain ⟨cs', hc, ht'⟩ := hi i (by omega)
      rw [hC] at hc
      obtain ⟨_, hcl, hat⟩ := World.cells?_some hc
      obtain ⟨ys, n1, -, -, hlen, hyl, hf1⟩ := DataW.trod_struct Try.underlying43 ht'
      have g0 := hf1 0 _ rfl
      have g1 := hf1 1 _ rfl
      have g2 := hf1 2 _ rfl
      have g3 := hf1 3 _ rfl
      have g4 := hf1 4 _ rfl
      have hy : ∀ j, j < 5 → ∃ y, ys[j]? = some y := fun j hj => ⟨ys[j]'(by have : ys.length = 5 := hyl; omega), by rw [List.getElem?_eq_getElem]⟩
      obtain ⟨y0, e0⟩ := hy 0 (by omega)
      obtain ⟨y1, e1⟩ := hy 1 (by omega)
      obtain ⟨y2, e2⟩ := hy 2 (by omega)
      obtain ⟨y3, e3⟩ := hy 3 (by omega)
      obtain ⟨y4, e4⟩ := hy 4 (by omega)
      rw [e0] at g0
      rw [e1] at g1
      rw [e2] at g2
      rw [e3] at g3
      rw [e4] at g4
      replace g0 : DataW.trod enc Try.prog w 0 (fun _ => true) true n1 3 ((cs'.drop 0).take (Try.prog.cellsOf 3)) = some y0 := g0
      replace g1 : DataW.trod enc Try.prog w 0 (fun _ => true) true n1 31 ((cs'.drop 1).take (Try.prog.cellsOf 31)) = some y1 := g1
      replace g2 : DataW.trod enc Try.prog w 0 (fun _ => true) true n1 2 ((cs'.drop 4).take (Try.prog.cellsOf 2)) = some y2 := g2
      replace g3 : DataW.trod enc Try.prog w 0 (fun _ => true) true n1 2 ((cs'.drop 5).take (Try.prog.cellsOf 2)) = some y3 := g3
      replace g4 : DataW.trod enc Try.prog w 0 (fun _ => true) true n1 2 ((cs'.drop 6).take (Try.prog.cellsOf 2)) = some y4 := g4
      rw [hCN] at g0
      rw [hCP] at g1
      rw [hCI] at g2 g3 g4
      obtain ⟨x0, q0, -, w0⟩ := DataW.trod_int Try.underlying3 g0
      obtain ⟨x4, q4, -, w4⟩ := DataW.trod_int Try.underlying2 g2
      obtain ⟨x5, q5, -, w5⟩ := DataW.trod_int Try.underlying2 g3
      obtain ⟨x6, q6, -, w6⟩ := DataW.trod_int Try.underlying2 g4
      obtain ⟨zs, n2, -, -, hlen2, hzl, hf2⟩ := DataW.trod_struct Try.underlying31 g1
      have r0 := hf2 0 _ rfl
      have r1 := hf2 1 _ rfl
      have r2 := hf2 2 _ rfl
      have hz : ∀ j, j < 3 → ∃ y, zs[j]? = some y := fun j hj => ⟨zs[j]'(by have : zs.length = 3 := hzl; omega), by rw [List.getElem?_eq_getElem]⟩
      obtain ⟨z0, f0⟩ := hz 0 (by omega)
      obtain ⟨z1, f1⟩ := hz 1 (by omega)
      obtain ⟨z2, f2⟩ := hz 2 (by omega)
      rw [f0] at r0
      rw [f1] at r1
      rw [f2] at r2
      replace r0 : DataW.trod enc Try.prog w 0 (fun _ => true) true n2 2 ((((cs'.drop 1).take 3).drop 0).take (Try.prog.cellsOf 2)) = some z0 := r0
      replace r1 : DataW.trod enc Try.prog w 0 (fun _ => true) true n2 2 ((((cs'.drop 1).take 3).drop 1).take (Try.prog.cellsOf 2)) = some z1 := r1
      replace r2 : DataW.trod enc Try.prog w 0 (fun _ => true) true n2 2 ((((cs'.drop 1).take 3).drop 2).take (Try.prog.cellsOf 2)) = some z2 := r2
      rw [hCI] at r0 r1 r2
      obtain ⟨x1, q1, -, w1⟩ := DataW.trod_int Try.underlying2 r0
      obtain ⟨x2, q2, -, w2⟩ := DataW.trod_int Try.underlying2 r1
      obtain ⟨x3, q3, -, w3⟩ := DataW.trod_int Try.underlying2 r2
      have p0 := one _ _ _ q0
      have p4 := one _ _ _ q4
      have p5 := one _ _ _ q5
      have p6 := one _ _ _ q6
      have p1 := one _ _ _ q1
      have p2 := one _ _ _ q2
      have p3 := one _ _ _ q3
      simp only [List.getElem?_take, List.getElem?_drop] at p1 p2 p3
      have hcells : ∀ j, j < 7 → w.cell? (a.add (i * 7 + j)) = cs'[j]? := fun j hj => by
        have := hat j (by omega)
        rw [Go.Deep.add_add] at this
        exact this
      refine ⟨⟨x0, x1, x2, x3, x4, x5, x6⟩, ?_, ?_, ?_, ?_, ?_, ?_, ?_, w1, w2⟩
      · rw [hcells 0 (by omega)]; exact p0
      · rw [hcells 1 (by omega)]; simpa using p1
      · rw [hcells 2 (by omega)]; simpa using p2
      · rw [hcells 3 (by omega)]; simpa using p3
      · rw [hcells 4 (by omega)]; exact p4
      · rw [hcells 5 (by omega)]; exact p5
      · rw [hcells 6 (by omega)]; exact p6
    have hex : ∃ os : List Opr, os.length = n ∧ ∀ i o, os[i]? = some o → w.cell? (a.add (i * 7 + 0)) = some (.int .i64 o.k) ∧ w.cell? (a.add (i * 7 + 1)) = some (.int .i64 o.x) ∧ w.cell? (a.add (i * 7 + 2)) = some (.int .i64 o.y) ∧ w.cell? (a.add (i * 7 + 3)) = some (.int .i64 o.i) ∧
        w.cell? (a.add (i * 7 + 4)) = some (.int .i64 o.lo) ∧ w.cell? (a.add (i * 7 + 5)) = some (.int .i64 o.hi) ∧ w.cell? (a.add (i * 7 + 6)) = some (.int .i64 o.le) ∧ (Lit.int .i64 o.x).wf = true ∧ (Lit.int .i64 o.y).wf = true := by
      clear hi hm hf hle hv
      induction n with
      | zero => exact ⟨[], rfl, by simp⟩
      | succ n ih =>
        obtain ⟨ps, h1, h2⟩ := ih (fun i hin => hcell i (by omega))
        obtain ⟨q, hq⟩ := hcell n (by omega)
        refine ⟨ps ++ [q], by simp [h1], fun i q' hq' => ?_⟩
        rcases Nat.lt_or_ge i ps.length with hl | hl
        · rw [List.getElem?_append_left hl] at hq'
          exact h2 i q' hq'
        · rw [List.getElem?_append_right hl] at hq'
          have h3 : i - ps.length = 0 := by
            have := (List.getElem?_eq_some_iff.1 hq').1
            simp at this; omega
          rw [h3] at hq'
          simp at hq'
          obtain rfl : i = n := by omega
          rw [← hq']
          exact hq
    obtain ⟨ps, h1, h2⟩ := hex
    refine ⟨some a, n, cap, ps, rfl, h1, fun hp => ?_, ?_, fun q hq => ?_⟩
    · obtain ⟨lb, off, sp⟩ := a
      obtain ⟨q0, hq0⟩ : ∃ q, ps[0]? = some q := ⟨ps[0]'hp, by rw [List.getElem?_eq_getElem]⟩
      have h3 := World.cell?_spot (h2 0 q0 hq0).1
      simp [Addr.add] at h3
      subst h3
      have ha : ∀ k : Nat, (⟨lb, off, none⟩ : Addr).add k = ⟨lb, off + k, none⟩ := fun k => by
        unfold Addr.add; split <;> simp_all
      refine ⟨lb, off, rfl, fun i q hq => ?_⟩
      obtain ⟨b0, b1, b2, b3, b4, b5, b6, -⟩ := h2 i q hq
      simp only [ha, Nat.add_zero, ← Nat.add_assoc] at b0 b1 b2 b3 b4 b5 b6
      exact ⟨b0, b1, b2, b3, b4, b5, b6⟩
    · have := Blk.slice_le ((List.range n).map D) ((List.range (m - n)).map fun j => D (n + j))
      simp at this
      omega
    · obtain ⟨i, hi', rfl⟩ := List.getElem_of_mem hq
      exact (h2 i _ (List.getElem?_eq_getElem hi')).2.2.2.2.2.2.2

theorem plays_contract (H : Type) (enc : TypeId × Value → H) (W : World) (base : Nat) (args : Array Value) (ds gs : List (DataW H)) (before : List MemPlace)
    (hval : ∀ (j : Nat) t v, Try.f5.params[j]? = some t → args[j]? = some v → Value.okWide Try.prog W .any base t v)
    (hW : DataW.Whole enc Try.prog Try.f5.params.toList Rows.pstreePlaysSpec.vars false W args.toList ds gs before) (hk : Rows.uptoSmall H (ds ++ gs) = true) :
    Calls Try.prog 5 args W fun e W' => ∃ v, e = .returned v ∧ Rows.pstreePlaysSpec.post enc Try.prog Try.f5 false true false false W args v W' := by
  have hW' := hW
  obtain ⟨p, q, hA0, hV, rfl, hfz, hnd⟩ := hW
  have hA : DataW.TrodAll enc Try.prog W 0 (fun _ => true) true Try.f5.params.toList args.toList ds p := hA0
  rw [Try.params5] at hA hval
  obtain ⟨v0, vs0, d0, ds0, p0, q0, hargs, rfl, rfl, h0, r0⟩ := trodAll_cons hA
  obtain ⟨rfl, rfl, rfl⟩ := trodAll_nil r0
  obtain rfl : args = #[v0] := by cases args; simp_all
  obtain ⟨rfl, rfl⟩ := trodVars_none hV
  obtain ⟨sv, n, cap, os, rfl, hn, hc, hb, hwf⟩ := open_oprs (hval 0 40 v0 rfl rfl) h0
  have hbd := Blk.arg_le hk (d := d0) (by simp)
  refine (plays_any sv n cap os W hn hc (by omega) (fun o ho => ?_)).mono fun e W' ⟨he, hg⟩ => ?_
  · obtain ⟨h1, h2⟩ := hwf o ho
    have e1 := bounds_i64 h1
    have e2 := bounds_i64 h2
    unfold wide
    omega
  subst he
  exact ⟨_, rfl, post_true laidOut (by kernel_rfl) (by kernel_rfl) Try.underlying4 rfl rfl rfl rfl hW' hg⟩

set_option maxRecDepth 100000 in
theorem plays_lifted (os : Os) (started : os.Started) (H : Type) (enc : TypeId × Value → H) (F : Stop.Interp) :
    ReturnsInHanded {} Try.checked os 5 .any ((Rows.OpenSpec.upto Rows.pstreePlaysSpec).pre6 enc Try.prog Try.f5 Rows.pstreePlaysUptoRow.domain false) (((Rows.OpenSpec.upto Rows.pstreePlaysSpec).at F).post enc Try.prog Try.f5 false true false false) := by
  refine returnsInHanded_of_cond (C := Try.checked) (s := Rows.OpenSpec.upto Rows.pstreePlaysSpec) (k := Rows.uptoSmall) rfl own started (by kernel_rfl) Try.func5
    (OpenSpec.witness (enc := enc) (C := Try.checked) (s := Rows.OpenSpec.upto Rows.pstreePlaysSpec) (k := Rows.uptoSmall) rfl false ⟨#[], #[.slice none 0 0], []⟩ 8 (by kernel_rfl) (by kernel_rfl) (by kernel_rfl)
      (x := ([.nil], [], [])) (by kernel_rfl) rfl (by kernel_rfl)) ?_
  intro W base args ds gs before hval hW _ hk _
  exact plays_contract H enc W base args ds gs before hval hW hk

theorem plays_said : Rows.PstreePlaysUptoSaid :=
  OpenClaim.holds_of_cond 5 Try.f5 rfl rfl rfl rfl rfl rfl rfl ⟨rfl, rfl, rfl, rfl, rfl⟩ rfl rfl rfl rfl rfl (by kernel_rfl) Try.func5 (by kernel_rfl)
    (of_decide_eq_true (by kernel_rfl)) (by unfold Func.isWrapper; first | (rw [if_pos (by decide +kernel)]; kernel_rfl) | (rw [if_neg (by decide +kernel)]; exact ⟨rfl, rfl⟩))
    (fun os started H enc _ F => plays_lifted os started H enc F)
end Go.Proofs.Ytcildmdmgjehbaa
