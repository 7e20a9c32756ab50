/- CodecSums: for every byte slice and every cut the law returns true and the input reads as it did: the row's statement of the second form, proved. Condition: none beyond the row's own (its bound on the input's bulk). -/
import Derived.Test.YtlmlkphdalkfdaaOpn
import Derived.Test.YtlmlkphdalkfdaaSums
namespace Go.Proofs.Ytlmlkphdalkfdaa
open Go.ChangeShapes Go.WideShapes Go.ChangeAt Go.RowKit Go.Deep

theorem laidOut : laidOutB Try.prog = true := by kernel_rfl
theorem own : ownKnob Try.prog.godebug = none := by kernel_rfl

/-- Cells one by one, as bytes. -/
theorem bytes_exist {w : World} {a : Addr} : ∀ (n : Nat), (∀ i, i < n → ∃ x : Int, w.cell? (a.add i) = some (.int .u8 x) ∧ 0 ≤ x ∧ x < 256) →
    ∃ l : List UInt8, l.length = n ∧ ∀ (i : Nat) (x : UInt8), l[i]? = some x → w.cell? (a.add i) = some (.int .u8 (x.toNat : Int))
  | 0, _ => ⟨[], rfl, by simp⟩
  | n + 1, h => by
    obtain ⟨l, h1, h2⟩ := bytes_exist n fun i hi => h i (by omega)
    obtain ⟨x, hx, h3, h4⟩ := h n (by omega)
    refine ⟨l ++ [UInt8.ofNat x.toNat], by simp [h1], fun i y hy => ?_⟩
    rcases Nat.lt_or_ge i l.length with hl | hl
    · rw [List.getElem?_append_left hl] at hy
      exact h2 i y hy
    · rw [List.getElem?_append_right hl] at hy
      have h5 : i - l.length = 0 := by
        have := (List.getElem?_eq_some_iff.1 hy).1
        simp at this; omega
      rw [h5] at hy
      simp at hy
      obtain rfl : i = n := by omega
      rw [← hy, hx, UInt8.toNat_ofNat']
      congr 2
      omega

/-- The slice of bytes that came in. -/
theorem open_bytes {H : Type} {enc : TypeId × Value → H} {w : World} {b0 : Nat} {v : Value} {d : DataW H} {p : List MemPlace}
    (hv : Value.okWide Try.prog w .any b0 22 v) (h : DataW.Trod enc Try.prog w 0 (fun _ => true) true 22 v d p) :
    ∃ (l : List UInt8), BytesAt w v l ∧ (∀ a n c, v = .slice a n c → n ≤ c) ∧ l.length ≤ Rows.uptoBulk d := by
  obtain ⟨sv, n, cap, rfl⟩ := okWide_slice Try.underlying22 hv
  obtain ⟨fuel, hf⟩ := h
  rcases open_slice Try.underlying22 hf with ⟨hcs, hx⟩ | ⟨a, len, cap', m, k, D, Pl, hcs, -, hle, -, hm, hx, hi⟩
  · simp [Value.cells] at hcs
    obtain ⟨rfl, rfl, rfl⟩ := hcs
    exact ⟨[], BytesAt.nil w, fun a n c e => by cases e; omega, Nat.zero_le _⟩
  · simp [Value.cells] at hcs
    obtain ⟨rfl, rfl, rfl⟩ := hcs
    simp only [if_true] at hm
    simp only [Prod.mk.injEq] at hx
    obtain ⟨rfl, -⟩ := hx
    have hC : Try.prog.cellsOf 5 = 1 := by kernel_rfl
    have hcell : ∀ i, i < n → ∃ x : Int, w.cell? (a.add i) = some (.int .u8 x) ∧ 0 ≤ x ∧ x < 256 := by
      intro i hin
      obtain ⟨cs', hc, ht'⟩ := hi i (by omega)
      rw [hC] at hc
      obtain ⟨_, hcl, hat⟩ := World.cells?_some hc
      obtain ⟨x, he, -, hw⟩ := DataW.trod_int Try.underlying5 ht'
      have h0 := hat 0 (by omega)
      rw [he] at h0
      refine ⟨x, ?_, ?_⟩
      · have ha : (a.add (i * 1)).add 0 = a.add i := by rw [Go.Deep.add_add, Nat.mul_one, Nat.add_zero]
        rw [ha] at h0
        exact h0
      · have h := hw
        simp only [Lit.wf, Bool.and_eq_true, decide_eq_true_eq] at h
        have hmin : IntKind.u8.min = 0 := rfl
        have hmax : IntKind.u8.max = 255 := rfl
        omega
    obtain ⟨l, h1, h2⟩ := bytes_exist n hcell
    refine ⟨l, ⟨some a, cap, by rw [h1], fun h => ?_, fun hp => ?_⟩, fun a n c e => ?_, ?_⟩
    · simp at h
    · obtain ⟨lb, off, sp⟩ := a
      have h3 := World.cell?_spot (h2 0 l[0] (List.getElem?_eq_getElem hp))
      simp [Addr.add] at h3
      subst h3
      exact ⟨lb, off, rfl, fun j x hx => by rw [← add_flat]; exact h2 j x hx⟩
    · cases e; exact hle
    · have := Blk.slice_le ((List.range n).map D) ((List.range (m - n)).map fun j => D (n + j))
      simp at this
      omega

theorem sums_contract (H : Type) (enc : TypeId × Value → H) (W : World) (base : Nat) (args : Array Value) (ds gs : List (DataW H)) (before : List MemPlace)
    (hval : ∀ (j : Nat) t v, Try.f3.params[j]? = some t → args[j]? = some v → Value.okWide Try.prog W .any base t v)
    (hW : DataW.Whole enc Try.prog Try.f3.params.toList Rows.codecSumsSpec.vars false W args.toList ds gs before) (hk : Rows.uptoSmall H (ds ++ gs) = true) :
    Calls Try.prog 3 args W fun e W' => ∃ v, e = .returned v ∧ Rows.codecSumsSpec.post enc Try.prog Try.f3 false true false false W args v W' := by
  have hW' := hW
  obtain ⟨p, q, hA0, hV, rfl, hfz, hnd⟩ := hW
  have hA : DataW.TrodAll enc Try.prog W 0 (fun _ => true) true Try.f3.params.toList args.toList ds p := hA0
  rw [Try.params3] at hA hval
  obtain ⟨v0, vs0, d0, ds0, p0, q0, hargs, rfl, rfl, h0, r0⟩ := trodAll_cons hA
  obtain ⟨v1, vs1, d1, ds1, p1, q1, rfl, rfl, rfl, h1, r1⟩ := trodAll_cons r0
  obtain ⟨rfl, rfl, rfl⟩ := trodAll_nil r1
  obtain rfl : args = #[v0, v1] := by cases args; simp_all
  obtain ⟨rfl, rfl⟩ := trodVars_none hV
  obtain ⟨l, hl, hcap, hb⟩ := open_bytes (hval 0 22 v0 rfl rfl) h0
  obtain ⟨x, rfl, rfl, rfl, hw⟩ := open_int Try.underlying3 (hval 1 3 v1 rfl rfl) h1
  have hbd := Blk.arg_le hk (d := d0) (by simp)
  have e1 := bounds_i64 hw
  refine (sums_any v0 l x W hl hcap (by omega) (by omega) (by omega)).mono fun e W' ⟨he, hg⟩ => ?_
  subst he
  exact ⟨_, rfl, post_true laidOut (by kernel_rfl) (by kernel_rfl) Try.underlying4 rfl rfl rfl rfl hW' hg⟩

set_option maxRecDepth 100000 in
theorem sums_lifted (os : Os) (started : os.Started) (H : Type) (enc : TypeId × Value → H) (F : Stop.Interp) :
    ReturnsInHanded {} Try.checked os 3 .any ((Rows.OpenSpec.upto Rows.codecSumsSpec).pre6 enc Try.prog Try.f3 Rows.codecSumsUptoRow.domain false) (((Rows.OpenSpec.upto Rows.codecSumsSpec).at F).post enc Try.prog Try.f3 false true false false) := by
  refine returnsInHanded_of_cond (C := Try.checked) (s := Rows.OpenSpec.upto Rows.codecSumsSpec) (k := Rows.uptoSmall) rfl own started (by kernel_rfl) Try.func3
    (OpenSpec.witness (enc := enc) (C := Try.checked) (s := Rows.OpenSpec.upto Rows.codecSumsSpec) (k := Rows.uptoSmall) rfl false ⟨#[], #[.slice none 0 0, .int .i64 0], []⟩ 8 (by kernel_rfl) (by kernel_rfl) (by kernel_rfl)
      (x := ([.nil, .lit (.int .i64 0)], [], [])) (by kernel_rfl) rfl (by kernel_rfl)) ?_
  intro W base args ds gs before hval hW _ hk _
  exact sums_contract H enc W base args ds gs before hval hW hk

theorem sums_said : Rows.CodecSumsUptoSaid :=
  OpenClaim.holds_of_cond 3 Try.f3 rfl rfl rfl rfl rfl rfl rfl ⟨rfl, rfl, rfl, rfl, rfl⟩ rfl rfl rfl rfl rfl (by kernel_rfl) Try.func3 (by kernel_rfl)
    (of_decide_eq_true (by kernel_rfl)) (by unfold Func.isWrapper; first | (rw [if_pos (by decide +kernel)]; kernel_rfl) | (rw [if_neg (by decide +kernel)]; exact ⟨rfl, rfl⟩))
    (fun os started H enc _ F => sums_lifted os started H enc F)
end Go.Proofs.Ytlmlkphdalkfdaa
