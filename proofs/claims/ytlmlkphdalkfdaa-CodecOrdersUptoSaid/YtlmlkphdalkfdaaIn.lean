/- What comes in, opened: byte slices and slices of values. -/
import Derived.Test.YtlmlkphdalkfdaaOpn
import Derived.Test.YtlmlkphdalkfdaaWrt
namespace Go.Proofs.Ytlmlkphdalkfdaa
open Go.ChangeShapes Go.WideShapes Go.ChangeAt Go.RowKit Go.Deep

theorem laidOut : laidOutB Try.prog = true := by kernel_rfl
theorem own : ownKnob Try.prog.godebug = none := by kernel_rfl

/-- Cells one by one, as bytes. -/
theorem bytes_exist {w : World} {a : Addr} : ∀ (n : Nat), (∀ i, i < n → ∃ x : Int, w.cell? (a.add i) = some (.int .u8 x) ∧ 0 ≤ x ∧ x < 256) →
    ∃ l : List UInt8, l.length = n ∧ ∀ (i : Nat) (x : UInt8), l[i]? = some x → w.cell? (a.add i) = some (.int .u8 (x.toNat : Int))
  | 0, _ => ⟨[], rfl, by simp⟩
  | n + 1, h => by
    obtain ⟨l, h1, h2⟩ := bytes_exist n fun i hi => h i (by omega)
    obtain ⟨x, hx, h3, h4⟩ := h n (by omega)
    refine ⟨l ++ [UInt8.ofNat x.toNat], by simp [h1], fun i y hy => ?_⟩
    rcases Nat.lt_or_ge i l.length with hl | hl
    · rw [List.getElem?_append_left hl] at hy
      exact h2 i y hy
    · rw [List.getElem?_append_right hl] at hy
      have h5 : i - l.length = 0 := by
        have := (List.getElem?_eq_some_iff.1 hy).1
        simp at this; omega
      rw [h5] at hy
      simp at hy
      obtain rfl : i = n := by omega
      rw [← hy, hx, UInt8.toNat_ofNat']
      congr 2
      omega

/-- The slice of bytes that came in. -/
theorem open_bytes {H : Type} {enc : TypeId × Value → H} {w : World} {b0 : Nat} {v : Value} {d : DataW H} {p : List MemPlace}
    (hv : Value.okWide Try.prog w .any b0 22 v) (h : DataW.Trod enc Try.prog w 0 (fun _ => true) true 22 v d p) :
    ∃ (l : List UInt8), BytesAt w v l ∧ (∀ a n c, v = .slice a n c → n ≤ c) ∧ l.length ≤ Rows.uptoBulk d := by
  obtain ⟨sv, n, cap, rfl⟩ := okWide_slice Try.underlying22 hv
  obtain ⟨fuel, hf⟩ := h
  rcases open_slice Try.underlying22 hf with ⟨hcs, hx⟩ | ⟨a, len, cap', m, k, D, Pl, hcs, -, hle, -, hm, hx, hi⟩
  · simp [Value.cells] at hcs
    obtain ⟨rfl, rfl, rfl⟩ := hcs
    exact ⟨[], BytesAt.nil w, fun a n c e => by cases e; omega, Nat.zero_le _⟩
  · simp [Value.cells] at hcs
    obtain ⟨rfl, rfl, rfl⟩ := hcs
    simp only [if_true] at hm
    simp only [Prod.mk.injEq] at hx
    obtain ⟨rfl, -⟩ := hx
    have hC : Try.prog.cellsOf 5 = 1 := by kernel_rfl
    have hcell : ∀ i, i < n → ∃ x : Int, w.cell? (a.add i) = some (.int .u8 x) ∧ 0 ≤ x ∧ x < 256 := by
      intro i hin
      obtain ⟨cs', hc, ht'⟩ := hi i (by omega)
      rw [hC] at hc
      obtain ⟨_, hcl, hat⟩ := World.cells?_some hc
      obtain ⟨x, he, -, hw⟩ := DataW.trod_int Try.underlying5 ht'
      have h0 := hat 0 (by omega)
      rw [he] at h0
      refine ⟨x, ?_, ?_⟩
      · have ha : (a.add (i * 1)).add 0 = a.add i := by rw [Go.Deep.add_add, Nat.mul_one, Nat.add_zero]
        rw [ha] at h0
        exact h0
      · have h := hw
        simp only [Lit.wf, Bool.and_eq_true, decide_eq_true_eq] at h
        have hmin : IntKind.u8.min = 0 := rfl
        have hmax : IntKind.u8.max = 255 := rfl
        omega
    obtain ⟨l, h1, h2⟩ := bytes_exist n hcell
    refine ⟨l, ⟨some a, cap, by rw [h1], fun h => ?_, fun hp => ?_⟩, fun a n c e => ?_, ?_⟩
    · simp at h
    · obtain ⟨lb, off, sp⟩ := a
      have h3 := World.cell?_spot (h2 0 l[0] (List.getElem?_eq_getElem hp))
      simp [Addr.add] at h3
      subst h3
      exact ⟨lb, off, rfl, fun j x hx => by rw [← add_flat]; exact h2 j x hx⟩
    · cases e; exact hle
    · have := Blk.slice_le ((List.range n).map D) ((List.range (m - n)).map fun j => D (n + j))
      simp at this
      omega

theorem bs_of (s : ByteArray) : bs s.data.toList = s := by cases s; simp [bs]

/-- Values one by one. -/
theorem vals_exist {w : World} {a : Addr} {B : Nat} : ∀ (n : Nat), (∀ i, i < n → ∃ v : V, w.cell? (a.add (i * 3)) = some (.int .i64 v.1) ∧ w.cell? (a.add (i * 3 + 1)) = some (.int .i64 v.2.1) ∧ w.cell? (a.add (i * 3 + 2)) = some (str v.2.2) ∧
      v.2.2.length ≤ B ∧ -9223372036854775808 ≤ v.2.1 ∧ v.2.1 ≤ 9223372036854775807 ∧ -9223372036854775808 ≤ v.1 ∧ v.1 ≤ 9223372036854775807) →
    ∃ vs : List V, vs.length = n ∧ ∀ (i : Nat) (v : V), vs[i]? = some v → w.cell? (a.add (i * 3)) = some (.int .i64 v.1) ∧ w.cell? (a.add (i * 3 + 1)) = some (.int .i64 v.2.1) ∧ w.cell? (a.add (i * 3 + 2)) = some (str v.2.2) ∧
      v.2.2.length ≤ B ∧ -9223372036854775808 ≤ v.2.1 ∧ v.2.1 ≤ 9223372036854775807 ∧ -9223372036854775808 ≤ v.1 ∧ v.1 ≤ 9223372036854775807
  | 0, _ => ⟨[], rfl, by simp⟩
  | n + 1, h => by
    obtain ⟨vs, h1, h2⟩ := vals_exist n fun i hi => h i (by omega)
    obtain ⟨v, hv⟩ := h n (by omega)
    refine ⟨vs ++ [v], by simp [h1], fun i u hu => ?_⟩
    rcases Nat.lt_or_ge i vs.length with hl | hl
    · rw [List.getElem?_append_left hl] at hu
      exact h2 i u hu
    · rw [List.getElem?_append_right hl] at hu
      have h5 : i - vs.length = 0 := by
        have := (List.getElem?_eq_some_iff.1 hu).1
        simp at this; omega
      rw [h5] at hu
      simp at hu
      obtain rfl : i = n := by omega
      rw [← hu]; exact hv

/-- The slice of values that came in. -/
theorem open_vals {H : Type} {enc : TypeId × Value → H} {w : World} {b0 : Nat} {v : Value} {d : DataW H} {p : List MemPlace}
    (hv : Value.okWide Try.prog w .any b0 28 v) (h : DataW.Trod enc Try.prog w 0 (fun _ => true) true 28 v d p) :
    ∃ (sv : Option Addr) (n cap : Nat) (vs : List V), v = .slice sv n cap ∧ vs.length = n ∧ Vals w sv vs ∧ n ≤ Rows.uptoBulk d ∧
      ∀ u ∈ vs, u.2.2.length ≤ Rows.uptoBulk d ∧ -9223372036854775808 ≤ u.2.1 ∧ u.2.1 ≤ 9223372036854775807 ∧ -9223372036854775808 ≤ u.1 ∧ u.1 ≤ 9223372036854775807 := by
  obtain ⟨sv, n, cap, rfl⟩ := okWide_slice Try.underlying28 hv
  obtain ⟨fuel, hf⟩ := h
  rcases open_slice_fields Try.underlying28 Try.underlying53 (by kernel_rfl) (by kernel_rfl) hf with ⟨hcs, hx⟩ | ⟨a, len, cap', m, D, Pl, hcs, -, hle, -, hm, hx, hi⟩
  · simp [Value.cells] at hcs
    obtain ⟨rfl, rfl, rfl⟩ := hcs
    exact ⟨none, 0, 0, [], rfl, rfl, (fun h => absurd h (by simp)), Nat.zero_le _, by simp⟩
  · simp [Value.cells] at hcs
    obtain ⟨rfl, rfl, rfl⟩ := hcs
    simp only [if_true] at hm
    simp only [Prod.mk.injEq] at hx
    obtain ⟨rfl, -⟩ := hx
    have hcell : ∀ i, i < n → ∃ v : V, w.cell? (a.add (i * 3)) = some (.int .i64 v.1) ∧ w.cell? (a.add (i * 3 + 1)) = some (.int .i64 v.2.1) ∧ w.cell? (a.add (i * 3 + 2)) = some (str v.2.2) ∧
        v.2.2.length ≤ Rows.uptoBulk (DataW.slice ((List.range n).map D) ((List.range (m - n)).map fun j => D (n + j))) ∧ -9223372036854775808 ≤ v.2.1 ∧ v.2.1 ≤ 9223372036854775807 ∧ -9223372036854775808 ≤ v.1 ∧ v.1 ≤ 9223372036854775807 := by
      intro i hin
      obtain ⟨ys, k, hD, -, hyl, hf'⟩ := hi i (by omega)
      obtain ⟨v0, y0, c0, -, t0⟩ := hf' 0 _ rfl
      obtain ⟨v1, y1, c1, -, t1⟩ := hf' 1 _ rfl
      obtain ⟨v2, y2, c2, e2, t2⟩ := hf' 2 _ rfl
      obtain ⟨x0, e0, -, w0⟩ := DataW.trod_int Try.underlying3 t0
      obtain ⟨x1, e1, -, w1⟩ := DataW.trod_int Try.underlying2 t1
      obtain ⟨s, es, ey, hs⟩ := DataW.trod_string Try.underlying9 t2
      simp at e0 e1 es
      subst e0 e1 es
      have hb0 := bounds_i64 w0
      have hb1 := bounds_i64 w1
      refine ⟨(x0, x1, s.data.toList), c0, c1, ?_, ?_, by simp only; omega, by simp only; omega, by simp only; omega, by simp only; omega⟩
      · show _ = some (Value.string (bs s.data.toList))
        rw [bs_of]; exact c2
      · have h1 : D i ∈ (List.range n).map D := List.mem_map.2 ⟨i, List.mem_range.2 hin, rfl⟩
        have h2 := Blk.part_le h1
        have h3 : y2.1 ∈ ys.map (·.1) := List.mem_map.2 ⟨y2, List.mem_of_getElem? e2, rfl⟩
        have h4 := Blk.part_le h3
        rw [ey] at h4
        simp only [Blk.string_eq] at h4
        rw [hD] at h2
        simp only [Rows.uptoBulk] at h2 ⊢
        omega
    obtain ⟨vs, h1, h2⟩ := vals_exist n hcell
    refine ⟨some a, n, cap, vs, rfl, h1, fun hp => ?_, ?_, fun q hq => ?_⟩
    · obtain ⟨lb, off, sp⟩ := a
      have h3 := World.cell?_spot (h2 0 vs[0] (List.getElem?_eq_getElem hp)).1
      simp [Addr.add] at h3
      subst h3
      refine ⟨lb, off, rfl, fun i q hq => ?_⟩
      obtain ⟨g0, g1, g2, _⟩ := h2 i q hq
      rw [add_flat] at g0 g1 g2
      exact ⟨g0, by rw [Nat.add_assoc]; exact g1, by rw [Nat.add_assoc]; exact g2⟩
    · have := Blk.slice_le ((List.range n).map D) ((List.range (m - n)).map fun j => D (n + j))
      simp at this
      omega
    · obtain ⟨i, hi', rfl⟩ := List.getElem_of_mem hq
      have := h2 i _ (List.getElem?_eq_getElem hi')
      exact this.2.2.2
end Go.Proofs.Ytlmlkphdalkfdaa
