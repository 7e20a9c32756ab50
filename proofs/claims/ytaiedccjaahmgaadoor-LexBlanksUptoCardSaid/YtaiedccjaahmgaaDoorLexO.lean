/- What comes in, opened: slices of texts, slices of numbers. -/
import Derived.Test.YtaiedccjaahmgaaDoorLexRow
import Derived.Test.YtaiedccjaahmgaaDoorLexB
namespace Go.Proofs.YtaiedccjaahmgaaDoor
open Go.ChangeShapes Go.WideShapes Go.ChangeAt Go.RowKit Go.Deep

/-- Things one by one. -/
theorem list_exist {α : Type} {F : Nat → α → Prop} : ∀ (n : Nat), (∀ i, i < n → ∃ v : α, F i v) → ∃ vs : List α, vs.length = n ∧ ∀ (i : Nat) (v : α), vs[i]? = some v → F i v
  | 0, _ => ⟨[], rfl, by simp⟩
  | n + 1, h => by
    obtain ⟨vs, h1, h2⟩ := list_exist n fun i hi => h i (by omega)
    obtain ⟨v, hv⟩ := h n (by omega)
    refine ⟨vs ++ [v], by simp [h1], fun i u hu => ?_⟩
    rcases Nat.lt_or_ge i vs.length with hl | hl
    · rw [List.getElem?_append_left hl] at hu
      exact h2 i u hu
    · rw [List.getElem?_append_right hl] at hu
      have h5 : i - vs.length = 0 := by
        have := (List.getElem?_eq_some_iff.1 hu).1
        simp at this; omega
      rw [h5] at hu
      simp at hu
      obtain rfl : i = n := by omega
      rw [← hu]; exact hv
theorem bs_of (s : ByteArray) : bs s.data.toList = s := by cases s; simp [bs]
theorem add_flat' {lb off k : Nat} : (⟨lb, off, none⟩ : Addr).add k = ⟨lb, off + k, none⟩ := by
  unfold Addr.add; split <;> simp_all
theorem open_strs {H : Type} {enc : TypeId × Value → H} {w : World} {b0 : Nat} {v : Value} {d : DataW H} {p : List MemPlace}
    (hv : Value.okWide Tryd.prog w .any b0 32 v) (h : DataW.Trod enc Tryd.prog w 0 (fun _ => true) true 32 v d p) :
    ∃ (sv : Option Addr) (n cap : Nat) (ws : List (List UInt8)), v = .slice sv n cap ∧ ws.length = n ∧ Wds w sv ws ∧ n ≤ Rows.uptoBulk d ∧ ∀ x ∈ ws, x.length ≤ Rows.uptoBulk d := by
  obtain ⟨sv, n, cap, rfl⟩ := okWide_slice Tryd.underlying32 hv
  obtain ⟨fuel, hf⟩ := h
  rcases open_slice Tryd.underlying32 hf with ⟨hcs, hx⟩ | ⟨a, len, cap', m, k, D, Pl, hcs, -, hle, -, hm, hx, hi⟩
  · simp [Value.cells] at hcs
    obtain ⟨rfl, rfl, rfl⟩ := hcs
    exact ⟨none, 0, 0, [], rfl, rfl, (fun h => absurd h (by simp)), Nat.zero_le _, by simp⟩
  · simp [Value.cells] at hcs
    obtain ⟨rfl, rfl, rfl⟩ := hcs
    simp only [if_true] at hm
    simp only [Prod.mk.injEq] at hx
    obtain ⟨rfl, -⟩ := hx
    have hC : Tryd.prog.cellsOf 9 = 1 := by kernel_rfl
    have hcell : ∀ i, i < n → ∃ x : List UInt8, w.cell? (a.add i) = some (str x) ∧ x.length ≤ Rows.uptoBulk (DataW.slice ((List.range n).map D) ((List.range (m - n)).map fun j => D (n + j))) := by
      intro i hin
      obtain ⟨cs', hc, ht'⟩ := hi i (by omega)
      rw [hC] at hc
      obtain ⟨_, hcl, hat⟩ := World.cells?_some hc
      obtain ⟨s, he, ey, hs⟩ := DataW.trod_string Tryd.underlying9 ht'
      have h0 := hat 0 (by omega)
      rw [he] at h0
      refine ⟨s.data.toList, ?_, ?_⟩
      · have ha : (a.add (i * 1)).add 0 = a.add i := by rw [Go.Deep.add_add, Nat.mul_one, Nat.add_zero]
        rw [ha] at h0
        show _ = some (Value.string (bs s.data.toList))
        rw [bs_of]; exact h0
      · have h1 : D i ∈ (List.range n).map D := List.mem_map.2 ⟨i, List.mem_range.2 hin, rfl⟩
        have h2 := Blk.part_le h1
        have hD : D i = .lit (.string s.data.toList) := congrArg Prod.fst ey
        rw [hD] at h2
        simp only [Blk.string_eq] at h2
        simp only [Rows.uptoBulk]
        omega
    obtain ⟨vs, h1, h2⟩ := list_exist n hcell
    refine ⟨some a, n, cap, vs, rfl, h1, fun hp => ?_, ?_, fun q hq => ?_⟩
    · obtain ⟨lb, off, sp⟩ := a
      have h3 := World.cell?_spot (h2 0 (vs[0]'hp) (List.getElem?_eq_getElem hp)).1
      replace h3 : sp = none := h3
      subst h3
      refine ⟨lb, off, rfl, fun i q hq => ?_⟩
      have g0 := (h2 i q hq).1
      rw [add_flat'] at g0
      exact g0
    · have := Blk.slice_le ((List.range n).map D) ((List.range (m - n)).map fun j => D (n + j))
      simp at this
      omega
    · obtain ⟨i, hi', rfl⟩ := List.getElem_of_mem hq
      exact (h2 i _ (List.getElem?_eq_getElem hi')).2
theorem open_ints {H : Type} {enc : TypeId × Value → H} {w : World} {b0 : Nat} {v : Value} {d : DataW H} {p : List MemPlace}
    (hv : Value.okWide Tryd.prog w .any b0 33 v) (h : DataW.Trod enc Tryd.prog w 0 (fun _ => true) true 33 v d p) :
    ∃ (sv : Option Addr) (n cap : Nat) (xs : List Int), v = .slice sv n cap ∧ xs.length = n ∧ Nums w sv xs ∧ n ≤ Rows.uptoBulk d := by
  obtain ⟨sv, n, cap, rfl⟩ := okWide_slice Tryd.underlying33 hv
  obtain ⟨fuel, hf⟩ := h
  rcases open_slice Tryd.underlying33 hf with ⟨hcs, hx⟩ | ⟨a, len, cap', m, k, D, Pl, hcs, -, hle, -, hm, hx, hi⟩
  · simp [Value.cells] at hcs
    obtain ⟨rfl, rfl, rfl⟩ := hcs
    exact ⟨none, 0, 0, [], rfl, rfl, (fun h => absurd h (by simp)), Nat.zero_le _⟩
  · simp [Value.cells] at hcs
    obtain ⟨rfl, rfl, rfl⟩ := hcs
    simp only [if_true] at hm
    simp only [Prod.mk.injEq] at hx
    obtain ⟨rfl, -⟩ := hx
    have hC : Tryd.prog.cellsOf 3 = 1 := by kernel_rfl
    have hcell : ∀ i, i < n → ∃ x : Int, w.cell? (a.add i) = some (.int .i64 x) := by
      intro i hin
      obtain ⟨cs', hc, ht'⟩ := hi i (by omega)
      rw [hC] at hc
      obtain ⟨_, hcl, hat⟩ := World.cells?_some hc
      obtain ⟨x, he, -, hw⟩ := DataW.trod_int Tryd.underlying3 ht'
      have h0 := hat 0 (by omega)
      rw [he] at h0
      refine ⟨x, ?_⟩
      have ha : (a.add (i * 1)).add 0 = a.add i := by rw [Go.Deep.add_add, Nat.mul_one, Nat.add_zero]
      rw [ha] at h0
      exact h0
    obtain ⟨vs, h1, h2⟩ := list_exist n hcell
    refine ⟨some a, n, cap, vs, rfl, h1, fun hp => ?_, ?_⟩
    · obtain ⟨lb, off, sp⟩ := a
      have h3 := World.cell?_spot (h2 0 (vs[0]'hp) (List.getElem?_eq_getElem hp))
      replace h3 : sp = none := h3
      subst h3
      refine ⟨lb, off, rfl, fun i q hq => ?_⟩
      have g0 := h2 i q hq
      rw [add_flat'] at g0
      exact g0
    · have := Blk.slice_le ((List.range n).map D) ((List.range (m - n)).map fun j => D (n + j))
      simp at this
      omega
end Go.Proofs.YtaiedccjaahmgaaDoor
