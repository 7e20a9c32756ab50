/- lex.number: walked. -/
import Derived.Test.YtaiedccjaahmgaaDoorLex2
import Derived.Test.YtaiedccjaahmgaaDoorLexM
import Derived.Test.YtaiedccjaahmgaaDoorSlc
namespace Go.Proofs.YtaiedccjaahmgaaDoor
open Go.RowKit

/-- What 'number' gives of digits. -/
def NumPost (l : List UInt8) (w : World) (e : Ending) (w' : World) : Prop :=
  Ext w w' ∧ ∃ n : Int, e = .returned (.tuple #[.int .i64 n, .bool (decide (l.length ≤ 18))]) ∧ (l.length ≤ 18 → n = (val l : Int))

def NumInv (W : World) (l : List UInt8) (k : Nat) (v4 v10 : Value) (wr : World) : Prop :=
  ∃ (i : Nat) (n : Int), i + k = l.length ∧ v10 = .int .i64 (i : Int) ∧ (i ≤ 18 → n = (val (l.take i) : Int)) ∧ v4 = .int .i64 n ∧ Ext W wr

theorem val_take (l : List UInt8) (i : Nat) (x : UInt8) (h : l[i]? = some x) : val (l.take (i + 1)) = val (l.take i) * 10 + (x.toNat - 48) := by
  rw [List.take_add_one, h]
  simp [val]
theorem val_small {l : List UInt8} (hd : ∀ x ∈ l, isD x = true) {i : Nat} (hi : i ≤ 17) : val (l.take i) < 100000000000000000 := by
  have h1 := val_lt (l.take i) (fun x hx => hd x (List.mem_of_mem_take hx))
  have h2 : (l.take i).length ≤ 17 := by rw [List.length_take]; omega
  have h3 : 10 ^ (l.take i).length ≤ 10 ^ 17 := Nat.pow_le_pow_right (by omega) h2
  omega

set_option maxRecDepth 100000 in
set_option maxHeartbeats 4000000 in
theorem number_ok (l : List UInt8) (w : World) (hd : ∀ x ∈ l, isD x = true) (hl : l.length ≤ 1000000000) :
    Calls Tryd.prog 20 #[str l] w (NumPost l w) := by
  have hcv := fun u : World => run_bytes_of_string (P := Tryd.prog) u 9 57 5 (bs l) Tryd.underlying9 Tryd.underlying57 Tryd.underlying5
  have hsz := bs_size l
  have HD := Lib.hid hd; clear hd
  go_enter Tryd.func20, Tryd.ntmps20
  go_wp2_with fail
  clear hcv
  refine wp_at (fun W => Ext w W ∧ ∀ (j : Nat) (x : UInt8), l[j]? = some x → W.cell? ⟨w.heap.size, j, none⟩ = some (.int .u8 (x.toNat : Int))) ⟨(Ext.refl w).drew.alloc _, ?_⟩ ?_
  · intro j x hx
    refine blk_cell (blk_new w.drew _) ?_
    have hj : j < l.length := (List.getElem?_eq_some_iff.1 hx).1
    unfold bytesRow
    rw [Array.getElem?_append_left (by simp [bs]; exact hj)]
    simp [bs, hx]
  rintro W ⟨hW, hc⟩
  have HC := Lib.hid hc; clear hc
  generalize grownCap w (bs l).size 0 5 = gc
  go_loopg [4, 10] l.length (fun k v4 v10 wr => NumInv W l k v4 v10 wr)
  case atStart => exact ⟨0, 0, by omega, rfl, fun _ => rfl, rfl, Ext.refl _⟩
  case round =>
    obtain ⟨i, n, hik, rfl, hv, rfl, hE⟩ := hrel
    have HIK := Lib.hid hik
    have HV := Lib.hid hv; clear hv
    by_cases hlt : i < l.length
    · obtain ⟨x, hx⟩ : ∃ x, l[i]? = some x := ⟨_, List.getElem?_eq_getElem hlt⟩
      have c0 := Ext.cell hE (HC.out i x hx)
      have hxd := HD.out x (List.mem_of_getElem? hx)
      simp only [isD, decide_eq_true_eq] at hxd
      have HS := Lib.hid (val_take l i x hx)
      obtain ⟨hx1, hx2⟩ := hxd
      have hb1 : 48 ≤ (x.toNat : Int) := by omega
      have hb2 : (x.toNat : Int) ≤ 57 := by omega
      by_cases h17 : i ≤ 17
      · have hv := HV.out (by omega)
        subst hv
        generalize hvv : val (l.take i) = v at HV HS ⊢
        have HVV := Lib.hid hvv
        have hsm := val_small HD.out h17
        rw [hvv] at hsm
        have hn1 : (0 : Int) ≤ (v : Int) := by omega
        have hw1 : IntKind.i64.wrap ((v : Int) * 10) = (v : Int) * 10 := by rw [IntKind.wrap_i64]; omega
        have hw2 : IntKind.i64.wrap ((v : Int) * 10 + ((x.toNat : Int) - 48)) = (v : Int) * 10 + ((x.toNat : Int) - 48) := by rw [IntKind.wrap_i64]; omega
        have HE : Hid (((v * 10 + (x.toNat - 48) : Nat) : Int) = (v : Int) * 10 + ((x.toNat : Int) - 48)) := by show _ = _; omega
        have ht : decide ((1000000000000000000 : Int) ≤ (v : Int) * 10 + ((x.toNat : Int) - 48)) = false := by rw [decide_eq_false_iff_not]; omega
        clear hx hik hx1 hx2 hvv hsm
        go_wp2
        go_roundg (gk - 1)
        case measure => have := HIK.out; omega
        case rel =>
          refine ⟨i + 1, (v : Int) * 10 + ((x.toNat : Int) - 48), by have := HIK.out; omega, by go_num, fun _ => ?_, rfl, hE⟩
          rw [HS.out, HE.out]
      · have HL : Hid (¬ l.length ≤ 18) := by show ¬ _; omega
        have HI : Hid (¬ i + 1 ≤ 18) := by show ¬ _; omega
        clear hx hik hx1 hx2 h17 HV HS
        go_wp2
        · go_ret2
          refine ⟨hW.trans hE, 0, ?_, fun h => absurd h HL.out⟩
          have h2 : decide (l.length ≤ 18) = false := by simpa using HL.out
          rw [h2]; rfl
        · go_roundg (gk - 1)
          case measure => have := HIK.out; omega
          case rel => exact ⟨i + 1, _, by have := HIK.out; omega, by go_num, fun h => absurd h HI.out, rfl, hE⟩
    · have hin : i = l.length := by omega
      subst hin
      rw [List.take_length] at HV
      clear hik hlt
      by_cases h18 : l.length ≤ 18
      · go_wp2
        go_ret2
        refine ⟨hW.trans hE, n, ?_, fun h => HV.out h⟩
        have h2 : decide (l.length ≤ 18) = true := by simpa using h18
        have h3 : decide ((l.length : Int) ≤ 18) = true := by simp; omega
        rw [h2, ← h3]; rfl
      · have h18' : decide ((l.length : Int) ≤ 18) = false := by simp; omega
        go_wp2
        go_ret2
        refine ⟨hW.trans hE, n, ?_, fun h => absurd h h18⟩
        have h2 : decide (l.length ≤ 18) = false := by simpa using h18
        rw [h2]; rfl
end Go.Proofs.YtaiedccjaahmgaaDoor
