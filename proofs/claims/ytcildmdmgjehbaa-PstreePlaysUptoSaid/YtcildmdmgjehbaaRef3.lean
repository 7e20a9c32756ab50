/- annalsref11.Add: walked. -/
import Derived.Test.YtcildmdmgjehbaaRef2
namespace Go.Proofs.Ytcildmdmgjehbaa
open Go.RowKit

set_option maxRecDepth 100000 in
set_option maxHeartbeats 4000000 in
theorem RAdd_dup (px py pid : Int) (g : Option Nat) (n cap : Nat) (L : List Pt) (w : World) (hn : L.length = n) (hS : Sl w 66 3 g n cap (flatP L)) (hid : ∃ q ∈ L, q.2.2 = pid) (hsz : n * 24 ≤ 140737488355328) :
    Calls Try.prog 20 #[slv g n cap, pt px py pid] w (fun e w' => e = .returned (.tuple #[slv g n cap, .int .i64 90]) ∧ Ext w w') := by
  have HN := Lib.hid hn; clear hn
  have HS := Lib.hid hS; clear hS
  have HID := Lib.hid hid; clear hid
  go_enter Try.func20, Try.ntmps20
  go_wp2
  go_loopg [6] n (fun k v6 wr => ∃ (i : Nat), i + k = n ∧ v6 = .int .i64 (i : Int) ∧ (∀ (j : Nat) (q : Pt), j < i → L[j]? = some q → q.2.2 ≠ pid) ∧ Ext (w.alloc (.cells #[.int .i64 px, .int .i64 py, .int .i64 pid] 66)) wr)
  case atStart => exact ⟨0, by omega, rfl, (fun j q hj => absurd hj (by omega)), Ext.refl _⟩
  case round =>
    obtain ⟨i, hik, rfl, hno, hE⟩ := hrel
    have HIK := Lib.hid hik
    have HNO := Lib.hid hno; clear hno
    have hp2 := (blk3 (Ext.block hE (blk_new w _))).2.2
    have hlt : i < n := by
      refine Nat.lt_of_not_le fun hle => ?_
      obtain ⟨q, hq, he⟩ := HID.out
      obtain ⟨j, hj, rfl⟩ := List.getElem_of_mem hq
      exact HNO.out j _ (by have := HN.out; omega) (List.getElem?_eq_getElem hj) he
    obtain ⟨b, hgb⟩ := HS.out.some_of_pos (by omega)
    have z := run_index_slv ei_rpt (cap := cap) hgb hlt
    obtain ⟨⟨qx, qy, qid⟩, hq⟩ : ∃ q, L[i]? = some q := ⟨L[i]'(by rw [HN.out]; exact hlt), by rw [List.getElem?_eq_getElem]⟩
    obtain ⟨k0, k1, k2⟩ := flatP_get L i _ hq
    have HS' := HS.out
    rw [hgb] at HS'
    have x2 := Ext.cell (((Ext.refl w).alloc _).trans hE) (HS'.cell k2)
    simp only at x2
    have HQ := Lib.hid hq
    clear k0 k1 k2 HS' hgb hq hik
    by_cases hp : qid = pid
    · have hpz : (qid == pid) = true := by simp; exact hp
      clear hp
      go_wp2
      refine region_calm [.p 0, .p 1, .p 2, .p 3, .l 4, .p 5, .l 6, .p 7] f_mixed (by kernel_rfl) (by kernel_rfl) ?_
      repeat (first | (refine plan_p rfl (fun K hK => ?_); go_simp; refine hK _ ?_; clear hK K) | (refine plan_l rfl (fun K hK => ?_); go_simp; refine hK _ ?_; clear hK K))
      refine plan_done ?_
      go_wp2
      go_ret2
      exact ⟨rfl, (((Ext.refl w).alloc _).trans hE).drew⟩
    · have hpz : (qid == pid) = false := by simp; exact hp
      have HP := Lib.hid hp; clear hp
      go_wp2
      refine region_calm [.p 0, .p 1, .p 2, .p 3, .l 4, .p 5, .l 6, .p 7] f_mixed (by kernel_rfl) (by kernel_rfl) ?_
      repeat (first | (refine plan_p rfl (fun K hK => ?_); go_simp; refine hK _ ?_; clear hK K) | (refine plan_l rfl (fun K hK => ?_); go_simp; refine hK _ ?_; clear hK K))
      refine plan_done ?_
      go_wp2
      go_roundg (gk - 1)
      case measure => have := HIK.out; omega
      case rel =>
        refine ⟨i + 1, by have := HIK.out; omega, by go_num, fun j q hj hq => ?_, hE.drew⟩
        by_cases hji : j = i
        · subst hji
          rw [HQ.out] at hq; cases hq
          exact HP.out
        · exact HNO.out j q (by omega) hq

end Go.Proofs.Ytcildmdmgjehbaa
