/- fill: where the kid has keys enough; where it takes one of the node ahead of it: walked. -/
import Derived.Test.YtkejjahlglldlaaMBm1
import Derived.Test.YtkejjahlglldlaaMJ
namespace Go.Proofs.Ytkejjahlglldlaa
open Go.RowKit Go.Lib

set_option maxRecDepth 100000 in
set_option maxHeartbeats 2000000 in
theorem fillA_ok (tb nb kb m i : Nat) (tr tc : Value) (es ek : List Ent) (ps pk : List Nat) (gk gv gc hk hv hc : Option Nat) (ck cv cc dk dv dc : Nat) (w : World)
    (hB : w.heap[tb]? = some (.cells #[.int .i64 (m : Int), tr, tc] 84 (0, 0))) (hN : NodeAt w nb es ps gk gv gc ck cv cc) (hK : NodeAt w kb ek pk hk hv hc dk dv dc) (hki : ps[i]? = some kb)
    (hm : m ≤ 64) (hek : m ≤ ek.length) (hek2 : ek.length ≤ 127) :
    Calls Try.prog 112 #[.pointer (some ⟨tb, 0, none⟩), .pointer (some ⟨nb, 0, none⟩), .int .i64 (i : Int)] w fun e w' => e = .returned (.pointer (some ⟨kb, 0, none⟩)) ∧ Ext w w' := by
  have hip : i < ps.length := (List.getElem?_eq_some_iff.1 hki).1
  have HB := Lib.hid hB; have HN := Lib.hid hN; have HK := Lib.hid hK; have HKI := Lib.hid hki
  clear hB hN hK hki
  have hA : decide ((m : Int) - 1 < (ek.length : Int)) = true := decide_eq_true (by omega)
  obtain ⟨t0, -, -⟩ := blk3 HB.out
  obtain ⟨n0, n1, n2⟩ := blk3 HN.out.blk
  obtain ⟨k0, k1, k2⟩ := blk3 HK.out.blk
  obtain ⟨gcb, HGC⟩ : ∃ b, Hid (gc = some b) := HN.out.kids.some_of_pos (by omega)
  have hsc := HN.out.kids
  rw [HGC.out] at hsc
  have hc1 := hsc.cell (sP_get HKI.out)
  clear hsc
  have hrc := fun U => run_index_slv (P := Try.prog) ei_node (cap := cc) HGC.out (j := i) (n := ps.length) (by omega) U
  go_enter Try.func112, Try.ntmps112
  go_wp2
  refine region_calm [.p 0, .p 1, .p 2, .l 3, .p 4, .p 5, .p 6, .p 7, .l 8, .h 9 true, .p 10] f_mixed (by kernel_rfl) (by kernel_rfl) ?_
  repeat (first | (refine plan_p rfl (fun K hK => ?_); go_simp; refine hK _ ?_; clear hK K) | (refine plan_l rfl (fun K hK => ?_); go_simp; refine hK _ ?_; clear hK K))
  refine plan_ct rfl rfl (fun K _ hK => ?_)
  go_wp2_with fail
  refine (least_ok m hm _).mono ?_
  rintro e W1 ⟨rfl, hE1⟩
  go_wp2
  refine hK _ _ (hE1) ?_; clear hK K
  repeat (first | (refine plan_p rfl (fun K hK => ?_); go_simp; refine hK _ ?_; clear hK K) | (refine plan_l rfl (fun K hK => ?_); go_simp; refine hK _ ?_; clear hK K))
  refine plan_done ?_
  clear t0 n0 n1 n2 k0 k1 k2 hc1
  go_wp2
  go_ret
  exact ⟨rfl, (Ext.refl w).drew.trans hE1⟩
end Go.Proofs.Ytkejjahlglldlaa
