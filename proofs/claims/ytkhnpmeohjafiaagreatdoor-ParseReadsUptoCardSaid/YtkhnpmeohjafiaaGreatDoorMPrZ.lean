/- Lemmas. -/
import Derived.Test.YtkhnpmeohjafiaaGreatDoorMO
import Derived.Test.YtkhnpmeohjafiaaGreatDoorML
import Derived.Test.YtkhnpmeohjafiaaGreatDoorMT
namespace Go.Proofs.YtkhnpmeohjafiaaGreatDoor
open Go.RowKit
structure Two (w : World) (c1 c2 : Array Value) (W : World) : Prop where
 ext : Ext w W
 a : W.heap[w.heap.size]? = some (.cells c1 33 (0, 0))
 b : W.heap[w.heap.size + 1]? = some (.cells c2 33 (0, 0))
theorem Two.step {w W W' : World} {c1 c2 : Array Value} (h : Two w c1 c2 W) (hE : Ext W W') : Two w c1 c2 W' := ⟨h.ext.trans hE, Ext.block hE h.a, Ext.block hE h.b⟩
theorem Two.start (w : World) (c1 c2 : Array Value) : Two w c1 c2 ((w.alloc (.cells c1 33)).alloc (.cells c2 33)) := ⟨((Ext.refl w).alloc _).alloc _, blk_alloc (blk_new _ _), blk_new_at _ (by simp)⟩
set_option maxRecDepth 100000 in
set_option maxHeartbeats 32000000 in
theorem Same_ok (x : St) (v1 v2 : StV) (w : World) (h1 : StOk w (fun _ => True) x v1) (h2 : StOk w (fun _ => True) x v2) :
  Calls Tryz.prog 11 #[.agg (stCells x v1).toArray, .agg (stCells x v2).toArray] w (fun e w' => e = .returned (.bool true) ∧ Ext w w') := by
 have H1 := Lib.hid h1
 have H2 := Lib.hid h2
 clear h1 h2
 obtain ⟨u0, u1, u2, u3, u4, u5, u6, u7, u8, u9⟩ := v1
 obtain ⟨ga0, ca0, e0⟩ := H1.out.col.slice
 obtain ⟨ga1, ca1, e1⟩ := H1.out.key.slice
 obtain ⟨ga2, ca2, e2⟩ := H1.out.val.slice
 obtain ⟨ga3, ca3, e3⟩ := H1.out.set.slice
 obtain ⟨ga4, ca4, e4⟩ := H1.out.cond.slice
 obtain ⟨ga5, ca5, e5⟩ := H1.out.qu.slice
 obtain ⟨ga6, ca6, e6⟩ := H1.out.op.slice
 obtain ⟨ga7, ca7, e7⟩ := H1.out.asof.slice
 obtain ⟨ga8, ca8, e8⟩ := H1.out.dur.slice
 obtain ⟨ga9, ca9, e9⟩ := H1.out.ord.slice
 simp only at e0 e1 e2 e3 e4 e5 e6 e7 e8 e9
 subst e0 e1 e2 e3 e4 e5 e6 e7 e8 e9
 obtain ⟨u0, u1, u2, u3, u4, u5, u6, u7, u8, u9⟩ := v2
 obtain ⟨gb0, cb0, e0⟩ := H2.out.col.slice
 obtain ⟨gb1, cb1, e1⟩ := H2.out.key.slice
 obtain ⟨gb2, cb2, e2⟩ := H2.out.val.slice
 obtain ⟨gb3, cb3, e3⟩ := H2.out.set.slice
 obtain ⟨gb4, cb4, e4⟩ := H2.out.cond.slice
 obtain ⟨gb5, cb5, e5⟩ := H2.out.qu.slice
 obtain ⟨gb6, cb6, e6⟩ := H2.out.op.slice
 obtain ⟨gb7, cb7, e7⟩ := H2.out.asof.slice
 obtain ⟨gb8, cb8, e8⟩ := H2.out.dur.slice
 obtain ⟨gb9, cb9, e9⟩ := H2.out.ord.slice
 simp only at e0 e1 e2 e3 e4 e5 e6 e7 e8 e9
 subst e0 e1 e2 e3 e4 e5 e6 e7 e8 e9
 have Ra0 := Lib.hid H1.out.col.rd
 have Ra1 := Lib.hid H1.out.key.rd
 have Ra2 := Lib.hid H1.out.val.rd
 have Ra3 := Lib.hid H1.out.set.rd
 have Ra4 := Lib.hid H1.out.cond.rd
 have Ra5 := Lib.hid H1.out.qu.rd
 have Ra6 := Lib.hid H1.out.op.rd
 have Ra7 := Lib.hid H1.out.asof.rd
 have Ra8 := Lib.hid H1.out.dur.rd
 have Ra9 := Lib.hid H1.out.ord.rd
 have Rb0 := Lib.hid H2.out.col.rd
 have Rb1 := Lib.hid H2.out.key.rd
 have Rb2 := Lib.hid H2.out.val.rd
 have Rb3 := Lib.hid H2.out.set.rd
 have Rb4 := Lib.hid H2.out.cond.rd
 have Rb5 := Lib.hid H2.out.qu.rd
 have Rb6 := Lib.hid H2.out.op.rd
 have Rb7 := Lib.hid H2.out.asof.rd
 have Rb8 := Lib.hid H2.out.dur.rd
 have Rb9 := Lib.hid H2.out.ord.rd
 dsimp only at Ra0 Ra1 Ra2 Ra3 Ra4 Ra5 Ra6 Ra7 Ra8 Ra9 Rb0 Rb1 Rb2 Rb3 Rb4 Rb5 Rb6 Rb7 Rb8 Rb9
 clear H1 H2
 rw [show (stCells x ⟨slv ga0 x.columns.length ca0, slv ga1 x.keys.length ca1, slv ga2 x.values.length ca2, slv ga3 x.sets.length ca3, slv ga4 x.cond.length ca4, slv ga5 x.query.length ca5, slv ga6 x.ops.length ca6, slv ga7 x.asOf.length ca7, slv ga8 x.during.length ca8, slv ga9 x.order.length ca9⟩).toArray = #[str x.kind, str x.table, slv ga0 x.columns.length ca0, slv ga1 x.keys.length ca1, slv ga2 x.values.length ca2, slv ga3 x.sets.length ca3, .int .i64 (x.period.1 : Int), .int .i64 (x.period.2 : Int), slv ga4 x.cond.length ca4, slv ga5 x.query.length ca5, slv ga6 x.ops.length ca6, slv ga7 x.asOf.length ca7, slv ga8 x.during.length ca8, slv ga9 x.order.length ca9] from rfl, show (stCells x ⟨slv gb0 x.columns.length cb0, slv gb1 x.keys.length cb1, slv gb2 x.values.length cb2, slv gb3 x.sets.length cb3, slv gb4 x.cond.length cb4, slv gb5 x.query.length cb5, slv gb6 x.ops.length cb6, slv gb7 x.asOf.length cb7, slv gb8 x.during.length cb8, slv gb9 x.order.length cb9⟩).toArray = #[str x.kind, str x.table, slv gb0 x.columns.length cb0, slv gb1 x.keys.length cb1, slv gb2 x.values.length cb2, slv gb3 x.sets.length cb3, .int .i64 (x.period.1 : Int), .int .i64 (x.period.2 : Int), slv gb4 x.cond.length cb4, slv gb5 x.query.length cb5, slv gb6 x.ops.length cb6, slv gb7 x.asOf.length cb7, slv gb8 x.during.length cb8, slv gb9 x.order.length cb9] from rfl]
 have HT := Lib.hid (Two.start w #[str x.kind, str x.table, slv ga0 x.columns.length ca0, slv ga1 x.keys.length ca1, slv ga2 x.values.length ca2, slv ga3 x.sets.length ca3, .int .i64 (x.period.1 : Int), .int .i64 (x.period.2 : Int), slv ga4 x.cond.length ca4, slv ga5 x.query.length ca5, slv ga6 x.ops.length ca6, slv ga7 x.asOf.length ca7, slv ga8 x.during.length ca8, slv ga9 x.order.length ca9] #[str x.kind, str x.table, slv gb0 x.columns.length cb0, slv gb1 x.keys.length cb1, slv gb2 x.values.length cb2, slv gb3 x.sets.length cb3, .int .i64 (x.period.1 : Int), .int .i64 (x.period.2 : Int), slv gb4 x.cond.length cb4, slv gb5 x.query.length cb5, slv gb6 x.ops.length cb6, slv gb7 x.asOf.length cb7, slv gb8 x.during.length cb8, slv gb9 x.order.length cb9])
 have hbs := bs_toList
 have hzcolumns : ((x.columns.length : Int) == (x.columns.length : Int)) = true := by simp
 have hzsets : ((x.sets.length : Int) == (x.sets.length : Int)) = true := by simp
 have hzquery : ((x.query.length : Int) == (x.query.length : Int)) = true := by simp
 have hzasOf : ((x.asOf.length : Int) == (x.asOf.length : Int)) = true := by simp
 have hzduring : ((x.during.length : Int) == (x.during.length : Int)) = true := by simp
 go_enter Tryz.func11, Tryz.ntmps11
 have x2 := blk_cell (i := 2) HT.out.a rfl
 have y2 := blk_cell (i := 2) HT.out.b rfl
 have x5 := blk_cell (i := 5) HT.out.a rfl
 have y5 := blk_cell (i := 5) HT.out.b rfl
 have x9 := blk_cell (i := 9) HT.out.a rfl
 have y9 := blk_cell (i := 9) HT.out.b rfl
 have x11 := blk_cell (i := 11) HT.out.a rfl
 have y11 := blk_cell (i := 11) HT.out.b rfl
 have x12 := blk_cell (i := 12) HT.out.a rfl
 have y12 := blk_cell (i := 12) HT.out.b rfl
 go_wp2
 clear x2 y2 x5 y5 x9 y9 x11 y11 x12 y12 hzcolumns hzsets hzquery hzasOf hzduring
 go_loopg [5] x.columns.length (fun gk vj wr => ∃ j : Nat, j + gk = x.columns.length ∧ vj = .int .i64 (j : Int) ∧ Two w #[str x.kind, str x.table, slv ga0 x.columns.length ca0, slv ga1 x.keys.length ca1, slv ga2 x.values.length ca2, slv ga3 x.sets.length ca3, .int .i64 (x.period.1 : Int), .int .i64 (x.period.2 : Int), slv ga4 x.cond.length ca4, slv ga5 x.query.length ca5, slv ga6 x.ops.length ca6, slv ga7 x.asOf.length ca7, slv ga8 x.during.length ca8, slv ga9 x.order.length ca9] #[str x.kind, str x.table, slv gb0 x.columns.length cb0, slv gb1 x.keys.length cb1, slv gb2 x.values.length cb2, slv gb3 x.sets.length cb3, .int .i64 (x.period.1 : Int), .int .i64 (x.period.2 : Int), slv gb4 x.cond.length cb4, slv gb5 x.query.length cb5, slv gb6 x.ops.length cb6, slv gb7 x.asOf.length cb7, slv gb8 x.during.length cb8, slv gb9 x.order.length cb9] wr)
 case atStart => exact ⟨0, by omega, rfl, HT.out⟩
 case round =>
  clear HT
  obtain ⟨j, hjk, rfl, hT⟩ := hrel
  have HJK := Lib.hid hjk
  have HT := Lib.hid hT
  clear hjk hT
  have hn := Ra0.out.le
  by_cases hj : j < x.columns.length
  · obtain ⟨s, hs⟩ : ∃ s, x.columns[j]? = some s := ⟨_, List.getElem?_eq_getElem hj⟩
    obtain ⟨ga, ca, ba, csa, hva, hga, hla, hca, hcc⟩ := (Ra0.out.ext HT.out.ext).at hs
    obtain ⟨gb, cb, bb, csb, hvb, hgb, hlb, hcb, hdd⟩ := (Rb0.out.ext HT.out.ext).at hs
    obtain ⟨rfl, rfl⟩ := slv_inj hva
    obtain ⟨rfl, rfl⟩ := slv_inj hvb
    have HCA := Lib.hid hca
    have HCB := Lib.hid hcb
    obtain ⟨sn, sk⟩ := s
    obtain rfl : csa = [str sn, .int .i64 (sk : Int)] := hca
    obtain rfl : csb = [str sn, .int .i64 (sk : Int)] := hcb
    have hss : (sn == sn) = true := by simp
    have hkk : ((sk : Int) == (sk : Int)) = true := by simp
    have d0 : wr.cell? ⟨ba, j * 2, none⟩ = some (str sn) := hcc 0 (by decide) _ rfl
    have e0 : wr.cell? ⟨bb, j * 2, none⟩ = some (str sn) := hdd 0 (by decide) _ rfl
    have d1 : wr.cell? ⟨ba, j * 2 + 1, none⟩ = some (.int .i64 (sk : Int)) := hcc 1 (by decide) _ rfl
    have e1 : wr.cell? ⟨bb, j * 2 + 1, none⟩ = some (.int .i64 (sk : Int)) := hdd 1 (by decide) _ rfl
    have z1 : ∀ u : World, (Instr.indexAt 23 (slv ga0 x.columns.length ca0) (.int .i64 (j : Int))).run Tryz.prog u = .ok (.pointer (some ⟨ba, j * 2, none⟩)) u := fun u => run_index_slv ei_col (cap := ca0) hga hj u
    have z2 : ∀ u : World, (Instr.indexAt 23 (slv gb0 x.columns.length cb0) (.int .i64 (j : Int))).run Tryz.prog u = .ok (.pointer (some ⟨bb, j * 2, none⟩)) u := fun u => run_index_slv ei_col (cap := cb0) hgb hj u
    have x2 := blk_cell (i := 2) HT.out.a rfl
    have y2 := blk_cell (i := 2) HT.out.b rfl
    clear hva hga hcc hvb hgb hdd hs hla hlb
    go_wp2
    refine region_calm [.p 0, .l 1, .p 2, .p 3, .l 4, .p 5, .l 6, .p 7, .p 8, .l 9, .p 10] f_mixed (by kernel_rfl) (by kernel_rfl) ?_
    repeat ((first | refine plan_p rfl (fun K hK => ?_) | refine plan_l rfl (fun K hK => ?_)); go_simp; refine hK _ ?_; clear hK K)
    refine plan_done ?_
    go_wp2
    go_roundg (gk - 1)
    case measure => have := HJK.out; omega
    case rel => exact ⟨j + 1, by have := HJK.out; omega, by go_num, HT.out.step (Ext.refl _).drew⟩
  · have x2 := blk_cell (i := 2) HT.out.a rfl
    have y2 := blk_cell (i := 2) HT.out.b rfl
    go_wp2
    clear x2 y2
    go_loopg [6] x.sets.length (fun gk vj wr => ∃ j : Nat, j + gk = x.sets.length ∧ vj = .int .i64 (j : Int) ∧ Two w #[str x.kind, str x.table, slv ga0 x.columns.length ca0, slv ga1 x.keys.length ca1, slv ga2 x.values.length ca2, slv ga3 x.sets.length ca3, .int .i64 (x.period.1 : Int), .int .i64 (x.period.2 : Int), slv ga4 x.cond.length ca4, slv ga5 x.query.length ca5, slv ga6 x.ops.length ca6, slv ga7 x.asOf.length ca7, slv ga8 x.during.length ca8, slv ga9 x.order.length ca9] #[str x.kind, str x.table, slv gb0 x.columns.length cb0, slv gb1 x.keys.length cb1, slv gb2 x.values.length cb2, slv gb3 x.sets.length cb3, .int .i64 (x.period.1 : Int), .int .i64 (x.period.2 : Int), slv gb4 x.cond.length cb4, slv gb5 x.query.length cb5, slv gb6 x.ops.length cb6, slv gb7 x.asOf.length cb7, slv gb8 x.during.length cb8, slv gb9 x.order.length cb9] wr)
    case atStart => exact ⟨0, by omega, rfl, HT.out⟩
    case round =>
     clear HT HJK hj hn
     obtain ⟨j, hjk, rfl, hT⟩ := hrel
     have HJK := Lib.hid hjk
     have HT := Lib.hid hT
     clear hjk hT
     have hn := Ra3.out.le
     by_cases hj : j < x.sets.length
     · obtain ⟨s, hs⟩ : ∃ s, x.sets[j]? = some s := ⟨_, List.getElem?_eq_getElem hj⟩
       obtain ⟨ga, ca, ba, csa, hva, hga, hla, hca, hcc⟩ := (Ra3.out.ext HT.out.ext).at hs
       obtain ⟨gb, cb, bb, csb, hvb, hgb, hlb, hcb, hdd⟩ := (Rb3.out.ext HT.out.ext).at hs
       obtain ⟨rfl, rfl⟩ := slv_inj hva
       obtain ⟨rfl, rfl⟩ := slv_inj hvb
       have HCA := Lib.hid hca
       have HCB := Lib.hid hcb
       obtain ⟨nm, e⟩ := s
       obtain ⟨ca', rfl, hxa⟩ := hca
       obtain ⟨cb', rfl, hxb⟩ := hcb
       have HXA := Lib.hid hxa
       have HXB := Lib.hid hxb
       obtain ⟨p0, p1, p2, p3, p4, rfl⟩ := ex5 hxa
       obtain ⟨q0, q1, q2, q3, q4, rfl⟩ := ex5 hxb
       have hss : (nm == nm) = true := by simp
       have d0 : wr.cell? ⟨ba, j * 6, none⟩ = some (str nm) := hcc 0 (by decide) _ rfl
       have e0 : wr.cell? ⟨bb, j * 6, none⟩ = some (str nm) := hdd 0 (by decide) _ rfl
       have d1 : wr.cell? ⟨ba, j * 6 + 1, none⟩ = some (p0) := hcc 1 (by decide) _ rfl
       have e1 : wr.cell? ⟨bb, j * 6 + 1, none⟩ = some (q0) := hdd 1 (by decide) _ rfl
       have d2 : wr.cell? ⟨ba, j * 6 + 2, none⟩ = some (p1) := hcc 2 (by decide) _ rfl
       have e2 : wr.cell? ⟨bb, j * 6 + 2, none⟩ = some (q1) := hdd 2 (by decide) _ rfl
       have d3 : wr.cell? ⟨ba, j * 6 + 3, none⟩ = some (p2) := hcc 3 (by decide) _ rfl
       have e3 : wr.cell? ⟨bb, j * 6 + 3, none⟩ = some (q2) := hdd 3 (by decide) _ rfl
       have d4 : wr.cell? ⟨ba, j * 6 + 4, none⟩ = some (p3) := hcc 4 (by decide) _ rfl
       have e4 : wr.cell? ⟨bb, j * 6 + 4, none⟩ = some (q3) := hdd 4 (by decide) _ rfl
       have d5 : wr.cell? ⟨ba, j * 6 + 5, none⟩ = some (p4) := hcc 5 (by decide) _ rfl
       have e5 : wr.cell? ⟨bb, j * 6 + 5, none⟩ = some (q4) := hdd 5 (by decide) _ rfl
       have z1 : ∀ u : World, (Instr.indexAt 26 (slv ga3 x.sets.length ca3) (.int .i64 (j : Int))).run Tryz.prog u = .ok (.pointer (some ⟨ba, j * 6, none⟩)) u := fun u => run_index_slv ei_set (cap := ca3) hga hj u
       have z2 : ∀ u : World, (Instr.indexAt 26 (slv gb3 x.sets.length cb3) (.int .i64 (j : Int))).run Tryz.prog u = .ok (.pointer (some ⟨bb, j * 6, none⟩)) u := fun u => run_index_slv ei_set (cap := cb3) hgb hj u
       have x5 := blk_cell (i := 5) HT.out.a rfl
       have y5 := blk_cell (i := 5) HT.out.b rfl
       clear hva hga hcc hvb hgb hdd hs hla hlb hxa hxb
       go_wp2
       refine region_calm [.p 0, .l 1, .p 2, .p 3, .p 4, .l 5, .p 6, .l 7, .p 8, .p 9, .p 10, .l 11, .p 12, .p 13, .p 14, .l 15, .p 16, .p 17, .p 18, .l 19, .p 20, .l 21, .p 22, .p 23, .p 24, .l 25, .h 26 false, .p 27, .p 28] f_mixed (by kernel_rfl) (by kernel_rfl) ?_
       repeat ((first | refine plan_p rfl (fun K hK => ?_) | refine plan_l rfl (fun K hK => ?_)); go_simp; refine hK _ ?_; clear hK K)
       refine plan_h rfl (fun K hK => ?_)
       go_wp2_with fail
       refine (SE_all e _ _ _ (ExC.ext HXA.out (Ext.refl _).drew) (ExC.ext HXB.out (Ext.refl _).drew)).mono ?_
       rintro e w2 ⟨rfl, hE2⟩
       have HT2 := Lib.hid (HT.out.step ((Ext.refl _).drew.trans hE2))
       clear hE2 d0 e0 d1 e1 d2 e2 d3 e3 d4 e4 d5 e5 z1 z2 x5 y5
       go_wp2_with fail
       repeat ((first | refine plan_p rfl (fun K hK => ?_) | refine plan_l rfl (fun K hK => ?_)); go_simp; refine hK _ ?_; clear hK K)
       refine plan_done ?_
       go_wp2
       go_roundg (gk - 1)
       case measure => have := HJK.out; omega
       case rel => exact ⟨j + 1, by have := HJK.out; omega, by go_num, HT2.out⟩
     · have x5 := blk_cell (i := 5) HT.out.a rfl
       have y5 := blk_cell (i := 5) HT.out.b rfl
       go_wp2
       clear x5 y5
       go_loopg [7] x.query.length (fun gk vj wr => ∃ j : Nat, j + gk = x.query.length ∧ vj = .int .i64 (j : Int) ∧ Two w #[str x.kind, str x.table, slv ga0 x.columns.length ca0, slv ga1 x.keys.length ca1, slv ga2 x.values.length ca2, slv ga3 x.sets.length ca3, .int .i64 (x.period.1 : Int), .int .i64 (x.period.2 : Int), slv ga4 x.cond.length ca4, slv ga5 x.query.length ca5, slv ga6 x.ops.length ca6, slv ga7 x.asOf.length ca7, slv ga8 x.during.length ca8, slv ga9 x.order.length ca9] #[str x.kind, str x.table, slv gb0 x.columns.length cb0, slv gb1 x.keys.length cb1, slv gb2 x.values.length cb2, slv gb3 x.sets.length cb3, .int .i64 (x.period.1 : Int), .int .i64 (x.period.2 : Int), slv gb4 x.cond.length cb4, slv gb5 x.query.length cb5, slv gb6 x.ops.length cb6, slv gb7 x.asOf.length cb7, slv gb8 x.during.length cb8, slv gb9 x.order.length cb9] wr)
       case atStart => exact ⟨0, by omega, rfl, HT.out⟩
       case round =>
        clear HT HJK hj hn
        obtain ⟨j, hjk, rfl, hT⟩ := hrel
        have HJK := Lib.hid hjk
        have HT := Lib.hid hT
        clear hjk hT
        have hn := Ra5.out.le
        by_cases hj : j < x.query.length
        · obtain ⟨s, hs⟩ : ∃ s, x.query[j]? = some s := ⟨_, List.getElem?_eq_getElem hj⟩
          obtain ⟨ga, ca, ba, csa, hva, hga, hla, hca, hcc⟩ := (Ra5.out.ext HT.out.ext).at hs
          obtain ⟨gb, cb, bb, csb, hvb, hgb, hlb, hcb, hdd⟩ := (Rb5.out.ext HT.out.ext).at hs
          obtain ⟨rfl, rfl⟩ := slv_inj hva
          obtain ⟨rfl, rfl⟩ := slv_inj hvb
          have HCA := Lib.hid hca
          have HCB := Lib.hid hcb
          obtain ⟨via, vta, vca, rfl, -, -, -⟩ := hca
          obtain ⟨vib, vtb, vcb, rfl, -, -, -⟩ := hcb
          have d0 : wr.cell? ⟨ba, j * 7, none⟩ = some (Value.bool s.coalesce) := hcc 0 (by decide) _ rfl
          have e0 : wr.cell? ⟨bb, j * 7, none⟩ = some (Value.bool s.coalesce) := hdd 0 (by decide) _ rfl
          have d1 : wr.cell? ⟨ba, j * 7 + 1, none⟩ = some (.bool s.all) := hcc 1 (by decide) _ rfl
          have e1 : wr.cell? ⟨bb, j * 7 + 1, none⟩ = some (.bool s.all) := hdd 1 (by decide) _ rfl
          have d2 : wr.cell? ⟨ba, j * 7 + 2, none⟩ = some (.bool s.count) := hcc 2 (by decide) _ rfl
          have e2 : wr.cell? ⟨bb, j * 7 + 2, none⟩ = some (.bool s.count) := hdd 2 (by decide) _ rfl
          have d3 : wr.cell? ⟨ba, j * 7 + 3, none⟩ = some (str s.sum) := hcc 3 (by decide) _ rfl
          have e3 : wr.cell? ⟨bb, j * 7 + 3, none⟩ = some (str s.sum) := hdd 3 (by decide) _ rfl
          have d4 : wr.cell? ⟨ba, j * 7 + 4, none⟩ = some (via) := hcc 4 (by decide) _ rfl
          have e4 : wr.cell? ⟨bb, j * 7 + 4, none⟩ = some (vib) := hdd 4 (by decide) _ rfl
          have d5 : wr.cell? ⟨ba, j * 7 + 5, none⟩ = some (vta) := hcc 5 (by decide) _ rfl
          have e5 : wr.cell? ⟨bb, j * 7 + 5, none⟩ = some (vtb) := hdd 5 (by decide) _ rfl
          have d6 : wr.cell? ⟨ba, j * 7 + 6, none⟩ = some (vca) := hcc 6 (by decide) _ rfl
          have e6 : wr.cell? ⟨bb, j * 7 + 6, none⟩ = some (vcb) := hdd 6 (by decide) _ rfl
          have z1 : ∀ u : World, (Instr.indexAt 29 (slv ga5 x.query.length ca5) (.int .i64 (j : Int))).run Tryz.prog u = .ok (.pointer (some ⟨ba, j * 7, none⟩)) u := fun u => run_index_slv ei_qu (cap := ca5) hga hj u
          have z2 : ∀ u : World, (Instr.indexAt 29 (slv gb5 x.query.length cb5) (.int .i64 (j : Int))).run Tryz.prog u = .ok (.pointer (some ⟨bb, j * 7, none⟩)) u := fun u => run_index_slv ei_qu (cap := cb5) hgb hj u
          have x9 := blk_cell (i := 9) HT.out.a rfl
          have y9 := blk_cell (i := 9) HT.out.b rfl
          clear hva hga hcc hvb hgb hdd hs hla hlb
          go_wp2
          refine region_calm [.p 0, .l 1, .p 2, .p 3, .l 4, .p 5, .l 6, .p 7, .p 8, .l 9, .h 10 false, .p 11] f_mixed (by kernel_rfl) (by kernel_rfl) ?_
          repeat ((first | refine plan_p rfl (fun K hK => ?_) | refine plan_l rfl (fun K hK => ?_)); go_simp; refine hK _ ?_; clear hK K)
          refine plan_c rfl rfl (fun K _ hK => ?_)
          go_wp2_with fail
          refine (sameQuery_ok s _ _ wr.drew (QuK.keep (w := wr) (w' := wr.drew) (A := fun _ => True) (A' := fun _ => True) (fun b hb ha => ⟨rfl, ha⟩) _ _ HCA.out) (QuK.keep (w := wr) (w' := wr.drew) (A := fun _ => True) (A' := fun _ => True) (fun b hb ha => ⟨rfl, ha⟩) _ _ HCB.out)).mono ?_
          rintro e w2 ⟨rfl, hE2⟩
          have HT2 := Lib.hid (HT.out.step ((Ext.refl _).drew.trans hE2))
          clear hE2 d0 e0 d1 e1 d2 e2 d3 e3 d4 e4 d5 e5 d6 e6 z1 z2 x9 y9
          go_wp2_with fail
          repeat ((first | refine plan_p rfl (fun K hK => ?_) | refine plan_l rfl (fun K hK => ?_)); go_simp; refine hK _ ?_; clear hK K)
          refine plan_done ?_
          go_wp2
          go_roundg (gk - 1)
          case measure => have := HJK.out; omega
          case rel => exact ⟨j + 1, by have := HJK.out; omega, by go_num, HT2.out⟩
        · have x9 := blk_cell (i := 9) HT.out.a rfl
          have y9 := blk_cell (i := 9) HT.out.b rfl
          go_wp2
          clear x9 y9
          go_loopg [8] x.asOf.length (fun gk vj wr => ∃ j : Nat, j + gk = x.asOf.length ∧ vj = .int .i64 (j : Int) ∧ Two w #[str x.kind, str x.table, slv ga0 x.columns.length ca0, slv ga1 x.keys.length ca1, slv ga2 x.values.length ca2, slv ga3 x.sets.length ca3, .int .i64 (x.period.1 : Int), .int .i64 (x.period.2 : Int), slv ga4 x.cond.length ca4, slv ga5 x.query.length ca5, slv ga6 x.ops.length ca6, slv ga7 x.asOf.length ca7, slv ga8 x.during.length ca8, slv ga9 x.order.length ca9] #[str x.kind, str x.table, slv gb0 x.columns.length cb0, slv gb1 x.keys.length cb1, slv gb2 x.values.length cb2, slv gb3 x.sets.length cb3, .int .i64 (x.period.1 : Int), .int .i64 (x.period.2 : Int), slv gb4 x.cond.length cb4, slv gb5 x.query.length cb5, slv gb6 x.ops.length cb6, slv gb7 x.asOf.length cb7, slv gb8 x.during.length cb8, slv gb9 x.order.length cb9] wr)
          case atStart => exact ⟨0, by omega, rfl, HT.out⟩
          case round =>
           clear HT HJK hj hn
           obtain ⟨j, hjk, rfl, hT⟩ := hrel
           have HJK := Lib.hid hjk
           have HT := Lib.hid hT
           clear hjk hT
           have hn := Ra7.out.le
           by_cases hj : j < x.asOf.length
           · obtain ⟨s, hs⟩ : ∃ s, x.asOf[j]? = some s := ⟨_, List.getElem?_eq_getElem hj⟩
             obtain ⟨ga, ca, ba, csa, hva, hga, hla, hca, hcc⟩ := (Ra7.out.ext HT.out.ext).at hs
             obtain ⟨gb, cb, bb, csb, hvb, hgb, hlb, hcb, hdd⟩ := (Rb7.out.ext HT.out.ext).at hs
             obtain ⟨rfl, rfl⟩ := slv_inj hva
             obtain ⟨rfl, rfl⟩ := slv_inj hvb
             have HCA := Lib.hid hca
             have HCB := Lib.hid hcb
             obtain rfl : csa = [.int .i64 (s : Int)] := hca
             obtain rfl : csb = [.int .i64 (s : Int)] := hcb
             have hkk : ((s : Int) == (s : Int)) = true := by simp
             have d0 : wr.cell? ⟨ba, j, none⟩ = some (.int .i64 (s : Int)) := by have := hcc 0 (by decide) _ rfl; simpa [NumK] using this
             have e0 : wr.cell? ⟨bb, j, none⟩ = some (.int .i64 (s : Int)) := by have := hdd 0 (by decide) _ rfl; simpa [NumK] using this
             have z1 : ∀ u : World, (Instr.indexAt 30 (slv ga7 x.asOf.length ca7) (.int .i64 (j : Int))).run Tryz.prog u = .ok (.pointer (some ⟨ba, j, none⟩)) u := fun u => by
              have := run_index_slv ei_num (cap := ca7) hga hj u
              rwa [Nat.mul_one] at this
             have z2 : ∀ u : World, (Instr.indexAt 30 (slv gb7 x.asOf.length cb7) (.int .i64 (j : Int))).run Tryz.prog u = .ok (.pointer (some ⟨bb, j, none⟩)) u := fun u => by
              have := run_index_slv ei_num (cap := cb7) hgb hj u
              rwa [Nat.mul_one] at this
             have x11 := blk_cell (i := 11) HT.out.a rfl
             have y11 := blk_cell (i := 11) HT.out.b rfl
             clear hva hga hcc hvb hgb hdd hs hla hlb
             go_wp2
             refine region_calm [.p 0, .l 1, .p 2, .p 3, .l 4, .p 5, .l 6, .p 7, .p 8, .l 9, .p 10] f_mixed (by kernel_rfl) (by kernel_rfl) ?_
             repeat ((first | refine plan_p rfl (fun K hK => ?_) | refine plan_l rfl (fun K hK => ?_)); go_simp; refine hK _ ?_; clear hK K)
             refine plan_done ?_
             go_wp2
             go_roundg (gk - 1)
             case measure => have := HJK.out; omega
             case rel => exact ⟨j + 1, by have := HJK.out; omega, by go_num, HT.out.step (Ext.refl _).drew⟩
           · have x11 := blk_cell (i := 11) HT.out.a rfl
             have y11 := blk_cell (i := 11) HT.out.b rfl
             go_wp2
             clear x11 y11
             go_loopg [9] x.during.length (fun gk vj wr => ∃ j : Nat, j + gk = x.during.length ∧ vj = .int .i64 (j : Int) ∧ Two w #[str x.kind, str x.table, slv ga0 x.columns.length ca0, slv ga1 x.keys.length ca1, slv ga2 x.values.length ca2, slv ga3 x.sets.length ca3, .int .i64 (x.period.1 : Int), .int .i64 (x.period.2 : Int), slv ga4 x.cond.length ca4, slv ga5 x.query.length ca5, slv ga6 x.ops.length ca6, slv ga7 x.asOf.length ca7, slv ga8 x.during.length ca8, slv ga9 x.order.length ca9] #[str x.kind, str x.table, slv gb0 x.columns.length cb0, slv gb1 x.keys.length cb1, slv gb2 x.values.length cb2, slv gb3 x.sets.length cb3, .int .i64 (x.period.1 : Int), .int .i64 (x.period.2 : Int), slv gb4 x.cond.length cb4, slv gb5 x.query.length cb5, slv gb6 x.ops.length cb6, slv gb7 x.asOf.length cb7, slv gb8 x.during.length cb8, slv gb9 x.order.length cb9] wr)
             case atStart => exact ⟨0, by omega, rfl, HT.out⟩
             case round =>
              clear HT HJK hj hn
              obtain ⟨j, hjk, rfl, hT⟩ := hrel
              have HJK := Lib.hid hjk
              have HT := Lib.hid hT
              clear hjk hT
              have hn := Ra8.out.le
              by_cases hj : j < x.during.length
              · obtain ⟨s, hs⟩ : ∃ s, x.during[j]? = some s := ⟨_, List.getElem?_eq_getElem hj⟩
                obtain ⟨ga, ca, ba, csa, hva, hga, hla, hca, hcc⟩ := (Ra8.out.ext HT.out.ext).at hs
                obtain ⟨gb, cb, bb, csb, hvb, hgb, hlb, hcb, hdd⟩ := (Rb8.out.ext HT.out.ext).at hs
                obtain ⟨rfl, rfl⟩ := slv_inj hva
                obtain ⟨rfl, rfl⟩ := slv_inj hvb
                have HCA := Lib.hid hca
                have HCB := Lib.hid hcb
                obtain ⟨pa, pz⟩ := s
                obtain rfl : csa = [.int .i64 (pa : Int), .int .i64 (pz : Int)] := hca
                obtain rfl : csb = [.int .i64 (pa : Int), .int .i64 (pz : Int)] := hcb
                have hss : ((pa : Int) == (pa : Int)) = true := by simp
                have hkk : ((pz : Int) == (pz : Int)) = true := by simp
                have d0 : wr.cell? ⟨ba, j * 2, none⟩ = some (.int .i64 (pa : Int)) := hcc 0 (by decide) _ rfl
                have e0 : wr.cell? ⟨bb, j * 2, none⟩ = some (.int .i64 (pa : Int)) := hdd 0 (by decide) _ rfl
                have d1 : wr.cell? ⟨ba, j * 2 + 1, none⟩ = some (.int .i64 (pz : Int)) := hcc 1 (by decide) _ rfl
                have e1 : wr.cell? ⟨bb, j * 2 + 1, none⟩ = some (.int .i64 (pz : Int)) := hdd 1 (by decide) _ rfl
                have z1 : ∀ u : World, (Instr.indexAt 31 (slv ga8 x.during.length ca8) (.int .i64 (j : Int))).run Tryz.prog u = .ok (.pointer (some ⟨ba, j * 2, none⟩)) u := fun u => run_index_slv ei_per (cap := ca8) hga hj u
                have z2 : ∀ u : World, (Instr.indexAt 31 (slv gb8 x.during.length cb8) (.int .i64 (j : Int))).run Tryz.prog u = .ok (.pointer (some ⟨bb, j * 2, none⟩)) u := fun u => run_index_slv ei_per (cap := cb8) hgb hj u
                have x12 := blk_cell (i := 12) HT.out.a rfl
                have y12 := blk_cell (i := 12) HT.out.b rfl
                clear hva hga hcc hvb hgb hdd hs hla hlb
                go_wp2
                refine region_calm [.p 0, .l 1, .p 2, .p 3, .l 4, .p 5, .l 6, .p 7, .p 8, .l 9, .p 10] f_mixed (by kernel_rfl) (by kernel_rfl) ?_
                repeat ((first | refine plan_p rfl (fun K hK => ?_) | refine plan_l rfl (fun K hK => ?_)); go_simp; refine hK _ ?_; clear hK K)
                refine plan_done ?_
                go_wp2
                go_roundg (gk - 1)
                case measure => have := HJK.out; omega
                case rel => exact ⟨j + 1, by have := HJK.out; omega, by go_num, HT.out.step (Ext.refl _).drew⟩
              · have x12 := blk_cell (i := 12) HT.out.a rfl
                have y12 := blk_cell (i := 12) HT.out.b rfl
                clear x12 y12
                have x0 := blk_cell (i := 0) HT.out.a rfl
                have y0 := blk_cell (i := 0) HT.out.b rfl
                have x1 := blk_cell (i := 1) HT.out.a rfl
                have y1 := blk_cell (i := 1) HT.out.b rfl
                have x2 := blk_cell (i := 2) HT.out.a rfl
                have y2 := blk_cell (i := 2) HT.out.b rfl
                have x3 := blk_cell (i := 3) HT.out.a rfl
                have y3 := blk_cell (i := 3) HT.out.b rfl
                have x4 := blk_cell (i := 4) HT.out.a rfl
                have y4 := blk_cell (i := 4) HT.out.b rfl
                have x5 := blk_cell (i := 5) HT.out.a rfl
                have y5 := blk_cell (i := 5) HT.out.b rfl
                have x6 := blk_cell (i := 6) HT.out.a rfl
                have y6 := blk_cell (i := 6) HT.out.b rfl
                have x7 := blk_cell (i := 7) HT.out.a rfl
                have y7 := blk_cell (i := 7) HT.out.b rfl
                have x8 := blk_cell (i := 8) HT.out.a rfl
                have y8 := blk_cell (i := 8) HT.out.b rfl
                have x9 := blk_cell (i := 9) HT.out.a rfl
                have y9 := blk_cell (i := 9) HT.out.b rfl
                have x10 := blk_cell (i := 10) HT.out.a rfl
                have y10 := blk_cell (i := 10) HT.out.b rfl
                have x11 := blk_cell (i := 11) HT.out.a rfl
                have y11 := blk_cell (i := 11) HT.out.b rfl
                have x12 := blk_cell (i := 12) HT.out.a rfl
                have y12 := blk_cell (i := 12) HT.out.b rfl
                have x13 := blk_cell (i := 13) HT.out.a rfl
                have y13 := blk_cell (i := 13) HT.out.b rfl
                have h1 : (x.kind == x.kind) = true := by simp
                have h2 : (x.table == x.table) = true := by simp
                have h3 : ((x.period.1 : Int) == (x.period.1 : Int)) = true := by simp
                have h4 : ((x.period.2 : Int) == (x.period.2 : Int)) = true := by simp
                go_wp2_with fail
                refine (SameTexts_ok _ _ x.keys _ (Ra1.out.ext HT.out.ext) (Rb1.out.ext HT.out.ext)).mono ?_
                rintro e w2 ⟨rfl, hE2⟩
                have HT2 := Lib.hid (HT.out.step hE2)
                clear hE2 x0 y0 x1 y1 x2 y2 x3 y3 x4 y4 x5 y5 x6 y6 x7 y7 x8 y8 x9 y9 x10 y10 x11 y11 x12 y12 x13 y13
                have x0 := blk_cell (i := 0) HT2.out.a rfl
                have y0 := blk_cell (i := 0) HT2.out.b rfl
                have x1 := blk_cell (i := 1) HT2.out.a rfl
                have y1 := blk_cell (i := 1) HT2.out.b rfl
                have x2 := blk_cell (i := 2) HT2.out.a rfl
                have y2 := blk_cell (i := 2) HT2.out.b rfl
                have x3 := blk_cell (i := 3) HT2.out.a rfl
                have y3 := blk_cell (i := 3) HT2.out.b rfl
                have x4 := blk_cell (i := 4) HT2.out.a rfl
                have y4 := blk_cell (i := 4) HT2.out.b rfl
                have x5 := blk_cell (i := 5) HT2.out.a rfl
                have y5 := blk_cell (i := 5) HT2.out.b rfl
                have x6 := blk_cell (i := 6) HT2.out.a rfl
                have y6 := blk_cell (i := 6) HT2.out.b rfl
                have x7 := blk_cell (i := 7) HT2.out.a rfl
                have y7 := blk_cell (i := 7) HT2.out.b rfl
                have x8 := blk_cell (i := 8) HT2.out.a rfl
                have y8 := blk_cell (i := 8) HT2.out.b rfl
                have x9 := blk_cell (i := 9) HT2.out.a rfl
                have y9 := blk_cell (i := 9) HT2.out.b rfl
                have x10 := blk_cell (i := 10) HT2.out.a rfl
                have y10 := blk_cell (i := 10) HT2.out.b rfl
                have x11 := blk_cell (i := 11) HT2.out.a rfl
                have y11 := blk_cell (i := 11) HT2.out.b rfl
                have x12 := blk_cell (i := 12) HT2.out.a rfl
                have y12 := blk_cell (i := 12) HT2.out.b rfl
                have x13 := blk_cell (i := 13) HT2.out.a rfl
                have y13 := blk_cell (i := 13) HT2.out.b rfl
                go_wp2_with fail
                refine (exprs_same _ _ x.values _ (Ra2.out.ext HT2.out.ext) (Rb2.out.ext HT2.out.ext)).mono ?_
                rintro e w3 ⟨rfl, hE3⟩
                have HT3 := Lib.hid (HT2.out.step hE3)
                clear hE3 x0 y0 x1 y1 x2 y2 x3 y3 x4 y4 x5 y5 x6 y6 x7 y7 x8 y8 x9 y9 x10 y10 x11 y11 x12 y12 x13 y13
                have x0 := blk_cell (i := 0) HT3.out.a rfl
                have y0 := blk_cell (i := 0) HT3.out.b rfl
                have x1 := blk_cell (i := 1) HT3.out.a rfl
                have y1 := blk_cell (i := 1) HT3.out.b rfl
                have x2 := blk_cell (i := 2) HT3.out.a rfl
                have y2 := blk_cell (i := 2) HT3.out.b rfl
                have x3 := blk_cell (i := 3) HT3.out.a rfl
                have y3 := blk_cell (i := 3) HT3.out.b rfl
                have x4 := blk_cell (i := 4) HT3.out.a rfl
                have y4 := blk_cell (i := 4) HT3.out.b rfl
                have x5 := blk_cell (i := 5) HT3.out.a rfl
                have y5 := blk_cell (i := 5) HT3.out.b rfl
                have x6 := blk_cell (i := 6) HT3.out.a rfl
                have y6 := blk_cell (i := 6) HT3.out.b rfl
                have x7 := blk_cell (i := 7) HT3.out.a rfl
                have y7 := blk_cell (i := 7) HT3.out.b rfl
                have x8 := blk_cell (i := 8) HT3.out.a rfl
                have y8 := blk_cell (i := 8) HT3.out.b rfl
                have x9 := blk_cell (i := 9) HT3.out.a rfl
                have y9 := blk_cell (i := 9) HT3.out.b rfl
                have x10 := blk_cell (i := 10) HT3.out.a rfl
                have y10 := blk_cell (i := 10) HT3.out.b rfl
                have x11 := blk_cell (i := 11) HT3.out.a rfl
                have y11 := blk_cell (i := 11) HT3.out.b rfl
                have x12 := blk_cell (i := 12) HT3.out.a rfl
                have y12 := blk_cell (i := 12) HT3.out.b rfl
                have x13 := blk_cell (i := 13) HT3.out.a rfl
                have y13 := blk_cell (i := 13) HT3.out.b rfl
                go_wp2_with fail
                refine (exprs_same _ _ x.cond _ (Ra4.out.ext HT3.out.ext) (Rb4.out.ext HT3.out.ext)).mono ?_
                rintro e w4 ⟨rfl, hE4⟩
                have HT4 := Lib.hid (HT3.out.step hE4)
                clear hE4 x0 y0 x1 y1 x2 y2 x3 y3 x4 y4 x5 y5 x6 y6 x7 y7 x8 y8 x9 y9 x10 y10 x11 y11 x12 y12 x13 y13
                have x0 := blk_cell (i := 0) HT4.out.a rfl
                have y0 := blk_cell (i := 0) HT4.out.b rfl
                have x1 := blk_cell (i := 1) HT4.out.a rfl
                have y1 := blk_cell (i := 1) HT4.out.b rfl
                have x2 := blk_cell (i := 2) HT4.out.a rfl
                have y2 := blk_cell (i := 2) HT4.out.b rfl
                have x3 := blk_cell (i := 3) HT4.out.a rfl
                have y3 := blk_cell (i := 3) HT4.out.b rfl
                have x4 := blk_cell (i := 4) HT4.out.a rfl
                have y4 := blk_cell (i := 4) HT4.out.b rfl
                have x5 := blk_cell (i := 5) HT4.out.a rfl
                have y5 := blk_cell (i := 5) HT4.out.b rfl
                have x6 := blk_cell (i := 6) HT4.out.a rfl
                have y6 := blk_cell (i := 6) HT4.out.b rfl
                have x7 := blk_cell (i := 7) HT4.out.a rfl
                have y7 := blk_cell (i := 7) HT4.out.b rfl
                have x8 := blk_cell (i := 8) HT4.out.a rfl
                have y8 := blk_cell (i := 8) HT4.out.b rfl
                have x9 := blk_cell (i := 9) HT4.out.a rfl
                have y9 := blk_cell (i := 9) HT4.out.b rfl
                have x10 := blk_cell (i := 10) HT4.out.a rfl
                have y10 := blk_cell (i := 10) HT4.out.b rfl
                have x11 := blk_cell (i := 11) HT4.out.a rfl
                have y11 := blk_cell (i := 11) HT4.out.b rfl
                have x12 := blk_cell (i := 12) HT4.out.a rfl
                have y12 := blk_cell (i := 12) HT4.out.b rfl
                have x13 := blk_cell (i := 13) HT4.out.a rfl
                have y13 := blk_cell (i := 13) HT4.out.b rfl
                go_wp2_with fail
                refine (SameTexts_ok _ _ x.ops _ (Ra6.out.ext HT4.out.ext) (Rb6.out.ext HT4.out.ext)).mono ?_
                rintro e w5 ⟨rfl, hE5⟩
                have HT5 := Lib.hid (HT4.out.step hE5)
                clear hE5 x0 y0 x1 y1 x2 y2 x3 y3 x4 y4 x5 y5 x6 y6 x7 y7 x8 y8 x9 y9 x10 y10 x11 y11 x12 y12 x13 y13
                have x0 := blk_cell (i := 0) HT5.out.a rfl
                have y0 := blk_cell (i := 0) HT5.out.b rfl
                have x1 := blk_cell (i := 1) HT5.out.a rfl
                have y1 := blk_cell (i := 1) HT5.out.b rfl
                have x2 := blk_cell (i := 2) HT5.out.a rfl
                have y2 := blk_cell (i := 2) HT5.out.b rfl
                have x3 := blk_cell (i := 3) HT5.out.a rfl
                have y3 := blk_cell (i := 3) HT5.out.b rfl
                have x4 := blk_cell (i := 4) HT5.out.a rfl
                have y4 := blk_cell (i := 4) HT5.out.b rfl
                have x5 := blk_cell (i := 5) HT5.out.a rfl
                have y5 := blk_cell (i := 5) HT5.out.b rfl
                have x6 := blk_cell (i := 6) HT5.out.a rfl
                have y6 := blk_cell (i := 6) HT5.out.b rfl
                have x7 := blk_cell (i := 7) HT5.out.a rfl
                have y7 := blk_cell (i := 7) HT5.out.b rfl
                have x8 := blk_cell (i := 8) HT5.out.a rfl
                have y8 := blk_cell (i := 8) HT5.out.b rfl
                have x9 := blk_cell (i := 9) HT5.out.a rfl
                have y9 := blk_cell (i := 9) HT5.out.b rfl
                have x10 := blk_cell (i := 10) HT5.out.a rfl
                have y10 := blk_cell (i := 10) HT5.out.b rfl
                have x11 := blk_cell (i := 11) HT5.out.a rfl
                have y11 := blk_cell (i := 11) HT5.out.b rfl
                have x12 := blk_cell (i := 12) HT5.out.a rfl
                have y12 := blk_cell (i := 12) HT5.out.b rfl
                have x13 := blk_cell (i := 13) HT5.out.a rfl
                have y13 := blk_cell (i := 13) HT5.out.b rfl
                go_wp2_with fail
                refine (SameTexts_ok _ _ x.order _ (Ra9.out.ext HT5.out.ext) (Rb9.out.ext HT5.out.ext)).mono ?_
                rintro e w6 ⟨rfl, hE6⟩
                have HT6 := Lib.hid (HT5.out.step hE6)
                clear hE6 x0 y0 x1 y1 x2 y2 x3 y3 x4 y4 x5 y5 x6 y6 x7 y7 x8 y8 x9 y9 x10 y10 x11 y11 x12 y12 x13 y13
                go_wp2
                go_ret
                exact ⟨rfl, HT6.out.ext⟩
end Go.Proofs.YtkhnpmeohjafiaaGreatDoor
