/- Lemmas. -/
import Derived.Test.YtkhnpmeohjafiaaGreatDoorMY7
import Derived.Test.YtkhnpmeohjafiaaGreatDoorMPu3
import Derived.Test.YtkhnpmeohjafiaaGreatDoorMPrZ
namespace Go.Proofs.YtkhnpmeohjafiaaGreatDoor
open Go.RowKit
set_option maxRecDepth 100000 in
set_option maxHeartbeats 16000000 in
theorem reads_any (l : List UInt8) (w : World) (hg : Gl w) (hl : l.length ≤ 1048576) :
  Calls Tryz.prog 3 #[str l] w (fun e w' => e = .returned (.bool true) ∧ Ext w w') := by
 have HG := Lib.hid hg
 have HL := Lib.hid hl
 obtain ⟨x, hx⟩ : ∃ x, stOf (parseOf l) = x := ⟨_, rfl⟩
 obtain ⟨f1, hf1⟩ : ∃ x, (flOf (parseOf l)).1 = x := ⟨_, rfl⟩
 obtain ⟨f2, hf2⟩ : ∃ x, (flOf (parseOf l)).2 = x := ⟨_, rfl⟩
 have HX := Lib.hid hx
 have HF1 := Lib.hid hf1
 have HF2 := Lib.hid hf2
 clear hg hx hf1 hf2
 go_enter Tryz.func3, Tryz.ntmps3
 go_wp2_with fail
 refine (awake_ok w HG.out).mono ?_
 rintro e w1 ⟨rfl, hE1⟩
 have HE1 := Lib.hid hE1
 clear hE1
 go_wp2_with fail
 refine (Parse_any l w1 (by omega) x f1 f2 HX.out HF1.out HF2.out).mono ?_
 rintro e w2 ⟨hE, gg1, gg2, gg3, gg4, gg5, gg6, gg7, gg8, gg9, gg10, cc1, cc2, cc3, cc4, cc5, cc6, cc7, cc8, cc9, cc10, rfl, hok⟩
 have HO2 := Lib.hid hok
 have HE2 := Lib.hid hE
 clear hE hok
 go_wp2_with fail
 have HU : Hid (Ext w2 ((w2.alloc (.cells #[str x.kind, str x.table, slv gg1 x.columns.length cc1, slv gg2 x.keys.length cc2, slv gg3 x.values.length cc3, slv gg4 x.sets.length cc4, .int .i64 (x.period.1 : Int), .int .i64 (x.period.2 : Int), slv gg5 x.cond.length cc5, slv gg6 x.query.length cc6, slv gg7 x.ops.length cc7, slv gg8 x.asOf.length cc8, slv gg9 x.during.length cc9, slv gg10 x.order.length cc10] 33)).alloc (.cells #[.int .i64 (f1 : Int), .int .i64 (f2 : Int)] 36))) := Lib.hid (((Ext.refl w2).alloc _).alloc _)
 have HB1 : Hid (((w2.alloc (.cells #[str x.kind, str x.table, slv gg1 x.columns.length cc1, slv gg2 x.keys.length cc2, slv gg3 x.values.length cc3, slv gg4 x.sets.length cc4, .int .i64 (x.period.1 : Int), .int .i64 (x.period.2 : Int), slv gg5 x.cond.length cc5, slv gg6 x.query.length cc6, slv gg7 x.ops.length cc7, slv gg8 x.asOf.length cc8, slv gg9 x.during.length cc9, slv gg10 x.order.length cc10] 33)).alloc (.cells #[.int .i64 (f1 : Int), .int .i64 (f2 : Int)] 36)).heap[w2.heap.size]? = some (.cells #[str x.kind, str x.table, slv gg1 x.columns.length cc1, slv gg2 x.keys.length cc2, slv gg3 x.values.length cc3, slv gg4 x.sets.length cc4, .int .i64 (x.period.1 : Int), .int .i64 (x.period.2 : Int), slv gg5 x.cond.length cc5, slv gg6 x.query.length cc6, slv gg7 x.ops.length cc7, slv gg8 x.asOf.length cc8, slv gg9 x.during.length cc9, slv gg10 x.order.length cc10] 33 (0, 0))) := Lib.hid (blk_alloc (blk_new _ _))
 have HB2 : Hid (((w2.alloc (.cells #[str x.kind, str x.table, slv gg1 x.columns.length cc1, slv gg2 x.keys.length cc2, slv gg3 x.values.length cc3, slv gg4 x.sets.length cc4, .int .i64 (x.period.1 : Int), .int .i64 (x.period.2 : Int), slv gg5 x.cond.length cc5, slv gg6 x.query.length cc6, slv gg7 x.ops.length cc7, slv gg8 x.asOf.length cc8, slv gg9 x.during.length cc9, slv gg10 x.order.length cc10] 33)).alloc (.cells #[.int .i64 (f1 : Int), .int .i64 (f2 : Int)] 36)).heap[w2.heap.size + 1]? = some (.cells #[.int .i64 (f1 : Int), .int .i64 (f2 : Int)] 36 (0, 0))) := Lib.hid (blk_new_at _ (by simp))
 refine (Parse_ref l ((w2.alloc (.cells #[str x.kind, str x.table, slv gg1 x.columns.length cc1, slv gg2 x.keys.length cc2, slv gg3 x.values.length cc3, slv gg4 x.sets.length cc4, .int .i64 (x.period.1 : Int), .int .i64 (x.period.2 : Int), slv gg5 x.cond.length cc5, slv gg6 x.query.length cc6, slv gg7 x.ops.length cc7, slv gg8 x.asOf.length cc8, slv gg9 x.during.length cc9, slv gg10 x.order.length cc10] 33)).alloc (.cells #[.int .i64 (f1 : Int), .int .i64 (f2 : Int)] 36)) (by omega) x f1 f2 HX.out HF1.out HF2.out).mono ?_
 rintro e w3 ⟨hE3, g1, g2, g3, g4, g5, g6, g7, g8, g9, g10, c1, c2, c3, c4, c5, c6, c7, c8, c9, c10, rfl, hok⟩
 have HOK := Lib.hid hok
 have HE3 := Lib.hid (HU.out.trans hE3)
 have HC1 := Lib.hid (Ext.block hE3 HB1.out)
 have HC2 := Lib.hid (Ext.block hE3 HB2.out)
 clear hE3 hok
 have HV : Hid (Ext w3 (w3.alloc (.cells #[str x.kind, str x.table, slv g1 x.columns.length c1, slv g2 x.keys.length c2, slv g3 x.values.length c3, slv g4 x.sets.length c4, .int .i64 (x.period.1 : Int), .int .i64 (x.period.2 : Int), slv g5 x.cond.length c5, slv g6 x.query.length c6, slv g7 x.ops.length c7, slv g8 x.asOf.length c8, slv g9 x.during.length c9, slv g10 x.order.length c10] 33))) := Lib.hid ((Ext.refl w3).alloc _)
 obtain ⟨a0, a1, a2, a3, a4, a5, a6, a7, a8, a9, a10, a11, a12, a13⟩ := blk14 HC1.out
 have la := blk_lt HC1.out
 go_wp2_with fail
 refine (Same_ok x ⟨slv gg1 x.columns.length cc1, slv gg2 x.keys.length cc2, slv gg3 x.values.length cc3, slv gg4 x.sets.length cc4, slv gg5 x.cond.length cc5, slv gg6 x.query.length cc6, slv gg7 x.ops.length cc7, slv gg8 x.asOf.length cc8, slv gg9 x.during.length cc9, slv gg10 x.order.length cc10⟩ ⟨slv g1 x.columns.length c1, slv g2 x.keys.length c2, slv g3 x.values.length c3, slv g4 x.sets.length c4, slv g5 x.cond.length c5, slv g6 x.query.length c6, slv g7 x.ops.length c7, slv g8 x.asOf.length c8, slv g9 x.during.length c9, slv g10 x.order.length c10⟩ (w3.alloc (.cells #[str x.kind, str x.table, slv g1 x.columns.length c1, slv g2 x.keys.length c2, slv g3 x.values.length c3, slv g4 x.sets.length c4, .int .i64 (x.period.1 : Int), .int .i64 (x.period.2 : Int), slv g5 x.cond.length c5, slv g6 x.query.length c6, slv g7 x.ops.length c7, slv g8 x.asOf.length c8, slv g9 x.during.length c9, slv g10 x.order.length c10] 33)) (HO2.out.keep (A' := fun _ => True) (fun b hb _ => ⟨Below.block (HE3.out.trans HV.out) b hb, trivial⟩)) (HOK.out.keep (A' := fun _ => True) (fun b hb _ => ⟨Below.block HV.out b hb, trivial⟩))).mono ?_
 rintro e w4 ⟨rfl, hE4⟩
 have HE4 := Lib.hid (HV.out.trans hE4)
 clear hE4 a0 a1 a2 a3 a4 a5 a6 a7 a8 a9 a10 a11 a12 a13
 obtain ⟨b0, b1⟩ := blk2 (Ext.block HE4.out HC2.out)
 have lb := blk_lt (Ext.block HE4.out HC2.out)
 go_wp2
 go_ret
 exact ⟨rfl, HE1.out.trans (HE2.out.trans (HE3.out.trans HE4.out))⟩
end Go.Proofs.YtkhnpmeohjafiaaGreatDoor
