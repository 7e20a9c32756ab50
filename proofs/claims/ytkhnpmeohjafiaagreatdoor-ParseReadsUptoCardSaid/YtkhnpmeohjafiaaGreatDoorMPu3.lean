/- Lemmas. -/
import Derived.Test.YtkhnpmeohjafiaaGreatDoorMPl7
import Derived.KernelRfl
namespace Go.Proofs.YtkhnpmeohjafiaaGreatDoor
open Go.RowKit
def awX : St := { St.none with kind := [83, 69, 76, 69, 67, 84], query := [⟨false, false, false, [], [eName [65] []], [[84]], [eTwo [61] (eName [65] []) (eTwo [43] (eNum 1) (eTwo [42] (eNum 2) (eNum 3)))]⟩] }
theorem aw1 : parseOf [115, 101, 108, 101, 99, 116, 32, 97, 32, 102, 114, 111, 109, 32, 116, 32, 119, 104, 101, 114, 101, 32, 97, 32, 61, 32, 49, 32, 43, 32, 50, 32, 42, 32, 51] = .inr awX := by kernel_rfl
theorem aw2 : parseOf [115, 101, 108, 101, 99, 116, 32, 97, 32, 102, 114, 111, 109, 32, 116, 32, 119, 104, 101, 114, 101] = .inl (150, 21) := by kernel_rfl
theorem aw3 : printT awX = [83, 69, 76, 69, 67, 84, 32, 65, 32, 70, 82, 79, 77, 32, 84, 32, 87, 72, 69, 82, 69, 32, 65, 32, 61, 32, 49, 32, 43, 32, 50, 32, 42, 32, 51] := by kernel_rfl
def awQ : Qu := ⟨false, false, false, [], [eName [65] []], [[84]], [eTwo [61] (eName [65] []) (eTwo [43] (eNum 1) (eTwo [42] (eNum 2) (eNum 3)))]⟩
theorem awA : NameOk [65] := ⟨⟨by decide, by decide, by decide⟩, by decide, by decide⟩
theorem awT : NameOk [84] := ⟨⟨by decide, by decide, by decide⟩, by decide, by decide⟩
theorem awG : GQ awQ := by
 refine ⟨WfQ.items false _ _ _ (by simp) (fun e he => ?_), ⟨by simp [awQ], by simp [awQ], fun s hs => ?_⟩, ⟨by simp [awQ], fun e he => ?_⟩⟩
 · simp at he; exact ⟨[65], [], awA, .inl rfl, he⟩
 · simp [awQ] at hs; subst hs; exact awT
 · simp [awQ] at he; subst he
   exact ⟨.two _ _ _ (by decide) (.name _ _ awA (.inl rfl)) (.two _ _ _ (by decide) (.num _ (by omega)) (.two _ _ _ (by decide) (.num _ (by omega)) (.num _ (by omega)))), Nat.le_of_ble_eq_true (by kernel_rfl)⟩
theorem print_aw (v : StV) (w : World) (hg : Gl w) (h : StOk w (fun _ => True) awX v) :
  Calls Tryz.prog 12 #[.agg (stCells awX v).toArray] w (fun e w' => e = .returned (str (printT awX)) ∧ Ext w w') := by
 obtain ⟨u0, u1, u2, u3, u4, u5, u6, u7, u8, u9⟩ := v
 rw [show printT awX = selT awQ [] [] [] [] [] by kernel_rfl]
 exact print_lt awQ [] [] [] [] [] (fun p hp => by simp at hp; subst hp; exact ⟨awG, _, _, _, rfl, fun e he => by simp at he; subst he; exact .name _ _ awA (.inl rfl)⟩) rfl (fun n hn => by cases hn) (fun n hn => by cases hn) (Nat.le_of_ble_eq_true (by kernel_rfl)) [] 0 0 u0 u1 u2 u3 u4 u5 u6 u7 u8 u9 w hg h.qu.rd h.op.rd h.asof.rd h.dur.rd h.ord.rd
set_option maxRecDepth 100000 in
set_option maxHeartbeats 16000000 in
theorem awake_ok (w : World) (hg : Gl w) : Calls Tryz.prog 8 #[] w (fun e w' => e = .returned (.bool true) ∧ Ext w w') := by
 have HG := Lib.hid hg
 have hbs := bs_toList
 clear hg
 go_enter Tryz.func8, Tryz.ntmps8
 go_wp2_with fail
 refine (Parse_ok [115, 101, 108, 101, 99, 116, 32, 97, 32, 102, 114, 111, 109, 32, 116, 32, 119, 104, 101, 114, 101, 32, 97, 32, 61, 32, 49, 32, 43, 32, 50, 32, 42, 32, 51] _ (by decide)).mono ?_
 rintro e w1 ⟨hE1, hp⟩
 rw [aw1] at hp
 obtain ⟨v, rfl, hok⟩ := hp
 have HX := Lib.hid hok
 have HE1 := Lib.hid hE1
 obtain ⟨u0, u1, u2, u3, u4, u5, u6, u7, u8, u9⟩ := v
 obtain ⟨g1, c1, e1⟩ := hok.col.slice
 obtain ⟨g2, c2, e2⟩ := hok.key.slice
 obtain ⟨g3, c3, e3⟩ := hok.val.slice
 obtain ⟨g4, c4, e4⟩ := hok.set.slice
 obtain ⟨g5, c5, e5⟩ := hok.cond.slice
 obtain ⟨g6, c6, e6⟩ := hok.qu.slice
 obtain ⟨g7, c7, e7⟩ := hok.op.slice
 obtain ⟨g8, c8, e8⟩ := hok.asof.slice
 obtain ⟨g9, c9, e9⟩ := hok.dur.slice
 obtain ⟨g10, c10, e10⟩ := hok.ord.slice
 simp only at e1 e2 e3 e4 e5 e6 e7 e8 e9 e10
 subst e1 e2 e3 e4 e5 e6 e7 e8 e9 e10
 clear hok hE1
 rw [show (stCells awX ⟨slv g1 awX.columns.length c1, slv g2 awX.keys.length c2, slv g3 awX.values.length c3, slv g4 awX.sets.length c4, slv g5 awX.cond.length c5, slv g6 awX.query.length c6, slv g7 awX.ops.length c7, slv g8 awX.asOf.length c8, slv g9 awX.during.length c9, slv g10 awX.order.length c10⟩).toArray = #[str [83, 69, 76, 69, 67, 84], str [], slv g1 0 c1, slv g2 0 c2, slv g3 0 c3, slv g4 0 c4, .int .i64 0, .int .i64 0, slv g5 0 c5, slv g6 1 c6, slv g7 0 c7, slv g8 0 c8, slv g9 0 c9, slv g10 0 c10] from rfl]
 go_wp2_with fail
 have HU : Hid (Ext w1 ((w1.alloc (.cells #[str [83, 69, 76, 69, 67, 84], str [], slv g1 0 c1, slv g2 0 c2, slv g3 0 c3, slv g4 0 c4, .int .i64 0, .int .i64 0, slv g5 0 c5, slv g6 1 c6, slv g7 0 c7, slv g8 0 c8, slv g9 0 c9, slv g10 0 c10] 33)).alloc (.cells #[.int .i64 0, .int .i64 0] 36))) := Lib.hid (((Ext.refl w1).alloc _).alloc _)
 have HB1 : Hid (((w1.alloc (.cells #[str [83, 69, 76, 69, 67, 84], str [], slv g1 0 c1, slv g2 0 c2, slv g3 0 c3, slv g4 0 c4, .int .i64 0, .int .i64 0, slv g5 0 c5, slv g6 1 c6, slv g7 0 c7, slv g8 0 c8, slv g9 0 c9, slv g10 0 c10] 33)).alloc (.cells #[.int .i64 0, .int .i64 0] 36)).heap[w1.heap.size]? = some (.cells #[str [83, 69, 76, 69, 67, 84], str [], slv g1 0 c1, slv g2 0 c2, slv g3 0 c3, slv g4 0 c4, .int .i64 0, .int .i64 0, slv g5 0 c5, slv g6 1 c6, slv g7 0 c7, slv g8 0 c8, slv g9 0 c9, slv g10 0 c10] 33 (0, 0))) := Lib.hid (blk_alloc (blk_new _ _))
 have HB2 : Hid (((w1.alloc (.cells #[str [83, 69, 76, 69, 67, 84], str [], slv g1 0 c1, slv g2 0 c2, slv g3 0 c3, slv g4 0 c4, .int .i64 0, .int .i64 0, slv g5 0 c5, slv g6 1 c6, slv g7 0 c7, slv g8 0 c8, slv g9 0 c9, slv g10 0 c10] 33)).alloc (.cells #[.int .i64 0, .int .i64 0] 36)).heap[w1.heap.size + 1]? = some (.cells #[.int .i64 0, .int .i64 0] 36 (0, 0))) := Lib.hid (blk_new_at _ (by simp))
 refine (Parse_ok [115, 101, 108, 101, 99, 116, 32, 97, 32, 102, 114, 111, 109, 32, 116, 32, 119, 104, 101, 114, 101] ((w1.alloc (.cells #[str [83, 69, 76, 69, 67, 84], str [], slv g1 0 c1, slv g2 0 c2, slv g3 0 c3, slv g4 0 c4, .int .i64 0, .int .i64 0, slv g5 0 c5, slv g6 1 c6, slv g7 0 c7, slv g8 0 c8, slv g9 0 c9, slv g10 0 c10] 33)).alloc (.cells #[.int .i64 0, .int .i64 0] 36)) (by decide)).mono ?_
 rintro e w2 ⟨hE2, hp⟩
 rw [aw2] at hp
 obtain rfl := hp
 obtain ⟨a0, a1, a2, a3, a4, a5, a6, a7, a8, a9, a10, a11, a12, a13⟩ := blk14 (Ext.block hE2 HB1.out)
 obtain ⟨b0, b1⟩ := blk2 (Ext.block hE2 HB2.out)
 have HE2 := Lib.hid (HU.out.trans hE2)
 have la : w1.heap.size < w2.heap.size := blk_lt (Ext.block hE2 HB1.out)
 have lb : w1.heap.size + 1 < w2.heap.size := blk_lt (Ext.block hE2 HB2.out)
 clear hE2
 go_wp2_with fail
 have HV : Hid (Ext w2 ((w2.alloc (.cells zStL.toArray 33)).alloc (.cells #[.int .i64 150, .int .i64 21] 36))) := Lib.hid (((Ext.refl w2).alloc _).alloc _)
 have HD1 : Hid (((w2.alloc (.cells zStL.toArray 33)).alloc (.cells #[.int .i64 150, .int .i64 21] 36)).heap[w2.heap.size]? = some (.cells zStL.toArray 33 (0, 0))) := Lib.hid (blk_alloc (blk_new _ _))
 have HD2 : Hid (((w2.alloc (.cells zStL.toArray 33)).alloc (.cells #[.int .i64 150, .int .i64 21] 36)).heap[w2.heap.size + 1]? = some (.cells #[.int .i64 150, .int .i64 21] 36 (0, 0))) := Lib.hid (blk_new_at _ (by simp))
 refine (print_aw _ ((w2.alloc (.cells zStL.toArray 33)).alloc (.cells #[.int .i64 150, .int .i64 21] 36)) (HG.out.ext (HE1.out.trans (HE2.out.trans HV.out))) (HX.out.keep (A' := fun _ => True) (fun b hb _ => ⟨Below.block (HE2.out.trans HV.out) b hb, trivial⟩))).mono ?_
 rintro e w3 ⟨rfl, hE3⟩
 rw [aw3]
 obtain ⟨k0, k1, k2, k3, k4, k5, k6, k7, k8, k9, k10, k11, k12, k13⟩ := blk14 (Ext.block hE3 HD1.out)
 obtain ⟨m0, m1⟩ := blk2 (Ext.block hE3 HD2.out)
 have HE3 := Lib.hid (HE1.out.trans (HE2.out.trans (HV.out.trans hE3)))
 clear hE3 a0 a1 a2 a3 a4 a5 a6 a7 a8 a9 a10 a11 a12 a13 b0 b1
 go_wp2
 go_ret
 exact ⟨rfl, HE3.out⟩
end Go.Proofs.YtkhnpmeohjafiaaGreatDoor
