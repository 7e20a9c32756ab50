/- annalslaw15.same: walked. -/
import Derived.Test.YtkhnpmeohjafiaaGreatDoorMU
import Derived.Test.YtkhnpmeohjafiaaGreatDoorMV
import Derived.Test.YtkhnpmeohjafiaaGreatDoorMPrZ
namespace Go.Proofs.YtkhnpmeohjafiaaGreatDoor
open Go.RowKit

def hdW : Str := [115, 101, 108, 101, 99, 116, 32, 97, 32, 102, 114, 111, 109, 32, 116, 32, 119, 104, 101, 114, 101, 32]
set_option maxRecDepth 100000 in
set_option maxHeartbeats 16000000 in
theorem same_ok (s t : Str) (hs : s.length ≤ 100000000) (ht : t.length ≤ 100000000) (hx : ∀ x y, parseOf (hdW ++ s) = .inr x → parseOf (hdW ++ t) = .inr y → x = y) (w : World) :
    Calls Tryz.prog 16 #[str s, str t] w (fun e w' => e = .returned (.bool true) ∧ Ext w w') := by
  have HXY := Lib.hid hx
  obtain ⟨s1, h1⟩ : ∃ z : Str, z = hdW ++ s := ⟨_, rfl⟩
  obtain ⟨s2, h2⟩ : ∃ z : Str, z = hdW ++ t := ⟨_, rfl⟩
  have hc1 : ∀ u : World, (Op.stringOp .add ⟨#[115, 101, 108, 101, 99, 116, 32, 97, 32, 102, 114, 111, 109, 32, 116, 32, 119, 104, 101, 114, 101, 32]⟩ (bs s)).run Tryz.prog u = .ok (str s1) u := fun u => by rw [h1]; exact cat_ok [115, 101, 108, 101, 99, 116, 32, 97, 32, 102, 114, 111, 109, 32, 116, 32, 119, 104, 101, 114, 101, 32] s u (by simp; omega)
  have hc2 : ∀ u : World, (Op.stringOp .add ⟨#[115, 101, 108, 101, 99, 116, 32, 97, 32, 102, 114, 111, 109, 32, 116, 32, 119, 104, 101, 114, 101, 32]⟩ (bs t)).run Tryz.prog u = .ok (str s2) u := fun u => by rw [h2]; exact cat_ok [115, 101, 108, 101, 99, 116, 32, 97, 32, 102, 114, 111, 109, 32, 116, 32, 119, 104, 101, 114, 101, 32] t u (by simp; omega)
  have HL1 : Hid (s1.length ≤ 1000000000) := Lib.hid (by rw [h1]; simp [hdW]; omega)
  have HL2 : Hid (s2.length ≤ 1000000000) := Lib.hid (by rw [h2]; simp [hdW]; omega)
  have HXX : Hid (∀ x y, parseOf s1 = .inr x → parseOf s2 = .inr y → x = y) := Lib.hid (by rw [h1, h2]; exact hx)
  clear hx h1 h2 hs ht HXY
  go_enter Tryz.func16, Tryz.ntmps16
  go_wp2_with fail
  refine (Parse_ok s1 _ HL1.out).mono ?_
  rintro e w1 ⟨hE1, hp1⟩
  have HE1 := Lib.hid hE1
  clear hE1
  rcases hr1 : parseOf s1 with ⟨f1, f2⟩ | x
  · rw [hr1] at hp1
    obtain rfl := hp1
    have hf1 : ¬ f1 = 0 := (parse_fault hr1).1
    clear hr1
    dsimp only
    go_wp2_with fail
    have HU : Hid (Ext w1 ((w1.alloc (.cells zStL.toArray 33)).alloc (.cells #[.int .i64 (f1 : Int), .int .i64 (f2 : Int)] 36))) := Lib.hid (((Ext.refl w1).alloc _).alloc _)
    have HB1 : Hid (((w1.alloc (.cells zStL.toArray 33)).alloc (.cells #[.int .i64 (f1 : Int), .int .i64 (f2 : Int)] 36)).heap[w1.heap.size]? = some (.cells zStL.toArray 33 (0, 0))) := Lib.hid (blk_alloc (blk_new _ _))
    have HB2 : Hid (((w1.alloc (.cells zStL.toArray 33)).alloc (.cells #[.int .i64 (f1 : Int), .int .i64 (f2 : Int)] 36)).heap[w1.heap.size + 1]? = some (.cells #[.int .i64 (f1 : Int), .int .i64 (f2 : Int)] 36 (0, 0))) := Lib.hid (blk_new_at _ (by simp))
    refine (Parse_ok s2 ((w1.alloc (.cells zStL.toArray 33)).alloc (.cells #[.int .i64 (f1 : Int), .int .i64 (f2 : Int)] 36)) HL2.out).mono ?_
    rintro e w2 ⟨hE2, hp2⟩
    obtain ⟨a0, a1, a2, a3, a4, a5, a6, a7, a8, a9, a10, a11, a12, a13⟩ := blk14 (Ext.block hE2 HB1.out)
    obtain ⟨b0, b1⟩ := blk2 (Ext.block hE2 HB2.out)
    have HE2 := Lib.hid (HU.out.trans hE2)
    have la : w1.heap.size < w2.heap.size := blk_lt (Ext.block hE2 HB1.out)
    have lb : w1.heap.size + 1 < w2.heap.size := blk_lt (Ext.block hE2 HB2.out)
    clear hE2
    rcases hr2 : parseOf s2 with g | y
    · rw [hr2] at hp2
      obtain rfl := hp2
      clear hr2
      go_wp2
      go_ret
      exact ⟨rfl, ((HE1.out.trans HE2.out).alloc _).alloc _⟩
    · rw [hr2] at hp2
      obtain ⟨v, rfl, hok⟩ := hp2
      obtain ⟨u0, u1, u2, u3, u4, u5, u6, u7, u8, u9⟩ := v
      obtain ⟨g1, c1, e1⟩ := hok.col.slice
      obtain ⟨g2, c2, e2⟩ := hok.key.slice
      obtain ⟨g3, c3, e3⟩ := hok.val.slice
      obtain ⟨g4, c4, e4⟩ := hok.set.slice
      obtain ⟨g5, c5, e5⟩ := hok.cond.slice
      obtain ⟨g6, c6, e6⟩ := hok.qu.slice
      obtain ⟨g7, c7, e7⟩ := hok.op.slice
      obtain ⟨g8, c8, e8⟩ := hok.asof.slice
      obtain ⟨g9, c9, e9⟩ := hok.dur.slice
      obtain ⟨g10, c10, e10⟩ := hok.ord.slice
      simp only at e1 e2 e3 e4 e5 e6 e7 e8 e9 e10
      subst e1 e2 e3 e4 e5 e6 e7 e8 e9 e10
      clear hr2 hok
      go_wp2
      go_ret
      exact ⟨rfl, ((HE1.out.trans HE2.out).alloc _).alloc _⟩
  · rw [hr1] at hp1
    obtain ⟨v, rfl, hok⟩ := hp1
    have HO1 := Lib.hid hok
    obtain ⟨u0, u1, u2, u3, u4, u5, u6, u7, u8, u9⟩ := v
    obtain ⟨g1, c1, e1⟩ := hok.col.slice
    obtain ⟨g2, c2, e2⟩ := hok.key.slice
    obtain ⟨g3, c3, e3⟩ := hok.val.slice
    obtain ⟨g4, c4, e4⟩ := hok.set.slice
    obtain ⟨g5, c5, e5⟩ := hok.cond.slice
    obtain ⟨g6, c6, e6⟩ := hok.qu.slice
    obtain ⟨g7, c7, e7⟩ := hok.op.slice
    obtain ⟨g8, c8, e8⟩ := hok.asof.slice
    obtain ⟨g9, c9, e9⟩ := hok.dur.slice
    obtain ⟨g10, c10, e10⟩ := hok.ord.slice
    simp only at e1 e2 e3 e4 e5 e6 e7 e8 e9 e10
    subst e1 e2 e3 e4 e5 e6 e7 e8 e9 e10
    have HR1 := Lib.hid hr1
    clear hok hr1
    go_wp2_with fail
    have HU : Hid (Ext w1 ((w1.alloc (.cells (stCells x ⟨slv g1 x.columns.length c1, slv g2 x.keys.length c2, slv g3 x.values.length c3, slv g4 x.sets.length c4, slv g5 x.cond.length c5, slv g6 x.query.length c6, slv g7 x.ops.length c7, slv g8 x.asOf.length c8, slv g9 x.during.length c9, slv g10 x.order.length c10⟩).toArray 33)).alloc (.cells #[.int .i64 0, .int .i64 0] 36))) := Lib.hid (((Ext.refl w1).alloc _).alloc _)
    have HB1 : Hid (((w1.alloc (.cells (stCells x ⟨slv g1 x.columns.length c1, slv g2 x.keys.length c2, slv g3 x.values.length c3, slv g4 x.sets.length c4, slv g5 x.cond.length c5, slv g6 x.query.length c6, slv g7 x.ops.length c7, slv g8 x.asOf.length c8, slv g9 x.during.length c9, slv g10 x.order.length c10⟩).toArray 33)).alloc (.cells #[.int .i64 0, .int .i64 0] 36)).heap[w1.heap.size]? = some (.cells (stCells x ⟨slv g1 x.columns.length c1, slv g2 x.keys.length c2, slv g3 x.values.length c3, slv g4 x.sets.length c4, slv g5 x.cond.length c5, slv g6 x.query.length c6, slv g7 x.ops.length c7, slv g8 x.asOf.length c8, slv g9 x.during.length c9, slv g10 x.order.length c10⟩).toArray 33 (0, 0))) := Lib.hid (blk_alloc (blk_new _ _))
    have HB2 : Hid (((w1.alloc (.cells (stCells x ⟨slv g1 x.columns.length c1, slv g2 x.keys.length c2, slv g3 x.values.length c3, slv g4 x.sets.length c4, slv g5 x.cond.length c5, slv g6 x.query.length c6, slv g7 x.ops.length c7, slv g8 x.asOf.length c8, slv g9 x.during.length c9, slv g10 x.order.length c10⟩).toArray 33)).alloc (.cells #[.int .i64 0, .int .i64 0] 36)).heap[w1.heap.size + 1]? = some (.cells #[.int .i64 0, .int .i64 0] 36 (0, 0))) := Lib.hid (blk_new_at _ (by simp))
    refine (Parse_ok s2 ((w1.alloc (.cells (stCells x ⟨slv g1 x.columns.length c1, slv g2 x.keys.length c2, slv g3 x.values.length c3, slv g4 x.sets.length c4, slv g5 x.cond.length c5, slv g6 x.query.length c6, slv g7 x.ops.length c7, slv g8 x.asOf.length c8, slv g9 x.during.length c9, slv g10 x.order.length c10⟩).toArray 33)).alloc (.cells #[.int .i64 0, .int .i64 0] 36)) HL2.out).mono ?_
    rintro e w2 ⟨hE2, hp2⟩
    obtain ⟨a0, a1, a2, a3, a4, a5, a6, a7, a8, a9, a10, a11, a12, a13⟩ := blk14 (Ext.block hE2 HB1.out)
    obtain ⟨b0, b1⟩ := blk2 (Ext.block hE2 HB2.out)
    have HE2 := Lib.hid (HU.out.trans hE2)
    have la : w1.heap.size < w2.heap.size := blk_lt (Ext.block hE2 HB1.out)
    have lb : w1.heap.size + 1 < w2.heap.size := blk_lt (Ext.block hE2 HB2.out)
    clear hE2
    rcases hr2 : parseOf s2 with ⟨f1, f2⟩ | y
    · rw [hr2] at hp2
      obtain rfl := hp2
      have hf1 : ¬ f1 = 0 := (parse_fault hr2).1
      clear hr2
      dsimp only
      go_wp2
      go_ret
      exact ⟨rfl, ((HE1.out.trans HE2.out).alloc _).alloc _⟩
    · rw [hr2] at hp2
      obtain rfl := HXX.out x y HR1.out hr2
      obtain ⟨v2, rfl, hok2⟩ := hp2
      have HO2 := Lib.hid hok2
      obtain ⟨u0, u1, u2, u3, u4, u5, u6, u7, u8, u9⟩ := v2
      obtain ⟨k1, d1, e1⟩ := hok2.col.slice
      obtain ⟨k2, d2, e2⟩ := hok2.key.slice
      obtain ⟨k3, d3, e3⟩ := hok2.val.slice
      obtain ⟨k4, d4, e4⟩ := hok2.set.slice
      obtain ⟨k5, d5, e5⟩ := hok2.cond.slice
      obtain ⟨k6, d6, e6⟩ := hok2.qu.slice
      obtain ⟨k7, d7, e7⟩ := hok2.op.slice
      obtain ⟨k8, d8, e8⟩ := hok2.asof.slice
      obtain ⟨k9, d9, e9⟩ := hok2.dur.slice
      obtain ⟨k10, d10, e10⟩ := hok2.ord.slice
      simp only at e1 e2 e3 e4 e5 e6 e7 e8 e9 e10
      subst e1 e2 e3 e4 e5 e6 e7 e8 e9 e10
      clear hok2 hr2
      go_wp2_with fail
      have HV : Hid (Ext w2 ((w2.alloc (.cells (stCells x ⟨slv k1 x.columns.length d1, slv k2 x.keys.length d2, slv k3 x.values.length d3, slv k4 x.sets.length d4, slv k5 x.cond.length d5, slv k6 x.query.length d6, slv k7 x.ops.length d7, slv k8 x.asOf.length d8, slv k9 x.during.length d9, slv k10 x.order.length d10⟩).toArray 33)).alloc (.cells #[.int .i64 0, .int .i64 0] 36))) := Lib.hid (((Ext.refl w2).alloc _).alloc _)
      refine (Same_ok x ⟨slv g1 x.columns.length c1, slv g2 x.keys.length c2, slv g3 x.values.length c3, slv g4 x.sets.length c4, slv g5 x.cond.length c5, slv g6 x.query.length c6, slv g7 x.ops.length c7, slv g8 x.asOf.length c8, slv g9 x.during.length c9, slv g10 x.order.length c10⟩ ⟨slv k1 x.columns.length d1, slv k2 x.keys.length d2, slv k3 x.values.length d3, slv k4 x.sets.length d4, slv k5 x.cond.length d5, slv k6 x.query.length d6, slv k7 x.ops.length d7, slv k8 x.asOf.length d8, slv k9 x.during.length d9, slv k10 x.order.length d10⟩ ((w2.alloc (.cells (stCells x ⟨slv k1 x.columns.length d1, slv k2 x.keys.length d2, slv k3 x.values.length d3, slv k4 x.sets.length d4, slv k5 x.cond.length d5, slv k6 x.query.length d6, slv k7 x.ops.length d7, slv k8 x.asOf.length d8, slv k9 x.during.length d9, slv k10 x.order.length d10⟩).toArray 33)).alloc (.cells #[.int .i64 0, .int .i64 0] 36)) (HO1.out.keep (A' := fun _ => True) (fun b hb _ => ⟨Below.block (HE2.out.trans HV.out) b hb, trivial⟩)) (HO2.out.keep (A' := fun _ => True) (fun b hb _ => ⟨Below.block HV.out b hb, trivial⟩))).mono ?_
      rintro e w3 ⟨rfl, hE3⟩
      have HE3 := Lib.hid (HE1.out.trans (HE2.out.trans (HV.out.trans hE3)))
      clear hE3 a0 a1 a2 a3 a4 a5 a6 a7 a8 a9 a10 a11 a12 a13 b0 b1
      go_wp2
      go_ret
      exact ⟨rfl, HE3.out⟩
end Go.Proofs.YtkhnpmeohjafiaaGreatDoor
