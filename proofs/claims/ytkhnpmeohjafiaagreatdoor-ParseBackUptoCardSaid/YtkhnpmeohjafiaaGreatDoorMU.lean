/- parse.Print at every statement that was read; annalslaw15.awake. annalslaw15.awake: walked. -/
import Derived.Test.YtkhnpmeohjafiaaGreatDoorMT
import Derived.Test.YtkhnpmeohjafiaaGreatDoorMP
import Derived.Laws.StructEq
import Derived.KernelRfl
namespace Go.Proofs.YtkhnpmeohjafiaaGreatDoor
open Go.RowKit

theorem moreT_nil : ∀ qs : List Qu, moreT [] qs = (qs.map queryT).flatten
  | [] => rfl
  | q :: qs => by rw [moreT, moreT_nil qs]; rfl
set_option maxRecDepth 100000 in
set_option maxHeartbeats 16000000 in
theorem print_select (q : Qu) (qs : List Qu) (o : List Str) (a : List Nat) (d : List (Nat × Nat)) (r : List Str) (hq : ∀ p ∈ q :: qs, GQ p) (hl : o.length = qs.length)
    (ha : ∀ n ∈ a, n < 1000000000000000000) (hd : ∀ p ∈ d, PerOk p) (hsz : sumL szQ (q :: qs) + sumL szN o + sumL (fun _ => 50) a + sumL (fun _ => 50) d + sumL szN r ≤ 100000000)
    (t : Str) (pa pz : Nat) (vc vk vv vs vw vq vo va vd vr : Value) (w : World) (hg : Gl w) (kq : Rd QuK 49 w vq (q :: qs)) (ko : Rd StrK 9 w vo o) (ka : Rd NumK 2 w va a) (kd : Rd PerK 28 w vd d) (kr : Rd StrK 9 w vr r) :
    Calls Tryz.prog 12 #[.agg #[str [83, 69, 76, 69, 67, 84], str t, vc, vk, vv, vs, .int .i64 (pa : Int), .int .i64 (pz : Int), vw, vq, vo, va, vd, vr]] w (fun e w' => e = .returned (str (selT q qs o a d r)) ∧ Ext w w') := by
  have HE : Hid (Ext w (w.alloc (.cells #[str [83, 69, 76, 69, 67, 84], str t, vc, vk, vv, vs, .int .i64 (pa : Int), .int .i64 (pz : Int), vw, vq, vo, va, vd, vr] 33))) := Lib.hid ((Ext.refl w).alloc _)
  have HC := Lib.hid (selectText_ok q qs o a d r hq hl ha hd hsz (str [83, 69, 76, 69, 67, 84]) (str t) vc vk vv vs (.int .i64 (pa : Int)) (.int .i64 (pz : Int)) vw vq vo va vd vr (w.alloc (.cells #[str [83, 69, 76, 69, 67, 84], str t, vc, vk, vv, vs, .int .i64 (pa : Int), .int .i64 (pz : Int), vw, vq, vo, va, vd, vr] 33)) (hg.ext HE.out) (kq.ext HE.out) (ko.ext HE.out) (ka.ext HE.out) (kd.ext HE.out) (kr.ext HE.out))
  have hbs := bs_toList
  clear hq hl ha hd hsz hg kq ko ka kd kr
  go_enter Tryz.func12, Tryz.ntmps12
  go_wp2_with fail
  refine HC.out.mono ?_
  rintro e w2 ⟨rfl, hE2⟩
  have HE2 := Lib.hid (HE.out.trans hE2)
  clear hE2
  go_wp2
  go_ret
  exact ⟨rfl, HE2.out⟩
theorem pfin {P : Program} {f : FuncId} {args : Array Value} {w : World} {s s' : Str} (h : Calls P f args w (fun e w' => e = .returned (str s) ∧ Ext w w')) (he : s' = s) : Calls P f args w (fun e w' => e = .returned (str s') ∧ Ext w w') := by rw [he]; exact h
/-- parse.Print at a statement that was read. -/
theorem Print_ok (x : St) (hx : WfS x) (hs : szS x ≤ 100000000) (v : StV) (w : World) (hg : Gl w) (h : StOk w (fun _ => True) x v) :
    Calls Tryz.prog 12 #[.agg (stCells x v).toArray] w (fun e w' => e = .returned (str (printT x)) ∧ Ext w w') := by
  obtain ⟨u0, u1, u2, u3, u4, u5, u6, u7, u8, u9⟩ := v
  have nm : ∀ {t : Str}, NameOk t → t.length ≤ 1000000 := fun h => by have := h.2.2; omega
  cases hx with
  | create t l k ht hn hl hk =>
    have hs' : sumL szC l ≤ 100000000 ∧ sumL szN k ≤ 100000000 := by simp only [szS, St.none, sumL_nil] at hs; omega
    cases k with
    | nil =>
      exact pfin (print_create_none t l 0 0 u0 u1 u2 u3 u4 u5 u6 u7 u8 u9 w hg (nm ht) hs'.1 h.col.rd h.key.rd) (by simp [printT, St.none])
    | cons a k =>
      exact pfin (print_create_keys t l (a :: k) 0 0 u0 u1 u2 u3 u4 u5 u6 u7 u8 u9 w hg (nm ht) hs'.1 hs'.2 (by simp) h.col.rd h.key.rd) (by simp [printT, St.none])
  | index t ht =>
    exact pfin (print_index t 0 0 u0 u1 u2 u3 u4 u5 u6 u7 u8 u9 w hg (nm ht)) (by simp [printT, St.none])
  | insert t l p ht hn hl hp =>
    obtain ⟨pa, pz⟩ := p
    have hs' : sumL szX l ≤ 100000000 := by simp only [szS, St.none, sumL_nil] at hs; omega
    exact pfin (print_insert t l pa pz u0 u1 u2 u3 u4 u5 u6 u7 u8 u9 w hg (nm ht) hs' (fun e he => (hl e he).1) hp h.val.rd) (by simp [printT, St.none])
  | update t l p c ht hn hl hp hc =>
    obtain ⟨pa, pz⟩ := p
    have hs' : sumL szT l ≤ 100000000 ∧ sumL szX c ≤ 100000000 := by simp only [szS, St.none, sumL_nil] at hs; omega
    exact pfin (print_update t l c pa pz u0 u1 u2 u3 u4 u5 u6 u7 u8 u9 w hg (nm ht) hs'.1 (fun e he => (hl e he).2.1) h.set.rd hs'.2 hc hp h.cond.rd) (by simp [printT, St.none])
  | delete t p c ht hp hc =>
    obtain ⟨pa, pz⟩ := p
    have hs' : sumL szX c ≤ 100000000 := by simp only [szS, St.none, sumL_nil] at hs; omega
    exact pfin (print_delete t c pa pz u0 u1 u2 u3 u4 u5 u6 u7 u8 u9 w hg (nm ht) hs' hc hp h.cond.rd) (by simp [printT, St.none])
  | word k hk =>
    simp only [List.mem_cons, List.not_mem_nil, or_false] at hk
    rcases hk with rfl | rfl | rfl
    · exact print_begin [] 0 0 u0 u1 u2 u3 u4 u5 u6 u7 u8 u9 w hg (by simp)
    · exact print_commit [] 0 0 u0 u1 u2 u3 u4 u5 u6 u7 u8 u9 w hg (by simp)
    · exact print_rollback [] 0 0 u0 u1 u2 u3 u4 u5 u6 u7 u8 u9 w hg (by simp)
  | select q qs o a d r hq hqs hl ho ha hd hr =>
    have hs' : sumL szQ (q :: qs) + sumL szN o + sumL (fun _ => 50) a + sumL (fun _ => 50) d + sumL szN r ≤ 100000000 := by simp only [szS, St.none, sumL_nil] at hs; omega
    have := print_select q qs o a d r (fun p hp => by rcases List.mem_cons.1 hp with rfl | hp; exact hq; exact hqs p hp) hl ha.2 hd.2 hs' [] 0 0 u0 u1 u2 u3 u4 u5 u6 u7 u8 u9 w hg h.qu.rd h.op.rd h.asof.rd h.dur.rd h.ord.rd
    have he : printT { St.none with kind := [83, 69, 76, 69, 67, 84], query := q :: qs, ops := o, asOf := a, during := d, order := r } = selT q qs o a d r := by
      simp only [printT, selectT, selT, selQ, flatD, List.drop_zero, if_true, asT, duT, orT, List.append_assoc]
      rfl
    rw [he]
    exact this
end Go.Proofs.YtkhnpmeohjafiaaGreatDoor
namespace Go.Proofs.YtkhnpmeohjafiaaGreatDoor
open Go.RowKit

def awX : St := { St.none with kind := [83, 69, 76, 69, 67, 84], query := [⟨false, false, false, [], [eName [65] []], [[84]], [eTwo [61] (eName [65] []) (eTwo [43] (eNum 1) (eTwo [42] (eNum 2) (eNum 3)))]⟩] }
theorem aw1 : parseOf [115, 101, 108, 101, 99, 116, 32, 97, 32, 102, 114, 111, 109, 32, 116, 32, 119, 104, 101, 114, 101, 32, 97, 32, 61, 32, 49, 32, 43, 32, 50, 32, 42, 32, 51] = .inr awX := by kernel_rfl
theorem aw2 : parseOf [115, 101, 108, 101, 99, 116, 32, 97, 32, 102, 114, 111, 109, 32, 116, 32, 119, 104, 101, 114, 101] = .inl (150, 21) := by kernel_rfl
theorem aw3 : printT awX = [83, 69, 76, 69, 67, 84, 32, 65, 32, 70, 82, 79, 77, 32, 84, 32, 87, 72, 69, 82, 69, 32, 65, 32, 61, 32, 49, 32, 43, 32, 50, 32, 42, 32, 51] := by kernel_rfl
set_option maxRecDepth 100000 in
set_option maxHeartbeats 16000000 in
theorem awake_ok (w : World) (hg : Gl w) : Calls Tryz.prog 8 #[] w (fun e w' => e = .returned (.bool true) ∧ Ext w w') := by
  have HG := Lib.hid hg
  have hbs := bs_toList
  clear hg
  go_enter Tryz.func8, Tryz.ntmps8
  go_wp2_with fail
  refine (Parse_ok [115, 101, 108, 101, 99, 116, 32, 97, 32, 102, 114, 111, 109, 32, 116, 32, 119, 104, 101, 114, 101, 32, 97, 32, 61, 32, 49, 32, 43, 32, 50, 32, 42, 32, 51] _ (by decide)).mono ?_
  rintro e w1 ⟨hE1, hp⟩
  rw [aw1] at hp
  obtain ⟨v, rfl, hok⟩ := hp
  have HX := Lib.hid hok
  have HE1 := Lib.hid hE1
  obtain ⟨u0, u1, u2, u3, u4, u5, u6, u7, u8, u9⟩ := v
  obtain ⟨g1, c1, e1⟩ := hok.col.slice
  obtain ⟨g2, c2, e2⟩ := hok.key.slice
  obtain ⟨g3, c3, e3⟩ := hok.val.slice
  obtain ⟨g4, c4, e4⟩ := hok.set.slice
  obtain ⟨g5, c5, e5⟩ := hok.cond.slice
  obtain ⟨g6, c6, e6⟩ := hok.qu.slice
  obtain ⟨g7, c7, e7⟩ := hok.op.slice
  obtain ⟨g8, c8, e8⟩ := hok.asof.slice
  obtain ⟨g9, c9, e9⟩ := hok.dur.slice
  obtain ⟨g10, c10, e10⟩ := hok.ord.slice
  simp only at e1 e2 e3 e4 e5 e6 e7 e8 e9 e10
  subst e1 e2 e3 e4 e5 e6 e7 e8 e9 e10
  clear hok hE1
  rw [show (stCells awX ⟨slv g1 awX.columns.length c1, slv g2 awX.keys.length c2, slv g3 awX.values.length c3, slv g4 awX.sets.length c4, slv g5 awX.cond.length c5, slv g6 awX.query.length c6, slv g7 awX.ops.length c7, slv g8 awX.asOf.length c8, slv g9 awX.during.length c9, slv g10 awX.order.length c10⟩).toArray = #[str [83, 69, 76, 69, 67, 84], str [], slv g1 0 c1, slv g2 0 c2, slv g3 0 c3, slv g4 0 c4, .int .i64 0, .int .i64 0, slv g5 0 c5, slv g6 1 c6, slv g7 0 c7, slv g8 0 c8, slv g9 0 c9, slv g10 0 c10] from rfl]
  go_wp2_with fail
  have HU : Hid (Ext w1 ((w1.alloc (.cells #[str [83, 69, 76, 69, 67, 84], str [], slv g1 0 c1, slv g2 0 c2, slv g3 0 c3, slv g4 0 c4, .int .i64 0, .int .i64 0, slv g5 0 c5, slv g6 1 c6, slv g7 0 c7, slv g8 0 c8, slv g9 0 c9, slv g10 0 c10] 33)).alloc (.cells #[.int .i64 0, .int .i64 0] 36))) := Lib.hid (((Ext.refl w1).alloc _).alloc _)
  have HB1 : Hid (((w1.alloc (.cells #[str [83, 69, 76, 69, 67, 84], str [], slv g1 0 c1, slv g2 0 c2, slv g3 0 c3, slv g4 0 c4, .int .i64 0, .int .i64 0, slv g5 0 c5, slv g6 1 c6, slv g7 0 c7, slv g8 0 c8, slv g9 0 c9, slv g10 0 c10] 33)).alloc (.cells #[.int .i64 0, .int .i64 0] 36)).heap[w1.heap.size]? = some (.cells #[str [83, 69, 76, 69, 67, 84], str [], slv g1 0 c1, slv g2 0 c2, slv g3 0 c3, slv g4 0 c4, .int .i64 0, .int .i64 0, slv g5 0 c5, slv g6 1 c6, slv g7 0 c7, slv g8 0 c8, slv g9 0 c9, slv g10 0 c10] 33 (0, 0))) := Lib.hid (blk_alloc (blk_new _ _))
  have HB2 : Hid (((w1.alloc (.cells #[str [83, 69, 76, 69, 67, 84], str [], slv g1 0 c1, slv g2 0 c2, slv g3 0 c3, slv g4 0 c4, .int .i64 0, .int .i64 0, slv g5 0 c5, slv g6 1 c6, slv g7 0 c7, slv g8 0 c8, slv g9 0 c9, slv g10 0 c10] 33)).alloc (.cells #[.int .i64 0, .int .i64 0] 36)).heap[w1.heap.size + 1]? = some (.cells #[.int .i64 0, .int .i64 0] 36 (0, 0))) := Lib.hid (blk_new_at _ (by simp))
  refine (Parse_ok [115, 101, 108, 101, 99, 116, 32, 97, 32, 102, 114, 111, 109, 32, 116, 32, 119, 104, 101, 114, 101] ((w1.alloc (.cells #[str [83, 69, 76, 69, 67, 84], str [], slv g1 0 c1, slv g2 0 c2, slv g3 0 c3, slv g4 0 c4, .int .i64 0, .int .i64 0, slv g5 0 c5, slv g6 1 c6, slv g7 0 c7, slv g8 0 c8, slv g9 0 c9, slv g10 0 c10] 33)).alloc (.cells #[.int .i64 0, .int .i64 0] 36)) (by decide)).mono ?_
  rintro e w2 ⟨hE2, hp⟩
  rw [aw2] at hp
  obtain rfl := hp
  obtain ⟨a0, a1, a2, a3, a4, a5, a6, a7, a8, a9, a10, a11, a12, a13⟩ := blk14 (Ext.block hE2 HB1.out)
  obtain ⟨b0, b1⟩ := blk2 (Ext.block hE2 HB2.out)
  have HE2 := Lib.hid (HU.out.trans hE2)
  have la : w1.heap.size < w2.heap.size := blk_lt (Ext.block hE2 HB1.out)
  have lb : w1.heap.size + 1 < w2.heap.size := blk_lt (Ext.block hE2 HB2.out)
  clear hE2
  go_wp2_with fail
  have HV : Hid (Ext w2 ((w2.alloc (.cells zStL.toArray 33)).alloc (.cells #[.int .i64 150, .int .i64 21] 36))) := Lib.hid (((Ext.refl w2).alloc _).alloc _)
  have HD1 : Hid (((w2.alloc (.cells zStL.toArray 33)).alloc (.cells #[.int .i64 150, .int .i64 21] 36)).heap[w2.heap.size]? = some (.cells zStL.toArray 33 (0, 0))) := Lib.hid (blk_alloc (blk_new _ _))
  have HD2 : Hid (((w2.alloc (.cells zStL.toArray 33)).alloc (.cells #[.int .i64 150, .int .i64 21] 36)).heap[w2.heap.size + 1]? = some (.cells #[.int .i64 150, .int .i64 21] 36 (0, 0))) := Lib.hid (blk_new_at _ (by simp))
  refine (Print_ok awX (parse_wf aw1) (parse_sz aw1) _ ((w2.alloc (.cells zStL.toArray 33)).alloc (.cells #[.int .i64 150, .int .i64 21] 36)) (HG.out.ext (HE1.out.trans (HE2.out.trans HV.out))) (HX.out.keep (A' := fun _ => True) (fun b hb _ => ⟨Below.block (HE2.out.trans HV.out) b hb, trivial⟩))).mono ?_
  rintro e w3 ⟨rfl, hE3⟩
  rw [aw3]
  obtain ⟨k0, k1, k2, k3, k4, k5, k6, k7, k8, k9, k10, k11, k12, k13⟩ := blk14 (Ext.block hE3 HD1.out)
  obtain ⟨m0, m1⟩ := blk2 (Ext.block hE3 HD2.out)
  have HE3 := Lib.hid (HE1.out.trans (HE2.out.trans (HV.out.trans hE3)))
  clear hE3 a0 a1 a2 a3 a4 a5 a6 a7 a8 a9 a10 a11 a12 a13 b0 b1
  go_wp2
  go_ret
  exact ⟨rfl, HE3.out⟩
end Go.Proofs.YtkhnpmeohjafiaaGreatDoor
