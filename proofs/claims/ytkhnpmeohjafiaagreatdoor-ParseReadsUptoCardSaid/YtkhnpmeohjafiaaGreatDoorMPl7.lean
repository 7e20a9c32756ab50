/- Lemmas. -/
import Derived.Test.YtkhnpmeohjafiaaGreatDoorMU
set_option maxHeartbeats 16000000
set_option maxRecDepth 100000
namespace Go.Proofs.YtkhnpmeohjafiaaGreatDoor
open Go.RowKit
def PlI (q : Qu) : Prop := ∃ l t wh, q = ⟨false, false, false, [], l, t, wh⟩ ∧ ∀ e ∈ l, WfE e
theorem queryText_lt (q : Qu) (hq : GQ q ∧ PlI q) (hsz : szQ q ≤ 100000000) (cs : List Value) (w : World) (hg : Gl w) (h : QuC w (fun _ => True) cs q) :
  Calls Tryz.prog 82 #[.agg cs.toArray] w (fun r w' => r = .returned (str (queryT q)) ∧ Ext w w') := by
 obtain ⟨⟨-, ht, hc⟩, l, t, wh, rfl, hl⟩ := hq
 exact query_items_f t wh l cs w hg ht hc hl hsz h
theorem selectText_lt (q : Qu) (qs : List Qu) (o : List Str) (a : List Nat) (d : List (Nat × Nat)) (r : List Str) (hq : ∀ p ∈ q :: qs, GQ p ∧ PlI p) (hl : o.length = qs.length)
  (ha : ∀ n ∈ a, n < 1000000000000000000) (hd : ∀ p ∈ d, PerOk p) (hsz : sumL szQ (q :: qs) + sumL szN o + sumL (fun _ => 50) a + sumL (fun _ => 50) d + sumL szN r ≤ 100000000)
  (c0 c1 c2 c3 c4 c5 c6 c7 c8 vq vo va vd vr : Value) (w : World) (hg : Gl w) (kq : Rd QuK 49 w vq (q :: qs)) (ko : Rd StrK 9 w vo o) (ka : Rd NumK 2 w va a) (kd : Rd PerK 28 w vd d) (kr : Rd StrK 9 w vr r) :
  Calls Tryz.prog 38 #[.agg #[c0, c1, c2, c3, c4, c5, c6, c7, c8, vq, vo, va, vd, vr]] w (fun e w' => e = .returned (str (selT q qs o a d r)) ∧ Ext w w') := by
 have HQ := Lib.hid kq
 have HO := Lib.hid ko
 have HA := Lib.hid ka
 have HD := Lib.hid kd
 have HR := Lib.hid kr
 have HG := Lib.hid hg
 have HQG := Lib.hid hq
 have HAO := Lib.hid ha
 have HDO := Lib.hid hd
 have HSZ := Lib.hid hsz
 have HL := Lib.hid hl
 obtain ⟨gq, cq, rfl⟩ := kq.slice
 obtain ⟨go, co, rfl⟩ := ko.slice
 obtain ⟨ga, ca, rfl⟩ := ka.slice
 obtain ⟨gd, cd, rfl⟩ := kd.slice
 obtain ⟨gr, cr, rfl⟩ := kr.slice
 have hnq : qs.length + 1 ≤ 100000000 := by
  have h1 := sum_len (m := szQ) (fun x => by unfold szQ; omega) (q :: qs)
  simp at h1; omega
 have hna : a.length ≤ 100000000 := by have h1 := sum_len (m := fun _ : Nat => 50) (fun x => by omega) a; omega
 have hnd : d.length ≤ 100000000 := by have h1 := sum_len (m := fun _ : Nat × Nat => 50) (fun x => by omega) d; omega
 obtain ⟨tot, htot⟩ : ∃ t, t = selT q qs o a d r := ⟨_, rfl⟩
 have HTOT := Lib.hid htot
 have HTL : Hid (tot.length ≤ 1000000000) := Lib.hid (by
  have h1 := queryT_len (hq q (by simp)).1
  have h2 := moreT_len o qs fun p hp => (hq p (by simp [hp])).1
  have h3 := flat_len (f := asT) (l := a) fun n hn => by have := dec18 (ha n hn); simp [asT]; omega
  have h4 := flat_len (f := duT) (l := d) fun p hp => by have := span_len (hd p hp); simp [duT]; omega
  have h5 : (orT r).length ≤ sumL szN r + 10 := by
    have := tabs_len (l := r)
    unfold orT
    split <;> simp <;> omega
  rw [htot]
  rw [sumL_cons] at hsz
  simp only [selT, selQ, flatD, List.drop_zero, if_true, List.length_append]
  omega)
 rw [← htot]
 have hlq : ((qs.length + 1 : Nat) : Int) = (q :: qs).length := rfl
 clear kq ko ka kd kr hg hq ha hd hsz htot hl
 rw [show slv gq (q :: qs).length cq = slv gq (qs.length + 1) cq from rfl]
 have HS0 := Lib.hid (SelW.start w #[c0, c1, c2, c3, c4, c5, c6, c7, c8, slv gq (qs.length + 1) cq, slv go o.length co, slv ga a.length ca, slv gd d.length cd, slv gr r.length cr])
 clear hlq
 go_enter Tryz.func38, Tryz.ntmps38
 go_wp2
 go_loopg [13] (qs.length + 1) (fun gk v13 wr => ∃ (j : Nat) (acc : Str), j + gk = qs.length + 1 ∧ v13 = .int .i64 (j : Int) ∧ SelW w #[c0, c1, c2, c3, c4, c5, c6, c7, c8, slv gq (qs.length + 1) cq, slv go o.length co, slv ga a.length ca, slv gd d.length cd, slv gr r.length cr] acc wr ∧ tot = acc ++ (selQ q qs o j ++ (flatD asT a 0 ++ (flatD duT d 0 ++ orT r))))
 case atStart => exact ⟨0, [], by omega, rfl, HS0.out, HTOT.out⟩
 case round =>
  obtain ⟨j, acc, hjk, rfl, hS, hT⟩ := hrel
  have HJK := Lib.hid hjk
  have HS := Lib.hid hS
  have HT := Lib.hid hT
  obtain ⟨a0, a1, a2, a3, a4, a5, a6, a7, a8, a9, a10, a11, a12, a13⟩ := blk14 hS.box
  clear hjk hS hT
  by_cases hj : j < qs.length + 1
  · obtain ⟨x, hx⟩ : ∃ x, (q :: qs)[j]? = some x := ⟨_, List.getElem?_eq_getElem (by simpa using hj)⟩
    obtain ⟨gx, cx, bx, csx, hvx, hgx, hlx, hcx, hccx⟩ := HQ.out.at hx
    obtain ⟨rfl, rfl⟩ := slv_inj hvx
    have HCX := Lib.hid hcx
    have HX := Lib.hid (List.mem_of_getElem? hx)
    have HXJ := Lib.hid hx
    obtain ⟨vi, vt, vc, rfl, xa, xb, xd⟩ := hcx
    obtain ⟨gi, ci, ei⟩ := xa.rd.slice
    obtain ⟨gt, ct, et⟩ := xb.rd.slice
    obtain ⟨gc, cc, ec⟩ := xd.rd.slice
    subst ei et ec
    have d0 : wr.cell? ⟨bx, j * 7, none⟩ = some (.bool x.coalesce) := Ext.cell HS.out.ext (hccx 0 (by decide) _ rfl)
    have d1 : wr.cell? ⟨bx, j * 7 + 1, none⟩ = some (.bool x.all) := Ext.cell HS.out.ext (hccx 1 (by decide) _ rfl)
    have d2 : wr.cell? ⟨bx, j * 7 + 2, none⟩ = some (.bool x.count) := Ext.cell HS.out.ext (hccx 2 (by decide) _ rfl)
    have d3 : wr.cell? ⟨bx, j * 7 + 3, none⟩ = some (str x.sum) := Ext.cell HS.out.ext (hccx 3 (by decide) _ rfl)
    have d4 : wr.cell? ⟨bx, j * 7 + 4, none⟩ = some (slv gi x.items.length ci) := Ext.cell HS.out.ext (hccx 4 (by decide) _ rfl)
    have d5 : wr.cell? ⟨bx, j * 7 + 5, none⟩ = some (slv gt x.tables.length ct) := Ext.cell HS.out.ext (hccx 5 (by decide) _ rfl)
    have d6 : wr.cell? ⟨bx, j * 7 + 6, none⟩ = some (slv gc x.cond.length cc) := Ext.cell HS.out.ext (hccx 6 (by decide) _ rfl)
    have z1 : ∀ u : World, (Instr.indexAt 29 (slv gq (qs.length + 1) cq) (.int .i64 (j : Int))).run Tryz.prog u = .ok (.pointer (some ⟨bx, j * 7, none⟩)) u := fun u => run_index_slv ei_qu (n := qs.length + 1) (cap := cq) hgx hj u
    have HSX : Hid (szQ x ≤ 100000000) := Lib.hid (by have h1 := mem_sum (m := szQ) HX.out; have := HSZ.out; omega)
    have la : w.heap.size < wr.heap.size := by have := HS.out.size; omega
    clear hx hvx hgx hlx hccx xa xb xd
    by_cases hj0 : 0 < j
    · obtain ⟨k, hk⟩ : ∃ k, j = k + 1 := ⟨j - 1, by omega⟩
      have HK := Lib.hid hk
      have hko : k < o.length := by have := HL.out; omega
      obtain ⟨s, hs⟩ : ∃ s, o[k]? = some s := ⟨_, List.getElem?_eq_getElem hko⟩
      obtain ⟨gy, cy, by', csy, hvy, hgy, hly, hcy, hccy⟩ := HO.out.at hs
      obtain ⟨rfl, rfl⟩ := slv_inj hvy
      obtain rfl : csy = [str s] := hcy
      have e0 : wr.cell? ⟨by', k, none⟩ = some (str s) := by have := Ext.cell HS.out.ext (hccy 0 (by decide) (str s) rfl); simpa [StrK] using this
      have z2 : ∀ u : World, (Instr.indexAt 24 (slv go o.length co) (.int .i64 (k : Int))).run Tryz.prog u = .ok (.pointer (some ⟨by', k, none⟩)) u := fun u => by
        have := run_index_slv ei_str (cap := co) hgy hko u
        rwa [Nat.mul_one] at this
      have lb : by' < wr.heap.size := by have := HS.out.ext.size; omega
      have hjo : j ≤ o.length := by omega
      have hw : IntKind.i64.wrap ((j : Int) - 1) = (k : Int) := by rw [IntKind.wrap_i64]; omega
      have HSO := Lib.hid hs
      have HST : Hid (tot = acc ++ ((([32] ++ s ++ [32]) ++ queryT x) ++ (selQ q qs o (j + 1) ++ (flatD asT a 0 ++ (flatD duT d 0 ++ orT r))))) := Lib.hid (by
        have h1 := HXJ.out
        rw [hk, List.getElem?_cons_succ] at h1
        have h2 := HT.out
        rw [hk, selQ_step hs h1] at h2
        rw [hk, h2]
        simp only [List.append_assoc])
      obtain ⟨s5, h5⟩ : ∃ t : Str, t = [32] ++ s := ⟨_, rfl⟩
      obtain ⟨s6, h6⟩ : ∃ t : Str, t = s5 ++ [32] := ⟨_, rfl⟩
      have hle : (acc ++ s6).length ≤ 1000000000 ∧ ((acc ++ s6) ++ queryT x).length ≤ 1000000000 ∧ s.length ≤ 1000000000 := by
        have h1 := HTL.out
        rw [HST.out] at h1
        rw [h6, h5]
        simp only [List.length_append, List.length_cons, List.length_nil] at h1 ⊢
        omega
      have hc1 : ∀ u : World, (Op.stringOp .add ⟨#[32]⟩ (bs s)).run Tryz.prog u = .ok (str s5) u := fun u => by rw [h5]; exact cat_ok [32] s u (by simp; omega)
      have hc2 : ∀ u : World, (Op.stringOp .add (bs s5) ⟨#[32]⟩).run Tryz.prog u = .ok (str s6) u := fun u => by rw [h6]; exact cat_ok s5 [32] u (by rw [h5]; simp; omega)
      have HLE := Lib.hid hle
      have HSF : Hid (tot = ((acc ++ s6) ++ queryT x) ++ (selQ q qs o (j + 1) ++ (flatD asT a 0 ++ (flatD duT d 0 ++ orT r)))) := Lib.hid (by rw [HST.out, h6, h5]; simp only [List.append_assoc])
      clear hk hs hvy hgy hly hccy h5 h6 hle
      go_wp2_with fail
      have HS1 : Hid (SelW w #[c0, c1, c2, c3, c4, c5, c6, c7, c8, slv gq (qs.length + 1) cq, slv go o.length co, slv ga a.length ca, slv gd d.length cd, slv gr r.length cr] acc (wr.alloc (.cells #[.bool x.coalesce, .bool x.all, .bool x.count, str x.sum, slv gi x.items.length ci, slv gt x.tables.length ct, slv gc x.cond.length cc] 49))) := Lib.hid (HS.out.step ((Ext.refl wr).alloc _))
      refine (HS1.out.write s6 HLE.out.1).mono ?_
      rintro e w2 ⟨⟨ev, rfl⟩, hS2, hK2⟩
      have HS2 := Lib.hid hS2
      obtain ⟨b0, b1, b2, b3, b4, b5, b6⟩ := blk7 (hK2 wr.heap.size _ (blk_new wr (.cells #[.bool x.coalesce, .bool x.all, .bool x.count, str x.sum, slv gi x.items.length ci, slv gt x.tables.length ct, slv gc x.cond.length cc] 49)) (by have := HS.out.size; simp; omega) (by intro c fz h; cases h))
      clear hS2 hK2 d0 d1 d2 d3 d4 d5 d6 z1 e0 z2 a0 a1 a2 a3 a4 a5 a6 a7 a8 a9 a10 a11 a12 a13
      go_wp2_with fail
      refine (queryText_lt x (HQG.out x HX.out) HSX.out _ _ (HG.out.ext HS2.out.ext) (QuK.keep (fun b hb ha => ⟨Below.block HS2.out.ext b hb, ha⟩) _ _ HCX.out)).mono ?_
      rintro e w3 ⟨rfl, hE3⟩
      have HS3 := Lib.hid (HS2.out.step hE3)
      clear hE3 b0 b1 b2 b3 b4 b5 b6
      go_wp2_with fail
      refine (HS3.out.write (queryT x) HLE.out.2.1).mono ?_
      rintro e w4 ⟨⟨ev, rfl⟩, hS4, -⟩
      have HS4 := Lib.hid hS4
      clear hS4
      go_wp2
      go_roundg (gk - 1)
      case measure => have := HJK.out; omega
      case rel => exact ⟨j + 1, (acc ++ s6) ++ queryT x, by have := HJK.out; omega, by go_num, HS4.out, HSF.out⟩
    · have HJ0 := Lib.hid hj0
      go_wp2_with fail
      refine (queryText_lt x (HQG.out x HX.out) HSX.out _ _ (HG.out.ext (HS.out.ext.trans ((Ext.refl wr).alloc _))) (QuK.keep (fun b hb ha => ⟨Below.block (HS.out.ext.trans ((Ext.refl wr).alloc _)) b hb, ha⟩) _ _ HCX.out)).mono ?_
      rintro e w2 ⟨rfl, hE2⟩
      have HS2 := Lib.hid ((HS.out.step ((Ext.refl wr).alloc _)).step hE2)
      clear hE2 d0 d1 d2 d3 d4 d5 d6 z1
      have hj00 : j = 0 := by omega
      have HSF : Hid (tot = (acc ++ queryT x) ++ (selQ q qs o (j + 1) ++ (flatD asT a 0 ++ (flatD duT d 0 ++ orT r)))) := Lib.hid (by
        have h1 := HXJ.out
        rw [hj00] at h1
        simp at h1
        have h2 := HT.out
        rw [hj00] at h2 ⊢
        rw [h2, h1]
        simp [selQ])
      clear hj00
      go_wp2_with fail
      refine (HS2.out.write (queryT x) (by have h1 := HTL.out; rw [HSF.out] at h1; rw [List.length_append] at h1; omega)).mono ?_
      rintro e w3 ⟨⟨ev, rfl⟩, hS3, -⟩
      have HS3 := Lib.hid hS3
      clear hS3
      go_wp2
      go_roundg (gk - 1)
      case measure => have := HJK.out; omega
      case rel => exact ⟨j + 1, acc ++ queryT x, by have := HJK.out; omega, by go_num, HS3.out, HSF.out⟩
  · have HT1 : Hid (tot = acc ++ (flatD asT a 0 ++ (flatD duT d 0 ++ orT r))) := Lib.hid (by
      have h1 := HT.out
      rw [selQ_end (by have := HJK.out; omega) HL.out] at h1
      exact h1)
    go_wp2
    go_loopg [43] a.length (fun gk v43 wr => ∃ (j : Nat) (acc : Str), j + gk = a.length ∧ v43 = .int .i64 (j : Int) ∧ SelW w #[c0, c1, c2, c3, c4, c5, c6, c7, c8, slv gq (qs.length + 1) cq, slv go o.length co, slv ga a.length ca, slv gd d.length cd, slv gr r.length cr] acc wr ∧ tot = acc ++ (flatD asT a j ++ (flatD duT d 0 ++ orT r)))
    case atStart => exact ⟨0, acc, by omega, rfl, HS.out, HT1.out⟩
    case round =>
      clear HT1 HT HS a0 a1 a2 a3 a4 a5 a6 a7 a8 a9 a10 a11 a12 a13 HJK hj
      obtain ⟨j, acc, hjk, rfl, hS, hT⟩ := hrel
      have HJK := Lib.hid hjk
      have HS := Lib.hid hS
      have HT := Lib.hid hT
      obtain ⟨a0, a1, a2, a3, a4, a5, a6, a7, a8, a9, a10, a11, a12, a13⟩ := blk14 hS.box
      clear hjk hS hT
      by_cases hj : j < a.length
      · obtain ⟨x, hx⟩ : ∃ x, a[j]? = some x := ⟨_, List.getElem?_eq_getElem hj⟩
        obtain ⟨gx, cx, bx, csx, hvx, hgx, hlx, hcx, hccx⟩ := HA.out.at hx
        obtain ⟨rfl, rfl⟩ := slv_inj hvx
        obtain rfl : csx = [.int .i64 (x : Int)] := hcx
        have d0 : wr.cell? ⟨bx, j, none⟩ = some (.int .i64 (x : Int)) := by have := Ext.cell HS.out.ext (hccx 0 (by decide) _ rfl); simpa [NumK] using this
        have z1 : ∀ u : World, (Instr.indexAt 30 (slv ga a.length ca) (.int .i64 (j : Int))).run Tryz.prog u = .ok (.pointer (some ⟨bx, j, none⟩)) u := fun u => by
         have := run_index_slv ei_num (cap := ca) hgx hj u
         rwa [Nat.mul_one] at this
        have HX := Lib.hid (HAO.out x (List.mem_of_getElem? hx))
        have HSF : Hid (tot = (acc ++ asT x) ++ (flatD asT a (j + 1) ++ (flatD duT d 0 ++ orT r))) := Lib.hid (by
         have h1 := HT.out
         rw [flatD_step hx] at h1
         rw [h1]; simp only [List.append_assoc])
        obtain ⟨s6, h6⟩ : ∃ t : Str, t = asT x := ⟨_, rfl⟩
        have hle : (acc ++ s6).length ≤ 1000000000 := by
         have h1 := HTL.out
         rw [HSF.out, ← h6, List.length_append] at h1
         omega
        have hc1 : ∀ u : World, (Op.stringOp .add ⟨#[32, 65, 83, 32, 79, 70, 32]⟩ (bs (dec x))).run Tryz.prog u = .ok (str s6) u := fun u => by rw [h6]; exact cat_ok [32, 65, 83, 32, 79, 70, 32] _ u (by have := dec18 HX.out; simp; omega)
        have HLE := Lib.hid hle
        rw [← h6] at HSF
        clear hx hvx hgx hlx hccx h6 hle
        go_wp2_with fail
        refine (format_ok x _ (by have := HX.out; omega) (HG.out.ext HS.out.ext)).mono ?_
        rintro e w2 ⟨rfl, hE2⟩
        have HS2 := Lib.hid (HS.out.step hE2)
        clear hE2 d0 z1
        go_wp2_with fail
        refine (HS2.out.write s6 HLE.out).mono ?_
        rintro e w3 ⟨⟨ev, rfl⟩, hS3, -⟩
        have HS3 := Lib.hid hS3
        clear hS3
        go_wp2
        go_roundg (gk - 1)
        case measure => have := HJK.out; omega
        case rel => exact ⟨j + 1, acc ++ s6, by have := HJK.out; omega, by go_num, HS3.out, HSF.out⟩
      · have HT1 : Hid (tot = acc ++ (flatD duT d 0 ++ orT r)) := Lib.hid (by
         have h1 := HT.out
         rw [flatD_end (by omega)] at h1
         exact h1)
        go_wp2
        go_loopg [55] d.length (fun gk v55 wr => ∃ (j : Nat) (acc : Str), j + gk = d.length ∧ v55 = .int .i64 (j : Int) ∧ SelW w #[c0, c1, c2, c3, c4, c5, c6, c7, c8, slv gq (qs.length + 1) cq, slv go o.length co, slv ga a.length ca, slv gd d.length cd, slv gr r.length cr] acc wr ∧ tot = acc ++ (flatD duT d j ++ orT r))
        case atStart => exact ⟨0, acc, by omega, rfl, HS.out, HT1.out⟩
        case round =>
         clear HT1 HT HS a0 a1 a2 a3 a4 a5 a6 a7 a8 a9 a10 a11 a12 a13 HJK hj
         obtain ⟨j, acc, hjk, rfl, hS, hT⟩ := hrel
         have HJK := Lib.hid hjk
         have HS := Lib.hid hS
         have HT := Lib.hid hT
         obtain ⟨a0, a1, a2, a3, a4, a5, a6, a7, a8, a9, a10, a11, a12, a13⟩ := blk14 hS.box
         clear hjk hS hT
         by_cases hj : j < d.length
         · obtain ⟨x, hx⟩ : ∃ x, d[j]? = some x := ⟨_, List.getElem?_eq_getElem hj⟩
           obtain ⟨gx, cx, bx, csx, hvx, hgx, hlx, hcx, hccx⟩ := HD.out.at hx
           obtain ⟨rfl, rfl⟩ := slv_inj hvx
           have HX := Lib.hid (HDO.out x (List.mem_of_getElem? hx))
           obtain ⟨pa, pz⟩ := x
           obtain rfl : csx = [.int .i64 (pa : Int), .int .i64 (pz : Int)] := hcx
           have d0 : wr.cell? ⟨bx, j * 2, none⟩ = some (.int .i64 (pa : Int)) := Ext.cell HS.out.ext (hccx 0 (by decide) _ rfl)
           have d1 : wr.cell? ⟨bx, j * 2 + 1, none⟩ = some (.int .i64 (pz : Int)) := Ext.cell HS.out.ext (hccx 1 (by decide) _ rfl)
           have z1 : ∀ u : World, (Instr.indexAt 31 (slv gd d.length cd) (.int .i64 (j : Int))).run Tryz.prog u = .ok (.pointer (some ⟨bx, j * 2, none⟩)) u := fun u => run_index_slv ei_per (cap := cd) hgx hj u
           have HSF : Hid (tot = (acc ++ duT (pa, pz)) ++ (flatD duT d (j + 1) ++ orT r)) := Lib.hid (by
             have h1 := HT.out
             rw [flatD_step hx] at h1
             rw [h1]; simp only [List.append_assoc])
           obtain ⟨s6, h6⟩ : ∃ t : Str, t = duT (pa, pz) := ⟨_, rfl⟩
           have hle : (acc ++ s6).length ≤ 1000000000 := by
             have h1 := HTL.out
             rw [HSF.out, ← h6, List.length_append] at h1
             omega
           have hc1 : ∀ u : World, (Op.stringOp .add ⟨#[32, 68, 85, 82, 73, 78, 71, 32]⟩ (bs (spanT (pa, pz)))).run Tryz.prog u = .ok (str s6) u := fun u => by rw [h6]; exact cat_ok [32, 68, 85, 82, 73, 78, 71, 32] _ u (by have := span_len HX.out; simp; omega)
           have HLE := Lib.hid hle
           rw [← h6] at HSF
           have la : w.heap.size < wr.heap.size := by have := HS.out.size; omega
           clear hx hvx hgx hlx hccx h6 hle
           go_wp2_with fail
           refine (span_ok pa pz (by have := HX.out.1; have := HX.out.2; have hF : FOREVER = 1099511627776 := rfl; simp only at *; omega) (by have := HX.out.2; have hF : FOREVER = 1099511627776 := rfl; simp only at *; omega) _ (HG.out.ext (HS.out.ext.trans ((Ext.refl wr).alloc _)))).mono ?_
           rintro e w2 ⟨rfl, hE2⟩
           have HS2 := Lib.hid ((HS.out.step ((Ext.refl wr).alloc _)).step hE2)
           clear hE2 d0 d1 z1
           go_wp2_with fail
           refine (HS2.out.write s6 HLE.out).mono ?_
           rintro e w3 ⟨⟨ev, rfl⟩, hS3, -⟩
           have HS3 := Lib.hid hS3
           clear hS3
           go_wp2
           go_roundg (gk - 1)
           case measure => have := HJK.out; omega
           case rel => exact ⟨j + 1, acc ++ s6, by have := HJK.out; omega, by go_num, HS3.out, HSF.out⟩
         · have HT1 : Hid (tot = acc ++ orT r) := Lib.hid (by
             have h1 := HT.out
             rw [flatD_end (by omega)] at h1
             exact h1)
           by_cases hr : r = []
           · subst hr
             go_wp2_with fail
             refine HS.out.string.mono ?_
             rintro e w2 ⟨rfl, hE2⟩
             have HE2 := Lib.hid hE2
             have HSF : Hid (tot = acc) := Lib.hid (by rw [HT1.out]; simp [orT])
             clear hE2
             go_wp2
             go_ret
             rw [HSF.out]
             exact ⟨rfl, HE2.out⟩
           · have hrl : 0 < r.length := List.length_pos_iff.2 hr
             have HRN := Lib.hid hr
             clear hr
             go_wp2_with fail
             refine (join_rd r _ _ (HR.out.ext HS.out.ext) (by have := HSZ.out; omega)).mono ?_
             rintro e w2 ⟨rfl, hE2⟩
             have HS2 := Lib.hid (HS.out.step hE2)
             obtain ⟨s6, h6⟩ : ∃ t : Str, t = orT r := ⟨_, rfl⟩
             have hc1 : ∀ u : World, (Op.stringOp .add ⟨#[32, 79, 82, 68, 69, 82, 32, 66, 89, 32]⟩ (bs (joinL [44, 32] r))).run Tryz.prog u = .ok (str s6) u := fun u => by
              rw [h6, show orT r = [32, 79, 82, 68, 69, 82, 32, 66, 89, 32] ++ joinL [44, 32] r by unfold orT; rw [if_neg HRN.out]]
              exact cat_ok [32, 79, 82, 68, 69, 82, 32, 66, 89, 32] _ u (by have := tabs_len (l := r); have := HSZ.out; simp; omega)
             have HSF : Hid (tot = acc ++ s6) := Lib.hid (by rw [HT1.out, h6])
             clear hE2 h6 a0 a1 a2 a3 a4 a5 a6 a7 a8 a9 a10 a11 a12 a13
             go_wp2_with fail
             refine (HS2.out.write s6 (by rw [← HSF.out]; exact HTL.out)).mono ?_
             rintro e w3 ⟨⟨ev, rfl⟩, hS3, -⟩
             have HS3 := Lib.hid hS3
             clear hS3
             go_wp2_with fail
             refine HS3.out.string.mono ?_
             rintro e w4 ⟨rfl, hE4⟩
             have HE4 := Lib.hid hE4
             clear hE4
             go_wp2
             go_ret
             rw [HSF.out]
             exact ⟨rfl, HE4.out⟩
theorem print_lt (q : Qu) (qs : List Qu) (o : List Str) (a : List Nat) (d : List (Nat × Nat)) (r : List Str) (hq : ∀ p ∈ q :: qs, GQ p ∧ PlI p) (hl : o.length = qs.length)
  (ha : ∀ n ∈ a, n < 1000000000000000000) (hd : ∀ p ∈ d, PerOk p) (hsz : sumL szQ (q :: qs) + sumL szN o + sumL (fun _ => 50) a + sumL (fun _ => 50) d + sumL szN r ≤ 100000000)
  (t : Str) (pa pz : Nat) (vc vk vv vs vw vq vo va vd vr : Value) (w : World) (hg : Gl w) (kq : Rd QuK 49 w vq (q :: qs)) (ko : Rd StrK 9 w vo o) (ka : Rd NumK 2 w va a) (kd : Rd PerK 28 w vd d) (kr : Rd StrK 9 w vr r) :
  Calls Tryz.prog 12 #[.agg #[str [83, 69, 76, 69, 67, 84], str t, vc, vk, vv, vs, .int .i64 (pa : Int), .int .i64 (pz : Int), vw, vq, vo, va, vd, vr]] w (fun e w' => e = .returned (str (selT q qs o a d r)) ∧ Ext w w') := by
 have HE : Hid (Ext w (w.alloc (.cells #[str [83, 69, 76, 69, 67, 84], str t, vc, vk, vv, vs, .int .i64 (pa : Int), .int .i64 (pz : Int), vw, vq, vo, va, vd, vr] 33))) := Lib.hid ((Ext.refl w).alloc _)
 have HC := Lib.hid (selectText_lt q qs o a d r hq hl ha hd hsz (str [83, 69, 76, 69, 67, 84]) (str t) vc vk vv vs (.int .i64 (pa : Int)) (.int .i64 (pz : Int)) vw vq vo va vd vr (w.alloc (.cells #[str [83, 69, 76, 69, 67, 84], str t, vc, vk, vv, vs, .int .i64 (pa : Int), .int .i64 (pz : Int), vw, vq, vo, va, vd, vr] 33)) (hg.ext HE.out) (kq.ext HE.out) (ko.ext HE.out) (ka.ext HE.out) (kd.ext HE.out) (kr.ext HE.out))
 have hbs := bs_toList
 clear hq hl ha hd hsz hg kq ko ka kd kr
 go_enter Tryz.func12, Tryz.ntmps12
 go_wp2_with fail
 refine HC.out.mono ?_
 rintro e w2 ⟨rfl, hE2⟩
 have HE2 := Lib.hid (HE.out.trans hE2)
 clear hE2
 go_wp2
 go_ret
 exact ⟨rfl, HE2.out⟩
end Go.Proofs.YtkhnpmeohjafiaaGreatDoor
