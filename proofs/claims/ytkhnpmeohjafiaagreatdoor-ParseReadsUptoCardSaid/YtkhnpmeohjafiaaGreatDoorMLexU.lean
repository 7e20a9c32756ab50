/- Lemmas. -/
import Derived.Test.YtkhnpmeohjafiaaGreatDoorMLexT
set_option maxHeartbeats 8000000
set_option maxRecDepth 100000
namespace Go.Proofs.YtkhnpmeohjafiaaGreatDoor
open Go.RowKit
def QuoRv (w : World) (l : List UInt8) (q k : Nat) (v8 v11 : Value) (wr : World) : Prop :=
 ∃ (e : Nat) (acc : List UInt8), k = l.length - e ∧ v8 = .int .i64 (e : Int) ∧ v11 = str acc ∧ q + 1 ≤ e ∧ acc.length ≤ e ∧ QuoSo l q e acc ∧
  wr = w.alloc (.cells #[.int .i64 0, str [], .int .i64 0, .int .i64 0] 120)
theorem rone_quo (l : List UInt8) (q : Nat) (w : World) (hx : l[q]? = some 39) (hl : l.length ≤ 1000000000) :
  Calls Tryz.prog 68 #[str l, .int .i64 (q : Int)] w (OnePost l q w) := by
 have HO := Lib.hid (one_quo hx)
 have hq : q < l.length := (List.getElem?_eq_some_iff.1 hx).1
 have hxg := bs_get hx
 have hx39 : (UInt8.toNat 39 : Int) = 39 := rfl
 have hsz := bs_size l
 go_enter Tryz.func68, Tryz.ntmps68
 go_wp2_with fail
 refine (rletter_ok 39 _).mono ?_
 rintro e w2 ⟨rfl, rfl⟩
 rw [show isL 39 = false by decide]
 go_wp2_with fail
 refine (rdigit_ok 39 _).mono ?_
 rintro e w2 ⟨rfl, rfl⟩
 rw [show isD 39 = false by decide]
 go_wp2
 clear hxg hx
 go_loopg [8, 11] (l.length - (q + 1)) (fun k v8 v11 wr => QuoRv w l q k v8 v11 wr)
 case atStart => exact ⟨q + 1, [], rfl, by go_num, rfl, Nat.le_refl _, by simp, by unfold QuoSo; cases quo (l.drop (q + 1)) <;> simp, rfl⟩
 case round =>
  obtain ⟨e, acc, hk, rfl, rfl, hqe, hae, hS, hwr⟩ := hrel
  subst hwr
  have HK := Lib.hid hk; clear hk
  have HS := Lib.hid hS; clear hS
  have HQE := Lib.hid hqe
  by_cases hlt : e < l.length
  · obtain ⟨y, hy⟩ : ∃ y, l[e]? = some y := ⟨_, List.getElem?_eq_getElem hlt⟩
    have hyg := bs_get hy
    by_cases h39 : y = 39
    · subst h39
      have HY := Lib.hid hy; clear hy
      by_cases hlt2 : e + 1 < l.length
      · obtain ⟨z, hz⟩ : ∃ z, l[e + 1]? = some z := ⟨_, List.getElem?_eq_getElem hlt2⟩
        have hzg := bs_get hz
        have HZ := Lib.hid hz; clear hz
        have hN1 : ((e : Int) + 1).toNat = e + 1 := by omega
        have hez : ((e : Int) + 1 == (l.length : Int)) = false := by rw [beq_eq_false_iff_ne]; omega
        by_cases hz39 : z = 39
        · subst hz39
          have hc : ∀ u : World, (Op.stringOp .add (bs acc) ⟨#[39]⟩).run Tryz.prog u = .ok (str (acc ++ [39])) u := fun u => cat_okR acc [39] u (by simp; omega)
          go_wp2
          go_roundg (l.length - (e + 1 + 1))
          case measure => have := HK.out; omega
          case rel => exact ⟨e + 1 + 1, acc ++ [39], rfl, by go_num, rfl, by omega, by rw [List.length_append]; simp; omega, HS.out.two HQE.out HY.out HZ.out, rfl⟩
        · have hzne : ((z.toNat : Int) == 39) = false := by
            rw [beq_eq_false_iff_ne]
            intro h
            exact hz39 (by apply UInt8.toNat_inj.1; simpa using (by exact_mod_cast h : z.toNat = 39))
          have HONE : Hid (one (l.drop q) = some (3, acc, 0, 1 + (e - (q + 1)) + 1)) := by
            show _ = _
            have h1 := HS.out
            unfold QuoSo at h1
            rw [HO.out, h1, quo_end HY.out (fun u hu => by rw [HZ.out] at hu; cases hu; exact hz39)]
            simp
          clear hz39
          go_wp2
          (try simp only [Exit.inBlock, Exit.then])
          refine bodyPost_ret (v := .tuple #[.agg #[.int .i64 3, str acc, .int .i64 0, .int .i64 (q : Int)], .int .i64 ((e : Int) + 1), .bool true]) (by simp [results, Tryz.results68, go_sem]; try rfl) rfl ?_
          refine onePost_of HONE.out ((Ext.refl w).alloc _) ?_
          have hqe := HQE.out
          have h7 : ((q + (1 + (e - (q + 1)) + 1) : Nat) : Int) = (e : Int) + 1 := by omega
          rw [h7]; rfl
      · have hez : ((e : Int) + 1 == (l.length : Int)) = true := by rw [beq_iff_eq]; omega
        have HONE : Hid (one (l.drop q) = some (3, acc, 0, 1 + (e - (q + 1)) + 1)) := by
          show _ = _
          have h1 := HS.out
          unfold QuoSo at h1
          rw [HO.out, h1, quo_end HY.out (fun u hu => absurd (List.getElem?_eq_some_iff.1 hu).1 hlt2)]
          simp
        go_wp2
        (try simp only [Exit.inBlock, Exit.then])
        refine bodyPost_ret (v := .tuple #[.agg #[.int .i64 3, str acc, .int .i64 0, .int .i64 (q : Int)], .int .i64 ((e : Int) + 1), .bool true]) (by simp [results, Tryz.results68, go_sem]; try rfl) rfl ?_
        refine onePost_of HONE.out ((Ext.refl w).alloc _) ?_
        have hqe := HQE.out
        have h7 : ((q + (1 + (e - (q + 1)) + 1) : Nat) : Int) = (e : Int) + 1 := by omega
        rw [h7]; rfl
    · have hyne : ((y.toNat : Int) == 39) = false := by
        rw [beq_eq_false_iff_ne]
        intro h
        exact h39 (by apply UInt8.toNat_inj.1; simpa using (by exact_mod_cast h : y.toNat = 39))
      have hcut : (bs l).extract e (e + 1) = bs [y] := by
        rw [bs_extract, drop_at hy, Nat.add_sub_cancel_left]; rfl
      have hN1 : ((e : Int) + 1).toNat = e + 1 := by omega
      have hc := fun u : World => cat_okR (P := Tryz.prog) acc [y] u (by simp; omega)
      have HY := Lib.hid hy
      have HN := Lib.hid h39
      clear h39 hy
      go_wp2
      go_roundg (l.length - (e + 1))
      case measure => have := HK.out; omega
      case rel => exact ⟨e + 1, acc ++ [y], rfl, by go_num, rfl, by omega, by rw [List.length_append]; simp; omega, HS.out.ne HQE.out HY.out HN.out, rfl⟩
  · have HONE : Hid (one (l.drop q) = none) := by
      show _ = _
      have h1 := HS.out
      unfold QuoSo at h1
      rw [HO.out, h1, quo_past (by omega)]; rfl
    go_wp2
    (try simp only [Exit.inBlock, Exit.then])
    refine bodyPost_ret (v := .tuple #[.agg #[.int .i64 0, str [], .int .i64 0, .int .i64 0], .int .i64 0, .bool false]) (by simp [results, Tryz.results68, go_sem]; try rfl) rfl ?_
    exact onePost_no HONE.out ((Ext.refl w).alloc _) ⟨_, _, _, _, _, rfl⟩
def signB : List UInt8 := [40, 41, 44, 59, 46, 61, 60, 62, 43, 45, 42]
theorem one_signR {l : List UInt8} {q : Nat} {x : UInt8} (hx : l[q]? = some x) (h1 : isL x = false) (h2 : isD x = false) (h3 : x ≠ 39) : one (l.drop q) = (sgn x (l.drop (q + 1))).map fun s => (4, s, 0, s.length) := by
 rw [drop_at hx, one_cons, if_neg (by rw [h1]; simp), if_neg (by rw [h2]; simp), if_neg h3]
def SgnRv (w : World) (x : UInt8) (k : Nat) (v172 : Value) (wr : World) : Prop :=
 ∃ (i : Nat), i + k = 11 ∧ v172 = .int .i64 (i : Int) ∧ (∀ (j : Nat) (s : UInt8), j < i → signB[j]? = some s → x ≠ s) ∧
  wr = w.alloc (.cells #[.int .i64 0, str [], .int .i64 0, .int .i64 0] 120)
theorem sgn_one {x y : UInt8} {r : List UInt8} (h1 : ¬ [x, y] = [60, 62]) (h2 : ¬ [x, y] = [60, 61]) (h3 : ¬ [x, y] = [62, 61]) : sgn x (y :: r) = sgnOne x := by
 unfold sgn
 simp only
 rw [if_neg]
 rintro (⟨rfl, rfl | rfl⟩ | ⟨rfl, rfl⟩)
 · exact h1 rfl
 · exact h2 rfl
 · exact h3 rfl
theorem sgnOne_at {x : UInt8} {i : Nat} (h : signB[i]? = some x) : sgnOne x = some [x] := by
 unfold sgnOne
 exact if_pos (List.mem_of_getElem? h)
theorem sgnOne_no {x : UInt8} (h : ∀ (j : Nat) (s : UInt8), j < 11 → signB[j]? = some s → x ≠ s) : sgnOne x = none := by
 unfold sgnOne
 refine if_neg ?_
 intro hm
 obtain ⟨j, hj, e⟩ := List.getElem_of_mem hm
 exact h j x hj (by rw [← e]; exact List.getElem?_eq_getElem hj) rfl
theorem sign_idx (i : Nat) (s : UInt8) (h : signB[i]? = some s) (u : World) : (Instr.index 150 (.agg #[.int .u8 40, .int .u8 41, .int .u8 44, .int .u8 59, .int .u8 46, .int .u8 61, .int .u8 60, .int .u8 62, .int .u8 43, .int .u8 45, .int .u8 42]) (.int .i64 (i : Int))).run Tryz.prog u = .ok (.int .u8 (s.toNat : Int)) u := by
 have hi : i < 11 := (List.getElem?_eq_some_iff.1 h).1
 have h1 : ([.int .u8 40, .int .u8 41, .int .u8 44, .int .u8 59, .int .u8 46, .int .u8 61, .int .u8 60, .int .u8 62, .int .u8 43, .int .u8 45, .int .u8 42] : List Value)[i]? = some (.int .u8 (s.toNat : Int)) := by
  have h2 : (signB.map fun s => Value.int .u8 (s.toNat : Int))[i]? = some (.int .u8 (s.toNat : Int)) := by rw [List.getElem?_map, h]; rfl
  rw [← h2]; rfl
 have h0 : (0 : Int) ≤ (i : Int) ∧ (i : Int) < 11 := by omega
 simp [Instr.index, run_underlying Tryz.underlying150, asIntOf, h0, hi, go_sem]
 exact (List.getElem?_eq_some_iff.1 h1).2
theorem rone_sgn0 (l : List UInt8) (q : Nat) (x : UInt8) (w : World) (hx : l[q]? = some x) (hisL : isL x = false) (hisD : isD x = false) (h39 : x ≠ 39) (hl : l.length ≤ 1000000000) (hlt : q + 1 = l.length) :
  Calls Tryz.prog 68 #[str l, .int .i64 (q : Int)] w (OnePost l q w) := by
 have HO : Hid (one (l.drop q) = (sgnOne x).map fun s => (4, s, 0, s.length)) := by
  show _ = _
  rw [one_signR hx hisL hisD h39, List.drop_eq_nil_of_le (by omega)]; rfl
 have hqq : (l.length : Int) ≤ (q : Int) + 1 := by omega
 have hcut0 : (bs l).extract q l.length = bs [x] := by
  rw [← hlt, bs_extract, drop_at hx, Nat.add_sub_cancel_left]; rfl
 have hq : q < l.length := (List.getElem?_eq_some_iff.1 hx).1
 have hxg := bs_get hx
 have hxne : ((x.toNat : Int) == 39) = false := by
  rw [beq_eq_false_iff_ne]
  intro h
  exact h39 (by apply UInt8.toNat_inj.1; simpa using (by exact_mod_cast h : x.toNat = 39))
 have hsz := bs_size l
 have hcut1 : (bs l).extract q (q + 1) = bs [x] := by
  rw [bs_extract, drop_at hx, Nat.add_sub_cancel_left]; rfl
 have hN2 : ((q : Int) + 1).toNat = q + 1 := by omega
 clear h39 hx
 go_enter Tryz.func68, Tryz.ntmps68
 go_wp2_with fail
 refine (rletter_ok x _).mono ?_
 rintro e w2 ⟨rfl, rfl⟩
 rw [hisL]
 go_wp2_with fail
 refine (rdigit_ok x _).mono ?_
 rintro e w2 ⟨rfl, rfl⟩
 rw [hisD]
 have hbs := bs_toList
 go_wp2
 go_loopg [172] 11 (fun k v172 wr => SgnRv w x k v172 wr)
 case atStart => exact ⟨0, by omega, rfl, fun j s hj => absurd hj (by omega), rfl⟩
 case round =>
  obtain ⟨i, hik, rfl, hno, hwr⟩ := hrel
  subst hwr
  have HIK := Lib.hid hik; clear hik
  have HNO := Lib.hid hno; clear hno
  by_cases hi : i < 11
  · obtain ⟨s, hs⟩ : ∃ s, signB[i]? = some s := ⟨signB[i]'hi, List.getElem?_eq_getElem _⟩
    have HS := Lib.hid hs
    have hix := sign_idx i s hs
    clear hs
    by_cases hxs : x = s
    · subst hxs
      have HONE : Hid (one (l.drop q) = some (4, [x], 0, 1)) := by
       show _ = _
       rw [HO.out, sgnOne_at HS.out]; rfl
      go_wp2
      (try simp only [Exit.inBlock, Exit.then])
      refine bodyPost_ret (v := .tuple #[.agg #[.int .i64 4, str [x], .int .i64 0, .int .i64 (q : Int)], .int .i64 ((q : Int) + 1), .bool true]) (by simp [results, Tryz.results68, go_sem]; try rfl) rfl ?_
      exact onePost_of HONE.out ((Ext.refl w).alloc _) rfl
    · have hxsz : ((x.toNat : Int) == (s.toNat : Int)) = false := by
       rw [beq_eq_false_iff_ne]
       intro h
       exact hxs (by apply UInt8.toNat_inj.1; exact_mod_cast h)
      have HXS := Lib.hid hxs
      clear hxs
      go_wp2
      go_roundg (gk - 1)
      case measure => have := HIK.out; omega
      case rel =>
       refine ⟨i + 1, by have := HIK.out; omega, by go_num, fun j u hj hu => ?_, rfl⟩
       by_cases hji : j = i
       · subst hji
         rw [HS.out] at hu; cases hu
         exact HXS.out
       · exact HNO.out j u (by omega) hu
  · have hi11 : i = 11 := by have := HIK.out; omega
    have HONE : Hid (one (l.drop q) = none) := by
      show _ = _
      rw [HO.out, sgnOne_no (fun j u hj hu => HNO.out j u (by omega) hu)]; rfl
    clear hi11
    go_wp2
    (try simp only [Exit.inBlock, Exit.then])
    refine bodyPost_ret (v := .tuple #[.agg #[.int .i64 0, str [], .int .i64 0, .int .i64 0], .int .i64 0, .bool false]) (by simp [results, Tryz.results68, go_sem]; try rfl) rfl ?_
    exact onePost_no HONE.out ((Ext.refl w).alloc _) ⟨_, _, _, _, _, rfl⟩
theorem rone_sgn1 (l : List UInt8) (q : Nat) (x y : UInt8) (w : World) (hx : l[q]? = some x) (hy : l[q + 1]? = some y) (hisL : isL x = false) (hisD : isD x = false) (h39 : x ≠ 39) (hl : l.length ≤ 1000000000) (hlt : q + 1 < l.length)
  (h1 : ¬ [x, y] = [60, 62]) (h2 : ¬ [x, y] = [60, 61]) (h3 : ¬ [x, y] = [62, 61]) :
  Calls Tryz.prog 68 #[str l, .int .i64 (q : Int)] w (OnePost l q w) := by
 have HO : Hid (one (l.drop q) = (sgnOne x).map fun s => (4, s, 0, s.length)) := by
  show _ = _
  rw [one_signR hx hisL hisD h39, drop_at hy, sgn_one h1 h2 h3]
 have hcut : (bs l).extract q (q + 2) = bs [x, y] := by
  rw [bs_extract, drop_at hx, drop_at hy, Nat.add_sub_cancel_left]; rfl
 generalize [x, y] = T at hcut h1 h2 h3
 have hN1 : ((q : Int) + 2).toNat = q + 2 := by omega
 have hltI : (q : Int) + 1 < (l.length : Int) := by omega
 have hz1 : (T == [60, 62]) = false := beq_eq_false_iff_ne.2 h1
 have hz2 : (T == [60, 61]) = false := beq_eq_false_iff_ne.2 h2
 have hz3 : (T == [62, 61]) = false := beq_eq_false_iff_ne.2 h3
 clear h1 h2 h3
 have hq : q < l.length := (List.getElem?_eq_some_iff.1 hx).1
 have hxg := bs_get hx
 have hxne : ((x.toNat : Int) == 39) = false := by
  rw [beq_eq_false_iff_ne]
  intro h
  exact h39 (by apply UInt8.toNat_inj.1; simpa using (by exact_mod_cast h : x.toNat = 39))
 have hsz := bs_size l
 have hcut1 : (bs l).extract q (q + 1) = bs [x] := by
  rw [bs_extract, drop_at hx, Nat.add_sub_cancel_left]; rfl
 have hN2 : ((q : Int) + 1).toNat = q + 1 := by omega
 clear h39 hx
 go_enter Tryz.func68, Tryz.ntmps68
 go_wp2_with fail
 refine (rletter_ok x _).mono ?_
 rintro e w2 ⟨rfl, rfl⟩
 rw [hisL]
 go_wp2_with fail
 refine (rdigit_ok x _).mono ?_
 rintro e w2 ⟨rfl, rfl⟩
 rw [hisD]
 have hbs := bs_toList
 go_wp2
 go_loopg [172] 11 (fun k v172 wr => SgnRv w x k v172 wr)
 case atStart => exact ⟨0, by omega, rfl, fun j s hj => absurd hj (by omega), rfl⟩
 case round =>
  obtain ⟨i, hik, rfl, hno, hwr⟩ := hrel
  subst hwr
  have HIK := Lib.hid hik; clear hik
  have HNO := Lib.hid hno; clear hno
  by_cases hi : i < 11
  · obtain ⟨s, hs⟩ : ∃ s, signB[i]? = some s := ⟨signB[i]'hi, List.getElem?_eq_getElem _⟩
    have HS := Lib.hid hs
    have hix := sign_idx i s hs
    clear hs
    by_cases hxs : x = s
    · subst hxs
      have HONE : Hid (one (l.drop q) = some (4, [x], 0, 1)) := by
       show _ = _
       rw [HO.out, sgnOne_at HS.out]; rfl
      go_wp2
      (try simp only [Exit.inBlock, Exit.then])
      refine bodyPost_ret (v := .tuple #[.agg #[.int .i64 4, str [x], .int .i64 0, .int .i64 (q : Int)], .int .i64 ((q : Int) + 1), .bool true]) (by simp [results, Tryz.results68, go_sem]; try rfl) rfl ?_
      exact onePost_of HONE.out ((Ext.refl w).alloc _) rfl
    · have hxsz : ((x.toNat : Int) == (s.toNat : Int)) = false := by
       rw [beq_eq_false_iff_ne]
       intro h
       exact hxs (by apply UInt8.toNat_inj.1; exact_mod_cast h)
      have HXS := Lib.hid hxs
      clear hxs
      go_wp2
      go_roundg (gk - 1)
      case measure => have := HIK.out; omega
      case rel =>
       refine ⟨i + 1, by have := HIK.out; omega, by go_num, fun j u hj hu => ?_, rfl⟩
       by_cases hji : j = i
       · subst hji
         rw [HS.out] at hu; cases hu
         exact HXS.out
       · exact HNO.out j u (by omega) hu
  · have hi11 : i = 11 := by have := HIK.out; omega
    have HONE : Hid (one (l.drop q) = none) := by
      show _ = _
      rw [HO.out, sgnOne_no (fun j u hj hu => HNO.out j u (by omega) hu)]; rfl
    clear hi11
    go_wp2
    (try simp only [Exit.inBlock, Exit.then])
    refine bodyPost_ret (v := .tuple #[.agg #[.int .i64 0, str [], .int .i64 0, .int .i64 0], .int .i64 0, .bool false]) (by simp [results, Tryz.results68, go_sem]; try rfl) rfl ?_
    exact onePost_no HONE.out ((Ext.refl w).alloc _) ⟨_, _, _, _, _, rfl⟩
theorem rone_sgn2 (l : List UInt8) (q : Nat) (x y : UInt8) (w : World) (hx : l[q]? = some x) (hy : l[q + 1]? = some y) (hisL : isL x = false) (hisD : isD x = false) (h39 : x ≠ 39) (hl : l.length ≤ 1000000000) (hlt : q + 1 < l.length)
   (h1 : [x, y] = [60, 62] ∨ [x, y] = [60, 61] ∨ [x, y] = [62, 61]) :
   Calls Tryz.prog 68 #[str l, .int .i64 (q : Int)] w (OnePost l q w) := by
 have HO : Hid (one (l.drop q) = some (4, [x, y], 0, 2)) := by
   show _ = _
   rw [one_signR hx hisL hisD h39, drop_at hy]
   rcases h1 with h | h | h <;> (cases h; rfl)
 have hcut : (bs l).extract q (q + 2) = bs [x, y] := by
   rw [bs_extract, drop_at hx, drop_at hy, Nat.add_sub_cancel_left]; rfl
 generalize [x, y] = T at hcut h1 HO
 have hN1 : ((q : Int) + 2).toNat = q + 2 := by omega
 have hltI : (q : Int) + 1 < (l.length : Int) := by omega
 rcases h1 with h | h | h
 · subst h
   have hq : q < l.length := (List.getElem?_eq_some_iff.1 hx).1
   have hxg := bs_get hx
   have hxne : ((x.toNat : Int) == 39) = false := by
    rw [beq_eq_false_iff_ne]
    intro h
    exact h39 (by apply UInt8.toNat_inj.1; simpa using (by exact_mod_cast h : x.toNat = 39))
   have hsz := bs_size l
   have hcut1 : (bs l).extract q (q + 1) = bs [x] := by
    rw [bs_extract, drop_at hx, Nat.add_sub_cancel_left]; rfl
   have hN2 : ((q : Int) + 1).toNat = q + 1 := by omega
   clear h39 hx
   go_enter Tryz.func68, Tryz.ntmps68
   go_wp2_with fail
   refine (rletter_ok x _).mono ?_
   rintro e w2 ⟨rfl, rfl⟩
   rw [hisL]
   go_wp2_with fail
   refine (rdigit_ok x _).mono ?_
   rintro e w2 ⟨rfl, rfl⟩
   rw [hisD]
   have hbs := bs_toList
   go_wp2
   (try simp only [Exit.inBlock, Exit.then])
   refine bodyPost_ret (v := .tuple #[.agg #[.int .i64 4, str [60, 62], .int .i64 0, .int .i64 (q : Int)], .int .i64 ((q : Int) + 2), .bool true]) (by simp [results, Tryz.results68, go_sem]; try rfl) rfl ?_
   exact onePost_of HO.out ((Ext.refl w).alloc _) rfl
 · subst h
   have hq : q < l.length := (List.getElem?_eq_some_iff.1 hx).1
   have hxg := bs_get hx
   have hxne : ((x.toNat : Int) == 39) = false := by
    rw [beq_eq_false_iff_ne]
    intro h
    exact h39 (by apply UInt8.toNat_inj.1; simpa using (by exact_mod_cast h : x.toNat = 39))
   have hsz := bs_size l
   have hcut1 : (bs l).extract q (q + 1) = bs [x] := by
    rw [bs_extract, drop_at hx, Nat.add_sub_cancel_left]; rfl
   have hN2 : ((q : Int) + 1).toNat = q + 1 := by omega
   clear h39 hx
   go_enter Tryz.func68, Tryz.ntmps68
   go_wp2_with fail
   refine (rletter_ok x _).mono ?_
   rintro e w2 ⟨rfl, rfl⟩
   rw [hisL]
   go_wp2_with fail
   refine (rdigit_ok x _).mono ?_
   rintro e w2 ⟨rfl, rfl⟩
   rw [hisD]
   have hbs := bs_toList
   go_wp2
   (try simp only [Exit.inBlock, Exit.then])
   refine bodyPost_ret (v := .tuple #[.agg #[.int .i64 4, str [60, 61], .int .i64 0, .int .i64 (q : Int)], .int .i64 ((q : Int) + 2), .bool true]) (by simp [results, Tryz.results68, go_sem]; try rfl) rfl ?_
   exact onePost_of HO.out ((Ext.refl w).alloc _) rfl
 · subst h
   have hq : q < l.length := (List.getElem?_eq_some_iff.1 hx).1
   have hxg := bs_get hx
   have hxne : ((x.toNat : Int) == 39) = false := by
    rw [beq_eq_false_iff_ne]
    intro h
    exact h39 (by apply UInt8.toNat_inj.1; simpa using (by exact_mod_cast h : x.toNat = 39))
   have hsz := bs_size l
   have hcut1 : (bs l).extract q (q + 1) = bs [x] := by
    rw [bs_extract, drop_at hx, Nat.add_sub_cancel_left]; rfl
   have hN2 : ((q : Int) + 1).toNat = q + 1 := by omega
   clear h39 hx
   go_enter Tryz.func68, Tryz.ntmps68
   go_wp2_with fail
   refine (rletter_ok x _).mono ?_
   rintro e w2 ⟨rfl, rfl⟩
   rw [hisL]
   go_wp2_with fail
   refine (rdigit_ok x _).mono ?_
   rintro e w2 ⟨rfl, rfl⟩
   rw [hisD]
   have hbs := bs_toList
   go_wp2
   (try simp only [Exit.inBlock, Exit.then])
   refine bodyPost_ret (v := .tuple #[.agg #[.int .i64 4, str [62, 61], .int .i64 0, .int .i64 (q : Int)], .int .i64 ((q : Int) + 2), .bool true]) (by simp [results, Tryz.results68, go_sem]; try rfl) rfl ?_
   exact onePost_of HO.out ((Ext.refl w).alloc _) rfl
theorem rone_ok (l : List UInt8) (q : Nat) (w : World) (hq : q < l.length) (hl : l.length ≤ 1000000000) :
   Calls Tryz.prog 68 #[str l, .int .i64 (q : Int)] w (OnePost l q w) := by
 have hx : l[q]? = some (l[q]'hq) := List.getElem?_eq_getElem hq
 generalize l[q]'hq = x at hx
 cases hL : isL x with
 | true => exact rone_word l q x w hx hL hl
 | false =>
   cases hD : isD x with
   | true => exact rone_num l q x w hx hL hD hl
   | false =>
     by_cases h39 : x = 39
     · subst h39; exact rone_quo l q w hx hl
     · by_cases hlt : q + 1 < l.length
       · have hy : l[q + 1]? = some (l[q + 1]'hlt) := List.getElem?_eq_getElem hlt
         generalize l[q + 1]'hlt = y at hy
         by_cases h1 : [x, y] = [60, 62] ∨ [x, y] = [60, 61] ∨ [x, y] = [62, 61]
         · exact rone_sgn2 l q x y w hx hy hL hD h39 hl hlt h1
         · exact rone_sgn1 l q x y w hx hy hL hD h39 hl hlt (fun h => h1 (.inl h)) (fun h => h1 (.inr (.inl h))) (fun h => h1 (.inr (.inr h)))
       · exact rone_sgn0 l q x w hx hL hD h39 hl (by omega)
end Go.Proofs.YtkhnpmeohjafiaaGreatDoor
