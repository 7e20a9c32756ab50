/- annalsref02.One, Compare, Same, walked. -/
import Derived.Test.YtlmlkphdalkfdaaRefD
import Derived.Laws.StructEq
namespace Go.Proofs.Ytlmlkphdalkfdaa
open Go.RowKit

/-- -1, 0 or 1 of two values. -/
def oneV (u v : V) : Int :=
  if u.1 < v.1 ∨ (u.1 = v.1 ∧ (u.2.1 < v.2.1 ∨ (u.2.1 = v.2.1 ∧ Op.bytesLess u.2.2 v.2.2 = true))) then -1 else if u = v then 0 else 1
abbrev aggV (v : V) : Value := .agg #[.int .i64 v.1, .int .i64 v.2.1, str v.2.2]

set_option maxHeartbeats 8000000 in
theorem One_ok (k k' n n' : Int) (t t' : List UInt8) (w : World) :
    Calls Try.prog 36 #[aggV (k, n, t), aggV (k', n', t')] w (fun e w' => e = .returned (.int .i64 (oneV (k, n, t) (k', n', t'))) ∧ Ext w w') := by
  have hb := bs_toList t
  have hb' := bs_toList t'
  have hE : Ext w ((w.alloc (.cells #[.int .i64 k, .int .i64 n, str t] 53)).alloc (.cells #[.int .i64 k', .int .i64 n', str t'] 53)) := ((Ext.refl w).alloc _).alloc _
  by_cases h1 : k < k'
  · have hv : oneV (k, n, t) (k', n', t') = -1 := by simp [oneV, h1]
    rw [hv]
    go_enter Try.func36, Try.ntmps36
    go_wp2
    go_ret
    exact ⟨rfl, hE⟩
  · by_cases h2 : k = k'
    · subst h2
      by_cases h3 : n < n'
      · have hv : oneV (k, n, t) (k, n', t') = -1 := by simp [oneV, h3]
        rw [hv]
        go_enter Try.func36, Try.ntmps36
        go_wp2
        go_ret
        exact ⟨rfl, hE⟩
      · by_cases h4 : n = n'
        · subst h4
          by_cases h5 : Op.bytesLess t t' = true
          · have hv : oneV (k, n, t) (k, n, t') = -1 := by simp [oneV, h5]
            rw [hv]
            go_enter Try.func36, Try.ntmps36
            go_wp2
            go_ret
            exact ⟨rfl, hE⟩
          · have h5' : Op.bytesLess t t' = false := by simpa using h5
            by_cases h6 : t = t'
            · have hv : oneV (k, n, t) (k, n, t') = 0 := by simp [oneV, h5', h6]; rw [h6] at h5'; simp [h5']
              rw [hv]
              have h6' : (t == t') = true := by simp [h6]
              clear h5 h6 hv
              go_enter Try.func36, Try.ntmps36
              go_wp2
              go_ret
              exact ⟨rfl, hE⟩
            · have hv : oneV (k, n, t) (k, n, t') = 1 := by simp [oneV, h5', h6]
              rw [hv]
              have h6' : (t == t') = false := by simp [h6]
              clear h5 h6 hv
              go_enter Try.func36, Try.ntmps36
              go_wp2
              go_ret
              exact ⟨rfl, hE⟩
        · have hv : oneV (k, n, t) (k, n', t') = 1 := by simp [oneV, h3, h4]
          rw [hv]
          have h4' : (n == n') = false := by simp [h4]
          clear h4 hv
          go_enter Try.func36, Try.ntmps36
          go_wp2
          go_ret
          exact ⟨rfl, hE⟩
    · have hv : oneV (k, n, t) (k', n', t') = 1 := by simp [oneV, h1, h2]
      rw [hv]
      have h2' : (k == k') = false := by simp [h2]
      clear h2 hv
      go_enter Try.func36, Try.ntmps36
      go_wp2
      go_ret
      exact ⟨rfl, hE⟩

/-- -1, 0 or 1 of two lists. -/
def cmpL : List V → List V → Int
  | [], [] => 0
  | [], _ :: _ => -1
  | _ :: _, [] => 1
  | u :: us, v :: vs => if oneV u v = 0 then cmpL us vs else oneV u v
theorem drop_cons {us : List V} {i : Nat} {u : V} (h : us[i]? = some u) : us.drop i = u :: us.drop (i + 1) := by
  have hl := (List.getElem?_eq_some_iff.1 h).1
  rw [List.drop_eq_getElem_cons hl, (List.getElem?_eq_some_iff.1 h).2]

set_option maxHeartbeats 8000000 in
theorem RCompare_ok (a b : Option Addr) (n n' c c' : Nat) (us vs : List V) (w : World) (hn : us.length = n) (hn' : vs.length = n') (hu : Vals w a us) (hv : Vals w b vs) (hsz : n ≤ 1000000000) (hsz' : n' ≤ 1000000000) :
    Calls Try.prog 25 #[.slice a n c, .slice b n' c'] w (fun e w' => e = .returned (.int .i64 (cmpL us vs)) ∧ Ext w w') := by
  generalize hR : cmpL us vs = R
  have HR := Lib.hid hR; clear hR
  have HN := Lib.hid hn; clear hn
  have HN' := Lib.hid hn'; clear hn'
  have HU := Lib.hid hu; clear hu
  have HV := Lib.hid hv; clear hv
  go_enter Try.func25, Try.ntmps25
  go_wp2
  go_loopg [5] n (fun k v5 wr => ∃ i : Nat, i + k = n ∧ i ≤ n' ∧ v5 = .int .i64 i ∧ Ext w wr ∧ cmpL (us.drop i) (vs.drop i) = R)
  case atStart => exact ⟨0, by omega, by omega, rfl, Ext.refl _, HR.out⟩
  case round =>
    obtain ⟨i, hik, hin, rfl, hE, hD⟩ := hrel
    by_cases hlt : i < n
    · by_cases hlt' : i < n'
      · obtain ⟨la, oa, ha, hca⟩ := (HU.out.ext hE) (by have := HN.out; omega)
        obtain ⟨lb, ob, hb, hcb⟩ := (HV.out.ext hE) (by have := HN'.out; omega)
        subst ha hb
        obtain ⟨⟨k, m, t⟩, hx⟩ : ∃ v, us[i]? = some v := ⟨us[i]'(by rw [HN.out]; exact hlt), by rw [List.getElem?_eq_getElem]⟩
        obtain ⟨⟨k', m', t'⟩, hy⟩ : ∃ v, vs[i]? = some v := ⟨vs[i]'(by rw [HN'.out]; exact hlt'), by rw [List.getElem?_eq_getElem]⟩
        obtain ⟨c0, c1, c2⟩ := hca i _ hx
        obtain ⟨d0, d1, d2⟩ := hcb i _ hy
        simp only [] at c0 c1 c2 d0 d1 d2
        rw [drop_cons hx, drop_cons hy, cmpL] at hD
        have HD := Lib.hid hD
        have HIK := Lib.hid hik
        have hone := One_ok k k' m m' t t'
        generalize oneV (k, m, t) (k', m', t') = r at *
        have HONE := Lib.hid hone
        clear hD hik hone hx hy hca hcb
        go_wp2
        refine region_calm [.p 0, .p 1, .p 2, .l 3, .p 4, .p 5, .p 6, .l 7, .h 8 false, .p 9] f_mixed (by kernel_rfl) (by kernel_rfl) ?_
        repeat (first | (refine plan_p rfl (fun K hK => ?_); go_simp; refine hK _ ?_; clear hK K) | (refine plan_l rfl (fun K hK => ?_); go_simp; refine hK _ ?_; clear hK K))
        refine plan_c rfl rfl (fun K _ hK => ?_)
        go_wp2_with fail
        refine (HONE.out _).mono ?_
        rintro e w2 ⟨rfl, hE2⟩
        go_wp2_with fail
        repeat (first | (refine plan_p rfl (fun K hK => ?_); go_simp; refine hK _ ?_; clear hK K) | (refine plan_l rfl (fun K hK => ?_); go_simp; refine hK _ ?_; clear hK K))
        refine plan_done ?_
        have hE3 := hE.drew.trans hE2
        clear c0 c1 c2 d0 d1 d2
        by_cases hr : r = 0
        · have HD2 : Hid (cmpL (us.drop (i + 1)) (vs.drop (i + 1)) = R) := by have := HD.out; rwa [if_pos hr] at this
          subst hr
          go_wp2
          go_roundg (gk - 1)
          case measure => have := HIK.out; omega
          case rel => exact ⟨i + 1, by have := HIK.out; omega, by omega, by go_num, hE3, HD2.out⟩
        · have HD2 : Hid (r = R) := by have := HD.out; rwa [if_neg hr] at this
          have hrb : (r != 0) = true := by simp [hr]
          clear hr
          go_wp2
          go_ret
          exact ⟨by rw [← HD2.out]; rfl, hE3⟩
      · have hi : i = n' := by omega
        have h1 : vs.drop i = [] := List.drop_eq_nil_of_le (by have := HN'.out; omega)
        obtain ⟨u, hx⟩ : ∃ v, us[i]? = some v := ⟨us[i]'(by rw [HN.out]; exact hlt), by rw [List.getElem?_eq_getElem]⟩
        rw [h1, drop_cons hx, cmpL] at hD
        have HD := Lib.hid hD
        have h2 : ¬ (n : Int) < (n' : Int) := by omega
        have h3 : (n' : Int) < (n : Int) := by omega
        clear hD h1 hi hx
        go_wp2
        go_ret
        exact ⟨by rw [← HD.out]; rfl, hE⟩
    · have hi : i = n := by omega
      have h1 : us.drop i = [] := List.drop_eq_nil_of_le (by have := HN.out; omega)
      by_cases hlt' : i < n'
      · obtain ⟨u, hx⟩ : ∃ v, vs[i]? = some v := ⟨vs[i]'(by rw [HN'.out]; exact hlt'), by rw [List.getElem?_eq_getElem]⟩
        rw [h1, drop_cons hx, cmpL] at hD
        have HD := Lib.hid hD
        have h3 : (n : Int) < (n' : Int) := by omega
        clear hD h1 hi hx
        go_wp2
        go_ret
        exact ⟨by rw [← HD.out]; rfl, hE⟩
      · have h2 : vs.drop i = [] := List.drop_eq_nil_of_le (by have := HN'.out; omega)
        rw [h1, h2, cmpL] at hD
        have HD := Lib.hid hD
        have h3 : ¬ (n : Int) < (n' : Int) := by omega
        have h4 : ¬ (n' : Int) < (n : Int) := by omega
        clear hD h1 h2 hi
        go_wp2
        go_ret
        exact ⟨by rw [← HD.out]; rfl, hE⟩

theorem oneV_self (u : V) (h : Op.bytesLess u.2.2 u.2.2 = false) : oneV u u = 0 := by
  simp [oneV, h]
theorem bytesLess_self : ∀ t : List UInt8, Op.bytesLess t t = false
  | [] => rfl
  | x :: t => by
    have ih := bytesLess_self t
    unfold Op.bytesLess
    simp [ih]
theorem cmpL_self : ∀ us : List V, cmpL us us = 0
  | [] => rfl
  | u :: us => by rw [cmpL, if_pos (oneV_self u (bytesLess_self _))]; exact cmpL_self us

set_option maxHeartbeats 4000000 in
theorem Same_ok (a b : Option Addr) (n n' c c' : Nat) (us vs : List V) (w : World) (hn : us.length = n) (hn' : vs.length = n') (hu : Vals w a us) (hv : Vals w b vs) (hsz : n ≤ 1000000000) (hsz' : n' ≤ 1000000000) :
    Calls Try.prog 19 #[.slice a n c, .slice b n' c'] w (fun e w' => e = .returned (.bool (decide (us.length = vs.length) && (cmpL us vs == 0))) ∧ Ext w w') := by
  have hcm := RCompare_ok a b n n' c c' us vs w hn hn' hu hv hsz hsz'
  have HN := Lib.hid hn
  have HN' := Lib.hid hn'
  have HCM := Lib.hid hcm
  clear hcm hu hv
  rw [hn, hn']
  clear hn hn'
  by_cases h : n = n'
  · have h' : ((n : Int) == (n' : Int)) = true := by simp [h]
    have hd : decide (n = n') = true := by simp [h]
    rw [hd]
    clear h hd
    go_enter Try.func19, Try.ntmps19
    go_wp2_with fail
    refine HCM.out.mono ?_
    rintro e w2 ⟨rfl, hE2⟩
    go_wp2
    go_ret
    exact ⟨by simp, hE2⟩
  · have h' : ((n : Int) == (n' : Int)) = false := by simp; omega
    have hd : decide (n = n') = false := by simp [h]
    rw [hd]
    clear h hd
    go_enter Try.func19, Try.ntmps19
    go_wp2
    go_ret
    exact ⟨by simp, Ext.refl _⟩

end Go.Proofs.Ytlmlkphdalkfdaa
