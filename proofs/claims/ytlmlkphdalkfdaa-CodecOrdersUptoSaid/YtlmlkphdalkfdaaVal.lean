/- Values of the codec: their reading in memory; codec.Check, walked. -/
import Derived.Test.YtlmlkphdalkfdaaRefSum
namespace Go.Proofs.Ytlmlkphdalkfdaa
open Go.RowKit

/-- A value: its kind, its number, its text. -/
abbrev V := Int × Int × List UInt8
def cellsV (v : V) : List Value := [.int .i64 v.1, .int .i64 v.2.1, str v.2.2]
def flatV (vs : List V) : List Value := vs.flatMap cellsV
/-- The slice of values at a. -/
def Vals (w : World) (a : Option Addr) (vs : List V) : Prop :=
  0 < vs.length → ∃ lb off, a = some ⟨lb, off, none⟩ ∧ ∀ i v, vs[i]? = some v →
    w.cell? ⟨lb, off + i * 3, none⟩ = some (.int .i64 v.1) ∧ w.cell? ⟨lb, off + i * 3 + 1, none⟩ = some (.int .i64 v.2.1) ∧ w.cell? ⟨lb, off + i * 3 + 2, none⟩ = some (str v.2.2)
theorem Vals.ext {w w' : World} {a : Option Addr} {vs : List V} (h : Vals w a vs) (he : Ext w w') : Vals w' a vs := fun hn => by
  obtain ⟨lb, off, h1, h2⟩ := h hn
  exact ⟨lb, off, h1, fun i v hv => ⟨Ext.cell he (h2 i v hv).1, Ext.cell he (h2 i v hv).2.1, Ext.cell he (h2 i v hv).2.2⟩⟩
theorem flatV_get : ∀ (vs : List V) (k : Nat) (v : V), vs[k]? = some v → (flatV vs)[k * 3]? = some (.int .i64 v.1) ∧ (flatV vs)[k * 3 + 1]? = some (.int .i64 v.2.1) ∧ (flatV vs)[k * 3 + 2]? = some (str v.2.2)
  | [], k, v, h => by simp at h
  | u :: vs, 0, v, h => by simp at h; subst h; simp [flatV, cellsV]
  | u :: vs, k + 1, v, h => by
    have := flatV_get vs k v (by simpa using h)
    rw [show (k + 1) * 3 = k * 3 + 3 from by omega]
    simpa [flatV, cellsV] using this
theorem flatV_append (a b : List V) : flatV (a ++ b) = flatV a ++ flatV b := by simp [flatV]
theorem flatV_len (a : List V) : (flatV a).length = a.length * 3 := by
  induction a with
  | nil => rfl
  | cons v a ih => simp [flatV, cellsV] at ih ⊢; omega
theorem Sl.vals {w : World} {g : Option Nat} {n cap : Nat} {vs : List V} (h : Sl w 53 3 g n cap (flatV vs)) : Vals w (adr g) vs ∧ vs.length = n := by
  have hn : vs.length = n := by have := h.len; rw [flatV_len] at this; omega
  refine ⟨fun hp => ?_, hn⟩
  obtain ⟨b, rfl⟩ := h.some_of_pos (by omega)
  refine ⟨b, 0, rfl, fun i v hv => ?_⟩
  obtain ⟨h0, h1, h2⟩ := flatV_get vs i v hv
  rw [Nat.zero_add]
  exact ⟨h.cell h0, h.cell h1, h.cell h2⟩

/-- The error's number of one value, of many. -/
def checkV (v : V) : Int := if v.1 = 1 then (if v.2.2 = [] then 0 else 21) else if v.1 = 2 ∧ v.2.1 = 0 then (if v.2.2.length ≤ 64 then 0 else 2) else 21
def checkL : List V → Int
  | [] => 0
  | v :: vs => if checkV v = 0 then checkL vs else checkV v
theorem checkL_at : ∀ (vs : List V) (i : Nat), (∀ (j : Nat) (v : V), j < i → vs[j]? = some v → checkV v = 0) → ∀ v, vs[i]? = some v → checkV v ≠ 0 → checkL vs = checkV v
  | [], i, _, v, h, _ => by simp at h
  | u :: vs, 0, _, v, h, hv => by simp at h; subst h; simp [checkL, hv]
  | u :: vs, i + 1, hl, v, h, hv => by
    have h0 := hl 0 u (by omega) (by simp)
    simp only [checkL, h0, if_true]
    exact checkL_at vs i (fun j v hj hv => hl (j + 1) v (by omega) (by simpa using hv)) v (by simpa using h) hv
theorem checkL_all : ∀ (vs : List V), (∀ (j : Nat) (v : V), vs[j]? = some v → checkV v = 0) → checkL vs = 0
  | [], _ => rfl
  | u :: vs, hl => by
    have h0 := hl 0 u (by simp)
    simp only [checkL, h0, if_true]
    exact checkL_all vs fun j v hv => hl (j + 1) v (by simpa using hv)
theorem checkL_zero : ∀ (vs : List V), checkL vs = 0 → ∀ v ∈ vs, checkV v = 0
  | [], _, v, hv => by cases hv
  | u :: vs, h, v, hv => by
    simp only [checkL] at h
    split at h
    · rename_i hu
      rcases List.mem_cons.1 hv with rfl | hv
      · exact hu
      · exact checkL_zero vs h v hv
    · rename_i hu; exact absurd h hu

set_option maxHeartbeats 4000000 in
theorem Check_ok (a : Option Addr) (n cap : Nat) (vs : List V) (w : World) (hn : vs.length = n) (hc : Vals w a vs) (hsz : n ≤ 140737488355328) (ht : ∀ v ∈ vs, v.2.2.length ≤ 140737488355328) :
    Calls Try.prog 16 #[.slice a n cap] w (fun e w' => e = .returned (.int .i64 (checkL vs)) ∧ Ext w w') := by
  have HN := Lib.hid hn; clear hn
  have HC := Lib.hid hc; clear hc
  have HT := Lib.hid ht; clear ht
  have hem := empty_toList
  go_enter Try.func16, Try.ntmps16
  go_wp2
  go_loopg [7] n (fun k v7 wr => ∃ i : Nat, i + k = n ∧ v7 = .int .i64 i ∧ Ext w wr ∧ ∀ (j : Nat) (v : V), j < i → vs[j]? = some v → checkV v = 0)
  case atStart => exact ⟨0, by omega, rfl, Ext.refl _, fun j v hj => by omega⟩
  case round =>
    obtain ⟨i, hik, rfl, hEr, hall⟩ := hrel
    have HALL := Lib.hid hall; clear hall
    by_cases hlt : i < n
    · obtain ⟨lb, off, ha, hcell⟩ := (HC.out.ext hEr) (by have := HN.out; omega)
      subst ha
      obtain ⟨⟨kk, m, t⟩, hv⟩ : ∃ v, vs[i]? = some v := ⟨vs[i]'(by rw [HN.out]; exact hlt), by rw [List.getElem?_eq_getElem]⟩
      obtain ⟨c0, c1, c2⟩ := hcell i _ hv
      have htl : t.length ≤ 140737488355328 := HT.out _ (List.mem_of_getElem? hv)
      have HV := Lib.hid hv; clear hv hcell
      simp only [] at c0 c1 c2
      have hsz := bs_size t
      have htl2 := bs_toList t
      have HIK := Lib.hid hik; clear hik
      by_cases g1 : kk = 1
      · have hk1 : (kk == 1) = true := by simp [g1]
        have hk2 : (kk == 2) = false := by simp [g1]
        by_cases g2 : t = []
        · have ht' : t.isEmpty = true := by simp [g2]
          have hck : checkV (kk, m, t) = 0 := by simp [checkV, *]
          have HCK := Lib.hid hck
          clear hck g1 g2
          go_wp2
          go_roundg (gk - 1)
          case measure => have := HIK.out; omega
          case rel => exact ⟨i + 1, by have := HIK.out; omega, by go_num, hEr.alloc _, fun j v hj hv => by
            rcases Nat.lt_or_ge j i with hji | hji
            · exact HALL.out j v hji hv
            · have : j = i := by omega
              subst this
              rw [HV.out] at hv
              cases hv
              exact HCK.out⟩
        · have ht' : t.isEmpty = false := by simp [g2]
          have hck : checkV (kk, m, t) = 21 := by simp [checkV, *]
          have hfin := checkL_at vs i HALL.out _ HV.out (by rw [hck]; decide)
          have hfin2 : checkL vs = 21 := by rw [hfin, hck]
          have HF := Lib.hid hfin2
          clear hck hfin hfin2 g1 g2
          go_wp2
          go_ret
          exact ⟨by rw [HF.out]; rfl, hEr.alloc _⟩
      · have hk1 : (kk == 1) = false := by simp [g1]
        by_cases g2 : kk = 2
        · have hk2 : (kk == 2) = true := by simp [g2]
          by_cases g3 : m = 0
          · have hm0 : (m == 0) = true := by simp [g3]
            by_cases g4 : t.length ≤ 64
            · have g4' : decide ((t.length : Int) ≤ 64) = true := by simp; omega
              have hck : checkV (kk, m, t) = 0 := by simp [checkV, *]
              have HCK := Lib.hid hck
              clear hck g1 g2 g3 g4
              go_wp2
              go_roundg (gk - 1)
              case measure => have := HIK.out; omega
              case rel => exact ⟨i + 1, by have := HIK.out; omega, by go_num, hEr.alloc _, fun j v hj hv => by
                rcases Nat.lt_or_ge j i with hji | hji
                · exact HALL.out j v hji hv
                · have : j = i := by omega
                  subst this
                  rw [HV.out] at hv
                  cases hv
                  exact HCK.out⟩
            · have g4' : decide ((t.length : Int) ≤ 64) = false := by simp; omega
              have hck : checkV (kk, m, t) = 2 := by simp [checkV, *]
              have hfin := checkL_at vs i HALL.out _ HV.out (by rw [hck]; decide)
              have hfin2 : checkL vs = 2 := by rw [hfin, hck]
              have HF := Lib.hid hfin2
              clear hck hfin hfin2 g1 g2 g3 g4
              go_wp2
              go_ret
              exact ⟨by rw [HF.out]; rfl, hEr.alloc _⟩
          · have hm0 : (m == 0) = false := by simp [g3]
            have hck : checkV (kk, m, t) = 21 := by simp [checkV, *]
            have hfin := checkL_at vs i HALL.out _ HV.out (by rw [hck]; decide)
            have hfin2 : checkL vs = 21 := by rw [hfin, hck]
            have HF := Lib.hid hfin2
            clear hck hfin hfin2 g1 g2 g3
            go_wp2
            go_ret
            exact ⟨by rw [HF.out]; rfl, hEr.alloc _⟩
        · have hk2 : (kk == 2) = false := by simp [g2]
          have hck : checkV (kk, m, t) = 21 := by simp [checkV, *]
          have hfin := checkL_at vs i HALL.out _ HV.out (by rw [hck]; decide)
          have hfin2 : checkL vs = 21 := by rw [hfin, hck]
          have HF := Lib.hid hfin2
          clear hck hfin hfin2 g1 g2
          go_wp2
          go_ret
          exact ⟨by rw [HF.out]; rfl, hEr.alloc _⟩
    · have hfin : checkL vs = 0 := checkL_all vs fun j v hv => HALL.out j v (by have := (List.getElem?_eq_some_iff.1 hv).1; have := HN.out; omega) hv
      go_wp2
      go_ret
      exact ⟨by rw [hfin]; rfl, hEr⟩

end Go.Proofs.Ytlmlkphdalkfdaa
