/- annalsref02.Check, Number, Encode, walked. -/
import Derived.Test.YtlmlkphdalkfdaaSums
namespace Go.Proofs.Ytlmlkphdalkfdaa
open Go.RowKit

set_option maxHeartbeats 4000000 in
theorem RCheck_ok (a : Option Addr) (n cap : Nat) (vs : List V) (w : World) (hn : vs.length = n) (hc : Vals w a vs) (hsz : n ≤ 140737488355328) (ht : ∀ v ∈ vs, v.2.2.length ≤ 140737488355328) :
    Calls Try.prog 27 #[.slice a n cap] w (fun e w' => e = .returned (.int .i64 (checkL vs)) ∧ Ext w w') := by
  have HN := Lib.hid hn; clear hn
  have HC := Lib.hid hc; clear hc
  have HT := Lib.hid ht; clear ht
  have hem := empty_toList
  go_enter Try.func27, Try.ntmps27
  go_wp2
  go_loopg [3] n (fun k v3 wr => ∃ i : Nat, i + k = n ∧ v3 = .int .i64 i ∧ Ext w wr ∧ ∀ (j : Nat) (v : V), j < i → vs[j]? = some v → checkV v = 0)
  case atStart => exact ⟨0, by omega, rfl, Ext.refl _, fun j v hj => by omega⟩
  case round =>
    obtain ⟨i, hik, rfl, hEr, hall⟩ := hrel
    have HALL := Lib.hid hall; clear hall
    by_cases hlt : i < n
    · obtain ⟨lb, off, ha, hcell⟩ := (HC.out.ext hEr) (by have := HN.out; omega)
      subst ha
      obtain ⟨⟨kk, m, t⟩, hv⟩ : ∃ v, vs[i]? = some v := ⟨vs[i]'(by rw [HN.out]; exact hlt), by rw [List.getElem?_eq_getElem]⟩
      obtain ⟨c0, c1, c2⟩ := hcell i _ hv
      have htl : t.length ≤ 140737488355328 := HT.out _ (List.mem_of_getElem? hv)
      have HV := Lib.hid hv; clear hv hcell
      simp only [] at c0 c1 c2
      have hsz := bs_size t
      have htl2 := bs_toList t
      have HIK := Lib.hid hik; clear hik
      by_cases g1 : kk = 1
      · have hk1 : (kk == 1) = true := by simp [g1]
        have hn1 : (kk != 1) = false := by simp [g1]
        have hk2 : (kk == 2) = false := by simp [g1]
        by_cases g2 : t = []
        · have ht' : t.isEmpty = true := by simp [g2]
          have hck : checkV (kk, m, t) = 0 := by simp [checkV, *]
          have HCK := Lib.hid hck
          clear hck g1 g2
          go_wp2
          go_roundg (gk - 1)
          case measure => have := HIK.out; omega
          case rel => exact ⟨i + 1, by have := HIK.out; omega, by go_num, hEr.alloc _, fun j v hj hv => by
            rcases Nat.lt_or_ge j i with hji | hji
            · exact HALL.out j v hji hv
            · have : j = i := by omega
              subst this
              rw [HV.out] at hv
              cases hv
              exact HCK.out⟩
        · have ht' : t.isEmpty = false := by simp [g2]
          have hck : checkV (kk, m, t) = 21 := by simp [checkV, *]
          have hfin := checkL_at vs i HALL.out _ HV.out (by rw [hck]; decide)
          have hfin2 : checkL vs = 21 := by rw [hfin, hck]
          have HF := Lib.hid hfin2
          clear hck hfin hfin2 g1 g2
          go_wp2
          go_ret
          exact ⟨by rw [HF.out]; rfl, hEr.alloc _⟩
      · have hk1 : (kk == 1) = false := by simp [g1]
        have hn1 : (kk != 1) = true := by simp [g1]
        by_cases g2 : kk = 2
        · have hk2 : (kk == 2) = true := by simp [g2]
          have hn2 : (kk != 2) = false := by simp [g2]
          by_cases g3 : m = 0
          · have hm0 : (m != 0) = false := by simp [g3]
            by_cases g4 : t.length ≤ 64
            · have g4' : ¬ (64 : Int) < (t.length : Int) := by omega
              have hck : checkV (kk, m, t) = 0 := by simp [checkV, *]
              have HCK := Lib.hid hck
              clear hck g1 g2 g3 g4
              go_wp2
              go_roundg (gk - 1)
              case measure => have := HIK.out; omega
              case rel => exact ⟨i + 1, by have := HIK.out; omega, by go_num, hEr.alloc _, fun j v hj hv => by
                rcases Nat.lt_or_ge j i with hji | hji
                · exact HALL.out j v hji hv
                · have : j = i := by omega
                  subst this
                  rw [HV.out] at hv
                  cases hv
                  exact HCK.out⟩
            · have g4' : (64 : Int) < (t.length : Int) := by omega
              have hck : checkV (kk, m, t) = 2 := by simp [checkV, *]
              have hfin := checkL_at vs i HALL.out _ HV.out (by rw [hck]; decide)
              have hfin2 : checkL vs = 2 := by rw [hfin, hck]
              have HF := Lib.hid hfin2
              clear hck hfin hfin2 g1 g2 g3 g4
              go_wp2
              go_ret
              exact ⟨by rw [HF.out]; rfl, hEr.alloc _⟩
          · have hm0 : (m != 0) = true := by simp [g3]
            have hck : checkV (kk, m, t) = 21 := by simp [checkV, *]
            have hfin := checkL_at vs i HALL.out _ HV.out (by rw [hck]; decide)
            have hfin2 : checkL vs = 21 := by rw [hfin, hck]
            have HF := Lib.hid hfin2
            clear hck hfin hfin2 g1 g2 g3
            go_wp2
            go_ret
            exact ⟨by rw [HF.out]; rfl, hEr.alloc _⟩
        · have hk2 : (kk == 2) = false := by simp [g2]
          have hn2 : (kk != 2) = true := by simp [g2]
          have hck : checkV (kk, m, t) = 21 := by simp [checkV, *]
          have hfin := checkL_at vs i HALL.out _ HV.out (by rw [hck]; decide)
          have hfin2 : checkL vs = 21 := by rw [hfin, hck]
          have HF := Lib.hid hfin2
          clear hck hfin hfin2 g1 g2
          go_wp2
          go_ret
          exact ⟨by rw [HF.out]; rfl, hEr.alloc _⟩
    · have hfin : checkL vs = 0 := checkL_all vs fun j v hv => HALL.out j v (by have := (List.getElem?_eq_some_iff.1 hv).1; have := HN.out; omega) hv
      go_wp2
      go_ret
      exact ⟨by rw [hfin]; rfl, hEr⟩

theorem bs_append (a b : List UInt8) : bs a ++ bs b = bs (a ++ b) := by
  unfold bs
  exact ByteArray.mk_append_mk a b
theorem u8_mod (m : Nat) : IntKind.u8.wrap ((m % 256 : Nat) : Int) = ((UInt8.ofNat m).toNat : Int) := by
  rw [u8_of, UInt8.toNat_ofNat', UInt8.toNat_ofNat']; omega

set_option maxHeartbeats 4000000 in
theorem RNumber_ok (n : Nat) (size : Int) (w : World) (hn : n < 18446744073709551616) (hs1 : -9223372036854775808 ≤ size) (hs2 : size ≤ 9223372036854775807) :
    Calls Try.prog 21 #[.int .u64 (n : Int), .int .i64 size] w
      (fun e w' => e = .returned (str (numBE n (putN size))) ∧ Ext w w') := by
  have hpn : (putN size : Int) = min (max size 0) 8 := by unfold putN; omega
  generalize hS : putN size = S at *
  have HPN := Lib.hid hS; clear hS
  have hE : (ByteArray.mk #[]) = bs [] := rfl
  go_enter Try.func21, Try.ntmps21
  go_wp2
  clear hE
  go_loopg [0, 5, 6] S (fun k v0 v5 v6 wr => ∃ i : Nat, i + k = S ∧ v0 = .int .u64 ((n / 256 ^ i : Nat) : Int) ∧ v5 = str (numBE n i) ∧ v6 = .int .i64 i ∧ Ext w wr)
  case atStart => exact ⟨0, by omega, by simp, rfl, rfl, Ext.refl _⟩
  case round =>
    obtain ⟨i, hik, rfl, rfl, rfl, hE⟩ := hrel
    have hnx : n / 256 ^ i / 256 = n / 256 ^ (i + 1) := by rw [Nat.div_div_eq_div_mul, Nat.pow_succ]
    have hq : numBE n (i + 1) = UInt8.ofNat (n / 256 ^ i) :: numBE n i := rfl
    have hlen := numBE_len n i
    have hle : n / 256 ^ i ≤ n := Nat.div_le_self _ _
    have hmod : ((n / 256 ^ i : Nat) : Int) % 256 = ((UInt8.ofNat (n / 256 ^ i)).toNat : Int) := by rw [UInt8.toNat_ofNat']; omega
    generalize n / 256 ^ i = m at *
    by_cases hlt : i < S
    · have hi1 : (i : Int) < size := by omega
      have hi8 : (i : Int) < 8 := by omega
      generalize UInt8.ofNat m = x at *
      have hw8 : IntKind.u8.wrap (x.toNat : Int) = (x.toNat : Int) := by have := byte_lt x; rw [IntKind.wrap_u8']; omega
      have hcv := conv_at (bytes_block (n := 1) (c := 1) (l := [x]) (blk_new wr (.cells #[.int .u8 (x.toNat : Int)] 5)) rfl)
      have hap : bs [x] ++ bs (numBE n i) = bs (x :: numBE n i) := bs_append [x] _
      have hz1 := bs_size [x]
      have hz2 := bs_size (numBE n i)
      have HNX := Lib.hid hnx
      have HQ := Lib.hid hq
      have HIK := Lib.hid hik
      clear hnx hq hik
      go_wp2
      go_roundg (gk - 1)
      case measure => have := HIK.out; omega
      case rel => exact ⟨i + 1, by have := HIK.out; omega, by rw [← HNX.out]; rfl, by rw [HQ.out], by go_num, hE.alloc _⟩
    · have hi : i = S := by omega
      subst hi
      have h8 : (¬ (i : Int) < size) ∨ ¬ (i : Int) < 8 := by omega
      rcases h8 with h8 | h8
      · go_wp2
        go_ret
        exact ⟨by first | rfl | (rw [HPN.out]; rfl), hE⟩
      · by_cases h9 : (i : Int) < size
        · go_wp2
          go_ret
          exact ⟨by first | rfl | (rw [HPN.out]; rfl), hE⟩
        · go_wp2
          go_ret
          exact ⟨by first | rfl | (rw [HPN.out]; rfl), hE⟩

theorem bs_extract {t : List UInt8} {j : Nat} {x : UInt8} (h : t[j]? = some x) : (bs t).extract j (j + 1) = bs [x] := by
  unfold bs
  rw [ByteArray.extract_mk]
  have hl := (List.getElem?_eq_some_iff.1 h).1
  have hx := (List.getElem?_eq_some_iff.1 h).2
  rw [List.drop_eq_getElem_cons hl, hx, show j + 1 - j = 1 by omega]
  rfl

theorem u64_neg (m : Int) (h1 : -9223372036854775808 ≤ m) (h2 : m < 0) : IntKind.u64.wrap (IntKind.u64.wrap m - 9223372036854775808) = (((m + 9223372036854775808).toNat : Nat) : Int) := by
  simp [IntKind.wrap, IntKind.bits, IntKind.signed]; omega

set_option maxHeartbeats 4000000 in
theorem REncode_ok (a : Option Addr) (n cap : Nat) (vs : List V) (w : World) (hn : vs.length = n) (hc : Vals w a vs) (hsz : n ≤ 1000000000) (ht : ∀ v ∈ vs, v.2.2.length ≤ 140737488355328)
    (hi : ∀ v ∈ vs, -9223372036854775808 ≤ v.2.1 ∧ v.2.1 ≤ 9223372036854775807) :
    Calls Try.prog 15 #[.slice a n cap] w (fun e w' => e = .returned (.tuple #[str (encO vs), .int .i64 (checkL vs)]) ∧ Ext w w') := by
  have hck := RCheck_ok a n cap vs w hn hc (by omega) ht
  have HN := Lib.hid hn; clear hn
  have HC := Lib.hid hc; clear hc
  have HT := Lib.hid ht; clear ht
  have HI := Lib.hid hi; clear hi
  have hE0 : (ByteArray.mk #[]) = bs [] := rfl
  have hE1 : (ByteArray.mk #[1]) = bs [1] := rfl
  have hE2 : (ByteArray.mk #[2]) = bs [2] := rfl
  have hE3 : (ByteArray.mk #[255]) = bs [255] := rfl
  have hE4 : (ByteArray.mk #[0, 0]) = bs [0, 0] := rfl
  have hap := bs_append
  have hbz := bs_size
  go_enter Try.func15, Try.ntmps15
  go_wp2_with fail
  refine hck.mono ?_
  clear hck
  rintro e w1 ⟨rfl, hE⟩
  by_cases h0 : checkL vs = 0
  · have hall := checkL_zero vs h0
    have HALL := Lib.hid hall; clear hall
    have H0 := Lib.hid h0
    rw [h0]
    have HENC : Hid (encO vs = encL vs) := if_pos h0
    clear h0
    go_wp2
    go_loopg [5, 6] n (fun k v5 v6 wr => ∃ i : Nat, i + k = n ∧ v5 = str (encL (vs.take i)) ∧ v6 = .int .i64 i ∧ Ext w wr)
    case atStart => exact ⟨0, by omega, by simp [encL]; rfl, rfl, hE⟩
    case round =>
      clear hE
      obtain ⟨i, hik, rfl, rfl, hE⟩ := hrel
      by_cases hlt : i < n
      · obtain ⟨lb, off, ha, hcell⟩ := (HC.out.ext hE) (by have := HN.out; omega)
        subst ha
        obtain ⟨⟨kk, m, t⟩, hv⟩ : ∃ v, vs[i]? = some v := ⟨vs[i]'(by rw [HN.out]; exact hlt), by rw [List.getElem?_eq_getElem]⟩
        obtain ⟨c0, c1, c2⟩ := hcell i _ hv
        simp only [] at c0 c1 c2
        have hmem := List.mem_of_getElem? hv
        have hck := HALL.out _ hmem
        obtain ⟨hm1, hm2⟩ := HI.out _ hmem
        simp only [] at hm1 hm2
        have hol : (encL (vs.take i)).length ≤ 131 * i := by
          refine Nat.le_trans (encL_len _ (fun v hv => HALL.out v (List.mem_of_mem_take hv))) ?_
          rw [List.length_take]; omega
        have hnext : encL (vs.take (i + 1)) = encL (vs.take i) ++ encV (kk, m, t) := by
          rw [List.take_add_one, hv, encL_append]; simp [encL]
        generalize encL (vs.take i) = out at *
        have HNEXT := Lib.hid hnext; clear hnext hcell hmem
        have HIK := Lib.hid hik; clear hik hv
        by_cases h1 : kk = 1
        · subst h1
          by_cases hm0 : m < 0
          · have HN1 := Lib.hid (u64_neg m hm1 hm0)
            go_wp2_with fail
            rw [HN1.out]
            have hNN : (m + 9223372036854775808).toNat < 18446744073709551616 := by omega
            refine (RNumber_ok (m + 9223372036854775808).toNat 8 _ hNN (by decide) (by decide)).mono ?_
            rintro e w3 ⟨rfl, hE3⟩
            have h8 : putN 8 = 8 := by decide
            rw [h8]
            have henc : out ++ encV (1, m, t) = out ++ ([1] ++ numBE (m + 9223372036854775808).toNat 8) := by simp [encV]
            have hl8 := numBE_len (m + 9223372036854775808).toNat 8
            have hE5 := (hE.alloc (.cells #[.int .i64 1, .int .i64 m, str t] 53)).trans hE3
            clear hck h8 HN1 hNN hE3
            generalize (m + 9223372036854775808).toNat = N at *
            generalize numBE N 8 = nb at *
            have HENC1 := Lib.hid henc
            clear henc
            go_wp2
            go_roundg (gk - 1)
            case measure => have := HIK.out; omega
            case rel => exact ⟨i + 1, by have := HIK.out; omega, by rw [HNEXT.out, HENC1.out]; rfl, by go_num, hE5⟩
          · have HN1 : Hid (m + 9223372036854775808 = (((m + 9223372036854775808).toNat : Nat) : Int)) := by show _ = _; omega
            go_wp2_with fail
            rw [HN1.out]
            have hNN : (m + 9223372036854775808).toNat < 18446744073709551616 := by omega
            refine (RNumber_ok (m + 9223372036854775808).toNat 8 _ hNN (by decide) (by decide)).mono ?_
            rintro e w3 ⟨rfl, hE3⟩
            have h8 : putN 8 = 8 := by decide
            rw [h8]
            have henc : out ++ encV (1, m, t) = out ++ ([1] ++ numBE (m + 9223372036854775808).toNat 8) := by simp [encV]
            have hl8 := numBE_len (m + 9223372036854775808).toNat 8
            have hE5 := (hE.alloc (.cells #[.int .i64 1, .int .i64 m, str t] 53)).trans hE3
            clear hck h8 HN1 hNN hE3
            generalize (m + 9223372036854775808).toNat = N at *
            generalize numBE N 8 = nb at *
            have HENC1 := Lib.hid henc
            clear henc
            go_wp2
            go_roundg (gk - 1)
            case measure => have := HIK.out; omega
            case rel => exact ⟨i + 1, by have := HIK.out; omega, by rw [HNEXT.out, HENC1.out]; rfl, by go_num, hE5⟩
        · have hk : kk = 2 ∧ m = 0 ∧ t.length ≤ 64 := by
            unfold checkV at hck
            simp only [h1, if_false] at hck
            split at hck
            · rename_i h2
              split at hck
              · exact ⟨h2.1, h2.2, by assumption⟩
              · cases hck
            · cases hck
          obtain ⟨rfl, rfl, htl⟩ := hk
          clear hck h1
          obtain ⟨d0, d1, d2⟩ := blk3 (blk_new wr (.cells #[.int .i64 2, .int .i64 0, str t] 53))
          have hv0 : wr.heap.size < (wr.alloc (.cells #[.int .i64 2, .int .i64 0, str t] 53)).heap.size := by simp
          have hEr : Ext w (wr.alloc (.cells #[.int .i64 2, .int .i64 0, str t] 53)) := hE.alloc _
          go_wp2
          generalize wr.alloc (.cells #[.int .i64 2, .int .i64 0, str t] 53) = W2 at *
          go_loopg [5, 9] t.length (fun k v5 v9 wr => ∃ j : Nat, j + k = t.length ∧ v5 = str (out ++ [2] ++ escT (t.take j)) ∧ v9 = .int .i64 j ∧ wr = W2)
          case atStart => exact ⟨0, by omega, by simp [escT], rfl, rfl⟩
          case round =>
            obtain ⟨j, hjk, rfl, rfl, rfl⟩ := hrel
            have hol3 : (out ++ [2] ++ escT (t.take j)).length ≤ out.length + 1 + 2 * t.length := by
              have := escT_len (t.take j)
              have : (t.take j).length ≤ t.length := by rw [List.length_take]; omega
              simp; omega
            by_cases hlt2 : j < t.length
            · obtain ⟨x, hx⟩ : ∃ x, t[j]? = some x := ⟨_, List.getElem?_eq_getElem hlt2⟩
              have hbx := bs_get hx
              have hex := bs_extract hx
              have hnx : out ++ [2] ++ escT (t.take (j + 1)) = out ++ [2] ++ escT (t.take j) ++ esc1 x := by
                rw [List.take_add_one, hx, escT_append]; simp [escT]
              generalize out ++ [2] ++ escT (t.take j) = o at *
              have HNX := Lib.hid hnx; clear hnx hx
              have HJK := Lib.hid hjk; clear hjk
              by_cases hx0 : x = 0
              · have HX0 := Lib.hid hx0
                have hxz : ((x.toNat : Int) == 0) = true := by simp [hx0]
                clear hx0
                go_wp2
                go_roundg (t.length - j - 1)
                case measure => have := HJK.out; omega
                case rel => exact ⟨j + 1, by have := HJK.out; omega, by rw [HNX.out, esc1, if_pos HX0.out, HX0.out]; first | done | simp, by go_num, rfl⟩
              · have hxz : ((x.toNat : Int) == 0) = false := by
                  have : x.toNat ≠ 0 := fun e => hx0 (UInt8.toNat_inj.1 (by simpa using e))
                  simp; omega
                have HX0 := Lib.hid hx0; clear hx0
                go_wp2
                go_roundg (t.length - j - 1)
                case measure => have := HJK.out; omega
                case rel => exact ⟨j + 1, by have := HJK.out; omega, by rw [HNX.out, esc1, if_neg HX0.out], by go_num, rfl⟩
            · have hj : j = t.length := by omega
              subst hj
              rw [List.take_length] at hol3 ⊢
              have henc : out ++ encV (2, 0, t) = out ++ [2] ++ escT t ++ [0, 0] := by simp [encV]
              generalize out ++ [2] ++ escT t = o at *
              have HENC1 := Lib.hid henc
              clear henc
              go_wp2
              go_roundg (n - i - 1)
              case measure => have := HIK.out; omega
              case rel => exact ⟨i + 1, by have := HIK.out; omega, by rw [HNEXT.out, HENC1.out], by go_num, hEr⟩
      · have hi : i = n := by omega
        subst hi
        have he : encL (vs.take i) = encL vs := by rw [List.take_of_length_le (by rw [HN.out]; exact Nat.le_refl _)]
        rw [he]
        clear he
        go_wp2
        go_ret2
        exact ⟨by rw [H0.out, HENC.out]; rfl, hE⟩
  · have hne : (checkL vs != 0) = true := by simp [h0]
    have HENC : Hid (encO vs = []) := if_neg h0
    clear h0
    go_wp2
    go_ret2
    exact ⟨by rw [HENC.out]; rfl, hE⟩

end Go.Proofs.Ytlmlkphdalkfdaa
