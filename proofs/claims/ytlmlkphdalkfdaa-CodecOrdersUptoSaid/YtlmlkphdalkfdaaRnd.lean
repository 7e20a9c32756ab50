/- CodecRound: walked. -/
import Derived.Test.YtlmlkphdalkfdaaGet
namespace Go.Proofs.Ytlmlkphdalkfdaa
open Go.RowKit

theorem bytesLess_getN : ∀ (x y : List UInt8), x.length = y.length → Op.bytesLess x y = decide (getN x < getN y)
  | [], [], _ => by simp [Op.bytesLess, getN]
  | [], _ :: _, h => by simp at h
  | _ :: _, [], h => by simp at h
  | a :: x, b :: y, h => by
    simp only [List.length_cons, Nat.add_right_cancel_iff] at h
    have ih := bytesLess_getN x y h
    have hx := getN_lt x.length x rfl
    have hy := getN_lt y.length y rfl
    unfold Op.bytesLess
    rw [ih, getN_cons, getN_cons, h]
    rw [h] at hx
    have hp : 0 < 256 ^ y.length := Nat.pow_pos (by decide)
    generalize 256 ^ y.length = B at *
    generalize getN x = X at *
    generalize getN y = Y at *
    rw [Bool.eq_iff_iff]
    simp only [Bool.or_eq_true, Bool.and_eq_true, decide_eq_true_eq, beq_iff_eq]
    rw [UInt8.lt_iff_toNat_lt]
    constructor
    · rintro (h1 | ⟨rfl, h2⟩)
      · have : (a.toNat + 1) * B ≤ b.toNat * B := Nat.mul_le_mul_right B h1
        rw [Nat.add_mul] at this
        omega
      · omega
    · intro h1
      rcases Nat.lt_trichotomy a.toNat b.toNat with h2 | h2 | h2
      · exact .inl h2
      · have := UInt8.toNat_inj.1 h2
        subst this
        exact .inr ⟨rfl, by omega⟩
      · have : (b.toNat + 1) * B ≤ a.toNat * B := Nat.mul_le_mul_right B h2
        rw [Nat.add_mul] at this
        omega
theorem bytesLess_num (n m : Nat) (hn : n < 18446744073709551616) (hm : m < 18446744073709551616) : Op.bytesLess (numBE n 8) (numBE m 8) = decide (n < m) := by
  rw [bytesLess_getN _ _ (by rw [numBE_len, numBE_len]), getN_numBE, getN_numBE, Nat.mod_eq_of_lt (show n < 256 ^ 8 from hn), Nat.mod_eq_of_lt (show m < 256 ^ 8 from hm)]
theorem checkL_one (v : V) : checkL [v] = checkV v := by
  simp only [checkL]; split
  · rename_i h; exact h.symm
  · rfl
theorem encO_one (v : V) (h : checkV v = 0) : encO [v] = encV v := by
  unfold encO; rw [checkL_one, if_pos h]; simp [encL]

set_option maxRecDepth 100000 in
set_option maxHeartbeats 8000000 in
theorem round_any (n m : Nat) (a : Option Addr) (k cap : Nat) (vs : List V) (w : World) (hn : n < 18446744073709551616) (hm : m < 18446744073709551616) (hk : vs.length = k) (hc : Vals w a vs) (hsz : k ≤ 2000000) (hf : Fine vs) :
    Calls Try.prog 9 #[.int .u64 (n : Int), .int .u64 (m : Int), .slice a k cap] w (fun e w' => e = .returned (.bool true) ∧ Ext w w') := by
  have HN := Lib.hid hk; clear hk
  have HC := Lib.hid hc; clear hc
  have HF1 : Hid (∀ v ∈ vs, v.2.2.length ≤ 140737488355328) := fun v hv => (hf v hv).1
  have HF2 : Hid (∀ v ∈ vs, -9223372036854775808 ≤ v.2.1 ∧ v.2.1 ≤ 9223372036854775807) := fun v hv => (hf v hv).2
  clear hf
  have h8 : putN 8 = 8 := by decide
  go_enter Try.func9, Try.ntmps9
  go_wp2_with fail
  refine (awake_ok w).mono ?_
  rintro e w1 ⟨rfl, hE1⟩
  go_wp2_with fail
  refine (Put_ok (.slice none 0 0) [] n 8 w1 (BytesAt.nil w1) hn (by simp) (by decide) (by decide)).mono ?_
  rintro e w2 ⟨g2, cap2, rfl, hB2, hg2, hE2⟩
  rw [h8] at hB2 ⊢
  have hB2' : Bs w2 g2 8 cap2 (numBE n 8) := by simpa using hB2
  have HB2 := Lib.hid hB2'
  clear hB2 hB2' hg2
  go_wp2_with fail
  refine (Put_ok (.slice none 0 0) [] m 8 w2 (BytesAt.nil w2) hm (by simp) (by decide) (by decide)).mono ?_
  rintro e w3 ⟨g3, cap3, rfl, hB3, hg3, hE3⟩
  rw [h8] at hB3 ⊢
  have hB3' : Bs w3 g3 8 cap3 (numBE m 8) := by simpa using hB3
  have HB3 := Lib.hid hB3'
  have hE13 := (hE1.trans hE2).trans hE3
  have hla := numBE_len n 8
  have hlb := numBE_len m 8
  have hga : getN (numBE n 8) % 18446744073709551616 = n := by rw [getN_numBE]; omega
  have hgb : getN (numBE m 8) % 18446744073709551616 = m := by rw [getN_numBE]; omega
  have hless := bytesLess_num n m hn hm
  have hta := bs_toList (numBE n 8)
  have htb := bs_toList (numBE m 8)
  have hget1 := Get_ok _ _ w3 (HB2.out.ext hE3).at (by omega)
  have hget2 := Get_ok _ _ w3 HB3.out.at (by omega)
  rw [hga] at hget1
  rw [hgb] at hget2
  have hcv1 := conv_bytes (HB2.out.ext hE3)
  have hcv2 := conv_bytes HB3.out
  generalize numBE n 8 = xa at *
  generalize numBE m 8 = xb at *
  have HG1 := Lib.hid hget1
  have HG2 := Lib.hid hget2
  clear hB3 hB3' hg3 h8 hga hgb hget1 hget2 hla hlb
  go_wp2_with fail
  refine HG1.out.mono ?_
  rintro e w4 ⟨rfl, rfl⟩
  go_wp2_with fail
  refine HG2.out.mono ?_
  rintro e w4 ⟨rfl, rfl⟩
  go_wp2
  clear hcv1 hcv2 hta htb hless HG1 HG2 HB2 HB3
  go_loopg [9, 52] k (fun gk v9 v52 wr => ∃ (i : Nat) (g : Option Nat) (cap : Nat) (out : List UInt8), i + gk = k ∧ v9 = slv g out.length cap ∧ v52 = .int .i64 i ∧ out = encL (vs.take i) ∧ Bs wr g out.length cap out ∧ (∀ b, g = some b → w.heap.size ≤ b) ∧ Ext w wr ∧
    ∀ (j : Nat) (v : V), j < i → vs[j]? = some v → checkV v = 0)
  case atStart => exact ⟨0, none, 0, [], by omega, rfl, rfl, by simp [encL], Sl.nil _ _ _, by simp, hE13, fun j v hj => by omega⟩
  case round =>
    obtain ⟨i, g, cap1, out, hik, rfl, rfl, ho, hB, hg, hE, hall⟩ := hrel
    have HALL := Lib.hid hall; clear hall
    have HB := Lib.hid hB; clear hB
    have HG := Lib.hid hg; clear hg
    by_cases hlt : i < k
    · obtain ⟨lb, off, ha, hcell⟩ := (HC.out.ext hE) (by have := HN.out; omega)
      subst ha
      obtain ⟨⟨kk, mm, t⟩, hv⟩ : ∃ v, vs[i]? = some v := ⟨vs[i]'(by rw [HN.out]; exact hlt), by rw [List.getElem?_eq_getElem]⟩
      obtain ⟨c0, c1, c2⟩ := hcell i _ hv
      simp only [] at c0 c1 c2
      have hmem := List.mem_of_getElem? hv
      have hf1 := HF1.out _ hmem
      have hf2 := HF2.out _ hmem
      have hol : out.length ≤ 131 * i := by
        rw [ho]
        refine Nat.le_trans (encL_len _ (fun u hu => ?_)) ?_
        · obtain ⟨j, hj, rfl⟩ := List.getElem_of_mem hu
          rw [List.getElem_take]
          have hj' : j < i ∧ j < vs.length := by rw [List.length_take] at hj; omega
          exact HALL.out j _ hj'.1 (List.getElem?_eq_getElem hj'.2)
        · rw [List.length_take]; omega
      have hnext : encL (vs.take (i + 1)) = out ++ encV (kk, mm, t) := by
        rw [ho, List.take_add_one, hv, encL_append]; simp [encL]
      have HNEXT := Lib.hid hnext
      have HIK := Lib.hid hik
      have HV := Lib.hid hv
      clear hnext ho hik hv hcell hmem
      have hblk := blk_new2 wr (.cells #[.int .i64 kk, .int .i64 mm, str t] 53) (.cells #[.int .i64 kk, .int .i64 mm, str t] 53)
      have hEa : Ext w ((wr.alloc (.cells #[.int .i64 kk, .int .i64 mm, str t] 53)).alloc (.cells #[.int .i64 kk, .int .i64 mm, str t] 53)) := (hE.alloc _).alloc _
      have hEb : Ext wr ((wr.alloc (.cells #[.int .i64 kk, .int .i64 mm, str t] 53)).alloc (.cells #[.int .i64 kk, .int .i64 mm, str t] 53)) := ((Ext.refl wr).alloc _).alloc _
      have hen := Encode_ok (some ⟨wr.heap.size + 1, 0, none⟩) 1 1 [(kk, mm, t)] ((wr.alloc (.cells #[.int .i64 kk, .int .i64 mm, str t] 53)).alloc (.cells #[.int .i64 kk, .int .i64 mm, str t] 53)) rfl (vals_block (by simpa [flatV, cellsV] using hblk)) (by omega)
        (fun v hv => by simp at hv; subst hv; exact hf1) (fun v hv => by simp at hv; subst hv; exact hf2)
      rw [checkL_one] at hen
      have HEN := Lib.hid hen
      clear hblk hen hf1 hf2
      go_wp2_with fail
      refine HEN.out.mono ?_
      rintro e w5 ⟨g5, m5, c5, rfl, hB5, hg5, hE5⟩
      have hE6 := hEa.trans hE5
      have hB' := HB.out.ext (hEb.trans hE5)
      by_cases h0 : checkV (kk, mm, t) = 0
      · rw [encO_one _ h0] at hB5
        rw [h0]
        have hal := hB5.at
        have hm5 := hB5.bytes
        have hlv := encV_len h0
        have H0 := Lib.hid h0
        have HB' := Lib.hid hB'
        have HAL := Lib.hid hal
        clear h0 hB' hal hB5 hg5 hEa hEb HEN c0 c1 c2
        go_wp2_with (at_builtin; refine app_bytes ei_byte rfl (.tmp 71) (.tmp 72) rfl (g := g) (n := out.length) (cap := cap1) (by rfl) (xs := bc out) HB'.out (by rfl) HAL.out (by omega) ?_)
        intro g7 cap7 w7 hS7 hT7 hat7
        have hB7 : Bs w7 g7 (out ++ encV (kk, mm, t)).length cap7 (out ++ encV (kk, mm, t)) := by
          unfold Bs
          rw [bc_append, List.length_append, hm5]; exact hS7
        have hg7 : ∀ b, g7 = some b → w.heap.size ≤ b := fun b hb => by
          subst hb
          have := hE6.size
          rcases hat7 with h | h
          · exact HG.out _ h.symm
          · simp at h; omega
        have hE7 : Ext w w7 := Touch.ext ((hE6.touch _).trans' hT7 (fun i hi h => h)) (fun i hi e => by have := HG.out i e; omega)
        have hlen7 : (out ++ encV (kk, mm, t)).length = out.length + (encV (kk, mm, t)).length := by simp
        have HB7 := Lib.hid hB7
        have HG7 := Lib.hid hg7
        have HL7 := Lib.hid hlen7
        clear hS7 hT7 hat7 hB7 hg7 hlen7
        go_wp2
        go_roundg (k - i - 1)
        case measure => have := HIK.out; omega
        case rel => exact ⟨i + 1, g7, cap7, out ++ encV (kk, mm, t), by have := HIK.out; omega, by rw [HL7.out, hm5], by go_num, HNEXT.out.symm, HB7.out, HG7.out, hE7, fun j v hj hv => by
          rcases Nat.lt_or_ge j i with hji | hji
          · exact HALL.out j v hji hv
          · have : j = i := by omega
            subst this
            rw [HV.out] at hv
            cases hv
            exact H0.out⟩
      · have hne : (checkV (kk, mm, t) != 0) = true := by simp [h0]
        have hcl := checkL_at vs i HALL.out _ HV.out h0
        have hne2 : (checkL vs != 0) = true := by rw [hcl]; simp [h0]
        have HC2 := Lib.hid (HC.out.ext hE6)
        clear h0 hcl hB5 hg5 hEa hEb HEN c0 c1 c2 hB'
        go_wp2_with fail
        refine (Encode_ok _ k cap vs w5 HN.out HC2.out (by omega) HF1.out HF2.out).mono ?_
        rintro e w6 ⟨g6, m6, c6, rfl, hB6, hg6, hE7⟩
        clear hB6 hg6
        go_wp2
        go_ret
        exact ⟨rfl, hE6.trans hE7⟩
    · have hi : i = k := by omega
      have hck : checkL vs = 0 := checkL_all vs fun j v hv => HALL.out j v (by have := (List.getElem?_eq_some_iff.1 hv).1; have := HN.out; omega) hv
      have he : out = encL vs := by rw [ho, List.take_of_length_le (by have := HN.out; omega)]
      have hen : encO vs = encL vs := if_pos hck
      have hec := Encode_ok a k cap vs wr HN.out (HC.out.ext hE) (by omega) HF1.out HF2.out
      rw [hen, hck] at hec
      have HEC := Lib.hid hec
      have HE := Lib.hid he
      clear ho hik hck hen hec he hi
      go_wp2_with fail
      refine HEC.out.mono ?_
      rintro e w5 ⟨g5, m5, c5, rfl, hB5, hg5, hE5⟩
      have hcv5 := conv_bytes hB5
      have hcvo := conv_bytes (HB.out.ext hE5)
      rw [HE.out] at hcvo ⊢
      have htl := bs_toList (encL vs)
      clear hB5 hg5 HEC
      go_wp2
      go_ret
      exact ⟨rfl, hE.trans hE5⟩

end Go.Proofs.Ytlmlkphdalkfdaa
