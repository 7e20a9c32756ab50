/- CodecBack: walked. -/
import Derived.Test.YtlmlkphdalkfdaaBackL
namespace Go.Proofs.Ytlmlkphdalkfdaa
open Go.RowKit

theorem short_of (vs : List V) (h : checkL vs = 0) : ∀ v ∈ vs, v.2.2.length ≤ 140737488355328 := fun v hv => by
  rcases checkV_form (checkL_zero vs h v hv) with ⟨n, rfl⟩ | ⟨t, rfl, ht⟩
  · simp
  · simp only; omega

set_option maxHeartbeats 8000000 in
theorem back_any (a : Option Addr) (n cap : Nat) (vs : List V) (v : Value) (l : List UInt8) (w : World) (hn : vs.length = n) (hc : Vals w a vs) (hsz : n ≤ 2000000) (hf : Fine vs) (hv : BytesAt w v l) (hl : l.length ≤ 1000000000) :
    Calls Try.prog 6 #[.slice a n cap, v] w (fun e w' => e = .returned (.bool true) ∧ Ext w w') := by
  obtain ⟨la, lc, rfl, h0, hcc⟩ := hv
  have hv : BytesAt w (.slice la l.length lc) l := ⟨la, lc, rfl, h0, hcc⟩
  have HV := Lib.hid hv; clear hv h0 hcc
  have HN := Lib.hid hn; clear hn
  have HC := Lib.hid hc; clear hc
  have HF1 : Hid (∀ v ∈ vs, v.2.2.length ≤ 140737488355328) := fun v hv => (hf v hv).1
  have HF2 : Hid (∀ v ∈ vs, -9223372036854775808 ≤ v.2.1 ∧ v.2.1 ≤ 9223372036854775807) := fun v hv => (hf v hv).2
  clear hf
  have hol : (encO vs).length ≤ 1000000000 := by
    unfold encO
    split
    · rename_i h
      have := encL_len vs (checkL_zero vs h)
      have := HN.out
      omega
    · simp
  have hback : checkL vs = 0 → decOf (encO vs) = .inr vs := fun h => by
    unfold encO
    rw [if_pos h]
    exact dec_enc vs h HF2.out
  have HBACK := Lib.hid hback; clear hback
  go_enter Try.func6, Try.ntmps6
  go_wp2_with fail
  refine (awake_ok w).mono ?_
  rintro e w1 ⟨rfl, hE1⟩
  go_wp2_with fail
  refine (Encode_ok a n cap vs w1 HN.out (HC.out.ext hE1) (by omega) HF1.out HF2.out).mono ?_
  rintro e w2 ⟨g, m, c, rfl, hB, hg, hE2⟩
  have hE12 := hE1.trans hE2
  have hm := hB.bytes
  have HB := Lib.hid hB
  clear hB hg
  go_wp2_with fail
  refine (Decode_ok (adr g) m c (encO vs) w2 hm.symm HB.out.at hol).mono ?_
  rintro e w3 ⟨g3, m3, c3, rfl, hS, hg3, hE3⟩
  have hE13 := hE12.trans hE3
  have HS := Lib.hid hS
  clear hS hg3 HB hm
  by_cases h0 : checkL vs = 0
  · have hX1 := HBACK.out h0
    rw [hX1] at HS ⊢
    simp only [codeOf, placeOf, valsOf] at HS ⊢
    rw [h0]
    have hF1 := blk_new w3 (.cells #[.int .i64 0, .int .i64 0] 37)
    obtain ⟨z0, z1⟩ := blk2 hF1
    have hEb : Ext w3 (w3.alloc (.cells #[.int .i64 0, .int .i64 0] 37)) := (Ext.refl w3).alloc _
    have HS4 := Lib.hid (HS.out.ext hEb)
    have hE14 := hE13.trans hEb
    clear hF1 hEb hX1 h0 HS HBACK
    go_wp2_with fail
    generalize w3.alloc (.cells #[.int .i64 0, .int .i64 0] 37) = w4 at *
    generalize w3.heap.size = fb at *
    obtain ⟨hva, hna⟩ := HS4.out.vals
    refine (Same_ok (adr g3) a m3 n c3 cap vs vs w4 hna HN.out hva (HC.out.ext hE14) (by have := HN.out; omega) (by omega)).mono ?_
    rintro e w5 ⟨rfl, hE5⟩
    have hE15 := hE14.trans hE5
    rw [cmpL_self]
    clear hva hna z0 z1 HS4
    go_wp2_with fail
    refine (Decode_ok la l.length lc l _ rfl (HV.out.ext hE15) hl).mono ?_
    rintro e w6 ⟨g6, m6, c6, rfl, hS6, hg6, hE6⟩
    have hE16 := hE15.trans hE6
    have hF := blk_new w6 (.cells #[.int .i64 (codeOf (decOf l)), .int .i64 (placeOf (decOf l))] 37)
    obtain ⟨f0, f1⟩ := blk2 hF
    have hEa : Ext w6 (w6.alloc (.cells #[.int .i64 (codeOf (decOf l)), .int .i64 (placeOf (decOf l))] 37)) := (Ext.refl w6).alloc _
    have HS6 := Lib.hid (hS6.ext hEa)
    have hE17 := hE16.trans hEa
    have hvl := valsOf_len l
    clear hF hS6 hg6 hEa
    cases hX : decOf l with
    | inl cq =>
      obtain ⟨c, q⟩ := cq
      obtain ⟨hc0, hq⟩ := dec_fault l c q hX
      have hlen := HS6.out.vals.2
      rw [hX] at f0 f1 hlen
      simp only [codeOf, placeOf, valsOf, List.length_nil] at f0 f1 hlen
      subst hlen
      have hcb : ((c : Int) != 0) = true := by simp; omega
      have hqi : (q : Int) ≤ (l.length : Int) := by omega
      have hq0 : (0 : Int) ≤ (q : Int) := by omega
      have HX := Lib.hid hX
      rw [hX] at hE17
      clear hX hc0 hq
      simp only [codeOf, placeOf] at hE17 ⊢
      go_wp2
      go_ret
      exact ⟨rfl, hE17⟩
    | inr vs2 =>
      obtain ⟨hck, hen, hrg⟩ := enc_dec l vs2 hX
      rw [hX] at f0 f1 hE17 HS6 hvl
      simp only [codeOf, placeOf, valsOf] at f0 f1 hE17 HS6 hvl ⊢
      obtain ⟨hva, hna⟩ := HS6.out.vals
      have hcv := conv_at (HV.out.ext hE17)
      have hen2 : encO vs2 = l := by unfold encO; rw [if_pos hck, hen]
      have HX := Lib.hid hX
      have HNA := Lib.hid hna
      have HVA := Lib.hid hva
      have HCK := Lib.hid hck
      have HRG := Lib.hid hrg
      have HEN := Lib.hid hen2
      have hbt := bs_toList l
      clear hX hna hva hck hen hen2 hrg hcv
      go_wp2_with fail
      generalize w6.alloc (.cells #[.int .i64 0, .int .i64 0] 37) = w7 at *
      have hel := Encode_ok (adr g6) m6 c6 vs2 w7 HNA.out HVA.out (by have := HNA.out; omega) (short_of vs2 HCK.out) HRG.out
      rw [HCK.out, HEN.out] at hel
      refine hel.mono ?_
      rintro e w8 ⟨g8, m8, c8, rfl, hB8, hg8, hE8⟩
      have hcv8 := conv_bytes hB8
      have hcvl := conv_at (HV.out.ext (hE17.trans hE8))
      clear hel hB8 hg8
      go_wp2
      go_ret
      exact ⟨rfl, hE17.trans hE8⟩
  · have hcb : (checkL vs == 0) = false := by simp [h0]
    generalize codeOf (decOf (encO vs)) = cc at *
    generalize placeOf (decOf (encO vs)) = pp at *
    have hE15 : Ext w (w3.alloc (.cells #[.int .i64 (cc : Int), .int .i64 (pp : Int)] 37)) := hE13.alloc _
    clear h0 HS HBACK
    go_wp2_with fail
    refine (Decode_ok la l.length lc l _ rfl (HV.out.ext hE15) hl).mono ?_
    rintro e w6 ⟨g6, m6, c6, rfl, hS6, hg6, hE6⟩
    have hE16 := hE15.trans hE6
    have hF := blk_new w6 (.cells #[.int .i64 (codeOf (decOf l)), .int .i64 (placeOf (decOf l))] 37)
    obtain ⟨f0, f1⟩ := blk2 hF
    have hEa : Ext w6 (w6.alloc (.cells #[.int .i64 (codeOf (decOf l)), .int .i64 (placeOf (decOf l))] 37)) := (Ext.refl w6).alloc _
    have HS6 := Lib.hid (hS6.ext hEa)
    have hE17 := hE16.trans hEa
    have hvl := valsOf_len l
    clear hF hS6 hg6 hEa
    cases hX : decOf l with
    | inl cq =>
      obtain ⟨c, q⟩ := cq
      obtain ⟨hc0, hq⟩ := dec_fault l c q hX
      have hlen := HS6.out.vals.2
      rw [hX] at f0 f1 hlen
      simp only [codeOf, placeOf, valsOf, List.length_nil] at f0 f1 hlen
      subst hlen
      have hcb : ((c : Int) != 0) = true := by simp; omega
      have hqi : (q : Int) ≤ (l.length : Int) := by omega
      have hq0 : (0 : Int) ≤ (q : Int) := by omega
      have HX := Lib.hid hX
      rw [hX] at hE17
      clear hX hc0 hq
      simp only [codeOf, placeOf] at hE17 ⊢
      go_wp2
      go_ret
      exact ⟨rfl, hE17⟩
    | inr vs2 =>
      obtain ⟨hck, hen, hrg⟩ := enc_dec l vs2 hX
      rw [hX] at f0 f1 hE17 HS6 hvl
      simp only [codeOf, placeOf, valsOf] at f0 f1 hE17 HS6 hvl ⊢
      obtain ⟨hva, hna⟩ := HS6.out.vals
      have hcv := conv_at (HV.out.ext hE17)
      have hen2 : encO vs2 = l := by unfold encO; rw [if_pos hck, hen]
      have HX := Lib.hid hX
      have HNA := Lib.hid hna
      have HVA := Lib.hid hva
      have HCK := Lib.hid hck
      have HRG := Lib.hid hrg
      have HEN := Lib.hid hen2
      have hbt := bs_toList l
      clear hX hna hva hck hen hen2 hrg hcv
      go_wp2_with fail
      generalize w6.alloc (.cells #[.int .i64 0, .int .i64 0] 37) = w7 at *
      have hel := Encode_ok (adr g6) m6 c6 vs2 w7 HNA.out HVA.out (by have := HNA.out; omega) (short_of vs2 HCK.out) HRG.out
      rw [HCK.out, HEN.out] at hel
      refine hel.mono ?_
      rintro e w8 ⟨g8, m8, c8, rfl, hB8, hg8, hE8⟩
      have hcv8 := conv_bytes hB8
      have hcvl := conv_at (HV.out.ext (hE17.trans hE8))
      clear hel hB8 hg8
      go_wp2
      go_ret
      exact ⟨rfl, hE17.trans hE8⟩

end Go.Proofs.Ytlmlkphdalkfdaa
