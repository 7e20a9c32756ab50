/- CodecReads: walked. -/
import Derived.Test.YtlmlkphdalkfdaaOne
namespace Go.Proofs.Ytlmlkphdalkfdaa
open Go.RowKit

theorem drop_len {l : List UInt8} {p : Nat} {k : UInt8} {r : List UInt8} (h : l.drop p = k :: r) : p + 1 + r.length = l.length ∧ r = l.drop (p + 1) := by
  have h1 : (l.drop p).length = r.length + 1 := by rw [h]; rfl
  rw [List.length_drop] at h1
  have h2 : l.drop (p + 1) = (l.drop p).drop 1 := by rw [List.drop_drop]
  rw [h] at h2
  exact ⟨by omega, h2.symm⟩
theorem decD_len (l : List UInt8) : ∀ (f p : Nat) (acc vs : List V), decD l f p acc = .inr vs → acc.length ≤ p → p ≤ l.length → vs.length ≤ l.length
  | 0, p, acc, vs, h, h1, h2 => by rw [decD.eq_def] at h; cases h; omega
  | f + 1, p, acc, vs, h, h1, h2 => by
    cases hd : l.drop p with
    | nil => rw [decD_nil hd] at h; cases h; omega
    | cons k r =>
      rw [decD_cons hd] at h
      obtain ⟨h3, _⟩ := drop_len hd
      split at h
      · split at h
        · cases h
        · exact decD_len l f (p + 9) _ vs h (by simp; omega) (by omega)
      · split at h
        · split at h
          · cases h
          · rename_i t q hx
            have := textD_end r.length r [] p (p + 1) t q (Nat.le_refl _) hx
            exact decD_len l f q _ vs h (by simp; omega) (by omega)
        · cases h
theorem valsOf_len (l : List UInt8) : (valsOf (decOf l)).length ≤ l.length := by
  unfold decOf
  cases h : decD l (l.length + 1) 0 [] with
  | inl e => simp [valsOf]
  | inr vs => exact decD_len l _ 0 [] vs h (by simp) (by omega)

set_option maxHeartbeats 8000000 in
theorem reads_any (v : Value) (l : List UInt8) (w : World) (hv : BytesAt w v l) (hl : l.length ≤ 1000000000) :
    Calls Try.prog 5 #[v] w (fun e w' => e = .returned (.bool true) ∧ Ext w w') := by
  obtain ⟨a, c, rfl, h0, hc⟩ := hv
  have hv : BytesAt w (.slice a l.length c) l := ⟨a, c, rfl, h0, hc⟩
  have HV := Lib.hid hv; clear hv h0 hc
  have hvl := valsOf_len l
  have hcm := cmpL_self (valsOf (decOf l))
  generalize hX : decOf l = X at *
  have HX := Lib.hid hX; clear hX
  go_enter Try.func5, Try.ntmps5
  go_wp2_with fail
  refine (awake_ok w).mono ?_
  rintro e w1 ⟨rfl, hE1⟩
  go_wp2_with fail
  refine (Decode_ok a l.length c l w1 rfl (HV.out.ext hE1) hl).mono ?_
  rintro e w2 ⟨g, m, cap, rfl, hS, hg, hE2⟩
  rw [HX.out] at hS ⊢
  have hE3 : Ext w2 (w2.alloc (.cells #[.int .i64 (codeOf X), .int .i64 (placeOf X)] 37)) := (Ext.refl w2).alloc _
  have hF := blk_new w2 (.cells #[.int .i64 (codeOf X), .int .i64 (placeOf X)] 37)
  have HS := Lib.hid (hS.ext hE3)
  have hE13 : Ext w (w2.alloc (.cells #[.int .i64 (codeOf X), .int .i64 (placeOf X)] 37)) := (hE1.trans hE2).trans hE3
  have hcv := conv_at (HV.out.ext hE13)
  clear hS hg
  go_wp2_with fail
  generalize w2.alloc (.cells #[.int .i64 (codeOf X), .int .i64 (placeOf X)] 37) = w3 at *
  refine (RDecode_ok l w3 hl).mono ?_
  rintro e w4 ⟨g', m', cap', rfl, hS', hg', hE4⟩
  rw [HX.out] at hS' ⊢
  obtain ⟨f0, f1⟩ := blk2 (Ext.block hE4 hF)
  have HS2 := Lib.hid (HS.out.ext hE4)
  have HS' := Lib.hid hS'
  have hE14 := hE13.trans hE4
  clear hcv hF hS' hg' hE3
  generalize w2.heap.size = fb at *
  go_wp2_with fail
  obtain ⟨hva, hna⟩ := HS2.out.vals
  obtain ⟨hvb, hnb⟩ := HS'.out.vals
  refine (Same_ok (adr g) (adr g') m m' cap cap' (valsOf X) (valsOf X) w4 hna hnb hva hvb (by omega) (by omega)).mono ?_
  rintro e w5 ⟨rfl, hE5⟩
  rw [hcm]
  have f0' := Ext.cell hE5 f0
  have f1' := Ext.cell hE5 f1
  clear f0 f1 hva hna hvb hnb hcm
  go_wp2
  go_ret
  exact ⟨rfl, hE14.trans hE5⟩

end Go.Proofs.Ytlmlkphdalkfdaa
