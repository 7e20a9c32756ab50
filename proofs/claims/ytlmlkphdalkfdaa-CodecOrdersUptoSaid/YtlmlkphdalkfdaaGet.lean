/- codec.Get and CodecNumbers: walked. -/
import Derived.Test.YtlmlkphdalkfdaaCut
namespace Go.Proofs.Ytlmlkphdalkfdaa
open Go.RowKit

theorem or_byte' {N : Nat} (h : N < 18446744073709551616) (y : UInt8) : bits .or .u64 (IntKind.u64.wrap ((N : Int) * 256)) (y.toNat : Int) = (((N * 256 + y.toNat) % 18446744073709551616 : Nat) : Int) := by
  have hy := byte_lt y
  have hw : IntKind.u64.wrap ((N : Int) * 256) = (((N * 256 % 18446744073709551616 : Nat)) : Int) := by simp [IntKind.wrap, IntKind.bits, IntKind.signed]
  rw [hw]
  have h1 := u64_or_nat (N * 256 % 18446744073709551616) y.toNat (Nat.mod_lt _ (by decide)) (by omega)
  rw [nat_join 8 (N * 256 % 18446744073709551616) y.toNat (by omega) (by omega)] at h1
  rw [h1]
  congr 1
  omega

set_option maxHeartbeats 4000000 in
theorem Get_ok (v : Value) (l : List UInt8) (w : World) (hv : BytesAt w v l) (hl : l.length ≤ 140737488355328) :
    Calls Try.prog 22 #[v] w (fun e w' => e = .returned (.int .u64 ((getN l % 18446744073709551616 : Nat) : Int)) ∧ w' = w) := by
  obtain ⟨a, c, rfl, h0, hc⟩ := hv
  have HC := Lib.hid hc; clear hc h0
  go_enter Try.func22, Try.ntmps22
  go_wp2
  go_loopg [3, 8] l.length (fun k v3 v8 wr => ∃ i : Nat, i + k = l.length ∧ v3 = .int .u64 ((getN (l.take i) % 18446744073709551616 : Nat) : Int) ∧ v8 = .int .i64 i ∧ wr = w)
  case atStart => exact ⟨0, by omega, by simp [getN], rfl, rfl⟩
  case round =>
    obtain ⟨i, hik, rfl, rfl, rfl⟩ := hrel
    by_cases hlt : i < l.length
    · obtain ⟨b, off, rfl, hcc⟩ := HC.out (by omega)
      obtain ⟨x, hx⟩ : ∃ x, l[i]? = some x := ⟨_, List.getElem?_eq_getElem hlt⟩
      have c0 := hcc i x hx
      have hnx : (getN (l.take i) % 18446744073709551616 * 256 + x.toNat) % 18446744073709551616 = getN (l.take (i + 1)) % 18446744073709551616 := by
        rw [getN_snoc_mod, List.take_add_one, hx]; rfl
      have hxl := byte_lt x
      have hml : getN (l.take i) % 18446744073709551616 < 18446744073709551616 := Nat.mod_lt _ (by decide)
      generalize getN (l.take i) % 18446744073709551616 = m at *
      have hor := or_byte' hml x
      have HNX := Lib.hid hnx; clear hnx hx hcc
      have HIK := Lib.hid hik; clear hik
      have HOR := Lib.hid hor; clear hor
      go_wp2
      go_roundg (gk - 1)
      case measure => have := HIK.out; omega
      case rel => exact ⟨i + 1, by have := HIK.out; omega, by rw [HOR.out, HNX.out], by go_num, rfl⟩
    · have hi : i = l.length := by omega
      subst hi
      rw [List.take_length]
      go_wp2
      go_ret
      exact ⟨rfl, rfl⟩

theorem own_to {b n cap k : Nat} (hk : k ≤ cap) (hc : 0 < cap) (w : World) :
    (Instr.slice 22 (.slice (some ⟨b, 0, none⟩) n cap) none (some (.int .i64 (k : Int))) none).run Try.prog w = .ok (.slice (some ⟨b, 0, none⟩) k cap) w := by
  rw [run_slice_h _ _ _ _ _ und_elem .i64 (k : Int) (by omega) (by omega), size_byte.1, size_byte.2 w]
  have hc' : ¬ cap = 0 := by omega
  simp [sliced, hc', add_flat]

set_option maxRecDepth 100000 in
set_option maxHeartbeats 8000000 in
theorem numbers_any (v : Value) (l : List UInt8) (n : Nat) (size : Int) (w : World) (hv : BytesAt w v l) (hl : l.length ≤ 1000000000) (hn : n < 18446744073709551616) (hs1 : -9223372036854775808 ≤ size) (hs2 : size ≤ 9223372036854775807) :
    Calls Try.prog 8 #[v, .int .u64 (n : Int), .int .i64 size] w (fun e w' => e = .returned (.bool true) ∧ Ext w w') := by
  obtain ⟨a, c, rfl, h0, hc⟩ := hv
  have hv : BytesAt w (.slice a l.length c) l := ⟨a, c, rfl, h0, hc⟩
  have HV := Lib.hid hv; clear hv h0 hc
  go_enter Try.func8, Try.ntmps8
  go_wp2_with fail
  refine (awake_ok w).mono ?_
  rintro e w1 ⟨rfl, hE1⟩
  go_wp2_with (at_builtin; refine app_bytes ei_byte rfl (.tmp 11) (.tmp 12) rfl (g := some w1.heap.size) (n := 0) (cap := 0) (by rfl) (xs := []) ⟨by simp, #[], blk_new w1 _, by omega, by decide, by simp, by simp⟩ (by rfl) (HV.out.ext (hE1.alloc _)) (by omega) ?_)
  intro g2 cap2 w2 hS2 hT2 hat2
  have hB2 : Bs w2 g2 l.length cap2 l := by simpa using hS2
  have hE2 : Ext w1 w2 := Touch.ext ((((Ext.refl w1).alloc _).touch _).trans hT2) (fun i hi e => by omega)
  have hg2 : ∀ b, g2 = some b → w1.heap.size ≤ b := fun b hb => by
    subst hb
    rcases hat2 with h | h <;> simp at h <;> omega
  have HB2 := Lib.hid hB2
  have HG2 := Lib.hid hg2
  clear hS2 hT2 hat2 hB2 hg2
  go_wp2_with (at_builtin; refine app_own (W := w1) ei_byte rfl (.tmp 13) (.tmp 14) rfl (g := g2) (cap := cap2) (by rfl) (HB2.out.ext ((Ext.refl w2).alloc _)) HG2.out (hE2.alloc _) [77] (by rfl) (by rfl) (by omega) (blk_new w2 _) (by omega) ?_)
  intro b4 cap4 w4 hB4 hg4 hE4 hT4 hat4
  have hcap : l.length + 1 ≤ cap4 := hB4.le
  have hE14 : Ext w w4 := hE1.trans hE4
  have hbm : BytesAt w4 (.slice (some ⟨b4, 0, none⟩) l.length cap4) l := by
    refine ⟨_, cap4, rfl, fun h => by simp at h, fun _ => ⟨b4, 0, rfl, fun j x hx => ?_⟩⟩
    rw [Nat.zero_add]
    have hj := (List.getElem?_eq_some_iff.1 hx).1
    exact hB4.cell (bc_get (by rw [List.getElem?_append_left hj]; exact hx))
  have c77 : w4.cell? ⟨b4, l.length, none⟩ = some (.int .u8 77) := hB4.cell (bc_get (x := 77) (by simp))
  have hs1' := fun w' => own_to (b := b4) (n := l.length + 1) (cap := cap4) (k := l.length) (by omega) (by omega) w'
  have HCAP := Lib.hid hcap
  have HBM := Lib.hid hbm
  clear hB4 hT4 hat4 hcap hbm hg4
  go_wp2_with fail
  refine (Put_ok _ l n size w4 HBM.out hn (by omega) hs1 hs2).mono ?_
  rintro e w5 ⟨g5, cap5, rfl, hB5, hg5, hE5⟩
  have hE15 := hE14.trans hE5
  have c77' := Ext.cell hE5 c77
  have HB5 := Lib.hid hB5
  have hpb : putN size ≤ 8 := by unfold putN; omega
  have hrn := RNumber_ok n size
  generalize hP : putN size = P at *
  have hnl := numBE_len n P
  have hap : bs l ++ bs (numBE n P) = bs (l ++ numBE n P) := bs_append _ _
  have hz1 := bs_size l
  have hz2 := bs_size (numBE n P)
  have ht := bs_toList (l ++ numBE n P)
  generalize numBE n P = nb at *
  have hL : (l ++ nb).length = l.length + P := by rw [List.length_append, hnl]
  generalize l.length + P = L at *
  have hLi : l.length ≤ L := by rw [← hL]; simp
  have hLs : L ≤ 1000000008 := by rw [← hL, List.length_append]; omega
  have hnb : nb.length ≤ 8 := by omega
  have hcat : ¬ 9223372036854775807 < l.length + nb.length := by omega
  have HL := Lib.hid hL
  have HRN := Lib.hid (hrn w5.drew hn hs1 hs2)
  have HNL := Lib.hid hnl
  clear hB5 hg5 hs1' c77 hP hL hnl hrn hpb
  go_wp2
  refine region_calm [.p 0, .e 1, .p 2, .e 3, .p 4, .p 5, .h 6 true, .p 7, .p 8, .p 9, .p 10, .p 11, .p 12, .p 13, .p 14, .p 15, .p 16, .p 17, .l 18, .p 19, .p 20] f_mixed (by kernel_rfl) (by kernel_rfl) ?_
  repeat (first | (refine plan_p rfl (fun K hK => ?_); go_simp; refine hK _ ?_; clear hK K) | (refine plan_l rfl (fun K hK => ?_); go_simp; refine hK _ ?_; clear hK K))
  refine plan_e1 rfl rfl (str (l ++ nb)) (fun w' he => ?_) (fun K hK => ?_)
  · have hcv := conv_bytes (HB5.out.ext ((Ext.refl w5).drew.trans he))
    go_simp
  go_simp; refine hK _ ?_; clear hK K
  repeat (first | (refine plan_p rfl (fun K hK => ?_); go_simp; refine hK _ ?_; clear hK K) | (refine plan_l rfl (fun K hK => ?_); go_simp; refine hK _ ?_; clear hK K))
  refine plan_e1 rfl rfl (str l) (fun w' he => ?_) (fun K hK => ?_)
  · have hcv := conv_at (HV.out.ext (hE15.drew.trans he))
    go_simp
  go_simp; refine hK _ ?_; clear hK K
  repeat (first | (refine plan_p rfl (fun K hK => ?_); go_simp; refine hK _ ?_; clear hK K) | (refine plan_l rfl (fun K hK => ?_); go_simp; refine hK _ ?_; clear hK K))
  refine plan_ct rfl rfl (fun K _ hK => ?_)
  go_wp2_with fail
  refine HRN.out.mono ?_
  rintro e w6 ⟨rfl, hE6⟩
  go_wp2_with fail
  refine hK _ _ (hE6) ?_; clear hK K
  have c78 := Ext.cell hE6 c77'
  have hE16 := (hE15.drew).trans hE6
  have hs2' : ∀ w' : World, (Instr.slice 22 (.slice (some ⟨b4, 0, none⟩) l.length cap4) none (some (.int .i64 ((l.length : Int) + 1))) none).run Try.prog w' = .ok (.slice (some ⟨b4, 0, none⟩) (l.length + 1) cap4) w' :=
    fun w' => own_to (b := b4) (n := l.length) (cap := cap4) (k := l.length + 1) HCAP.out (by have := HCAP.out; omega) w'
  clear c77'
  have hw1 : IntKind.i64.wrap ((l.length : Int) + 1) = (l.length : Int) + 1 := by rw [IntKind.wrap_i64]; omega
  have hix : (0 : Int) ≤ (l.length : Int) ∧ (l.length : Int) < (l.length : Int) + 1 := by omega
  repeat (first | (refine plan_p rfl (fun K hK => ?_); go_simp; refine hK _ ?_; clear hK K) | (refine plan_l rfl (fun K hK => ?_); go_simp; refine hK _ ?_; clear hK K))
  refine plan_done ?_
  have hLi' : (l.length : Int) ≤ (L : Int) := by omega
  have hat5 : BytesAt w6 (.slice (adr g5) (l ++ nb).length cap5) (l ++ nb) := by rw [HL.out]; exact HB5.out.at.ext ((Ext.refl w5).drew.trans hE6)
  have hbf := bytes_from (l := l ++ nb) (k := l.length) hat5 (by have := HB5.out.le; rw [HL.out]; exact this) (by rw [HL.out]; exact hLi)
  rw [List.drop_left, HL.out] at hbf
  have HBF := Lib.hid hbf
  clear hbf hat5 c78 hs2' hw1 hix ht hap hcat
  go_wp2
  refine region_calm [.p 0, .p 1, .p 2, .p 3, .p 5, .p 6, .p 7, .p 8, .e 9, .h 4 true, .h 10 false, .p 11, .p 12, .p 13, .p 15, .e 16, .h 14 true, .h 17 false, .p 18, .p 19, .p 20] f_mixed (by kernel_rfl) (by kernel_rfl) ?_
  repeat (first | (refine plan_p rfl (fun K hK => ?_); go_simp; refine hK _ ?_; clear hK K) | (refine plan_l rfl (fun K hK => ?_); go_simp; refine hK _ ?_; clear hK K))
  generalize (if cap5 = l.length then adr g5 else Option.map (fun x => x.add l.length) (adr g5)) = pb at *
  generalize cap5 - l.length = cb at *
  generalize L - l.length = mb at *
  refine plan_e1 rfl rfl (str nb) (fun w' he => ?_) (fun K hK => ?_)
  · have hcv := conv_at (HBF.out.ext ((Ext.refl w6).drew.trans he))
    go_simp
  go_simp; refine hK _ ?_; clear hK K
  refine plan_ct rfl rfl (fun K _ hK => ?_)
  go_wp2_with fail
  refine (Get_ok _ nb _ (HBF.out.ext (Ext.refl w6).drew) (by omega)).mono ?_
  rintro e w7 ⟨rfl, rfl⟩
  go_wp2_with fail
  refine hK _ _ ((Ext.refl _)) ?_; clear hK K
  refine plan_c rfl rfl (fun K _ hK => ?_)
  go_wp2_with fail
  refine (RGet_ok nb _ (by omega)).mono ?_
  rintro e w7 ⟨rfl, rfl⟩
  go_wp2_with fail
  repeat (first | (refine plan_p rfl (fun K hK => ?_); go_simp; refine hK _ ?_; clear hK K) | (refine plan_l rfl (fun K hK => ?_); go_simp; refine hK _ ?_; clear hK K))
  refine plan_e2 rfl (by rfl) (str l) (fun w' he => ?_) (fun K hK => ?_)
  · have hcv := conv_at (HV.out.ext (hE16.drew.trans he))
    go_simp
  go_simp; refine hK _ ?_; clear hK K
  refine plan_t rfl (fun K hK => ?_)
  go_wp2_with fail
  refine (Get_ok _ l _ (HV.out.ext hE16.drew) (by omega)).mono ?_
  rintro e w7 ⟨rfl, rfl⟩
  go_wp2_with fail
  refine hK _ _ ((Ext.refl _)) ?_; clear hK K
  refine plan_h rfl (fun K hK => ?_)
  go_wp2_with fail
  refine (RGet_ok l _ (by omega)).mono ?_
  rintro e w7 ⟨rfl, rfl⟩
  go_wp2_with fail
  repeat (first | (refine plan_p rfl (fun K hK => ?_); go_simp; refine hK _ ?_; clear hK K) | (refine plan_l rfl (fun K hK => ?_); go_simp; refine hK _ ?_; clear hK K))
  refine plan_done ?_
  go_wp2
  go_ret
  exact ⟨rfl, hE16.drew⟩

end Go.Proofs.Ytlmlkphdalkfdaa
