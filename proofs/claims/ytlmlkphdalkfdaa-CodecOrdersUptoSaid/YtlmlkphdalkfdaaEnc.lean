/- codec.Encode, walked. -/
import Derived.Test.YtlmlkphdalkfdaaPut
namespace Go.Proofs.Ytlmlkphdalkfdaa
open Go.RowKit

def esc1 (b : UInt8) : List UInt8 := if b = 0 then [0, 255] else [b]
def escT (t : List UInt8) : List UInt8 := t.flatMap esc1
def encV (v : V) : List UInt8 := if v.1 = 1 then 1 :: numBE (v.2.1 + 9223372036854775808).toNat 8 else 2 :: (escT v.2.2 ++ [0, 0])
def encL (vs : List V) : List UInt8 := vs.flatMap encV
def encO (vs : List V) : List UInt8 := if checkL vs = 0 then encL vs else []

theorem escT_append (a b : List UInt8) : escT (a ++ b) = escT a ++ escT b := by simp [escT]
theorem escT_len : ∀ (t : List UInt8), (escT t).length ≤ 2 * t.length
  | [] => by simp [escT]
  | b :: t => by
    have ih := escT_len t
    have : escT (b :: t) = esc1 b ++ escT t := by simp [escT]
    rw [this, List.length_append, List.length_cons]
    unfold esc1
    split <;> simp <;> omega
theorem encV_len {v : V} (h : checkV v = 0) : (encV v).length ≤ 131 := by
  unfold encV
  unfold checkV at h
  split
  · simp [numBE_len]
  · rename_i h1
    rw [if_neg h1] at h
    split at h
    · split at h
      · rename_i h3
        have := escT_len v.2.2
        simp; omega
      · cases h
    · cases h
theorem encL_append (a b : List V) : encL (a ++ b) = encL a ++ encL b := by simp [encL]
theorem encL_len : ∀ (vs : List V), (∀ v ∈ vs, checkV v = 0) → (encL vs).length ≤ 131 * vs.length
  | [], _ => by simp [encL]
  | v :: vs, h => by
    have ih := encL_len vs (fun u hu => h u (List.mem_cons_of_mem _ hu))
    have hv := encV_len (h v (List.mem_cons_self ..))
    have : encL (v :: vs) = encV v ++ encL vs := by simp [encL]
    rw [this, List.length_append, List.length_cons]
    omega

theorem xor_top {m : Nat} (h : m < 9223372036854775808) : m ^^^ 9223372036854775808 = 9223372036854775808 + m := by
  apply Nat.eq_of_testBit_eq
  intro i
  rw [Nat.testBit_xor]
  have h63 : (9223372036854775808 : Nat) = 2 ^ 63 := by decide
  rw [h63, Nat.testBit_two_pow]
  rcases Nat.lt_trichotomy i 63 with hi | hi | hi
  · rw [Nat.testBit_two_pow_add_gt hi]
    simp [show ¬ 63 = i by omega]
  · subst hi
    rw [Nat.testBit_two_pow_add_eq]
    simp
  · have h1 : m.testBit i = false := Nat.testBit_lt_two_pow (Nat.lt_trans h (by rw [h63]; exact Nat.pow_lt_pow_right (by decide) hi))
    have h2 : (2 ^ 63 + m).testBit i = false := Nat.testBit_lt_two_pow (by
      have : 2 ^ 64 ≤ 2 ^ i := Nat.pow_le_pow_right (by decide) hi
      have : (2 : Nat) ^ 64 = 2 ^ 63 + 2 ^ 63 := by decide
      rw [h63] at h
      omega)
    rw [h1, h2]
    simp [show ¬ 63 = i by omega]
theorem xor_top' {m : Nat} (h : m < 18446744073709551616) (h2 : 9223372036854775808 ≤ m) : m ^^^ 9223372036854775808 = m - 9223372036854775808 := by
  have h3 := xor_top (m := m - 9223372036854775808) (by omega)
  rw [show 9223372036854775808 + (m - 9223372036854775808) = m by omega] at h3
  rw [← h3, Nat.xor_assoc, Nat.xor_self, Nat.xor_zero]
  rw [h3]
/-- The top bit turned: what stands for a number. -/
theorem u64_top (n : Int) (h1 : -9223372036854775808 ≤ n) (h2 : n ≤ 9223372036854775807) :
    bits .xor .u64 (IntKind.u64.wrap n) 9223372036854775808 = (((n + 9223372036854775808).toNat : Nat) : Int) := by
  have hw : IntKind.u64.wrap n = (((n % 18446744073709551616).toNat : Nat) : Int) := by simp [IntKind.wrap, IntKind.bits, IntKind.signed]; omega
  have h3 := u64_xor_nat (n % 18446744073709551616).toNat 9223372036854775808 (by omega) (by decide)
  rw [hw]
  rw [show ((9223372036854775808 : Int)) = ((9223372036854775808 : Nat) : Int) from rfl, h3]
  by_cases h : n < 0
  · rw [xor_top' (by omega) (by omega)]; omega
  · rw [xor_top (by omega)]; omega

theorem blk_new2 (w : World) (o o' : Obj) : ((w.alloc o).alloc o').heap[w.heap.size + 1]? = some o' := by
  have := blk_new (w.alloc o) o'
  rwa [World.size_alloc] at this

set_option maxHeartbeats 4000000 in
theorem Encode_ok (a : Option Addr) (n cap : Nat) (vs : List V) (w : World) (hn : vs.length = n) (hc : Vals w a vs) (hsz : n ≤ 1000000000) (ht : ∀ v ∈ vs, v.2.2.length ≤ 140737488355328)
    (hi : ∀ v ∈ vs, -9223372036854775808 ≤ v.2.1 ∧ v.2.1 ≤ 9223372036854775807) :
    Calls Try.prog 14 #[.slice a n cap] w
      (fun e w' => ∃ g m c, e = .returned (.tuple #[slv g m c, .int .i64 (checkL vs)]) ∧ Bs w' g m c (encO vs) ∧ (∀ b, g = some b → w.heap.size ≤ b) ∧ Ext w w') := by
  have hck := Check_ok a n cap vs w hn hc (by omega) ht
  have HN := Lib.hid hn; clear hn
  have HC := Lib.hid hc; clear hc
  have HT := Lib.hid ht; clear ht
  have HI := Lib.hid hi; clear hi
  go_enter Try.func14, Try.ntmps14
  go_wp2_with fail
  refine hck.mono ?_
  clear hck
  rintro e w1 ⟨rfl, hE1⟩
  by_cases h0 : checkL vs = 0
  · have hall := checkL_zero vs h0
    have HALL := Lib.hid hall; clear hall
    have H0 := Lib.hid h0
    rw [h0]
    have HENC : Hid (encO vs = encL vs) := if_pos h0
    clear h0
    go_wp2
    go_loopg [5, 16] n (fun k v5 v16 wr => ∃ (i : Nat) (g : Option Nat) (cap : Nat) (out : List UInt8), i + k = n ∧ v5 = slv g out.length cap ∧ v16 = .int .i64 i ∧ out = encL (vs.take i) ∧ Bs wr g out.length cap out ∧ (∀ b, g = some b → w.heap.size ≤ b) ∧ Ext w wr)
    case atStart => exact ⟨0, none, 0, [], by omega, rfl, rfl, by simp [encL], Sl.nil _ _ _, by simp, hE1⟩
    case round =>
      obtain ⟨i, g, cap1, out, hik, rfl, rfl, ho, hB, hg, hE⟩ := hrel
      by_cases hlt : i < n
      · obtain ⟨lb, off, ha, hcell⟩ := (HC.out.ext hE) (by have := HN.out; omega)
        subst ha
        obtain ⟨⟨kk, m, t⟩, hv⟩ : ∃ v, vs[i]? = some v := ⟨vs[i]'(by rw [HN.out]; exact hlt), by rw [List.getElem?_eq_getElem]⟩
        obtain ⟨c0, c1, c2⟩ := hcell i _ hv
        simp only [] at c0 c1 c2
        have hmem := List.mem_of_getElem? hv
        have hck := HALL.out _ hmem
        obtain ⟨hm1, hm2⟩ := HI.out _ hmem
        simp only [] at hm1 hm2
        have hol : out.length ≤ 131 * i := by
          rw [ho]
          refine Nat.le_trans (encL_len _ (fun v hv => HALL.out v (List.mem_of_mem_take hv))) ?_
          rw [List.length_take]; omega
        have hnext : encL (vs.take (i + 1)) = out ++ encV (kk, m, t) := by
          rw [ho, List.take_add_one, hv, encL_append]; simp [encL]
        have HNEXT := Lib.hid hnext; clear hnext ho hcell hmem
        have HV := Lib.hid hv; clear hv
        have HIK := Lib.hid hik; clear hik
        have HB := Lib.hid hB; clear hB
        have HG := Lib.hid hg; clear hg
        have hfr := fun b => blk_frozen (w := wr.alloc (.cells #[.int .i64 kk, .int .i64 m, str t] 53)) (blk_new wr _) b
        by_cases h1 : kk = 1
        · subst h1
          have hu8 : IntKind.u8.wrap 1 = 1 := by decide
          go_wp2_with (at_builtin; refine app_own (W := w) ei_byte rfl (.tmp 20) (.tmp 24) rfl (g := g) (cap := cap1) (by rfl) (HB.out.ext (((Ext.refl wr).alloc _).alloc _)) HG.out ((hE.alloc _).alloc _) [1] (by rfl) (by rfl) (by omega) (blk_new2 _ _ _) (by omega) ?_)
          intro g2 cap2 w2 hB2 hg2 hE2 hT2 hat2
          have hgv : ¬ g = some wr.heap.size := fun e => by
            subst e
            have := HB.out.block_lt; omega
          have hVb : w2.heap[wr.heap.size]? = some (.cells #[.int .i64 1, .int .i64 m, str t] 53 (0, 0)) :=
            Touch.old hT2 (blk_alloc (blk_new wr _)) hgv
          clear hT2 hat2 hfr c0 c1 c2
          obtain ⟨d0, d1, d2⟩ := blk3 hVb
          have hg2l := hB2.block_lt
          have hput := Put_ok (slv (some g2) (out.length + 1) cap2) (out ++ [1]) (m + 9223372036854775808).toNat 8 w2 hB2.at (by omega) (by simp; omega) (by decide) (by decide)
          have HPUT := Lib.hid hput; clear hput
          have HX := Lib.hid (u64_top m hm1 hm2)
          clear hVb hgv hB2
          generalize wr.heap.size = vb at *
          go_wp2_with fail
          rw [HX.out]
          refine HPUT.out.mono ?_
          rintro e w3 ⟨g3, cap3, rfl, hB3, hg3, hE3⟩
          have hb3 : Bs w3 g3 (out.length + 9) cap3 (out ++ encV (1, m, t)) := by
            have h8 : putN 8 = 8 := by decide
            rw [h8] at hB3
            have h9 : (out ++ [(1 : UInt8)]).length + 8 = out.length + 9 := by simp
            rw [h9] at hB3
            simpa [encV] using hB3
          have hlen3 : (out ++ [(1 : UInt8)]).length + putN 8 = out.length + 9 := by simp [show putN 8 = 8 by decide]
          have hlen4 : out.length + 9 = (out ++ encV (1, m, t)).length := by simp [encV, numBE_len]
          rw [hlen3]
          have hg3' : ∀ b, g3 = some b → w.heap.size ≤ b := fun b hb => Nat.le_trans hE2.size (hg3 b hb)
          have hE3' := hE2.trans hE3
          have HB3 := Lib.hid hb3
          have HG3 := Lib.hid hg3'
          have HL4 := Lib.hid hlen4
          clear hB3 hb3 hg3 hg3' hlen3 hlen4 hck d0 d1 d2
          go_wp2
          go_roundg (gk - 1)
          case measure => have := HIK.out; omega
          case rel => exact ⟨i + 1, g3, cap3, out ++ encV (1, m, t), by have := HIK.out; omega, by rw [← HL4.out], by go_num, HNEXT.out.symm, by rw [← HL4.out]; exact HB3.out, HG3.out, hE3'⟩
        · have hk : kk = 2 ∧ m = 0 ∧ t.length ≤ 64 := by
            unfold checkV at hck
            simp only [h1, if_false] at hck
            split at hck
            · rename_i h2
              split at hck
              · exact ⟨h2.1, h2.2, by assumption⟩
              · cases hck
            · cases hck
          obtain ⟨rfl, rfl, htl⟩ := hk
          have hu8 : IntKind.u8.wrap 2 = 2 := by decide
          go_wp2_with (at_builtin; refine app_own (W := w) ei_byte rfl (.tmp 20) (.tmp 24) rfl (g := g) (cap := cap1) (by rfl) (HB.out.ext (((Ext.refl wr).alloc _).alloc _)) HG.out ((hE.alloc _).alloc _) [2] (by rfl) (by rfl) (by omega) (blk_new2 _ _ _) (by omega) ?_)
          intro g2 cap2 w2 hB2 hg2 hE2 hT2 hat2
          have hgv : ¬ g = some wr.heap.size := fun e => by
            subst e
            have := HB.out.block_lt; omega
          have hVb : w2.heap[wr.heap.size]? = some (.cells #[.int .i64 2, .int .i64 0, str t] 53 (0, 0)) :=
            Touch.old hT2 (blk_alloc (blk_new wr _)) hgv
          have hgv2 : g2 ≠ wr.heap.size := fun e => by
            rcases hat2 with h | h
            · exact hgv (by rw [h, e])
            · omega
          clear hT2 hat2 hfr c0 c1 c2 hgv h1 hck
          obtain ⟨d0, d1, d2⟩ := blk3 hVb
          generalize wr.heap.size = vb at *
          have HVB := Lib.hid hVb; clear hVb
          have HB2 := Lib.hid hB2; clear hB2
          have HV2 := Lib.hid hgv2; clear hgv2
          have hsz := bs_size t
          have hbl : vb < w2.heap.size := blk_lt HVB.out
          have hoe : out ++ [(2 : UInt8)] = out ++ 2 :: escT (t.take 0) := by simp [escT]
          have HOE := Lib.hid hoe; clear hoe
          go_wp2
          go_loopg [5, 38] t.length (fun k v5 v38 wr => ∃ (j g cap : Nat) (o : List UInt8), j + k = t.length ∧ v5 = .slice (some ⟨g, 0, none⟩) o.length cap ∧ v38 = .int .i64 j ∧ o = out ++ 2 :: escT (t.take j) ∧ Bs wr (some g) o.length cap o ∧
            w.heap.size ≤ g ∧ g ≠ vb ∧ wr.heap[vb]? = some (.cells #[.int .i64 2, .int .i64 0, str t] 53 (0, 0)) ∧ Ext w wr)
          case atStart => exact ⟨0, g2, cap2, out ++ [2], by omega, by simp, rfl, HOE.out, by simpa using HB2.out, hg2, HV2.out, HVB.out, hE2⟩
          case round =>
            obtain ⟨j, g3, cap3, o, hjk, rfl, rfl, ho, hB3, hg3, hgv3, hVb3, hE3⟩ := hrel
            obtain ⟨b0, b1, b2⟩ := blk3 hVb3
            have hol3 : o.length ≤ out.length + 1 + 2 * t.length := by
              have := escT_len (t.take j)
              have : (t.take j).length ≤ t.length := by rw [List.length_take]; omega
              rw [ho]; simp; omega
            by_cases hlt2 : j < t.length
            · obtain ⟨x, hx⟩ : ∃ x, t[j]? = some x := ⟨_, List.getElem?_eq_getElem hlt2⟩
              have hbx := bs_get hx
              have hnx : out ++ 2 :: escT (t.take (j + 1)) = o ++ esc1 x := by
                rw [ho, List.take_add_one, hx, escT_append]; simp [escT]
              have HNX := Lib.hid hnx; clear hnx ho hx
              have HB3 := Lib.hid hB3; clear hB3
              have HJK := Lib.hid hjk; clear hjk
              have HGV := Lib.hid hgv3; clear hgv3
              have HVB3 := Lib.hid hVb3; clear hVb3
              go_wp2_with (at_builtin; refine app_own (W := w) ei_byte rfl (.tmp 41) (.tmp 46) rfl (g := some g3) (cap := cap3) (by rfl) (HB3.out.ext ((Ext.refl wr).alloc _)) (by simpa using hg3) (hE3.alloc _) [x] (by rfl) (by rfl) (by omega) (blk_new _ _) (by omega) ?_)
              intro g4 cap4 w4 hB4 hg4 hE4 hT4 hat4
              have hVb4 := Touch.old hT4 (blk_alloc HVB3.out) (fun e => HGV.out e)
              have hgv4 : g4 ≠ vb := fun e => by
                rcases hat4 with h | h
                · exact HGV.out (h.trans e)
                · have := blk_lt HVB3.out; omega
              clear hT4 hat4 b0 b1 b2
              obtain ⟨b0, b1, b2⟩ := blk3 hVb4
              by_cases hx0 : x = 0
              · subst hx0
                have HB4 := Lib.hid hB4; clear hB4
                have HG4 := Lib.hid hgv4; clear hgv4
                have HV4 := Lib.hid hVb4; clear hVb4
                go_wp2_with (at_builtin; refine app_own (W := w) ei_byte rfl (.tmp 53) (.tmp 54) rfl (g := some g4) (cap := cap4) (out := o ++ [0]) (by simp [Act.eval, slv, adr]) (by simpa using HB4.out.ext ((Ext.refl w4).alloc _)) (by simpa using hg4) (hE4.alloc _) [255] (by rfl) (by rfl) (by omega) (blk_new _ _) (by simp; omega) ?_)
                intro g5 cap5 w5 hB5 hg5 hE5 hT5 hat5
                have hVb5 := Touch.old hT5 (blk_alloc HV4.out) (fun e => HG4.out e)
                have hgv5 : g5 ≠ vb := fun e => by
                  rcases hat5 with h | h
                  · exact HG4.out (h.trans e)
                  · have := blk_lt HV4.out; omega
                clear hT5 hat5
                have HB5 := Lib.hid hB5; clear hB5
                have HG5 := Lib.hid hgv5; clear hgv5
                have HV5 := Lib.hid hVb5; clear hVb5
                go_wp2
                go_roundg (t.length - j - 1)
                case measure => have := HJK.out; omega
                case rel => exact ⟨j + 1, g5, cap5, o ++ [0, 255], by have := HJK.out; omega, by simp, by go_num, by rw [HNX.out]; rfl, by simpa using HB5.out, hg5, HG5.out, HV5.out, hE5⟩
              · have hxz : ((x.toNat : Int) == 0) = false := by
                  have : x.toNat ≠ 0 := fun e => hx0 (UInt8.toNat_inj.1 (by simpa using e))
                  simp; omega
                have HB4 := Lib.hid hB4; clear hB4
                have HG4 := Lib.hid hgv4; clear hgv4
                have HV4 := Lib.hid hVb4; clear hVb4
                have HX0 := Lib.hid hx0; clear hx0
                go_wp2
                go_roundg (t.length - j - 1)
                case measure => have := HJK.out; omega
                case rel => exact ⟨j + 1, g4, cap4, o ++ [x], by have := HJK.out; omega, by simp, by go_num, by rw [HNX.out, esc1, if_neg HX0.out], by simpa using HB4.out, hg4, HG4.out, HV4.out, hE4⟩
            · have hj : j = t.length := by omega
              subst hj
              rw [List.take_length] at ho
              have HO := Lib.hid ho; clear ho
              have HB3 := Lib.hid hB3; clear hB3
              go_wp2_with (at_builtin; refine app_own (W := w) ei_byte rfl (.tmp 57) (.tmp 58) rfl (g := some g3) (cap := cap3) (by rfl) (HB3.out.ext ((Ext.refl wr).alloc _)) (by simpa using hg3) (hE3.alloc _) [0, 0] (by rfl) (by rfl) (by omega) (blk_new _ _) (by omega) ?_)
              intro g4 cap4 w4 hB4 hg4 hE4 hT4 hat4
              have hoe : o ++ [(0 : UInt8), 0] = encL (vs.take (i + 1)) := by
                rw [HNEXT.out, HO.out]; simp [encV]
              have HOE2 := Lib.hid hoe
              have HB4 := Lib.hid hB4
              clear hoe hB4 hT4 hat4
              go_wp2
              go_roundg (n - i - 1)
              case measure => have := HIK.out; omega
              case rel => exact ⟨i + 1, some g4, cap4, o ++ [0, 0], by have := HIK.out; omega, by simp [slv, adr], by go_num, HOE2.out, by simpa using HB4.out, by simpa using hg4, hE4⟩
      · have hi : i = n := by omega
        subst hi
        have he : out = encL vs := by rw [ho, List.take_of_length_le (by rw [HN.out]; exact Nat.le_refl _)]
        have HE := Lib.hid he; clear he ho
        have HB := Lib.hid hB; clear hB
        have HG := Lib.hid hg; clear hg
        go_wp2
        go_ret2
        exact ⟨g, out.length, cap1, by rw [H0.out]; rfl, by rw [HENC.out, ← HE.out]; exact HB.out, HG.out, hE⟩
  · have hne : (checkL vs == 0) = false := by simp [h0]
    have HENC : Hid (encO vs = []) := if_neg h0
    clear h0
    go_wp2
    go_ret2
    exact ⟨none, 0, 0, rfl, by rw [HENC.out]; exact Sl.nil _ _ _, by simp, hE1⟩

end Go.Proofs.Ytlmlkphdalkfdaa
