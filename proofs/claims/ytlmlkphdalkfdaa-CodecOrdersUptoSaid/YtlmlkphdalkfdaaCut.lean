/- CodecCuts: walked. -/
import Derived.Test.YtlmlkphdalkfdaaCutL
import Derived.Test.YtlmlkphdalkfdaaBack
namespace Go.Proofs.Ytlmlkphdalkfdaa
open Go.RowKit

theorem Sl.set {w : World} {b n cap i : Nat} {l : List UInt8} {y : UInt8} (h : Bs w (some b) n cap l) (hi : i < n) : Bs (w.setCell ⟨b, i, none⟩ (.int .u8 (y.toNat : Int))) (some b) n cap (l.set i y) := by
  have hn := h.bytes
  obtain ⟨h1, cur, hb, h2, h3, h4, h5⟩ := h
  refine ⟨by rw [bc_len, List.length_set]; omega, _, blk_set hb i _, h2, h3, by simpa using h4, ?_⟩
  rw [Array.toList_setIfInBounds]
  have hbc : bc (l.set i y) = (bc l).set i (.int .u8 (y.toNat : Int)) := by simp [bc, List.map_set]
  rw [hbc, ← h5, List.take_set]

theorem slice_to {w : World} {a : Option Addr} {c k : Nat} {l : List UInt8} (h : BytesAt w (.slice a l.length c) l) (hc : l.length ≤ c) (hk : k ≤ l.length) :
    ∃ pa ca, (∀ w', (Instr.slice 22 (.slice a l.length c) none (some (.int .i64 (k : Int))) none).run Try.prog w' = .ok (.slice pa k ca) w') ∧ BytesAt w (.slice pa k ca) (l.take k) := by
  obtain ⟨pa, ca, h1, h2⟩ := bytes_to h hc hk
  exact ⟨pa, ca, fun w' => by rw [← h1 w', run_sliceAt_slice _ _ _ _ _ _ und_elem], h2⟩

theorem plan_e2 {P : Program} {ops : Array Oper} {Q : Exit → Act → World → Prop} {i : Nat} {o : Oper} {rest : List PS} {a : Act} {w : World} {r : List Oper} (ho : ops.toList.drop i = o :: r) (hw : Region.wanted o (yielded ops a.tmps) = true) (v : Value)
    (h : ∀ w', Ext w w' → (execOp a.eval o).run P w' = .ok (.value v) w') (h2 : ∀ K : Act → Prop, (∀ a, wpPlan P ops Q rest a w → K a) → K (a.put o.dst v)) :
    wpPlan P ops Q (.e i :: rest) a w := ⟨o, at_drop ho, by
      rw [if_pos hw]
      exact ⟨v, h, h2 _ fun _ h => h⟩⟩

set_option maxRecDepth 100000 in
set_option maxHeartbeats 8000000 in
theorem cuts_any (a : Option Addr) (n cap : Nat) (vs : List V) (cut turn : Int) (w : World) (hn : vs.length = n) (hc : Vals w a vs) (hsz : n ≤ 2000000) (hf : Fine vs)
    (hc1 : -9223372036854775808 ≤ cut) (hc2 : cut ≤ 9223372036854775807) (ht1 : -9223372036854775808 ≤ turn) (ht2 : turn ≤ 9223372036854775807) :
    Calls Try.prog 7 #[.slice a n cap, .int .i64 cut, .int .i64 turn] w (fun e w' => e = .returned (.bool true) ∧ Ext w w') := by
  have HN := Lib.hid hn; clear hn
  have HC := Lib.hid hc; clear hc
  have HF1 : Hid (∀ v ∈ vs, v.2.2.length ≤ 140737488355328) := fun v hv => (hf v hv).1
  have HF2 : Hid (∀ v ∈ vs, -9223372036854775808 ≤ v.2.1 ∧ v.2.1 ≤ 9223372036854775807) := fun v hv => (hf v hv).2
  clear hf
  go_enter Try.func7, Try.ntmps7
  go_wp2_with fail
  refine (awake_ok w).mono ?_
  rintro e w1 ⟨rfl, hE1⟩
  go_wp2_with fail
  refine (Encode_ok a n cap vs w1 HN.out (HC.out.ext hE1) (by omega) HF1.out HF2.out).mono ?_
  rintro e w2 ⟨g, m, c, rfl, hB, hg, hE2⟩
  have hE12 := hE1.trans hE2
  have hm := hB.bytes
  have HB := Lib.hid hB
  clear hB
  by_cases h0 : checkL vs = 0
  · have hen : encO vs = encL vs := if_pos h0
    rw [hen] at hm HB
    have hel := encL_len vs (checkL_zero vs h0)
    rw [h0]
    have H0 := Lib.hid h0
    clear h0 hen
    by_cases hk0 : cut < 0
    · go_wp2
      go_ret
      exact ⟨rfl, hE12⟩
    · by_cases hk1 : cut > m
      · have hk1' : (m : Int) < cut := hk1
        go_wp2
        go_ret
        exact ⟨rfl, hE12⟩
      · obtain ⟨k, rfl⟩ : ∃ k : Nat, cut = (k : Int) := ⟨cut.toNat, by omega⟩
        have hkm : k ≤ m := by omega
        have hkm' : ¬ (m : Int) < (k : Int) := by omega
        have hdc := dec_cut vs k H0.out HF2.out (by omega)
        have hal := HB.out.at
        subst hm
        obtain ⟨pa, ca, hsl, hbk⟩ := slice_to hal HB.out.le hkm
        have hlk : ((encL vs).take k).length = k := by rw [List.length_take]; omega
        have HDC := Lib.hid hdc
        have HBK := Lib.hid hbk
        have HAL := Lib.hid hal
        have HEL := Lib.hid hel
        clear hk0 hk1 hdc hbk hal hel
        go_wp2_with fail
        refine (Decode_ok pa k ca ((encL vs).take k) w2 hlk.symm HBK.out (by rw [hlk]; have := HEL.out; have := HN.out; omega)).mono ?_
        rintro e w3 ⟨g3, m3, c3, rfl, hS3, hg3, hE3⟩
        have hed := enc_dec ((encL vs).take k)
        generalize encL vs = l at *
        clear hg hg3
        rcases HDC.out with ⟨us, hX, hul⟩ | hX
        · obtain ⟨hck, hen, hrg⟩ := hed us hX
          rw [hX] at hS3 ⊢
          simp only [codeOf, placeOf, valsOf] at hS3 ⊢
          have hF := blk_new w3 (.cells #[.int .i64 0, .int .i64 0] 37)
          obtain ⟨f0, f1⟩ := blk2 hF
          have hE4 : Ext w3 (w3.alloc (.cells #[.int .i64 0, .int .i64 0] 37)) := (Ext.refl w3).alloc _
          have HS := Lib.hid (hS3.ext hE4)
          have hE24 := hE3.trans hE4
          have hna := hS3.vals.2
          have HNA := Lib.hid hna
          have HCK := Lib.hid hck
          have HRG := Lib.hid hrg
          have hen2 : encO us = l.take k := by unfold encO; rw [if_pos hck, hen]
          have HEN := Lib.hid hen2
          have HUL := Lib.hid hul
          clear hX hck hen hrg hen2 hed hF hS3 hE3 hE4 hna hul HDC
          go_wp2_with fail
          generalize w3.alloc (.cells #[.int .i64 0, .int .i64 0] 37) = w4 at *
          generalize w3.heap.size = fb at *
          have hel2 := Encode_ok (adr g3) m3 c3 us w4 HNA.out HS.out.vals.1 (by have := HNA.out; have := HUL.out; have := HN.out; omega) (short_of us HCK.out) HRG.out
          rw [HCK.out, HEN.out] at hel2
          refine hel2.mono ?_
          rintro e w5 ⟨g5, m5, c5, rfl, hB5, hg5, hE5⟩
          have hE25 := hE24.trans hE5
          have HB5 := Lib.hid hB5
          have hm3 : ¬ (n : Int) < (m3 : Int) := by have := HNA.out; have := HUL.out; have := HN.out; omega
          have HAL5 := Lib.hid (HAL.out.ext hE25)
          have HSL := Lib.hid hsl
          have HBK5 := Lib.hid (HBK.out.ext hE25)
          clear hel2 hB5 hg5 hE24 hE5 f0 f1 HS
          go_wp2
          refine region_calm [.p 0, .p 1, .p 2, .p 3, .e 4, .p 5, .p 6, .p 7, .e 8, .p 9, .p 10, .p 11, .p 12, .p 13, .p 14, .p 15, .p 16, .p 17] f_mixed (by kernel_rfl) (by kernel_rfl) ?_
          repeat (first | (refine plan_p rfl (fun K hK => ?_); go_simp; refine hK _ ?_; clear hK K) | (refine plan_l rfl (fun K hK => ?_); go_simp; refine hK _ ?_; clear hK K))
          refine plan_e2 rfl (by rfl) (str (l.take k)) (fun w' he => ?_) (fun K hK => ?_)
          · have hcv := conv_bytes (HB5.out.ext ((Ext.refl w5).drew.trans he))
            go_simp
          go_simp; refine hK _ ?_; clear hK K
          repeat (first | (refine plan_p rfl (fun K hK => ?_); go_simp; refine hK _ ?_; clear hK K) | (refine plan_l rfl (fun K hK => ?_); go_simp; refine hK _ ?_; clear hK K))
          refine plan_e2 rfl (by rfl) (str (l.take k)) (fun w' he => ?_) (fun K hK => ?_)
          · have hcv := conv_at (HBK5.out.ext ((Ext.refl w5).drew.trans he))
            go_simp
          go_simp; refine hK _ ?_; clear hK K
          have hbt := bs_toList (l.take k)
          repeat (first | (refine plan_p rfl (fun K hK => ?_); go_simp; refine hK _ ?_; clear hK K) | (refine plan_l rfl (fun K hK => ?_); go_simp; refine hK _ ?_; clear hK K))
          refine plan_done ?_
          have hE26 : Ext w2 w5.drew := hE25.drew
          clear hbt hE25 HAL5 HB5 HSL
          generalize w5.drew = w6 at *
          have hll : l.length ≤ 1000000000 := by have := HEL.out; have := HN.out; omega
          have HAL6 := Lib.hid (HAL.out.ext hE26)
          have hsz6 : w6.heap.size = w6.heap.size := by first | rfl | simp
          have hE16 : Ext w w6 := hE12.trans hE26
          clear hsl hE26
          by_cases ht0 : turn < 0
          · go_wp2
            go_ret
            exact ⟨rfl, hE16⟩
          · obtain ⟨q, rfl⟩ : ∃ q : Nat, turn = (q : Int) := ⟨turn.toNat, by omega⟩
            clear ht0
            by_cases hq : l.length ≤ q / 8
            · have hq' : (l.length : Int) ≤ (q : Int) / 8 := by omega
              go_wp2
              go_ret
              exact ⟨rfl, hE16⟩
            · have hi : q / 8 < l.length := by omega
              have hq' : ¬ (l.length : Int) ≤ (q : Int) / 8 := by omega
              clear hq
              go_wp2_with (at_builtin; refine app_bytes ei_byte rfl (.tmp 79) (.tmp 80) rfl (g := some w6.heap.size) (n := 0) (cap := 0) (by rfl) (xs := []) ⟨by simp, #[], blk_new w6 _, by omega, by decide, by simp, by simp⟩ (by rfl) (HAL6.out.ext ((Ext.refl w6).alloc _)) (by omega) ?_)
              intro g7 cap7 w7 hS7 hT7 hat7
              have hS7' : Bs w7 g7 l.length cap7 l := by simpa using hS7
              have hE67 : Ext w6 w7 := Touch.ext ((((Ext.refl w6).alloc _).touch _).trans hT7) (fun i hi e => by omega)
              obtain ⟨b7, rfl⟩ := hS7'.some_of_pos (by omega)
              have hb7 : w6.heap.size ≤ b7 := by
                rcases hat7 with h | h <;> simp at h <;> (first | omega | (rw [hsz6]; omega) | (rw [World.size_alloc]; omega))
              obtain ⟨x, hx⟩ : ∃ x, l[q / 8]? = some x := ⟨_, List.getElem?_eq_getElem hi⟩
              have cx := hS7'.cell (bc_get hx)
              have fz : w7.frozen? ⟨b7, q / 8, none⟩ = false := by
                obtain ⟨_, cur, hb, _⟩ := hS7'
                exact blk_frozen hb _
              have hix : ∀ w' : World, (Instr.indexAt 22 (slv (some b7) l.length cap7) (.int .i64 ((q : Int) / 8))).run Try.prog w' = .ok (.pointer (some ⟨b7, q / 8, none⟩)) w' := fun w' => by
                have := run_index_slv (P := Try.prog) ei_byte (cap := cap7) (rfl : some b7 = some b7) hi w'
                rw [Nat.mul_one, Int.natCast_ediv] at this
                exact this
              have hw8 : IntKind.i64.wrap ((q : Int) / 8) = (q : Int) / 8 := by rw [IntKind.wrap_i64]; omega
              have hr8 : (q : Int).tmod 8 = ((q % 8 : Nat) : Int) := by rw [Int.tmod_eq_emod_of_nonneg (by omega)]; omega
              have hk8 : q % 8 < 8 := Nat.mod_lt _ (by decide)
              generalize q % 8 = kb at hr8 hk8
              have hmin : min kb 8 = kb := Nat.min_eq_left (by omega)
              have hp2 : 2 ^ kb ≤ 128 := Nat.pow_le_pow_right (n := 2) (by decide) (show kb ≤ 7 by omega)
              have hp0 : 0 < 2 ^ kb := Nat.two_pow_pos kb
              have hw2 : IntKind.u8.wrap ((2 : Int) ^ kb) = ((2 ^ kb : Nat) : Int) := by
                rw [IntKind.wrap_u8', show ((2 : Int) ^ kb) = ((2 ^ kb : Nat) : Int) from (Int.natCast_pow 2 kb).symm]; omega
              have hxl := byte_lt x
              have hxx : x.toNat ^^^ 2 ^ kb < 256 := Nat.xor_lt_two_pow (n := 8) (by omega) (by omega)
              have hxor : bits .xor .u8 (x.toNat : Int) ((2 ^ kb : Nat) : Int) = ((UInt8.ofNat (x.toNat ^^^ 2 ^ kb)).toNat : Int) := by
                rw [u8_xor_nat _ _ hxl (by omega), UInt8.toNat_ofNat']; omega
              have hne : UInt8.ofNat (x.toNat ^^^ 2 ^ kb) ≠ x := fun e => by
                have h1 := congrArg UInt8.toNat e
                rw [UInt8.toNat_ofNat', show 2 ^ 8 = 256 from rfl, Nat.mod_eq_of_lt hxx] at h1
                have h2 := xor_canc (a := 2 ^ kb) (b := 0) (c := x.toNat) (by rw [Nat.zero_xor, Nat.xor_comm]; exact h1)
                omega
              generalize UInt8.ofNat (x.toNat ^^^ 2 ^ kb) = y at hxor hne
              generalize 2 ^ kb = p2 at hw2 hxor
              have hset := hS7'.set (y := y) hi
              have hcs := crcOf_set l (q / 8) x y hx hne
              have HSET := Lib.hid hset
              have HCS := Lib.hid hcs
              have HS7 := Lib.hid hS7'
              clear hset hcs hne hp2 hp0 hxl hxx hk8
              clear hS7 hS7' hT7 hat7
              go_wp2
              refine region_calm [.p 0, .p 1, .p 2, .p 3, .l 4, .p 5, .p 6, .p 7, .p 8, .p 9, .h 10 false] f_mixed (by kernel_rfl) (by kernel_rfl) ?_
              repeat (first | (refine plan_p rfl (fun K hK => ?_); go_simp; refine hK _ ?_; clear hK K) | (refine plan_l rfl (fun K hK => ?_); go_simp; refine hK _ ?_; clear hK K))
              refine plan_c rfl rfl (fun K _ hK => ?_)
              go_wp2_with fail
              refine plan_done ?_
              have hE8 : Ext w ((w7.setCell ⟨b7, q / 8, none⟩ (.int .u8 (y.toNat : Int))).drew) := by
                refine Ext.drew ?_
                refine Touch.ext ((((hE16.trans hE67).touch (fun b => b = b7)).setCell (p := ⟨b7, q / 8, none⟩) (fun _ => rfl) _)) (fun i hi e => ?_)
                have := hE16.size; omega
              have hTb : Touch (fun b => b = b7) w6 ((w7.setCell ⟨b7, q / 8, none⟩ (.int .u8 (y.toNat : Int))).drew) := ((hE67.touch (fun b => b = b7)).setCell (p := ⟨b7, q / 8, none⟩) (fun _ => rfl) _).drew
              have HE68 : Hid (Ext w6 ((w7.setCell ⟨b7, q / 8, none⟩ (.int .u8 (y.toNat : Int))).drew)) := Touch.ext hTb (fun i hi e => by omega)
              have HS8 := Lib.hid (HSET.out.ext (Ext.refl _).drew)
              clear hTb HSET cx fz hix hx hw2 hxor hr8
              generalize (w7.setCell ⟨b7, q / 8, none⟩ (.int .u8 (y.toNat : Int))).drew = w8 at *
              go_wp2_with fail
              refine (Sum_ok w8.heap.size 1 [l.set (q / 8) y] _ (by simp) (fun i z hz => ?_)).mono ?_
              · match i, hz with
                | 0, hz =>
                  cases hz
                  exact ⟨by rw [List.length_set]; omega, _, blk_cell (blk_new w8 _) rfl, by
                    have := (HS8.out.ext ((Ext.refl w8).alloc (.cells #[.slice (some ⟨b7, 0, none⟩) l.length cap7] 22))).at
                    exact this⟩
                | i + 1, hz => simp at hz
              rintro e w9 ⟨rfl, rfl⟩
              have hf1 : ([l.set (q / 8) y] : List (List UInt8)).flatten = l.set (q / 8) y := by simp
              rw [hf1]
              go_wp2_with fail
              refine (Sum_ok (w8.heap.size + 1) 1 [l] _ (by simp) (fun i z hz => ?_)).mono ?_
              · match i, hz with
                | 0, hz =>
                  cases hz
                  exact ⟨by omega, _, blk_cell (blk_new2 w8 _ _) rfl, HAL6.out.ext ((HE68.out.alloc _).alloc _)⟩
                | i + 1, hz => simp at hz
              rintro e w9 ⟨rfl, rfl⟩
              have hf2 : ([l] : List (List UInt8)).flatten = l := by simp
              rw [hf2]
              clear hf1 hf2
              have hnn : (((crcOf (l.set (q / 8) y) : Nat) : Int) != ((crcOf l : Nat) : Int)) = true := by
                have := HCS.out
                simp; omega
              go_wp2
              go_ret
              exact ⟨rfl, (hE8.alloc _).alloc _⟩
        · rw [hX] at hS3 ⊢
          simp only [codeOf, placeOf, valsOf] at hS3 ⊢
          have hF := blk_new w3 (.cells #[.int .i64 20, .int .i64 (k : Int)] 37)
          obtain ⟨f0, f1⟩ := blk2 hF
          have hE4 : Ext w3 (w3.alloc (.cells #[.int .i64 20, .int .i64 (k : Int)] 37)) := (Ext.refl w3).alloc _
          have hE26 := hE3.trans hE4
          have hll : l.length ≤ 1000000000 := by have := HEL.out; have := HN.out; omega
          clear hX hed hF hS3 hE3 hE4 HDC f0 f1
          have HAL6 := Lib.hid (HAL.out.ext hE26)
          have hsz6 : (w3.alloc (.cells #[.int .i64 20, .int .i64 (k : Int)] 37)).heap.size = (w3.heap.size + 1) := by first | rfl | simp
          have hE16 : Ext w (w3.alloc (.cells #[.int .i64 20, .int .i64 (k : Int)] 37)) := hE12.trans hE26
          clear hsl hE26
          by_cases ht0 : turn < 0
          · go_wp2
            go_ret
            exact ⟨rfl, hE16⟩
          · obtain ⟨q, rfl⟩ : ∃ q : Nat, turn = (q : Int) := ⟨turn.toNat, by omega⟩
            clear ht0
            by_cases hq : l.length ≤ q / 8
            · have hq' : (l.length : Int) ≤ (q : Int) / 8 := by omega
              go_wp2
              go_ret
              exact ⟨rfl, hE16⟩
            · have hi : q / 8 < l.length := by omega
              have hq' : ¬ (l.length : Int) ≤ (q : Int) / 8 := by omega
              clear hq
              go_wp2_with (at_builtin; refine app_bytes ei_byte rfl (.tmp 79) (.tmp 80) rfl (g := some (w3.heap.size + 1)) (n := 0) (cap := 0) (by rfl) (xs := []) ⟨by simp, #[], blk_new2 w3 _ _, by omega, by decide, by simp, by simp⟩ (by rfl) (HAL6.out.ext ((Ext.refl (w3.alloc (.cells #[.int .i64 20, .int .i64 (k : Int)] 37))).alloc _)) (by omega) ?_)
              intro g7 cap7 w7 hS7 hT7 hat7
              have hS7' : Bs w7 g7 l.length cap7 l := by simpa using hS7
              have hE67 : Ext (w3.alloc (.cells #[.int .i64 20, .int .i64 (k : Int)] 37)) w7 := Touch.ext ((((Ext.refl (w3.alloc (.cells #[.int .i64 20, .int .i64 (k : Int)] 37))).alloc _).touch _).trans hT7) (fun i hi e => by omega)
              obtain ⟨b7, rfl⟩ := hS7'.some_of_pos (by omega)
              have hb7 : (w3.alloc (.cells #[.int .i64 20, .int .i64 (k : Int)] 37)).heap.size ≤ b7 := by
                rcases hat7 with h | h <;> simp at h <;> (first | omega | (rw [hsz6]; omega) | (rw [World.size_alloc]; omega))
              obtain ⟨x, hx⟩ : ∃ x, l[q / 8]? = some x := ⟨_, List.getElem?_eq_getElem hi⟩
              have cx := hS7'.cell (bc_get hx)
              have fz : w7.frozen? ⟨b7, q / 8, none⟩ = false := by
                obtain ⟨_, cur, hb, _⟩ := hS7'
                exact blk_frozen hb _
              have hix : ∀ w' : World, (Instr.indexAt 22 (slv (some b7) l.length cap7) (.int .i64 ((q : Int) / 8))).run Try.prog w' = .ok (.pointer (some ⟨b7, q / 8, none⟩)) w' := fun w' => by
                have := run_index_slv (P := Try.prog) ei_byte (cap := cap7) (rfl : some b7 = some b7) hi w'
                rw [Nat.mul_one, Int.natCast_ediv] at this
                exact this
              have hw8 : IntKind.i64.wrap ((q : Int) / 8) = (q : Int) / 8 := by rw [IntKind.wrap_i64]; omega
              have hr8 : (q : Int).tmod 8 = ((q % 8 : Nat) : Int) := by rw [Int.tmod_eq_emod_of_nonneg (by omega)]; omega
              have hk8 : q % 8 < 8 := Nat.mod_lt _ (by decide)
              generalize q % 8 = kb at hr8 hk8
              have hmin : min kb 8 = kb := Nat.min_eq_left (by omega)
              have hp2 : 2 ^ kb ≤ 128 := Nat.pow_le_pow_right (n := 2) (by decide) (show kb ≤ 7 by omega)
              have hp0 : 0 < 2 ^ kb := Nat.two_pow_pos kb
              have hw2 : IntKind.u8.wrap ((2 : Int) ^ kb) = ((2 ^ kb : Nat) : Int) := by
                rw [IntKind.wrap_u8', show ((2 : Int) ^ kb) = ((2 ^ kb : Nat) : Int) from (Int.natCast_pow 2 kb).symm]; omega
              have hxl := byte_lt x
              have hxx : x.toNat ^^^ 2 ^ kb < 256 := Nat.xor_lt_two_pow (n := 8) (by omega) (by omega)
              have hxor : bits .xor .u8 (x.toNat : Int) ((2 ^ kb : Nat) : Int) = ((UInt8.ofNat (x.toNat ^^^ 2 ^ kb)).toNat : Int) := by
                rw [u8_xor_nat _ _ hxl (by omega), UInt8.toNat_ofNat']; omega
              have hne : UInt8.ofNat (x.toNat ^^^ 2 ^ kb) ≠ x := fun e => by
                have h1 := congrArg UInt8.toNat e
                rw [UInt8.toNat_ofNat', show 2 ^ 8 = 256 from rfl, Nat.mod_eq_of_lt hxx] at h1
                have h2 := xor_canc (a := 2 ^ kb) (b := 0) (c := x.toNat) (by rw [Nat.zero_xor, Nat.xor_comm]; exact h1)
                omega
              generalize UInt8.ofNat (x.toNat ^^^ 2 ^ kb) = y at hxor hne
              generalize 2 ^ kb = p2 at hw2 hxor
              have hset := hS7'.set (y := y) hi
              have hcs := crcOf_set l (q / 8) x y hx hne
              have HSET := Lib.hid hset
              have HCS := Lib.hid hcs
              have HS7 := Lib.hid hS7'
              clear hset hcs hne hp2 hp0 hxl hxx hk8
              clear hS7 hS7' hT7 hat7
              go_wp2
              refine region_calm [.p 0, .p 1, .p 2, .p 3, .l 4, .p 5, .p 6, .p 7, .p 8, .p 9, .h 10 false] f_mixed (by kernel_rfl) (by kernel_rfl) ?_
              repeat (first | (refine plan_p rfl (fun K hK => ?_); go_simp; refine hK _ ?_; clear hK K) | (refine plan_l rfl (fun K hK => ?_); go_simp; refine hK _ ?_; clear hK K))
              refine plan_c rfl rfl (fun K _ hK => ?_)
              go_wp2_with fail
              refine plan_done ?_
              have hE8 : Ext w ((w7.setCell ⟨b7, q / 8, none⟩ (.int .u8 (y.toNat : Int))).drew) := by
                refine Ext.drew ?_
                refine Touch.ext ((((hE16.trans hE67).touch (fun b => b = b7)).setCell (p := ⟨b7, q / 8, none⟩) (fun _ => rfl) _)) (fun i hi e => ?_)
                have := hE16.size; omega
              have hTb : Touch (fun b => b = b7) (w3.alloc (.cells #[.int .i64 20, .int .i64 (k : Int)] 37)) ((w7.setCell ⟨b7, q / 8, none⟩ (.int .u8 (y.toNat : Int))).drew) := ((hE67.touch (fun b => b = b7)).setCell (p := ⟨b7, q / 8, none⟩) (fun _ => rfl) _).drew
              have HE68 : Hid (Ext (w3.alloc (.cells #[.int .i64 20, .int .i64 (k : Int)] 37)) ((w7.setCell ⟨b7, q / 8, none⟩ (.int .u8 (y.toNat : Int))).drew)) := Touch.ext hTb (fun i hi e => by omega)
              have HS8 := Lib.hid (HSET.out.ext (Ext.refl _).drew)
              clear hTb HSET cx fz hix hx hw2 hxor hr8
              generalize (w7.setCell ⟨b7, q / 8, none⟩ (.int .u8 (y.toNat : Int))).drew = w8 at *
              go_wp2_with fail
              refine (Sum_ok w8.heap.size 1 [l.set (q / 8) y] _ (by simp) (fun i z hz => ?_)).mono ?_
              · match i, hz with
                | 0, hz =>
                  cases hz
                  exact ⟨by rw [List.length_set]; omega, _, blk_cell (blk_new w8 _) rfl, by
                    have := (HS8.out.ext ((Ext.refl w8).alloc (.cells #[.slice (some ⟨b7, 0, none⟩) l.length cap7] 22))).at
                    exact this⟩
                | i + 1, hz => simp at hz
              rintro e w9 ⟨rfl, rfl⟩
              have hf1 : ([l.set (q / 8) y] : List (List UInt8)).flatten = l.set (q / 8) y := by simp
              rw [hf1]
              go_wp2_with fail
              refine (Sum_ok (w8.heap.size + 1) 1 [l] _ (by simp) (fun i z hz => ?_)).mono ?_
              · match i, hz with
                | 0, hz =>
                  cases hz
                  exact ⟨by omega, _, blk_cell (blk_new2 w8 _ _) rfl, HAL6.out.ext ((HE68.out.alloc _).alloc _)⟩
                | i + 1, hz => simp at hz
              rintro e w9 ⟨rfl, rfl⟩
              have hf2 : ([l] : List (List UInt8)).flatten = l := by simp
              rw [hf2]
              clear hf1 hf2
              have hnn : (((crcOf (l.set (q / 8) y) : Nat) : Int) != ((crcOf l : Nat) : Int)) = true := by
                have := HCS.out
                simp; omega
              go_wp2
              go_ret
              exact ⟨rfl, (hE8.alloc _).alloc _⟩
  · have hcb : (checkL vs != 0) = true := by simp [h0]
    clear h0
    go_wp2
    go_ret
    exact ⟨rfl, hE12⟩

end Go.Proofs.Ytlmlkphdalkfdaa
