/- btree.split: walked. -/
import Derived.Test.YtkejjahlglldlaaBt6
namespace Go.Proofs.Ytkejjahlglldlaa
open Go.RowKit Go.Lib

set_option maxRecDepth 100000 in
set_option maxHeartbeats 16000000 in
theorem split_ok (tb nb kb m i : Nat) (v1 v2 : Value) (es ek : List Ent) (ps pk : List Nat) (gk gv gc : Option Nat) (ck cv cc : Nat) (hk hv hc : Option Nat) (dk dv dc : Nat) (w : World) (hT : w.heap[tb]? = some (.cells #[.int .i64 (m : Int), v1, v2] 84 (0, 0)))
    (hN : NodeAt w nb es ps gk gv gc ck cv cc) (hK : NodeAt w kb ek pk hk hv hc dk dv dc) (hi : ps[i]? = some kb) (hie : i ≤ es.length) (hm : 2 ≤ m) (hm2 : m ≤ 64) (hek : ek.length + 1 = 2 * m) (hpk : pk = [] ∨ pk.length = 2 * m) (hes : es.length ≤ 1000) (hps : ps.length = es.length + 1)
    (hnd : (ownL nb gk gv gc ++ ownL kb hk hv hc).Nodup) :
    Calls Try.prog 32 #[.pointer (some ⟨tb, 0, none⟩), .pointer (some ⟨nb, 0, none⟩), .int .i64 (i : Int)] w (SplitPost nb kb m i es ek ps pk gk gv gc hk hv hc dk dv dc w) := by
  obtain ⟨M, hM⟩ : ∃ M, M + 1 = m := ⟨m - 1, by omega⟩
  have hM1 : (m : Int) - 1 = (M : Int) := by omega
  have hM2 : (M : Int) + 1 = (m : Int) := by omega
  obtain ⟨t0, t1, t2⟩ := blk3 hT
  obtain ⟨n0, n1, n2⟩ := blk3 hN.blk
  obtain ⟨k0, k1, k2⟩ := blk3 hK.blk
  obtain ⟨gcb, hgcb⟩ := hN.kids.some_of_pos (by omega)
  obtain ⟨hkb, hhkb⟩ := hK.keys.some_of_pos (by omega)
  obtain ⟨hvb, hhvb⟩ := hK.vals.some_of_pos (by omega)
  subst hgcb hhkb hhvb
  have hci := hN.kids.cell (sP_get hi)
  have hri := fun W => run_index_slv (P := Try.prog) ei_node (g := some gcb) (cap := cc) rfl (j := i) (n := ps.length) (by omega) W
  have hwM : IntKind.i64.wrap (M : Int) = (M : Int) := by rw [IntKind.wrap_i64]; omega
  have hwm : IntKind.i64.wrap (m : Int) = (m : Int) := by rw [IntKind.wrap_i64]; omega
  have hb1 : m ≤ ek.length := by omega
  have hb2 : ek.length ≤ dk := hK.keys.le
  have hb3 : ek.length ≤ dv := hK.vals.le
  have hb4 := hK.keys.cap_le
  have hb5 := hK.vals.cap_le
  unfold maxLen at hb4 hb5
  have hne1 : ¬ dk = m := by omega
  have hne2 : ¬ dv = m := by omega
  have had : ∀ b : Nat, Option.map (fun x : Addr => x.add m) (adr (some b)) = some ⟨b, m, none⟩ := fun b => by
    have : m ≠ 0 := by omega
    simp [adr, Addr.add, this]
  have hLM : ek.length - m = M := by omega
  obtain ⟨I1, hI1⟩ : ∃ I1, I1 = i + 1 := ⟨_, rfl⟩
  have hi1 : (i : Int) + 1 = (I1 : Int) := by omega
  have hwI : IntKind.i64.wrap (I1 : Int) = (I1 : Int) := by rw [IntKind.wrap_i64]; omega
  have HI1 := Lib.hid hI1; clear hI1
  have HM := Lib.hid hM; clear hM
  have HN := Lib.hid hN
  have HK := Lib.hid hK
  have HT := Lib.hid hT
  have HI := Lib.hid hi
  have HEK := Lib.hid hek
  have HPK := Lib.hid hpk
  have HPS := Lib.hid hps
  have HND := Lib.hid hnd
  have HLT := Lib.hid (show ∀ x ∈ ownL nb gk gv (some gcb) ++ ownL kb (some hkb) (some hvb) hc, x < w.heap.size from fun x hx => (List.mem_append.1 hx).elim (hN.lt x) (hK.lt x))
  clear hT hN hK hi hek hpk hnd hps
  go_enter Try.func32, Try.ntmps32
  go_wp2
  refine region_calm [.p 0, .p 1, .p 2, .l 3, .p 4, .p 5, .l 6, .p 7, .p 8, .p 9, .p 10, .l 11, .p 12, .p 13, .p 14] f_mixed (by kernel_rfl) (by kernel_rfl) ?_
  repeat (first | (refine plan_p rfl (fun K hK => ?_); go_simp; refine hK _ ?_; clear hK K) | (refine plan_l rfl (fun K hK => ?_); go_simp; refine hK _ ?_; clear hK K))
  refine plan_done ?_
  go_wp2
  refine region_calm [.p 0, .p 1, .p 2, .l 3, .p 4, .p 5, .p 6, .p 8, .p 9, .p 10, .l 11, .p 12, .p 13, .p 14, .h 7 true, .h 15 false, .p 16, .h 17 false, .p 18] f_mixed (by kernel_rfl) (by kernel_rfl) ?_
  repeat (first | (refine plan_p rfl (fun K hK => ?_); go_simp; refine hK _ ?_; clear hK K) | (refine plan_l rfl (fun K hK => ?_); go_simp; refine hK _ ?_; clear hK K))
  refine plan_ct rfl rfl (fun K _ hK => ?_)
  go_wp2_with fail
  refine (ClnS (some hkb) m M (dk - m) ((sK ek).drop m) _ (by simp [sK, hLM]) (fun b hb j u hu => by
    cases hb
    rw [List.getElem?_drop] at hu
    exact HK.out.keys.cell hu) (fun h => by cases h) (fun u hu => sK_one ek u (List.mem_of_mem_drop hu)) (by have := HEK.out; omega)).mono ?_
  rintro e w1 ⟨rk, rck, rfl, hS1, hg1, hE1⟩
  go_wp2
  refine hK _ _ (hE1) ?_; clear hK K
  refine plan_c rfl rfl (fun K _ hK => ?_)
  go_wp2_with fail
  refine (ClnI (some hvb) m M (dv - m) ((sV ek).drop m) w1 (by simp [sV, hLM]) (fun b hb j u hu => by
    cases hb
    rw [List.getElem?_drop] at hu
    exact Ext.cell hE1 (HK.out.vals.cell hu)) (fun h => by cases h) (fun u hu => sV_one ek u (List.mem_of_mem_drop hu)) (by have := HEK.out; omega)).mono ?_
  rintro e w2 ⟨rv, rcv, rfl, hS2, hg2, hE2⟩
  go_wp2
  repeat (first | (refine plan_p rfl (fun K hK => ?_); go_simp; refine hK _ ?_; clear hK K) | (refine plan_l rfl (fun K hK => ?_); go_simp; refine hK _ ?_; clear hK K))
  refine plan_c rfl rfl (fun K _ hK => ?_)
  go_wp2
  repeat (first | (refine plan_p rfl (fun K hK => ?_); go_simp; refine hK _ ?_; clear hK K) | (refine plan_l rfl (fun K hK => ?_); go_simp; refine hK _ ?_; clear hK K))
  refine plan_done ?_
  obtain ⟨rb, hrb⟩ : ∃ rb, w2.heap.size = rb := ⟨_, rfl⟩
  obtain ⟨W3, hW3⟩ : ∃ W3, w2.alloc (.cells #[slv rk M rck, slv rv M rcv, .slice none 0 0] 82) = W3 := ⟨_, rfl⟩
  rw [hrb, hW3]
  have hE12 : Ext w w2 := ((Ext.refl w).drew.drew.trans hE1).trans hE2
  have hE3 : Ext w W3 := by rw [← hW3]; exact hE12.alloc _
  have hB3 : W3.heap[rb]? = some (.cells #[slv rk M rck, slv rv M rcv, .slice none 0 0] 82 (0, 0)) := by rw [← hW3, ← hrb]; exact blk_new _ _
  have hrk : ∀ x, rk = some x → w.heap.size ≤ x ∧ x < rb := fun x hx => by
    have h1 := hg1 x hx
    subst hx
    have h2 := hS1.block_lt
    have h3 := hE2.size
    exact ⟨by simpa using h1, by omega⟩
  have hrv : ∀ x, rv = some x → w.heap.size ≤ x ∧ x < rb := fun x hx => by
    have h1 := hg2 x hx
    have h4 := hE1.size
    subst hx
    have h2 := hS2.block_lt
    simp at h4
    exact ⟨by omega, by omega⟩
  have hrkv : ∀ x y, rk = some x → rv = some y → x < y := fun x y hx hy => by
    have h1 := hg2 y hy
    subst hx
    have h2 := hS1.block_lt
    omega
  have hrbw : w.heap.size ≤ rb := by have := hE12.size; omega
  have hrb3 : rb < W3.heap.size := blk_lt hB3
  have hSK3 : Sl W3 9 1 rk M rck ((sK ek).drop m) := by rw [← hW3]; exact (hS1.ext hE2).ext ((Ext.refl _).alloc _)
  have hSV3 : Sl W3 2 1 rv M rcv ((sV ek).drop m) := by rw [← hW3]; exact hS2.ext ((Ext.refl _).alloc _)
  clear hW3 hrb hS1 hS2 hg1 hg2 hE1 hE2 hE12 hri hci t0 t1 t2 n0 n1 n2 k0 k1 k2
  clear w1 w2
  have HRK := Lib.hid hrk; have HRV := Lib.hid hrv; have HRKV := Lib.hid hrkv; have HB3 := Lib.hid hB3
  have HSK3 := Lib.hid hSK3; have HSV3 := Lib.hid hSV3; have HE3 := Lib.hid hE3
  clear hrk hrv hrkv hB3 hSK3 hSV3 hE3
  have HN3 := Lib.hid (HN.out.congr fun k hk => Below.block HE3.out k (HN.out.lt k hk))
  have HK3 := Lib.hid (HK.out.congr fun k hk => Below.block HE3.out k (HK.out.lt k hk))
  obtain ⟨n0, n1, n2⟩ := blk3 HN3.out.blk
  obtain ⟨k0, k1, k2⟩ := blk3 HK3.out.blk
  obtain ⟨r0, r1, r2⟩ := blk3 HB3.out
  rcases HPK.out with hpk | hpk
  · have hpk' : decide (pk = []) = true := decide_eq_true hpk
    subst hpk
    have HA := Lib.hid (spa_leaf HE3.out HN3.out HK3.out hLM HB3.out HRK.out HRV.out HRKV.out hrbw HSK3.out HSV3.out)
    clear n0 n1 n2 k0 k1 r0 r1 r2
    go_wp2_with (first | (go_at_call 34; refine (leaf_ok HK3.out).mono ?_; rintro e w' ⟨rfl, rfl⟩))
    clear HSK3 HSV3 HE3 HN3 HK3 HRK HRV HRKV HB3 k2
    have HD := Lib.hid (nd_facts HND.out)
    have HDN := Lib.hid (nd_own HND.out)
    obtain ⟨em, hem⟩ : ∃ em, ek[M]? = some em := ⟨ek[M]'(by have := HEK.out; omega), List.getElem?_eq_getElem _⟩
    have HEM := Lib.hid hem; clear hem
    have hxe := fun U => run_index_slv (P := Try.prog) ei_string (g := some hkb) (cap := dk) rfl (j := M) (n := ek.length) (by omega) U
    have hce := HA.out.kk.cell (sK_get HEM.out)
    obtain ⟨n0, n1, n2⟩ := blk3 HA.out.nblk
    obtain ⟨k0, k1, k2⟩ := blk3 HA.out.kblk
    refine region_calm [.p 0, .p 1, .p 2, .p 3, .l 4, .p 5, .p 6, .p 7, .p 8, .l 9, .p 10, .p 11, .l 12, .h 13 true, .h 14 false, .p 15, .p 16, .h 17 false] f_mixed (by kernel_rfl) (by kernel_rfl) ?_
    repeat (first | (refine plan_p rfl (fun K hK => ?_); go_simp; refine hK _ ?_; clear hK K) | (refine plan_l rfl (fun K hK => ?_); go_simp; refine hK _ ?_; clear hK K))
    refine plan_ct rfl rfl (fun K _ hK => ?_)
    go_wp2
    refine hK _ _ (((Ext.refl W3.drew).alloc _)) ?_; clear hK K
    refine plan_c rfl rfl (fun K _ hK => ?_)
    go_wp2_with fail
    refine (insS_at (i := i) (vb := W3.heap.size) (x := str em.1) (U := (W3.alloc (.cells #[str em.1] 9)).drew) HA.out.nk ((Ext.refl W3).alloc _).drew (blk_new W3 _) (Nat.le_refl _) hie (sK_one es) rfl (by omega)).mono ?_
    rintro e W5 ⟨gk', ck', rfl, S5, T5, f5⟩
    clear n0 n1 n2 k0 k1 k2 hxe hce
    have hz := nd_blk_frozen HA.out.nblk T5 HD.out.2.2.1 0
    obtain ⟨n0, n1, n2⟩ := blk3 (T5.old HA.out.nblk HD.out.2.2.1)
    have HS5 := Lib.hid S5; have HT5 := Lib.hid T5; have HF5 := Lib.hid f5
    clear S5 T5 f5
    go_wp2
    repeat (first | (refine plan_p rfl (fun K hK => ?_); go_simp; refine hK _ ?_; clear hK K) | (refine plan_l rfl (fun K hK => ?_); go_simp; refine hK _ ?_; clear hK K))
    refine plan_c rfl rfl (fun K _ hK => ?_)
    go_wp2
    refine plan_done ?_
    have HB5 : Hid ((W5.setCell ⟨nb, 0, none⟩ (slv (some gk') (es.length + 1) ck')).heap[nb]? = some (.cells #[slv (some gk') (es.length + 1) ck', slv gv es.length cv, slv (some gcb) ps.length cc] 82 (0, 0))) := nd_blk HA.out.nblk HT5.out HD.out.2.2.1 0 _
    have HT5' := Lib.hid (nd_store (nb := nb) (j := 0) (v := slv (some gk') (es.length + 1) ck') HT5.out)
    have HS5' := Lib.hid (HS5.out.set_off ⟨nb, 0, none⟩ (slv (some gk') (es.length + 1) ck') (fun b hb => by cases hb; exact ne_new HF5.out (blk_lt HA.out.nblk) HD.out.2.2.1))
    have HKB5 := Lib.hid (HT5'.out.old HA.out.kblk (by rintro (h | h); exact (HD.out.2.1 kb (.inl rfl)).1 h; exact HD.out.1 h.symm))
    have HKV5 := Lib.hid (HA.out.kv.touch HT5'.out (by intro b hb; have := HD.out.2.1 b (.inr (.inr hb)); rintro (h | h); exact this.1 h; exact this.2.2.2 h))
    have HNV5 := Lib.hid (HA.out.nv.touch HT5'.out (by intro b hb; rintro (h | h); exact HDN.out.1 b h hb; exact HD.out.2.2.2.1 (h ▸ hb)))
    have HNC5 := Lib.hid (HA.out.nc.touch HT5'.out (by intro b hb; rintro (h | h); exact HDN.out.2.1 b h hb; exact HD.out.2.2.2.2.1 (h ▸ hb)))
    clear HS5 HT5 hz n0 n1 n2
    obtain ⟨WB, hWB⟩ : ∃ WB, W5.setCell ⟨nb, 0, none⟩ (slv (some gk') (es.length + 1) ck') = WB := ⟨_, rfl⟩
    rw [hWB] at HB5 HT5' HS5' HKB5 HKV5 HNV5 HNC5
    go_wp2
    rw [hWB]
    clear hWB
    have hxe := fun U => run_index_slv (P := Try.prog) ei_int64 (g := some hvb) (cap := dv) rfl (j := M) (n := ek.length) (by omega) U
    have hce := HKV5.out.cell (sV_get HEM.out)
    obtain ⟨n0, n1, n2⟩ := blk3 HB5.out
    obtain ⟨k0, k1, k2⟩ := blk3 HKB5.out
    refine region_calm [.p 0, .p 1, .p 2, .p 3, .l 4, .p 5, .p 6, .p 7, .p 8, .l 9, .p 10, .p 11, .l 12, .h 13 true, .h 14 false, .p 15, .p 16, .h 17 false] f_mixed (by kernel_rfl) (by kernel_rfl) ?_
    repeat (first | (refine plan_p rfl (fun K hK => ?_); go_simp; refine hK _ ?_; clear hK K) | (refine plan_l rfl (fun K hK => ?_); go_simp; refine hK _ ?_; clear hK K))
    refine plan_ct rfl rfl (fun K _ hK => ?_)
    go_wp2
    refine hK _ _ (((Ext.refl WB.drew).alloc _)) ?_; clear hK K
    refine plan_c rfl rfl (fun K _ hK => ?_)
    go_wp2_with fail
    refine (insI_at (i := i) (vb := WB.heap.size) (x := .int .i64 em.2) (U := (WB.alloc (.cells #[.int .i64 em.2] 2)).drew) HNV5.out ((Ext.refl WB).alloc _).drew (blk_new WB _) (Nat.le_refl _) hie (sV_one es) rfl (by omega)).mono ?_
    rintro e W6 ⟨gv', cv', rfl, S6, T6, f6⟩
    clear n0 n1 n2 k0 k1 k2 hxe hce
    have hz := nd_blk_frozen HB5.out T6 HD.out.2.2.2.1 1
    obtain ⟨n0, n1, n2⟩ := blk3 (T6.old HB5.out HD.out.2.2.2.1)
    have HS6 := Lib.hid S6; have HT6 := Lib.hid T6; have HF6 := Lib.hid f6
    clear S6 T6 f6
    go_wp2
    repeat (first | (refine plan_p rfl (fun K hK => ?_); go_simp; refine hK _ ?_; clear hK K) | (refine plan_l rfl (fun K hK => ?_); go_simp; refine hK _ ?_; clear hK K))
    refine plan_c rfl rfl (fun K _ hK => ?_)
    go_wp2
    refine plan_done ?_
    have HB6 : Hid ((W6.setCell ⟨nb, 1, none⟩ (slv (some gv') (es.length + 1) cv')).heap[nb]? = some (.cells #[slv (some gk') (es.length + 1) ck', slv (some gv') (es.length + 1) cv', slv (some gcb) ps.length cc] 82 (0, 0))) := nd_blk HB5.out HT6.out HD.out.2.2.2.1 1 _
    have HT6' := Lib.hid (nd_store (nb := nb) (j := 1) (v := slv (some gv') (es.length + 1) cv') HT6.out)
    have HS6' := Lib.hid (HS6.out.set_off ⟨nb, 1, none⟩ (slv (some gv') (es.length + 1) cv') (fun b hb => by cases hb; exact ne_new HF6.out (blk_lt HB5.out) HD.out.2.2.2.1))
    have HKB6 := Lib.hid (HT6'.out.old HKB5.out (by rintro (h | h); exact (HD.out.2.1 kb (.inl rfl)).2.1 h; exact HD.out.1 h.symm))
    have HNC6 := Lib.hid (HNC5.out.touch HT6'.out (by intro b hb; rintro (h | h); exact HDN.out.2.2 b h hb; exact HD.out.2.2.2.2.1 (h ▸ hb)))
    clear HS6 HT6 hz HNV5 HNC5 HKV5 HKB5 HB5 n0 n1 n2
    obtain ⟨WC, hWC⟩ : ∃ WC, W6.setCell ⟨nb, 1, none⟩ (slv (some gv') (es.length + 1) cv') = WC := ⟨_, rfl⟩
    rw [hWC] at HB6 HT6' HS6' HKB6 HNC6
    rw [hWC]
    clear hWC
    obtain ⟨n0, n1, n2⟩ := blk3 HB6.out
    go_wp2_with fail
    refine (insN_at (i := I1) (vb := WC.heap.size) (x := .pointer (some ⟨rb, 0, none⟩)) (U := WC.alloc (.cells #[.pointer (some ⟨rb, 0, none⟩)] 78)) HNC6.out ((Ext.refl WC).alloc _) (blk_new WC _) (Nat.le_refl _) (by have := HI1.out; have := HPS.out; omega) (sP_one ps) rfl (by have := HPS.out; omega)).mono ?_
    rintro e W7 ⟨gc', cc', rfl, S7, T7, f7⟩
    clear n0 n1 n2
    have hz := nd_blk_frozen HB6.out T7 HD.out.2.2.2.2.1 2
    obtain ⟨n0, n1, n2⟩ := blk3 (T7.old HB6.out HD.out.2.2.2.2.1)
    have HS7 := Lib.hid S7; have HT7 := Lib.hid T7; have HF7 := Lib.hid f7
    clear S7 T7 f7
    have HB7 : Hid ((W7.setCell ⟨nb, 2, none⟩ (slv (some gc') (ps.length + 1) cc')).heap[nb]? = some (.cells #[slv (some gk') (es.length + 1) ck', slv (some gv') (es.length + 1) cv', slv (some gc') (ps.length + 1) cc'] 82 (0, 0))) := nd_blk HB6.out HT7.out HD.out.2.2.2.2.1 2 _
    have HT7' := Lib.hid (nd_store (nb := nb) (j := 2) (v := slv (some gc') (ps.length + 1) cc') HT7.out)
    have HS7' := Lib.hid (HS7.out.set_off ⟨nb, 2, none⟩ (slv (some gc') (ps.length + 1) cc') (fun b hb => by cases hb; exact ne_new HF7.out (blk_lt HB6.out) HD.out.2.2.2.2.1))
    have HKB7 := Lib.hid (HT7'.out.old HKB6.out (by rintro (h | h); exact (HD.out.2.1 kb (.inl rfl)).2.2.1 h; exact HD.out.1 h.symm))
    clear HS7 HT7 HNC6 HKB6 HB6
    go_wp2
    clear n0 n1 n2 hz
    obtain ⟨WD, hWD⟩ : ∃ WD, W7.setCell ⟨nb, 2, none⟩ (slv (some gc') (ps.length + 1) cc') = WD := ⟨_, rfl⟩
    rw [hWD] at HB7 HT7' HS7' HKB7
    rw [hWD]
    clear hWD
    obtain ⟨k0, k1, k2⟩ := blk3 HKB7.out
    have hz0 := blk_frozen HKB7.out 0
    have hz1 := blk_frozen HKB7.out 1
    have hMd : M ≤ dk := by omega
    have hMd2 : M ≤ dv := by omega
    refine region_calm [.p 0, .p 1, .p 2, .p 3, .p 4, .l 5, .p 6, .p 7, .p 8, .p 9, .p 10, .l 11, .p 12, .p 13, .p 14, .p 15, .h 16 false, .p 17, .p 18, .h 19 false] f_mixed (by kernel_rfl) (by kernel_rfl) ?_
    repeat (first | (refine plan_p rfl (fun K hK => ?_); go_simp; refine hK _ ?_; clear hK K) | (refine plan_l rfl (fun K hK => ?_); go_simp; refine hK _ ?_; clear hK K))
    refine plan_c rfl rfl (fun K _ hK => ?_)
    go_wp2
    repeat (first | (refine plan_p rfl (fun K hK => ?_); go_simp; refine hK _ ?_; clear hK K) | (refine plan_l rfl (fun K hK => ?_); go_simp; refine hK _ ?_; clear hK K))
    refine plan_c rfl rfl (fun K _ hK => ?_)
    go_wp2
    refine plan_done ?_
    go_wp2
    (try simp only [Exit.inBlock, Exit.then]); refine bodyPost_end (results_none rfl _ _ _) rfl ?_
    have hmM : m - 1 = M := by have := HM.out; omega
    have hS7 := HS7'.out
    rw [HI1.out] at hS7
    have hB4 := blk_set (blk_set HKB7.out 0 (slv (some hkb) M dk)) 1 (slv (some hvb) M dv)
    refine split_done rfl HA.out (by rw [hmM]; exact HEM.out) hie (by have := HPS.out; omega) HLT.out HND.out (by rw [List.length_take]; exact Nat.min_le_right _ _) HS5'.out HT5'.out HF5.out HS6'.out HT6'.out HF6.out hS7 HT7'.out HF7.out HB7.out ?_ ?_
    · rw [hmM]; exact hB4
    · exact ((Touch.setCell (S := fun k => k = kb) (Touch.refl _ WD) (p := ⟨kb, 0, none⟩) (fun _ => rfl) _).setCell (p := ⟨kb, 1, none⟩) (fun _ => rfl) _).drew
  · have hpk' : decide (pk = []) = false := decide_eq_false (fun e => by rw [e] at hpk; simp at hpk; omega)
    obtain ⟨hcb, hhcb⟩ := HK3.out.kids.some_of_pos (by omega)
    subst hhcb
    have hb6 : pk.length ≤ dc := HK3.out.kids.le
    have hb7 := HK3.out.kids.cap_le
    unfold maxLen at hb7
    have hne3 : ¬ dc = m := by omega
    have hpm : m ≤ pk.length := by omega
    have hpmc : m ≤ dc := by omega
    have hpl : pk.length - m = m := by omega
    have HPK2 := Lib.hid hpk; clear hpk
    go_wp2_with (first | (go_at_call 34; refine (leaf_ok HK3.out).mono ?_; rintro e w' ⟨rfl, rfl⟩))
    refine (ClnN (some hcb) m m (dc - m) ((sP pk).drop m) W3 (by simp [sP, hpl]) (fun b hb j u hu => by
      cases hb
      rw [List.getElem?_drop] at hu
      exact HK3.out.kids.cell hu) (fun h => by cases h) (fun u hu => sP_one pk u (List.mem_of_mem_drop hu)) (by omega)).mono ?_
    rintro e W4 ⟨rc, rcc, rfl, hS4, hg4, hE4⟩
    have HS4 := Lib.hid hS4; have HG4 := Lib.hid hg4; have HE4 := Lib.hid hE4
    clear hS4 hg4 hE4 n0 n1 n2 k0 k1 k2 r0 r1 r2
    have HN4 := Lib.hid (HN3.out.congr fun k hk => Below.block HE4.out k (HN3.out.lt k hk))
    have HK4 := Lib.hid (HK3.out.congr fun k hk => Below.block HE4.out k (HK3.out.lt k hk))
    have HB4 := Lib.hid (Ext.block HE4.out HB3.out)
    obtain ⟨n0, n1, n2⟩ := blk3 HN4.out.blk
    obtain ⟨k0, k1, k2⟩ := blk3 HK4.out.blk
    obtain ⟨r0, r1, r2⟩ := blk3 HB4.out
    have hz := blk_frozen HB4.out 2
    have hz2 := blk_frozen HK4.out.blk 2
    have hkr : kb < rb := by have := HK.out.lt kb (by simp); omega
    have hnr : nb < rb := by have := HN.out.lt nb (by simp); omega
    go_wp2
    have HA4 := Lib.hid (spa_inner (W3 := W3) (HE3.out.trans HE4.out) HN4.out HK4.out hLM HPK2.out HLT.out HND.out HB4.out HRK.out HRV.out HRKV.out hrbw hrb3 (HSK3.out.ext HE4.out) (HSV3.out.ext HE4.out) HS4.out HG4.out)
    obtain ⟨WA, hWA⟩ : ∃ WA, (W4.setCell ⟨rb, 2, none⟩ (slv rc m rcc)).setCell ⟨kb, 2, none⟩ (slv (some hcb) m dc) = WA := ⟨_, rfl⟩
    rw [hWA] at HA4
    rw [hWA]
    clear hWA n0 n1 n2 k0 k1 k2 r0 r1 r2 hz hz2
    clear HSK3 HSV3 HE3 HN3 HK3 HRK HRV HRKV HB3 HN4 HK4 HB4 HS4 HG4
    have HD := Lib.hid (nd_facts HND.out)
    have HDN := Lib.hid (nd_own HND.out)
    obtain ⟨em, hem⟩ : ∃ em, ek[M]? = some em := ⟨ek[M]'(by have := HEK.out; omega), List.getElem?_eq_getElem _⟩
    have HEM := Lib.hid hem; clear hem
    have hxe := fun U => run_index_slv (P := Try.prog) ei_string (g := some hkb) (cap := dk) rfl (j := M) (n := ek.length) (by omega) U
    have hce := HA4.out.kk.cell (sK_get HEM.out)
    obtain ⟨n0, n1, n2⟩ := blk3 HA4.out.nblk
    obtain ⟨k0, k1, k2⟩ := blk3 HA4.out.kblk
    refine region_calm [.p 0, .p 1, .p 2, .p 3, .l 4, .p 5, .p 6, .p 7, .p 8, .l 9, .p 10, .p 11, .l 12, .h 13 true, .h 14 false, .p 15, .p 16, .h 17 false] f_mixed (by kernel_rfl) (by kernel_rfl) ?_
    repeat (first | (refine plan_p rfl (fun K hK => ?_); go_simp; refine hK _ ?_; clear hK K) | (refine plan_l rfl (fun K hK => ?_); go_simp; refine hK _ ?_; clear hK K))
    refine plan_ct rfl rfl (fun K _ hK => ?_)
    go_wp2
    refine hK _ _ (((Ext.refl WA.drew).alloc _)) ?_; clear hK K
    refine plan_c rfl rfl (fun K _ hK => ?_)
    go_wp2_with fail
    refine (insS_at (i := i) (vb := WA.heap.size) (x := str em.1) (U := (WA.alloc (.cells #[str em.1] 9)).drew) HA4.out.nk ((Ext.refl WA).alloc _).drew (blk_new WA _) (Nat.le_refl _) hie (sK_one es) rfl (by omega)).mono ?_
    rintro e W5 ⟨gk', ck', rfl, S5, T5, f5⟩
    clear n0 n1 n2 k0 k1 k2 hxe hce
    have hz := nd_blk_frozen HA4.out.nblk T5 HD.out.2.2.1 0
    obtain ⟨n0, n1, n2⟩ := blk3 (T5.old HA4.out.nblk HD.out.2.2.1)
    have HS5 := Lib.hid S5; have HT5 := Lib.hid T5; have HF5 := Lib.hid f5
    clear S5 T5 f5
    go_wp2
    repeat (first | (refine plan_p rfl (fun K hK => ?_); go_simp; refine hK _ ?_; clear hK K) | (refine plan_l rfl (fun K hK => ?_); go_simp; refine hK _ ?_; clear hK K))
    refine plan_c rfl rfl (fun K _ hK => ?_)
    go_wp2
    refine plan_done ?_
    have HB5 : Hid ((W5.setCell ⟨nb, 0, none⟩ (slv (some gk') (es.length + 1) ck')).heap[nb]? = some (.cells #[slv (some gk') (es.length + 1) ck', slv gv es.length cv, slv (some gcb) ps.length cc] 82 (0, 0))) := nd_blk HA4.out.nblk HT5.out HD.out.2.2.1 0 _
    have HT5' := Lib.hid (nd_store (nb := nb) (j := 0) (v := slv (some gk') (es.length + 1) ck') HT5.out)
    have HS5' := Lib.hid (HS5.out.set_off ⟨nb, 0, none⟩ (slv (some gk') (es.length + 1) ck') (fun b hb => by cases hb; exact ne_new HF5.out (blk_lt HA4.out.nblk) HD.out.2.2.1))
    have HKB5 := Lib.hid (HT5'.out.old HA4.out.kblk (by rintro (h | h); exact (HD.out.2.1 kb (.inl rfl)).1 h; exact HD.out.1 h.symm))
    have HKV5 := Lib.hid (HA4.out.kv.touch HT5'.out (by intro b hb; have := HD.out.2.1 b (.inr (.inr hb)); rintro (h | h); exact this.1 h; exact this.2.2.2 h))
    have HNV5 := Lib.hid (HA4.out.nv.touch HT5'.out (by intro b hb; rintro (h | h); exact HDN.out.1 b h hb; exact HD.out.2.2.2.1 (h ▸ hb)))
    have HNC5 := Lib.hid (HA4.out.nc.touch HT5'.out (by intro b hb; rintro (h | h); exact HDN.out.2.1 b h hb; exact HD.out.2.2.2.2.1 (h ▸ hb)))
    clear HS5 HT5 hz n0 n1 n2
    obtain ⟨WB, hWB⟩ : ∃ WB, W5.setCell ⟨nb, 0, none⟩ (slv (some gk') (es.length + 1) ck') = WB := ⟨_, rfl⟩
    rw [hWB] at HB5 HT5' HS5' HKB5 HKV5 HNV5 HNC5
    go_wp2
    rw [hWB]
    clear hWB
    have hxe := fun U => run_index_slv (P := Try.prog) ei_int64 (g := some hvb) (cap := dv) rfl (j := M) (n := ek.length) (by omega) U
    have hce := HKV5.out.cell (sV_get HEM.out)
    obtain ⟨n0, n1, n2⟩ := blk3 HB5.out
    obtain ⟨k0, k1, k2⟩ := blk3 HKB5.out
    refine region_calm [.p 0, .p 1, .p 2, .p 3, .l 4, .p 5, .p 6, .p 7, .p 8, .l 9, .p 10, .p 11, .l 12, .h 13 true, .h 14 false, .p 15, .p 16, .h 17 false] f_mixed (by kernel_rfl) (by kernel_rfl) ?_
    repeat (first | (refine plan_p rfl (fun K hK => ?_); go_simp; refine hK _ ?_; clear hK K) | (refine plan_l rfl (fun K hK => ?_); go_simp; refine hK _ ?_; clear hK K))
    refine plan_ct rfl rfl (fun K _ hK => ?_)
    go_wp2
    refine hK _ _ (((Ext.refl WB.drew).alloc _)) ?_; clear hK K
    refine plan_c rfl rfl (fun K _ hK => ?_)
    go_wp2_with fail
    refine (insI_at (i := i) (vb := WB.heap.size) (x := .int .i64 em.2) (U := (WB.alloc (.cells #[.int .i64 em.2] 2)).drew) HNV5.out ((Ext.refl WB).alloc _).drew (blk_new WB _) (Nat.le_refl _) hie (sV_one es) rfl (by omega)).mono ?_
    rintro e W6 ⟨gv', cv', rfl, S6, T6, f6⟩
    clear n0 n1 n2 k0 k1 k2 hxe hce
    have hz := nd_blk_frozen HB5.out T6 HD.out.2.2.2.1 1
    obtain ⟨n0, n1, n2⟩ := blk3 (T6.old HB5.out HD.out.2.2.2.1)
    have HS6 := Lib.hid S6; have HT6 := Lib.hid T6; have HF6 := Lib.hid f6
    clear S6 T6 f6
    go_wp2
    repeat (first | (refine plan_p rfl (fun K hK => ?_); go_simp; refine hK _ ?_; clear hK K) | (refine plan_l rfl (fun K hK => ?_); go_simp; refine hK _ ?_; clear hK K))
    refine plan_c rfl rfl (fun K _ hK => ?_)
    go_wp2
    refine plan_done ?_
    have HB6 : Hid ((W6.setCell ⟨nb, 1, none⟩ (slv (some gv') (es.length + 1) cv')).heap[nb]? = some (.cells #[slv (some gk') (es.length + 1) ck', slv (some gv') (es.length + 1) cv', slv (some gcb) ps.length cc] 82 (0, 0))) := nd_blk HB5.out HT6.out HD.out.2.2.2.1 1 _
    have HT6' := Lib.hid (nd_store (nb := nb) (j := 1) (v := slv (some gv') (es.length + 1) cv') HT6.out)
    have HS6' := Lib.hid (HS6.out.set_off ⟨nb, 1, none⟩ (slv (some gv') (es.length + 1) cv') (fun b hb => by cases hb; exact ne_new HF6.out (blk_lt HB5.out) HD.out.2.2.2.1))
    have HKB6 := Lib.hid (HT6'.out.old HKB5.out (by rintro (h | h); exact (HD.out.2.1 kb (.inl rfl)).2.1 h; exact HD.out.1 h.symm))
    have HNC6 := Lib.hid (HNC5.out.touch HT6'.out (by intro b hb; rintro (h | h); exact HDN.out.2.2 b h hb; exact HD.out.2.2.2.2.1 (h ▸ hb)))
    clear HS6 HT6 hz HNV5 HNC5 HKV5 HKB5 HB5 n0 n1 n2
    obtain ⟨WC, hWC⟩ : ∃ WC, W6.setCell ⟨nb, 1, none⟩ (slv (some gv') (es.length + 1) cv') = WC := ⟨_, rfl⟩
    rw [hWC] at HB6 HT6' HS6' HKB6 HNC6
    rw [hWC]
    clear hWC
    obtain ⟨n0, n1, n2⟩ := blk3 HB6.out
    go_wp2_with fail
    refine (insN_at (i := I1) (vb := WC.heap.size) (x := .pointer (some ⟨rb, 0, none⟩)) (U := WC.alloc (.cells #[.pointer (some ⟨rb, 0, none⟩)] 78)) HNC6.out ((Ext.refl WC).alloc _) (blk_new WC _) (Nat.le_refl _) (by have := HI1.out; have := HPS.out; omega) (sP_one ps) rfl (by have := HPS.out; omega)).mono ?_
    rintro e W7 ⟨gc', cc', rfl, S7, T7, f7⟩
    clear n0 n1 n2
    have hz := nd_blk_frozen HB6.out T7 HD.out.2.2.2.2.1 2
    obtain ⟨n0, n1, n2⟩ := blk3 (T7.old HB6.out HD.out.2.2.2.2.1)
    have HS7 := Lib.hid S7; have HT7 := Lib.hid T7; have HF7 := Lib.hid f7
    clear S7 T7 f7
    have HB7 : Hid ((W7.setCell ⟨nb, 2, none⟩ (slv (some gc') (ps.length + 1) cc')).heap[nb]? = some (.cells #[slv (some gk') (es.length + 1) ck', slv (some gv') (es.length + 1) cv', slv (some gc') (ps.length + 1) cc'] 82 (0, 0))) := nd_blk HB6.out HT7.out HD.out.2.2.2.2.1 2 _
    have HT7' := Lib.hid (nd_store (nb := nb) (j := 2) (v := slv (some gc') (ps.length + 1) cc') HT7.out)
    have HS7' := Lib.hid (HS7.out.set_off ⟨nb, 2, none⟩ (slv (some gc') (ps.length + 1) cc') (fun b hb => by cases hb; exact ne_new HF7.out (blk_lt HB6.out) HD.out.2.2.2.2.1))
    have HKB7 := Lib.hid (HT7'.out.old HKB6.out (by rintro (h | h); exact (HD.out.2.1 kb (.inl rfl)).2.2.1 h; exact HD.out.1 h.symm))
    clear HS7 HT7 HNC6 HKB6 HB6
    go_wp2
    clear n0 n1 n2 hz
    obtain ⟨WD, hWD⟩ : ∃ WD, W7.setCell ⟨nb, 2, none⟩ (slv (some gc') (ps.length + 1) cc') = WD := ⟨_, rfl⟩
    rw [hWD] at HB7 HT7' HS7' HKB7
    rw [hWD]
    clear hWD
    obtain ⟨k0, k1, k2⟩ := blk3 HKB7.out
    have hz0 := blk_frozen HKB7.out 0
    have hz1 := blk_frozen HKB7.out 1
    have hMd : M ≤ dk := by omega
    have hMd2 : M ≤ dv := by omega
    refine region_calm [.p 0, .p 1, .p 2, .p 3, .p 4, .l 5, .p 6, .p 7, .p 8, .p 9, .p 10, .l 11, .p 12, .p 13, .p 14, .p 15, .h 16 false, .p 17, .p 18, .h 19 false] f_mixed (by kernel_rfl) (by kernel_rfl) ?_
    repeat (first | (refine plan_p rfl (fun K hK => ?_); go_simp; refine hK _ ?_; clear hK K) | (refine plan_l rfl (fun K hK => ?_); go_simp; refine hK _ ?_; clear hK K))
    refine plan_c rfl rfl (fun K _ hK => ?_)
    go_wp2
    repeat (first | (refine plan_p rfl (fun K hK => ?_); go_simp; refine hK _ ?_; clear hK K) | (refine plan_l rfl (fun K hK => ?_); go_simp; refine hK _ ?_; clear hK K))
    refine plan_c rfl rfl (fun K _ hK => ?_)
    go_wp2
    refine plan_done ?_
    go_wp2
    (try simp only [Exit.inBlock, Exit.then]); refine bodyPost_end (results_none rfl _ _ _) rfl ?_
    have hmM : m - 1 = M := by have := HM.out; omega
    have hS7 := HS7'.out
    rw [HI1.out] at hS7
    have hB4 := blk_set (blk_set HKB7.out 0 (slv (some hkb) M dk)) 1 (slv (some hvb) M dv)
    refine split_done rfl HA4.out (by rw [hmM]; exact HEM.out) hie (by have := HPS.out; omega) HLT.out HND.out (by rw [List.length_take]; exact Nat.min_le_right _ _) HS5'.out HT5'.out HF5.out HS6'.out HT6'.out HF6.out hS7 HT7'.out HF7.out HB7.out ?_ ?_
    · rw [hmM]; exact hB4
    · exact ((Touch.setCell (S := fun k => k = kb) (Touch.refl _ WD) (p := ⟨kb, 0, none⟩) (fun _ => rfl) _).setCell (p := ⟨kb, 1, none⟩) (fun _ => rfl) _).drew
end Go.Proofs.Ytkejjahlglldlaa
