/- btree.split: walked. btree.Put: walked. -/
import Derived.Test.YtkejjahlglldlaaME
import Derived.Test.YtkejjahlglldlaaMF
namespace Go.Proofs.Ytkejjahlglldlaa
open Go.RowKit Go.Lib

set_option maxRecDepth 100000 in
set_option maxHeartbeats 16000000 in
theorem split_ok (tb nb kb m i : Nat) (v1 v2 : Value) (es ek : List Ent) (ps pk : List Nat) (gk gv gc : Option Nat) (ck cv cc : Nat) (hk hv hc : Option Nat) (dk dv dc : Nat) (w : World) (hT : w.heap[tb]? = some (.cells #[.int .i64 (m : Int), v1, v2] 84 (0, 0)))
    (hN : NodeAt w nb es ps gk gv gc ck cv cc) (hK : NodeAt w kb ek pk hk hv hc dk dv dc) (hi : ps[i]? = some kb) (hie : i ≤ es.length) (hm : 2 ≤ m) (hm2 : m ≤ 64) (hek : ek.length + 1 = 2 * m) (hpk : pk = [] ∨ pk.length = 2 * m) (hes : es.length ≤ 1000) (hps : ps.length = es.length + 1)
    (hnd : (ownL nb gk gv gc ++ ownL kb hk hv hc).Nodup) :
    Calls Try.prog 32 #[.pointer (some ⟨tb, 0, none⟩), .pointer (some ⟨nb, 0, none⟩), .int .i64 (i : Int)] w (SplitPost nb kb m i es ek ps pk gk gv gc hk hv hc dk dv dc w) := by
  obtain ⟨M, hM⟩ : ∃ M, M + 1 = m := ⟨m - 1, by omega⟩
  have hM1 : (m : Int) - 1 = (M : Int) := by omega
  have hM2 : (M : Int) + 1 = (m : Int) := by omega
  obtain ⟨t0, t1, t2⟩ := blk3 hT
  obtain ⟨n0, n1, n2⟩ := blk3 hN.blk
  obtain ⟨k0, k1, k2⟩ := blk3 hK.blk
  obtain ⟨gcb, hgcb⟩ := hN.kids.some_of_pos (by omega)
  obtain ⟨hkb, hhkb⟩ := hK.keys.some_of_pos (by omega)
  obtain ⟨hvb, hhvb⟩ := hK.vals.some_of_pos (by omega)
  subst hgcb hhkb hhvb
  have hci := hN.kids.cell (sP_get hi)
  have hri := fun W => run_index_slv (P := Try.prog) ei_node (g := some gcb) (cap := cc) rfl (j := i) (n := ps.length) (by omega) W
  have hwM : IntKind.i64.wrap (M : Int) = (M : Int) := by rw [IntKind.wrap_i64]; omega
  have hwm : IntKind.i64.wrap (m : Int) = (m : Int) := by rw [IntKind.wrap_i64]; omega
  have hb1 : m ≤ ek.length := by omega
  have hb2 : ek.length ≤ dk := hK.keys.le
  have hb3 : ek.length ≤ dv := hK.vals.le
  have hb4 := hK.keys.cap_le
  have hb5 := hK.vals.cap_le
  unfold maxLen at hb4 hb5
  have hne1 : ¬ dk = m := by omega
  have hne2 : ¬ dv = m := by omega
  have had : ∀ b : Nat, Option.map (fun x : Addr => x.add m) (adr (some b)) = some ⟨b, m, none⟩ := fun b => by
    have : m ≠ 0 := by omega
    simp [adr, Addr.add, this]
  have hLM : ek.length - m = M := by omega
  obtain ⟨I1, hI1⟩ : ∃ I1, I1 = i + 1 := ⟨_, rfl⟩
  have hi1 : (i : Int) + 1 = (I1 : Int) := by omega
  have hwI : IntKind.i64.wrap (I1 : Int) = (I1 : Int) := by rw [IntKind.wrap_i64]; omega
  have HI1 := Lib.hid hI1; clear hI1
  have HM := Lib.hid hM; clear hM
  have HN := Lib.hid hN
  have HK := Lib.hid hK
  have HT := Lib.hid hT
  have HI := Lib.hid hi
  have HEK := Lib.hid hek
  have HPK := Lib.hid hpk
  have HPS := Lib.hid hps
  have HND := Lib.hid hnd
  have HLT := Lib.hid (show ∀ x ∈ ownL nb gk gv (some gcb) ++ ownL kb (some hkb) (some hvb) hc, x < w.heap.size from fun x hx => (List.mem_append.1 hx).elim (hN.lt x) (hK.lt x))
  clear hT hN hK hi hek hpk hnd hps
  go_enter Try.func32, Try.ntmps32
  go_wp2
  refine region_calm [.p 0, .p 1, .p 2, .l 3, .p 4, .p 5, .l 6, .p 7, .p 8, .p 9, .p 10, .l 11, .p 12, .p 13, .p 14] f_mixed (by kernel_rfl) (by kernel_rfl) ?_
  repeat (first | (refine plan_p rfl (fun K hK => ?_); go_simp; refine hK _ ?_; clear hK K) | (refine plan_l rfl (fun K hK => ?_); go_simp; refine hK _ ?_; clear hK K))
  refine plan_done ?_
  go_wp2
  refine region_calm [.p 0, .p 1, .p 2, .l 3, .p 4, .p 5, .p 6, .p 8, .p 9, .p 10, .l 11, .p 12, .p 13, .p 14, .h 7 true, .h 15 false, .p 16, .h 17 false, .p 18] f_mixed (by kernel_rfl) (by kernel_rfl) ?_
  repeat (first | (refine plan_p rfl (fun K hK => ?_); go_simp; refine hK _ ?_; clear hK K) | (refine plan_l rfl (fun K hK => ?_); go_simp; refine hK _ ?_; clear hK K))
  refine plan_ct rfl rfl (fun K _ hK => ?_)
  go_wp2_with fail
  refine (ClnS (some hkb) m M (dk - m) ((sK ek).drop m) _ (by simp [sK, hLM]) (fun b hb j u hu => by
    cases hb
    rw [List.getElem?_drop] at hu
    exact HK.out.keys.cell hu) (fun h => by cases h) (fun u hu => sK_one ek u (List.mem_of_mem_drop hu)) (by have := HEK.out; omega)).mono ?_
  rintro e w1 ⟨rk, rck, rfl, hS1, hg1, hE1⟩
  go_wp2
  refine hK _ _ (hE1) ?_; clear hK K
  refine plan_c rfl rfl (fun K _ hK => ?_)
  go_wp2_with fail
  refine (ClnI (some hvb) m M (dv - m) ((sV ek).drop m) w1 (by simp [sV, hLM]) (fun b hb j u hu => by
    cases hb
    rw [List.getElem?_drop] at hu
    exact Ext.cell hE1 (HK.out.vals.cell hu)) (fun h => by cases h) (fun u hu => sV_one ek u (List.mem_of_mem_drop hu)) (by have := HEK.out; omega)).mono ?_
  rintro e w2 ⟨rv, rcv, rfl, hS2, hg2, hE2⟩
  go_wp2
  repeat (first | (refine plan_p rfl (fun K hK => ?_); go_simp; refine hK _ ?_; clear hK K) | (refine plan_l rfl (fun K hK => ?_); go_simp; refine hK _ ?_; clear hK K))
  refine plan_c rfl rfl (fun K _ hK => ?_)
  go_wp2
  repeat (first | (refine plan_p rfl (fun K hK => ?_); go_simp; refine hK _ ?_; clear hK K) | (refine plan_l rfl (fun K hK => ?_); go_simp; refine hK _ ?_; clear hK K))
  refine plan_done ?_
  obtain ⟨rb, hrb⟩ : ∃ rb, w2.heap.size = rb := ⟨_, rfl⟩
  obtain ⟨W3, hW3⟩ : ∃ W3, w2.alloc (.cells #[slv rk M rck, slv rv M rcv, .slice none 0 0] 82) = W3 := ⟨_, rfl⟩
  rw [hrb, hW3]
  have hE12 : Ext w w2 := ((Ext.refl w).drew.drew.trans hE1).trans hE2
  have hE3 : Ext w W3 := by rw [← hW3]; exact hE12.alloc _
  have hB3 : W3.heap[rb]? = some (.cells #[slv rk M rck, slv rv M rcv, .slice none 0 0] 82 (0, 0)) := by rw [← hW3, ← hrb]; exact blk_new _ _
  have hrk : ∀ x, rk = some x → w.heap.size ≤ x ∧ x < rb := fun x hx => by
    have h1 := hg1 x hx
    subst hx
    have h2 := hS1.block_lt
    have h3 := hE2.size
    exact ⟨by simpa using h1, by omega⟩
  have hrv : ∀ x, rv = some x → w.heap.size ≤ x ∧ x < rb := fun x hx => by
    have h1 := hg2 x hx
    have h4 := hE1.size
    subst hx
    have h2 := hS2.block_lt
    simp at h4
    exact ⟨by omega, by omega⟩
  have hrkv : ∀ x y, rk = some x → rv = some y → x < y := fun x y hx hy => by
    have h1 := hg2 y hy
    subst hx
    have h2 := hS1.block_lt
    omega
  have hrbw : w.heap.size ≤ rb := by have := hE12.size; omega
  have hrb3 : rb < W3.heap.size := blk_lt hB3
  have hSK3 : Sl W3 9 1 rk M rck ((sK ek).drop m) := by rw [← hW3]; exact (hS1.ext hE2).ext ((Ext.refl _).alloc _)
  have hSV3 : Sl W3 2 1 rv M rcv ((sV ek).drop m) := by rw [← hW3]; exact hS2.ext ((Ext.refl _).alloc _)
  clear hW3 hrb hS1 hS2 hg1 hg2 hE1 hE2 hE12 hri hci t0 t1 t2 n0 n1 n2 k0 k1 k2
  clear w1 w2
  have HRK := Lib.hid hrk; have HRV := Lib.hid hrv; have HRKV := Lib.hid hrkv; have HB3 := Lib.hid hB3
  have HSK3 := Lib.hid hSK3; have HSV3 := Lib.hid hSV3; have HE3 := Lib.hid hE3
  clear hrk hrv hrkv hB3 hSK3 hSV3 hE3
  have HN3 := Lib.hid (HN.out.congr fun k hk => Below.block HE3.out k (HN.out.lt k hk))
  have HK3 := Lib.hid (HK.out.congr fun k hk => Below.block HE3.out k (HK.out.lt k hk))
  obtain ⟨n0, n1, n2⟩ := blk3 HN3.out.blk
  obtain ⟨k0, k1, k2⟩ := blk3 HK3.out.blk
  obtain ⟨r0, r1, r2⟩ := blk3 HB3.out
  rcases HPK.out with hpk | hpk
  · have hpk' : decide (pk = []) = true := decide_eq_true hpk
    subst hpk
    have HA := Lib.hid (spa_leaf HE3.out HN3.out HK3.out hLM HB3.out HRK.out HRV.out HRKV.out hrbw HSK3.out HSV3.out)
    clear n0 n1 n2 k0 k1 r0 r1 r2
    go_wp2_with (first | (go_at_call 34; refine (leaf_ok HK3.out).mono ?_; rintro e w' ⟨rfl, rfl⟩))
    clear HSK3 HSV3 HE3 HN3 HK3 HRK HRV HRKV HB3 k2
    have HD := Lib.hid (nd_facts HND.out)
    have HDN := Lib.hid (nd_own HND.out)
    obtain ⟨em, hem⟩ : ∃ em, ek[M]? = some em := ⟨ek[M]'(by have := HEK.out; omega), List.getElem?_eq_getElem _⟩
    have HEM := Lib.hid hem; clear hem
    have hxe := fun U => run_index_slv (P := Try.prog) ei_string (g := some hkb) (cap := dk) rfl (j := M) (n := ek.length) (by omega) U
    have hce := HA.out.kk.cell (sK_get HEM.out)
    obtain ⟨n0, n1, n2⟩ := blk3 HA.out.nblk
    obtain ⟨k0, k1, k2⟩ := blk3 HA.out.kblk
    refine region_calm [.p 0, .p 1, .p 2, .p 3, .l 4, .p 5, .p 6, .p 7, .p 8, .l 9, .p 10, .p 11, .l 12, .h 13 true, .h 14 false, .p 15, .p 16, .h 17 false] f_mixed (by kernel_rfl) (by kernel_rfl) ?_
    repeat (first | (refine plan_p rfl (fun K hK => ?_); go_simp; refine hK _ ?_; clear hK K) | (refine plan_l rfl (fun K hK => ?_); go_simp; refine hK _ ?_; clear hK K))
    refine plan_ct rfl rfl (fun K _ hK => ?_)
    go_wp2
    refine hK _ _ (((Ext.refl W3.drew).alloc _)) ?_; clear hK K
    refine plan_c rfl rfl (fun K _ hK => ?_)
    go_wp2_with fail
    refine (insS_at (i := i) (vb := W3.heap.size) (x := str em.1) (U := (W3.alloc (.cells #[str em.1] 9)).drew) HA.out.nk ((Ext.refl W3).alloc _).drew (blk_new W3 _) (Nat.le_refl _) hie (sK_one es) rfl (by omega)).mono ?_
    rintro e W5 ⟨gk', ck', rfl, S5, T5, f5⟩
    clear n0 n1 n2 k0 k1 k2 hxe hce
    have hz := nd_blk_frozen HA.out.nblk T5 HD.out.2.2.1 0
    obtain ⟨n0, n1, n2⟩ := blk3 (T5.old HA.out.nblk HD.out.2.2.1)
    have HS5 := Lib.hid S5; have HT5 := Lib.hid T5; have HF5 := Lib.hid f5
    clear S5 T5 f5
    go_wp2
    repeat (first | (refine plan_p rfl (fun K hK => ?_); go_simp; refine hK _ ?_; clear hK K) | (refine plan_l rfl (fun K hK => ?_); go_simp; refine hK _ ?_; clear hK K))
    refine plan_c rfl rfl (fun K _ hK => ?_)
    go_wp2
    refine plan_done ?_
    have HB5 : Hid ((W5.setCell ⟨nb, 0, none⟩ (slv (some gk') (es.length + 1) ck')).heap[nb]? = some (.cells #[slv (some gk') (es.length + 1) ck', slv gv es.length cv, slv (some gcb) ps.length cc] 82 (0, 0))) := nd_blk HA.out.nblk HT5.out HD.out.2.2.1 0 _
    have HT5' := Lib.hid (nd_store (nb := nb) (j := 0) (v := slv (some gk') (es.length + 1) ck') HT5.out)
    have HS5' := Lib.hid (HS5.out.set_off ⟨nb, 0, none⟩ (slv (some gk') (es.length + 1) ck') (fun b hb => by cases hb; exact ne_new HF5.out (blk_lt HA.out.nblk) HD.out.2.2.1))
    have HKB5 := Lib.hid (HT5'.out.old HA.out.kblk (by rintro (h | h); exact (HD.out.2.1 kb (.inl rfl)).1 h; exact HD.out.1 h.symm))
    have HKV5 := Lib.hid (HA.out.kv.touch HT5'.out (by intro b hb; have := HD.out.2.1 b (.inr (.inr hb)); rintro (h | h); exact this.1 h; exact this.2.2.2 h))
    have HNV5 := Lib.hid (HA.out.nv.touch HT5'.out (by intro b hb; rintro (h | h); exact HDN.out.1 b h hb; exact HD.out.2.2.2.1 (h ▸ hb)))
    have HNC5 := Lib.hid (HA.out.nc.touch HT5'.out (by intro b hb; rintro (h | h); exact HDN.out.2.1 b h hb; exact HD.out.2.2.2.2.1 (h ▸ hb)))
    clear HS5 HT5 hz n0 n1 n2
    obtain ⟨WB, hWB⟩ : ∃ WB, W5.setCell ⟨nb, 0, none⟩ (slv (some gk') (es.length + 1) ck') = WB := ⟨_, rfl⟩
    rw [hWB] at HB5 HT5' HS5' HKB5 HKV5 HNV5 HNC5
    go_wp2
    rw [hWB]
    clear hWB
    have hxe := fun U => run_index_slv (P := Try.prog) ei_int64 (g := some hvb) (cap := dv) rfl (j := M) (n := ek.length) (by omega) U
    have hce := HKV5.out.cell (sV_get HEM.out)
    obtain ⟨n0, n1, n2⟩ := blk3 HB5.out
    obtain ⟨k0, k1, k2⟩ := blk3 HKB5.out
    refine region_calm [.p 0, .p 1, .p 2, .p 3, .l 4, .p 5, .p 6, .p 7, .p 8, .l 9, .p 10, .p 11, .l 12, .h 13 true, .h 14 false, .p 15, .p 16, .h 17 false] f_mixed (by kernel_rfl) (by kernel_rfl) ?_
    repeat (first | (refine plan_p rfl (fun K hK => ?_); go_simp; refine hK _ ?_; clear hK K) | (refine plan_l rfl (fun K hK => ?_); go_simp; refine hK _ ?_; clear hK K))
    refine plan_ct rfl rfl (fun K _ hK => ?_)
    go_wp2
    refine hK _ _ (((Ext.refl WB.drew).alloc _)) ?_; clear hK K
    refine plan_c rfl rfl (fun K _ hK => ?_)
    go_wp2_with fail
    refine (insI_at (i := i) (vb := WB.heap.size) (x := .int .i64 em.2) (U := (WB.alloc (.cells #[.int .i64 em.2] 2)).drew) HNV5.out ((Ext.refl WB).alloc _).drew (blk_new WB _) (Nat.le_refl _) hie (sV_one es) rfl (by omega)).mono ?_
    rintro e W6 ⟨gv', cv', rfl, S6, T6, f6⟩
    clear n0 n1 n2 k0 k1 k2 hxe hce
    have hz := nd_blk_frozen HB5.out T6 HD.out.2.2.2.1 1
    obtain ⟨n0, n1, n2⟩ := blk3 (T6.old HB5.out HD.out.2.2.2.1)
    have HS6 := Lib.hid S6; have HT6 := Lib.hid T6; have HF6 := Lib.hid f6
    clear S6 T6 f6
    go_wp2
    repeat (first | (refine plan_p rfl (fun K hK => ?_); go_simp; refine hK _ ?_; clear hK K) | (refine plan_l rfl (fun K hK => ?_); go_simp; refine hK _ ?_; clear hK K))
    refine plan_c rfl rfl (fun K _ hK => ?_)
    go_wp2
    refine plan_done ?_
    have HB6 : Hid ((W6.setCell ⟨nb, 1, none⟩ (slv (some gv') (es.length + 1) cv')).heap[nb]? = some (.cells #[slv (some gk') (es.length + 1) ck', slv (some gv') (es.length + 1) cv', slv (some gcb) ps.length cc] 82 (0, 0))) := nd_blk HB5.out HT6.out HD.out.2.2.2.1 1 _
    have HT6' := Lib.hid (nd_store (nb := nb) (j := 1) (v := slv (some gv') (es.length + 1) cv') HT6.out)
    have HS6' := Lib.hid (HS6.out.set_off ⟨nb, 1, none⟩ (slv (some gv') (es.length + 1) cv') (fun b hb => by cases hb; exact ne_new HF6.out (blk_lt HB5.out) HD.out.2.2.2.1))
    have HKB6 := Lib.hid (HT6'.out.old HKB5.out (by rintro (h | h); exact (HD.out.2.1 kb (.inl rfl)).2.1 h; exact HD.out.1 h.symm))
    have HNC6 := Lib.hid (HNC5.out.touch HT6'.out (by intro b hb; rintro (h | h); exact HDN.out.2.2 b h hb; exact HD.out.2.2.2.2.1 (h ▸ hb)))
    clear HS6 HT6 hz HNV5 HNC5 HKV5 HKB5 HB5 n0 n1 n2
    obtain ⟨WC, hWC⟩ : ∃ WC, W6.setCell ⟨nb, 1, none⟩ (slv (some gv') (es.length + 1) cv') = WC := ⟨_, rfl⟩
    rw [hWC] at HB6 HT6' HS6' HKB6 HNC6
    rw [hWC]
    clear hWC
    obtain ⟨n0, n1, n2⟩ := blk3 HB6.out
    go_wp2_with fail
    refine (insN_at (i := I1) (vb := WC.heap.size) (x := .pointer (some ⟨rb, 0, none⟩)) (U := WC.alloc (.cells #[.pointer (some ⟨rb, 0, none⟩)] 78)) HNC6.out ((Ext.refl WC).alloc _) (blk_new WC _) (Nat.le_refl _) (by have := HI1.out; have := HPS.out; omega) (sP_one ps) rfl (by have := HPS.out; omega)).mono ?_
    rintro e W7 ⟨gc', cc', rfl, S7, T7, f7⟩
    clear n0 n1 n2
    have hz := nd_blk_frozen HB6.out T7 HD.out.2.2.2.2.1 2
    obtain ⟨n0, n1, n2⟩ := blk3 (T7.old HB6.out HD.out.2.2.2.2.1)
    have HS7 := Lib.hid S7; have HT7 := Lib.hid T7; have HF7 := Lib.hid f7
    clear S7 T7 f7
    have HB7 : Hid ((W7.setCell ⟨nb, 2, none⟩ (slv (some gc') (ps.length + 1) cc')).heap[nb]? = some (.cells #[slv (some gk') (es.length + 1) ck', slv (some gv') (es.length + 1) cv', slv (some gc') (ps.length + 1) cc'] 82 (0, 0))) := nd_blk HB6.out HT7.out HD.out.2.2.2.2.1 2 _
    have HT7' := Lib.hid (nd_store (nb := nb) (j := 2) (v := slv (some gc') (ps.length + 1) cc') HT7.out)
    have HS7' := Lib.hid (HS7.out.set_off ⟨nb, 2, none⟩ (slv (some gc') (ps.length + 1) cc') (fun b hb => by cases hb; exact ne_new HF7.out (blk_lt HB6.out) HD.out.2.2.2.2.1))
    have HKB7 := Lib.hid (HT7'.out.old HKB6.out (by rintro (h | h); exact (HD.out.2.1 kb (.inl rfl)).2.2.1 h; exact HD.out.1 h.symm))
    clear HS7 HT7 HNC6 HKB6 HB6
    go_wp2
    clear n0 n1 n2 hz
    obtain ⟨WD, hWD⟩ : ∃ WD, W7.setCell ⟨nb, 2, none⟩ (slv (some gc') (ps.length + 1) cc') = WD := ⟨_, rfl⟩
    rw [hWD] at HB7 HT7' HS7' HKB7
    rw [hWD]
    clear hWD
    obtain ⟨k0, k1, k2⟩ := blk3 HKB7.out
    have hz0 := blk_frozen HKB7.out 0
    have hz1 := blk_frozen HKB7.out 1
    have hMd : M ≤ dk := by omega
    have hMd2 : M ≤ dv := by omega
    refine region_calm [.p 0, .p 1, .p 2, .p 3, .p 4, .l 5, .p 6, .p 7, .p 8, .p 9, .p 10, .l 11, .p 12, .p 13, .p 14, .p 15, .h 16 false, .p 17, .p 18, .h 19 false] f_mixed (by kernel_rfl) (by kernel_rfl) ?_
    repeat (first | (refine plan_p rfl (fun K hK => ?_); go_simp; refine hK _ ?_; clear hK K) | (refine plan_l rfl (fun K hK => ?_); go_simp; refine hK _ ?_; clear hK K))
    refine plan_c rfl rfl (fun K _ hK => ?_)
    go_wp2
    repeat (first | (refine plan_p rfl (fun K hK => ?_); go_simp; refine hK _ ?_; clear hK K) | (refine plan_l rfl (fun K hK => ?_); go_simp; refine hK _ ?_; clear hK K))
    refine plan_c rfl rfl (fun K _ hK => ?_)
    go_wp2
    refine plan_done ?_
    go_wp2
    (try simp only [Exit.inBlock, Exit.then]); refine bodyPost_end (results_none rfl _ _ _) rfl ?_
    have hmM : m - 1 = M := by have := HM.out; omega
    have hS7 := HS7'.out
    rw [HI1.out] at hS7
    have hB4 := blk_set (blk_set HKB7.out 0 (slv (some hkb) M dk)) 1 (slv (some hvb) M dv)
    refine split_done rfl HA.out (by rw [hmM]; exact HEM.out) hie (by have := HPS.out; omega) HLT.out HND.out (by rw [List.length_take]; exact Nat.min_le_right _ _) HS5'.out HT5'.out HF5.out HS6'.out HT6'.out HF6.out hS7 HT7'.out HF7.out HB7.out ?_ ?_
    · rw [hmM]; exact hB4
    · exact ((Touch.setCell (S := fun k => k = kb) (Touch.refl _ WD) (p := ⟨kb, 0, none⟩) (fun _ => rfl) _).setCell (p := ⟨kb, 1, none⟩) (fun _ => rfl) _).drew
  · have hpk' : decide (pk = []) = false := decide_eq_false (fun e => by rw [e] at hpk; simp at hpk; omega)
    obtain ⟨hcb, hhcb⟩ := HK3.out.kids.some_of_pos (by omega)
    subst hhcb
    have hb6 : pk.length ≤ dc := HK3.out.kids.le
    have hb7 := HK3.out.kids.cap_le
    unfold maxLen at hb7
    have hne3 : ¬ dc = m := by omega
    have hpm : m ≤ pk.length := by omega
    have hpmc : m ≤ dc := by omega
    have hpl : pk.length - m = m := by omega
    have HPK2 := Lib.hid hpk; clear hpk
    go_wp2_with (first | (go_at_call 34; refine (leaf_ok HK3.out).mono ?_; rintro e w' ⟨rfl, rfl⟩))
    refine (ClnN (some hcb) m m (dc - m) ((sP pk).drop m) W3 (by simp [sP, hpl]) (fun b hb j u hu => by
      cases hb
      rw [List.getElem?_drop] at hu
      exact HK3.out.kids.cell hu) (fun h => by cases h) (fun u hu => sP_one pk u (List.mem_of_mem_drop hu)) (by omega)).mono ?_
    rintro e W4 ⟨rc, rcc, rfl, hS4, hg4, hE4⟩
    have HS4 := Lib.hid hS4; have HG4 := Lib.hid hg4; have HE4 := Lib.hid hE4
    clear hS4 hg4 hE4 n0 n1 n2 k0 k1 k2 r0 r1 r2
    have HN4 := Lib.hid (HN3.out.congr fun k hk => Below.block HE4.out k (HN3.out.lt k hk))
    have HK4 := Lib.hid (HK3.out.congr fun k hk => Below.block HE4.out k (HK3.out.lt k hk))
    have HB4 := Lib.hid (Ext.block HE4.out HB3.out)
    obtain ⟨n0, n1, n2⟩ := blk3 HN4.out.blk
    obtain ⟨k0, k1, k2⟩ := blk3 HK4.out.blk
    obtain ⟨r0, r1, r2⟩ := blk3 HB4.out
    have hz := blk_frozen HB4.out 2
    have hz2 := blk_frozen HK4.out.blk 2
    have hkr : kb < rb := by have := HK.out.lt kb (by simp); omega
    have hnr : nb < rb := by have := HN.out.lt nb (by simp); omega
    go_wp2
    have HA4 := Lib.hid (spa_inner (W3 := W3) (HE3.out.trans HE4.out) HN4.out HK4.out hLM HPK2.out HLT.out HND.out HB4.out HRK.out HRV.out HRKV.out hrbw hrb3 (HSK3.out.ext HE4.out) (HSV3.out.ext HE4.out) HS4.out HG4.out)
    obtain ⟨WA, hWA⟩ : ∃ WA, (W4.setCell ⟨rb, 2, none⟩ (slv rc m rcc)).setCell ⟨kb, 2, none⟩ (slv (some hcb) m dc) = WA := ⟨_, rfl⟩
    rw [hWA] at HA4
    rw [hWA]
    clear hWA n0 n1 n2 k0 k1 k2 r0 r1 r2 hz hz2
    clear HSK3 HSV3 HE3 HN3 HK3 HRK HRV HRKV HB3 HN4 HK4 HB4 HS4 HG4
    have HD := Lib.hid (nd_facts HND.out)
    have HDN := Lib.hid (nd_own HND.out)
    obtain ⟨em, hem⟩ : ∃ em, ek[M]? = some em := ⟨ek[M]'(by have := HEK.out; omega), List.getElem?_eq_getElem _⟩
    have HEM := Lib.hid hem; clear hem
    have hxe := fun U => run_index_slv (P := Try.prog) ei_string (g := some hkb) (cap := dk) rfl (j := M) (n := ek.length) (by omega) U
    have hce := HA4.out.kk.cell (sK_get HEM.out)
    obtain ⟨n0, n1, n2⟩ := blk3 HA4.out.nblk
    obtain ⟨k0, k1, k2⟩ := blk3 HA4.out.kblk
    refine region_calm [.p 0, .p 1, .p 2, .p 3, .l 4, .p 5, .p 6, .p 7, .p 8, .l 9, .p 10, .p 11, .l 12, .h 13 true, .h 14 false, .p 15, .p 16, .h 17 false] f_mixed (by kernel_rfl) (by kernel_rfl) ?_
    repeat (first | (refine plan_p rfl (fun K hK => ?_); go_simp; refine hK _ ?_; clear hK K) | (refine plan_l rfl (fun K hK => ?_); go_simp; refine hK _ ?_; clear hK K))
    refine plan_ct rfl rfl (fun K _ hK => ?_)
    go_wp2
    refine hK _ _ (((Ext.refl WA.drew).alloc _)) ?_; clear hK K
    refine plan_c rfl rfl (fun K _ hK => ?_)
    go_wp2_with fail
    refine (insS_at (i := i) (vb := WA.heap.size) (x := str em.1) (U := (WA.alloc (.cells #[str em.1] 9)).drew) HA4.out.nk ((Ext.refl WA).alloc _).drew (blk_new WA _) (Nat.le_refl _) hie (sK_one es) rfl (by omega)).mono ?_
    rintro e W5 ⟨gk', ck', rfl, S5, T5, f5⟩
    clear n0 n1 n2 k0 k1 k2 hxe hce
    have hz := nd_blk_frozen HA4.out.nblk T5 HD.out.2.2.1 0
    obtain ⟨n0, n1, n2⟩ := blk3 (T5.old HA4.out.nblk HD.out.2.2.1)
    have HS5 := Lib.hid S5; have HT5 := Lib.hid T5; have HF5 := Lib.hid f5
    clear S5 T5 f5
    go_wp2
    repeat (first | (refine plan_p rfl (fun K hK => ?_); go_simp; refine hK _ ?_; clear hK K) | (refine plan_l rfl (fun K hK => ?_); go_simp; refine hK _ ?_; clear hK K))
    refine plan_c rfl rfl (fun K _ hK => ?_)
    go_wp2
    refine plan_done ?_
    have HB5 : Hid ((W5.setCell ⟨nb, 0, none⟩ (slv (some gk') (es.length + 1) ck')).heap[nb]? = some (.cells #[slv (some gk') (es.length + 1) ck', slv gv es.length cv, slv (some gcb) ps.length cc] 82 (0, 0))) := nd_blk HA4.out.nblk HT5.out HD.out.2.2.1 0 _
    have HT5' := Lib.hid (nd_store (nb := nb) (j := 0) (v := slv (some gk') (es.length + 1) ck') HT5.out)
    have HS5' := Lib.hid (HS5.out.set_off ⟨nb, 0, none⟩ (slv (some gk') (es.length + 1) ck') (fun b hb => by cases hb; exact ne_new HF5.out (blk_lt HA4.out.nblk) HD.out.2.2.1))
    have HKB5 := Lib.hid (HT5'.out.old HA4.out.kblk (by rintro (h | h); exact (HD.out.2.1 kb (.inl rfl)).1 h; exact HD.out.1 h.symm))
    have HKV5 := Lib.hid (HA4.out.kv.touch HT5'.out (by intro b hb; have := HD.out.2.1 b (.inr (.inr hb)); rintro (h | h); exact this.1 h; exact this.2.2.2 h))
    have HNV5 := Lib.hid (HA4.out.nv.touch HT5'.out (by intro b hb; rintro (h | h); exact HDN.out.1 b h hb; exact HD.out.2.2.2.1 (h ▸ hb)))
    have HNC5 := Lib.hid (HA4.out.nc.touch HT5'.out (by intro b hb; rintro (h | h); exact HDN.out.2.1 b h hb; exact HD.out.2.2.2.2.1 (h ▸ hb)))
    clear HS5 HT5 hz n0 n1 n2
    obtain ⟨WB, hWB⟩ : ∃ WB, W5.setCell ⟨nb, 0, none⟩ (slv (some gk') (es.length + 1) ck') = WB := ⟨_, rfl⟩
    rw [hWB] at HB5 HT5' HS5' HKB5 HKV5 HNV5 HNC5
    go_wp2
    rw [hWB]
    clear hWB
    have hxe := fun U => run_index_slv (P := Try.prog) ei_int64 (g := some hvb) (cap := dv) rfl (j := M) (n := ek.length) (by omega) U
    have hce := HKV5.out.cell (sV_get HEM.out)
    obtain ⟨n0, n1, n2⟩ := blk3 HB5.out
    obtain ⟨k0, k1, k2⟩ := blk3 HKB5.out
    refine region_calm [.p 0, .p 1, .p 2, .p 3, .l 4, .p 5, .p 6, .p 7, .p 8, .l 9, .p 10, .p 11, .l 12, .h 13 true, .h 14 false, .p 15, .p 16, .h 17 false] f_mixed (by kernel_rfl) (by kernel_rfl) ?_
    repeat (first | (refine plan_p rfl (fun K hK => ?_); go_simp; refine hK _ ?_; clear hK K) | (refine plan_l rfl (fun K hK => ?_); go_simp; refine hK _ ?_; clear hK K))
    refine plan_ct rfl rfl (fun K _ hK => ?_)
    go_wp2
    refine hK _ _ (((Ext.refl WB.drew).alloc _)) ?_; clear hK K
    refine plan_c rfl rfl (fun K _ hK => ?_)
    go_wp2_with fail
    refine (insI_at (i := i) (vb := WB.heap.size) (x := .int .i64 em.2) (U := (WB.alloc (.cells #[.int .i64 em.2] 2)).drew) HNV5.out ((Ext.refl WB).alloc _).drew (blk_new WB _) (Nat.le_refl _) hie (sV_one es) rfl (by omega)).mono ?_
    rintro e W6 ⟨gv', cv', rfl, S6, T6, f6⟩
    clear n0 n1 n2 k0 k1 k2 hxe hce
    have hz := nd_blk_frozen HB5.out T6 HD.out.2.2.2.1 1
    obtain ⟨n0, n1, n2⟩ := blk3 (T6.old HB5.out HD.out.2.2.2.1)
    have HS6 := Lib.hid S6; have HT6 := Lib.hid T6; have HF6 := Lib.hid f6
    clear S6 T6 f6
    go_wp2
    repeat (first | (refine plan_p rfl (fun K hK => ?_); go_simp; refine hK _ ?_; clear hK K) | (refine plan_l rfl (fun K hK => ?_); go_simp; refine hK _ ?_; clear hK K))
    refine plan_c rfl rfl (fun K _ hK => ?_)
    go_wp2
    refine plan_done ?_
    have HB6 : Hid ((W6.setCell ⟨nb, 1, none⟩ (slv (some gv') (es.length + 1) cv')).heap[nb]? = some (.cells #[slv (some gk') (es.length + 1) ck', slv (some gv') (es.length + 1) cv', slv (some gcb) ps.length cc] 82 (0, 0))) := nd_blk HB5.out HT6.out HD.out.2.2.2.1 1 _
    have HT6' := Lib.hid (nd_store (nb := nb) (j := 1) (v := slv (some gv') (es.length + 1) cv') HT6.out)
    have HS6' := Lib.hid (HS6.out.set_off ⟨nb, 1, none⟩ (slv (some gv') (es.length + 1) cv') (fun b hb => by cases hb; exact ne_new HF6.out (blk_lt HB5.out) HD.out.2.2.2.1))
    have HKB6 := Lib.hid (HT6'.out.old HKB5.out (by rintro (h | h); exact (HD.out.2.1 kb (.inl rfl)).2.1 h; exact HD.out.1 h.symm))
    have HNC6 := Lib.hid (HNC5.out.touch HT6'.out (by intro b hb; rintro (h | h); exact HDN.out.2.2 b h hb; exact HD.out.2.2.2.2.1 (h ▸ hb)))
    clear HS6 HT6 hz HNV5 HNC5 HKV5 HKB5 HB5 n0 n1 n2
    obtain ⟨WC, hWC⟩ : ∃ WC, W6.setCell ⟨nb, 1, none⟩ (slv (some gv') (es.length + 1) cv') = WC := ⟨_, rfl⟩
    rw [hWC] at HB6 HT6' HS6' HKB6 HNC6
    rw [hWC]
    clear hWC
    obtain ⟨n0, n1, n2⟩ := blk3 HB6.out
    go_wp2_with fail
    refine (insN_at (i := I1) (vb := WC.heap.size) (x := .pointer (some ⟨rb, 0, none⟩)) (U := WC.alloc (.cells #[.pointer (some ⟨rb, 0, none⟩)] 78)) HNC6.out ((Ext.refl WC).alloc _) (blk_new WC _) (Nat.le_refl _) (by have := HI1.out; have := HPS.out; omega) (sP_one ps) rfl (by have := HPS.out; omega)).mono ?_
    rintro e W7 ⟨gc', cc', rfl, S7, T7, f7⟩
    clear n0 n1 n2
    have hz := nd_blk_frozen HB6.out T7 HD.out.2.2.2.2.1 2
    obtain ⟨n0, n1, n2⟩ := blk3 (T7.old HB6.out HD.out.2.2.2.2.1)
    have HS7 := Lib.hid S7; have HT7 := Lib.hid T7; have HF7 := Lib.hid f7
    clear S7 T7 f7
    have HB7 : Hid ((W7.setCell ⟨nb, 2, none⟩ (slv (some gc') (ps.length + 1) cc')).heap[nb]? = some (.cells #[slv (some gk') (es.length + 1) ck', slv (some gv') (es.length + 1) cv', slv (some gc') (ps.length + 1) cc'] 82 (0, 0))) := nd_blk HB6.out HT7.out HD.out.2.2.2.2.1 2 _
    have HT7' := Lib.hid (nd_store (nb := nb) (j := 2) (v := slv (some gc') (ps.length + 1) cc') HT7.out)
    have HS7' := Lib.hid (HS7.out.set_off ⟨nb, 2, none⟩ (slv (some gc') (ps.length + 1) cc') (fun b hb => by cases hb; exact ne_new HF7.out (blk_lt HB6.out) HD.out.2.2.2.2.1))
    have HKB7 := Lib.hid (HT7'.out.old HKB6.out (by rintro (h | h); exact (HD.out.2.1 kb (.inl rfl)).2.2.1 h; exact HD.out.1 h.symm))
    clear HS7 HT7 HNC6 HKB6 HB6
    go_wp2
    clear n0 n1 n2 hz
    obtain ⟨WD, hWD⟩ : ∃ WD, W7.setCell ⟨nb, 2, none⟩ (slv (some gc') (ps.length + 1) cc') = WD := ⟨_, rfl⟩
    rw [hWD] at HB7 HT7' HS7' HKB7
    rw [hWD]
    clear hWD
    obtain ⟨k0, k1, k2⟩ := blk3 HKB7.out
    have hz0 := blk_frozen HKB7.out 0
    have hz1 := blk_frozen HKB7.out 1
    have hMd : M ≤ dk := by omega
    have hMd2 : M ≤ dv := by omega
    refine region_calm [.p 0, .p 1, .p 2, .p 3, .p 4, .l 5, .p 6, .p 7, .p 8, .p 9, .p 10, .l 11, .p 12, .p 13, .p 14, .p 15, .h 16 false, .p 17, .p 18, .h 19 false] f_mixed (by kernel_rfl) (by kernel_rfl) ?_
    repeat (first | (refine plan_p rfl (fun K hK => ?_); go_simp; refine hK _ ?_; clear hK K) | (refine plan_l rfl (fun K hK => ?_); go_simp; refine hK _ ?_; clear hK K))
    refine plan_c rfl rfl (fun K _ hK => ?_)
    go_wp2
    repeat (first | (refine plan_p rfl (fun K hK => ?_); go_simp; refine hK _ ?_; clear hK K) | (refine plan_l rfl (fun K hK => ?_); go_simp; refine hK _ ?_; clear hK K))
    refine plan_c rfl rfl (fun K _ hK => ?_)
    go_wp2
    refine plan_done ?_
    go_wp2
    (try simp only [Exit.inBlock, Exit.then]); refine bodyPost_end (results_none rfl _ _ _) rfl ?_
    have hmM : m - 1 = M := by have := HM.out; omega
    have hS7 := HS7'.out
    rw [HI1.out] at hS7
    have hB4 := blk_set (blk_set HKB7.out 0 (slv (some hkb) M dk)) 1 (slv (some hvb) M dv)
    refine split_done rfl HA4.out (by rw [hmM]; exact HEM.out) hie (by have := HPS.out; omega) HLT.out HND.out (by rw [List.length_take]; exact Nat.min_le_right _ _) HS5'.out HT5'.out HF5.out HS6'.out HT6'.out HF6.out hS7 HT7'.out HF7.out HB7.out ?_ ?_
    · rw [hmM]; exact hB4
    · exact ((Touch.setCell (S := fun k => k = kb) (Touch.refl _ WD) (p := ⟨kb, 0, none⟩) (fun _ => rfl) _).setCell (p := ⟨kb, 1, none⟩) (fun _ => rfl) _).drew
end Go.Proofs.Ytkejjahlglldlaa
namespace Go.Proofs.Ytkejjahlglldlaa
open Go.RowKit Go.Lib

theorem PI.start {w W : World} {tb m : Nat} {key : List UInt8} {v : Int} {L0 : List Ent} {bs0 bs' : List Nat} {rb H n : Nat} {es : List Ent} {ks : List Kid} {gk gv gc : Option Nat} {ck cv cc : Nat} (hE : Ext w W) (hT : TreeAt w tb m L0 bs0)
    (hB : W.heap[tb]? = some (.cells #[.int .i64 (m : Int), .pointer (some ⟨rb, 0, none⟩), .int .i64 (L0.length : Int)] 84 (0, 0))) (hlo : (if H = 0 then 0 else 1) ≤ n) (hbs : bs0 = tb :: bs')
    (hN : NodeAt W rb es (ks.map Kid.b) gk gv gc ck cv cc) (hn : n = es.length) (hL : L0 = inter (ks.map Kid.L) es) (hb : bs' = ownL rb gk gv gc ++ ks.flatMap Kid.bs) (hok : KidsOk W m H ks es.length) (hroom : es.length + 2 ≤ 2 * m) :
    PI w tb m key v L0 bs0 W rb H (if H = 0 then 0 else 1) H rb (if H = 0 then 0 else 1) [] [] [] es ks gk gv gc ck cv cc ∧ Ready m key H es ks (2 * H + 1) := by
  have hperm : (tb :: (ownL rb gk gv gc ++ ks.flatMap Kid.bs)).Perm (ownL rb gk gv gc ++ (tb :: ([] ++ ks.flatMap Kid.bs))) := by
    rw [List.perm_iff_count]
    intro a
    simp only [List.count_append, List.count_cons, List.count_nil]
    omega
  have hbs2 : bs0 = tb :: (ownL rb gk gv gc ++ ks.flatMap Kid.bs) := by rw [hbs, hb]
  refine ⟨⟨hB, hN, hok, Hole.root _ _ _ _ _, Nat.le_refl _, by rw [← hn]; exact hlo, by omega, hperm.nodup_iff.1 (hbs2 ▸ hT.nodup), by simp, fun x hx => .inl (by rw [hbs2]; exact hperm.symm.subset hx), ?_, ?_, ?_, hT.srt, hE.touch _, hT.lo, hT.hi⟩, .inl ⟨hroom, rfl⟩⟩
  · rw [← hL]; simp
  · rw [← hL]
  · rw [← hL]; exact hT.srt

theorem PI.grow {w W W' : World} {tb m : Nat} {key : List UInt8} {v : Int} {L0 : List Ent} {bs0 bs' : List Nat} {rb nb g H n : Nat} {es' : List Ent} {ks' : List Kid} {gk' gv' gc' : Option Nat} {ck' cv' cc' : Nat} {em : Ent} {k1 k2 : Kid}
    (hT : TreeAt w tb m L0 bs0) (hTo : Touch (fun k => k = tb) w W) (hB : W.heap[tb]? = some (.cells #[.int .i64 (m : Int), .pointer (some ⟨nb, 0, none⟩), .int .i64 (L0.length : Int)] 84 (0, 0))) (hbs : bs0 = tb :: bs')
    (hnb : w.heap.size ≤ nb) (hg : w.heap.size ≤ g) (hlt : ∀ x ∈ ownL nb none none (some g) ++ [(⟨rb, n, L0, bs'⟩ : Kid)].flatMap Kid.bs, x ≠ tb)
    (hC : Cut2 W W' m H nb 0 [] [⟨rb, n, L0, bs'⟩] (ownL nb none none (some g) ++ [(⟨rb, n, L0, bs'⟩ : Kid)].flatMap Kid.bs) [tb] es' ks' gk' gv' gc' ck' cv' cc' em k1 k2) :
    PI w tb m key v L0 bs0 W' nb (H + 1) 1 (H + 1) nb 1 [] [] [] es' ks' gk' gv' gc' ck' cv' cc' ∧ Ready m key (H + 1) es' ks' (2 * (H + 1) + 1) := by
  have hlen : es'.length = 1 := by rw [hC.ees]; simp
  have hm := hT.lo
  have hsz := hTo.size
  have hinter : inter (ks'.map Kid.L) es' = L0 := by rw [hC.L]; rfl
  have htl : tb < W.heap.size := blk_lt hB
  refine ⟨⟨?_, hC.node, hC.ok, Hole.root _ _ _ _ _, by simp, by omega, by omega, ?_, by simp, fun x hx => ?_, by rw [hinter]; simp, by rw [hinter], by rw [hinter]; exact hT.srt, hT.srt, ?_, hT.lo, hT.hi⟩, .inl ⟨by omega, rfl⟩⟩
  · rw [hC.touch.block tb htl (fun hh => hlt tb hh rfl)]; exact hB
  · refine (List.Perm.nodup_iff ?_).1 hC.nodup
    rw [List.perm_iff_count]
    intro a
    simp only [List.count_append, List.count_cons, List.count_nil]
    omega
  · have hx' : x = tb ∨ x ∈ ownL nb gk' gv' gc' ++ ks'.flatMap Kid.bs := by
      simp only [List.mem_append, List.mem_cons, List.nil_append] at hx ⊢
      rcases hx with hx | hx | hx
      · exact .inr (.inl hx)
      · exact .inl hx
      · exact .inr (.inr hx)
    rcases hx' with rfl | hx'
    · exact .inl (by simp [hbs])
    · rcases hC.sub x hx' with h | h
      · simp only [ownL, Option.toList_none, Option.toList_some, List.nil_append, List.mem_append, List.mem_cons, List.not_mem_nil, or_false, List.flatMap_cons, List.flatMap_nil, List.append_nil] at h
        rcases h with (rfl | rfl) | h
        · exact .inr hnb
        · exact .inr hg
        · exact .inl (by rw [hbs]; exact List.mem_cons_of_mem _ h)
      · exact .inr (by omega)
  · refine (hTo.mono fun k _ h => by rw [h, hbs]; simp).trans' hC.touch fun k hk h => ?_
    simp only [ownL, Option.toList_none, Option.toList_some, List.nil_append, List.mem_append, List.mem_cons, List.not_mem_nil, or_false, List.flatMap_cons, List.flatMap_nil, List.append_nil] at h
    rcases h with (rfl | rfl) | h
    · omega
    · omega
    · rw [hbs]; exact List.mem_cons_of_mem _ h

theorem PI.ext {w0 wr W : World} {tb m : Nat} {key : List UInt8} {v : Int} {L0 : List Ent} {bs0 : List Nat} {rb H loR h nb lo : Nat} {F : List Nat} {A B es : List Ent} {ks : List Kid} {gk gv gc : Option Nat} {ck cv cc : Nat}
    (hI : PI w0 tb m key v L0 bs0 wr rb H loR h nb lo F A B es ks gk gv gc ck cv cc) (hE : Ext wr W) : PI w0 tb m key v L0 bs0 W rb H loR h nb lo F A B es ks gk gv gc ck cv cc :=
  have hk : ∀ y, y < wr.heap.size → W.heap[y]? = wr.heap[y]? := fun y hy => Below.block hE y hy
  ⟨Ext.block hE hI.tree, hI.node.congr fun k h => hk k (hI.node.lt k h), hI.ok.congr fun x hx b hb => hk b (hI.ok.lt b (List.mem_flatMap.2 ⟨x, hx, hb⟩)), hI.hole.congr fun x hx => hk x (hI.flt x hx), hI.loR, hI.lo, hI.hi, hI.nodup,
    fun x hx => Nat.lt_of_lt_of_le (hI.flt x hx) hE.size, hI.sub, hI.insE, hI.hasE, hI.srt, hI.srt0, hI.touch.trans (hE.touch _), hI.m2, hI.m64⟩
theorem PI.nd {w0 wr : World} {tb m : Nat} {key : List UInt8} {v : Int} {L0 : List Ent} {bs0 : List Nat} {rb H loR h nb lo : Nat} {F : List Nat} {A B es : List Ent} {ks : List Kid} {gk gv gc : Option Nat} {ck cv cc : Nat}
    (hI : PI w0 tb m key v L0 bs0 wr rb H loR h nb lo F A B es ks gk gv gc ck cv cc) : nb ≠ tb ∧ gk ≠ some nb ∧ gv ≠ some nb ∧ gk ≠ some tb ∧ gv ≠ some tb ∧ (∀ x, gk = some x → gv ≠ some x) := by
  obtain ⟨nd1, nd2, nd3⟩ := List.nodup_append.1 hI.nodup
  obtain ⟨n1, n2⟩ := List.nodup_cons.1 nd1
  simp only [List.mem_append, Option.mem_toList, not_or] at n1
  refine ⟨nd3 nb (by simp) tb (by simp), n1.1, n1.2.1, fun e => nd3 tb (by simp [e]) tb (by simp) rfl, fun e => nd3 tb (by simp [e]) tb (by simp) rfl, fun x hx e => ?_⟩
  exact (List.nodup_append.1 n2).2.2 x (by simp [hx]) x (by simp [e]) rfl

theorem PI.kid_nd {w0 wr : World} {tb m : Nat} {key : List UInt8} {v : Int} {L0 : List Ent} {bs0 : List Nat} {rb H loR h nb lo : Nat} {F : List Nat} {A B es : List Ent} {ks : List Kid} {gk gv gc hk hv hc : Option Nat} {ck cv cc : Nat}
    (hI : PI w0 tb m key v L0 bs0 wr rb H loR h nb lo F A B es ks gk gv gc ck cv cc) {k : Kid} {rest : List Nat} (hk0 : k ∈ ks) (hbs : k.bs = ownL k.b hk hv hc ++ rest) : (ownL nb gk gv gc ++ ownL k.b hk hv hc).Nodup := by
  obtain ⟨nd1, nd2, nd3⟩ := List.nodup_append.1 hI.nodup
  have h1 := (List.nodup_append.1 (List.nodup_cons.1 nd2).2).2.1
  have hsub : ∀ x ∈ ownL k.b hk hv hc, x ∈ ks.flatMap Kid.bs := fun x hx => List.mem_flatMap.2 ⟨k, hk0, by rw [hbs]; exact List.mem_append_left _ hx⟩
  refine List.nodup_append.2 ⟨nd1, ?_, fun a ha b hb => nd3 a ha b (List.mem_cons_of_mem _ (List.mem_append_right _ (hsub b hb)))⟩
  obtain ⟨i, hi, rfl⟩ := List.getElem_of_mem hk0
  have h2 := list_at (List.getElem?_eq_getElem hi)
  rw [h2, List.flatMap_append, List.flatMap_cons, hbs] at h1
  exact (List.nodup_append.1 (List.nodup_append.1 (List.nodup_append.1 h1).2.1).1).1

/-- The tree with a new root above the old one. -/
structure GrowAt (w W1 W2 : World) (tb m rb H n : Nat) (L0 : List Ent) (bs0 bs' : List Nat) (es : List Ent) (ks : List Kid) (gk gv gc : Option Nat) (ck cv cc : Nat) : Prop where
  touch : Touch (fun k => k = tb) w W2
  tree : W2.heap[tb]? = some (.cells #[.int .i64 (m : Int), .pointer (some ⟨W1.heap.size + 1, 0, none⟩), .int .i64 (L0.length : Int)] 84 (0, 0))
  node : NodeAt W2 (W1.heap.size + 1) [] [rb] none none (some W1.heap.size) 0 0 1
  rep : Rep W2 m H ⟨rb, n, L0, bs'⟩
  kid : NodeAt W2 rb es (ks.map Kid.b) gk gv gc ck cv cc
  keep : ∀ x ∈ bs', W2.heap[x]? = w.heap[x]?
  nd : ([tb] ++ (ownL (W1.heap.size + 1) none none (some W1.heap.size) ++ [(⟨rb, n, L0, bs'⟩ : Kid)].flatMap Kid.bs)).Nodup
  nd2 : (ownL (W1.heap.size + 1) none none (some W1.heap.size) ++ ownL rb gk gv gc).Nodup
  size : w.heap.size ≤ W1.heap.size
theorem grow_at {w W1 : World} {tb m rb H n : Nat} {L0 : List Ent} {bs0 bs' : List Nat} {es : List Ent} {ks : List Kid} {gk gv gc : Option Nat} {ck cv cc : Nat} (hE : Ext w W1) (hT : TreeAt w tb m L0 bs0)
    (hB : w.heap[tb]? = some (.cells #[.int .i64 (m : Int), .pointer (some ⟨rb, 0, none⟩), .int .i64 (L0.length : Int)] 84 (0, 0))) (hbs : bs0 = tb :: bs') (hr : Rep w m H ⟨rb, n, L0, bs'⟩)
    (hN : NodeAt w rb es (ks.map Kid.b) gk gv gc ck cv cc) (hb : bs' = ownL rb gk gv gc ++ ks.flatMap Kid.bs) :
    GrowAt w W1 (((W1.setCell ⟨tb, 1, none⟩ (.pointer (some ⟨W1.heap.size + 1, 0, none⟩))).alloc (.cells #[.pointer (some ⟨rb, 0, none⟩)] 78)).alloc (.cells #[slv none 0 0, slv none 0 0, slv (some W1.heap.size) 1 1] 82)) tb m rb H n L0 bs0 bs' es ks gk gv gc ck cv cc := by
  have hsz := hE.size
  have htl : tb < w.heap.size := blk_lt hB
  have hTo : Touch (fun k => k = tb) w (((W1.setCell ⟨tb, 1, none⟩ (.pointer (some ⟨W1.heap.size + 1, 0, none⟩))).alloc (.cells #[.pointer (some ⟨rb, 0, none⟩)] 78)).alloc (.cells #[slv none 0 0, slv none 0 0, slv (some W1.heap.size) 1 1] 82)) :=
    ((Touch.setCell (S := fun k => k = tb) (hE.touch _) (p := ⟨tb, 1, none⟩) (fun _ => rfl) (.pointer (some ⟨W1.heap.size + 1, 0, none⟩))).alloc _).alloc _
  have hus : (W1.setCell ⟨tb, 1, none⟩ (.pointer (some ⟨W1.heap.size + 1, 0, none⟩))).heap.size = W1.heap.size := by simp [World.setCell]
  have hnd0 := hT.nodup
  rw [hbs] at hnd0
  obtain ⟨h1, h2⟩ := List.nodup_cons.1 hnd0
  have hlt : ∀ x ∈ bs', x < w.heap.size := hr.lt
  have hkeep : ∀ x ∈ bs', (((W1.setCell ⟨tb, 1, none⟩ (.pointer (some ⟨W1.heap.size + 1, 0, none⟩))).alloc (.cells #[.pointer (some ⟨rb, 0, none⟩)] 78)).alloc (.cells #[slv none 0 0, slv none 0 0, slv (some W1.heap.size) 1 1] 82)).heap[x]? = w.heap[x]? :=
    fun x hx => hTo.block x (hlt x hx) (fun e => h1 (e ▸ hx))
  have hown : ∀ x ∈ ownL rb gk gv gc, x ∈ bs' := fun x hx => by rw [hb]; exact List.mem_append_left _ hx
  have hn1 : (((W1.setCell ⟨tb, 1, none⟩ (.pointer (some ⟨W1.heap.size + 1, 0, none⟩))).alloc (.cells #[.pointer (some ⟨rb, 0, none⟩)] 78)).alloc (.cells #[slv none 0 0, slv none 0 0, slv (some W1.heap.size) 1 1] 82)).heap[W1.heap.size + 1]? = some (.cells #[slv none 0 0, slv none 0 0, slv (some W1.heap.size) 1 1] 82 (0, 0)) := by
    have := blk_new ((W1.setCell ⟨tb, 1, none⟩ (.pointer (some ⟨W1.heap.size + 1, 0, none⟩))).alloc (.cells #[.pointer (some ⟨rb, 0, none⟩)] 78)) (.cells #[slv none 0 0, slv none 0 0, slv (some W1.heap.size) 1 1] 82)
    rwa [World.size_alloc, hus] at this
  have hn0 : (((W1.setCell ⟨tb, 1, none⟩ (.pointer (some ⟨W1.heap.size + 1, 0, none⟩))).alloc (.cells #[.pointer (some ⟨rb, 0, none⟩)] 78)).alloc (.cells #[slv none 0 0, slv none 0 0, slv (some W1.heap.size) 1 1] 82)).heap[W1.heap.size]? = some (.cells #[.pointer (some ⟨rb, 0, none⟩)] 78 (0, 0)) := by
    have := blk_new (W1.setCell ⟨tb, 1, none⟩ (.pointer (some ⟨W1.heap.size + 1, 0, none⟩))) (.cells #[.pointer (some ⟨rb, 0, none⟩)] 78)
    rw [hus] at this
    exact blk_alloc this
  refine ⟨hTo, blk_alloc (blk_alloc (blk_set (Ext.block hE hB) 1 _)), ⟨hn1, Sl.nil _ _ _, Sl.nil _ _ _, ?_⟩, hr.congr hkeep, hN.congr fun k hk => hkeep k (hown k hk), hkeep, ?_, ?_, hsz⟩
  · refine ⟨rfl, #[.pointer (some ⟨rb, 0, none⟩)], hn0, Nat.le_refl _, by simp [maxLen], rfl, rfl⟩
  · simp only [ownL, Option.toList_none, Option.toList_some, List.nil_append, List.flatMap_cons, List.flatMap_nil, List.append_nil, List.cons_append, List.nodup_cons, List.mem_cons, not_or]
    exact ⟨⟨by omega, by omega, h1⟩, ⟨by omega, fun h => by have := hlt _ h; omega⟩, fun h => by have := hlt _ h; omega, h2⟩
  · have h3 : (ownL rb gk gv gc).Nodup := (List.nodup_append.1 (hb ▸ h2)).1
    refine List.nodup_append.2 ⟨by simp, h3, fun a ha b hb' e => ?_⟩
    have := hlt b (hown b hb')
    simp at ha
    omega
set_option maxRecDepth 100000 in
set_option maxHeartbeats 16000000 in
theorem BtPut_ok (tb m : Nat) (L0 : List Ent) (bs0 : List Nat) (key : List UInt8) (v : Int) (w : World) (hT : TreeAt w tb m L0 bs0) (hlen : L0.length ≤ 1000000000) :
    Calls Try.prog 7 #[.pointer (some ⟨tb, 0, none⟩), str key, .int .i64 v] w (PutPost tb m key v L0 bs0 w) := by
  have HT := Lib.hid hT
  have hm2 := hT.lo
  have hm64 := hT.hi
  obtain ⟨rb, H, n, bs', hB, hr, hlo, hhi, hbs⟩ := hT.ex
  obtain ⟨es, ks, gk, gv, gc, ck, cv, cc, h1, h2, h3, h4, h5⟩ := hr.open
  simp only at h1 h2 h3 h4
  have HB := Lib.hid hB; have HR := Lib.hid hr; have HN := Lib.hid h1; have HL := Lib.hid h3; have HBS := Lib.hid h4; have HOK := Lib.hid h5; have HBS0 := Lib.hid hbs; have HLO := Lib.hid hlo; have HE := Lib.hid h2
  obtain ⟨t0, t1, t2⟩ := blk3 hB
  obtain ⟨n0, n1, n2⟩ := blk3 h1.blk
  have hnl : es.length ≤ 127 := by omega
  clear hB hr h1 h2 h3 h4 h5 hbs hT hlo
  by_cases hfull : es.length + 1 = 2 * m
  · have hf : ((es.length : Int) == 2 * (m : Int) - 1) = true := by simp; omega
    have HFU := Lib.hid hfull; clear hfull
    go_enter Try.func7, Try.ntmps7
    go_wp2
    refine region_calm [.p 0, .p 1, .p 2, .l 3, .p 4, .p 5, .l 6, .p 7, .p 8, .p 9, .p 10, .l 11, .h 12 true, .p 13] f_mixed (by kernel_rfl) (by kernel_rfl) ?_
    repeat (first | (refine plan_p rfl (fun K hK => ?_); go_simp; refine hK _ ?_; clear hK K) | (refine plan_l rfl (fun K hK => ?_); go_simp; refine hK _ ?_; clear hK K))
    refine plan_ct rfl rfl (fun K _ hK => ?_)
    go_wp2_with fail
    refine (most_ok m hm64 w.drew).mono ?_
    rintro e W1 ⟨rfl, hE1⟩
    go_wp2
    refine hK _ _ (hE1) ?_; clear hK K
    repeat (first | (refine plan_p rfl (fun K hK => ?_); go_simp; refine hK _ ?_; clear hK K) | (refine plan_l rfl (fun K hK => ?_); go_simp; refine hK _ ?_; clear hK K))
    refine plan_done ?_
    have hE : Ext w W1 := (Ext.refl w).drew.trans hE1
    clear t0 t1 t2 n0 n1 n2
    have HB1 := Lib.hid (Ext.block hE HB.out)
    obtain ⟨t0, t1, t2⟩ := blk3 HB1.out
    have hz := blk_frozen HB1.out 1
    have htl : tb < W1.heap.size := blk_lt HB1.out
    have hgr : Hid (GrowAt w W1 (((W1.setCell ⟨tb, 1, none⟩ (.pointer (some ⟨W1.heap.size + 1, 0, none⟩))).alloc (.cells #[.pointer (some ⟨rb, 0, none⟩)] 78)).alloc (.cells #[slv none 0 0, slv none 0 0, slv (some W1.heap.size) 1 1] 82)) tb m rb H n L0 bs0 bs' es ks gk gv gc ck cv cc) :=
      grow_at hE HT.out HB.out HBS0.out HR.out HN.out HBS.out
    go_wp2_with fail
    obtain ⟨W2, hW2⟩ : ∃ W2, (((W1.setCell ⟨tb, 1, none⟩ (.pointer (some ⟨W1.heap.size + 1, 0, none⟩))).alloc (.cells #[.pointer (some ⟨rb, 0, none⟩)] 78)).alloc (.cells #[slv none 0 0, slv none 0 0, slv (some W1.heap.size) 1 1] 82)) = W2 := ⟨_, rfl⟩
    rw [hW2] at hgr
    show Calls _ _ #[.pointer (some ⟨tb, 0, none⟩), .pointer (some ⟨W1.heap.size + 1, 0, none⟩), .int .i64 ((0 : Nat) : Int)] (((W1.setCell ⟨tb, 1, none⟩ (.pointer (some ⟨W1.heap.size + 1, 0, none⟩))).alloc (.cells #[.pointer (some ⟨rb, 0, none⟩)] 78)).alloc (.cells #[slv none 0 0, slv none 0 0, slv (some W1.heap.size) 1 1] 82)) _
    rw [hW2]
    refine (split_ok tb (W1.heap.size + 1) rb m 0 _ _ [] es [rb] (ks.map Kid.b) none none (some W1.heap.size) 0 0 1 gk gv gc ck cv cc W2 hgr.out.tree hgr.out.node hgr.out.kid rfl (Nat.le_refl _) hm2 hm64 HFU.out ?_ (by simp) rfl hgr.out.nd2).mono ?_
    · cases H with
      | zero => exact .inl (by have : ks = [] := HOK.out; rw [this]; rfl)
      | succ H => exact .inr (by rw [List.length_map, HOK.out.1]; exact HFU.out)
    rintro e W3 hP
    have hrep := hgr.out.rep
    obtain ⟨⟨v', rfl⟩, es', ks', gk', gv', gc', ck', cv', cc', em, k1, k2, hC⟩ := cut2_of (h := H) (ks := [⟨rb, n, L0, bs'⟩]) (k := ⟨rb, n, L0, bs'⟩) (F := [tb]) hm2 hgr.out.node ⟨rfl, fun x hx => by
        simp at hx; subst hx
        exact ⟨hrep, by show m ≤ n + 1; have := HE.out; have := HFU.out; omega, hhi⟩⟩ rfl (Nat.le_refl _) hgr.out.kid HE.out HL.out HBS.out
      (HOK.out.congr fun x hx b hb => hgr.out.keep b (by rw [HBS.out]; exact List.mem_append_right _ (List.mem_flatMap.2 ⟨x, hx, hb⟩))) HFU.out (fun x hx => by simp at hx; subst hx; exact blk_lt hgr.out.tree) hgr.out.nd hP
    have hpi := Lib.hid (PI.grow (key := key) (v := v) HT.out hgr.out.touch hgr.out.tree HBS0.out (by have := hgr.out.size; omega) hgr.out.size (fun x hx e => by
      have := (List.nodup_cons.1 hgr.out.nd).1
      exact this (e ▸ hx)) hC)
    obtain ⟨q0, q1, q2⟩ := blk3 hpi.out.1.tree
    clear hP hC hrep hgr hW2 t0 t1 t2 hz hf hnl hhi HR HN HL HBS HOK HBS0 HLO HE HB HFU
    go_wp2
    have HP := hpi
    go_loopg [7] (2*(H+1)+1) (fun k v7 wr => ∃ (rb H loR h nb lo : Nat) (F : List Nat) (A B es : List Ent) (ks : List Kid) (gk gv gc : Option Nat) (ck cv cc : Nat), v7 = .pointer (some ⟨nb, 0, none⟩) ∧ PI w tb m key v L0 bs0 wr rb H loR h nb lo F A B es ks gk gv gc ck cv cc ∧ Ready m key h es ks k)
    case atStart => exact ⟨_, _, _, _, _, _, _, _, _, _, _, _, _, _, _, _, _, rfl, HP.out.1, HP.out.2⟩
    case round =>
      obtain ⟨rb, H, loR, h, nb, lo, F, A, B, es, ks, gk, gv, gc, ck, cv, cc, rfl, hI, hR⟩ := hrel
      have HI := Lib.hid hI; have HR := Lib.hid hR
      clear hI hR
      have hes : es.length ≤ 1000000000 := by have := HI.out.hi; have := HI.out.m64; omega
      obtain ⟨p, hp⟩ : ∃ p, pos key es = p := ⟨_, rfl⟩
      obtain ⟨n0, n1, n2⟩ := blk3 HI.out.node.blk
      obtain ⟨t0, t1, t2⟩ := blk3 HI.out.tree
      have hples : p ≤ es.length := by rw [← hp]; exact pos_le key es
      go_wp2_with fail
      refine (find_ok HI.out.node key hes HI.out.srt.node).mono ?_
      rintro e w' ⟨rfl, rfl⟩
      rw [hp]
      have HPP := Lib.hid hp; clear hp
      cases hat : at_ key es
      · by_cases hks : ks = []
        · have hpk' : decide (ks.map Kid.b = []) = true := decide_eq_true (by rw [hks]; rfl)
          have HKS := Lib.hid hks; clear hks
          have hroom : es.length + 2 ≤ 2 * m := by
            rcases HR.out with ⟨h1, _⟩ | ⟨_, h1 | ⟨x, h1, _⟩⟩
            · exact h1
            · rw [hat] at h1; cases h1
            · rw [HKS.out] at h1; simp at h1
          have HND := Lib.hid HI.out.nd
          go_wp2_with (first | (go_at_call 34; refine (leaf_ok HI.out.node).mono ?_; rintro e w' ⟨rfl, rfl⟩))
          refine (insS_at (i := p) (vb := wr.heap.size) (x := str key) (U := wr.alloc (.cells #[str key] 9)) HI.out.node.keys ((Ext.refl wr).alloc _) (blk_new wr _) (Nat.le_refl _) hples (sK_one es) rfl (by omega)).mono ?_
          rintro e W5 ⟨gk', ck', rfl, S5, T5, f5⟩
          clear n0 n1 n2
          have hz := nd_blk_frozen HI.out.node.blk T5 HND.out.2.1 0
          obtain ⟨n0, n1, n2⟩ := blk3 (T5.old HI.out.node.blk HND.out.2.1)
          have HS5 := Lib.hid S5; have HT5 := Lib.hid T5; have HF5 := Lib.hid f5
          clear S5 T5 f5
          have HB5 : Hid ((W5.setCell ⟨nb, 0, none⟩ (slv (some gk') (es.length + 1) ck')).heap[nb]? = some (.cells #[slv (some gk') (es.length + 1) ck', slv gv es.length cv, slv gc (ks.map Kid.b).length cc] 82 (0, 0))) := nd_blk HI.out.node.blk HT5.out HND.out.2.1 0 _
          have HT5' := Lib.hid (nd_store (nb := nb) (j := 0) (v := slv (some gk') (es.length + 1) ck') HT5.out)
          have HS5' := Lib.hid (HS5.out.set_off ⟨nb, 0, none⟩ (slv (some gk') (es.length + 1) ck') (fun b hb => by cases hb; exact ne_new HF5.out (blk_lt HI.out.node.blk) HND.out.2.1))
          have HTB5 := Lib.hid (HT5'.out.old HI.out.tree (by rintro (h | h); exact HND.out.2.2.2.1 h; exact HND.out.1 h.symm))
          have HNV5 := Lib.hid (HI.out.node.vals.touch HT5'.out (by intro b hb; rintro (h | h); exact HND.out.2.2.2.2.2 b h hb; exact HND.out.2.2.1 (h ▸ hb)))
          clear HS5 HT5
          go_wp2_with fail
          clear n0 n1 n2 hz t0 t1 t2
          obtain ⟨WB, hWB⟩ : ∃ WB, W5.setCell ⟨nb, 0, none⟩ (slv (some gk') (es.length + 1) ck') = WB := ⟨_, rfl⟩
          have hs5 : W5.heap.size = WB.heap.size := by rw [← hWB]; simp [World.setCell]
          rw [hWB] at HB5 HT5' HS5' HTB5 HNV5
          rw [hWB, hs5]
          clear hWB hs5
          refine (insI_at (i := p) (vb := WB.heap.size) (x := .int .i64 v) (U := WB.alloc (.cells #[.int .i64 v] 2)) HNV5.out ((Ext.refl WB).alloc _) (blk_new WB _) (Nat.le_refl _) hples (sV_one es) rfl (by omega)).mono ?_
          rintro e W6 ⟨gv', cv', rfl, S6, T6, f6⟩
          have hz := nd_blk_frozen HB5.out T6 HND.out.2.2.1 1
          obtain ⟨n0, n1, n2⟩ := blk3 (T6.old HB5.out HND.out.2.2.1)
          have HS6 := Lib.hid S6; have HT6 := Lib.hid T6; have HF6 := Lib.hid f6
          clear S6 T6 f6
          have HB6 : Hid ((W6.setCell ⟨nb, 1, none⟩ (slv (some gv') (es.length + 1) cv')).heap[nb]? = some (.cells #[slv (some gk') (es.length + 1) ck', slv (some gv') (es.length + 1) cv', slv gc (ks.map Kid.b).length cc] 82 (0, 0))) := nd_blk HB5.out HT6.out HND.out.2.2.1 1 _
          have HT6' := Lib.hid (nd_store (nb := nb) (j := 1) (v := slv (some gv') (es.length + 1) cv') HT6.out)
          have HS6' := Lib.hid (HS6.out.set_off ⟨nb, 1, none⟩ (slv (some gv') (es.length + 1) cv') (fun b hb => by cases hb; exact ne_new HF6.out (blk_lt HB5.out) HND.out.2.2.1))
          have HTB6 := Lib.hid (HT6'.out.old HTB5.out (by rintro (h | h); exact HND.out.2.2.2.2.1 h; exact HND.out.1 h.symm))
          have hT6b := HT6.out.old HTB5.out (by intro h; exact HND.out.2.2.2.2.1 h)
          obtain ⟨t0, t1, t2⟩ := blk3 hT6b
          have hzt := blk_frozen hT6b 2
          have hnt : ¬ nb = tb := HND.out.1
          have hnt2 : ¬ tb = nb := fun e => HND.out.1 e.symm
          have hwc : IntKind.i64.wrap ((L0.length : Int) + 1) = (L0.length : Int) + 1 := by rw [IntKind.wrap_i64]; omega
          clear HS6 HT6 hT6b HNV5
          go_wp2
          go_ret
          refine HI.out.leaf rfl HKS.out hat hroom (by rw [HPP.out]; exact HS5'.out) HT5'.out HF5.out (by rw [HPP.out]; exact HS6'.out) HT6'.out HF6.out ?_
          have := HB6.out
          rw [HKS.out] at this
          exact this
        · have hpk' : decide (ks.map Kid.b = []) = false := decide_eq_false (by simpa using hks)
          have HKS := Lib.hid hks; clear hks
          obtain ⟨h', hh'⟩ : ∃ h', h = h' + 1 := by
            cases h with
            | zero => exact absurd HI.out.ok HKS.out
            | succ h' => exact ⟨h', rfl⟩
          subst hh'
          have HKL : Hid (ks.length = es.length + 1) := HI.out.ok.1
          obtain ⟨k, hk⟩ : ∃ k, ks[p]? = some k := ⟨ks[p]'(by have := HKL.out; omega), List.getElem?_eq_getElem _⟩
          have hkm := HI.out.ok.2 k (List.mem_of_getElem? hk)
          obtain ⟨ek, kk, hk', hv, hc, dk, dv, dc, e1, e2, e3, e4, e5⟩ := hkm.1.open
          have hek : ek.length ≤ 127 := by omega
          obtain ⟨gcb, hgcb⟩ := HI.out.node.kids.some_of_pos (by rw [List.length_map]; have := HKL.out; omega)
          have hsc := HI.out.node.kids
          rw [hgcb] at hsc
          have hci := hsc.cell (sP_get (show (ks.map Kid.b)[p]? = some k.b by simp [hk]))
          obtain ⟨kn, hkn⟩ : ∃ kn, (ks.map Kid.b).length = kn := ⟨_, rfl⟩
          have hri := fun U => run_index_slv (P := Try.prog) ei_node (cap := cc) hgcb (j := p) (n := kn) (by rw [← hkn, List.length_map]; have := HKL.out; omega) U
          rw [hkn] at n2
          obtain ⟨k0, k1, k2⟩ := blk3 e1.blk
          have HE1 := Lib.hid e1; have HE2 := Lib.hid e2; have HE3 := Lib.hid e3; have HE4 := Lib.hid e4; have HE5 := Lib.hid e5
          have HK := Lib.hid hk; have HKN := Lib.hid hkn; have HG := Lib.hid hgcb; have HKM := Lib.hid hkm
          clear e1 e2 e3 e4 e5 hk hkn hgcb hsc hkm
          by_cases hful : ek.length + 1 = 2 * m
          · have hf : ((ek.length : Int) == 2 * (m : Int) - 1) = true := by simp; omega
            have HFUL := Lib.hid hful; clear hful
            have hroom : es.length + 2 ≤ 2 * m := by
              rcases HR.out with ⟨h1, _⟩ | ⟨_, h1 | ⟨x, h1, h2⟩⟩
              · exact h1
              · rw [hat] at h1; cases h1
              · rw [HPP.out, HK.out] at h1
                cases h1
                have := HE2.out; have := HFUL.out; omega
            have hkidnd := Lib.hid (HI.out.kid_nd (List.mem_of_getElem? HK.out) HE4.out)
            go_wp2_with (first | (go_at_call 34; refine (leaf_ok HI.out.node).mono ?_; rintro e w' ⟨rfl, rfl⟩))
            refine region_calm [.p 0, .p 1, .p 2, .l 3, .p 4, .p 5, .l 6, .p 7, .p 8, .l 9, .p 10, .p 11, .p 12, .p 13, .l 14, .h 15 true, .p 16, .p 17] f_mixed (by kernel_rfl) (by kernel_rfl) ?_
            repeat (first | (refine plan_p rfl (fun K hK => ?_); go_simp; refine hK _ ?_; clear hK K) | (refine plan_l rfl (fun K hK => ?_); go_simp; refine hK _ ?_; clear hK K))
            refine plan_ct rfl rfl (fun K _ hK => ?_)
            go_wp2_with fail
            refine (most_ok m hm64 wr.drew).mono ?_
            rintro e W1 ⟨rfl, hE1⟩
            go_wp2
            refine hK _ _ (hE1) ?_; clear hK K
            repeat (first | (refine plan_p rfl (fun K hK => ?_); go_simp; refine hK _ ?_; clear hK K) | (refine plan_l rfl (fun K hK => ?_); go_simp; refine hK _ ?_; clear hK K))
            refine plan_done ?_
            have HEX := Lib.hid ((Ext.refl wr).drew.trans hE1)
            have HI1 := Lib.hid (HI.out.ext HEX.out)
            clear hE1 t0 t1 t2 n0 n1 n2 hci k0 k1 k2
            have HK1 := Lib.hid (HE1.out.congr fun y hy => Below.block HEX.out y (HE1.out.lt y hy))
            have HO1 := Lib.hid (HE5.out.congr fun x hx b hb => Below.block HEX.out b (HE5.out.lt b (List.mem_flatMap.2 ⟨x, hx, hb⟩)))
            go_wp2_with fail
            refine (split_ok tb nb k.b m p _ _ es ek (ks.map Kid.b) (kk.map Kid.b) gk gv gc ck cv cc hk' hv hc dk dv dc W1 HI1.out.tree HI1.out.node HK1.out (by rw [List.getElem?_map, HK.out]; rfl) hples hm2 hm64 HFUL.out ?_ (by have := HI1.out.hi; omega) (by rw [List.length_map]; exact HKL.out) hkidnd.out).mono ?_
            · cases h' with
              | zero => exact .inl (by have : kk = [] := HE5.out; rw [this]; rfl)
              | succ h' => exact .inr (by rw [List.length_map, HE5.out.1]; exact HFUL.out)
            rintro e W2 hP
            obtain ⟨⟨v', rfl⟩, es', ks', gk', gv', gc', ck', cv', cc', em, k1, k2, hC⟩ := cut2_of (F := tb :: F) hm2 HI1.out.node HI1.out.ok HK.out hples HK1.out HE2.out HE3.out HE4.out HO1.out HFUL.out (fun x hx => HI1.out.rlt x (by
                rcases List.mem_cons.1 hx with rfl | hx
                · simp
                · exact List.mem_cons_of_mem _ (List.mem_append_left _ hx))) (by
                refine (List.Perm.nodup_iff ?_).1 HI1.out.nodup
                rw [List.perm_iff_count]
                intro a
                simp only [List.count_append, List.count_cons]
                omega) hP
            rw [← HPP.out] at hC
            have hfin := Lib.hid (HI1.out.cut hroom hat hC)
            clear hP hC
            go_wp2
            go_roundg (2 * (h' + 1))
            case measure =>
              rcases HR.out with ⟨_, h1⟩ | ⟨_, h1 | ⟨x, h1, h2⟩⟩
              · omega
              · rw [hat] at h1; cases h1
              · rw [HPP.out, HK.out] at h1
                cases h1
                have := HE2.out; have := HFUL.out; omega
            case rel => exact ⟨_, _, _, _, _, _, _, _, _, _, _, _, _, _, _, _, _, rfl, hfin.out.1, hfin.out.2⟩
          · have hf : ((ek.length : Int) == 2 * (m : Int) - 1) = false := by simp; omega
            have HFUL := Lib.hid hful; clear hful
            go_wp2_with (first | (go_at_call 34; refine (leaf_ok HI.out.node).mono ?_; rintro e w' ⟨rfl, rfl⟩))
            refine region_calm [.p 0, .p 1, .p 2, .l 3, .p 4, .p 5, .l 6, .p 7, .p 8, .l 9, .p 10, .p 11, .p 12, .p 13, .l 14, .h 15 true, .p 16, .p 17] f_mixed (by kernel_rfl) (by kernel_rfl) ?_
            repeat (first | (refine plan_p rfl (fun K hK => ?_); go_simp; refine hK _ ?_; clear hK K) | (refine plan_l rfl (fun K hK => ?_); go_simp; refine hK _ ?_; clear hK K))
            refine plan_ct rfl rfl (fun K _ hK => ?_)
            go_wp2_with fail
            refine (most_ok m hm64 wr.drew).mono ?_
            rintro e W1 ⟨rfl, hE1⟩
            go_wp2
            refine hK _ _ (hE1) ?_; clear hK K
            repeat (first | (refine plan_p rfl (fun K hK => ?_); go_simp; refine hK _ ?_; clear hK K) | (refine plan_l rfl (fun K hK => ?_); go_simp; refine hK _ ?_; clear hK K))
            refine plan_done ?_
            have HEX := Lib.hid ((Ext.refl wr).drew.trans hE1)
            have HI1 := Lib.hid (HI.out.ext HEX.out)
            clear hE1 t0 t1 t2 n0 n1 n2 hci k0 k1 k2
            have HK1 := Lib.hid (HE1.out.congr fun y hy => Below.block HEX.out y (HE1.out.lt y hy))
            have HO1 := Lib.hid (HE5.out.congr fun x hx b hb => Below.block HEX.out b (HE5.out.lt b (List.mem_flatMap.2 ⟨x, hx, hb⟩)))
            obtain ⟨n0, n1, n2⟩ := blk3 HI1.out.node.blk
            have hsc := HI1.out.node.kids
            rw [HG.out] at hsc
            have hci := hsc.cell (sP_get (show (ks.map Kid.b)[p]? = some k.b by rw [List.getElem?_map, HK.out]; rfl))
            rw [HKN.out] at n2
            clear hsc
            go_wp2
            go_roundg (2 * h' + 1)
            case measure =>
              rcases HR.out with ⟨_, h1⟩ | ⟨h1, _⟩
              · omega
              · omega
            case rel =>
              have hfin := HI1.out.down (k := k) hat (by rw [HPP.out]; exact HK.out) (by have := HE2.out; have := HFUL.out; have := HKM.out.2.2; omega) HK1.out HE2.out HE3.out HE4.out HO1.out
              exact ⟨_, _, _, _, _, _, _, _, _, _, _, _, _, _, _, _, _, rfl, hfin.1, hfin.2⟩
      · obtain ⟨v0, hv0, -⟩ := at_true hat
        rw [HPP.out] at hv0
        have hpl : p < es.length := (List.getElem?_eq_some_iff.1 hv0).1
        obtain ⟨gvb, hgvb⟩ := HI.out.node.vals.some_of_pos (by omega)
        have hsv := HI.out.node.vals
        rw [hgvb] at hsv
        have hc := hsv.cell (sV_get hv0)
        have hz := hsv.frozen p
        have hri := fun U => run_index_slv (P := Try.prog) ei_int64 (cap := cv) hgvb (j := p) (n := es.length) hpl U
        have HV0 := Lib.hid hv0; have HG := Lib.hid hgvb
        clear hv0 hgvb hsv
        go_wp2
        go_ret
        rw [← HPP.out]
        exact HI.out.here rfl hat HG.out
  · have hf : ((es.length : Int) == 2 * (m : Int) - 1) = false := by simp; omega
    have HFU := Lib.hid hfull; clear hfull
    go_enter Try.func7, Try.ntmps7
    go_wp2
    refine region_calm [.p 0, .p 1, .p 2, .l 3, .p 4, .p 5, .l 6, .p 7, .p 8, .p 9, .p 10, .l 11, .h 12 true, .p 13] f_mixed (by kernel_rfl) (by kernel_rfl) ?_
    repeat (first | (refine plan_p rfl (fun K hK => ?_); go_simp; refine hK _ ?_; clear hK K) | (refine plan_l rfl (fun K hK => ?_); go_simp; refine hK _ ?_; clear hK K))
    refine plan_ct rfl rfl (fun K _ hK => ?_)
    go_wp2_with fail
    refine (most_ok m hm64 w.drew).mono ?_
    rintro e W1 ⟨rfl, hE1⟩
    go_wp2
    refine hK _ _ (hE1) ?_; clear hK K
    repeat (first | (refine plan_p rfl (fun K hK => ?_); go_simp; refine hK _ ?_; clear hK K) | (refine plan_l rfl (fun K hK => ?_); go_simp; refine hK _ ?_; clear hK K))
    refine plan_done ?_
    have hE : Ext w W1 := (Ext.refl w).drew.trans hE1
    clear t0 t1 t2 n0 n1 n2
    have HN1 := Lib.hid (HN.out.congr fun k hk => Below.block hE k (HN.out.lt k hk))
    have HB1 := Lib.hid (Ext.block hE HB.out)
    have HP := Lib.hid (PI.start (key := key) (v := v) hE HT.out HB1.out HLO.out HBS0.out HN1.out HE.out HL.out HBS.out (HOK.out.congr fun x hx b hb => Below.block hE b (HOK.out.lt b (List.mem_flatMap.2 ⟨x, hx, hb⟩))) (by have := HFU.out; have := HE.out; omega))
    obtain ⟨t0, t1, t2⟩ := blk3 HB1.out
    go_wp2
    clear t0 t1 t2 hf hnl hhi HR HN HL HBS HOK HBS0 HLO HE HN1 HB HFU
    go_loopg [7] (2*H+1) (fun k v7 wr => ∃ (rb H loR h nb lo : Nat) (F : List Nat) (A B es : List Ent) (ks : List Kid) (gk gv gc : Option Nat) (ck cv cc : Nat), v7 = .pointer (some ⟨nb, 0, none⟩) ∧ PI w tb m key v L0 bs0 wr rb H loR h nb lo F A B es ks gk gv gc ck cv cc ∧ Ready m key h es ks k)
    case atStart => exact ⟨_, _, _, _, _, _, _, _, _, _, _, _, _, _, _, _, _, rfl, HP.out.1, HP.out.2⟩
    case round =>
      obtain ⟨rb, H, loR, h, nb, lo, F, A, B, es, ks, gk, gv, gc, ck, cv, cc, rfl, hI, hR⟩ := hrel
      have HI := Lib.hid hI; have HR := Lib.hid hR
      clear hI hR
      have hes : es.length ≤ 1000000000 := by have := HI.out.hi; have := HI.out.m64; omega
      obtain ⟨p, hp⟩ : ∃ p, pos key es = p := ⟨_, rfl⟩
      obtain ⟨n0, n1, n2⟩ := blk3 HI.out.node.blk
      obtain ⟨t0, t1, t2⟩ := blk3 HI.out.tree
      have hples : p ≤ es.length := by rw [← hp]; exact pos_le key es
      go_wp2_with fail
      refine (find_ok HI.out.node key hes HI.out.srt.node).mono ?_
      rintro e w' ⟨rfl, rfl⟩
      rw [hp]
      have HPP := Lib.hid hp; clear hp
      cases hat : at_ key es
      · by_cases hks : ks = []
        · have hpk' : decide (ks.map Kid.b = []) = true := decide_eq_true (by rw [hks]; rfl)
          have HKS := Lib.hid hks; clear hks
          have hroom : es.length + 2 ≤ 2 * m := by
            rcases HR.out with ⟨h1, _⟩ | ⟨_, h1 | ⟨x, h1, _⟩⟩
            · exact h1
            · rw [hat] at h1; cases h1
            · rw [HKS.out] at h1; simp at h1
          have HND := Lib.hid HI.out.nd
          go_wp2_with (first | (go_at_call 34; refine (leaf_ok HI.out.node).mono ?_; rintro e w' ⟨rfl, rfl⟩))
          refine (insS_at (i := p) (vb := wr.heap.size) (x := str key) (U := wr.alloc (.cells #[str key] 9)) HI.out.node.keys ((Ext.refl wr).alloc _) (blk_new wr _) (Nat.le_refl _) hples (sK_one es) rfl (by omega)).mono ?_
          rintro e W5 ⟨gk', ck', rfl, S5, T5, f5⟩
          clear n0 n1 n2
          have hz := nd_blk_frozen HI.out.node.blk T5 HND.out.2.1 0
          obtain ⟨n0, n1, n2⟩ := blk3 (T5.old HI.out.node.blk HND.out.2.1)
          have HS5 := Lib.hid S5; have HT5 := Lib.hid T5; have HF5 := Lib.hid f5
          clear S5 T5 f5
          have HB5 : Hid ((W5.setCell ⟨nb, 0, none⟩ (slv (some gk') (es.length + 1) ck')).heap[nb]? = some (.cells #[slv (some gk') (es.length + 1) ck', slv gv es.length cv, slv gc (ks.map Kid.b).length cc] 82 (0, 0))) := nd_blk HI.out.node.blk HT5.out HND.out.2.1 0 _
          have HT5' := Lib.hid (nd_store (nb := nb) (j := 0) (v := slv (some gk') (es.length + 1) ck') HT5.out)
          have HS5' := Lib.hid (HS5.out.set_off ⟨nb, 0, none⟩ (slv (some gk') (es.length + 1) ck') (fun b hb => by cases hb; exact ne_new HF5.out (blk_lt HI.out.node.blk) HND.out.2.1))
          have HTB5 := Lib.hid (HT5'.out.old HI.out.tree (by rintro (h | h); exact HND.out.2.2.2.1 h; exact HND.out.1 h.symm))
          have HNV5 := Lib.hid (HI.out.node.vals.touch HT5'.out (by intro b hb; rintro (h | h); exact HND.out.2.2.2.2.2 b h hb; exact HND.out.2.2.1 (h ▸ hb)))
          clear HS5 HT5
          go_wp2_with fail
          clear n0 n1 n2 hz t0 t1 t2
          obtain ⟨WB, hWB⟩ : ∃ WB, W5.setCell ⟨nb, 0, none⟩ (slv (some gk') (es.length + 1) ck') = WB := ⟨_, rfl⟩
          have hs5 : W5.heap.size = WB.heap.size := by rw [← hWB]; simp [World.setCell]
          rw [hWB] at HB5 HT5' HS5' HTB5 HNV5
          rw [hWB, hs5]
          clear hWB hs5
          refine (insI_at (i := p) (vb := WB.heap.size) (x := .int .i64 v) (U := WB.alloc (.cells #[.int .i64 v] 2)) HNV5.out ((Ext.refl WB).alloc _) (blk_new WB _) (Nat.le_refl _) hples (sV_one es) rfl (by omega)).mono ?_
          rintro e W6 ⟨gv', cv', rfl, S6, T6, f6⟩
          have hz := nd_blk_frozen HB5.out T6 HND.out.2.2.1 1
          obtain ⟨n0, n1, n2⟩ := blk3 (T6.old HB5.out HND.out.2.2.1)
          have HS6 := Lib.hid S6; have HT6 := Lib.hid T6; have HF6 := Lib.hid f6
          clear S6 T6 f6
          have HB6 : Hid ((W6.setCell ⟨nb, 1, none⟩ (slv (some gv') (es.length + 1) cv')).heap[nb]? = some (.cells #[slv (some gk') (es.length + 1) ck', slv (some gv') (es.length + 1) cv', slv gc (ks.map Kid.b).length cc] 82 (0, 0))) := nd_blk HB5.out HT6.out HND.out.2.2.1 1 _
          have HT6' := Lib.hid (nd_store (nb := nb) (j := 1) (v := slv (some gv') (es.length + 1) cv') HT6.out)
          have HS6' := Lib.hid (HS6.out.set_off ⟨nb, 1, none⟩ (slv (some gv') (es.length + 1) cv') (fun b hb => by cases hb; exact ne_new HF6.out (blk_lt HB5.out) HND.out.2.2.1))
          have HTB6 := Lib.hid (HT6'.out.old HTB5.out (by rintro (h | h); exact HND.out.2.2.2.2.1 h; exact HND.out.1 h.symm))
          have hT6b := HT6.out.old HTB5.out (by intro h; exact HND.out.2.2.2.2.1 h)
          obtain ⟨t0, t1, t2⟩ := blk3 hT6b
          have hzt := blk_frozen hT6b 2
          have hnt : ¬ nb = tb := HND.out.1
          have hnt2 : ¬ tb = nb := fun e => HND.out.1 e.symm
          have hwc : IntKind.i64.wrap ((L0.length : Int) + 1) = (L0.length : Int) + 1 := by rw [IntKind.wrap_i64]; omega
          clear HS6 HT6 hT6b HNV5
          go_wp2
          go_ret
          refine HI.out.leaf rfl HKS.out hat hroom (by rw [HPP.out]; exact HS5'.out) HT5'.out HF5.out (by rw [HPP.out]; exact HS6'.out) HT6'.out HF6.out ?_
          have := HB6.out
          rw [HKS.out] at this
          exact this
        · have hpk' : decide (ks.map Kid.b = []) = false := decide_eq_false (by simpa using hks)
          have HKS := Lib.hid hks; clear hks
          obtain ⟨h', hh'⟩ : ∃ h', h = h' + 1 := by
            cases h with
            | zero => exact absurd HI.out.ok HKS.out
            | succ h' => exact ⟨h', rfl⟩
          subst hh'
          have HKL : Hid (ks.length = es.length + 1) := HI.out.ok.1
          obtain ⟨k, hk⟩ : ∃ k, ks[p]? = some k := ⟨ks[p]'(by have := HKL.out; omega), List.getElem?_eq_getElem _⟩
          have hkm := HI.out.ok.2 k (List.mem_of_getElem? hk)
          obtain ⟨ek, kk, hk', hv, hc, dk, dv, dc, e1, e2, e3, e4, e5⟩ := hkm.1.open
          have hek : ek.length ≤ 127 := by omega
          obtain ⟨gcb, hgcb⟩ := HI.out.node.kids.some_of_pos (by rw [List.length_map]; have := HKL.out; omega)
          have hsc := HI.out.node.kids
          rw [hgcb] at hsc
          have hci := hsc.cell (sP_get (show (ks.map Kid.b)[p]? = some k.b by simp [hk]))
          obtain ⟨kn, hkn⟩ : ∃ kn, (ks.map Kid.b).length = kn := ⟨_, rfl⟩
          have hri := fun U => run_index_slv (P := Try.prog) ei_node (cap := cc) hgcb (j := p) (n := kn) (by rw [← hkn, List.length_map]; have := HKL.out; omega) U
          rw [hkn] at n2
          obtain ⟨k0, k1, k2⟩ := blk3 e1.blk
          have HE1 := Lib.hid e1; have HE2 := Lib.hid e2; have HE3 := Lib.hid e3; have HE4 := Lib.hid e4; have HE5 := Lib.hid e5
          have HK := Lib.hid hk; have HKN := Lib.hid hkn; have HG := Lib.hid hgcb; have HKM := Lib.hid hkm
          clear e1 e2 e3 e4 e5 hk hkn hgcb hsc hkm
          by_cases hful : ek.length + 1 = 2 * m
          · have hf : ((ek.length : Int) == 2 * (m : Int) - 1) = true := by simp; omega
            have HFUL := Lib.hid hful; clear hful
            have hroom : es.length + 2 ≤ 2 * m := by
              rcases HR.out with ⟨h1, _⟩ | ⟨_, h1 | ⟨x, h1, h2⟩⟩
              · exact h1
              · rw [hat] at h1; cases h1
              · rw [HPP.out, HK.out] at h1
                cases h1
                have := HE2.out; have := HFUL.out; omega
            have hkidnd := Lib.hid (HI.out.kid_nd (List.mem_of_getElem? HK.out) HE4.out)
            go_wp2_with (first | (go_at_call 34; refine (leaf_ok HI.out.node).mono ?_; rintro e w' ⟨rfl, rfl⟩))
            refine region_calm [.p 0, .p 1, .p 2, .l 3, .p 4, .p 5, .l 6, .p 7, .p 8, .l 9, .p 10, .p 11, .p 12, .p 13, .l 14, .h 15 true, .p 16, .p 17] f_mixed (by kernel_rfl) (by kernel_rfl) ?_
            repeat (first | (refine plan_p rfl (fun K hK => ?_); go_simp; refine hK _ ?_; clear hK K) | (refine plan_l rfl (fun K hK => ?_); go_simp; refine hK _ ?_; clear hK K))
            refine plan_ct rfl rfl (fun K _ hK => ?_)
            go_wp2_with fail
            refine (most_ok m hm64 wr.drew).mono ?_
            rintro e W1 ⟨rfl, hE1⟩
            go_wp2
            refine hK _ _ (hE1) ?_; clear hK K
            repeat (first | (refine plan_p rfl (fun K hK => ?_); go_simp; refine hK _ ?_; clear hK K) | (refine plan_l rfl (fun K hK => ?_); go_simp; refine hK _ ?_; clear hK K))
            refine plan_done ?_
            have HEX := Lib.hid ((Ext.refl wr).drew.trans hE1)
            have HI1 := Lib.hid (HI.out.ext HEX.out)
            clear hE1 t0 t1 t2 n0 n1 n2 hci k0 k1 k2
            have HK1 := Lib.hid (HE1.out.congr fun y hy => Below.block HEX.out y (HE1.out.lt y hy))
            have HO1 := Lib.hid (HE5.out.congr fun x hx b hb => Below.block HEX.out b (HE5.out.lt b (List.mem_flatMap.2 ⟨x, hx, hb⟩)))
            go_wp2_with fail
            refine (split_ok tb nb k.b m p _ _ es ek (ks.map Kid.b) (kk.map Kid.b) gk gv gc ck cv cc hk' hv hc dk dv dc W1 HI1.out.tree HI1.out.node HK1.out (by rw [List.getElem?_map, HK.out]; rfl) hples hm2 hm64 HFUL.out ?_ (by have := HI1.out.hi; omega) (by rw [List.length_map]; exact HKL.out) hkidnd.out).mono ?_
            · cases h' with
              | zero => exact .inl (by have : kk = [] := HE5.out; rw [this]; rfl)
              | succ h' => exact .inr (by rw [List.length_map, HE5.out.1]; exact HFUL.out)
            rintro e W2 hP
            obtain ⟨⟨v', rfl⟩, es', ks', gk', gv', gc', ck', cv', cc', em, k1, k2, hC⟩ := cut2_of (F := tb :: F) hm2 HI1.out.node HI1.out.ok HK.out hples HK1.out HE2.out HE3.out HE4.out HO1.out HFUL.out (fun x hx => HI1.out.rlt x (by
                rcases List.mem_cons.1 hx with rfl | hx
                · simp
                · exact List.mem_cons_of_mem _ (List.mem_append_left _ hx))) (by
                refine (List.Perm.nodup_iff ?_).1 HI1.out.nodup
                rw [List.perm_iff_count]
                intro a
                simp only [List.count_append, List.count_cons]
                omega) hP
            rw [← HPP.out] at hC
            have hfin := Lib.hid (HI1.out.cut hroom hat hC)
            clear hP hC
            go_wp2
            go_roundg (2 * (h' + 1))
            case measure =>
              rcases HR.out with ⟨_, h1⟩ | ⟨_, h1 | ⟨x, h1, h2⟩⟩
              · omega
              · rw [hat] at h1; cases h1
              · rw [HPP.out, HK.out] at h1
                cases h1
                have := HE2.out; have := HFUL.out; omega
            case rel => exact ⟨_, _, _, _, _, _, _, _, _, _, _, _, _, _, _, _, _, rfl, hfin.out.1, hfin.out.2⟩
          · have hf : ((ek.length : Int) == 2 * (m : Int) - 1) = false := by simp; omega
            have HFUL := Lib.hid hful; clear hful
            go_wp2_with (first | (go_at_call 34; refine (leaf_ok HI.out.node).mono ?_; rintro e w' ⟨rfl, rfl⟩))
            refine region_calm [.p 0, .p 1, .p 2, .l 3, .p 4, .p 5, .l 6, .p 7, .p 8, .l 9, .p 10, .p 11, .p 12, .p 13, .l 14, .h 15 true, .p 16, .p 17] f_mixed (by kernel_rfl) (by kernel_rfl) ?_
            repeat (first | (refine plan_p rfl (fun K hK => ?_); go_simp; refine hK _ ?_; clear hK K) | (refine plan_l rfl (fun K hK => ?_); go_simp; refine hK _ ?_; clear hK K))
            refine plan_ct rfl rfl (fun K _ hK => ?_)
            go_wp2_with fail
            refine (most_ok m hm64 wr.drew).mono ?_
            rintro e W1 ⟨rfl, hE1⟩
            go_wp2
            refine hK _ _ (hE1) ?_; clear hK K
            repeat (first | (refine plan_p rfl (fun K hK => ?_); go_simp; refine hK _ ?_; clear hK K) | (refine plan_l rfl (fun K hK => ?_); go_simp; refine hK _ ?_; clear hK K))
            refine plan_done ?_
            have HEX := Lib.hid ((Ext.refl wr).drew.trans hE1)
            have HI1 := Lib.hid (HI.out.ext HEX.out)
            clear hE1 t0 t1 t2 n0 n1 n2 hci k0 k1 k2
            have HK1 := Lib.hid (HE1.out.congr fun y hy => Below.block HEX.out y (HE1.out.lt y hy))
            have HO1 := Lib.hid (HE5.out.congr fun x hx b hb => Below.block HEX.out b (HE5.out.lt b (List.mem_flatMap.2 ⟨x, hx, hb⟩)))
            obtain ⟨n0, n1, n2⟩ := blk3 HI1.out.node.blk
            have hsc := HI1.out.node.kids
            rw [HG.out] at hsc
            have hci := hsc.cell (sP_get (show (ks.map Kid.b)[p]? = some k.b by rw [List.getElem?_map, HK.out]; rfl))
            rw [HKN.out] at n2
            clear hsc
            go_wp2
            go_roundg (2 * h' + 1)
            case measure =>
              rcases HR.out with ⟨_, h1⟩ | ⟨h1, _⟩
              · omega
              · omega
            case rel =>
              have hfin := HI1.out.down (k := k) hat (by rw [HPP.out]; exact HK.out) (by have := HE2.out; have := HFUL.out; have := HKM.out.2.2; omega) HK1.out HE2.out HE3.out HE4.out HO1.out
              exact ⟨_, _, _, _, _, _, _, _, _, _, _, _, _, _, _, _, _, rfl, hfin.1, hfin.2⟩
      · obtain ⟨v0, hv0, -⟩ := at_true hat
        rw [HPP.out] at hv0
        have hpl : p < es.length := (List.getElem?_eq_some_iff.1 hv0).1
        obtain ⟨gvb, hgvb⟩ := HI.out.node.vals.some_of_pos (by omega)
        have hsv := HI.out.node.vals
        rw [hgvb] at hsv
        have hc := hsv.cell (sV_get hv0)
        have hz := hsv.frozen p
        have hri := fun U => run_index_slv (P := Try.prog) ei_int64 (cap := cv) hgvb (j := p) (n := es.length) hpl U
        have HV0 := Lib.hid hv0; have HG := Lib.hid hgvb
        clear hv0 hgvb hsv
        go_wp2
        go_ret
        rw [← HPP.out]
        exact HI.out.here rfl hat HG.out
end Go.Proofs.Ytkejjahlglldlaa
