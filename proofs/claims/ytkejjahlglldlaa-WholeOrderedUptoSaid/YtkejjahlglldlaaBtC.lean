/- btree.copied: walked. -/
import Derived.Test.YtkejjahlglldlaaBt8
namespace Go.Proofs.Ytkejjahlglldlaa
open Go.RowKit Go.Lib

def CopyPost (m h : Nat) (k : Kid) (w : World) (e : Ending) (w' : World) : Prop :=
  ∃ k' : Kid, e = .returned (.pointer (some ⟨k'.b, 0, none⟩)) ∧ Rep w' m h k' ∧ k'.n = k.n ∧ k'.L = k.L ∧ (∀ x ∈ k'.bs, w.heap.size ≤ x) ∧ Ext w w'

/-- The copy under way: so many kids are copied. -/
structure CI (w : World) (m h ob : Nat) (es : List Ent) (ks : List Kid) (gk gv : Option Nat) (ck cv : Nat) (wr : World) (i : Nat) (gc : Option Nat) (cc : Nat) (done : List Kid) : Prop where
  len : done.length = i
  blk : wr.heap[ob]? = some (.cells #[slv gk es.length ck, slv gv es.length cv, slv gc i cc] 82 (0, 0))
  keys : Sl wr 9 1 gk es.length ck (sK es)
  vals : Sl wr 2 1 gv es.length cv (sV es)
  kids : Sl wr 78 1 gc i cc (sP (done.map Kid.b))
  copies : ∀ (j : Nat) (x y : Kid), done[j]? = some x → ks[j]? = some y → (∃ h', h = h' + 1 ∧ Rep wr m h' x) ∧ x.n = y.n ∧ x.L = y.L ∧ ∀ z ∈ x.bs, ob < z ∧ gc ≠ some z
  gk : ∀ b, gk = some b → b < ob ∧ w.heap.size ≤ b
  gv : ∀ b, gv = some b → b < ob ∧ w.heap.size ≤ b
  gc : ∀ b, gc = some b → ob < b
  ob : w.heap.size ≤ ob
  ext : Ext w wr

theorem CI.push {w wr w1 w2 : World} {m h ob i g' cc cc' : Nat} {es : List Ent} {ks : List Kid} {gk gv gc : Option Nat} {ck cv : Nat} {done : List Kid} {y x : Kid} (hC : CI w m (h + 1) ob es ks gk gv ck cv wr i gc cc done)
    (hy : ks[i]? = some y) (hx : Rep w1 m h x) (hn : x.n = y.n) (hL : x.L = y.L) (hf : ∀ z ∈ x.bs, wr.heap.size ≤ z) (hE : Ext wr w1)
    (hS : Sl w2 78 1 (some g') (i + 1) cc' (sP (done.map Kid.b) ++ [.pointer (some ⟨x.b, 0, none⟩)])) (hT : Touch (fun k => gc = some k) w1 w2) (hg : gc = some g' ∨ w1.heap.size ≤ g') :
    CI w m (h + 1) ob es ks gk gv ck cv (w2.setCell ⟨ob, 2, none⟩ (slv (some g') (i + 1) cc')) (i + 1) (some g') cc' (done ++ [x]) := by
  have hobl : ob < wr.heap.size := blk_lt hC.blk
  have hs1 := hE.size
  have hs2 := hT.size
  have hgo : g' ≠ ob := by
    rcases hg with h | h
    · have := hC.gc g' h; omega
    · omega
  have hgc0 : gc ≠ some ob := fun e => by have := hC.gc ob e; omega
  have hblk : w2.heap[ob]? = some (.cells #[slv gk es.length ck, slv gv es.length cv, slv gc i cc] 82 (0, 0)) := hT.old (Ext.block hE hC.blk) hgc0
  have two : ∀ z, ob < z → gc ≠ some z → z < w1.heap.size → (w2.setCell ⟨ob, 2, none⟩ (slv (some g') (i + 1) cc')).heap[z]? = w1.heap[z]? := fun z h1 h2 h3 => by
    rw [Below.heap_setCell _ _ _ _ (show z ≠ ob by omega)]
    exact hT.block z h3 h2
  refine ⟨by simp [hC.len], blk_set hblk 2 _, ?_, ?_, ?_, ?_, hC.gk, hC.gv, ?_, hC.ob, ?_⟩
  · exact ((hC.keys.ext hE).touch hT (fun b hb e => by have := hC.gk b hb; have := hC.gc b e; omega)).set_off _ _ (fun b hb => by have := (hC.gk b hb).1; show b ≠ ob; omega)
  · exact ((hC.vals.ext hE).touch hT (fun b hb e => by have := hC.gv b hb; have := hC.gc b e; omega)).set_off _ _ (fun b hb => by have := (hC.gv b hb).1; show b ≠ ob; omega)
  · have : sP ((done ++ [x]).map Kid.b) = sP (done.map Kid.b) ++ [.pointer (some ⟨x.b, 0, none⟩)] := by simp [sP, adr]
    rw [this]
    exact hS.set_off _ _ (fun b hb => by cases hb; exact hgo)
  · intro j x' y' hx' hy'
    rcases Nat.lt_or_ge j done.length with hj | hj
    · rw [List.getElem?_append_left hj] at hx'
      obtain ⟨⟨h', e, hr⟩, h1, h2, h3⟩ := hC.copies j x' y' hx' hy'
      cases e
      have hlt := hr.lt
      refine ⟨⟨h, rfl, (hr.ext hE).congr fun b hb => two b (h3 b hb).1 (h3 b hb).2 (by have := hlt b hb; omega)⟩, h1, h2, fun z hz => ⟨(h3 z hz).1, fun e => ?_⟩⟩
      cases e
      rcases hg with h | h
      · exact (h3 g' hz).2 h
      · have := hlt g' hz; omega
    · have hj0 : j = done.length := by
        have := (List.getElem?_eq_some_iff.1 hx').1
        simp at this; omega
      rw [hj0, List.getElem?_append_right (Nat.le_refl _), Nat.sub_self] at hx'
      cases hx'
      rw [hj0, hC.len, hy] at hy'
      cases hy'
      have hz1 : ∀ z ∈ x.bs, gc ≠ some z := fun z hz e => by
        subst e
        have := hC.kids.block_lt
        have := hf z hz
        omega
      refine ⟨⟨h, rfl, hx.congr fun b hb => two b (by have := hf b hb; omega) (hz1 b hb) (hx.lt b hb)⟩, hn, hL, fun z hz => ⟨by have := hf z hz; omega, fun e => ?_⟩⟩
      cases e
      rcases hg with h | h
      · exact hz1 g' hz h
      · have := hx.lt g' hz; omega
  · intro b hb
    cases hb
    rcases hg with h | h
    · exact hC.gc g' h
    · omega
  · have t := Touch.setCell ((hE.touch (fun k => gc = some k ∨ k = ob)).trans (hT.mono fun _ _ h => .inl h)) (p := ⟨ob, 2, none⟩) (fun _ => .inr rfl) (slv (some g') (i + 1) cc')
    refine Ext.trans' hC.ext (t.below hC.ext.size fun k hk => ?_)
    have := hC.ob
    rcases hk with hk | rfl
    · have := hC.gc k hk; omega
    · omega

theorem CI.finish {w wr : World} {m h ob cc : Nat} {es : List Ent} {ks : List Kid} {gk gv gc : Option Nat} {ck cv : Nat} {done : List Kid} {k : Kid} {e : Ending} (hC : CI w m h ob es ks gk gv ck cv wr ks.length gc cc done)
    (he : e = .returned (.pointer (some ⟨ob, 0, none⟩))) (hok : KidsOk w m h ks es.length) (hn : k.n = es.length) (hL : k.L = inter (ks.map Kid.L) es) : CopyPost m h k w e wr := by
  have hmap : done.map Kid.L = ks.map Kid.L := by
    refine List.ext_getElem (by simp [hC.len]) fun j h1 h2 => ?_
    simp only [List.length_map] at h1 h2
    have := hC.copies j _ _ (List.getElem?_eq_getElem h1) (List.getElem?_eq_getElem h2)
    simpa using this.2.2.1
  refine ⟨⟨ob, es.length, k.L, ownL ob gk gv gc ++ done.flatMap Kid.bs⟩, he, Rep.close (es := es) (ks := done) (gk := gk) (gv := gv) (gc := gc) (ck := ck) (cv := cv) (cc := cc) ?_ rfl (by rw [hmap]; exact hL) rfl ?_, hn.symm, rfl, ?_, hC.ext⟩
  · refine ⟨?_, hC.keys, hC.vals, ?_⟩
    · rw [List.length_map, hC.len]; exact hC.blk
    · rw [List.length_map, hC.len]; exact hC.kids
  · cases h with
    | zero =>
      have : ks = [] := hok
      have hl := hC.len
      rw [this] at hl
      exact List.eq_nil_of_length_eq_zero hl
    | succ h =>
      refine ⟨by rw [hC.len]; exact hok.1, fun x hx => ?_⟩
      obtain ⟨j, hj, rfl⟩ := List.getElem_of_mem hx
      have hj2 : j < ks.length := by rw [← hC.len]; exact hj
      obtain ⟨⟨h', e, hr⟩, h1, -, -⟩ := hC.copies j _ _ (List.getElem?_eq_getElem hj) (List.getElem?_eq_getElem hj2)
      cases e
      have := hok.2 _ (List.getElem_mem hj2)
      exact ⟨hr, by rw [h1]; exact this.2.1, by rw [h1]; exact this.2.2⟩
  · intro x hx
    have hob := hC.ob
    rcases List.mem_append.1 hx with hx | hx
    · simp only [ownL, List.mem_cons, List.mem_append, Option.mem_toList] at hx
      rcases hx with rfl | hx | hx | hx
      · exact hob
      · exact (hC.gk x hx).2
      · exact (hC.gv x hx).2
      · have := hC.gc x hx; omega
    · obtain ⟨q, hq, hx⟩ := List.mem_flatMap.1 hx
      obtain ⟨j, hj, rfl⟩ := List.getElem_of_mem hq
      have hj2 : j < ks.length := by rw [← hC.len]; exact hj
      have := (hC.copies j _ _ (List.getElem?_eq_getElem hj) (List.getElem?_eq_getElem hj2)).2.2.2 x hx
      omega

theorem adr_map (g : Option Nat) : (g.map fun b => (⟨b, 0, none⟩ : Addr)) = adr g := by cases g <;> rfl
theorem ClnS_sl {g : Option Nat} {n cap : Nat} {xs : List Value} {w : World} (h : Sl w 9 1 g n cap xs) (h1 : ∀ u ∈ xs, u.oneCell' = true) (hsz : n ≤ 1000000000) : Calls Try.prog 76 #[slv g n cap] w (ClnPS n xs w) := by
  have := ClnS g 0 n cap xs w (by have := h.len; omega) (fun b hb j u hu => by subst hb; rw [Nat.zero_add]; exact h.cell hu) (fun hn => by subst hn; exact h.2.1) h1 hsz
  rwa [adr_map] at this
theorem ClnI_sl {g : Option Nat} {n cap : Nat} {xs : List Value} {w : World} (h : Sl w 2 1 g n cap xs) (h1 : ∀ u ∈ xs, u.oneCell' = true) (hsz : n ≤ 1000000000) : Calls Try.prog 77 #[slv g n cap] w (ClnPI n xs w) := by
  have := ClnI g 0 n cap xs w (by have := h.len; omega) (fun b hb j u hu => by subst hb; rw [Nat.zero_add]; exact h.cell hu) (fun hn => by subst hn; exact h.2.1) h1 hsz
  rwa [adr_map] at this

set_option maxRecDepth 100000 in
set_option maxHeartbeats 16000000 in
theorem copied_step (m h : Nat) (hm64 : m ≤ 64) (ih : ∀ h', h = h' + 1 → ∀ (k : Kid) (w : World), Rep w m h' k → k.n + 1 ≤ 2 * m → Calls Try.prog 40 #[.pointer (some ⟨k.b, 0, none⟩)] w (CopyPost m h' k w))
    (k : Kid) (w : World) (hr : Rep w m h k) (hhi : k.n + 1 ≤ 2 * m) : Calls Try.prog 40 #[.pointer (some ⟨k.b, 0, none⟩)] w (CopyPost m h k w) := by
  obtain ⟨es, ks, gk0, gv0, gc0, ck0, cv0, cc0, h1, h2, h3, h4, h5⟩ := hr.open
  have HN := Lib.hid h1; have HNN := Lib.hid h2; have HL := Lib.hid h3; have HBS := Lib.hid h4; have HOK := Lib.hid h5; have IH := Lib.hid ih
  obtain ⟨n0, n1, n2⟩ := blk3 h1.blk
  have hes : es.length ≤ 127 := by omega
  have hkl : ks.length ≤ 128 := by
    cases h with
    | zero => have : ks = [] := h5; simp [this]
    | succ h => have := h5.1; omega
  obtain ⟨kn, hkn⟩ : ∃ kn, (ks.map Kid.b).length = kn := ⟨_, rfl⟩
  rw [hkn] at n2
  have HKN : Hid (kn = ks.length) := by rw [List.length_map] at hkn; exact hkn.symm
  have hknb : kn ≤ 128 := by have := HKN.out; omega
  clear h1 h2 h3 h4 h5 ih hr hkn hkl
  go_enter Try.func40, Try.ntmps40
  go_wp2
  refine region_calm [.p 0, .p 1, .p 2, .l 3, .p 5, .p 6, .p 7, .l 8, .h 4 true, .h 9 false, .p 10, .h 11 false, .p 12] f_mixed (by kernel_rfl) (by kernel_rfl) ?_
  repeat (first | (refine plan_p rfl (fun K hK => ?_); go_simp; refine hK _ ?_; clear hK K) | (refine plan_l rfl (fun K hK => ?_); go_simp; refine hK _ ?_; clear hK K))
  refine plan_ct rfl rfl (fun K _ hK => ?_)
  go_wp2_with fail
  refine (ClnS_sl (w := w.drew) (HN.out.keys.ext (Ext.refl w).drew) (sK_one es) (by omega)).mono ?_
  rintro e w1 ⟨gk, ck, rfl, hS1, hg1, hE1⟩
  go_wp2
  refine hK _ _ (hE1) ?_; clear hK K
  refine plan_c rfl rfl (fun K _ hK => ?_)
  go_wp2_with fail
  have hE01 : Ext w w1 := (Ext.refl w).drew.trans hE1
  refine (ClnI_sl (HN.out.vals.ext hE01) (sV_one es) (by omega)).mono ?_
  rintro e w2 ⟨gv, cv, rfl, hS2, hg2, hE2⟩
  go_wp2
  repeat (first | (refine plan_p rfl (fun K hK => ?_); go_simp; refine hK _ ?_; clear hK K) | (refine plan_l rfl (fun K hK => ?_); go_simp; refine hK _ ?_; clear hK K))
  refine plan_c rfl rfl (fun K _ hK => ?_)
  go_wp2
  repeat (first | (refine plan_p rfl (fun K hK => ?_); go_simp; refine hK _ ?_; clear hK K) | (refine plan_l rfl (fun K hK => ?_); go_simp; refine hK _ ?_; clear hK K))
  refine plan_done ?_
  obtain ⟨ob, hob⟩ : ∃ ob, w2.heap.size = ob := ⟨_, rfl⟩
  obtain ⟨W3, hW3⟩ : ∃ W3, w2.alloc (.cells #[slv gk es.length ck, slv gv es.length cv, .slice none 0 0] 82) = W3 := ⟨_, rfl⟩
  have hE03 : Ext w W3 := by rw [← hW3]; exact (hE01.trans hE2).alloc _
  have hCI : Hid (CI w m h ob es ks gk gv ck cv W3 0 none 0 []) := ⟨rfl, by rw [← hW3, ← hob]; exact blk_new _ _, by rw [← hW3]; exact (hS1.ext hE2).ext ((Ext.refl _).alloc _), by rw [← hW3]; exact hS2.ext ((Ext.refl _).alloc _), Sl.nil _ _ _, by simp,
    fun b hb => by have := hg1 b hb; subst hb; have := hS1.block_lt; have := hE2.size; exact ⟨by omega, by simpa using hg1 b rfl⟩, fun b hb => by have := hg2 b hb; subst hb; have := hS2.block_lt; have := hE01.size; exact ⟨by omega, by omega⟩, by simp, by rw [← hob]; exact (hE01.trans hE2).size, hE03⟩
  rw [hob, hW3]
  clear hW3 hob hS1 hS2 hg1 hg2 hE1 hE2 hE01 n0 n1 n2
  have HE3 := Lib.hid hE03; clear hE03
  have HN3 := Lib.hid (HN.out.congr fun y hy => Below.block HE3.out y (HN.out.lt y hy))
  obtain ⟨n0, n1, n2⟩ := blk3 HN3.out.blk
  have HKN2 : Hid ((ks.map Kid.b).length = kn) := by rw [List.length_map]; exact HKN.out.symm
  rw [HKN2.out] at n2
  go_wp2
  go_loopg [23] kn (fun r v23 wr => ∃ (i : Nat) (gc : Option Nat) (cc : Nat) (done : List Kid), i + r = kn ∧ v23 = .int .i64 (i : Int) ∧ CI w m h ob es ks gk gv ck cv wr i gc cc done)
  case atStart => exact ⟨0, none, 0, [], by omega, rfl, hCI.out⟩
  case round =>
    obtain ⟨i, gc, cc, done, hir, rfl, hC⟩ := hrel
    have HC := Lib.hid hC; clear hC
    have HIR := Lib.hid hir; clear hir
    clear n0 n1 n2
    by_cases hlt : i < kn
    · obtain ⟨y, hy⟩ : ∃ y, ks[i]? = some y := ⟨ks[i]'(by have := HKN.out; omega), List.getElem?_eq_getElem _⟩
      obtain ⟨h', hh'⟩ : ∃ h', h = h' + 1 := by
        cases h with
        | zero => have : ks = [] := HOK.out; rw [this] at hy; simp at hy
        | succ h' => exact ⟨h', rfl⟩
      subst hh'
      have hym := HOK.out.2 y (List.mem_of_getElem? hy)
      obtain ⟨gcb, hgcb⟩ := HN.out.kids.some_of_pos (by rw [List.length_map]; have := HKN.out; omega)
      have hsc := HN.out.kids.ext HC.out.ext
      rw [hgcb] at hsc
      have hci := hsc.cell (sP_get (show (ks.map Kid.b)[i]? = some y.b by rw [List.getElem?_map, hy]; rfl))
      have hri := fun U => run_index_slv (P := Try.prog) ei_node (cap := cc0) hgcb (j := i) (n := kn) hlt U
      obtain ⟨o0, o1, o2⟩ := blk3 HC.out.blk
      have HY := Lib.hid hy; have HYM := Lib.hid hym; have HG := Lib.hid hgcb
      clear hy hym hgcb hsc
      go_wp2
      refine region_calm [.p 0, .p 1, .p 2, .p 3, .l 4, .p 5, .h 6 true, .h 7 true, .h 8 false, .p 9, .p 10, .h 11 false] f_mixed (by kernel_rfl) (by kernel_rfl) ?_
      repeat (first | (refine plan_p rfl (fun K hK => ?_); go_simp; refine hK _ ?_; clear hK K) | (refine plan_l rfl (fun K hK => ?_); go_simp; refine hK _ ?_; clear hK K))
      refine plan_ct rfl rfl (fun K _ hK => ?_)
      go_wp2_with fail
      refine (IH.out h' rfl y wr.drew ((HYM.out.1.ext HC.out.ext).ext (Ext.refl wr).drew) HYM.out.2.2).mono ?_
      rintro e w4 ⟨x, rfl, hx, hxn, hxL, hxf, hE4⟩
      go_wp2
      refine hK _ _ (hE4) ?_; clear hK K
      refine plan_ct rfl rfl (fun K _ hK => ?_)
      go_wp2
      refine hK _ _ (((Ext.refl w4).alloc _)) ?_; clear hK K
      refine plan_c rfl rfl (fun K _ hK => ?_)
      have hE5 : Ext wr (w4.alloc (.cells #[.pointer (some ⟨x.b, 0, none⟩)] 78)) := ((Ext.refl wr).drew.trans hE4).alloc _
      refine app_lit ei_node rfl (.tmp 31) (.tmp 34) rfl (g := gc) (n := i) (cap := cc) (by rfl) (HC.out.kids.ext hE5) (by rfl) (by rfl) (blk_new w4 _) (by intro u hu; simp at hu; subst hu; rfl) (by omega) (by omega) ?_
      intro g' cap' w6 hS6 hT6 hat6
      have hgc0 : gc ≠ some ob := fun e => by have := HC.out.gc ob e; omega
      have hob6 := hT6.old (Ext.block hE5 HC.out.blk) hgc0
      have hfin := Lib.hid (HC.out.push (x := x) HY.out (hx.ext ((Ext.refl w4).alloc _)) hxn hxL (fun z hz => by have := hxf z hz; simpa using this) hE5 hS6 hT6 (hat6.imp id (fun e => by omega)))
      clear o0 o1 o2 hci
      obtain ⟨o0, o1, o2⟩ := blk3 hob6
      have hz := blk_frozen hob6 2
      clear hS6 hT6 hat6 hE5 hE4 hx hxn hxL hxf hob6 hgc0
      go_wp2
      repeat (first | (refine plan_p rfl (fun K hK => ?_); go_simp; refine hK _ ?_; clear hK K) | (refine plan_l rfl (fun K hK => ?_); go_simp; refine hK _ ?_; clear hK K))
      refine plan_c rfl rfl (fun K _ hK => ?_)
      go_wp2
      refine plan_done ?_
      go_wp2
      go_roundg (gk - 1)
      case measure => have := HIR.out; omega
      case rel => exact ⟨i + 1, some g', cap', done ++ [x], by have := HIR.out; omega, by go_num, hfin.out⟩
    · go_wp2
      go_ret
      have hik : i = ks.length := by have := HIR.out; have := HKN.out; omega
      have hC := HC.out
      rw [hik] at hC
      exact hC.finish rfl HOK.out HNN.out HL.out
theorem copied_ok (m : Nat) (hm64 : m ≤ 64) : ∀ (h : Nat) (k : Kid) (w : World), Rep w m h k → k.n + 1 ≤ 2 * m → Calls Try.prog 40 #[.pointer (some ⟨k.b, 0, none⟩)] w (CopyPost m h k w)
  | 0, k, w, hr, hk => copied_step m 0 hm64 (fun h' e => by cases e) k w hr hk
  | h + 1, k, w, hr, hk => copied_step m (h + 1) hm64 (fun h' e k w hr hk => by cases e; exact copied_ok m hm64 h k w hr hk) k w hr hk
end Go.Proofs.Ytkejjahlglldlaa
