/- ritree.Add, Cut: walked. -/
import Derived.Test.YtkejjahlglldlaaML
import Derived.Test.YtkejjahlglldlaaMG
namespace Go.Proofs.Ytkejjahlglldlaa
open Go.RowKit Go.Lib

def RiPost (t : Nat) (rs' : List Row) (bs : List Nat) (w : World) (e : Ending) (w' : World) : Prop :=
  e = .returned (.int .i64 0) ∧ ∃ bs', RiOk w' t rs' bs' ∧ (∀ x ∈ bs', x ∈ bs ∨ w.heap.size ≤ x) ∧ Touch (fun k => k ∈ bs) w w'

set_option maxRecDepth 100000 in
set_option maxHeartbeats 4000000 in
theorem RiAdd_ok (t : Nat) (id : Int) (F T : Nat) (rs : List Row) (bs : List Nat) (w : World) (h : RiOk w t rs bs) (hr : okR (id, ((F : Int), (T : Int)))) (hnew : ∀ r ∈ rs, r.1 ≠ id) (hlen : rs.length ≤ 1000000000) :
    Calls Try.prog 16 #[.pointer (some ⟨t, 0, none⟩), .int .i64 id, perV ((F : Int), (T : Int))] w (RiPost t (rs ++ [(id, ((F : Int), (T : Int)))]) bs w) := by
  obtain ⟨lo, up, mb, L, U, bl, bu, h1, h2, h3, h4, h5, h6, h7⟩ := h.ex
  have HB := Lib.hid h1; have HL := Lib.hid h2; have HU := Lib.hid h3; have HM := Lib.hid h4; have HHL := Lib.hid h5; have HHU := Lib.hid h6; have HBS := Lib.hid h7; have HR := Lib.hid hr; have HNEW := Lib.hid hnew; have HH := Lib.hid h
  have hlk : ∀ w', Ext w w' → (Instr.lookup 111 (.map (some mb)) (.int .i64 id) true).run Try.prog w' = .ok (.tuple #[perV (0, 0), .bool false]) w' :=
    fun w' he => by rw [map_look per_map per_key per_zero (h4.ext he) id, look_none 0 hnew]; rfl
  have HLK := Lib.hid hlk
  clear hlk h h1 h2 h3 h4 h5 h6 h7 hr hnew
  go_enter Try.func16, Try.ntmps16
  go_wp2_with fail
  refine (Fork_yes F T _ HR.out.1).mono ?_
  rintro e w1 ⟨rfl, hE1⟩
  have HE1 : Hid (Ext w w1) := Lib.hid (((Ext.refl w).alloc _).trans hE1)
  have HP := Lib.hid (Ext.block hE1 (blk_new w (.cells #[.int .i64 (F : Int), .int .i64 (T : Int)] 45)))
  clear hE1
  generalize hpb : w.heap.size = pb at *
  have HPB := Lib.hid hpb; clear hpb
  have hl1 := HLK.out w1 HE1.out
  obtain ⟨c0, c1, c2⟩ := blk3 (Ext.block HE1.out HB.out)
  go_wp2
  have HE2 : Hid (Ext w (w1.alloc (.cells #[.int .i64 0, .int .i64 0] 45))) := Lib.hid (HE1.out.alloc _)
  replace HP := Lib.hid (blk_alloc (o' := .cells #[.int .i64 0, .int .i64 0] 45) HP.out)
  clear hl1 c0 c1 c2 HE1 HLK
  generalize w1.alloc (.cells #[.int .i64 0, .int .i64 0] 45) = W2 at *
  obtain ⟨W3, hmu, hM3, hT3⟩ := map_put (w := W2.drew) per_map per_key (HM.out.ext HE2.out.drew) id (perV ((F : Int), (T : Int))) (look_none 0 HNEW.out)
  have HM3 : Hid (MapI W3 mb (rowsM (rs ++ [(id, ((F : Int), (T : Int)))]))) := Lib.hid (by rw [rowsM_append]; exact hM3)
  have HT3 : Hid (Touch (fun k => k = mb) W2 W3) := Lib.hid (((Ext.refl W2).drew.touch _).trans' hT3 (fun _ _ e => e))
  clear hM3 hT3
  obtain ⟨c0, c1, c2⟩ := blk3 (Ext.block HE2.out HB.out)
  have p0 := blk_cell HP.out (i := 0) rfl
  have p1 := blk_cell HP.out (i := 1) rfl
  refine region_calm [.p 0, .p 1, .p 2, .l 3, .p 4, .l 5, .h 6 false] f_mixed (by kernel_rfl) (by kernel_rfl) ?_
  repeat (first | (refine plan_p rfl (fun K hK => ?_); go_simp; refine hK _ ?_; clear hK K) | (refine plan_l rfl (fun K hK => ?_); go_simp; refine hK _ ?_; clear hK K))
  refine plan_c rfl rfl (fun K _ hK => ?_)
  go_wp2
  refine plan_done ?_
  clear hmu c0 c1 c2 p0 p1
  have hnd := HH.out.nodup
  have hlt := HH.out.lt
  rw [HBS.out] at hnd hlt
  have htm : t ≠ mb := fun e => (List.nodup_cons.1 hnd).1 (by simp [e])
  have hmbl : mb ∉ bl := fun e => (List.nodup_cons.1 (List.nodup_cons.1 hnd).2).1 (List.mem_append_left _ e)
  have hmbu : mb ∉ bu := fun e => (List.nodup_cons.1 (List.nodup_cons.1 hnd).2).1 (List.mem_append_right _ e)
  have hpm : pb ≠ mb := by have := hlt mb (by simp); have := HPB.out; omega
  have htl : t ∉ bl := fun e => (List.nodup_cons.1 hnd).1 (by simp [e])
  have hpl : pb ∉ bl := fun e => by have := hlt pb (by simp [e]); have := HPB.out; omega
  have hdj : ∀ x ∈ bu, x ∉ bl := fun x hx e => (List.nodup_append.1 (List.nodup_cons.1 (List.nodup_cons.1 hnd).2).2).2.2 x e x hx rfl
  have HND := Lib.hid hnd; have HLT := Lib.hid hlt; have HTM := Lib.hid htm; have HTL := Lib.hid htl; have HPL := Lib.hid hpl; have HDJ := Lib.hid hdj
  have HB3 := Lib.hid (HT3.out.old (Ext.block HE2.out HB.out) htm)
  have HP3 := Lib.hid (HT3.out.old HP.out hpm)
  have HL3 := Lib.hid ((HL.out.ext HE2.out).touch HT3.out (fun x hx e => hmbl (e ▸ hx)))
  have HU3 := Lib.hid ((HU.out.ext HE2.out).touch HT3.out (fun x hx e => hmbu (e ▸ hx)))
  clear hnd hlt htm hmbl hmbu hpm htl hpl hdj HL HU HP HM
  have hf1 : forkN F T < 1099511627776 := by have := fk_lt HR.out.1; simpa [fk] using this
  have hF1 : F < 9223372036854775808 := by have := HR.out.1.2.1; have := HR.out.1.2.2; simp only at *; omega
  have hT1 : T < 9223372036854775808 := by have := HR.out.1.2.2; simp only at *; omega
  have hid := HR.out.2
  simp only at hid
  obtain ⟨f, hf⟩ : ∃ f, forkN F T = f := ⟨_, rfl⟩
  have HF := Lib.hid hf
  rw [hf] at hf1 ⊢
  clear hf
  go_wp2
  obtain ⟨c0, c1, c2⟩ := blk3 HB3.out
  have p0 := blk_cell HP3.out (i := 0) rfl
  refine region_calm [.p 0, .p 1, .p 2, .l 3, .p 4, .p 5, .l 6, .p 7, .p 9, .h 8 true, .h 10 false] f_mixed (by kernel_rfl) (by kernel_rfl) ?_
  repeat (first | (refine plan_p rfl (fun K hK => ?_); go_simp; refine hK _ ?_; clear hK K) | (refine plan_l rfl (fun K hK => ?_); go_simp; refine hK _ ?_; clear hK K))
  refine plan_ct rfl rfl (fun K _ hK => ?_)
  go_wp2_with fail
  refine (key_ok f F id _ (by omega) hF1 ⟨hid.1, hid.2⟩).mono ?_
  rintro e W4 ⟨rfl, hE4⟩
  go_wp2
  refine hK _ _ (hE4) ?_; clear hK K
  have HE4 : Hid (Ext W3 W4) := Lib.hid ((Ext.refl W3).drew.trans hE4)
  clear hE4 c0 c1 c2 p0
  refine plan_c rfl rfl (fun K _ hK => ?_)
  go_wp2_with fail
  refine (BtPut_ok lo 8 L bl (kb3 f F (idN id)) id W4 (HL3.out.ext HE4.out) (holds_sz HHL.out hlen)).mono ?_
  rintro e W5 ⟨rfl, bl', hT5, hs5, hto5⟩
  have HT5 := Lib.hid hT5; have HS5 := Lib.hid hs5; have HTO5 : Hid (Touch (fun k => k ∈ bl) W3 W5) := Lib.hid ((HE4.out.touch _).trans' hto5 (fun _ _ e => e))
  clear hT5 hs5 hto5
  go_wp2
  refine plan_done ?_
  go_wp2
  have HB5 := Lib.hid (HTO5.out.old HB3.out HTL.out)
  have HP5 := Lib.hid (HTO5.out.old HP3.out HPL.out)
  have HU5 := Lib.hid (HU3.out.touch HTO5.out HDJ.out)
  obtain ⟨c0, c1, c2⟩ := blk3 HB5.out
  have p1 := blk_cell HP5.out (i := 1) rfl
  refine region_calm [.p 0, .p 1, .p 2, .l 3, .p 4, .p 5, .l 6, .p 7, .p 9, .h 8 true, .h 10 false] f_mixed (by kernel_rfl) (by kernel_rfl) ?_
  repeat (first | (refine plan_p rfl (fun K hK => ?_); go_simp; refine hK _ ?_; clear hK K) | (refine plan_l rfl (fun K hK => ?_); go_simp; refine hK _ ?_; clear hK K))
  refine plan_ct rfl rfl (fun K _ hK => ?_)
  go_wp2_with fail
  refine (key_ok f T id _ (by omega) hT1 ⟨hid.1, hid.2⟩).mono ?_
  rintro e W6 ⟨rfl, hE6⟩
  go_wp2
  refine hK _ _ (hE6) ?_; clear hK K
  have HE6 : Hid (Ext W5 W6) := Lib.hid ((Ext.refl W5).drew.trans hE6)
  clear hE6 c0 c1 c2 p1
  refine plan_c rfl rfl (fun K _ hK => ?_)
  go_wp2_with fail
  refine (BtPut_ok up 8 U bu (kb3 f T (idN id)) id W6 (HU5.out.ext HE6.out) (holds_sz HHU.out hlen)).mono ?_
  rintro e W7 ⟨rfl, bu', hT7, hs7, hto7⟩
  have HT7 := Lib.hid hT7; have HS7 := Lib.hid hs7; have HTO7 : Hid (Touch (fun k => k ∈ bu) W5 W7) := Lib.hid ((HE6.out.touch _).trans' hto7 (fun _ _ e => e))
  clear hT7 hs7 hto7
  go_wp2
  refine plan_done ?_
  go_wp2
  go_ret
  have hL := (HL3.out).srt
  have hU := (HU3.out).srt
  have eL : kL (id, ((F : Int), (T : Int))) = (kb3 f F (idN id), id) := by simp [kL, fk, HF.out]
  have eU : kU (id, ((F : Int), (T : Int))) = (kb3 f T (idN id), id) := by simp [kU, fk, HF.out]
  have q1 := HHL.out.put hL (r := (id, ((F : Int), (T : Int)))) (fun s hs e => HNEW.out s hs (kL_inj (HH.out.ok s hs) HR.out e))
  have q2 := HHU.out.put hU (r := (id, ((F : Int), (T : Int)))) (fun s hs e => HNEW.out s hs (kU_inj (HH.out.ok s hs) HR.out e))
  rw [eL] at q1
  rw [eU] at q2
  have z4 := HE4.out.size
  have z6 := HE6.out.size
  obtain ⟨r1, r2, r3⟩ := RiOk.turn (W := W2) HND.out (fun x hx => Nat.lt_of_lt_of_le (HLT.out x hx) HE2.out.size) (Ext.block HE2.out HB.out) HT3.out HM3.out HTO5.out HT5.out (fun x hx => (HS5.out x hx).imp (fun e => e) (fun e => Nat.le_trans z4 e)) HTO7.out HT7.out (fun x hx => (HS7.out x hx).imp (fun e => e) (fun e => Nat.le_trans z6 e)) q1.2 q2.2
    (by
      rw [List.map_append, List.nodup_append]
      refine ⟨HH.out.ids, by simp, fun a ha b hb e => ?_⟩
      simp at hb
      obtain ⟨s, hs, rfl⟩ := List.mem_map.1 ha
      exact HNEW.out s hs (by rw [e, hb])) (fun r hr => by
      rcases List.mem_append.1 hr with hr | hr
      · exact HH.out.ok r hr
      · simp at hr; rw [hr]; exact HR.out)
  rw [← HBS.out] at r2 r3
  exact ⟨rfl, _, r1, fun x hx => (r2 x hx).imp (fun e => e) (fun e => Nat.le_trans HE2.out.size e), (HE2.out.touch _).trans' r3 (fun _ _ e => e)⟩

set_option maxRecDepth 100000 in
set_option maxHeartbeats 4000000 in
theorem RiCut_no (t : Nat) (id : Int) (rs : List Row) (bs : List Nat) (w : World) (h : RiOk w t rs bs) (hno : ∀ r ∈ rs, r.1 ≠ id) :
    Calls Try.prog 17 #[.pointer (some ⟨t, 0, none⟩), .int .i64 id] w (fun e w' => e = .returned (.int .i64 4) ∧ Ext w w') := by
  obtain ⟨lo, up, mb, L, U, bl, bu, h1, h2, h3, h4, h5, h6, h7⟩ := h.ex
  have hlk : (Instr.lookup 111 (.map (some mb)) (.int .i64 id) true).run Try.prog w = .ok (.tuple #[perV (0, 0), .bool false]) w := by
    rw [map_look per_map per_key per_zero h4 id, look_none 0 hno]; rfl
  obtain ⟨c0, c1, c2⟩ := blk3 h1
  clear h h1 h2 h3 h4 h5 h6 h7 hno
  go_enter Try.func17, Try.ntmps17
  go_wp2
  go_ret
  exact ⟨rfl, (Ext.refl w).alloc _⟩

set_option maxRecDepth 100000 in
set_option maxHeartbeats 4000000 in
theorem RiCut_ok (t : Nat) (id : Int) (F T : Nat) (rs : List Row) (bs : List Nat) (w : World) (h : RiOk w t rs bs) {j : Nat} (hj : rs[j]? = some (id, ((F : Int), (T : Int)))) (hlk0 : lookI id (rowsM rs) 0 = some (j, perV ((F : Int), (T : Int)))) (hlen : rs.length ≤ 1000000000) :
    Calls Try.prog 17 #[.pointer (some ⟨t, 0, none⟩), .int .i64 id] w (RiPost t (rs.eraseIdx j) bs w) := by
  obtain ⟨lo, up, mb, L, U, bl, bu, h1, h2, h3, h4, h5, h6, h7⟩ := h.ex
  have hr := h.ok _ (List.mem_of_getElem? hj)
  have HB := Lib.hid h1; have HL := Lib.hid h2; have HU := Lib.hid h3; have HM := Lib.hid h4; have HHL := Lib.hid h5; have HHU := Lib.hid h6; have HBS := Lib.hid h7; have HR := Lib.hid hr; have HJ := Lib.hid hj; have HH := Lib.hid h; have HK0 := Lib.hid hlk0
  have hlk : (Instr.lookup 111 (.map (some mb)) (.int .i64 id) true).run Try.prog w = .ok (.tuple #[perV ((F : Int), (T : Int)), .bool true]) w := by
    rw [map_look per_map per_key per_zero h4 id, hlk0]; rfl
  obtain ⟨c0, c1, c2⟩ := blk3 h1
  clear h h1 h2 h3 h4 h5 h6 h7 hr hj hlk0
  go_enter Try.func17, Try.ntmps17
  go_wp2_with fail
  refine (Fork_yes F T _ HR.out.1).mono ?_
  rintro e W2 ⟨rfl, hE2⟩
  have HE2 : Hid (Ext w W2) := Lib.hid (((Ext.refl w).alloc _).trans hE2)
  have HP := Lib.hid (Ext.block hE2 (blk_new w (.cells #[.int .i64 (F : Int), .int .i64 (T : Int)] 45)))
  clear hE2 c0 c1 c2 hlk
  generalize hpb : w.heap.size = pb at *
  have HPB := Lib.hid hpb; clear hpb
  obtain ⟨W3, hdel, hM3, hT3⟩ := map_del (w := W2) per_map per_key (HM.out.ext HE2.out) id HK0.out (K' := 2) (ty := 0)
  rw [rowsM_erase] at hM3
  have HM3 := Lib.hid hM3
  have HT3 := Lib.hid hT3
  clear hM3 hT3
  obtain ⟨c0, c1, c2⟩ := blk3 (Ext.block HE2.out HB.out)
  have hnd := HH.out.nodup
  have hlt := HH.out.lt
  rw [HBS.out] at hnd hlt
  have htm : t ≠ mb := fun e => (List.nodup_cons.1 hnd).1 (by simp [e])
  have hmbl : mb ∉ bl := fun e => (List.nodup_cons.1 (List.nodup_cons.1 hnd).2).1 (List.mem_append_left _ e)
  have hmbu : mb ∉ bu := fun e => (List.nodup_cons.1 (List.nodup_cons.1 hnd).2).1 (List.mem_append_right _ e)
  have hpm : pb ≠ mb := by have := hlt mb (by simp); have := HPB.out; omega
  have htl : t ∉ bl := fun e => (List.nodup_cons.1 hnd).1 (by simp [e])
  have hpl : pb ∉ bl := fun e => by have := hlt pb (by simp [e]); have := HPB.out; omega
  have hdj : ∀ x ∈ bu, x ∉ bl := fun x hx e => (List.nodup_append.1 (List.nodup_cons.1 (List.nodup_cons.1 hnd).2).2).2.2 x e x hx rfl
  have HND := Lib.hid hnd; have HLT := Lib.hid hlt; have HTL := Lib.hid htl; have HPL := Lib.hid hpl; have HDJ := Lib.hid hdj
  have HB3 := Lib.hid (HT3.out.old (Ext.block HE2.out HB.out) htm)
  have HP3 := Lib.hid (HT3.out.old HP.out hpm)
  have HL3 := Lib.hid ((HL.out.ext HE2.out).touch HT3.out (fun x hx e => hmbl (e ▸ hx)))
  have HU3 := Lib.hid ((HU.out.ext HE2.out).touch HT3.out (fun x hx e => hmbu (e ▸ hx)))
  clear hnd hlt htm hmbl hmbu hpm htl hpl hdj HL HU HP HM
  have hf1 : forkN F T < 1099511627776 := by have := fk_lt HR.out.1; simpa [fk] using this
  have hF1 : F < 9223372036854775808 := by have := HR.out.1.2.1; have := HR.out.1.2.2; simp only at *; omega
  have hT1 : T < 9223372036854775808 := by have := HR.out.1.2.2; simp only at *; omega
  have hid := HR.out.2
  simp only at hid
  obtain ⟨f, hf⟩ : ∃ f, forkN F T = f := ⟨_, rfl⟩
  have HF := Lib.hid hf
  rw [hf] at hf1 ⊢
  clear hf
  go_wp2
  clear hdel c0 c1 c2
  have eL : kL (id, ((F : Int), (T : Int))) = (kb3 f F (idN id), id) := by simp [kL, fk, HF.out]
  have eU : kU (id, ((F : Int), (T : Int))) = (kb3 f T (idN id), id) := by simp [kU, fk, HF.out]
  have q1 := HHL.out.cut HL3.out.srt (fun r hr s hs e => kL_inj (HH.out.ok r hr) (HH.out.ok s hs) e) HH.out.ids HJ.out
  have q2 := HHU.out.cut HU3.out.srt (fun r hr s hs e => kU_inj (HH.out.ok r hr) (HH.out.ok s hs) e) HH.out.ids HJ.out
  rw [eL] at q1
  rw [eU] at q2
  have Q1 := Lib.hid q1; have Q2 := Lib.hid q2
  clear q1 q2 eL eU
  obtain ⟨c0, c1, c2⟩ := blk3 HB3.out
  have p0 := blk_cell HP3.out (i := 0) rfl
  refine region_calm [.p 0, .p 1, .p 2, .l 3, .p 4, .p 5, .l 6, .p 7, .h 8 true, .h 9 false] f_mixed (by kernel_rfl) (by kernel_rfl) ?_
  repeat (first | (refine plan_p rfl (fun K hK => ?_); go_simp; refine hK _ ?_; clear hK K) | (refine plan_l rfl (fun K hK => ?_); go_simp; refine hK _ ?_; clear hK K))
  refine plan_ct rfl rfl (fun K _ hK => ?_)
  go_wp2_with fail
  refine (key_ok f F id _ (by omega) hF1 ⟨hid.1, hid.2⟩).mono ?_
  rintro e W4 ⟨rfl, hE4⟩
  go_wp2
  refine hK _ _ (hE4) ?_; clear hK K
  have HE4 : Hid (Ext W3 W4) := Lib.hid ((Ext.refl W3).drew.trans hE4)
  clear hE4 c0 c1 c2 p0
  refine plan_c rfl rfl (fun K _ hK => ?_)
  go_wp2_with fail
  refine (BtCut_ok lo 8 L bl (kb3 f F (idN id)) W4 (HL3.out.ext HE4.out) Q1.out.1 (holds_sz HHL.out hlen)).mono ?_
  rintro e W5 ⟨rfl, bl', hT5, hs5, hto5⟩
  have HT5 := Lib.hid hT5; have HS5 := Lib.hid hs5; have HTO5 : Hid (Touch (fun k => k ∈ bl) W3 W5) := Lib.hid ((HE4.out.touch _).trans' hto5 (fun _ _ e => e))
  clear hT5 hs5 hto5
  go_wp2
  refine plan_done ?_
  go_wp2
  have HB5 := Lib.hid (HTO5.out.old HB3.out HTL.out)
  have HP5 := Lib.hid (HTO5.out.old HP3.out HPL.out)
  have HU5 := Lib.hid (HU3.out.touch HTO5.out HDJ.out)
  obtain ⟨c0, c1, c2⟩ := blk3 HB5.out
  have p1 := blk_cell HP5.out (i := 1) rfl
  refine region_calm [.p 0, .p 1, .p 2, .l 3, .p 4, .p 5, .l 6, .p 7, .h 8 true, .h 9 false] f_mixed (by kernel_rfl) (by kernel_rfl) ?_
  repeat (first | (refine plan_p rfl (fun K hK => ?_); go_simp; refine hK _ ?_; clear hK K) | (refine plan_l rfl (fun K hK => ?_); go_simp; refine hK _ ?_; clear hK K))
  refine plan_ct rfl rfl (fun K _ hK => ?_)
  go_wp2_with fail
  refine (key_ok f T id _ (by omega) hT1 ⟨hid.1, hid.2⟩).mono ?_
  rintro e W6 ⟨rfl, hE6⟩
  go_wp2
  refine hK _ _ (hE6) ?_; clear hK K
  have HE6 : Hid (Ext W5 W6) := Lib.hid ((Ext.refl W5).drew.trans hE6)
  clear hE6 c0 c1 c2 p1
  refine plan_c rfl rfl (fun K _ hK => ?_)
  go_wp2_with fail
  refine (BtCut_ok up 8 U bu (kb3 f T (idN id)) W6 (HU5.out.ext HE6.out) Q2.out.1 (holds_sz HHU.out hlen)).mono ?_
  rintro e W7 ⟨rfl, bu', hT7, hs7, hto7⟩
  have HT7 := Lib.hid hT7; have HS7 := Lib.hid hs7; have HTO7 : Hid (Touch (fun k => k ∈ bu) W5 W7) := Lib.hid ((HE6.out.touch _).trans' hto7 (fun _ _ e => e))
  clear hT7 hs7 hto7
  go_wp2
  refine plan_done ?_
  go_wp2
  go_ret
  have z4 := HE4.out.size
  have z6 := HE6.out.size
  obtain ⟨r1, r2, r3⟩ := RiOk.turn (W := W2) HND.out (fun x hx => Nat.lt_of_lt_of_le (HLT.out x hx) HE2.out.size) (Ext.block HE2.out HB.out) HT3.out HM3.out HTO5.out HT5.out (fun x hx => (HS5.out x hx).imp (fun e => e) (fun e => Nat.le_trans z4 e)) HTO7.out HT7.out (fun x hx => (HS7.out x hx).imp (fun e => e) (fun e => Nat.le_trans z6 e)) Q1.out.2 Q2.out.2
    (by
      have h8 := HH.out.ids
      rw [map_eraseIdx']
      exact h8.sublist (List.eraseIdx_sublist ..)) (fun r hr => HH.out.ok r (List.mem_of_mem_eraseIdx hr))
  rw [← HBS.out] at r2 r3
  exact ⟨rfl, _, r1, fun x hx => (r2 x hx).imp (fun e => e) (fun e => Nat.le_trans HE2.out.size e), (HE2.out.touch _).trans' r3 (fun _ _ e => e)⟩
end Go.Proofs.Ytkejjahlglldlaa
