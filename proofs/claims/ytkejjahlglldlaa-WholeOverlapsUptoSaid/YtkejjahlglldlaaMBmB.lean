/- btree.Get, where the key is there; btree.Cut: walked. -/
import Derived.Test.YtkejjahlglldlaaMBmA
namespace Go.Proofs.Ytkejjahlglldlaa
open Go.RowKit Go.Lib

set_option maxRecDepth 100000 in
set_option maxHeartbeats 4000000 in
theorem Get_ok (tb m : Nat) (L : List Ent) (bs : List Nat) (key : List UInt8) (w : World) (hT : TreeAt w tb m L bs) (hkey : hasK key L = true) :
    Calls Try.prog 90 #[.pointer (some ⟨tb, 0, none⟩), str key] w fun e w' => (∃ v : Int, e = .returned (.tuple #[.int .i64 v, .bool true])) ∧ Ext w w' := by
  have hm2 := hT.lo
  have hm64 := hT.hi
  have hsr := hT.srt
  obtain ⟨rb, H, n, bs', hB, hr, hlo, hhi, hbs⟩ := hT.ex
  obtain ⟨t0, t1, t2⟩ := blk3 hB
  have HI0 : Hid (Rep w m H ⟨rb, n, L, bs'⟩ ∧ n + 1 ≤ 2 * m ∧ hasK key L = true ∧ Srt L) := Lib.hid ⟨hr, hhi, hkey, hsr⟩
  clear hT hB hr hlo hhi hbs hkey hsr
  go_enter Try.func90, Try.ntmps90
  go_wp2
  clear t0 t1 t2
  go_loopg [6] H (fun k v6 wr => Ext w wr ∧ ∃ kd : Kid, v6 = .pointer (some ⟨kd.b, 0, none⟩) ∧ Rep wr m k kd ∧ kd.n + 1 ≤ 2 * m ∧ hasK key kd.L = true ∧ Srt kd.L)
  case atStart => exact ⟨Ext.refl _, _, rfl, HI0.out.1, HI0.out.2.1, HI0.out.2.2.1, HI0.out.2.2.2⟩
  case round =>
    obtain ⟨hE, kd, rfl, hr, hn, hh, hs⟩ := hrel
    have HE := Lib.hid hE
    obtain ⟨es, ks, sk, sv, sc, ck, cv, cc, hN, hne, hL, -, hok⟩ := hr.open
    have HN := Lib.hid hN
    rw [hL] at hh hs
    have hlen : es.length ≤ 127 := by omega
    have hpl := pos_le key es
    obtain ⟨n0, n1, n2⟩ := blk3 HN.out.blk
    have HOK := Lib.hid hok; have HH := Lib.hid hh; have HS := Lib.hid hs
    clear hE hN hr hL hh hs hn hne HI0 hok
    obtain ⟨p, hp⟩ : ∃ p, pos key es = p := ⟨_, rfl⟩
    go_wp2_with fail
    refine (find_ok HN.out key (by omega) HS.out.node).mono ?_
    rintro e w' ⟨rfl, rfl⟩
    rw [hp]; rw [hp] at hpl
    have HPP := Lib.hid hp; clear hp
    cases hat : at_ key es
    · have HAT := Lib.hid hat; clear hat
      have hks : ks ≠ [] := by
        intro hks
        have h1 : inter (ks.map Kid.L) es = es := by rw [hks]; simp [inter]
        have h2 := HH.out; have h3 := HS.out
        rw [h1] at h2 h3
        have := leaf_at h3 h2
        rw [HAT.out] at this; cases this
      obtain ⟨j', hj'⟩ : ∃ j', gk = j' + 1 := by
        cases gk with
        | zero => exact absurd HOK.out hks
        | succ j' => exact ⟨j', rfl⟩
      subst hj'
      have hkl : ks.length = es.length + 1 := HOK.out.1
      have hpk2 : decide (ks.map Kid.b = []) = false := decide_eq_false (by simpa using hks)
      obtain ⟨k, hk⟩ : ∃ k, ks[p]? = some k := ⟨ks[p]'(by omega), List.getElem?_eq_getElem _⟩
      have hkm := HOK.out.2 k (List.mem_of_getElem? hk)
      have HD : Hid (hasK key k.L = true ∧ Srt k.L) := by
        have hx : ∀ e ∈ es.take p, blt e.1 key := fun e he => pos_lt key es e (HPP.out ▸ he)
        have hy : ∀ e ∈ es.drop p, blt key e.1 := by
          have := pos_gt key HS.out.node (at_false HAT.out)
          rw [HPP.out] at this; exact this
        have hpm : ((ks.take p).map Kid.L).length = (es.take p).length := by simp; omega
        have hint : inter (ks.map Kid.L) es = inter ((ks.take p).map Kid.L ++ k.L :: (ks.drop (p + 1)).map Kid.L) (es.take p ++ es.drop p) := by
          rw [List.take_append_drop, ← List.map_cons, ← List.map_append, ← list_at hk]
        have h2 := HH.out; have h3 := HS.out
        rw [hint] at h2 h3
        rw [hasK_down hpm h3 hx hy] at h2
        rw [inter_mid' _ _ _ _ _ hpm] at h3
        exact Lib.hid ⟨h2, (srt_append.1 (srt_append.1 h3).2.1).1⟩
      obtain ⟨scb, HSC⟩ : ∃ b, Hid (sc = some b) := HN.out.kids.some_of_pos (by rw [List.length_map]; omega)
      have hci := HN.out.kid HSC.out (show (ks.map Kid.b)[p]? = some k.b by simp [hk])
      obtain ⟨kn, HKN⟩ : ∃ kn, Hid ((ks.map Kid.b).length = kn) := ⟨_, Lib.hid rfl⟩
      have hkn : p < kn := by rw [← HKN.out, List.length_map]; omega
      have hri := fun U => run_index_slv (P := Try.prog) ei_node (cap := cc) HSC.out (j := p) (n := kn) hkn U
      rw [HKN.out] at n2
      have HKM := Lib.hid hkm
      clear hks hkl hk hkm
      go_wp2_with (first | (go_at_call 34; refine (leaf_ok HN.out).mono ?_; rintro e w' ⟨rfl, rfl⟩; rw [hpk2]))
      go_roundg j'
      case measure => omega
      case rel => exact ⟨HE.out, k, rfl, HKM.out.1, HKM.out.2.2, HD.out.1, HD.out.2⟩
    · obtain ⟨v0, hv0, -⟩ := at_true hat
      rw [HPP.out] at hv0
      have hie : p < es.length := (List.getElem?_eq_some_iff.1 hv0).1
      have HV0 := Lib.hid hv0; clear hv0 hat
      obtain ⟨svb, HSV⟩ : ∃ b, Hid (sv = some b) := HN.out.vals.some_of_pos (by omega)
      have hsv := HN.out.vals
      rw [HSV.out] at hsv
      have hcv := hsv.cell (sV_get HV0.out)
      have hrv := fun U => run_index_slv (P := Try.prog) ei_int64 (cap := cv) HSV.out (j := p) (n := es.length) hie U
      clear hsv
      go_wp2
      go_ret2
      exact ⟨⟨_, rfl⟩, HE.out⟩

/-- What Cut leaves. -/
def CutP (tb m : Nat) (key : List UInt8) (L0 : List Ent) (bs0 : List Nat) (w0 : World) (e : Ending) (w' : World) : Prop :=
  e = .returned (.bool true) ∧ ∃ bs, TreeAt w' tb m (del key L0) bs ∧ (∀ x ∈ bs, x ∈ bs0 ∨ w0.heap.size ≤ x) ∧ Touch (fun k => k ∈ bs0) w0 w'

theorem CuI.start {w W : World} {tb m : Nat} {key : List UInt8} {L0 : List Ent} {bs0 bs' : List Nat} {rb H : Nat} {es : List Ent} {ks : List Kid} {gk gv gc : Option Nat} {ck cv cc : Nat} (hE : Ext w W) (hT : TreeAt w tb m L0 bs0)
    (hB : W.heap[tb]? = some (.cells #[.int .i64 (m : Int), .pointer (some ⟨rb, 0, none⟩), .int .i64 (L0.length : Int)] 84 (0, 0))) (hbs : bs0 = tb :: bs')
    (hN : NodeAt W rb es (ks.map Kid.b) gk gv gc ck cv cc) (hL : L0 = inter (ks.map Kid.L) es) (hb : bs' = ownL rb gk gv gc ++ ks.flatMap Kid.bs) (hok : KidsOk W m H ks es.length) (hhi : es.length + 1 ≤ 2 * m) (hkey : hasK key L0 = true) :
    CuI w tb m key L0 bs0 W rb H H rb 0 key [] [] [] es ks gk gv gc ck cv cc := by
  have hperm : (tb :: (ownL rb gk gv gc ++ ks.flatMap Kid.bs)).Perm (ownL rb gk gv gc ++ (tb :: ([] ++ ks.flatMap Kid.bs))) := by
    rw [List.perm_iff_count]
    intro a
    simp only [List.count_append, List.count_cons, List.count_nil]
    omega
  have hbs2 : bs0 = tb :: (ownL rb gk gv gc ++ ks.flatMap Kid.bs) := by rw [hbs, hb]
  refine ⟨hB, hN, hok, Hole.root _ _ _ _ _, Nat.zero_le _, hhi, hperm.nodup_iff.1 (hbs2 ▸ hT.nodup), by simp, fun x hx => .inl (by rw [hbs2]; exact hperm.symm.subset hx), ?_, ?_, ?_, hE.touch _, hT.lo, hT.hi⟩
  · rw [← hL]; simp
  · rw [← hL]; exact hkey
  · rw [← hL]; exact hT.srt

theorem cut_end {w W2 W3 : World} {tb m : Nat} {key : List UInt8} {L0 : List Ent} {bs0 Bs bs2 : List Nat} {r H n : Nat} (hT : TreeAt w tb m L0 bs0) (hnd : (tb :: Bs).Nodup) (hsub : ∀ x ∈ tb :: Bs, x ∈ bs0 ∨ w.heap.size ≤ x) (hto : Touch (fun k => k ∈ bs0) w W2)
    (htb : tb < w.heap.size) (hB3 : W3.heap[tb]? = some (.cells #[.int .i64 (m : Int), .pointer (some ⟨r, 0, none⟩), .int .i64 ((del key L0).length : Int)] 84 (0, 0))) (hT3 : Touch (fun k => k = tb) W2 W3)
    (hr : Rep W2 m H ⟨r, n, del key L0, bs2⟩) (hlo : (if H = 0 then 0 else 1) ≤ n) (hhi : n + 1 ≤ 2 * m) (hs : bs2.Sublist Bs) :
    ∃ bs, TreeAt W3 tb m (del key L0) bs ∧ (∀ x ∈ bs, x ∈ bs0 ∨ w.heap.size ≤ x) ∧ Touch (fun k => k ∈ bs0) w W3 := by
  obtain ⟨n1, n2⟩ := List.nodup_cons.1 hnd
  refine ⟨tb :: bs2, ⟨⟨r, H, n, bs2, hB3, hr.touch hT3 fun b hb e => n1 (hs.subset (e ▸ hb)), hlo, hhi, rfl⟩, List.nodup_cons.2 ⟨fun h => n1 (hs.subset h), n2.sublist hs⟩, del_srt hT.srt, hT.lo, hT.hi⟩, fun x hx => ?_, ?_⟩
  · rcases List.mem_cons.1 hx with rfl | hx
    · exact hsub x (by simp)
    · exact hsub x (List.mem_cons_of_mem _ (hs.subset hx))
  · refine hto.trans' hT3 fun k hk hh => ?_
    subst hh
    rcases hsub k (by simp) with h | h
    · exact h
    · omega

set_option maxRecDepth 100000 in
set_option maxHeartbeats 4000000 in
theorem BtCut_ok (tb m : Nat) (L0 : List Ent) (bs0 : List Nat) (key : List UInt8) (w : World) (hT : TreeAt w tb m L0 bs0) (hkey : hasK key L0 = true) (hlen : L0.length ≤ 1000000000) :
    Calls Try.prog 52 #[.pointer (some ⟨tb, 0, none⟩), str key] w (CutP tb m key L0 bs0 w) := by
  have HT := Lib.hid hT
  have hm2 := hT.lo
  have hm64 := hT.hi
  have HKEY := Lib.hid hkey
  have hpos : 0 < L0.length := by
    cases L0 with
    | nil => simp [hasK] at hkey
    | cons => simp
  clear hT hkey
  go_enter Try.func52, Try.ntmps52
  go_wp2_with fail
  refine (Get_ok tb m L0 bs0 key w HT.out HKEY.out).mono ?_
  rintro e W1 ⟨⟨v, rfl⟩, hE1⟩
  have HE1 := Lib.hid hE1
  obtain ⟨rb, H, n, bs', hB, hr, hlo, hhi, hbs⟩ := (HT.out.ext hE1).ex
  obtain ⟨es, ks, gk, gv, gc, ck, cv, cc, h1, h2, h3, h4, h5⟩ := hr.open
  simp only at h1 h2 h3 h4
  have hes1 : 1 ≤ es.length := by
    cases H with
    | zero =>
      have : ks = [] := h5
      rw [this] at h3
      simp [inter] at h3
      rw [← h3]; exact hpos
    | succ H => simp at hlo; omega
  have HC := Lib.hid (CuI.start (key := key) HE1.out HT.out hB hbs h1 h3 h4 h5 (by omega) HKEY.out)
  obtain ⟨t0, t1, t2⟩ := blk3 hB
  clear hB hr hlo hhi hbs h1 h2 h3 h4 h5 hE1
  go_wp2_with fail
  refine (cut_ok w tb m key L0 bs0 rb H es ks gk gv gc ck cv cc W1 HC.out hes1).mono ?_
  clear t0 t1 t2 hes1
  rintro e W2 ⟨⟨v2, rfl⟩, N', Bs, hB, hr, hhi, hnd, hsub, hto⟩
  obtain ⟨es, ks, gk, gv, gc, ck, cv, cc, h1, h2, h3, h4, h5⟩ := hr.open
  simp only at h1 h2 h3 h4
  have HN := Lib.hid h1; have HR := Lib.hid hr; have HND := Lib.hid hnd; have HSUB := Lib.hid hsub; have HTO := Lib.hid hto; have HB := Lib.hid hB; have HOK := Lib.hid h5; have HL := Lib.hid h3; have HBS := Lib.hid h4; have HN2 := Lib.hid h2; have HHI := Lib.hid hhi
  have hdl : ((L0.length : Int) - 1) = ((del key L0).length : Int) := by have := del_len HT.out.srt HKEY.out; omega
  have hwl : IntKind.i64.wrap ((del key L0).length : Int) = ((del key L0).length : Int) := by have := del_len HT.out.srt HKEY.out; rw [IntKind.wrap_i64]; omega
  have hel : es.length ≤ 127 := by omega
  obtain ⟨t0, t1, t2⟩ := blk3 HB.out
  obtain ⟨n0, n1, n2⟩ := blk3 HN.out.blk
  have hz1 := blk_frozen HB.out 1
  have hz2 := blk_frozen HB.out 2
  clear hB hr hhi hnd hsub hto h1 h2 h3 h4 h5
  have htbl : Hid (tb < w.heap.size) := Lib.hid (HT.out.lt tb (by obtain ⟨_, _, _, _, _, _, _, _, h⟩ := HT.out.ex; rw [h]; simp))
  by_cases hes : es = []
  · have hd0 : decide (es = []) = true := decide_eq_true hes
    have hd1 : ((es.length : Int) == 0) = true := by rw [hes]; rfl
    by_cases hks : ks = []
    · have hpk : decide (ks.map Kid.b = []) = true := decide_eq_true (by rw [hks]; rfl)
      have hH : Hid (H = 0) := Lib.hid (by
        cases H with
        | zero => rfl
        | succ H => have := HOK.out.1; rw [hks] at this; simp at this)
      clear hes hks
      go_wp2_with (first | (go_at_call 34; refine (leaf_ok HN.out).mono ?_; rintro e w' ⟨rfl, rfl⟩; rw [hpk]))
      go_ret
      refine ⟨rfl, cut_end HT.out HND.out HSUB.out HTO.out htbl.out (blk_set HB.out 2 _) (Touch.setCell (S := fun k => k = tb) (Touch.refl _ _) (p := ⟨tb, 2, none⟩) (fun _ => rfl) _) HR.out ?_ HHI.out (List.Sublist.refl _)⟩
      rw [hH.out]; simp
    · have hpk : decide (ks.map Kid.b = []) = false := decide_eq_false (by simpa using hks)
      obtain ⟨H', hH⟩ : ∃ H', H = H' + 1 := by
        cases H with
        | zero => exact absurd HOK.out hks
        | succ H' => exact ⟨H', rfl⟩
      subst hH
      have hkl : ks.length = es.length + 1 := HOK.out.1
      rw [hes] at hkl
      obtain ⟨k, hk⟩ : ∃ k, ks = [k] := by
        match ks, hkl with
        | [k], _ => exact ⟨k, rfl⟩
      have hkm := HOK.out.2 k (by rw [hk]; simp)
      have HRK : Hid (Rep W2 m H' ⟨k.b, k.n, del key L0, k.bs⟩) := Lib.hid (by
        have h6 : del key L0 = k.L := by rw [HL.out, hk, hes]; rfl
        rw [h6]; exact hkm.1)
      have HSB : Hid (k.bs.Sublist Bs) := Lib.hid (by
        rw [HBS.out, hk]
        simp only [List.flatMap_cons, List.flatMap_nil, List.append_nil]
        exact List.sublist_append_right _ _)
      have HKM := Lib.hid hkm.2
      have hk0 : (ks.map Kid.b)[0]? = some k.b := by rw [hk]; rfl
      obtain ⟨gcb, HGC⟩ : ∃ b, Hid (gc = some b) := HN.out.kids.some_of_pos (by rw [List.length_map]; omega)
      have hci := HN.out.kid HGC.out hk0
      obtain ⟨kn, HKN⟩ : ∃ kn, Hid ((ks.map Kid.b).length = kn) := ⟨_, Lib.hid rfl⟩
      have hkn : 0 < kn := by rw [← HKN.out, List.length_map]; omega
      have hri : ∀ U, (Instr.indexAt 80 (slv gc kn cc) (.int .i64 0)).run Try.prog U = .ok (.pointer (some ⟨gcb, 0, none⟩)) U := fun U => run_index_slv (P := Try.prog) ei_node (cap := cc) HGC.out (j := 0) (n := kn) hkn U
      rw [HKN.out] at n2
      clear hkl hk hkm hk0 hes hks
      go_wp2_with (first | (go_at_call 34; refine (leaf_ok HN.out).mono ?_; rintro e w' ⟨rfl, rfl⟩; rw [hpk]))
      go_ret
      refine ⟨rfl, cut_end HT.out HND.out HSUB.out HTO.out htbl.out (blk_set (blk_set HB.out 1 _) 2 _) ((Touch.setCell (S := fun k => k = tb) (Touch.refl _ _) (p := ⟨tb, 1, none⟩) (fun _ => rfl) _).setCell (p := ⟨tb, 2, none⟩) (fun _ => rfl) _) HRK.out ?_ HKM.out.2 HSB.out⟩
      have := HKM.out.1
      split <;> omega
  · have hd0 : decide (es = []) = false := decide_eq_false hes
    have hd1 : ((es.length : Int) == 0) = false := by
      cases es with
      | nil => exact absurd rfl hes
      | cons => simp; omega
    have hpos1 : Hid (1 ≤ es.length) := Lib.hid (by cases es with | nil => exact absurd rfl hes | cons => simp)
    clear hes
    go_wp2
    go_ret
    refine ⟨rfl, cut_end HT.out HND.out HSUB.out HTO.out htbl.out ?_ ?_ HR.out ?_ ?_ (List.Sublist.refl _)⟩
    · exact blk_set HB.out 2 _
    · exact Touch.setCell (S := fun k => k = tb) (Touch.refl _ _) (p := ⟨tb, 2, none⟩) (fun _ => rfl) _
    · have := hpos1.out; have := HN2.out; split <;> omega
    · exact HHI.out
end Go.Proofs.Ytkejjahlglldlaa
