/- btree.cut: the key is written over by the last one of the kid ahead of it: walked. -/
import Derived.Test.YtkejjahlglldlaaMBmN
namespace Go.Proofs.Ytkejjahlglldlaa
open Go.RowKit Go.Lib

set_option maxRecDepth 100000 in
set_option maxHeartbeats 16000000 in
theorem cut_pred {w0 wc : World} {tb m : Nat} {key0 : List UInt8} {L0 : List Ent} {bs0 : List Nat} {rb H h' nb lo p n : Nat} {key : List UInt8} {F : List Nat} {A B es : List Ent} {ks : List Kid} {sk sv sc : Option Nat} {ck cv cc : Nat} {a : Kid} {K : Act → World → Prop} {Q' : Exit → Act → World → Prop}
    {u7 u8 u9 u10 u11 u12 u13 u14 u15 u16 u17 u18 u19 u20 u21 u22 u23 u24 u25 u26 u27 u28 u29 u30 u31 u32 u33 u34 u35 u36 u37 u38 u39 u40 u41 u42 u43 u44 u45 u46 u47 u48 u49 u50 u51 u52 u53 u54 u55 u56 u57 u58 u59 u60 u61 u62 u63 u64 u65 u66 u67 u68 u69 u70 u71 u72 u73 u74 u75 u76 u77 u78 u79 u80 u81 u82 u83 u84 u85 u86 u87 u88 u89 u90 u91 u92 u93 u94 u95 u96 u97 u98 u99 u100 u101 u102 u103 u104 u105 u106 u107 u108 u109 u110 u111 u112 u113 u114 u115 u116 u117 u118 u119 u120 u121 u122 u123 u124 u125 u126 u127 u128 u129 u130 u131 u132 u133 u134 u135 u136 u137 u138 u139 u140 u141 u142 u143 u144 u145 u146 u147 u148 u149 u150 u151 u152 u153 u154 u155 u156 u157 u158 u159 u160 u161 u162 u163 u164 u165 u166 u167 u168 u169 u170 u171 u172 u173 u174 u175 u176 u177 u178 u179 u180 u181 u182 u183 u184 u185 u186 u187 u188 u189 u190 u191 u192 u193 u194 u195 u196 u197 u198 u199 u200 u201 u202 u203 u204 u205 u206 u207 u208 u209 u210 u211 u212 u213 u214 u215 u216 u217 u218 u219 u220 u221 u222 u223 u224 u225 u226 u227 u228 u229 u230 u231 u232 u233 u234 u235 u236 u237 u238 : Value}
    (hI : CuI w0 tb m key0 L0 bs0 wc rb H (h' + 1) nb lo key F A B es ks sk sv sc ck cv cc) (hp : pos key es = p) (hat : at_ key es = true) (ha : ks[p]? = some a) (hma : m ≤ a.n) (hKO : Onward K n w0 tb m key0 L0 bs0 rb H) (hn : h' < n) :
    Code.wp Try.prog (nav [false, true, false, false, false, true, false, true, true, true, true, true, false] (bodyOf Try.f91)) (Exit.inBlock 2 (Exit.inBlock 1 (Exit.then K Q'))) ⟨List.toArray (Value.pointer (some ⟨tb, 0, none⟩) :: Value.pointer (some ⟨nb, 0, none⟩) :: str key :: undef :: undef :: undef :: Value.int .i64 (p : Int) :: u7 :: u8 :: u9 :: u10 :: u11 :: u12 :: u13 :: u14 :: u15 :: u16 :: u17 :: u18 :: u19 :: u20 :: u21 :: u22 :: u23 :: u24 :: u25 :: u26 :: u27 :: u28 :: u29 :: u30 :: u31 :: u32 :: u33 :: u34 :: u35 :: u36 :: u37 :: u38 :: u39 :: u40 :: u41 :: u42 :: u43 :: u44 :: u45 :: u46 :: u47 :: u48 :: u49 :: u50 :: u51 :: u52 :: u53 :: u54 :: u55 :: u56 :: u57 :: u58 :: u59 :: u60 :: u61 :: u62 :: u63 :: u64 :: u65 :: u66 :: u67 :: u68 :: u69 :: u70 :: u71 :: u72 :: u73 :: u74 :: u75 :: u76 :: u77 :: u78 :: u79 :: u80 :: u81 :: u82 :: u83 :: u84 :: u85 :: u86 :: u87 :: u88 :: u89 :: u90 :: u91 :: u92 :: u93 :: u94 :: u95 :: u96 :: u97 :: u98 :: u99 :: u100 :: u101 :: u102 :: u103 :: u104 :: u105 :: u106 :: u107 :: u108 :: u109 :: u110 :: u111 :: u112 :: u113 :: u114 :: u115 :: u116 :: u117 :: u118 :: u119 :: u120 :: u121 :: u122 :: u123 :: u124 :: u125 :: u126 :: u127 :: u128 :: u129 :: u130 :: u131 :: u132 :: u133 :: u134 :: u135 :: u136 :: u137 :: u138 :: u139 :: u140 :: u141 :: u142 :: u143 :: u144 :: u145 :: u146 :: u147 :: u148 :: u149 :: u150 :: u151 :: u152 :: u153 :: u154 :: u155 :: u156 :: u157 :: u158 :: u159 :: u160 :: u161 :: u162 :: u163 :: u164 :: u165 :: u166 :: u167 :: u168 :: u169 :: u170 :: u171 :: u172 :: u173 :: u174 :: u175 :: u176 :: u177 :: u178 :: u179 :: u180 :: u181 :: u182 :: u183 :: u184 :: u185 :: u186 :: u187 :: u188 :: u189 :: u190 :: u191 :: u192 :: u193 :: u194 :: u195 :: u196 :: u197 :: u198 :: u199 :: u200 :: u201 :: u202 :: u203 :: u204 :: u205 :: u206 :: u207 :: u208 :: u209 :: u210 :: u211 :: u212 :: u213 :: u214 :: u215 :: u216 :: u217 :: u218 :: u219 :: u220 :: u221 :: u222 :: u223 :: u224 :: u225 :: u226 :: u227 :: u228 :: u229 :: u230 :: u231 :: u232 :: u233 :: u234 :: u235 :: u236 :: u237 :: u238 :: []), []⟩ wc := by
  dsimp only [nav, bodyOf, Try.f91, nA_seq, nA_cond, nA_block, nA_loop, nA_scope, nB_seq, nB_cond]
  have HI := Lib.hid hI; have HKO := Lib.hid hKO; have HPP := Lib.hid hp; have HAT := Lib.hid hat; have HKID := Lib.hid ha; have HKM := Lib.hid hma
  have hm2 := hI.m2
  have hm64 := hI.m64
  have hlen : es.length ≤ 127 := by have := hI.hi; omega
  have hples : p ≤ es.length := by rw [← hp]; exact pos_le key es
  have HKL : Hid (ks.length = es.length + 1) := hI.ok.1
  obtain ⟨v0, hv0, -⟩ := at_true hat
  rw [hp] at hv0
  have hie : p < es.length := (List.getElem?_eq_some_iff.1 hv0).1
  have HV0 := Lib.hid hv0
  have hra := hI.ok.2 a (List.mem_of_getElem? ha)
  clear hI hKO hp hat ha hma hv0
  obtain ⟨scb, HSC⟩ : ∃ b, Hid (sc = some b) := HI.out.node.kids.some_of_pos (by rw [List.length_map]; have := HKL.out; omega)
  obtain ⟨skb, HSK⟩ : ∃ b, Hid (sk = some b) := HI.out.node.keys.some_of_pos (by omega)
  obtain ⟨svb, HSV⟩ : ∃ b, Hid (sv = some b) := HI.out.node.vals.some_of_pos (by omega)
  obtain ⟨kn, HKN⟩ : ∃ kn, Hid ((ks.map Kid.b).length = kn) := ⟨_, Lib.hid rfl⟩
  have hkn : p + 1 < kn := by rw [← HKN.out, List.length_map]; have := HKL.out; omega
  have hri := fun U => run_index_slv (P := Try.prog) ei_node (cap := cc) HSC.out (j := p) (n := kn) (by omega) U
  have hrk := fun U => run_index_slv (P := Try.prog) ei_string (cap := ck) HSK.out (j := p) (n := es.length) hie U
  have hrv := fun U => run_index_slv (P := Try.prog) ei_int64 (cap := cv) HSV.out (j := p) (n := es.length) hie U
  have hci := HI.out.node.kid HSC.out (show (ks.map Kid.b)[p]? = some a.b by simp [HKID.out])
  obtain ⟨n0, n1, n2⟩ := blk3 HI.out.node.blk
  obtain ⟨t0, t1, t2⟩ := blk3 HI.out.tree
  rw [HKN.out] at n2
  go_wp2
  clear n0 n1 n2 t0 t1 t2 hci
  go_loopg [11] h' (fun j v11 wd => Ext wc wd ∧ ∃ (kd : Kid) (X : List Ent), v11 = .pointer (some ⟨kd.b, 0, none⟩) ∧ Rep wc m j kd ∧ m ≤ kd.n + 1 ∧ kd.n + 1 ≤ 2 * m ∧ a.L = X ++ kd.L)
  case atStart => exact ⟨Ext.refl _, a, [], rfl, hra.1, hra.2.1, hra.2.2, rfl⟩
  case round =>
    obtain ⟨hE2, kd, X, rfl, hkr, hk1, hk2, hkX⟩ := hrel
    clear hra
    obtain ⟨el, kl, lk, lv, lc, ek1, ek2, ek3, lN, ln, lL, -, lok⟩ := hkr.open
    have HLN := Lib.hid (lN.ext hE2)
    have hel : el.length ≤ 127 := by omega
    obtain ⟨l0, l1, l2⟩ := blk3 HLN.out.blk
    by_cases hkl : kl = []
    · have hpk2 : decide (kl.map Kid.b = []) = true := decide_eq_true (by rw [hkl]; rfl)
      obtain ⟨q, hq⟩ : ∃ q, el.length = q + 1 := ⟨el.length - 1, by omega⟩
      obtain ⟨ex, hex⟩ : ∃ ex, el[q]? = some ex := ⟨el[q]'(by omega), List.getElem?_eq_getElem _⟩
      have HX : Hid (a.L = (X ++ el.take q) ++ [ex]) := Lib.hid (by
        have h5 := list_at hex
        rw [List.drop_eq_nil_of_le (by omega)] at h5
        have h6 : kd.L = el := by rw [lL, hkl]; simp [inter]
        rw [hkX, h6, List.append_assoc, ← h5])
      have HI3 := Lib.hid (HI.out.ext hE2)
      have HEX := Lib.hid hex
      obtain ⟨lkb, HLK⟩ : ∃ b, Hid (lk = some b) := HLN.out.keys.some_of_pos (by omega)
      obtain ⟨lvb, HLV⟩ : ∃ b, Hid (lv = some b) := HLN.out.vals.some_of_pos (by omega)
      have hlq : (el.length : Int) - 1 = (q : Int) := by omega
      have hwq : IntKind.i64.wrap (q : Int) = (q : Int) := by rw [IntKind.wrap_i64]; omega
      have hrl := fun U => run_index_slv (P := Try.prog) ei_string (cap := ek1) HLK.out (j := q) (n := el.length) (by omega) U
      have hrl2 := fun U => run_index_slv (P := Try.prog) ei_int64 (cap := ek2) HLV.out (j := q) (n := el.length) (by omega) U
      clear hq hex hkX hkr hk1 hk2 lN ln lL lok hkl hE2
      go_wp2_with (first | (go_at_call 34; refine (leaf_ok HLN.out).mono ?_; rintro e w' ⟨rfl, rfl⟩; rw [hpk2]))
      clear l0 l1 l2
      refine region_calm [.p 0, .p 1, .p 2, .l 3, .p 4, .p 5, .p 6, .p 7, .l 8, .p 9, .p 10, .p 11, .p 12, .l 13, .p 14, .p 15, .p 16, .l 17, .p 18, .p 19, .p 20, .l 21, .p 22, .p 23, .p 24, .l 25, .p 26, .p 27, .p 28, .l 29, .p 30, .p 31, .p 32, .l 33, .p 34, .h 35 false, .p 36, .h 37 false] f_mixed (by kernel_rfl) (by kernel_rfl) ?_
      have HM := Lib.hid ((Mm.start1 HI3.out.node (List.nodup_append.1 HI3.out.nodup).1).ext (Ext.refl wr).drew)
      replace HLN := Lib.hid (HLN.out.ext (Ext.refl wr).drew)
      generalize wr.drew = V1 at *
      obtain ⟨n0, n1, n2⟩ := HM.out.c3 0 (b := nb) (by decide) rfl rfl
      obtain ⟨l0, l1, l2⟩ := blk3 HLN.out.blk
      have hsk := HLN.out.keys
      rw [HLK.out] at hsk
      have hlk := hsk.cell (sK_get HEX.out)
      have hsv := HLN.out.vals
      rw [HLV.out] at hsv
      have hlv := hsv.cell (sV_get HEX.out)
      have hz := HM.out.fzs 0 (by decide) rfl HSK.out p
      have hold := HM.out.el 0 (by decide) rfl HSK.out (sK_get HV0.out)
      clear hsk hsv
      repeat (first | (refine plan_p rfl (fun K hK => ?_); go_simp; refine hK _ ?_; clear hK K) | (refine plan_l rfl (fun K hK => ?_); go_simp; refine hK _ ?_; clear hK K))
      refine plan_c rfl rfl (fun K _ hK => ?_)
      go_wp2_with fail
      replace HM := Lib.hid (HM.out.elem (i := 0) (by decide) HSK.out (str ex.1) hie)
      generalize V1.setCell ⟨skb, p, none⟩ (str ex.1) = V2 at *
      clear n0 n1 n2 l0 l1 l2 hlk hlv hz hold
      have hz2 := HM.out.fzs 1 (by decide) rfl HSV.out p
      have hold := HM.out.el 1 (by decide) rfl HSV.out (sV_get HV0.out)
      repeat (first | (refine plan_p rfl (fun K hK => ?_); go_simp; refine hK _ ?_; clear hK K) | (refine plan_l rfl (fun K hK => ?_); go_simp; refine hK _ ?_; clear hK K))
      refine plan_c rfl rfl (fun K _ hK => ?_)
      go_wp2_with fail
      replace HM := Lib.hid (HM.out.elem (i := 1) (by decide) HSV.out (.int .i64 ex.2) hie)
      refine plan_done ?_
      generalize V2.setCell ⟨svb, p, none⟩ (.int .i64 ex.2) = V3 at *
      clear hz2 hold HLN V1 V2
      have hnode := HM.out.node 0 (b := nb) (es := es.set p ex) (ps := ks.map Kid.b) (by decide) (by decide) rfl rfl rfl rfl rfl (len_set es p ex) (len_set es p ex) rfl (sK_set es p ex).symm (sV_set es p ex).symm rfl
      obtain ⟨F', A', B', e9, k9, a1, a2, a3, a4, a5, a6, hD1, hD2⟩ := HI3.out.pred HAT.out (by rw [HPP.out]; exact HKID.out) HKM.out HX.out HM.out.touch (by rw [HPP.out]; exact hnode)
      have HD1 := Lib.hid hD1; have HD2 := Lib.hid hD2
      clear hnode hD1 hD2 HI3
      go_wp2
      refine region_calm [.p 0, .p 1, .p 2, .l 3, .p 4, .p 5, .l 6, .p 7, .p 8, .p 9, .l 10, .p 11, .p 12, .l 13, .p 14, .p 15] f_mixed (by kernel_rfl) (by kernel_rfl) ?_
      replace HM := Lib.hid (HM.out.ext (Ext.refl V3).drew)
      replace HD1 := Lib.hid (HD1.out.ext (Ext.refl V3).drew)
      obtain ⟨n0, n1, n2⟩ := HM.out.c3 0 (b := nb) (by decide) rfl rfl
      have hck := HM.out.el 0 (k := p) (v := str ex.1) (by decide) rfl HSK.out (by show ((sK es).set p (str ex.1))[p]? = _; simp [sK, hie])
      have hcc := HM.out.el 2 (by decide) rfl HSC.out (sP_get (show (ks.map Kid.b)[p]? = some a.b by simp [HKID.out]))
      rw [HKN.out] at n2
      generalize V3.drew = V4 at *
      repeat (first | (refine plan_p rfl (fun K hK => ?_); go_simp; refine hK _ ?_; clear hK K) | (refine plan_l rfl (fun K hK => ?_); go_simp; refine hK _ ?_; clear hK K))
      refine plan_done ?_
      clear n0 n1 n2 hck hcc HM
      go_wp2
      exact HKO.out.go h' hn ⟨_, _, ex.1, _, _, _, _, _, _, _, _, _, _, _, rfl, rfl, HD1.out, HD2.out⟩
    · have hpk2 : decide (kl.map Kid.b = []) = false := decide_eq_false (by simpa using hkl)
      obtain ⟨j', hj'⟩ : ∃ j', gk = j' + 1 := by
        cases gk with
        | zero => exact absurd lok hkl
        | succ j' => exact ⟨j', rfl⟩
      subst hj'
      have hkl1 : kl.length = el.length + 1 := lok.1
      obtain ⟨kz, hkz⟩ : ∃ kz, kl[kl.length - 1]? = some kz := ⟨kl[kl.length - 1]'(by omega), List.getElem?_eq_getElem _⟩
      obtain ⟨X2, hX2⟩ := inter_last lok hkz
      have hrz := lok.2 kz (List.mem_of_getElem? hkz)
      have HREL : Hid (Ext wc wr ∧ ∃ (kd : Kid) (X : List Ent), (Value.pointer (some ⟨kz.b, 0, none⟩)) = .pointer (some ⟨kd.b, 0, none⟩) ∧ Rep wc m j' kd ∧ m ≤ kd.n + 1 ∧ kd.n + 1 ≤ 2 * m ∧ a.L = X ++ kd.L) :=
        Lib.hid ⟨hE2, kz, X ++ X2, rfl, hrz.1, hrz.2.1, hrz.2.2, by rw [hkX, lL, hX2, List.append_assoc]⟩
      obtain ⟨q, hq⟩ : ∃ q, kl.length - 1 = q := ⟨_, rfl⟩
      rw [hq] at hkz
      obtain ⟨lcb, HLC⟩ : ∃ b, Hid (lc = some b) := HLN.out.kids.some_of_pos (by rw [List.length_map]; omega)
      obtain ⟨zn, HZN⟩ : ∃ zn, Hid ((kl.map Kid.b).length = zn) := ⟨_, Lib.hid rfl⟩
      have hzn : zn = q + 1 := by rw [← HZN.out, List.length_map]; omega
      have hlq : (zn : Int) - 1 = (q : Int) := by omega
      have hwq : IntKind.i64.wrap (q : Int) = (q : Int) := by rw [IntKind.wrap_i64]; omega
      have hrl := fun U => run_index_slv (P := Try.prog) ei_node (cap := ek3) HLC.out (j := q) (n := zn) (by omega) U
      have HKZ := Lib.hid hkz
      clear hq hkz hkX hkr hk1 hk2 lN ln lL lok hkl hE2 hkl1 hX2 hrz hzn
      go_wp2_with (first | (go_at_call 34; refine (leaf_ok HLN.out).mono ?_; rintro e w' ⟨rfl, rfl⟩; rw [hpk2]))
      refine region_calm [.p 0, .p 1, .p 2, .l 3, .p 4, .p 5, .p 6, .l 7, .p 8, .p 9, .p 10, .l 11, .p 12] f_mixed (by kernel_rfl) (by kernel_rfl) ?_
      clear l0 l1 l2
      replace HLN := Lib.hid (HLN.out.ext (Ext.refl wr).drew)
      have HR2 : Hid (Ext wr wr.drew) := Lib.hid (Ext.refl wr).drew
      generalize wr.drew = V1 at *
      obtain ⟨l0, l1, l2⟩ := blk3 HLN.out.blk
      rw [HZN.out] at l2
      have hlc := HLN.out.kid HLC.out (show (kl.map Kid.b)[q]? = some kz.b by simp [HKZ.out])
      repeat (first | (refine plan_p rfl (fun K hK => ?_); go_simp; refine hK _ ?_; clear hK K) | (refine plan_l rfl (fun K hK => ?_); go_simp; refine hK _ ?_; clear hK K))
      refine plan_done ?_
      go_wp2
      go_roundg j'
      case measure => omega
      case rel =>
        obtain ⟨r1, r2⟩ := HREL.out
        exact ⟨r1.trans HR2.out, r2⟩
end Go.Proofs.Ytkejjahlglldlaa
