/- annalsref02.Get, text, Decode, walked. -/
import Derived.Test.YtlmlkphdalkfdaaWrt
namespace Go.Proofs.Ytlmlkphdalkfdaa
open Go.RowKit

/-- The number of bytes as 64 bits. -/
theorem getN_snoc_mod (l : List UInt8) (x : UInt8) : (getN l % 18446744073709551616 * 256 + x.toNat) % 18446744073709551616 = getN (l ++ [x]) % 18446744073709551616 := by
  rw [getN_snoc]; omega

theorem get_step (m x : Nat) : IntKind.u64.wrap (IntKind.u64.wrap ((m : Int) * 256) + (x : Int)) = (((m * 256 + x) % 18446744073709551616 : Nat) : Int) := by
  simp [IntKind.wrap, IntKind.bits, IntKind.signed]

set_option maxHeartbeats 4000000 in
theorem RGet_ok (l : List UInt8) (w : World) (hl : l.length ≤ 140737488355328) :
    Calls Try.prog 23 #[str l] w (fun e w' => e = .returned (.int .u64 ((getN l % 18446744073709551616 : Nat) : Int)) ∧ w' = w) := by
  have hz := bs_size l
  go_enter Try.func23, Try.ntmps23
  go_wp2
  go_loopg [3, 4] l.length (fun k v3 v4 wr => ∃ i : Nat, i + k = l.length ∧ v3 = .int .u64 ((getN (l.take i) % 18446744073709551616 : Nat) : Int) ∧ v4 = .int .i64 i ∧ wr = w)
  case atStart => exact ⟨0, by omega, by simp [getN], rfl, rfl⟩
  case round =>
    obtain ⟨i, hik, rfl, rfl, rfl⟩ := hrel
    by_cases hlt : i < l.length
    · obtain ⟨x, hx⟩ : ∃ x, l[i]? = some x := ⟨_, List.getElem?_eq_getElem hlt⟩
      have hbx := bs_get hx
      have hnx : (getN (l.take i) % 18446744073709551616 * 256 + x.toNat) % 18446744073709551616 = getN (l.take (i + 1)) % 18446744073709551616 := by
        rw [getN_snoc_mod, List.take_add_one, hx]; rfl
      have hxl := byte_lt x
      have hml : getN (l.take i) % 18446744073709551616 < 18446744073709551616 := Nat.mod_lt _ (by decide)
      generalize getN (l.take i) % 18446744073709551616 = m at *
      have HNX := Lib.hid hnx; clear hnx hx
      have HIK := Lib.hid hik; clear hik
      go_wp2
      go_roundg (gk - 1)
      case measure => have := HIK.out; omega
      case rel => exact ⟨i + 1, by have := HIK.out; omega, by rw [← HNX.out, get_step], by go_num, rfl⟩
    · have hi : i = l.length := by omega
      subst hi
      rw [List.take_length]
      go_wp2
      go_ret
      exact ⟨rfl, rfl⟩

/-- text's answer. -/
def textR : (Nat × Nat) ⊕ (List UInt8 × Nat) → Value
  | .inl (c, q) => .tuple #[str [], .int .i64 0, .int .i64 c, .int .i64 q]
  | .inr (t, q) => .tuple #[str t, .int .i64 q, .int .i64 0, .int .i64 0]

set_option maxHeartbeats 4000000 in
theorem RText_ok (l : List UInt8) (s : Nat) (w : World) (hs : s < l.length) (hl : l.length ≤ 140737488355328) :
    Calls Try.prog 31 #[str l, .int .i64 (s : Int)] w (fun e w' => e = .returned (textR (textD s (s + 1) (l.drop (s + 1)) [])) ∧ w' = w) := by
  generalize hR : textD s (s + 1) (l.drop (s + 1)) [] = R
  have HR := Lib.hid hR; clear hR
  have hz := bs_size
  have hap := bs_append
  have hE0 : (ByteArray.mk #[]) = bs [] := rfl
  have hE4 : (ByteArray.mk #[0]) = bs [0] := rfl
  go_enter Try.func31, Try.ntmps31
  go_wp2
  go_loopg [8, 9] (l.length - (s + 1)) (fun k v8 v9 wr => ∃ (q : Nat) (out : List UInt8), k = l.length - q ∧ q ≤ l.length ∧ s < q ∧ v8 = str out ∧ v9 = .int .i64 q ∧ out.length ≤ q ∧ textD s q (l.drop q) out = R ∧ wr = w)
  case atStart => exact ⟨s + 1, [], rfl, by omega, by omega, rfl, rfl, by simp, HR.out, rfl⟩
  case round =>
    obtain ⟨q, out, hk, hql, hsq, rfl, rfl, hol, hD, rfl⟩ := hrel
    have HK := Lib.hid hk; clear hk
    by_cases hlt : q < l.length
    · obtain ⟨x, hx⟩ : ∃ x, l[q]? = some x := ⟨_, List.getElem?_eq_getElem hlt⟩
      have hd : l.drop q = x :: l.drop (q + 1) := by
        rw [List.drop_eq_getElem_cons hlt]; rw [List.getElem?_eq_getElem hlt] at hx; cases hx; rfl
      rw [hd] at hD
      have hbx := bs_get hx
      have hex := bs_extract hx
      by_cases hx0 : x = 0
      · have hxz : ((x.toNat : Int) != 0) = false := by simp [hx0]
        subst hx0
        by_cases hlt2 : q + 1 < l.length
        · obtain ⟨y, hy⟩ : ∃ y, l[q + 1]? = some y := ⟨_, List.getElem?_eq_getElem hlt2⟩
          have hd2 : l.drop (q + 1) = y :: l.drop (q + 2) := by
            rw [List.drop_eq_getElem_cons hlt2]; rw [List.getElem?_eq_getElem hlt2] at hy; cases hy; rfl
          rw [hd2, textD_zero] at hD
          have hby := bs_get hy
          have hne : ((q : Int) + 1 == (l.length : Int)) = false := by simp; omega
          have hix : (0 : Int) ≤ (q : Int) + 1 ∧ (q : Int) + 1 < (l.length : Int) := by omega
          clear hd hd2 hx hy hex
          have HD := Lib.hid hD; clear hD
          by_cases hy0 : y = 0
          · have hyz : ((y.toNat : Int) == 0) = true := by simp [hy0]
            by_cases hlen : out.length > 64
            · have hlen' : (64 : Int) < (out.length : Int) := by omega
              have HR3 : Hid (.inl (2, s) = R) := by have := HD.out; rw [if_pos hy0, if_pos hlen] at this; exact this
              clear HD hy0
              go_wp2
              refine bodyPost_ret (v := textR R) (by rw [← HR3.out]; simp [results, Try.results31, go_sem, textR]; try rfl) rfl ⟨rfl, rfl⟩
            · have hlen' : ¬ (64 : Int) < (out.length : Int) := by omega
              have HR3 : Hid (.inr (out, q + 2) = R) := by have := HD.out; rw [if_pos hy0, if_neg hlen] at this; exact this
              clear HD hy0
              go_wp2
              refine bodyPost_ret (v := textR R) (by rw [← HR3.out]; simp [results, Try.results31, go_sem, textR]; try rfl) rfl ⟨rfl, rfl⟩
          · have hyz : ((y.toNat : Int) == 0) = false := by
              have : y.toNat ≠ 0 := fun e => hy0 (UInt8.toNat_inj.1 (by simpa using e))
              simp; omega
            by_cases hy1 : y = 255
            · have hyf : ((y.toNat : Int) != 255) = false := by simp [hy1]
              have HR3 : Hid (textD s (q + 2) (l.drop (q + 2)) (out ++ [0]) = R) := by have := HD.out; rw [if_neg hy0, if_pos hy1] at this; exact this
              clear HD hy0 hy1
              go_wp2
              go_roundg (l.length - (q + 2))
              case measure => have := HK.out; omega
              case rel => exact ⟨q + 2, out ++ [0], rfl, by omega, by omega, rfl, by go_num, by simp; omega, HR3.out, rfl⟩
            · have hyf : ((y.toNat : Int) != 255) = true := by
                have : y.toNat ≠ 255 := fun e => hy1 (UInt8.toNat_inj.1 (by simpa using e))
                simp; omega
              have HR3 : Hid (.inl (22, q + 1) = R) := by have := HD.out; rw [if_neg hy0, if_neg hy1] at this; exact this
              clear HD hy0 hy1
              go_wp2
              refine bodyPost_ret (v := textR R) (by rw [← HR3.out]; simp [results, Try.results31, go_sem, textR]; try rfl) rfl ⟨rfl, rfl⟩
        · have hq : q + 1 = l.length := by omega
          have hdn : l.drop (q + 1) = [] := List.drop_eq_nil_of_le (by omega)
          rw [hdn, textD_zero_nil, hq] at hD
          have HR3 := Lib.hid hD
          have hne : ((q : Int) + 1 == (l.length : Int)) = true := by simp; omega
          clear hD hdn hd hx hex hq
          go_wp2
          refine bodyPost_ret (v := textR R) (by rw [← HR3.out]; simp [results, Try.results31, go_sem, textR]; try rfl) rfl ⟨rfl, rfl⟩
      · have hxz : ((x.toNat : Int) != 0) = true := by
          have : x.toNat ≠ 0 := fun e => hx0 (UInt8.toNat_inj.1 (by simpa using e))
          simp; omega
        rw [textD_some _ _ _ _ _ hx0] at hD
        have HD2 := Lib.hid hD
        clear hD hd hx hx0
        go_wp2
        go_roundg (l.length - (q + 1))
        case measure => have := HK.out; omega
        case rel => exact ⟨q + 1, out ++ [x], rfl, by omega, by omega, rfl, by go_num, by simp; omega, HD2.out, rfl⟩
    · have hq : q = l.length := by omega
      have hdn : l.drop q = [] := List.drop_eq_nil_of_le (by omega)
      rw [hdn, textD_nil, hq] at hD
      have HR3 := Lib.hid hD
      clear hD hdn hq
      go_wp2
      refine bodyPost_ret (v := textR R) (by rw [← HR3.out]; simp [results, Try.results31, go_sem, textR]; try rfl) rfl ⟨rfl, rfl⟩

theorem bs_extract_n {t : List UInt8} {j n : Nat} : (bs t).extract j (j + n) = bs ((t.drop j).take n) := by
  unfold bs
  rw [ByteArray.extract_mk, show j + n - j = n by omega]
theorem sub_back {N : Nat} (h : N < 18446744073709551616) : wrap64 (IntKind.u64.wrap ((N : Int) - 9223372036854775808)) = (N : Int) - 9223372036854775808 := by
  simp only [IntKind.wrap, IntKind.bits, IntKind.signed, wrap64]
  simp; omega

theorem textD_code : ∀ (n : Nat) (r out : List UInt8) (start p c q : Nat), r.length ≤ n → textD start p r out = .inl (c, q) → c ≠ 0
  | 0, r, out, start, p, c, q, hn, h => by
    have := List.eq_nil_of_length_eq_zero (Nat.le_zero.1 hn)
    subst this
    rw [textD_nil] at h; cases h; decide
  | n + 1, [], out, start, p, c, q, hn, h => by rw [textD_nil] at h; cases h; decide
  | n + 1, x :: r, out, start, p, c, q, hn, h => by
    simp only [List.length_cons] at hn
    by_cases hx : x = 0
    · subst hx
      cases r with
      | nil => rw [textD_zero_nil] at h; cases h; decide
      | cons y r =>
        rw [textD_zero] at h
        simp only [List.length_cons] at hn
        split at h
        · split at h
          · cases h; decide
          · cases h
        · split at h
          · exact textD_code n r _ start (p + 2) c q (by omega) h
          · cases h; decide
    · rw [textD_some _ _ _ _ _ hx] at h
      exact textD_code n r _ start (p + 1) c q (by omega) h

set_option maxHeartbeats 8000000 in
theorem RDecode_ok (l : List UInt8) (w : World) (hl : l.length ≤ 1000000000) :
    Calls Try.prog 18 #[str l] w (fun e w' => ∃ g m cap, e = .returned (.tuple #[slv g m cap, .int .i64 (codeOf (decOf l)), .int .i64 (placeOf (decOf l))]) ∧
      Sl w' 53 3 g m cap (flatV (valsOf (decOf l))) ∧ (∀ b, g = some b → w.heap.size ≤ b) ∧ Ext w w') := by
  generalize hR : decOf l = R
  unfold decOf at hR
  have HR := Lib.hid hR; clear hR
  have hz := bs_size
  go_enter Try.func18, Try.ntmps18
  go_wp2
  go_loopg [5, 6] l.length (fun k v5 v6 wr => ∃ (p : Nat) (g : Option Nat) (cap f : Nat) (vs : List V), k = l.length - p ∧ p ≤ l.length ∧ l.length - p < f ∧ vs.length ≤ p ∧ v5 = slv g vs.length cap ∧ v6 = .int .i64 p ∧
    Sl wr 53 3 g vs.length cap (flatV vs) ∧ (∀ b, g = some b → w.heap.size ≤ b) ∧ Ext w wr ∧ decD l f p vs = R)
  case atStart => exact ⟨0, none, 0, l.length + 1, [], rfl, by omega, by omega, by simp, rfl, rfl, Sl.nil _ _ _, by simp, Ext.refl _, HR.out⟩
  case round =>
    obtain ⟨p, g, cap, f, vs, hk, hpl, hf, hvp, rfl, rfl, hSl, hG, hE, hD⟩ := hrel
    obtain ⟨f, rfl⟩ : ∃ f', f = f' + 1 := ⟨f - 1, by omega⟩
    have HSL := Lib.hid hSl; clear hSl
    have HG := Lib.hid hG; clear hG
    have HK := Lib.hid hk; clear hk
    by_cases hlt : p < l.length
    · obtain ⟨x, hx⟩ : ∃ x, l[p]? = some x := ⟨_, List.getElem?_eq_getElem hlt⟩
      have hd : l.drop p = x :: l.drop (p + 1) := by
        rw [List.drop_eq_getElem_cons hlt]; rw [List.getElem?_eq_getElem hlt] at hx; cases hx; rfl
      rw [decD_cons hd, List.length_drop] at hD
      have hbx := bs_get hx
      have HD := Lib.hid hD
      clear hD hd hx
      by_cases hx1 : x = 1
      · have hxb : ((x.toNat : Int) == 1) = true := by simp [hx1]
        have HD3 := HD.out
        rw [if_pos hx1] at HD3
        by_cases h9 : l.length - (p + 1) < 8
        · have HR3 : Hid (.inl (20, l.length) = R) := by rw [if_pos h9] at HD3; exact HD3
          have h9' : (l.length : Int) < (p : Int) + 9 := by omega
          clear HD HD3 hx1 h9
          go_wp2
          refine bodyPost_ret (v := .tuple #[.slice none 0 0, .int .i64 (codeOf R), .int .i64 (placeOf R)]) (by rw [← HR3.out]; simp [results, Try.results18, go_sem, codeOf, placeOf]) rfl ⟨none, 0, 0, rfl, by rw [← HR3.out]; exact Sl.nil _ _ _, by simp, hE⟩
        · have HDX : Hid (decD l f (p + 9) (vs ++ [(1, (getN ((l.drop (p + 1)).take 8) : Int) - 9223372036854775808, [])]) = R) := by rw [if_neg h9] at HD3; exact HD3
          have h9' : (p : Int) + 9 ≤ (l.length : Int) := by omega
          have hex : (bs l).extract (p + 1) (p + 9) = bs ((l.drop (p + 1)).take 8) := bs_extract_n (n := 8)
          have hl8 : ((l.drop (p + 1)).take 8).length = 8 := by rw [List.length_take, List.length_drop]; omega
          have hNl : getN ((l.drop (p + 1)).take 8) < 256 ^ 8 := getN_lt 8 _ hl8
          have hget := RGet_ok ((l.drop (p + 1)).take 8) wr (by omega)
          rw [Nat.mod_eq_of_lt hNl] at hget
          generalize (l.drop (p + 1)).take 8 = l8 at *
          have HGET := Lib.hid hget
          clear HD HD3 hx1 hget
          go_wp2_with fail
          refine HGET.out.mono ?_
          rintro e w2 ⟨rfl, rfl⟩
          generalize getN l8 = N at *
          have HNL := Lib.hid hNl
          clear HGET hNl
          go_wp2_with (at_builtin; refine app_val ei_value rfl (.tmp 38) (.tmp 41) rfl (g := g) (cap := cap) (vs := vs) (by rfl) (HSL.out.ext ((Ext.refl w2).alloc _)) (1, wrap64 (IntKind.u64.wrap ((N : Int) - 9223372036854775808)), []) (by rfl) (blk_new w2 _) (by omega) ?_)
          intro g5 cap5 w5 hS5 hT5 hat5
          rw [sub_back HNL.out] at hS5
          have hE5 : Ext w w5 := Touch.ext (((hE.alloc _).touch _).trans' hT5 (fun i hi h => h)) (fun i hi e => by have := HG.out i e; omega)
          have hg5 : w.heap.size ≤ g5 := by
            rcases hat5 with h | h
            · exact HG.out _ h
            · have := hE.size; omega
          have HS5 := Lib.hid hS5
          clear hS5 hT5 hat5
          go_wp2
          go_roundg (l.length - (p + 9))
          case measure => have := HK.out; omega
          case rel => exact ⟨p + 9, some g5, cap5, f, _, rfl, by omega, by omega, by simp; omega, by simp [slv, adr], by go_num, by simpa using HS5.out, fun b e => by cases e; exact hg5, hE5, HDX.out⟩
      · have hxb : ((x.toNat : Int) == 1) = false := by
          have : x.toNat ≠ 1 := fun e => hx1 (UInt8.toNat_inj.1 (by simpa using e))
          simp; omega
        have HD3 := HD.out
        rw [if_neg hx1] at HD3
        by_cases hx2 : x = 2
        · have hxc : ((x.toNat : Int) != 2) = false := by simp [hx2]
          rw [if_pos hx2] at HD3
          have htx := RText_ok l p wr hlt (by omega)
          have hfrom := textD_end (l.drop (p + 1)).length (l.drop (p + 1)) [] p (p + 1)
          have hcd := textD_code (l.drop (p + 1)).length (l.drop (p + 1)) [] p (p + 1)
          generalize textD p (p + 1) (l.drop (p + 1)) [] = X at htx HD3 hfrom hcd
          cases X with
          | inl cq =>
            obtain ⟨code, q⟩ := cq
            have HR3 : Hid (.inl (code, q) = R) := HD3
            have hcode := hcd code q (Nat.le_refl _) rfl
            have hcb : ((code : Int) != 0) = true := by simp; omega
            have HTX := Lib.hid htx
            clear HD HD3 hx1 hx2 htx hfrom hcode hcd
            go_wp2_with fail
            refine HTX.out.mono ?_
            rintro e w2 ⟨rfl, rfl⟩
            unfold textR
            simp only []
            go_wp2
            refine bodyPost_ret (v := .tuple #[.slice none 0 0, .int .i64 (codeOf R), .int .i64 (placeOf R)]) (by rw [← HR3.out]; simp [results, Try.results18, go_sem, codeOf, placeOf]) rfl ⟨none, 0, 0, rfl, by rw [← HR3.out]; exact Sl.nil _ _ _, by simp, hE⟩
          | inr tq =>
            obtain ⟨tt, q⟩ := tq
            have HR3 : Hid (decD l f q (vs ++ [(2, 0, tt)]) = R) := HD3
            obtain ⟨hq1, hq2, htt⟩ := hfrom tt q (Nat.le_refl _) rfl
            rw [List.length_drop] at hq2
            have HTX := Lib.hid htx
            clear HD HD3 hx1 hx2 htx hfrom hcd
            go_wp2_with fail
            refine HTX.out.mono ?_
            rintro e w2 ⟨rfl, rfl⟩
            unfold textR
            simp only []
            go_wp2_with (at_builtin; refine app_val ei_value rfl (.tmp 62) (.tmp 65) rfl (g := g) (cap := cap) (vs := vs) (by rfl) (HSL.out.ext ((Ext.refl w2).alloc _)) (2, 0, tt) (by rfl) (blk_new w2 _) (by omega) ?_)
            intro g5 cap5 w5 hS5 hT5 hat5
            have hE5 : Ext w w5 := Touch.ext (((hE.alloc _).touch _).trans' hT5 (fun i hi h => h)) (fun i hi e => by have := HG.out i e; omega)
            have hg5 : w.heap.size ≤ g5 := by
              rcases hat5 with h | h
              · exact HG.out _ h
              · have := hE.size; omega
            have HS5 := Lib.hid hS5
            clear hS5 hT5 hat5
            go_wp2
            go_roundg (l.length - q)
            case measure => have := HK.out; omega
            case rel => exact ⟨q, some g5, cap5, f, _, rfl, by omega, by omega, by simp; omega, by simp [slv, adr], by go_num, by simpa using HS5.out, fun b e => by cases e; exact hg5, hE5, HR3.out⟩
        · have hxc : ((x.toNat : Int) != 2) = true := by
            have : x.toNat ≠ 2 := fun e => hx2 (UInt8.toNat_inj.1 (by simpa using e))
            simp; omega
          have HR3 : Hid (.inl (21, p) = R) := by rw [if_neg hx2] at HD3; exact HD3
          clear HD HD3 hx1 hx2
          go_wp2
          refine bodyPost_ret (v := .tuple #[.slice none 0 0, .int .i64 (codeOf R), .int .i64 (placeOf R)]) (by rw [← HR3.out]; simp [results, Try.results18, go_sem, codeOf, placeOf]) rfl ⟨none, 0, 0, rfl, by rw [← HR3.out]; exact Sl.nil _ _ _, by simp, hE⟩
    · have hdn : l.drop p = [] := List.drop_eq_nil_of_le (by omega)
      rw [decD_nil hdn] at hD
      have HD2 := Lib.hid hD; clear hD hdn
      go_wp2
      refine bodyPost_ret (v := .tuple #[slv g vs.length cap, .int .i64 (codeOf R), .int .i64 (placeOf R)]) (by rw [← HD2.out]; simp [results, Try.results18, go_sem, codeOf, placeOf]) rfl ⟨g, vs.length, cap, rfl, by rw [← HD2.out]; exact HSL.out, HG.out, hE⟩

end Go.Proofs.Ytlmlkphdalkfdaa
