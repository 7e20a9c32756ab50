/- Lemmas. -/
import Derived.Test.YtkhnpmeohjafiaaGreatDoorMD
import Derived.Test.YtkhnpmeohjafiaaGreatDoorMA
import Derived.Test.YtkhnpmeohjafiaaGreatDoorME
set_option maxHeartbeats 16000000
set_option maxRecDepth 100000
namespace Go.Proofs.YtkhnpmeohjafiaaGreatDoor
open Go.RowKit
theorem blk4 {w : World} {b : Nat} {t : TypeId} {f : Nat × Nat} {v0 v1 v2 v3 : Value} (h : w.heap[b]? = some (.cells #[v0, v1, v2, v3] t f)) : w.cell? ⟨b, 0, none⟩ = some v0 ∧ w.cell? ⟨b, 1, none⟩ = some v1 ∧ w.cell? ⟨b, 2, none⟩ = some v2 ∧ w.cell? ⟨b, 3, none⟩ = some v3 :=
 ⟨blk_cell h rfl, blk_cell h rfl, blk_cell h rfl, blk_cell h rfl⟩
structure Cx where
 sb : Nat
 g : Option Nat
 cap : Nat
 all : List Tok
 E : Nat
def Cx.ts (c : Cx) (i : Nat) : List Tok := c.all.drop i
structure Src (w : World) (c : Cx) (i d : Nat) : Prop where
 blk : w.heap[c.sb]? = some (.cells #[slv c.g c.all.length c.cap, .int .i64 (i : Int), .int .i64 (c.E : Int), .int .i64 (d : Int)] 63 (0, 0))
 toks : Sl w 102 4 c.g c.all.length c.cap (flatT c.all)
 le : i ≤ c.all.length
 sign : SignOk c.all
 small : c.all.length ≤ 4096
 deep : d ≤ 33
theorem Src.ne {w : World} {c : Cx} {i d : Nat} (h : Src w c i d) : c.g ≠ some c.sb := by
 intro hg
 have := h.toks
 rw [hg] at this
 obtain ⟨_, cur, hb, _⟩ := this
 rw [h.blk] at hb
 simp at hb
theorem Src.ext {w w' : World} {c : Cx} {i d : Nat} (h : Src w c i d) (he : Ext w w') : Src w' c i d := ⟨Ext.block he h.blk, h.toks.ext he, h.le, h.sign, h.small, h.deep⟩
theorem Src.touch {S : Nat → Prop} {w w' : World} {c : Cx} {i d : Nat} (h : Src w c i d) (ht : Touch S w w') (h1 : ¬ S c.sb) (h2 : ∀ b, c.g = some b → ¬ S b) : Src w' c i d :=
 ⟨ht.old h.blk h1, h.toks.touch ht h2, h.le, h.sign, h.small, h.deep⟩
theorem Src.move {w : World} {c : Cx} {i d : Nat} (h : Src w c i d) {j : Nat} (hj : j ≤ c.all.length) : Src (w.setCell ⟨c.sb, 1, none⟩ (.int .i64 (j : Int))) c j d :=
 ⟨blk_set h.blk 1 _, h.toks.congr fun b hb => Below.heap_setCell _ _ _ _ (by rintro rfl; exact h.ne hb), hj, h.sign, h.small, h.deep⟩
theorem Src.dive {w : World} {c : Cx} {i d : Nat} (h : Src w c i d) {e : Nat} (he : e ≤ 33) : Src (w.setCell ⟨c.sb, 3, none⟩ (.int .i64 (e : Int))) c i e :=
 ⟨blk_set h.blk 3 _, h.toks.congr fun b hb => Below.heap_setCell _ _ _ _ (by rintro rfl; exact h.ne hb), h.le, h.sign, h.small, he⟩
theorem flatT_get : ∀ (l : List Tok) (i : Nat) (t : Tok), l[i]? = some t → (flatT l)[i * 4]? = some (.int .i64 (t.1 : Int)) ∧ (flatT l)[i * 4 + 1]? = some (str t.2.1) ∧ (flatT l)[i * 4 + 2]? = some (.int .i64 (t.2.2.1 : Int)) ∧ (flatT l)[i * 4 + 3]? = some (.int .i64 (t.2.2.2 : Int))
 | [], i, t, h => by simp at h
 | a :: l, 0, t, h => by
   simp at h; subst h
   exact ⟨rfl, rfl, rfl, rfl⟩
 | a :: l, i + 1, t, h => by
   have := flatT_get l i t (by simpa using h)
   have e : ∀ k, (flatT (a :: l))[(i + 1) * 4 + k]? = (flatT l)[i * 4 + k]? := fun k => by
    have h1 : (i + 1) * 4 + k = i * 4 + k + 4 := by omega
    rw [h1]
    simp [flatT, tokC]
   exact ⟨by rw [← Nat.add_zero ((i + 1) * 4), e 0]; exact this.1, by rw [e 1]; exact this.2.1, by rw [e 2]; exact this.2.2.1, by rw [e 3]; exact this.2.2.2⟩
theorem Src.at {w : World} {c : Cx} {i d : Nat} (h : Src w c i d) (hi : i < c.all.length) :
  ∃ (b : Nat) (t : Tok), c.g = some b ∧ c.all[i]? = some t ∧ b < w.heap.size ∧ b ≠ c.sb ∧ c.ts i = t :: c.ts (i + 1) ∧
   w.cell? ⟨b, i * 4, none⟩ = some (.int .i64 (t.1 : Int)) ∧ w.cell? ⟨b, i * 4 + 1, none⟩ = some (str t.2.1) ∧ w.cell? ⟨b, i * 4 + 2, none⟩ = some (.int .i64 (t.2.2.1 : Int)) ∧ w.cell? ⟨b, i * 4 + 3, none⟩ = some (.int .i64 (t.2.2.2 : Int)) := by
 obtain ⟨b, hb⟩ := h.toks.some_of_pos (by omega)
 have hS := h.toks
 rw [hb] at hS
 have ht : c.all[i]? = some (c.all[i]'hi) := List.getElem?_eq_getElem hi
 obtain ⟨c0, c1, c2, c3⟩ := flatT_get _ _ _ ht
 refine ⟨b, _, hb, ht, hS.block_lt, ?_, ?_, hS.cell c0, hS.cell c1, hS.cell c2, hS.cell c3⟩
 · rintro rfl; exact h.ne hb
 · unfold Cx.ts; exact (List.drop_eq_getElem_cons hi)
theorem Src.cells {w : World} {c : Cx} {i d b : Nat} {t : Tok} (h : Src w c i d) (hg : c.g = some b) (ht : c.all[i]? = some t) :
  w.cell? ⟨b, i * 4, none⟩ = some (.int .i64 (t.1 : Int)) ∧ w.cell? ⟨b, i * 4 + 1, none⟩ = some (str t.2.1) ∧ w.cell? ⟨b, i * 4 + 2, none⟩ = some (.int .i64 (t.2.2.1 : Int)) ∧ w.cell? ⟨b, i * 4 + 3, none⟩ = some (.int .i64 (t.2.2.2 : Int)) := by
 have hS := h.toks
 rw [hg] at hS
 obtain ⟨c0, c1, c2, c3⟩ := flatT_get _ _ _ ht
 exact ⟨hS.cell c0, hS.cell c1, hS.cell c2, hS.cell c3⟩
theorem Src.stop {w : World} {c : Cx} {i d : Nat} (h : Src w c i d) (hi : ¬ i < c.all.length) : c.ts i = [] := List.drop_eq_nil_of_le (by omega)
theorem Src.tail (c : Cx) (i : Nat) : (c.ts i).tail = c.ts (i + 1) := by unfold Cx.ts; rw [List.tail_drop]
abbrev tidx (c : Cx) (i : Nat) (b : Nat) : Prop := ∀ u : World, (Instr.indexAt 55 (slv c.g c.all.length c.cap) (.int .i64 (i : Int))).run Tryz.prog u = .ok (.pointer (some ⟨b, i * 4, none⟩)) u
theorem tidx_ok {c : Cx} {i b : Nat} (hg : c.g = some b) (hi : i < c.all.length) : tidx c i b := fun u => run_index_slv ei_tok (cap := c.cap) hg hi u
theorem place_ok (c : Cx) (i d : Nat) (w : World) (h : Src w c i d) : Calls Tryz.prog 67 #[.pointer (some ⟨c.sb, 0, none⟩)] w (fun e w' => e = .returned (.int .i64 (plc c.E (c.ts i) : Int)) ∧ Ext w w') := by
 have H := Lib.hid h
 obtain ⟨q0, q1, q2, q3⟩ := blk4 h.blk
 have lb := blk_lt h.blk
 have hsm := h.small
 have hle := h.le
 go_enter Tryz.func67, Tryz.ntmps67
 go_wp2
 by_cases hi : i < c.all.length
 · obtain ⟨b, t, hg, ht, hb, hbs, hts, c0, c1, c2, c3⟩ := h.at hi
   have z := tidx_ok hg hi
   have HT := Lib.hid hts
   clear h hg ht hts c0 c1 c2
   refine region_calm [.p 0, .p 1, .p 2, .l 3, .p 4, .p 5, .p 6, .l 7, .p 8, .p 9] f_mixed (by kernel_rfl) (by kernel_rfl) ?_
   repeat ((first | refine plan_p rfl (fun K hK => ?_) | refine plan_l rfl (fun K hK => ?_)); go_simp; refine hK _ ?_; clear hK K)
   refine plan_done ?_
   go_wp2
   refine region_calm [.p 0, .p 1, .p 2, .l 3, .p 4, .p 5, .p 6, .l 7, .p 8, .p 9, .l 10, .p 11] f_mixed (by kernel_rfl) (by kernel_rfl) ?_
   repeat ((first | refine plan_p rfl (fun K hK => ?_) | refine plan_l rfl (fun K hK => ?_)); go_simp; refine hK _ ?_; clear hK K)
   refine plan_done ?_
   go_wp2
   go_ret
   exact ⟨by rw [HT.out]; rfl, (Ext.refl w).drew.drew⟩
 · have HT := Lib.hid (h.stop hi)
   clear h
   refine region_calm [.p 0, .p 1, .p 2, .l 3, .p 4, .p 5, .p 6, .l 7, .p 8, .p 9] f_mixed (by kernel_rfl) (by kernel_rfl) ?_
   repeat ((first | refine plan_p rfl (fun K hK => ?_) | refine plan_l rfl (fun K hK => ?_)); go_simp; refine hK _ ?_; clear hK K)
   refine plan_done ?_
   go_wp2
   go_ret
   exact ⟨by rw [HT.out]; rfl, (Ext.refl w).drew⟩
def Txts (w : World) (tg : Option Nat) (L : List Str) : Prop :=
 match tg with
 | none => L = []
 | some b => w.heap[b]? = some (.cells (L.map str).toArray 9 (0, 0))
theorem Txts.ext {w w' : World} {tg : Option Nat} {L : List Str} (h : Txts w tg L) (he : Ext w w') : Txts w' tg L := by
 cases tg with
 | none => exact h
 | some b => exact Ext.block he h
theorem Txts.cell {w : World} {tg : Option Nat} {L : List Str} (h : Txts w tg L) {j : Nat} {s : Str} (hj : L[j]? = some s) : ∃ b, tg = some b ∧ w.cell? ⟨b, j, none⟩ = some (str s) := by
 cases tg with
 | none => rw [show L = [] from h] at hj; simp at hj
 | some b => exact ⟨b, rfl, blk_cell h (by simp [hj])⟩
theorem ei_str : EI Tryz.prog 24 9 1 16 :=
 ⟨Tryz.underlying24, by
  obtain ⟨i, h1, h2, h3, h4⟩ := info_parts (P := Tryz.prog) (e := 9) (z := .string (ByteArray.mk #[])) (size := 1) (bytes := 16) (by kernel_rfl)
  exact ⟨i, _, h1, h2, h3, h4, rfl⟩, by omega, by omega⟩
def isR (k : Nat) (L : List Str) (ts : List Tok) : Bool := isK k ts && (L.isEmpty || L.any fun s => txt ts == s)
def IsInv (w : World) (L : List Str) (x : Str) (gk : Nat) (v36 : Value) (wr : World) : Prop :=
 ∃ j : Nat, j + gk = L.length ∧ v36 = .int .i64 (j : Int) ∧ Ext w wr ∧ ∀ (j' : Nat) (s : Str), j' < j → L[j']? = some s → x ≠ s
theorem is_ok (c : Cx) (i d : Nat) (w : World) (h : Src w c i d) (k : Nat) (tg : Option Nat) (L : List Str) (hL : Txts w tg L) (hn : L.length ≤ 100) :
    Calls Tryz.prog 65 #[.pointer (some ⟨c.sb, 0, none⟩), .int .i64 (k : Int), slv tg L.length L.length] w (fun e w' => e = .returned (.bool (isR k L (c.ts i))) ∧ Ext w w') := by
  have H := Lib.hid h
  have HL := Lib.hid hL
  obtain ⟨q0, q1, q2, q3⟩ := blk4 h.blk
  have lb := blk_lt h.blk
  have hsm := h.small
  have hle := h.le
  go_enter Tryz.func65, Tryz.ntmps65
  go_wp2
  have hbs := bs_toList
  by_cases hi : i < c.all.length
  · obtain ⟨b, t, hg, ht, hb, hbn, hts, c0, c1, c2, c3⟩ := h.at hi
    have z := tidx_ok hg hi
    have HG := Lib.hid hg
    have HT := Lib.hid hts
    have HA := Lib.hid ht
    have hlt : decide (c.all.length ≤ i) = false := by simp; omega
    clear h hL hg ht hts c1 c2 c3
    by_cases hk : t.1 = k
    · have hne : ((t.1 : Int) == (k : Int)) = true := by rw [beq_iff_eq, hk]
      have HK : Hid (isK k (c.ts i) = true) := by show _ = _; rw [HT.out]; simp [isK, hk]
      refine region_calm [.p 0, .p 1, .p 2, .l 3, .p 4, .p 5, .p 6, .l 7, .p 8, .p 9, .p 10, .p 11, .p 12, .p 13, .l 14, .p 15, .p 16, .p 17, .l 18, .p 19, .p 20, .l 21, .p 22, .p 23, .p 24] f_mixed (by kernel_rfl) (by kernel_rfl) ?_
      repeat ((first | refine plan_p rfl (fun K hK => ?_) | refine plan_l rfl (fun K hK => ?_)); go_simp; refine hK _ ?_; clear hK K)
      refine plan_done ?_
      go_wp2
      clear c0
      go_loopg [36] L.length (fun gk v36 wr => IsInv w L t.2.1 gk v36 wr)
      case atStart => exact ⟨0, by omega, rfl, (Ext.refl w).drew, fun j s hj => absurd hj (by omega)⟩
      case round =>
        obtain ⟨j, hjk, rfl, hE, hno⟩ := hrel
        have HJK := Lib.hid hjk
        have HE := Lib.hid hE
        have HNO := Lib.hid hno
        have h' := H.out.ext hE
        obtain ⟨q0, q1, q2, q3⟩ := blk4 h'.blk
        have lb := blk_lt h'.blk
        obtain ⟨c0, c1, c2, c3⟩ := h'.cells HG.out HA.out
        clear h' c0 c2 c3 hjk hE hno
        by_cases hj : j < L.length
        · obtain ⟨s, hs⟩ : ∃ s, L[j]? = some s := ⟨_, List.getElem?_eq_getElem hj⟩
          obtain ⟨tb, htg, hc⟩ := (HL.out.ext HE.out).cell hs
          have z2 : ∀ u : World, (Instr.indexAt 24 (slv tg L.length L.length) (.int .i64 (j : Int))).run Tryz.prog u = .ok (.pointer (some ⟨tb, j, none⟩)) u := fun u => by
            have := run_index_slv ei_str (cap := L.length) htg hj u
            rwa [Nat.mul_one] at this
          have HS := Lib.hid hs
          clear hs htg
          by_cases hx : t.2.1 = s
          · have heq : (t.2.1 == s) = true := by rw [beq_iff_eq]; exact hx
            have HX := Lib.hid hx
            clear hx
            go_wp2
            refine region_calm [.p 0, .p 1, .p 2, .l 3, .p 4, .p 5, .p 6, .l 7, .p 8, .p 9, .l 10, .p 11, .p 12] f_mixed (by kernel_rfl) (by kernel_rfl) ?_
            repeat ((first | refine plan_p rfl (fun K hK => ?_) | refine plan_l rfl (fun K hK => ?_)); go_simp; refine hK _ ?_; clear hK K)
            refine plan_done ?_
            go_wp2
            go_ret
            refine ⟨?_, HE.out.drew⟩
            have : isR k L (c.ts i) = true := by
              simp only [isR, HK.out, Bool.true_and, Bool.or_eq_true, List.any_eq_true, beq_iff_eq]
              refine .inr ⟨s, List.mem_of_getElem? HS.out, ?_⟩
              rw [HT.out]; exact HX.out
            exact congrArg (fun b => Ending.returned (Value.bool b)) this.symm
          · have heq : (t.2.1 == s) = false := by rw [beq_eq_false_iff_ne]; exact hx
            have HX := Lib.hid hx
            clear hx
            go_wp2
            refine region_calm [.p 0, .p 1, .p 2, .l 3, .p 4, .p 5, .p 6, .l 7, .p 8, .p 9, .l 10, .p 11, .p 12] f_mixed (by kernel_rfl) (by kernel_rfl) ?_
            repeat ((first | refine plan_p rfl (fun K hK => ?_) | refine plan_l rfl (fun K hK => ?_)); go_simp; refine hK _ ?_; clear hK K)
            refine plan_done ?_
            go_wp2
            go_roundg (gk - 1)
            case measure => have := HJK.out; omega
            case rel =>
              refine ⟨j + 1, by have := HJK.out; omega, by go_num, HE.out.drew, fun j' s' hj' hs' => ?_⟩
              by_cases h : j' = j
              · subst h
                rw [HS.out] at hs'; cases hs'
                exact HX.out
              · exact HNO.out j' s' (by omega) hs'
        · have hjn : j = L.length := by have := HJK.out; omega
          have HJ := Lib.hid hjn
          clear hjn
          by_cases h0 : L.length = 0
          · have hz : ((L.length : Int) == 0) = true := by rw [beq_iff_eq]; omega
            go_wp2
            go_ret
            refine ⟨?_, HE.out⟩
            have : isR k L (c.ts i) = true := by
              rw [List.length_eq_zero_iff.1 h0]
              simp [isR, HK.out]
            exact congrArg (fun b => Ending.returned (Value.bool b)) this.symm
          · have hz : ((L.length : Int) == 0) = false := by rw [beq_eq_false_iff_ne]; omega
            go_wp2
            go_ret
            refine ⟨?_, HE.out⟩
            have : isR k L (c.ts i) = false := by
              have he : L.isEmpty = false := by cases L with
                | nil => simp at h0
                | cons a l => rfl
              simp only [isR, HK.out, Bool.true_and, he, Bool.false_or]
              rw [List.any_eq_false]
              intro s hs
              obtain ⟨j', hj', rfl⟩ := List.getElem_of_mem hs
              rw [beq_iff_eq, HT.out]
              exact HNO.out j' _ (by rw [HJ.out]; exact hj') (List.getElem?_eq_getElem hj')
            exact congrArg (fun b => Ending.returned (Value.bool b)) this.symm
    · have hne : ((t.1 : Int) == (k : Int)) = false := by rw [beq_eq_false_iff_ne]; omega
      refine region_calm [.p 0, .p 1, .p 2, .l 3, .p 4, .p 5, .p 6, .l 7, .p 8, .p 9, .p 10, .p 11, .p 12, .p 13, .l 14, .p 15, .p 16, .p 17, .l 18, .p 19, .p 20, .l 21, .p 22, .p 23, .p 24] f_mixed (by kernel_rfl) (by kernel_rfl) ?_
      repeat ((first | refine plan_p rfl (fun K hK => ?_) | refine plan_l rfl (fun K hK => ?_)); go_simp; refine hK _ ?_; clear hK K)
      refine plan_done ?_
      go_wp2
      go_ret
      refine ⟨?_, (Ext.refl w).drew⟩
      have : isR k L (c.ts i) = false := by
        have h1 : (t.1 == k) = false := by rw [beq_eq_false_iff_ne]; exact hk
        rw [HT.out]; simp [isR, isK, h1]
      exact congrArg (fun b => Ending.returned (Value.bool b)) this.symm
  · have HT := Lib.hid (h.stop hi)
    have hlt : decide (c.all.length ≤ i) = true := by simp; omega
    clear h
    refine region_calm [.p 0, .p 1, .p 2, .l 3, .p 4, .p 5, .p 6, .l 7, .p 8, .p 9, .p 10, .p 11, .p 12, .p 13, .l 14, .p 15, .p 16, .p 17, .l 18, .p 19, .p 20, .l 21, .p 22, .p 23, .p 24] f_mixed (by kernel_rfl) (by kernel_rfl) ?_
    repeat ((first | refine plan_p rfl (fun K hK => ?_) | refine plan_l rfl (fun K hK => ?_)); go_simp; refine hK _ ?_; clear hK K)
    refine plan_done ?_
    go_wp2
    go_ret
    refine ⟨?_, (Ext.refl w).drew⟩
    have : isR k L (c.ts i) = false := by rw [HT.out]; rfl
    exact congrArg (fun b => Ending.returned (Value.bool b)) this.symm
abbrev thrown (k p : Nat) : Ending := .panicked [{ v := .iface 59 (.agg #[.int .i64 (k : Int), .int .i64 (p : Int)]), recovered := false }]
theorem bodyPost_panic {P : Program} {fn : Func} {R : Ending → World → Prop} {a : Act} {w : World} {x : List PanicEntry} (hd : a.defers = []) (h : R (.panicked x) w) : bodyPost P fn R (.panic x) a w := ⟨hd, h⟩
theorem fail_ok (c : Cx) (i d : Nat) (w : World) (h : Src w c i d) (k : Nat) : Calls Tryz.prog 21 #[.pointer (some ⟨c.sb, 0, none⟩), .int .i64 (k : Int)] w (fun e w' => e = thrown k (plc c.E (c.ts i)) ∧ Ext w w') := by
 go_enter Tryz.func21, Tryz.ntmps21
 go_wp2_with fail
 refine (place_ok c i d _ h).mono ?_
 rintro e w1 ⟨rfl, hE⟩
 go_wp2
 exact bodyPost_panic rfl ⟨rfl, hE⟩
theorem isT_isR (s : Str) (ts : List Tok) : isT s ts = (isR 1 [s] ts || isR 4 [s] ts) := by
 cases ts with
 | nil => rfl
 | cons t r =>
   simp only [isT, isR, isK, List.isEmpty, List.any, Bool.false_or, Bool.or_false, txt]
   cases t.1 == 1 <;> cases t.1 == 4 <;> cases t.2.1 == s <;> rfl
def mayN : List Str → List Tok → Bool
 | [], _ => true
 | s :: l, ts => isT s ts && mayN l ts.tail
def onlyB (c : Cx) (k : Nat) : Prop := k = c.sb
theorem Txts.ne {w : World} {c : Cx} {i d : Nat} (h : Src w c i d) {tg : Option Nat} {L : List Str} (hL : Txts w tg L) (b : Nat) (hb : tg = some b) : b ≠ c.sb := by
 subst hb
 rintro rfl
 have h1 : w.heap[c.sb]? = some (.cells (L.map str).toArray 9 (0, 0)) := hL
 rw [h.blk] at h1
 simp at h1
theorem Txts.touch {S : Nat → Prop} {w w' : World} {tg : Option Nat} {L : List Str} (h : Txts w tg L) (ht : Touch S w w') (hn : ∀ b, tg = some b → ¬ S b) : Txts w' tg L := by
 cases tg with
 | none => exact h
 | some b => exact ht.old h (hn b rfl)
theorem txts_new (w : World) (L : List Str) : Txts (w.alloc (.cells (L.map str).toArray 9)) (some w.heap.size) L := blk_new _ _
structure MayInv (w : World) (c : Cx) (i d : Nat) (tg : Option Nat) (L : List Str) (gk : Nat) (v14 : Value) (wr : World) (j : Nat) : Prop where
 jk : j + gk = L.length
 v : v14 = .int .i64 (j : Int)
 src : Src wr c (i + j) d
 txts : Txts wr tg L
 touch : Touch (onlyB c) w wr
 so : mayN L (c.ts i) = mayN (L.drop j) (c.ts (i + j))
def MayPost (w : World) (c : Cx) (i d : Nat) (L : List Str) (e : Ending) (w' : World) : Prop :=
 e = .returned (.bool (mayN L (c.ts i))) ∧ Src w' c (if mayN L (c.ts i) then i + L.length else i) d ∧ Touch (onlyB c) w w'
theorem MayPost.no {w w' : World} {c : Cx} {i d : Nat} {L : List Str} (hm : mayN L (c.ts i) = false) (hs : Src w' c i d) (ht : Touch (onlyB c) w w') : MayPost w c i d L (.returned (.bool false)) w' :=
 ⟨by rw [hm], by rw [hm]; exact hs, ht⟩
theorem MayPost.yes {w w' : World} {c : Cx} {i d : Nat} {L : List Str} (hm : mayN L (c.ts i) = true) (hs : Src w' c (i + L.length) d) (ht : Touch (onlyB c) w w') : MayPost w c i d L (.returned (.bool true)) w' :=
 ⟨by rw [hm], by rw [hm]; exact hs, ht⟩
theorem may_ok (c : Cx) (i d : Nat) (w : World) (h : Src w c i d) (tg : Option Nat) (L : List Str) (hL : Txts w tg L) (hn : L.length ≤ 10) :
  Calls Tryz.prog 20 #[.pointer (some ⟨c.sb, 0, none⟩), slv tg L.length L.length] w (MayPost w c i d L) := by
 have H := Lib.hid h
 have HL := Lib.hid hL
 obtain ⟨q0, q1, q2, q3⟩ := blk4 h.blk
 have lb := blk_lt h.blk
 have hsm := h.small
 have hle := h.le
 clear h hL
 go_enter Tryz.func20, Tryz.ntmps20
 go_wp2
 go_loopg [14] L.length (fun gk v14 wr => ∃ j, MayInv w c i d tg L gk v14 wr j)
 case atStart => exact ⟨0, by omega, rfl, H.out, HL.out, Touch.refl _ _, rfl⟩
 case round =>
  obtain ⟨j, hI⟩ := hrel
  obtain rfl := hI.v
  have HI := Lib.hid hI
  clear q0 q1 q2 q3 lb
  have hjk := hI.jk
  clear hI
  by_cases hj : j < L.length
  · obtain ⟨s, hs⟩ : ∃ s, L[j]? = some s := ⟨_, List.getElem?_eq_getElem hj⟩
    obtain ⟨tb, htg, hc⟩ := HI.out.txts.cell hs
    have z2 : ∀ u : World, (Instr.indexAt 24 (slv tg L.length L.length) (.int .i64 (j : Int))).run Tryz.prog u = .ok (.pointer (some ⟨tb, j, none⟩)) u := fun u => by
      have := run_index_slv ei_str (cap := L.length) htg hj u
      rwa [Nat.mul_one] at this
    have HD : Hid (L.drop j = s :: L.drop (j + 1)) := by
      show _ = _
      rw [List.drop_eq_getElem_cons hj]
      congr 1
      exact Option.some.inj ((List.getElem?_eq_getElem hj).symm.trans hs)
    clear hs htg
    go_wp2_with fail
    refine (is_ok c (i + j) d _ (HI.out.src.ext ((Ext.refl wr).alloc _)) 1 (some wr.heap.size) [s] (txts_new wr [s]) (by simp)).mono ?_
    rintro e w2 ⟨rfl, hE2⟩
    have hE2' := ((Ext.refl wr).alloc _).trans hE2
    cases h1 : isR 1 [s] (c.ts (i + j)) with
    | true =>
      have HJT : Hid (isT s (c.ts (i + j)) = true) := by show _ = _; rw [isT_isR, h1]; rfl
      have HSR := Lib.hid (HI.out.src.ext hE2')
      have HTX := Lib.hid (HI.out.txts.ext hE2')
      have HTT := Lib.hid (HI.out.touch.trans (hE2'.touch _))
      clear hE2 hE2' h1 hc z2
      have hlt : i + j < c.all.length := by
        have h1 := HJT.out
        by_cases h : i + j < c.all.length
        · exact h
        · rw [HI.out.src.stop h] at h1; cases h1
      have hS := HSR.out.move (j := i + (j + 1)) (by omega)
      have hnum : ((i + (j + 1) : Nat) : Int) = ((i + j : Nat) : Int) + 1 := by omega
      have HNX : Hid (mayN L (c.ts i) = mayN (L.drop (j + 1)) (c.ts (i + (j + 1)))) := by
        show _ = _
        rw [HI.out.so, HD.out, mayN, HJT.out, Bool.true_and, Src.tail]; rfl
      have HNE := Lib.hid (Txts.ne HSR.out HTX.out)
      rw [hnum] at hS
      have HS := Lib.hid hS
      obtain ⟨q0, q1, q2, q3⟩ := blk4 HSR.out.blk
      have lb := blk_lt HSR.out.blk
      have fz := blk_frozen HSR.out.blk 1
      have hw1 : IntKind.i64.wrap ((i : Int) + (j : Int) + 1) = (i : Int) + (j : Int) + 1 := by rw [IntKind.wrap_i64]; omega
      clear hS hlt
      go_wp2
      go_roundg (gk - 1)
      case measure => have := HI.out.jk; omega
      case rel =>
        refine ⟨j + 1, ⟨by have := HI.out.jk; omega, by go_num, ?_, ?_, ?_, HNX.out⟩⟩
        · exact HS.out
        · exact (HTX.out.touch ((Touch.refl (onlyB c) _).setCell (p := ⟨c.sb, 1, none⟩) (fun _ => rfl) _) (fun b hb => HNE.out b hb))
        · exact HTT.out.setCell (p := ⟨c.sb, 1, none⟩) (fun _ => rfl) _
    | false =>
      go_wp2_with fail
      refine (is_ok c (i + j) d _ ((HI.out.src.ext hE2').ext ((Ext.refl w2).alloc _)) 4 (some w2.heap.size) [s] (txts_new w2 [s]) (by simp)).mono ?_
      rintro e w3 ⟨rfl, hE3⟩
      have hE3' := hE2'.trans (((Ext.refl w2).alloc _).trans hE3)
      cases h4 : isR 4 [s] (c.ts (i + j)) with
      | true =>
        have HJT : Hid (isT s (c.ts (i + j)) = true) := by show _ = _; rw [isT_isR, h1, h4]; rfl
        have HSR := Lib.hid (HI.out.src.ext hE3')
        have HTX := Lib.hid (HI.out.txts.ext hE3')
        have HTT := Lib.hid (HI.out.touch.trans (hE3'.touch _))
        clear hE2 hE2' hE3 hE3' h1 h4 hc z2
        have hlt : i + j < c.all.length := by
         have h1 := HJT.out
         by_cases h : i + j < c.all.length
         · exact h
         · rw [HI.out.src.stop h] at h1; cases h1
        have hS := HSR.out.move (j := i + (j + 1)) (by omega)
        have hnum : ((i + (j + 1) : Nat) : Int) = ((i + j : Nat) : Int) + 1 := by omega
        have HNX : Hid (mayN L (c.ts i) = mayN (L.drop (j + 1)) (c.ts (i + (j + 1)))) := by
         show _ = _
         rw [HI.out.so, HD.out, mayN, HJT.out, Bool.true_and, Src.tail]; rfl
        have HNE := Lib.hid (Txts.ne HSR.out HTX.out)
        rw [hnum] at hS
        have HS := Lib.hid hS
        obtain ⟨q0, q1, q2, q3⟩ := blk4 HSR.out.blk
        have lb := blk_lt HSR.out.blk
        have fz := blk_frozen HSR.out.blk 1
        have hw1 : IntKind.i64.wrap ((i : Int) + (j : Int) + 1) = (i : Int) + (j : Int) + 1 := by rw [IntKind.wrap_i64]; omega
        clear hS hlt
        go_wp2
        go_roundg (gk - 1)
        case measure => have := HI.out.jk; omega
        case rel =>
         refine ⟨j + 1, ⟨by have := HI.out.jk; omega, by go_num, ?_, ?_, ?_, HNX.out⟩⟩
         · exact HS.out
         · exact (HTX.out.touch ((Touch.refl (onlyB c) _).setCell (p := ⟨c.sb, 1, none⟩) (fun _ => rfl) _) (fun b hb => HNE.out b hb))
         · exact HTT.out.setCell (p := ⟨c.sb, 1, none⟩) (fun _ => rfl) _
      | false =>
        have HJT : Hid (isT s (c.ts (i + j)) = false) := by show _ = _; rw [isT_isR, h1, h4]; rfl
        have HSR := Lib.hid (HI.out.src.ext hE3')
        have HTT := Lib.hid (HI.out.touch.trans (hE3'.touch _))
        have hS := HSR.out.move (j := i) hle
        have HS := Lib.hid hS
        have HNO : Hid (mayN L (c.ts i) = false) := by
         show _ = _
         rw [HI.out.so, HD.out, mayN, HJT.out]; rfl
        obtain ⟨q0, q1, q2, q3⟩ := blk4 HSR.out.blk
        have lb := blk_lt HSR.out.blk
        have fz := blk_frozen HSR.out.blk 1
        clear hE2 hE2' hE3 hE3' h1 h4 hc z2 hS
        go_wp2
        go_ret
        exact MayPost.no HNO.out HS.out (HTT.out.setCell (p := ⟨c.sb, 1, none⟩) (fun _ => rfl) _)
  · have hjn : j = L.length := by omega
    have HY : Hid (mayN L (c.ts i) = true) := by
      show _ = _
      rw [HI.out.so, List.drop_eq_nil_of_le (by omega)]; rfl
    have HS : Hid (Src wr c (i + L.length) d) := by
      have := HI.out.src
      rw [hjn] at this
      exact Lib.hid this
    go_wp2
    go_ret
    exact MayPost.yes HY.out HS.out HI.out.touch
def RdPost {α : Type} (V : World → Nat → Value → α → Prop) (w : World) (c : Cx) (d : Nat) (r : Res α) (e : Ending) (w' : World) : Prop :=
 Touch (onlyB c) w w' ∧ match r with
 | .ok (x, ts) => ∃ v j, e = .returned v ∧ V w' w.heap.size v x ∧ ts = c.ts j ∧ Src w' c j d
 | .error (k, p) => e = thrown k p
theorem RdPost.ok {α : Type} {V : World → Nat → Value → α → Prop} {w w' : World} {c : Cx} {d j : Nat} {r : Res α} {x : α} {v : Value} (hr : r = .ok (x, c.ts j)) (ht : Touch (onlyB c) w w') (hv : V w' w.heap.size v x) (hs : Src w' c j d) : RdPost V w c d r (.returned v) w' := by
 subst hr; exact ⟨ht, v, j, rfl, hv, rfl, hs⟩
theorem RdPost.bad {α : Type} {V : World → Nat → Value → α → Prop} {w w' : World} {c : Cx} {d k p : Nat} {r : Res α} (hr : r = .error (k, p)) (ht : Touch (onlyB c) w w') : RdPost V w c d r (thrown k p) w' := by
 subst hr; exact ⟨ht, rfl⟩
def VUnit (_ : World) (_ : Nat) (v : Value) (_ : Unit) : Prop := v = .tuple #[]
def VStr (_ : World) (_ : Nat) (v : Value) (s : Str) : Prop := v = str s
def VNum (_ : World) (_ : Nat) (v : Value) (n : Nat) : Prop := v = .int .i64 (n : Int)
def mustN (E : Nat) : List Str → List Tok → Res Unit
 | [], ts => .ok ((), ts)
 | s :: l, ts => bnd (must E s ts) fun _ r => mustN E l r
theorem mayN_one (s : Str) (ts : List Tok) : mayN [s] ts = isT s ts := by simp [mayN]
structure MustInv (w : World) (c : Cx) (i d : Nat) (tg : Option Nat) (L : List Str) (gk : Nat) (v8 : Value) (wr : World) (j : Nat) : Prop where
 jk : j + gk = L.length
 v : v8 = .int .i64 (j : Int)
 src : Src wr c (i + j) d
 txts : Txts wr tg L
 touch : Touch (onlyB c) w wr
 so : mustN c.E L (c.ts i) = mustN c.E (L.drop j) (c.ts (i + j))
theorem must_ok (c : Cx) (i d : Nat) (w : World) (h : Src w c i d) (tg : Option Nat) (L : List Str) (hL : Txts w tg L) (hn : L.length ≤ 10) :
  Calls Tryz.prog 54 #[.pointer (some ⟨c.sb, 0, none⟩), slv tg L.length L.length] w (RdPost VUnit w c d (mustN c.E L (c.ts i))) := by
 have H := Lib.hid h
 have HL := Lib.hid hL
 clear h hL
 go_enter Tryz.func54, Tryz.ntmps54
 go_wp2
 go_loopg [8] L.length (fun gk v8 wr => ∃ j, MustInv w c i d tg L gk v8 wr j)
 case atStart => exact ⟨0, by omega, rfl, H.out, HL.out, Touch.refl _ _, rfl⟩
 case round =>
  obtain ⟨j, hI⟩ := hrel
  obtain rfl := hI.v
  have HI := Lib.hid hI
  have hjk := hI.jk
  clear hI
  by_cases hj : j < L.length
  · obtain ⟨s, hs⟩ : ∃ s, L[j]? = some s := ⟨_, List.getElem?_eq_getElem hj⟩
    obtain ⟨tb, htg, hc⟩ := HI.out.txts.cell hs
    have z2 : ∀ u : World, (Instr.indexAt 24 (slv tg L.length L.length) (.int .i64 (j : Int))).run Tryz.prog u = .ok (.pointer (some ⟨tb, j, none⟩)) u := fun u => by
      have := run_index_slv ei_str (cap := L.length) htg hj u
      rwa [Nat.mul_one] at this
    have HD : Hid (L.drop j = s :: L.drop (j + 1)) := by
      show _ = _
      rw [List.drop_eq_getElem_cons hj]
      congr 1
      exact Option.some.inj ((List.getElem?_eq_getElem hj).symm.trans hs)
    clear hs htg
    go_wp2_with fail
    refine (may_ok c (i + j) d _ (HI.out.src.ext ((Ext.refl wr).alloc _)) (some wr.heap.size) [s] (txts_new wr [s]) (by simp)).mono ?_
    rintro e w2 ⟨rfl, hS2, hT2⟩
    have hT2' : Touch (onlyB c) wr w2 := (((Ext.refl wr).alloc _).touch _).trans hT2
    have HT2 := Lib.hid hT2'
    have HTX := Lib.hid (HI.out.txts.touch hT2' (fun b hb => Txts.ne HI.out.src HI.out.txts b hb))
    rw [mayN_one] at hS2 ⊢
    clear hT2 hT2' hc z2
    cases h1 : isT s (c.ts (i + j)) with
    | true =>
      rw [h1, if_pos rfl] at hS2
      have HS2 := Lib.hid hS2
      have HNX : Hid (mustN c.E L (c.ts i) = mustN c.E (L.drop (j + 1)) (c.ts (i + (j + 1)))) := by
       show _ = _
       rw [HI.out.so, HD.out, mustN, must, if_pos h1, bnd_ok, Src.tail]; rfl
      clear hS2 h1
      go_wp2
      go_roundg (gk - 1)
      case measure => have := HI.out.jk; omega
      case rel => exact ⟨j + 1, ⟨by have := HI.out.jk; omega, by go_num, HS2.out, HTX.out, HI.out.touch.trans HT2.out, HNX.out⟩⟩
    | false =>
      rw [h1, if_neg (by simp)] at hS2
      have HS2 := Lib.hid hS2
      have HNX : Hid (mustN c.E L (c.ts i) = .error (150, plc c.E (c.ts (i + j)))) := by
       show _ = _
       rw [HI.out.so, HD.out, mustN, must, h1]; rfl
      clear hS2 h1
      go_wp2_with fail
      refine (fail_ok c (i + j) d _ HS2.out 150).mono ?_
      rintro e w3 ⟨rfl, hE3⟩
      go_wp2
      exact bodyPost_panic rfl (RdPost.bad HNX.out (HI.out.touch.trans (HT2.out.trans (hE3.touch _))))
  · have hjn : j = L.length := by omega
    have HY : Hid (mustN c.E L (c.ts i) = .ok ((), c.ts (i + L.length))) := by
      show _ = _
      rw [HI.out.so, List.drop_eq_nil_of_le (by omega), hjn]; rfl
    have HS : Hid (Src wr c (i + L.length) d) := by
      have := HI.out.src
      rw [hjn] at this
      exact Lib.hid this
    go_wp2
    (try simp only [Exit.inBlock, Exit.then]); refine bodyPost_end (results_none rfl _ _ _) rfl ?_
    exact RdPost.ok HY.out HI.out.touch rfl HS.out
theorem mustN_one (E : Nat) (s : Str) (ts : List Tok) : mustN E [s] ts = must E s ts := by
 simp only [mustN]
 cases must E s ts with
 | error e => rfl
 | ok q => rfl
theorem isR_nil (k : Nat) (ts : List Tok) : isR k [] ts = isK k ts := by simp [isR]
theorem nxt_lt {c : Cx} {i k : Nat} (h : isK k (c.ts i) = true) : i < c.all.length := by
 by_cases hi : i < c.all.length
 · exact hi
 · rw [show c.ts i = [] from List.drop_eq_nil_of_le (by omega)] at h
   cases h
theorem number_ok' (c : Cx) (i d : Nat) (w : World) (h : Src w c i d) :
   Calls Tryz.prog 93 #[.pointer (some ⟨c.sb, 0, none⟩)] w (RdPost VNum w c d (number c.E (c.ts i))) := by
 have H := Lib.hid h
 clear h
 go_enter Tryz.func93, Tryz.ntmps93
 go_wp2_with fail
 refine (is_ok c i d _ H.out 2 none [] rfl (by simp)).mono ?_
 rintro e w2 ⟨rfl, hE2⟩
 rw [isR_nil]
 have HS2 := Lib.hid (H.out.ext hE2)
 have HE2 := Lib.hid hE2
 clear hE2
 cases hk : isK 2 (c.ts i) with
 | false =>
   have HN : Hid (number c.E (c.ts i) = .error (150, plc c.E (c.ts i))) := by show _ = _; rw [number, hk]; rfl
   go_wp2_with fail
   refine (fail_ok c i d _ HS2.out 150).mono ?_
   rintro e w3 ⟨rfl, hE3⟩
   go_wp2
   exact bodyPost_panic rfl (RdPost.bad HN.out ((HE2.out.trans hE3).touch _))
 | true =>
   have hi := nxt_lt hk
   have hi1 : i < c.all.length := hi
   have HS3 := Lib.hid (HS2.out.move (j := i + 1) (by omega))
   obtain ⟨b, t, hg, ht, hb, hbn, hts, c0, c1, c2, c3⟩ := HS2.out.at hi
   have z := tidx_ok hg hi
   have HN : Hid (number c.E (c.ts i) = .ok (t.2.2.1, c.ts (i + 1))) := by
    show _ = _
    rw [number, if_pos hk, Src.tail, hts]; rfl
   obtain ⟨q0, q1, q2, q3⟩ := blk4 HS2.out.blk
   have lb := blk_lt HS2.out.blk
   have fz := blk_frozen HS2.out.blk 1
   have hsm := HS2.out.small
   have hw1 : IntKind.i64.wrap ((i : Int) + 1) = (i : Int) + 1 := by rw [IntKind.wrap_i64]; omega
   have hw2 : IntKind.i64.wrap (i : Int) = (i : Int) := by rw [IntKind.wrap_i64]; omega
   clear hk hg ht hts c0 c1 c3 hi1
   go_wp2
   refine region_calm [.p 0, .p 1, .p 2, .l 3, .p 4, .p 5, .p 6, .l 7, .p 8, .p 9, .p 10, .l 11, .p 12] f_mixed (by kernel_rfl) (by kernel_rfl) ?_
   repeat ((first | refine plan_p rfl (fun K hK => ?_) | refine plan_l rfl (fun K hK => ?_)); go_simp; refine hK _ ?_; clear hK K)
   refine plan_done ?_
   go_wp2
   go_ret
   exact RdPost.ok (v := .int .i64 (t.2.2.1 : Int)) HN.out (((HE2.out.touch (onlyB c)).setCell (p := ⟨c.sb, 1, none⟩) (fun _ => rfl) _).drew) rfl (HS3.out.ext (Ext.refl _).drew)
theorem reserved_ok (l : List UInt8) (w : World) : Calls Tryz.prog 89 #[str l] w (fun e w' => e = .returned (.bool (resv l)) ∧ w' = w) := by
 have hbs := bs_toList
 go_enter Tryz.func89, Tryz.ntmps89
 go_wp2
 all_goals (go_ret; refine ⟨congrArg (fun b => Ending.returned (Value.bool b)) ?_, rfl⟩; clear hbs; simp_all [resv, reservedL])
theorem name_ok (c : Cx) (i d : Nat) (w : World) (h : Src w c i d) :
   Calls Tryz.prog 53 #[.pointer (some ⟨c.sb, 0, none⟩)] w (RdPost VStr w c d (name c.E (c.ts i))) := by
 have H := Lib.hid h
 clear h
 have hbs := bs_size
 go_enter Tryz.func53, Tryz.ntmps53
 go_wp2
 refine region_calm [.p 0, .h 1 false, .p 2, .p 3, .p 4, .p 5, .p 6, .l 7, .p 8, .p 9, .p 10, .l 11, .p 12, .p 13, .l 14, .h 15 false, .p 16, .p 17, .p 18, .p 19, .p 20, .l 21, .p 22, .p 23, .p 24, .l 25, .p 26, .p 27, .l 28, .p 29, .p 30, .p 31] f_mixed (by kernel_rfl) (by kernel_rfl) ?_
 repeat ((first | refine plan_p rfl (fun K hK => ?_) | refine plan_l rfl (fun K hK => ?_)); go_simp; refine hK _ ?_; clear hK K)
 refine plan_c rfl rfl (fun K _ hK => ?_)
 go_wp2_with fail
 refine (is_ok c i d _ (H.out.ext (Ext.refl _).drew) 1 none [] rfl (by simp)).mono ?_
 rintro e w2 ⟨rfl, hE2⟩
 rw [isR_nil]
 have HE2 := Lib.hid ((Ext.refl _).drew.trans hE2)
 have HS2 := Lib.hid (H.out.ext HE2.out)
 clear hE2
 cases hk : isK 1 (c.ts i) with
 | false =>
   have HN : Hid (name c.E (c.ts i) = .error (150, plc c.E (c.ts i))) := by show _ = _; rw [name, nameT, hk]; rfl
   go_wp2
   repeat ((first | refine plan_p rfl (fun K hK => ?_) | refine plan_l rfl (fun K hK => ?_)); go_simp; refine hK _ ?_; clear hK K)
   refine plan_h rfl (fun K hK => ?_)
   go_wp2
   repeat ((first | refine plan_p rfl (fun K hK => ?_) | refine plan_l rfl (fun K hK => ?_)); go_simp; refine hK _ ?_; clear hK K)
   refine plan_done ?_
   go_wp2_with fail
   refine (fail_ok c i d _ HS2.out 150).mono ?_
   rintro e w3 ⟨rfl, hE3⟩
   go_wp2
   exact bodyPost_panic rfl (RdPost.bad HN.out ((HE2.out.trans hE3).touch _))
 | true =>
   have hi := nxt_lt hk
   obtain ⟨b, t, hg, ht, hb, hbn, hts, c0, c1, c2, c3⟩ := HS2.out.at hi
   have z := tidx_ok hg hi
   obtain ⟨q0, q1, q2, q3⟩ := blk4 HS2.out.blk
   have lb := blk_lt HS2.out.blk
   have hsm := HS2.out.small
   have HTS := Lib.hid hts
   have HK := Lib.hid hk
   clear hk hg ht hts c0 c2 c3
   go_wp2
   repeat ((first | refine plan_p rfl (fun K hK => ?_) | refine plan_l rfl (fun K hK => ?_)); go_simp; refine hK _ ?_; clear hK K)
   refine plan_h rfl (fun K hK => ?_)
   go_wp2_with fail
   refine (reserved_ok t.2.1 _).mono ?_
   rintro e w3 ⟨rfl, rfl⟩
   cases hr : resv t.2.1 with
   | true =>
     have HN : Hid (name c.E (c.ts i) = .error (150, plc c.E (c.ts i))) := by show _ = _; rw [name, nameT, HTS.out, txt, hr]; simp; rfl
     go_wp2
     repeat ((first | refine plan_p rfl (fun K hK => ?_) | refine plan_l rfl (fun K hK => ?_)); go_simp; refine hK _ ?_; clear hK K)
     refine plan_done ?_
     go_wp2_with fail
     refine (fail_ok c i d _ HS2.out 150).mono ?_
     rintro e w4 ⟨rfl, hE4⟩
     go_wp2
     exact bodyPost_panic rfl (RdPost.bad HN.out ((HE2.out.trans hE4).touch _))
   | false =>
     by_cases hlen : t.2.1.length ≤ 24
     · have HN : Hid (name c.E (c.ts i) = .ok (t.2.1, c.ts (i + 1))) := by
        have h1 : nameT (c.ts i) = true := by rw [nameT, HK.out, HTS.out, txt, hr]; simpa using hlen
        show _ = _
        rw [name, if_pos h1, Src.tail, HTS.out]; rfl
       have hz : decide (24 < t.2.1.length) = false := by simp; omega
       have fz := blk_frozen HS2.out.blk 1
       have HS3 := Lib.hid (HS2.out.move (j := i + 1) (by omega))
       have hw1 : IntKind.i64.wrap ((i : Int) + 1) = (i : Int) + 1 := by rw [IntKind.wrap_i64]; omega
       have hw2 : IntKind.i64.wrap (i : Int) = (i : Int) := by rw [IntKind.wrap_i64]; omega
       go_wp2
       repeat ((first | refine plan_p rfl (fun K hK => ?_) | refine plan_l rfl (fun K hK => ?_)); go_simp; refine hK _ ?_; clear hK K)
       refine plan_done ?_
       go_wp2
       refine region_calm [.p 0, .p 1, .p 2, .l 3, .p 4, .p 5, .p 6, .l 7, .p 8, .p 9, .p 10, .l 11, .p 12] f_mixed (by kernel_rfl) (by kernel_rfl) ?_
       repeat ((first | refine plan_p rfl (fun K hK => ?_) | refine plan_l rfl (fun K hK => ?_)); go_simp; refine hK _ ?_; clear hK K)
       refine plan_done ?_
       go_wp2
       go_ret
       exact RdPost.ok (v := str t.2.1) HN.out (((HE2.out.touch (onlyB c)).setCell (p := ⟨c.sb, 1, none⟩) (fun _ => rfl) _).drew) rfl (HS3.out.ext (Ext.refl _).drew)
     · have HN : Hid (name c.E (c.ts i) = .error (150, plc c.E (c.ts i))) := by
        have h1 : nameT (c.ts i) = false := by rw [nameT, HK.out, HTS.out, txt, hr]; simpa using hlen
        show _ = _
        rw [name, h1]; rfl
       have hz : decide (24 < t.2.1.length) = true := by simp; omega
       go_wp2
       repeat ((first | refine plan_p rfl (fun K hK => ?_) | refine plan_l rfl (fun K hK => ?_)); go_simp; refine hK _ ?_; clear hK K)
       refine plan_done ?_
       go_wp2_with fail
       refine (fail_ok c i d _ HS2.out 150).mono ?_
       rintro e w4 ⟨rfl, hE4⟩
       go_wp2
       exact bodyPost_panic rfl (RdPost.bad HN.out ((HE2.out.trans hE4).touch _))
end Go.Proofs.YtkhnpmeohjafiaaGreatDoor
