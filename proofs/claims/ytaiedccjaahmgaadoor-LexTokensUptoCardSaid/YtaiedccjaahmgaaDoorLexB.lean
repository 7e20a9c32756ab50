/- LexBlanks: walked. -/
import Derived.Test.YtaiedccjaahmgaaDoorLex7
namespace Go.Proofs.YtaiedccjaahmgaaDoor
open Go.RowKit

theorem lexOf_len {l : List UInt8} {ts : List Tok} (h : lexOf l = .inr ts) : l.length ≤ 4096 ∧ tk 0 l = .inr ts := by
  unfold lexOf at h
  split at h
  · cases h
  · rename_i hl
    split at h
    · cases h
    · rename_i ts' hts
      cases h
      exact ⟨by omega, hts⟩
theorem lexOf_code {l : List UInt8} {f : Nat × Nat} (h : lexOf l = .inl f) : f.1 = 2 ∨ f.1 = 140 := by
  unfold lexOf at h
  split at h
  · cases h; exact .inl rfl
  · split at h
    · cases h; exact .inr rfl
    · cases h
theorem flatT_get : ∀ (ts : List Tok) (i : Nat) (t : Tok), ts[i]? = some t → (flatT ts)[i * 4]? = some (.int .i64 (t.1 : Int)) ∧ (flatT ts)[i * 4 + 1]? = some (str t.2.1) ∧ (flatT ts)[i * 4 + 2]? = some (.int .i64 (t.2.2.1 : Int)) ∧ (flatT ts)[i * 4 + 3]? = some (.int .i64 (t.2.2.2 : Int))
  | [], i, t, h => by simp at h
  | u :: ts, 0, t, h => by simp at h; subst h; simp [flatT, tokC]
  | u :: ts, i + 1, t, h => by
    have := flatT_get ts i t (by simpa using h)
    rw [show (i + 1) * 4 = i * 4 + 4 from by omega]
    simpa [flatT, tokC] using this

/-- The blank at a place, three by turns. -/
def bl3 (d : Nat) : UInt8 := if d = 0 then 32 else if d = 1 then 9 else 10
def pat : Nat → List UInt8
  | 0 => []
  | n + 1 => pat n ++ [bl3 (n % 3)]
theorem bl3_b (d : Nat) : isB (bl3 d) = true := by unfold bl3; split; rfl; split <;> rfl
theorem pat_len : ∀ n, (pat n).length = n
  | 0 => rfl
  | n + 1 => by simp [pat, pat_len n]
theorem pat_b : ∀ n, ∀ x ∈ pat n, isB x = true
  | 0, x, h => by simp [pat] at h
  | n + 1, x, h => by
    simp only [pat, List.mem_append, List.mem_singleton] at h
    rcases h with h | rfl
    · exact pat_b n x h
    · exact bl3_b _
theorem bl3_cut (d : Nat) (hd : d < 3) : (⟨#[32, 9, 10]⟩ : ByteArray).extract d (d + 1) = bs [bl3 d] := by
  have h : ∀ k : Fin 3, (bs [32, 9, 10]).extract k.val (k.val + 1) = bs [bl3 k.val] := by
    intro k
    rw [bs_extract]
    congr 1
    revert k
    decide
  exact h ⟨d, hd⟩
theorem spaced_append : ∀ a b : List (List UInt8 × List UInt8), spaced (a ++ b) = spaced a ++ spaced b
  | [], _ => rfl
  | (w, b) :: a, c => by simp [spaced, spaced_append a c]
theorem spaced_snoc (bl : List (List UInt8 × List UInt8)) (w b : List UInt8) : spaced (bl ++ [(w, b)]) = spaced bl ++ w ++ b := by rw [spaced_append]; simp [spaced]
theorem cat_big {P : Program} (a b : List UInt8) (u : World) (h : a.length + b.length ≤ 100000000000) : (Op.stringOp .add (bs a) (bs b)).run P u = .ok (str (a ++ b)) u := by
  rw [run_string_add_sum u _ _ (by rw [bs_size, bs_size]; omega)]
  unfold bs
  rw [ByteArray.mk_append_mk]
  rfl

/-- So far: words and their blanks, and each word's token. -/
structure Sp (bl : List (List UInt8 × List UInt8)) (ts : List Tok) : Prop where
  len : bl.length = ts.length
  all : ∀ (i : Nat) (w b : List UInt8) (t : Tok), bl[i]? = some (w, b) → ts[i]? = some t → tk 0 w = .inr [t] ∧ b ≠ [] ∧ ∀ x ∈ b, isB x = true
theorem Sp.start : Sp [] [] := ⟨rfl, by simp⟩
theorem Sp.next {bl : List (List UInt8 × List UInt8)} {ts : List Tok} (h : Sp bl ts) {w b : List UInt8} {t : Tok} (hw : tk 0 w = .inr [t]) (hb : b ≠ []) (ha : ∀ x ∈ b, isB x = true) : Sp (bl ++ [(w, b)]) (ts ++ [t]) := by
  refine ⟨by simp [h.len], fun i w' b' t' h1 h2 => ?_⟩
  rcases Nat.lt_or_ge i bl.length with hl | hl
  · rw [List.getElem?_append_left hl] at h1
    rw [List.getElem?_append_left (by rw [← h.len]; exact hl)] at h2
    exact h.all i w' b' t' h1 h2
  · rw [List.getElem?_append_right hl] at h1
    rw [List.getElem?_append_right (by rw [← h.len]; exact hl)] at h2
    have h3 : i - bl.length = 0 := by
      have := (List.getElem?_eq_some_iff.1 h1).1
      simp at this; omega
    rw [← h.len, h3] at h2
    rw [h3] at h1
    simp at h1 h2
    obtain ⟨rfl, rfl⟩ := h1
    subst h2
    exact ⟨hw, hb, ha⟩
/-- .. with one blank behind each. -/
def ones (bl : List (List UInt8 × List UInt8)) : List (List UInt8 × List UInt8) := bl.map fun z => (z.1, [32])
theorem Sp.ones {bl : List (List UInt8 × List UInt8)} {ts : List Tok} (h : Sp bl ts) : Sp (ones bl) ts := by
  refine ⟨by simp [Go.Proofs.YtaiedccjaahmgaaDoor.ones, h.len], fun i w b t h1 h2 => ?_⟩
  unfold Go.Proofs.YtaiedccjaahmgaaDoor.ones at h1
  rw [List.getElem?_map] at h1
  cases hb : bl[i]? with
  | none => rw [hb] at h1; cases h1
  | some z =>
    rw [hb] at h1
    simp only [Option.map_some, Option.some.injEq, Prod.mk.injEq] at h1
    obtain ⟨rfl, rfl⟩ := h1
    exact ⟨(h.all i z.1 z.2 t hb h2).1, by simp, by simp [isB]⟩
theorem ones_snoc (bl : List (List UInt8 × List UInt8)) (w b : List UInt8) : ones (bl ++ [(w, b)]) = ones bl ++ [(w, [32])] := by simp [ones]
theorem Sp.lexOf {bl : List (List UInt8 × List UInt8)} {ts : List Tok} (h : Sp bl ts) (hl : (spaced bl).length ≤ 4096) : ∃ us, lexOf (spaced bl) = .inr us ∧ us.map bareT = ts.map bareT := by
  obtain ⟨us, h1, h2⟩ := tk_spaced bl ts 0 h.len h.all
  refine ⟨us, ?_, h2⟩
  unfold Go.Proofs.YtaiedccjaahmgaaDoor.lexOf
  rw [if_neg (by omega), h1]

/-- The words that came in. -/
def Wds (w : World) (sv : Option Addr) (ws : List (List UInt8)) : Prop :=
  0 < ws.length → ∃ lb off, sv = some ⟨lb, off, none⟩ ∧ ∀ i (x : List UInt8), ws[i]? = some x → w.cell? ⟨lb, off + i, none⟩ = some (str x)
theorem Wds.ext {w w' : World} {sv : Option Addr} {ws : List (List UInt8)} (h : Wds w sv ws) (he : Ext w w') : Wds w' sv ws := fun hn => by
  obtain ⟨lb, off, h1, h2⟩ := h hn
  exact ⟨lb, off, h1, fun i x hx => Ext.cell he (h2 i x hx)⟩
/-- The numbers that came in. -/
def Nums (w : World) (sv : Option Addr) (xs : List Int) : Prop :=
  0 < xs.length → ∃ lb off, sv = some ⟨lb, off, none⟩ ∧ ∀ i (x : Int), xs[i]? = some x → w.cell? ⟨lb, off + i, none⟩ = some (.int .i64 x)
theorem Nums.ext {w w' : World} {sv : Option Addr} {xs : List Int} (h : Nums w sv xs) (he : Ext w w') : Nums w' sv xs := fun hn => by
  obtain ⟨lb, off, h1, h2⟩ := h hn
  exact ⟨lb, off, h1, fun i x hx => Ext.cell he (h2 i x hx)⟩

def BlkInv (w : World) (ws : List (List UInt8)) (n k : Nat) (v5 v6 v22 : Value) (wr : World) : Prop :=
  ∃ (i : Nat) (bl : List (List UInt8 × List UInt8)) (ts : List Tok), i + k = n ∧ v22 = .int .i64 (i : Int) ∧ v5 = str (spaced (ones bl)) ∧ v6 = str (spaced bl) ∧ Sp bl ts ∧ bl.length = i ∧ (spaced (ones bl)).length ≤ i * 4097 ∧ (spaced bl).length ≤ i * 4104 ∧ Ext w wr

/-- Tokens from i on stand as they were. -/
def TokAt (wr : World) (b : Nat) (ts : List Tok) (i : Nat) : Prop :=
  (∃ cur, wr.heap[b]? = some (.cells cur 30 (0, 0))) ∧ ∀ (j : Nat) (t : Tok), i ≤ j → ts[j]? = some t → wr.cell? ⟨b, j * 4, none⟩ = some (.int .i64 (t.1 : Int)) ∧ wr.cell? ⟨b, j * 4 + 1, none⟩ = some (str t.2.1) ∧ wr.cell? ⟨b, j * 4 + 2, none⟩ = some (.int .i64 (t.2.2.1 : Int)) ∧ wr.cell? ⟨b, j * 4 + 3, none⟩ = some (.int .i64 (t.2.2.2 : Int))
theorem TokAt.of {wr : World} {b n cap : Nat} {ts : List Tok} (h : Sl wr 30 4 (some b) n cap (flatT ts)) : TokAt wr b ts 0 := by
  have h' := h
  obtain ⟨_, cur, hb, _⟩ := h'
  refine ⟨⟨cur, hb⟩, fun j t _ ht => ?_⟩
  obtain ⟨k0, k1, k2, k3⟩ := flatT_get ts j t ht
  exact ⟨h.cell k0, h.cell k1, h.cell k2, h.cell k3⟩
theorem TokAt.congr {wr w' : World} {b i : Nat} {ts : List Tok} (h : TokAt wr b ts i) (hc : w'.heap[b]? = wr.heap[b]?) : TokAt w' b ts i := by
  obtain ⟨⟨cur, h1⟩, h2⟩ := h
  refine ⟨⟨cur, hc.trans h1⟩, fun j t hj ht => ?_⟩
  obtain ⟨k0, k1, k2, k3⟩ := h2 j t hj ht
  exact ⟨(World.cell?_of_block (w := wr) hc).trans k0, (World.cell?_of_block (w := wr) hc).trans k1, (World.cell?_of_block (w := wr) hc).trans k2, (World.cell?_of_block (w := wr) hc).trans k3⟩
theorem cell_set_ne {w : World} {b i j : Nat} (v : Value) (h : i ≠ j) {u : Value} (hc : w.cell? ⟨b, i, none⟩ = some u) : (w.setCell ⟨b, j, none⟩ v).cell? ⟨b, i, none⟩ = some u := by
  rw [← hc]
  exact World.cell?_setCell_other _ _ _ _ (fun e => h (Addr.mk.inj e).2.1.symm)
theorem far_set {w : World} {b c i j : Nat} {v : Value} (h : b ≠ c) {u : Value} (hc : w.cell? ⟨b, i, none⟩ = some u) : (w.setCell ⟨c, j, none⟩ v).cell? ⟨b, i, none⟩ = some u := by
  rw [← hc]
  exact World.cell?_setCell_other _ _ _ _ (fun e => h (Addr.mk.inj e).1.symm)
theorem TokAt.set {wr : World} {b i : Nat} {ts : List Tok} (h : TokAt wr b ts i) (v : Value) : TokAt (wr.setCell ⟨b, i * 4 + 3, none⟩ v) b ts (i + 1) := by
  obtain ⟨⟨cur, h1⟩, h2⟩ := h
  refine ⟨⟨_, blk_set h1 _ _⟩, fun j t hj ht => ?_⟩
  obtain ⟨k0, k1, k2, k3⟩ := h2 j t (by omega) ht
  exact ⟨cell_set_ne v (by omega) k0, cell_set_ne v (by omega) k1, cell_set_ne v (by omega) k2, cell_set_ne v (by omega) k3⟩

theorem bare_at {us vs : List Tok} (h : us.map bareT = vs.map bareT) {i : Nat} {a b : Tok} (ha : us[i]? = some a) (hb : vs[i]? = some b) : a.1 = b.1 ∧ a.2.1 = b.2.1 ∧ a.2.2.1 = b.2.2.1 := by
  have := congrArg (fun l : List Tok => l[i]?) h
  simp only [List.getElem?_map, ha, hb, Option.map_some, Option.some.injEq, bareT, Prod.mk.injEq] at this
  exact ⟨this.1, this.2.1, this.2.2.1⟩

set_option maxRecDepth 100000 in
set_option maxHeartbeats 16000000 in
theorem blanks_any (sv sb : Option Addr) (n cap m capb : Nat) (ws : List (List UInt8)) (xs : List Int) (w : World) (hn : ws.length = n) (hm : xs.length = m) (hc : Wds w sv ws) (hx : Nums w sb xs) (hn1 : n ≤ 1048576) (hm1 : m ≤ 1048576) (hl : ∀ x ∈ ws, x.length ≤ 1048576) :
    Calls Tryd.prog 4 #[.slice sv n cap, .slice sb m capb] w (fun e w' => e = .returned (.bool true) ∧ Ext w w') := by
  have HN := Lib.hid hn; clear hn
  have HM := Lib.hid hm; clear hm
  have HC := Lib.hid hc; clear hc
  have HX := Lib.hid hx; clear hx
  have HL := Lib.hid hl; clear hl
  go_enter Tryd.func4, Tryd.ntmps4
  go_wp2_with fail
  refine (awake_ok w).mono ?_
  rintro e w1 ⟨rfl, hE1⟩
  go_wp2
  have hbs := bs_toList
  go_loopg [5, 6, 22] n (fun k v5 v6 v22 wr => BlkInv w ws n k v5 v6 v22 wr)
  case atStart => exact ⟨0, [], [], by omega, rfl, rfl, rfl, Sp.start, rfl, by simp [ones, spaced], by simp [spaced], hE1⟩
  case round =>
    obtain ⟨i, bl, ts, hik, rfl, rfl, rfl, hsp, hbl, hba, hbb, hE⟩ := hrel
    have HIK := Lib.hid hik; clear hik
    have HSP := Lib.hid hsp; clear hsp
    have HBL := Lib.hid hbl; clear hbl
    have HBA := Lib.hid hba; clear hba
    have HBB := Lib.hid hbb; clear hbb
    by_cases hlt : i < n
    · obtain ⟨lb, off, hsv, hcell⟩ := (HC.out.ext hE) (by have := HN.out; omega)
      subst hsv
      obtain ⟨x, hx⟩ : ∃ x, ws[i]? = some x := ⟨ws[i]'(by rw [HN.out]; exact hlt), by rw [List.getElem?_eq_getElem]⟩
      have c0 := hcell i x hx
      have hlb : lb < wr.heap.size := World.block_lt_of_cell? wr _ c0
      have hxl := HL.out x (List.mem_of_getElem? hx)
      clear hcell hx
      cases hlex : lexOf x with
      | inl f =>
        obtain ⟨c, p⟩ := f
        have hcz : ((c : Int) == 0) = false := by
          rcases lexOf_code hlex with h | h <;> (simp only at h; subst h; rfl)
        have hcz2 : ((c : Int) != 0) = true := by
          rcases lexOf_code hlex with h | h <;> (simp only at h; subst h; rfl)
        have HLEX := Lib.hid hlex; clear hlex
        go_wp2_with fail
        refine (tokens_bad x _ (by omega) c p HLEX.out).mono ?_
        rintro e w3 ⟨rfl, hE3⟩
        go_wp2
        go_ret
        exact ⟨rfl, (hE.trans hE3).alloc _⟩
      | inr tx =>
        have HLEX := Lib.hid hlex; clear hlex
        go_wp2_with fail
        refine (tokens_good x _ (by omega) tx HLEX.out).mono ?_
        rintro e w3 ⟨g3, cap3, rfl, hS3, hg3, hE3⟩
        clear hS3 hg3
        by_cases h1 : tx.length = 1
        · obtain ⟨t, rfl⟩ : ∃ t, tx = [t] := by
            cases tx with
            | nil => simp at h1
            | cons t r => cases r with
              | nil => exact ⟨t, rfl⟩
              | cons _ _ => simp at h1
          have HTK := Lib.hid (lexOf_len HLEX.out).2
          have HXL := Lib.hid (lexOf_len HLEX.out).1
          replace hE3 := hE.trans hE3
          have hA1 : (spaced (ones bl)).length ≤ 50000000000 := by have := HBA.out; omega
          have hB1 : (spaced bl).length ≤ 40000000000 := by have := HBB.out; omega
          have hc1 : ∀ u : World, (Op.stringOp .add (bs x) ⟨#[32]⟩).run Tryd.prog u = .ok (str (x ++ [32])) u := fun u => cat_big x [32] u (by simp; omega)
          have hc2 : ∀ u : World, (Op.stringOp .add (bs (spaced (ones bl))) (bs (x ++ [32]))).run Tryd.prog u = .ok (str (spaced (ones bl) ++ (x ++ [32]))) u := fun u => cat_big _ _ u (by simp; omega)
          have hc3 : ∀ u : World, (Op.stringOp .add (bs (spaced bl)) (bs x)).run Tryd.prog u = .ok (str (spaced bl ++ x)) u := fun u => cat_big _ _ u (by omega)
          simp only [List.length_singleton]
          clear h1 hA1 hB1 hxl c0 hlb
          by_cases him : i < m
          · obtain ⟨lb2, off2, hsb, hcell2⟩ := (HX.out.ext hE3) (by have := HM.out; omega)
            subst hsb
            obtain ⟨v, hv⟩ : ∃ v, xs[i]? = some v := ⟨xs[i]'(by rw [HM.out]; exact him), by rw [List.getElem?_eq_getElem]⟩
            have d0 := hcell2 i v hv
            have hlb2 : lb2 < w3.heap.size := World.block_lt_of_cell? w3 _ d0
            clear hcell2 hv
            by_cases hv0 : 0 < v
            · by_cases hv9 : v < 9
              · obtain ⟨nn, rfl⟩ : ∃ nn : Nat, v = (nn : Int) := ⟨v.toNat, by omega⟩
                go_wp2
                have hp3 : 0 < nn := by omega
                clear HLEX
                go_loopg [6, 12] nn (fun k v6 v12 wq => ∃ (j : Nat) (S : List UInt8), j + k = nn ∧ v12 = .int .i64 (j : Int) ∧ v6 = str S ∧ S = spaced bl ++ x ++ pat j ∧ Ext w wq)
                case atStart => exact ⟨0, spaced bl ++ x, by omega, rfl, rfl, by simp [pat], by first | exact hE3.alloc _ | exact hE3⟩
                case round =>
                  obtain ⟨j, S, hjk, rfl, rfl, hS, hEq⟩ := hrel
                  have HJK := Lib.hid hjk; clear hjk
                  have HS := Lib.hid hS; clear hS
                  by_cases hj : j < nn
                  · have hjI : (j : Int) < (nn : Int) := by omega
                    obtain ⟨d, hd⟩ : ∃ d, d = j % 3 := ⟨_, rfl⟩
                    have hr2 : Int.tmod (j : Int) 3 = (d : Int) := by rw [Int.tmod_eq_emod_of_nonneg (by omega)]; omega
                    have hd1 : (0 : Int) ≤ (d : Int) := by omega
                    have hd2 : ((d : Int) + 1).toNat = d + 1 := by omega
                    have hd3 : (d : Int) + 1 ≤ 3 := by omega
                    have hcut := bl3_cut d (by omega)
                    have hSl : S.length ≤ 50000000000 := by have := HBB.out; have := HXL.out; rw [HS.out]; simp [pat_len]; omega
                    have hcS : ∀ u : World, (Op.stringOp .add (bs S) (bs [bl3 d])).run Tryd.prog u = .ok (str (S ++ [bl3 d])) u := fun u => cat_big S [bl3 d] u (by simp; omega)
                    have HD := Lib.hid hd
                    clear hd hj hSl
                    go_wp2
                    go_roundg (gk - 1)
                    case measure => have := HJK.out; omega
                    case rel => exact ⟨j + 1, S ++ [bl3 d], by have := HJK.out; omega, by go_num, rfl, by rw [HS.out, HD.out]; simp [pat], by repeat (first | exact hEq | refine Ext.drew ?_)⟩
                  · have hjn : j = nn := by have := HJK.out; omega
                    have HJN := Lib.hid hjn
                    clear hjn
                    go_wp2
                    go_roundg (n - (i + 1))
                    case measure => have := HIK.out; omega
                    case rel =>
                      refine ⟨i + 1, bl ++ [(x, pat nn)], ts ++ [t], by have := HIK.out; omega, by go_num, ?_, ?_, ?_, ?_, ?_, ?_, ?_⟩
                      · rw [ones_snoc, spaced_snoc]; (try simp)
                      · rw [spaced_snoc, HS.out, HJN.out]
                      · exact HSP.out.next HTK.out (by intro e; have := congrArg List.length e; rw [pat_len, List.length_nil] at this; omega) (pat_b _)
                      · rw [List.length_append, HBL.out]; rfl
                      · rw [ones_snoc, spaced_snoc]; have := HBA.out; have := HXL.out; simp; omega
                      · rw [spaced_snoc]; have := HBB.out; have := HXL.out; simp [pat_len]; omega
                      · exact hEq
              · have hz9 : decide (v < 9) = false := by rw [decide_eq_false_iff_not]; exact hv9
                go_wp2
                have hp3 : 0 < 1 := by omega
                clear HLEX
                go_loopg [6, 12] 1 (fun k v6 v12 wq => ∃ (j : Nat) (S : List UInt8), j + k = 1 ∧ v12 = .int .i64 (j : Int) ∧ v6 = str S ∧ S = spaced bl ++ x ++ pat j ∧ Ext w wq)
                case atStart => exact ⟨0, spaced bl ++ x, by omega, rfl, rfl, by simp [pat], by first | exact hE3.alloc _ | exact hE3⟩
                case round =>
                  obtain ⟨j, S, hjk, rfl, rfl, hS, hEq⟩ := hrel
                  have HJK := Lib.hid hjk; clear hjk
                  have HS := Lib.hid hS; clear hS
                  by_cases hj : j < 1
                  · have hjI : (j : Int) < (1 : Int) := by omega
                    obtain ⟨d, hd⟩ : ∃ d, d = j % 3 := ⟨_, rfl⟩
                    have hr2 : Int.tmod (j : Int) 3 = (d : Int) := by rw [Int.tmod_eq_emod_of_nonneg (by omega)]; omega
                    have hd1 : (0 : Int) ≤ (d : Int) := by omega
                    have hd2 : ((d : Int) + 1).toNat = d + 1 := by omega
                    have hd3 : (d : Int) + 1 ≤ 3 := by omega
                    have hcut := bl3_cut d (by omega)
                    have hSl : S.length ≤ 50000000000 := by have := HBB.out; have := HXL.out; rw [HS.out]; simp [pat_len]; omega
                    have hcS : ∀ u : World, (Op.stringOp .add (bs S) (bs [bl3 d])).run Tryd.prog u = .ok (str (S ++ [bl3 d])) u := fun u => cat_big S [bl3 d] u (by simp; omega)
                    have HD := Lib.hid hd
                    clear hd hj hSl
                    go_wp2
                    go_roundg (gk - 1)
                    case measure => have := HJK.out; omega
                    case rel => exact ⟨j + 1, S ++ [bl3 d], by have := HJK.out; omega, by go_num, rfl, by rw [HS.out, HD.out]; simp [pat], by repeat (first | exact hEq | refine Ext.drew ?_)⟩
                  · have hjn : j = 1 := by have := HJK.out; omega
                    have HJN := Lib.hid hjn
                    clear hjn
                    go_wp2
                    go_roundg (n - (i + 1))
                    case measure => have := HIK.out; omega
                    case rel =>
                      refine ⟨i + 1, bl ++ [(x, pat 1)], ts ++ [t], by have := HIK.out; omega, by go_num, ?_, ?_, ?_, ?_, ?_, ?_, ?_⟩
                      · rw [ones_snoc, spaced_snoc]; (try simp)
                      · rw [spaced_snoc, HS.out, HJN.out]
                      · exact HSP.out.next HTK.out (by intro e; have := congrArg List.length e; rw [pat_len, List.length_nil] at this; omega) (pat_b _)
                      · rw [List.length_append, HBL.out]; rfl
                      · rw [ones_snoc, spaced_snoc]; have := HBA.out; have := HXL.out; simp; omega
                      · rw [spaced_snoc]; have := HBB.out; have := HXL.out; simp [pat_len]; omega
                      · exact hEq
            · have hz0 : decide (0 < v) = false := by rw [decide_eq_false_iff_not]; exact hv0
              go_wp2
              have hp3 : 0 < 1 := by omega
              clear HLEX
              go_loopg [6, 12] 1 (fun k v6 v12 wq => ∃ (j : Nat) (S : List UInt8), j + k = 1 ∧ v12 = .int .i64 (j : Int) ∧ v6 = str S ∧ S = spaced bl ++ x ++ pat j ∧ Ext w wq)
              case atStart => exact ⟨0, spaced bl ++ x, by omega, rfl, rfl, by simp [pat], by first | exact hE3.alloc _ | exact hE3⟩
              case round =>
                obtain ⟨j, S, hjk, rfl, rfl, hS, hEq⟩ := hrel
                have HJK := Lib.hid hjk; clear hjk
                have HS := Lib.hid hS; clear hS
                by_cases hj : j < 1
                · have hjI : (j : Int) < (1 : Int) := by omega
                  obtain ⟨d, hd⟩ : ∃ d, d = j % 3 := ⟨_, rfl⟩
                  have hr2 : Int.tmod (j : Int) 3 = (d : Int) := by rw [Int.tmod_eq_emod_of_nonneg (by omega)]; omega
                  have hd1 : (0 : Int) ≤ (d : Int) := by omega
                  have hd2 : ((d : Int) + 1).toNat = d + 1 := by omega
                  have hd3 : (d : Int) + 1 ≤ 3 := by omega
                  have hcut := bl3_cut d (by omega)
                  have hSl : S.length ≤ 50000000000 := by have := HBB.out; have := HXL.out; rw [HS.out]; simp [pat_len]; omega
                  have hcS : ∀ u : World, (Op.stringOp .add (bs S) (bs [bl3 d])).run Tryd.prog u = .ok (str (S ++ [bl3 d])) u := fun u => cat_big S [bl3 d] u (by simp; omega)
                  have HD := Lib.hid hd
                  clear hd hj hSl
                  go_wp2
                  go_roundg (gk - 1)
                  case measure => have := HJK.out; omega
                  case rel => exact ⟨j + 1, S ++ [bl3 d], by have := HJK.out; omega, by go_num, rfl, by rw [HS.out, HD.out]; simp [pat], by repeat (first | exact hEq | refine Ext.drew ?_)⟩
                · have hjn : j = 1 := by have := HJK.out; omega
                  have HJN := Lib.hid hjn
                  clear hjn
                  go_wp2
                  go_roundg (n - (i + 1))
                  case measure => have := HIK.out; omega
                  case rel =>
                    refine ⟨i + 1, bl ++ [(x, pat 1)], ts ++ [t], by have := HIK.out; omega, by go_num, ?_, ?_, ?_, ?_, ?_, ?_, ?_⟩
                    · rw [ones_snoc, spaced_snoc]; (try simp)
                    · rw [spaced_snoc, HS.out, HJN.out]
                    · exact HSP.out.next HTK.out (by intro e; have := congrArg List.length e; rw [pat_len, List.length_nil] at this; omega) (pat_b _)
                    · rw [List.length_append, HBL.out]; rfl
                    · rw [ones_snoc, spaced_snoc]; have := HBA.out; have := HXL.out; simp; omega
                    · rw [spaced_snoc]; have := HBB.out; have := HXL.out; simp [pat_len]; omega
                    · exact hEq
          · have hzm : decide ((i : Int) < (m : Int)) = false := by rw [decide_eq_false_iff_not]; omega
            go_wp2
            have hp3 : 0 < 1 := by omega
            clear HLEX
            go_loopg [6, 12] 1 (fun k v6 v12 wq => ∃ (j : Nat) (S : List UInt8), j + k = 1 ∧ v12 = .int .i64 (j : Int) ∧ v6 = str S ∧ S = spaced bl ++ x ++ pat j ∧ Ext w wq)
            case atStart => exact ⟨0, spaced bl ++ x, by omega, rfl, rfl, by simp [pat], by first | exact hE3.alloc _ | exact hE3⟩
            case round =>
              obtain ⟨j, S, hjk, rfl, rfl, hS, hEq⟩ := hrel
              have HJK := Lib.hid hjk; clear hjk
              have HS := Lib.hid hS; clear hS
              by_cases hj : j < 1
              · have hjI : (j : Int) < (1 : Int) := by omega
                obtain ⟨d, hd⟩ : ∃ d, d = j % 3 := ⟨_, rfl⟩
                have hr2 : Int.tmod (j : Int) 3 = (d : Int) := by rw [Int.tmod_eq_emod_of_nonneg (by omega)]; omega
                have hd1 : (0 : Int) ≤ (d : Int) := by omega
                have hd2 : ((d : Int) + 1).toNat = d + 1 := by omega
                have hd3 : (d : Int) + 1 ≤ 3 := by omega
                have hcut := bl3_cut d (by omega)
                have hSl : S.length ≤ 50000000000 := by have := HBB.out; have := HXL.out; rw [HS.out]; simp [pat_len]; omega
                have hcS : ∀ u : World, (Op.stringOp .add (bs S) (bs [bl3 d])).run Tryd.prog u = .ok (str (S ++ [bl3 d])) u := fun u => cat_big S [bl3 d] u (by simp; omega)
                have HD := Lib.hid hd
                clear hd hj hSl
                go_wp2
                go_roundg (gk - 1)
                case measure => have := HJK.out; omega
                case rel => exact ⟨j + 1, S ++ [bl3 d], by have := HJK.out; omega, by go_num, rfl, by rw [HS.out, HD.out]; simp [pat], by repeat (first | exact hEq | refine Ext.drew ?_)⟩
              · have hjn : j = 1 := by have := HJK.out; omega
                have HJN := Lib.hid hjn
                clear hjn
                go_wp2
                go_roundg (n - (i + 1))
                case measure => have := HIK.out; omega
                case rel =>
                  refine ⟨i + 1, bl ++ [(x, pat 1)], ts ++ [t], by have := HIK.out; omega, by go_num, ?_, ?_, ?_, ?_, ?_, ?_, ?_⟩
                  · rw [ones_snoc, spaced_snoc]; (try simp)
                  · rw [spaced_snoc, HS.out, HJN.out]
                  · exact HSP.out.next HTK.out (by intro e; have := congrArg List.length e; rw [pat_len, List.length_nil] at this; omega) (pat_b _)
                  · rw [List.length_append, HBL.out]; rfl
                  · rw [ones_snoc, spaced_snoc]; have := HBA.out; have := HXL.out; simp; omega
                  · rw [spaced_snoc]; have := HBB.out; have := HXL.out; simp [pat_len]; omega
                  · exact hEq
        · generalize tx.length = nt at h1
          have hz : ((nt : Int) == 1) = false := by rw [beq_eq_false_iff_ne]; omega
          have hz2 : ((nt : Int) != 1) = true := by rw [bne_iff_ne]; omega
          clear h1
          go_wp2
          go_ret
          exact ⟨rfl, (hE.trans hE3).alloc _⟩
    · have hin : i = n := by have := HIK.out; omega
      subst hin
      have hza := bs_size (spaced (ones bl))
      have hzb := bs_size (spaced bl)
      by_cases hla : 4096 < (spaced (ones bl)).length
      · have hlaI : (4096 : Int) < ((spaced (ones bl)).length : Int) := by omega
        go_wp2
        go_ret
        exact ⟨rfl, hE⟩
      by_cases hlb : 4096 < (spaced bl).length
      · have hlbI : (4096 : Int) < ((spaced bl).length : Int) := by omega
        go_wp2
        go_ret
        exact ⟨rfl, hE⟩
      obtain ⟨us, hu1, hu2⟩ := HSP.out.ones.lexOf (by omega)
      obtain ⟨vs, hv1, hv2⟩ := HSP.out.lexOf (by omega)
      have huv : us.map bareT = vs.map bareT := hu2.trans hv2.symm
      have hul : us.length = i := by have := congrArg List.length hu2; simp at this; rw [this, ← HSP.out.len, HBL.out]
      have hvl : vs.length = i := by have := congrArg List.length hv2; simp at this; rw [this, ← HSP.out.len, HBL.out]
      have HU := Lib.hid hu1
      have HV := Lib.hid hv1
      have HUV := Lib.hid huv
      have HUL := Lib.hid hul
      have HVL := Lib.hid hvl
      clear hu1 hu2 hv1 hv2 huv hul hvl
      have hlaI : ((spaced (ones bl)).length : Int) ≤ 4096 := by omega
      have hlbI : ((spaced bl).length : Int) ≤ 4096 := by omega
      clear hla hlb
      go_wp2_with fail
      refine (tokens_good _ _ (by have := HBA.out; omega) us HU.out).mono ?_
      rintro e w2 ⟨g2, cap2, rfl, hS2, hg2, hE2⟩
      rw [HUL.out] at hS2 ⊢
      have HS2 := Lib.hid hS2
      have HG2 := Lib.hid hg2
      clear hS2 hg2
      go_wp2_with fail
      refine (tokens_good _ _ (by have := HBB.out; omega) vs HV.out).mono ?_
      rintro e w3 ⟨g3, cap3, rfl, hS3, hg3, hE3⟩
      rw [HVL.out] at hS3 ⊢
      have HS3 := Lib.hid hS3
      have HG3 := Lib.hid hg3
      clear hS3 hg3
      have x0 := (blk2 (Ext.block hE3 (blk_new w2 _))).1
      have x1 := (blk2 (Ext.block hE3 (blk_new w2 _))).2
      have hs3 : w2.heap.size < w3.heap.size := by have := hE3.size; simp at this; omega
      go_wp2
      clear x0 x1 hs3
      refine wp_at (fun W => Ext w2 W ∧ Ext w3 W) ⟨((Ext.refl w2).alloc _).trans (hE3.alloc _), (Ext.refl w3).alloc _⟩ ?_
      rintro W ⟨hW2, hW3⟩
      have hEW : Ext w W := hE.trans (hE2.trans hW2)
      have HT2 : Hid (∀ b, g2 = some b → TokAt W b us 0 ∧ w.heap.size ≤ b ∧ b < w2.heap.size) := by
        intro b hb
        have h5 := HS2.out
        rw [hb] at h5
        refine ⟨TokAt.of (h5.ext hW2), ?_, h5.block_lt⟩
        have := HG2.out b hb
        have := hE.size
        omega
      have HT3 : Hid (∀ b, g3 = some b → TokAt W b vs 0 ∧ w.heap.size ≤ b ∧ w2.heap.size ≤ b) := by
        intro b hb
        have h5 := HS3.out
        rw [hb] at h5
        have h6 := HG3.out b hb
        simp at h6
        refine ⟨TokAt.of (h5.ext hW3), ?_, by omega⟩
        have := hE.size
        have := hE2.size
        omega
      clear hW2 hW3 hE2 hE3 hE
      have HS2' : Hid (0 < i → ∃ b, g2 = some b) := fun h => HS2.out.some_of_pos h
      have HS3' : Hid (0 < i → ∃ b, g3 = some b) := fun h => HS3.out.some_of_pos h
      clear HS2 HS3 HG2 HG3 hza hzb
      go_loopg [125] i (fun k v125 wq => ∃ (j : Nat), j + k = i ∧ v125 = .int .i64 (j : Int) ∧ Ext w wq ∧ W.heap.size ≤ wq.heap.size ∧ (∀ b, g2 = some b → TokAt wq b us j) ∧ (∀ b, g3 = some b → TokAt wq b vs j))
      case atStart => exact ⟨0, by omega, rfl, hEW, Nat.le_refl _, fun b hb => (HT2.out b hb).1, fun b hb => (HT3.out b hb).1⟩
      case round =>
        obtain ⟨j, hjk, rfl, hEq, hsq, ht2, ht3⟩ := hrel
        have HJK := Lib.hid hjk; clear hjk
        have HA2 := Lib.hid ht2; clear ht2
        have HA3 := Lib.hid ht3; clear ht3
        by_cases hj : j < i
        · obtain ⟨b2, hb2⟩ := HS2'.out (by omega)
          obtain ⟨b3, hb3⟩ := HS3'.out (by omega)
          have hT2 := HA2.out b2 hb2
          have hT3 := HA3.out b3 hb3
          have hx2 := (HT2.out b2 hb2).2
          have hx3 := (HT3.out b3 hb3).2
          have z2 := run_index_slv ei_tok (cap := cap2) hb2 hj
          have z3 := run_index_slv ei_tok (cap := cap3) hb3 hj
          have hne : b2 ≠ b3 := by omega
          obtain ⟨⟨k2, t2, n2, p2⟩, hu⟩ : ∃ t, us[j]? = some t := ⟨us[j]'(by rw [HUL.out]; exact hj), by rw [List.getElem?_eq_getElem]⟩
          obtain ⟨⟨k3, t3, n3, p3⟩, hv⟩ : ∃ t, vs[j]? = some t := ⟨vs[j]'(by rw [HVL.out]; exact hj), by rw [List.getElem?_eq_getElem]⟩
          obtain ⟨q1, q2, q3⟩ := bare_at HUV.out hu hv
          simp only at q1 q2 q3
          subst q1 q2 q3
          obtain ⟨c0, c1, c2, c3⟩ := hT2.2 j _ (Nat.le_refl _) hu
          obtain ⟨d0, d1, d2, d3⟩ := hT3.2 j _ (Nat.le_refl _) hv
          simp only at c0 c1 c2 c3 d0 d1 d2 d3
          obtain ⟨cur2, hc2⟩ := hT2.1
          obtain ⟨cur3, hc3⟩ := hT3.1
          have f2 := blk_frozen hc2 (j * 4 + 3)
          have f3 := blk_frozen hc3 (j * 4 + 3)
          have hl2 := blk_lt hc2
          have hl3 := blk_lt hc3
          have HQ2 := Lib.hid hT2
          have HQ3 := Lib.hid hT3
          have HB2 := Lib.hid hb2
          have HB3 := Lib.hid hb3
          have HX2 := Lib.hid hx2
          have HX3 := Lib.hid hx3
          clear hT2 hT3 hc2 hc3 hu hv hb2 hb3 hx2 hx3 HA2 HA3
          go_wp2
          refine wp_at (fun Wn => (Ext w Wn ∧ W.heap.size ≤ Wn.heap.size ∧ TokAt Wn b2 us (j + 1) ∧ TokAt Wn b3 vs (j + 1)) ∧ (Wn.cell? ⟨b2, j * 4, none⟩ = some (.int .i64 (k2 : Int)) ∧ Wn.cell? ⟨b2, j * 4 + 1, none⟩ = some (str t2) ∧ Wn.cell? ⟨b2, j * 4 + 2, none⟩ = some (.int .i64 (n2 : Int)) ∧ Wn.cell? ⟨b2, j * 4 + 3, none⟩ = some (.int .i64 0)) ∧
            (Wn.cell? ⟨b3, j * 4, none⟩ = some (.int .i64 (k2 : Int)) ∧ Wn.cell? ⟨b3, j * 4 + 1, none⟩ = some (str t2) ∧ Wn.cell? ⟨b3, j * 4 + 2, none⟩ = some (.int .i64 (n2 : Int)) ∧ Wn.cell? ⟨b3, j * 4 + 3, none⟩ = some (.int .i64 0))) ?_ ?_
          · refine ⟨⟨Below.setCell (p := ⟨b3, j * 4 + 3, none⟩) (Below.setCell (p := ⟨b2, j * 4 + 3, none⟩) hEq HX2.out.1 _) HX3.out.1 _, by rw [size_set, size_set]; exact hsq, ?_, ?_⟩, ⟨?_, ?_, ?_, ?_⟩, ?_, ?_, ?_, ?_⟩
            · exact (HQ2.out.set _).congr (Below.heap_setCell _ _ _ _ (by simpa using hne))
            · refine TokAt.set ?_ _
              exact HQ3.out.congr (Below.heap_setCell _ _ _ _ (by simpa using hne.symm))
            · exact far_set hne (cell_set_ne _ (by omega) c0)
            · exact far_set hne (cell_set_ne _ (by omega) c1)
            · exact far_set hne (cell_set_ne _ (by omega) c2)
            · exact far_set hne (World.cell?_setCell_same _ _ _ c3)
            · exact cell_set_ne _ (by omega) (far_set hne.symm d0)
            · exact cell_set_ne _ (by omega) (far_set hne.symm d1)
            · exact cell_set_ne _ (by omega) (far_set hne.symm d2)
            · exact World.cell?_setCell_same _ _ _ (far_set hne.symm d3)
          rintro Wn ⟨hWn, ⟨e0, e1, e2, e3⟩, f0, f1, f3⟩
          have HWN := Lib.hid hWn
          clear hWn c0 c1 c2 c3 d0 d1 d2 d3 f2 hl2 hl3 hEq
          refine region_calm [.p 0, .p 1, .p 2, .l 3, .p 4, .p 5, .p 6, .l 7, .p 8] f_mixed (by kernel_rfl) (by kernel_rfl) ?_
          repeat (first | (refine plan_p rfl (fun K hK => ?_); go_simp; refine hK _ ?_; clear hK K) | (refine plan_l rfl (fun K hK => ?_); go_simp; refine hK _ ?_; clear hK K))
          refine plan_done ?_
          go_wp2
          go_roundg (gk - 1)
          case measure => have := HJK.out; omega
          case rel =>
            refine ⟨j + 1, by have := HJK.out; omega, by go_num, ?_, ?_, fun b hb => ?_, fun b hb => ?_⟩
            · repeat (first | exact HWN.out.1 | refine Ext.drew ?_)
            · exact HWN.out.2.1
            · rw [HB2.out] at hb; cases hb; exact HWN.out.2.2.1
            · rw [HB3.out] at hb; cases hb; exact HWN.out.2.2.2
        · go_wp2
          go_ret
          exact ⟨rfl, hEq⟩
end Go.Proofs.YtaiedccjaahmgaaDoor
