/- (*lex.scanner).quoted: walked. -/
import Derived.Test.YtaiedccjaahmgaaDoorLex2
import Derived.Test.YtaiedccjaahmgaaDoorLexM
import Derived.Test.YtaiedccjaahmgaaDoorShf
import Derived.Test.YtaiedccjaahmgaaDoorSlc
namespace Go.Proofs.YtaiedccjaahmgaaDoor
open Go.RowKit

theorem BuilderAt.low {T e : TypeId} {B b : Nat} {p : Value} {bs : List Value} {w w' : World} (h : Lib.BuilderAt T e B b p bs w) (hb : ∀ k, B ≤ k → k < w.heap.size → w'.heap[k]? = w.heap[k]?) : Lib.BuilderAt T e B b p bs w' := by
  obtain ⟨h1, v, h2, h3, h4⟩ := h
  refine ⟨h1, v, (hb b h1 (blk_lt h2)).trans h2, ?_, h4⟩
  obtain ⟨h5, h6⟩ := h3
  refine ⟨h5, ?_⟩
  rcases h6 with h6 | ⟨g, cap, cur, k1, k2, k3, k4⟩
  · exact .inl h6
  · exact .inr ⟨g, cap, cur, k1, k2, (hb g k2 (blk_lt k3)).trans k3, k4⟩
theorem IsBuilder.low {T e : TypeId} {B b : Nat} {bs : List Value} {w w' : World} (h : Lib.IsBuilder T e B b bs w) (hb : ∀ k, B ≤ k → k < w.heap.size → w'.heap[k]? = w.heap[k]?) : Lib.IsBuilder T e B b bs w' :=
  h.imp (fun h => BuilderAt.low h hb) (fun h => BuilderAt.low h hb)
theorem IsBuilder.store {T e : TypeId} {B b : Nat} {bs : List Value} {w : World} (h : Lib.IsBuilder T e B b bs w) {p : Addr} (hp : p.block < B) (v : Value) : Lib.IsBuilder T e B b bs (w.setCell p v) :=
  IsBuilder.low h fun k hk _ => Below.heap_setCell _ _ _ _ (by omega)
theorem Touch.ends {S : Nat → Prop} {a b c : World} {B : Nat} (h : Touch S a b) (k : Below B b c) (hB : a.heap.size ≤ B) : Touch S a c :=
  ⟨k.os.trans h.os, k.tape.trans h.tape, k.output.trans h.output, Nat.le_trans h.size k.size, fun i hi hn => (k.block i (Nat.lt_of_lt_of_le hi hB)).trans (h.block i hi hn)⟩
theorem Scn.below {w w' : World} {cb : Nat} {l : List UInt8} {p B : Nat} (h : Scn w cb l p) (k : Below B w w') (hB : cb < B) : Scn w' cb l p := ⟨(k.block cb hB).trans h.1, h.2⟩

theorem drop_at {l : List UInt8} {q : Nat} {x : UInt8} (h : l[q]? = some x) : l.drop q = x :: l.drop (q + 1) := by
  obtain ⟨h1, rfl⟩ := List.getElem?_eq_some_iff.1 h
  exact List.drop_eq_getElem_cons h1
theorem quo_ne {l : List UInt8} {q : Nat} {x : UInt8} (h : l[q]? = some x) (hx : x ≠ 39) : quo (l.drop q) = (quo (l.drop (q + 1))).map (fun r => (x :: r.1, r.2 + 1)) := by
  rw [drop_at h, quo.eq_def]
  simp only [if_neg hx]
theorem quo_end {l : List UInt8} {q : Nat} (h : l[q]? = some 39) (he : ∀ y, l[q + 1]? = some y → y ≠ 39) : quo (l.drop q) = some ([], 1) := by
  rw [drop_at h, quo.eq_def]
  simp only [if_true]
  cases hd : l.drop (q + 1) with
  | nil => rfl
  | cons y r =>
    have hy : l[q + 1]? = some y := by
      have := congrArg (fun m : List UInt8 => m[0]?) hd
      simpa using this
    simp only [if_neg (he y hy)]
theorem quo_two {l : List UInt8} {q : Nat} (h : l[q]? = some 39) (h' : l[q + 1]? = some 39) : quo (l.drop q) = (quo (l.drop (q + 2))).map (fun r => (39 :: r.1, r.2 + 2)) := by
  rw [drop_at h, drop_at h', quo.eq_def]
  simp
theorem quo_past {l : List UInt8} {q : Nat} (h : l.length ≤ q) : quo (l.drop q) = none := by
  rw [List.drop_eq_nil_of_le h]; rfl

/-- What 'quoted' gives, the opening quote at p. -/
def QuoPost (w : World) (cb : Nat) (l : List UInt8) (p : Nat) (e : Ending) (w' : World) : Prop :=
  ∃ q, Scn w' cb l q ∧ Touch (fun b => b = cb) w w' ∧
    match quo (l.drop (p + 1)) with
    | some (t, m) => e = .returned (.tuple #[str t, .bool true]) ∧ q = p + 1 + m
    | none => e = .returned (.tuple #[str [], .bool false])
/-- .. so far. -/
def QuoSo (l : List UInt8) (p q : Nat) (acc : List UInt8) : Prop := quo (l.drop (p + 1)) = (quo (l.drop q)).map (fun r => (acc ++ r.1, r.2 + (q - (p + 1))))
theorem QuoSo.ne {l : List UInt8} {p q : Nat} {acc : List UInt8} {x : UInt8} (h : QuoSo l p q acc) (hp : p + 1 ≤ q) (hx : l[q]? = some x) (hn : x ≠ 39) : QuoSo l p (q + 1) (acc ++ [x]) := by
  unfold QuoSo at *
  rw [h, quo_ne hx hn]
  cases quo (l.drop (q + 1)) with
  | none => rfl
  | some r => simp; omega
theorem QuoSo.two {l : List UInt8} {p q : Nat} {acc : List UInt8} (h : QuoSo l p q acc) (hp : p + 1 ≤ q) (hx : l[q]? = some 39) (hy : l[q + 1]? = some 39) : QuoSo l p (q + 1 + 1) (acc ++ [39]) := by
  unfold QuoSo at *
  rw [h, quo_two hx hy]
  cases quo (l.drop (q + 2)) with
  | none => rfl
  | some r => simp; omega
def QuoInv (w : World) (cb : Nat) (l : List UInt8) (p k : Nat) (wr : World) : Prop :=
  ∃ (q : Nat) (acc : List UInt8), k = l.length - q ∧ p + 1 ≤ q ∧ acc.length ≤ q ∧ Scn wr cb l q ∧ Lib.IsBuilder 59 5 w.heap.size w.heap.size (Lib.byteCells acc) wr ∧ Touch (fun b => b = cb) w wr ∧ QuoSo l p q acc

theorem byteCells_snoc (l : List UInt8) (x : UInt8) : Lib.byteCells (l ++ [x]) = Lib.byteCells l ++ [.int .u8 (x.toNat : Int)] := by simp [Lib.byteCells]
theorem byteCells_len (l : List UInt8) : (Lib.byteCells l).length = l.length := by simp [Lib.byteCells]

set_option maxRecDepth 100000 in
set_option maxHeartbeats 8000000 in
theorem quoted_ok (cb : Nat) (l : List UInt8) (p : Nat) (w : World) (h : Scn w cb l p) (hp : p < l.length) (hl : l.length ≤ 1000000000) :
    Calls Tryd.prog 21 #[.pointer (some ⟨cb, 0, none⟩)] w (QuoPost w cb l p) := by
  obtain ⟨c0, c1⟩ := blk2 h.1
  have hcb := blk_lt h.1
  have hf1 := blk_frozen h.1 1
  have H := Lib.hid h; clear h
  have hsz := bs_size l
  go_enter Tryd.func21, Tryd.ntmps21
  go_wp2
  clear c0 c1 hf1
  refine wp_at (fun W => QuoInv w cb l p (l.length - (p + 1)) W) ?_ ?_
  · have hb : Lib.IsBuilder 59 5 w.heap.size w.heap.size [] ((w.setCell ⟨cb, 1, none⟩ (.int .i64 ((p : Int) + 1))).alloc (.cells #[.pointer none, .slice none 0 0] 59)) := by
      have := Lib.fresh_isBuilder 59 5 (w.setCell ⟨cb, 1, none⟩ (.int .i64 ((p : Int) + 1)))
      simpa [World.setCell] using this
    have hs := H.out.set (q := p + 1) (by omega)
    rw [Int.natCast_add] at hs
    refine ⟨p + 1, [], rfl, Nat.le_refl _, by simp, hs.ext ((Ext.refl _).alloc _), hb, (Touch.setCell (S := fun b => b = cb) (Touch.refl _ w) (p := ⟨cb, 1, none⟩) (fun _ => rfl) _).alloc _, ?_⟩
    unfold QuoSo
    cases quo (l.drop (p + 1)) <;> simp
  intro W hW
  go_loopg [] (l.length - (p + 1)) (fun k wr => QuoInv w cb l p k wr)
  case atStart => exact hW
  case round =>
    obtain ⟨q, acc, hk, hpq, hal, hS, hB, hT, hQ⟩ := hrel
    clear hW
    obtain ⟨c0, c1⟩ := blk2 hS.1
    have hf1 := blk_frozen hS.1 1
    have hql := hS.2
    have hws := hT.size
    have hcw : cb < wr.heap.size := by omega
    have HS := Lib.hid hS; clear hS
    have HB := Lib.hid hB; clear hB
    have HT := Lib.hid hT; clear hT
    have HQ := Lib.hid hQ; clear hQ
    have HK := Lib.hid hk; clear hk
    by_cases hlt : q < l.length
    · obtain ⟨x, hx⟩ : ∃ x, l[q]? = some x := ⟨_, List.getElem?_eq_getElem hlt⟩
      have hxg := bs_get hx
      have HX := Lib.hid hx; clear hx
      by_cases h39 : x = 39
      · subst h39
        have hx39 : (UInt8.toNat 39 : Int) = 39 := rfl
        by_cases hend : q + 1 = l.length
        · have hfz : ((q : Int) + 1 == (l.length : Int)) = true := by rw [beq_iff_eq]; omega
          go_wp2
          refine region_calm [.p 0, .p 1, .p 2, .l 3, .p 4, .p 5, .p 6, .l 7, .p 8, .p 9] f_mixed (by kernel_rfl) (by kernel_rfl) ?_
          repeat (first | (refine plan_p rfl (fun K hK => ?_); go_simp; refine hK _ ?_; clear hK K) | (refine plan_l rfl (fun K hK => ?_); go_simp; refine hK _ ?_; clear hK K))
          refine plan_done ?_
          go_wp2
          refine region_calm [.p 0, .p 1, .p 2, .l 3, .p 4, .p 5, .p 6, .l 7, .p 8, .p 9] f_mixed (by kernel_rfl) (by kernel_rfl) ?_
          repeat (first | (refine plan_p rfl (fun K hK => ?_); go_simp; refine hK _ ?_; clear hK K) | (refine plan_l rfl (fun K hK => ?_); go_simp; refine hK _ ?_; clear hK K))
          refine plan_done ?_
          go_wp2
          refine region_calm [.p 0, .p 1, .p 2, .l 3, .p 4, .p 5, .p 6, .l 7, .p 8, .p 9, .p 10, .p 11, .p 12, .p 13, .l 14, .p 15, .p 16, .p 17, .l 18, .p 19, .p 20, .p 21] f_mixed (by kernel_rfl) (by kernel_rfl) ?_
          repeat (first | (refine plan_p rfl (fun K hK => ?_); go_simp; refine hK _ ?_; clear hK K) | (refine plan_l rfl (fun K hK => ?_); go_simp; refine hK _ ?_; clear hK K))
          refine plan_done ?_
          go_wp2_with fail
          refine (Tryd.Builder_String_any w.heap.size w.heap.size acc ((wr.setCell ⟨cb, 1, none⟩ (.int .i64 ((q : Int) + 1))).drew.drew.drew) (IsBuilder.store HB.out (p := ⟨cb, 1, none⟩) hcb _) (by simpa using hws)).mono ?_
          rintro e w2 ⟨rfl, hB2⟩
          have hS1 : Scn ((wr.setCell ⟨cb, 1, none⟩ (.int .i64 ((q : Int) + 1))).drew.drew.drew) cb l (q + 1) := by
            have := HS.out.set (q := q + 1) (by omega)
            rw [Int.natCast_add] at this
            exact this
          have HS2 := Lib.hid (Scn.below hS1 hB2 hcb)
          have HT2 : Hid (Touch (fun b => b = cb) w w2) := Touch.ends (((HT.out.setCell (p := ⟨cb, 1, none⟩) (fun _ => rfl) _).drew.drew.drew)) hB2 (Nat.le_refl _)
          clear hS1 hB2
          go_wp2
          go_ret2
          refine ⟨q + 1, HS2.out, HT2.out, ?_⟩
          have := HQ.out
          unfold QuoSo at this
          rw [quo_end HX.out (fun y hy => absurd (List.getElem?_eq_some_iff.1 hy).1 (by omega))] at this
          rw [this]
          simp
          exact ⟨rfl, by omega⟩
        · obtain ⟨y, hy⟩ : ∃ y, l[q + 1]? = some y := ⟨_, List.getElem?_eq_getElem (show q + 1 < l.length by omega)⟩
          have hfz : ((q : Int) + 1 == (l.length : Int)) = false := by rw [beq_eq_false_iff_ne]; omega
          have hyg := bs_get hy
          have HY := Lib.hid hy; clear hy
          have hq1 : q + 1 < l.length := by omega
          have hN1 : ((q : Int) + 1).toNat = q + 1 := by omega
          have hN2 : (0 : Int) ≤ (q : Int) + 1 := by omega
          have hN3 : (q : Int) + 1 < (l.length : Int) := by omega
          by_cases hy39 : y = 39
          · subst hy39
            have hS1 : Scn (wr.setCell ⟨cb, 1, none⟩ (.int .i64 ((q : Int) + 1))) cb l (q + 1) := by
              have := HS.out.set (q := q + 1) (by omega)
              rw [Int.natCast_add] at this
              exact this
            have HS1 := Lib.hid hS1; clear hS1
            go_wp2
            refine region_calm [.p 0, .p 1, .p 2, .l 3, .p 4, .p 5, .p 6, .l 7, .p 8, .p 9] f_mixed (by kernel_rfl) (by kernel_rfl) ?_
            repeat (first | (refine plan_p rfl (fun K hK => ?_); go_simp; refine hK _ ?_; clear hK K) | (refine plan_l rfl (fun K hK => ?_); go_simp; refine hK _ ?_; clear hK K))
            refine plan_done ?_
            go_wp2
            refine region_calm [.p 0, .p 1, .p 2, .l 3, .p 4, .p 5, .p 6, .l 7, .p 8, .p 9] f_mixed (by kernel_rfl) (by kernel_rfl) ?_
            repeat (first | (refine plan_p rfl (fun K hK => ?_); go_simp; refine hK _ ?_; clear hK K) | (refine plan_l rfl (fun K hK => ?_); go_simp; refine hK _ ?_; clear hK K))
            refine plan_done ?_
            go_wp2
            refine region_calm [.p 0, .p 1, .p 2, .l 3, .p 4, .p 5, .p 6, .l 7, .p 8, .p 9, .p 10, .p 11, .p 12, .p 13, .l 14, .p 15, .p 16, .p 17, .l 18, .p 19, .p 20, .p 21] f_mixed (by kernel_rfl) (by kernel_rfl) ?_
            repeat (first | (refine plan_p rfl (fun K hK => ?_); go_simp; refine hK _ ?_; clear hK K) | (refine plan_l rfl (fun K hK => ?_); go_simp; refine hK _ ?_; clear hK K))
            refine plan_done ?_
            go_wp2_with fail
            refine (Tryd.Builder_WriteByte w.heap.size w.heap.size (Lib.byteCells acc) _ ((wr.setCell ⟨cb, 1, none⟩ (.int .i64 ((q : Int) + 1))).drew.drew.drew) (IsBuilder.store HB.out (p := ⟨cb, 1, none⟩) hcb _) (by rw [byteCells_len]; omega) (by simpa using hws)).mono ?_
            rintro e w2 ⟨rfl, hb2, hB2⟩
            have hS2 : Scn w2 cb l (q + 1) := Scn.below (HS1.out.ext ((Ext.refl _).drew.drew.drew)) hB2 (by omega)
            obtain ⟨d0, d1⟩ := blk2 hS2.1
            have hf2 := blk_frozen hS2.1 1
            have hcw2 : cb < w2.heap.size := blk_lt hS2.1
            have HS2 := Lib.hid hS2; clear hS2
            have HB2 : Hid (Lib.IsBuilder 59 5 w.heap.size w.heap.size (Lib.byteCells (acc ++ [39])) w2) := by
              show Lib.IsBuilder _ _ _ _ _ _
              rw [byteCells_snoc]; exact .inr hb2
            have HT2 : Hid (Touch (fun b => b = cb) w w2) := Touch.ends ((HT.out.setCell (p := ⟨cb, 1, none⟩) (fun _ => rfl) _).drew.drew.drew) hB2 (Nat.le_refl _)
            clear hb2 hB2
            clear c0 c1 hf1 hN1 hN2 hN3
            go_wp2
            go_roundg (l.length - ((q + 1) + 1))
            case measure => have := HK.out; omega
            case rel =>
              refine ⟨(q + 1) + 1, acc ++ [39], rfl, by omega, by simp; omega, ?_, ?_, ?_, HQ.out.two hpq HX.out HY.out⟩
              · have := HS2.out.set (q := (q + 1) + 1) (by omega)
                rw [Int.natCast_add] at this
                first | exact this | simpa using this
              · exact IsBuilder.store HB2.out (p := ⟨cb, 1, none⟩) hcb _
              · exact HT2.out.setCell (p := ⟨cb, 1, none⟩) (fun _ => rfl) _
          · have hne : ((y.toNat : Int) == 39) = false := by
              rw [beq_eq_false_iff_ne]
              intro h
              exact hy39 (by apply UInt8.toNat_inj.1; simpa using (by exact_mod_cast h : y.toNat = 39))
            have HN := Lib.hid hy39; clear hy39
            go_wp2
            refine region_calm [.p 0, .p 1, .p 2, .l 3, .p 4, .p 5, .p 6, .l 7, .p 8, .p 9] f_mixed (by kernel_rfl) (by kernel_rfl) ?_
            repeat (first | (refine plan_p rfl (fun K hK => ?_); go_simp; refine hK _ ?_; clear hK K) | (refine plan_l rfl (fun K hK => ?_); go_simp; refine hK _ ?_; clear hK K))
            refine plan_done ?_
            go_wp2
            refine region_calm [.p 0, .p 1, .p 2, .l 3, .p 4, .p 5, .p 6, .l 7, .p 8, .p 9] f_mixed (by kernel_rfl) (by kernel_rfl) ?_
            repeat (first | (refine plan_p rfl (fun K hK => ?_); go_simp; refine hK _ ?_; clear hK K) | (refine plan_l rfl (fun K hK => ?_); go_simp; refine hK _ ?_; clear hK K))
            refine plan_done ?_
            go_wp2
            refine region_calm [.p 0, .p 1, .p 2, .l 3, .p 4, .p 5, .p 6, .l 7, .p 8, .p 9, .p 10, .p 11, .p 12, .p 13, .l 14, .p 15, .p 16, .p 17, .l 18, .p 19, .p 20, .p 21] f_mixed (by kernel_rfl) (by kernel_rfl) ?_
            repeat (first | (refine plan_p rfl (fun K hK => ?_); go_simp; refine hK _ ?_; clear hK K) | (refine plan_l rfl (fun K hK => ?_); go_simp; refine hK _ ?_; clear hK K))
            refine plan_done ?_
            go_wp2_with fail
            refine (Tryd.Builder_String_any w.heap.size w.heap.size acc ((wr.setCell ⟨cb, 1, none⟩ (.int .i64 ((q : Int) + 1))).drew.drew.drew) (IsBuilder.store HB.out (p := ⟨cb, 1, none⟩) hcb _) (by simpa using hws)).mono ?_
            rintro e w2 ⟨rfl, hB2⟩
            have hS1 : Scn ((wr.setCell ⟨cb, 1, none⟩ (.int .i64 ((q : Int) + 1))).drew.drew.drew) cb l (q + 1) := by
              have := HS.out.set (q := q + 1) (by omega)
              rw [Int.natCast_add] at this
              exact this
            have HS2 := Lib.hid (Scn.below hS1 hB2 hcb)
            have HT2 : Hid (Touch (fun b => b = cb) w w2) := Touch.ends (((HT.out.setCell (p := ⟨cb, 1, none⟩) (fun _ => rfl) _).drew.drew.drew)) hB2 (Nat.le_refl _)
            clear hS1 hB2
            go_wp2
            go_ret2
            refine ⟨q + 1, HS2.out, HT2.out, ?_⟩
            have := HQ.out
            unfold QuoSo at this
            rw [quo_end HX.out (fun u hu => by rw [HY.out] at hu; cases hu; exact HN.out)] at this
            rw [this]
            simp
            exact ⟨rfl, by omega⟩
      · have hne : ((x.toNat : Int) == 39) = false := by
          rw [beq_eq_false_iff_ne]
          intro h
          exact h39 (by apply UInt8.toNat_inj.1; simpa using (by exact_mod_cast h : x.toNat = 39))
        have HN := Lib.hid h39; clear h39
        go_wp2
        refine region_calm [.p 0, .p 1, .p 2, .l 3, .p 4, .p 5, .p 6, .l 7, .p 8, .p 9] f_mixed (by kernel_rfl) (by kernel_rfl) ?_
        repeat (first | (refine plan_p rfl (fun K hK => ?_); go_simp; refine hK _ ?_; clear hK K) | (refine plan_l rfl (fun K hK => ?_); go_simp; refine hK _ ?_; clear hK K))
        refine plan_done ?_
        go_wp2
        refine region_calm [.p 0, .p 1, .p 2, .l 3, .p 4, .p 5, .p 6, .l 7, .p 8, .p 9] f_mixed (by kernel_rfl) (by kernel_rfl) ?_
        repeat (first | (refine plan_p rfl (fun K hK => ?_); go_simp; refine hK _ ?_; clear hK K) | (refine plan_l rfl (fun K hK => ?_); go_simp; refine hK _ ?_; clear hK K))
        refine plan_done ?_
        go_wp2
        refine region_calm [.p 0, .p 1, .p 2, .l 3, .p 4, .p 5, .p 6, .l 7, .p 8, .h 9 false] f_mixed (by kernel_rfl) (by kernel_rfl) ?_
        repeat (first | (refine plan_p rfl (fun K hK => ?_); go_simp; refine hK _ ?_; clear hK K) | (refine plan_l rfl (fun K hK => ?_); go_simp; refine hK _ ?_; clear hK K))
        refine plan_h rfl (fun K hK => ?_)
        go_wp2_with fail
        refine (Tryd.Builder_WriteByte w.heap.size w.heap.size (Lib.byteCells acc) _ (wr.drew.drew.drew) (HB.out) (by rw [byteCells_len]; omega) (by simpa using hws)).mono ?_
        rintro e w2 ⟨rfl, hb2, hB2⟩
        have hS2 : Scn w2 cb l q := Scn.below (HS.out.ext ((Ext.refl _).drew.drew.drew)) hB2 (by omega)
        obtain ⟨d0, d1⟩ := blk2 hS2.1
        have hf2 := blk_frozen hS2.1 1
        have hcw2 : cb < w2.heap.size := blk_lt hS2.1
        have HS2 := Lib.hid hS2; clear hS2
        have HB2 : Hid (Lib.IsBuilder 59 5 w.heap.size w.heap.size (Lib.byteCells (acc ++ [x])) w2) := by
          show Lib.IsBuilder _ _ _ _ _ _
          rw [byteCells_snoc]; exact .inr hb2
        have HT2 : Hid (Touch (fun b => b = cb) w w2) := Touch.ends (HT.out.drew.drew.drew) hB2 (Nat.le_refl _)
        clear hb2 hB2
        clear c0 c1 hf1
        go_wp2
        repeat (first | (refine plan_p rfl (fun K hK => ?_); go_simp; refine hK _ ?_; clear hK K) | (refine plan_l rfl (fun K hK => ?_); go_simp; refine hK _ ?_; clear hK K))
        refine plan_done ?_
        go_wp2
        go_roundg (l.length - (q + 1))
        case measure => have := HK.out; omega
        case rel =>
          refine ⟨q + 1, acc ++ [x], rfl, by omega, by simp; omega, ?_, ?_, ?_, HQ.out.ne hpq HX.out HN.out⟩
          · have := HS2.out.set (q := q + 1) (by omega)
            rw [Int.natCast_add] at this
            first | exact this | simpa using this
          · exact IsBuilder.store HB2.out (p := ⟨cb, 1, none⟩) hcb _
          · exact HT2.out.setCell (p := ⟨cb, 1, none⟩) (fun _ => rfl) _
    · have hq : q = l.length := by omega
      go_wp2
      refine region_calm [.p 0, .p 1, .p 2, .l 3, .p 4, .p 5, .p 6, .l 7, .p 8, .p 9] f_mixed (by kernel_rfl) (by kernel_rfl) ?_
      repeat (first | (refine plan_p rfl (fun K hK => ?_); go_simp; refine hK _ ?_; clear hK K) | (refine plan_l rfl (fun K hK => ?_); go_simp; refine hK _ ?_; clear hK K))
      refine plan_done ?_
      go_wp2
      go_ret2
      refine ⟨q, HS.out.ext (Ext.refl _).drew, HT.out.drew, ?_⟩
      have := HQ.out
      unfold QuoSo at this
      rw [quo_past (q := q) (by omega)] at this
      rw [this]
      rfl
end Go.Proofs.YtaiedccjaahmgaaDoor
