/- The reading of values: walked. -/
import Derived.Test.YtkejjahlglldlaaCoA
import Derived.Laws.IdiomStrings
import Derived.Tactics2
import Derived.Defers
import Derived.Recover
import Derived.Laws.Pointers
namespace Go.Proofs.Ytkejjahlglldlaa
open Go.RowKit

/-- The source at sb: it reads the bytes l, and stands at p. -/
def Src (w : World) (sb : Nat) (a : Option Addr) (c : Nat) (l : List UInt8) (p : Nat) : Prop :=
  w.heap[sb]? = some (.cells #[.slice a l.length c, .int .i64 (p : Int)] 103 (0, 0)) ∧ p ≤ l.length ∧
  (0 < l.length → ∃ b off, a = some ⟨b, off, none⟩ ∧ b ≠ sb ∧ ∀ j x, l[j]? = some x → w.cell? ⟨b, off + j, none⟩ = some (.int .u8 (x.toNat : Int)))
theorem Src.touch {S : Nat → Prop} {w w' : World} {sb : Nat} {a : Option Addr} {c : Nat} {l : List UInt8} {p : Nat} (h : Src w sb a c l p) (ht : Touch S w w') (h1 : ¬ S sb) (h2 : ∀ q : Addr, a = some q → ¬ S q.block) : Src w' sb a c l p := by
  obtain ⟨h3, h4, h5⟩ := h
  refine ⟨Touch.old ht h3 h1, h4, fun hl => ?_⟩
  obtain ⟨b, off, rfl, hb, hc⟩ := h5 hl
  exact ⟨b, off, rfl, hb, fun j x hx => Touch.cell ht (hc j x hx) (h2 ⟨b, off, none⟩ rfl)⟩
theorem Src.ext {w w' : World} {sb : Nat} {a : Option Addr} {c : Nat} {l : List UInt8} {p : Nat} (h : Src w sb a c l p) (he : Ext w w') : Src w' sb a c l p :=
  h.touch (he.touch fun _ => False) (fun h => h) (fun _ _ h => h)

/-- What Decode gives up with. -/
abbrev broken (code at_ : Int) : List PanicEntry := [{ v := .iface 99 (.agg #[.int .i64 code, .int .i64 at_]), recovered := false }]

set_option maxRecDepth 100000 in
set_option maxHeartbeats 4000000 in
theorem next_end (sb : Nat) (a : Option Addr) (c : Nat) (l : List UInt8) (p : Nat) (w : World) (h : Src w sb a c l p) (hp : p = l.length) :
    Calls Try.prog 43 #[.pointer (some ⟨sb, 0, none⟩)] w (fun e w' => e = .panicked (broken 20 p) ∧ Ext w w') := by
  obtain ⟨hb, hle, hc⟩ := h
  obtain ⟨c0, c1⟩ := blk2 hb
  subst hp
  have hE : Ext w w.drew := (Ext.refl w).drew
  clear hb hle hc
  go_enter Try.func43, Try.ntmps43
  go_wp2
  refine region_calm [.p 0, .p 1, .p 2, .l 3, .p 4, .p 5, .p 6, .l 7, .p 8, .p 9] f_mixed (by kernel_rfl) (by kernel_rfl) ?_
  repeat (first | (refine plan_p rfl (fun K hK => ?_); go_simp; refine hK _ ?_; clear hK K) | (refine plan_l rfl (fun K hK => ?_); go_simp; refine hK _ ?_; clear hK K))
  refine plan_done ?_
  go_wp2
  exact ⟨rfl, rfl, hE⟩

set_option maxRecDepth 100000 in
set_option maxHeartbeats 4000000 in
theorem next_ok (sb : Nat) (a : Option Addr) (c : Nat) (l : List UInt8) (p : Nat) (w : World) (h : Src w sb a c l p) (x : UInt8) (hx : l[p]? = some x) (hl : l.length ≤ 140737488355328) :
    Calls Try.prog 43 #[.pointer (some ⟨sb, 0, none⟩)] w (fun e w' => e = .returned (.int .u8 (x.toNat : Int)) ∧ Src w' sb a c l (p + 1) ∧ Touch (fun b => b = sb) w w') := by
  obtain ⟨hb, hle, hc⟩ := h
  have hlt : p < l.length := (List.getElem?_eq_some_iff.1 hx).1
  obtain ⟨b, off, rfl, hne, hcc⟩ := hc (by omega)
  obtain ⟨c0, c1⟩ := blk2 hb
  have cx := hcc p x hx
  have hnew : Src ((w.setCell ⟨sb, 1, none⟩ (.int .i64 ((p : Int) + 1))).drew.drew) sb (some ⟨b, off, none⟩) c l (p + 1) := by
    refine ⟨?_, hlt, fun _ => ⟨b, off, rfl, hne, fun j y hy => ?_⟩⟩
    · exact blk_set hb 1 _
    · have : (w.setCell ⟨sb, 1, none⟩ (.int .i64 ((p : Int) + 1))).cell? ⟨b, off + j, none⟩ = w.cell? ⟨b, off + j, none⟩ := World.cell?_setCell_other _ _ _ _ (fun e => hne (congrArg Addr.block e).symm)
      exact this.trans (hcc j y hy)
  have hT : Touch (fun b => b = sb) w ((w.setCell ⟨sb, 1, none⟩ (.int .i64 ((p : Int) + 1))).drew.drew) := (((Touch.refl (fun b => b = sb) w).setCell (p := ⟨sb, 1, none⟩) (fun _ => rfl) _).drew).drew
  have fr := blk_frozen hb 1
  have HN := Lib.hid hnew; clear hnew
  have HT := Lib.hid hT; clear hT
  have hpl : (p : Int) ≤ 140737488355328 := by omega
  have hee : ((p : Int) == (l.length : Int)) = false := by simp; omega
  clear hb hle hc hcc hx
  go_enter Try.func43, Try.ntmps43
  go_wp2
  refine region_calm [.p 0, .p 1, .p 2, .l 3, .p 4, .p 5, .p 6, .l 7, .p 8, .p 9] f_mixed (by kernel_rfl) (by kernel_rfl) ?_
  repeat (first | (refine plan_p rfl (fun K hK => ?_); go_simp; refine hK _ ?_; clear hK K) | (refine plan_l rfl (fun K hK => ?_); go_simp; refine hK _ ?_; clear hK K))
  refine plan_done ?_
  go_wp2
  have f0 : (w.setCell ⟨sb, 1, none⟩ (.int .i64 ((p : Int) + 1))).cell? ⟨sb, 0, none⟩ = some (.slice (some ⟨b, off, none⟩) l.length c) :=
    (World.cell?_setCell_other _ _ _ _ (fun e => by have := congrArg Addr.off e; simp at this)).trans c0
  have f1 : (w.setCell ⟨sb, 1, none⟩ (.int .i64 ((p : Int) + 1))).cell? ⟨sb, 1, none⟩ = some (.int .i64 ((p : Int) + 1)) := World.cell?_setCell_same _ _ _ c1
  have fx : (w.setCell ⟨sb, 1, none⟩ (.int .i64 ((p : Int) + 1))).cell? ⟨b, off + p, none⟩ = some (.int .u8 (x.toNat : Int)) :=
    (World.cell?_setCell_other _ _ _ _ (fun e => hne (congrArg Addr.block e).symm)).trans cx
  clear c0 c1 cx fr hee
  generalize w.setCell ⟨sb, 1, none⟩ (.int .i64 ((p : Int) + 1)) = W4 at *
  have hw : IntKind.i64.wrap (p : Int) = (p : Int) := by rw [IntKind.wrap_i64]; omega
  have hix : (0 : Int) ≤ (p : Int) ∧ (p : Int) < (l.length : Int) := by omega
  refine region_calm [.p 0, .p 1, .p 2, .l 3, .p 4, .p 5, .p 6, .l 7, .p 8, .p 9, .l 10, .p 11] f_mixed (by kernel_rfl) (by kernel_rfl) ?_
  repeat (first | (refine plan_p rfl (fun K hK => ?_); go_simp; refine hK _ ?_; clear hK K) | (refine plan_l rfl (fun K hK => ?_); go_simp; refine hK _ ?_; clear hK K))
  refine plan_done ?_
  go_wp2
  go_ret
  exact ⟨rfl, HN.out, HT.out⟩

/-- What is read behind a kind byte at 'start': the fault's code and place; or the text, and where it ends. -/
def textD (start : Nat) : Nat → List UInt8 → List UInt8 → (Nat × Nat) ⊕ (List UInt8 × Nat)
  | p, [], _ => .inl (20, p)
  | p, x :: r, out => if x = 0 then
      match r with
      | [] => .inl (20, p + 1)
      | y :: r' => if y = 0 then (if out.length > 64 then .inl (2, start) else .inr (out, p + 2)) else if y = 255 then textD start (p + 2) r' (out ++ [0]) else .inl (22, p + 1)
    else textD start (p + 1) r (out ++ [x])

theorem textD_nil (start p : Nat) (out : List UInt8) : textD start p [] out = .inl (20, p) := by unfold textD; rfl
theorem textD_some (start p : Nat) (x : UInt8) (r out : List UInt8) (h : x ≠ 0) : textD start p (x :: r) out = textD start (p + 1) r (out ++ [x]) := by
  rw [textD.eq_def]; simp [h]
theorem textD_zero_nil (start p : Nat) (out : List UInt8) : textD start p [0] out = .inl (20, p + 1) := by
  rw [textD.eq_def]; simp
theorem textD_zero (start p : Nat) (y : UInt8) (r out : List UInt8) : textD start p (0 :: y :: r) out =
    if y = 0 then (if out.length > 64 then .inl (2, start) else .inr (out, p + 2)) else if y = 255 then textD start (p + 2) r (out ++ [0]) else .inl (22, p + 1) := by
  rw [textD.eq_def]; simp

/-- What comes of text. -/
def TextPost (w : World) (sb : Nat) (a : Option Addr) (c : Nat) (l : List UInt8) (R : (Nat × Nat) ⊕ (List UInt8 × Nat)) (e : Ending) (w' : World) : Prop :=
  Touch (fun b => b = sb) w w' ∧ match R with
  | .inl (code, q) => e = .panicked (broken code q)
  | .inr (t, q) => e = .returned (str t) ∧ Src w' sb a c l q

theorem conv_bytes {w : World} {g : Option Nat} {n cap : Nat} {l : List UInt8} (h : Bs w g n cap l) : (convert 30 9 (slv g n cap)).run Try.prog w = .ok (str l) w := by
  have hn := h.bytes
  subst hn
  cases g with
  | none =>
    obtain ⟨_, h0, rfl⟩ := h
    have : l = [] := List.eq_nil_of_length_eq_zero h0
    subst this
    exact run_convert_bytes_nil (w := w) 30 5 Try.underlying30 Try.underlying5 0 0 9 Try.underlying9
  | some b =>
    refine run_convert_bytes_back w _ _ 5 ⟨b, 0, none⟩ cap l Try.underlying30 Try.underlying5 Try.underlying9 (fun j hj => ?_)
    have := h.cell (bc_get (List.getElem?_eq_getElem hj))
    unfold Addr.add
    split
    · rename_i h0; subst h0; exact this
    · simpa using this

/-- append of the bytes y to bytes of the call's own; S: what the call may touch besides. -/
theorem app_tch {P : Program} {S : Nat → Prop} {W w : World} {ops : Array Oper} {rest : List Oper} {o : Oper} {a : Act} {Q : Exit → Act → World → Prop} (E : EI P 30 5 1 1) (hgd : o.guard = none) (s x : Operand)
    (ho : o.op = .call { callee := .builtin .append, args := #[s, x], argTypes := #[30, 30] })
    {g : Option Nat} {cap : Nat} {out : List UInt8} (hs : a.eval s = slv g out.length cap) (hown : Bs w g out.length cap out) (hg : ∀ b, g = some b → W.heap.size ≤ b) (hE : Touch S W w)
    (y : List UInt8) {b m c : Nat} {e' : TypeId} {f : Nat × Nat} (hx : a.eval x = .slice (some ⟨b, 0, none⟩) m c) (hy : y.length = m) (hm : 0 < m) (hnews : w.heap[b]? = some (.cells (bc y).toArray e' f)) (hb : out.length + m ≤ 140737488355328)
    (h : ∀ g' cap' w', Bs w' (some g') (out.length + m) cap' (out ++ y) → W.heap.size ≤ g' → Touch S W w' → Touch (fun k => g = some k) w w' →
      wpList P ops Q rest (a.put o.dst (.slice (some ⟨g', 0, none⟩) (out.length + m) cap')) w') : wpList P ops Q (o :: rest) a w := by
  refine app_lit E hgd s x ho hs hown hx (by rw [bc_len]; omega) hnews (bc_one y) hm (by omega) ?_
  intro g2 cap2 w2 hS2 hT2 hat2
  refine h g2 cap2 w2 ?_ ?_ ?_ hT2
  · unfold Bs; rw [bc_append]; exact hS2
  · rcases hat2 with h | h
    · exact hg _ h
    · have := hE.size; omega
  · exact hE.trans' hT2 (fun i hi h => by have := hg i h; omega)

set_option maxRecDepth 100000 in
set_option maxHeartbeats 4000000 in
theorem text_ok (sb : Nat) (a : Option Addr) (c : Nat) (l : List UInt8) (p : Nat) (w : World) (h : Src w sb a c l p) (hp : 0 < p) (hl : l.length ≤ 140737488355328) (ha : ∀ q, a = some q → q.block < w.heap.size) :
    Calls Try.prog 44 #[.pointer (some ⟨sb, 0, none⟩)] w (fun e w' => TextPost w sb a c l (textD (p - 1) p (l.drop p) []) e w') := by
  generalize hR : textD (p - 1) p (l.drop p) [] = R
  have HR := Lib.hid hR; clear hR
  have hsb : sb < w.heap.size := blk_lt h.1
  have hpl : p ≤ l.length := h.2.1
  obtain ⟨c0, c1⟩ := blk2 h.1
  have H := Lib.hid h; clear h
  have HA := Lib.hid ha; clear ha
  go_enter Try.func44, Try.ntmps44
  go_wp2
  go_loopg [3] (l.length - p) (fun k v3 wr => ∃ (q : Nat) (g : Option Nat) (cap : Nat) (out : List UInt8), k = l.length - q ∧ v3 = slv g out.length cap ∧ out.length ≤ q ∧ Src wr sb a c l q ∧ Bs wr g out.length cap out ∧
    (∀ b, g = some b → w.heap.size ≤ b) ∧ Touch (fun b => b = sb) w wr ∧ textD (p - 1) q (l.drop q) out = R)
  case atStart => exact ⟨p, none, 0, [], rfl, rfl, by simp, H.out, Sl.nil _ _ _, by simp, Touch.refl _ _, HR.out⟩
  case round =>
    clear c0 c1
    obtain ⟨q, g, cap, out, hk, rfl, hoq, hS, hB, hg, hT, hD⟩ := hrel
    have HS := Lib.hid hS
    have hql := hS.2.1
    have HB := Lib.hid hB
    have HG := Lib.hid hg
    have HT := Lib.hid hT
    have HK := Lib.hid hk
    clear hS hB hg hT hk
    by_cases hlt : q < l.length
    · obtain ⟨x, hx⟩ : ∃ x, l[q]? = some x := ⟨_, List.getElem?_eq_getElem hlt⟩
      have hd : l.drop q = x :: l.drop (q + 1) := by
        rw [List.drop_eq_getElem_cons hlt]; rw [List.getElem?_eq_getElem hlt] at hx; cases hx; rfl
      rw [hd] at hD
      have HD := Lib.hid hD; clear hD hd
      go_wp2_with fail
      refine (next_ok sb a c l q wr HS.out x hx hl).mono ?_
      rintro e w2 ⟨rfl, hS2, hT2⟩
      have hB2 : Bs w2 g out.length cap out := HB.out.touch hT2 (fun b e => by have := HG.out b e; omega)
      have hT2' := HT.out.trans hT2
      have HS2 := Lib.hid hS2; clear hS2
      have HB2 := Lib.hid hB2; clear hB2
      have HX := Lib.hid hx; clear hx
      by_cases hx0 : x = 0
      · subst hx0
        by_cases hlt2 : q + 1 < l.length
        · obtain ⟨y, hy⟩ : ∃ y, l[q + 1]? = some y := ⟨_, List.getElem?_eq_getElem hlt2⟩
          have hd : l.drop (q + 1) = y :: l.drop (q + 2) := by
            rw [List.drop_eq_getElem_cons hlt2]; rw [List.getElem?_eq_getElem hlt2] at hy; cases hy; rfl
          rw [hd] at HD
          have hR2 := HD.out
          rw [textD_zero] at hR2
          have HR2 := Lib.hid hR2; clear HD hR2 hd
          go_wp2_with fail
          refine (next_ok sb a c l (q + 1) w2 HS2.out y hy hl).mono ?_
          rintro e w3 ⟨rfl, hS3, hT3⟩
          have hB3 : Bs w3 g out.length cap out := HB2.out.touch hT3 (fun b e => by have := HG.out b e; omega)
          have hT3' := hT2'.trans hT3
          have HS3 := Lib.hid hS3; clear hS3
          have HB3 := Lib.hid hB3; clear hB3
          have HY := Lib.hid hy; clear hy hT2 hT3
          by_cases hy0 : y = 0
          · subst hy0
            by_cases hlen : out.length > 64
            · have hlen' : (64 : Int) < (out.length : Int) := by omega
              have HR3 : Hid (.inl (2, p - 1) = R) := by have := HR2.out; rw [if_pos rfl, if_pos hlen] at this; exact this
              clear HR2
              go_wp2
              refine ⟨rfl, ?_⟩
              rw [← HR3.out]
              refine ⟨hT3', ?_⟩
              simp only []
              rw [show ((p - 1 : Nat) : Int) = (p : Int) - 1 by omega]
              rfl
            · have hlen' : ¬ (64 : Int) < (out.length : Int) := by omega
              have HR3 : Hid (.inr (out, q + 2) = R) := by have := HR2.out; rw [if_pos rfl, if_neg hlen] at this; exact this
              clear HR2
              have hcv := conv_bytes HB3.out
              go_wp2
              go_ret
              rw [← HR3.out]
              exact ⟨hT3', rfl, HS3.out⟩
          · have hyz : ((y.toNat : Int) == 0) = false := by
              have : y.toNat ≠ 0 := fun e => hy0 (UInt8.toNat_inj.1 (by simpa using e))
              simp; omega
            by_cases hy1 : y = 255
            · subst hy1
              have HR3 : Hid (textD (p - 1) (q + 2) (l.drop (q + 2)) (out ++ [0]) = R) := by have := HR2.out; rw [if_neg hy0, if_pos rfl] at this; exact this
              clear HR2 hy0
              go_wp2_with (at_builtin; refine app_tch (W := w) (S := fun b => b = sb) ei_byte rfl (.tmp 46) (.tmp 48) rfl (g := g) (cap := cap) (by rfl) (HB3.out.ext ((Ext.refl w3).alloc _)) HG.out (hT3'.alloc _) [0] (by rfl) (by rfl) (by omega) (blk_new _ _) (by omega) ?_)
              intro g4 cap4 w4 hB4 hg4 hE4 hT4
              have hS4 : Src w4 sb a c l (q + 2) := (HS3.out.ext ((Ext.refl w3).alloc _)).touch hT4 (fun e => by have := HG.out _ e; omega) (fun r e h => by have := HG.out _ h; have := HA.out r e; omega)
              have HB4 := Lib.hid hB4
              have HS4 := Lib.hid hS4
              clear hB4 hS4 hT4
              go_wp2
              go_roundg (l.length - (q + 2))
              case measure => have := HK.out; omega
              case rel => exact ⟨q + 2, some g4, cap4, out ++ [0], rfl, by simp [slv, adr], by simp; omega, HS4.out, by simpa using HB4.out, by simpa using hg4, hE4, HR3.out⟩
            · have hyf : ((y.toNat : Int) == 255) = false := by
                have : y.toNat ≠ 255 := fun e => hy1 (UInt8.toNat_inj.1 (by simpa using e))
                simp; omega
              have HR3 : Hid (.inl (22, q + 1) = R) := by have := HR2.out; rw [if_neg hy0, if_neg hy1] at this; exact this
              obtain ⟨d0, d1⟩ := blk2 HS3.out.1
              clear HR2 hy0 hy1
              go_wp2
              refine ⟨rfl, ?_⟩
              rw [← HR3.out]
              refine ⟨hT3', ?_⟩

              simp only []
              rfl
        · have hq : q + 1 = l.length := by omega
          have hdn : l.drop (q + 1) = [] := List.drop_eq_nil_of_le (by omega)
          rw [hdn] at HD
          have HR2 : Hid (.inl (20, q + 1) = R) := by have := HD.out; rwa [textD_zero_nil] at this
          clear HD hdn
          go_wp2_with fail
          refine (next_end sb a c l (q + 1) w2 HS2.out hq).mono ?_
          rintro e w3 ⟨rfl, hE3⟩
          go_wp2
          refine ⟨rfl, ?_⟩
          rw [← HR2.out]
          exact ⟨hT2'.trans (hE3.touch _), by simp only [hq]; rfl⟩
      · have hxz : ((x.toNat : Int) == 0) = false := by
          have : x.toNat ≠ 0 := fun e => hx0 (UInt8.toNat_inj.1 (by simpa using e))
          simp; omega
        have HD2 : Hid (textD (p - 1) (q + 1) (l.drop (q + 1)) (out ++ [x]) = R) := by
          have := HD.out; rwa [textD_some _ _ _ _ _ hx0] at this
        clear hx0
        go_wp2_with (at_builtin; refine app_tch (W := w) (S := fun b => b = sb) ei_byte rfl (.tmp 46) (.tmp 48) rfl (g := g) (cap := cap) (by rfl) (HB2.out.ext ((Ext.refl w2).alloc _)) HG.out (hT2'.alloc _) [x] (by rfl) (by rfl) (by omega) (blk_new _ _) (by omega) ?_)
        intro g4 cap4 w4 hB4 hg4 hE4 hT4
        have hS4 : Src w4 sb a c l (q + 1) := (HS2.out.ext ((Ext.refl w2).alloc _)).touch hT4 (fun e => by have := HG.out _ e; omega) (fun r e h => by have := HG.out _ h; have := HA.out r e; omega)
        have HB4 := Lib.hid hB4
        have HS4 := Lib.hid hS4
        clear hB4 hS4 hT4
        go_wp2
        go_roundg (l.length - (q + 1))
        case measure => have := HK.out; omega
        case rel => exact ⟨q + 1, some g4, cap4, out ++ [x], rfl, by simp [slv, adr], by simp; omega, HS4.out, by simpa using HB4.out, by simpa using hg4, hE4, HD2.out⟩
    · have hq : q = l.length := by omega
      have hdn : l.drop q = [] := List.drop_eq_nil_of_le (by omega)
      rw [hdn, textD_nil] at hD
      have HD := Lib.hid hD; clear hD hdn
      go_wp2_with fail
      refine (next_end sb a c l q wr HS.out hq).mono ?_
      rintro e w3 ⟨rfl, hE3⟩
      go_wp2
      refine ⟨rfl, ?_⟩
      rw [← HD.out]
      exact ⟨HT.out.trans (hE3.touch _), by simp only [hq]; rfl⟩

section
variable {P : Program} {ops : Array Oper} {Q : Exit → Act → List Frame → World → Prop} {cs cs' : List Frame}
/-- The operations that do not recover, walked as ever. -/
theorem wpOpsS_list {K : Act → World → Prop} (hK : ∀ a w, K a w → Q .normal a cs w) : ∀ (l : List Nat) (a : Act) (w : World),
    wpList P ops (Exit.then K (fun _ _ _ => False)) (l.filterMap fun i => ops[i]?) a w → wpOpsS P ops Q l a cs w
  | [], a, w, h => hK a w h
  | i :: rest, a, w, h => by
    unfold wpOpsS
    cases ho : ops[i]? with
    | none =>
      simp only [List.filterMap_cons, ho] at h
      exact wpOpsS_list hK rest a w h
    | some o =>
      simp only [List.filterMap_cons, ho] at h
      unfold wpList at h
      simp only []
      split at h
      · rename_i hw
        rw [if_pos hw]
        rcases h with h | ⟨_, a0, w0, h0⟩
        · unfold Oper.wp at h
          generalize (execOp a.eval o).run P w = r at h ⊢
          cases r with
          | ok n w' =>
            cases n <;> simp only [Oper.upon] at h ⊢
            case value v => exact wpOpsS_list hK rest _ _ h
            case skip => exact wpOpsS_list hK rest _ _ h
            case defer d => exact wpOpsS_list hK rest _ _ h
            case enter f args =>
              refine h.mono fun e w'' he => ?_
              cases e with
              | returned v => exact wpOpsS_list hK rest _ _ he
              | panicked c => exact he.elim
              | outgrown => obtain ⟨_, _, he⟩ := he; exact he.elim
            case row row args => exact h.mono fun v w'' he => wpOpsS_list hK rest _ _ he
          | halt x w' => cases x <;> simp only [Oper.upon] at h ⊢; exact h.elim
        · exact h0.elim
      · rename_i hw
        rw [if_neg hw]
        exact wpOpsS_list hK rest _ _ h
theorem wpOpsS_recover {i : Nat} {rest : List Nat} {o : Oper} {a : Act} {w w' : World} {v : Value} {r : List Oper} (ho : ops.toList.drop i = o :: r) (hg : o.guard = none) (hr : (execOp a.eval o).run P w = .ok .recover w') (hc : recoverD cs = some (v, cs'))
    (h : wpOpsS P ops Q rest (a.put o.dst v) cs' w') : wpOpsS P ops Q (i :: rest) a cs w := by
  unfold wpOpsS
  simp only [at_drop ho, Region.wanted, hg, if_true, hr, hc]
  exact h
theorem wpOpsS_idle {i : Nat} {rest : List Nat} {o : Oper} {a : Act} {w w' : World} {r : List Oper} (ho : ops.toList.drop i = o :: r) (hg : o.guard = none) (hr : (execOp a.eval o).run P w = .ok .recover w') (hc : recoverD cs = none)
    (h : wpOpsS P ops Q rest (a.put o.dst .nilIface) cs w') : wpOpsS P ops Q (i :: rest) a cs w := by
  unfold wpOpsS
  simp only [at_drop ho, Region.wanted, hg, if_true, hr, hc]
  exact h
/-- A region whose first operation recovers. -/
theorem wpS_region_rec {id : Nat} {a : Act} {w w' : World} {rest : List Nat} {o : Oper} {v : Value} {r : List Oper} (K : Act → World → Prop) (hl : List.range ops.size = 0 :: rest) (ho : ops.toList.drop 0 = o :: r) (hg : o.guard = none)
    (hr : (execOp a.eval o).run P w = .ok .recover w') (hc : recoverD cs = some (v, cs')) (hK : ∀ a w, K a w → Q .normal a cs' w) (hls : (rest.filterMap fun i => ops[i]?) = r)
    (h : wpList P ops (Exit.then K (fun _ _ _ => False)) r (a.put o.dst v) w') : (Code.region id ops false).wpS P Q a cs w := by
  rw [← hls] at h
  refine wpS_region ?_
  rw [hl]
  exact wpOpsS_recover ho hg hr hc (wpOpsS_list hK _ _ _ h)
theorem wpS_region_idle {id : Nat} {a : Act} {w w' : World} {rest : List Nat} {o : Oper} {r : List Oper} (K : Act → World → Prop) (hl : List.range ops.size = 0 :: rest) (ho : ops.toList.drop 0 = o :: r) (hg : o.guard = none)
    (hr : (execOp a.eval o).run P w = .ok .recover w') (hc : recoverD cs = none) (hK : ∀ a w, K a w → Q .normal a cs w) (hls : (rest.filterMap fun i => ops[i]?) = r)
    (h : wpList P ops (Exit.then K (fun _ _ _ => False)) r (a.put o.dst .nilIface) w') : (Code.region id ops false).wpS P Q a cs w := by
  rw [← hls] at h
  refine wpS_region ?_
  rw [hl]
  exact wpOpsS_idle ho hg hr hc (wpOpsS_list hK _ _ _ h)
end

theorem assert_yes (w : World) (v : Value) : (Instr.typeAssert (.iface 99 v) 20 99 true).run Try.prog w = .ok (.tuple #[v, .bool true]) w := by kernel_rfl
theorem assert_no (w : World) : (Instr.typeAssert .nilIface 20 99 true).run Try.prog w = .ok (.tuple #[.agg #[.int .i64 0, .int .i64 0], .bool false]) w := by kernel_rfl

set_option maxRecDepth 100000 in
set_option maxHeartbeats 4000000 in
theorem catch_panicking (vb fb : Nat) (code q : Int) (vs0 f0 f1 : Value) (w : World) (hv : w.heap[vb]? = some (.cells #[vs0] 23 (0, 0))) (hf : w.heap[fb]? = some (.cells #[f0, f1] 37 (0, 0))) (hne : vb ≠ fb) :
    CallsD Try.prog 42 #[.pointer (some ⟨vb, 0, none⟩), .pointer (some ⟨fb, 0, none⟩)] (.panicking (broken code q)) w fun e u' w' =>
      e = .returned (.tuple #[]) ∧ u' = .panicking [{ v := .iface 99 (.agg #[.int .i64 code, .int .i64 q]), recovered := true }] ∧
      w'.heap[vb]? = some (.cells #[.slice none 0 0] 23 (0, 0)) ∧ w'.heap[fb]? = some (.cells #[.int .i64 code, .int .i64 q] 37 (0, 0)) ∧ Touch (fun b => b = vb ∨ b = fb) w w' := by
  refine callsD_of_wpS Try.func42 rfl fun c₀ cs hu => ?_
  rw [show (#[Value.pointer (some ⟨vb, 0, none⟩), .pointer (some ⟨fb, 0, none⟩)] ++ Array.replicate (Try.f42.ntmps - #[Value.pointer (some ⟨vb, 0, none⟩), Value.pointer (some ⟨fb, 0, none⟩)].size) undef) =
    #[Value.pointer (some ⟨vb, 0, none⟩), .pointer (some ⟨fb, 0, none⟩), undef, undef, undef, undef, undef, undef, undef, undef, undef, undef] from by rw [Try.ntmps42]; rfl]
  apply wpS_seq
  have hmode : recoverD (c₀ :: cs) = some (.iface 99 (.agg #[.int .i64 code, .int .i64 q]), { c₀ with mode := .panicking [{ v := .iface 99 (.agg #[.int .i64 code, .int .i64 q]), recovered := true }] } :: cs) := by simp [recoverD, hu]
  refine wpS_region_rec (rest := [1, 2, 3, 4, 5, 6, 7]) (fun a w' => Code.wp Try.prog _ (fun e a' w' => _) a w') (by kernel_rfl) rfl rfl (w' := w) rfl hmode (fun a w' h => wpS_of_wp h) (by kernel_rfl) ?h5
  generalize hcs : ({ c₀ with mode := .panicking [{ v := .iface 99 (.agg #[.int .i64 code, .int .i64 q]), recovered := true }] } : Frame) = c1
  have HCS := Lib.hid hcs
  have v0 := blk1 hv
  obtain ⟨v1, v2⟩ := blk2 hf
  have z0 := blk_frozen hv 0
  clear hmode hcs
  have hta := assert_yes
  go_wp2
  clear hta
  have hE : Ext w (w.alloc (.cells #[.int .i64 code, .int .i64 q] 99)) := (Ext.refl w).alloc _
  have hv' := Ext.block hE hv
  have hf' := Ext.block hE hf
  obtain ⟨x0, x1⟩ := blk2 (blk_new w (.cells #[.int .i64 code, .int .i64 q] 99))
  have hnb : vb < w.heap.size ∧ fb < w.heap.size := ⟨blk_lt hv, blk_lt hf⟩
  clear v0 v1 v2 z0
  generalize w.alloc (.cells #[.int .i64 code, .int .i64 q] 99) = W at *
  generalize w.heap.size = xb at *
  have v0 := blk1 hv'
  obtain ⟨v1, v2⟩ := blk2 hf'
  have z0 := blk_frozen hv' 0
  have z1 := blk_frozen hf' 0
  have z2 := blk_frozen hf' 1
  have hn1 : ¬ vb = xb := by omega
  have hn2 : ¬ fb = xb := by omega
  go_region
  refine ⟨rfl, .panicking [{ v := .iface 99 (.agg #[.int .i64 code, .int .i64 q]), recovered := true }], by rw [← HCS.out], .tuple #[], results_none rfl _ _ _, rfl, rfl, ?_, ?_, ?_⟩
  · exact blk_set_ne (blk_set_ne (blk_set hv' 0 _) hne _) hne _
  · exact blk_set (blk_set (blk_set_ne hf' (fun e => hne e.symm) _) 0 _) 1 _
  · exact ((((hE.touch (fun b => b = vb ∨ b = fb)).setCell (p := ⟨vb, 0, none⟩) (fun _ => .inl rfl) _).setCell (p := ⟨fb, 0, none⟩) (fun _ => .inr rfl) _).setCell (p := ⟨fb, 1, none⟩) (fun _ => .inr rfl) _).drew

set_option maxRecDepth 100000 in
set_option maxHeartbeats 4000000 in
theorem catch_idle (vb fb : Nat) (w : World) :
    CallsD Try.prog 42 #[.pointer (some ⟨vb, 0, none⟩), .pointer (some ⟨fb, 0, none⟩)] .returning w fun e u' w' =>
      e = .returned (.tuple #[]) ∧ u' = .returning ∧ Ext w w' := by
  refine callsD_of_wpS Try.func42 rfl fun c₀ cs hu => ?_
  rw [show (#[Value.pointer (some ⟨vb, 0, none⟩), .pointer (some ⟨fb, 0, none⟩)] ++ Array.replicate (Try.f42.ntmps - #[Value.pointer (some ⟨vb, 0, none⟩), Value.pointer (some ⟨fb, 0, none⟩)].size) undef) =
    #[Value.pointer (some ⟨vb, 0, none⟩), .pointer (some ⟨fb, 0, none⟩), undef, undef, undef, undef, undef, undef, undef, undef, undef, undef] from by rw [Try.ntmps42]; rfl]
  apply wpS_seq
  have hmode : recoverD (c₀ :: cs) = none := by simp [recoverD, hu]
  refine wpS_region_idle (rest := [1, 2, 3, 4, 5, 6, 7]) (fun a w' => Code.wp Try.prog _ (fun e a' w' => _) a w') (by kernel_rfl) rfl rfl (w' := w) rfl hmode (fun a w' h => wpS_of_wp h) (by kernel_rfl) ?h5
  have HU := Lib.hid hu
  clear hmode hu
  have hta := assert_no
  go_wp2
  refine ⟨rfl, .returning, by rw [← HU.out], .tuple #[], results_none rfl _ _ _, rfl, rfl, (Ext.refl w).alloc _⟩


end Go.Proofs.Ytkejjahlglldlaa
