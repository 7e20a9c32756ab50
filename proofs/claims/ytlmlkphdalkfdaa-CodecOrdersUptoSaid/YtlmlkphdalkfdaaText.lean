/- (*source).text, walked. -/
import Derived.Test.YtlmlkphdalkfdaaNext
import Derived.Laws.IdiomStrings
namespace Go.Proofs.Ytlmlkphdalkfdaa
open Go.RowKit

/-- What is read behind a kind byte at 'start': the fault's code and place; or the text, and where it ends. -/
def textD (start : Nat) : Nat → List UInt8 → List UInt8 → (Nat × Nat) ⊕ (List UInt8 × Nat)
  | p, [], _ => .inl (20, p)
  | p, x :: r, out => if x = 0 then
      match r with
      | [] => .inl (20, p + 1)
      | y :: r' => if y = 0 then (if out.length > 64 then .inl (2, start) else .inr (out, p + 2)) else if y = 255 then textD start (p + 2) r' (out ++ [0]) else .inl (22, p + 1)
    else textD start (p + 1) r (out ++ [x])

theorem textD_nil (start p : Nat) (out : List UInt8) : textD start p [] out = .inl (20, p) := by unfold textD; rfl
theorem textD_some (start p : Nat) (x : UInt8) (r out : List UInt8) (h : x ≠ 0) : textD start p (x :: r) out = textD start (p + 1) r (out ++ [x]) := by
  rw [textD.eq_def]; simp [h]
theorem textD_zero_nil (start p : Nat) (out : List UInt8) : textD start p [0] out = .inl (20, p + 1) := by
  rw [textD.eq_def]; simp
theorem textD_zero (start p : Nat) (y : UInt8) (r out : List UInt8) : textD start p (0 :: y :: r) out =
    if y = 0 then (if out.length > 64 then .inl (2, start) else .inr (out, p + 2)) else if y = 255 then textD start (p + 2) r (out ++ [0]) else .inl (22, p + 1) := by
  rw [textD.eq_def]; simp

/-- What comes of text. -/
def TextPost (w : World) (sb : Nat) (a : Option Addr) (c : Nat) (l : List UInt8) (R : (Nat × Nat) ⊕ (List UInt8 × Nat)) (e : Ending) (w' : World) : Prop :=
  Touch (fun b => b = sb) w w' ∧ match R with
  | .inl (code, q) => e = .panicked (broken code q)
  | .inr (t, q) => e = .returned (str t) ∧ Src w' sb a c l q

theorem conv_bytes {w : World} {g : Option Nat} {n cap : Nat} {l : List UInt8} (h : Bs w g n cap l) : (convert 22 9 (slv g n cap)).run Try.prog w = .ok (str l) w := by
  have hn := h.bytes
  subst hn
  cases g with
  | none =>
    obtain ⟨_, h0, rfl⟩ := h
    have : l = [] := List.eq_nil_of_length_eq_zero h0
    subst this
    exact run_convert_bytes_nil (w := w) 22 5 Try.underlying22 Try.underlying5 0 0 9 Try.underlying9
  | some b =>
    refine run_convert_bytes_back w _ _ 5 ⟨b, 0, none⟩ cap l Try.underlying22 Try.underlying5 Try.underlying9 (fun j hj => ?_)
    have := h.cell (bc_get (List.getElem?_eq_getElem hj))
    unfold Addr.add
    split
    · rename_i h0; subst h0; exact this
    · simpa using this

/-- append of the bytes y to bytes of the call's own; S: what the call may touch besides. -/
theorem app_tch {P : Program} {S : Nat → Prop} {W w : World} {ops : Array Oper} {rest : List Oper} {o : Oper} {a : Act} {Q : Exit → Act → World → Prop} (E : EI P 22 5 1 1) (hgd : o.guard = none) (s x : Operand)
    (ho : o.op = .call { callee := .builtin .append, args := #[s, x], argTypes := #[22, 22] })
    {g : Option Nat} {cap : Nat} {out : List UInt8} (hs : a.eval s = slv g out.length cap) (hown : Bs w g out.length cap out) (hg : ∀ b, g = some b → W.heap.size ≤ b) (hE : Touch S W w)
    (y : List UInt8) {b m c : Nat} {e' : TypeId} {f : Nat × Nat} (hx : a.eval x = .slice (some ⟨b, 0, none⟩) m c) (hy : y.length = m) (hm : 0 < m) (hnews : w.heap[b]? = some (.cells (bc y).toArray e' f)) (hb : out.length + m ≤ 140737488355328)
    (h : ∀ g' cap' w', Bs w' (some g') (out.length + m) cap' (out ++ y) → W.heap.size ≤ g' → Touch S W w' → Touch (fun k => g = some k) w w' →
      wpList P ops Q rest (a.put o.dst (.slice (some ⟨g', 0, none⟩) (out.length + m) cap')) w') : wpList P ops Q (o :: rest) a w := by
  refine app_lit E hgd s x ho hs hown hx (by rw [bc_len]; omega) hnews (bc_one y) hm (by omega) ?_
  intro g2 cap2 w2 hS2 hT2 hat2
  refine h g2 cap2 w2 ?_ ?_ ?_ hT2
  · unfold Bs; rw [bc_append]; exact hS2
  · rcases hat2 with h | h
    · exact hg _ h
    · have := hE.size; omega
  · exact hE.trans' hT2 (fun i hi h => by have := hg i h; omega)

set_option maxHeartbeats 4000000 in
theorem text_ok (sb : Nat) (a : Option Addr) (c : Nat) (l : List UInt8) (p : Nat) (w : World) (h : Src w sb a c l p) (hp : 0 < p) (hl : l.length ≤ 140737488355328) (ha : ∀ q, a = some q → q.block < w.heap.size) :
    Calls Try.prog 30 #[.pointer (some ⟨sb, 0, none⟩)] w (fun e w' => TextPost w sb a c l (textD (p - 1) p (l.drop p) []) e w') := by
  generalize hR : textD (p - 1) p (l.drop p) [] = R
  have HR := Lib.hid hR; clear hR
  have hsb : sb < w.heap.size := blk_lt h.1
  have hpl : p ≤ l.length := h.2.1
  obtain ⟨c0, c1⟩ := blk2 h.1
  have H := Lib.hid h; clear h
  have HA := Lib.hid ha; clear ha
  go_enter Try.func30, Try.ntmps30
  go_wp2
  go_loopg [3] (l.length - p) (fun k v3 wr => ∃ (q : Nat) (g : Option Nat) (cap : Nat) (out : List UInt8), k = l.length - q ∧ v3 = slv g out.length cap ∧ out.length ≤ q ∧ Src wr sb a c l q ∧ Bs wr g out.length cap out ∧
    (∀ b, g = some b → w.heap.size ≤ b) ∧ Touch (fun b => b = sb) w wr ∧ textD (p - 1) q (l.drop q) out = R)
  case atStart => exact ⟨p, none, 0, [], rfl, rfl, by simp, H.out, Sl.nil _ _ _, by simp, Touch.refl _ _, HR.out⟩
  case round =>
    clear c0 c1
    obtain ⟨q, g, cap, out, hk, rfl, hoq, hS, hB, hg, hT, hD⟩ := hrel
    have HS := Lib.hid hS
    have hql := hS.2.1
    have HB := Lib.hid hB
    have HG := Lib.hid hg
    have HT := Lib.hid hT
    have HK := Lib.hid hk
    clear hS hB hg hT hk
    by_cases hlt : q < l.length
    · obtain ⟨x, hx⟩ : ∃ x, l[q]? = some x := ⟨_, List.getElem?_eq_getElem hlt⟩
      have hd : l.drop q = x :: l.drop (q + 1) := by
        rw [List.drop_eq_getElem_cons hlt]; rw [List.getElem?_eq_getElem hlt] at hx; cases hx; rfl
      rw [hd] at hD
      have HD := Lib.hid hD; clear hD hd
      go_wp2_with fail
      refine (next_ok sb a c l q wr HS.out x hx hl).mono ?_
      rintro e w2 ⟨rfl, hS2, hT2⟩
      have hB2 : Bs w2 g out.length cap out := HB.out.touch hT2 (fun b e => by have := HG.out b e; omega)
      have hT2' := HT.out.trans hT2
      have HS2 := Lib.hid hS2; clear hS2
      have HB2 := Lib.hid hB2; clear hB2
      have HX := Lib.hid hx; clear hx
      by_cases hx0 : x = 0
      · subst hx0
        by_cases hlt2 : q + 1 < l.length
        · obtain ⟨y, hy⟩ : ∃ y, l[q + 1]? = some y := ⟨_, List.getElem?_eq_getElem hlt2⟩
          have hd : l.drop (q + 1) = y :: l.drop (q + 2) := by
            rw [List.drop_eq_getElem_cons hlt2]; rw [List.getElem?_eq_getElem hlt2] at hy; cases hy; rfl
          rw [hd] at HD
          have hR2 := HD.out
          rw [textD_zero] at hR2
          have HR2 := Lib.hid hR2; clear HD hR2 hd
          go_wp2_with fail
          refine (next_ok sb a c l (q + 1) w2 HS2.out y hy hl).mono ?_
          rintro e w3 ⟨rfl, hS3, hT3⟩
          have hB3 : Bs w3 g out.length cap out := HB2.out.touch hT3 (fun b e => by have := HG.out b e; omega)
          have hT3' := hT2'.trans hT3
          have HS3 := Lib.hid hS3; clear hS3
          have HB3 := Lib.hid hB3; clear hB3
          have HY := Lib.hid hy; clear hy hT2 hT3
          by_cases hy0 : y = 0
          · subst hy0
            by_cases hlen : out.length > 64
            · have hlen' : (64 : Int) < (out.length : Int) := by omega
              have HR3 : Hid (.inl (2, p - 1) = R) := by have := HR2.out; rw [if_pos rfl, if_pos hlen] at this; exact this
              clear HR2
              go_wp2
              refine ⟨rfl, ?_⟩
              rw [← HR3.out]
              refine ⟨hT3', ?_⟩
              simp only []
              rw [show ((p - 1 : Nat) : Int) = (p : Int) - 1 by omega]
              rfl
            · have hlen' : ¬ (64 : Int) < (out.length : Int) := by omega
              have HR3 : Hid (.inr (out, q + 2) = R) := by have := HR2.out; rw [if_pos rfl, if_neg hlen] at this; exact this
              clear HR2
              have hcv := conv_bytes HB3.out
              go_wp2
              go_ret
              rw [← HR3.out]
              exact ⟨hT3', rfl, HS3.out⟩
          · have hyz : ((y.toNat : Int) == 0) = false := by
              have : y.toNat ≠ 0 := fun e => hy0 (UInt8.toNat_inj.1 (by simpa using e))
              simp; omega
            by_cases hy1 : y = 255
            · subst hy1
              have HR3 : Hid (textD (p - 1) (q + 2) (l.drop (q + 2)) (out ++ [0]) = R) := by have := HR2.out; rw [if_neg hy0, if_pos rfl] at this; exact this
              clear HR2 hy0
              go_wp2_with (at_builtin; refine app_tch (W := w) (S := fun b => b = sb) ei_byte rfl (.tmp 46) (.tmp 48) rfl (g := g) (cap := cap) (by rfl) (HB3.out.ext ((Ext.refl w3).alloc _)) HG.out (hT3'.alloc _) [0] (by rfl) (by rfl) (by omega) (blk_new _ _) (by omega) ?_)
              intro g4 cap4 w4 hB4 hg4 hE4 hT4
              have hS4 : Src w4 sb a c l (q + 2) := (HS3.out.ext ((Ext.refl w3).alloc _)).touch hT4 (fun e => by have := HG.out _ e; omega) (fun r e h => by have := HG.out _ h; have := HA.out r e; omega)
              have HB4 := Lib.hid hB4
              have HS4 := Lib.hid hS4
              clear hB4 hS4 hT4
              go_wp2
              go_roundg (l.length - (q + 2))
              case measure => have := HK.out; omega
              case rel => exact ⟨q + 2, some g4, cap4, out ++ [0], rfl, by simp [slv, adr], by simp; omega, HS4.out, by simpa using HB4.out, by simpa using hg4, hE4, HR3.out⟩
            · have hyf : ((y.toNat : Int) == 255) = false := by
                have : y.toNat ≠ 255 := fun e => hy1 (UInt8.toNat_inj.1 (by simpa using e))
                simp; omega
              have HR3 : Hid (.inl (22, q + 1) = R) := by have := HR2.out; rw [if_neg hy0, if_neg hy1] at this; exact this
              obtain ⟨d0, d1⟩ := blk2 HS3.out.1
              clear HR2 hy0 hy1
              go_wp2
              refine ⟨rfl, ?_⟩
              rw [← HR3.out]
              refine ⟨hT3', ?_⟩

              simp only []
              rfl
        · have hq : q + 1 = l.length := by omega
          have hdn : l.drop (q + 1) = [] := List.drop_eq_nil_of_le (by omega)
          rw [hdn] at HD
          have HR2 : Hid (.inl (20, q + 1) = R) := by have := HD.out; rwa [textD_zero_nil] at this
          clear HD hdn
          go_wp2_with fail
          refine (next_end sb a c l (q + 1) w2 HS2.out hq).mono ?_
          rintro e w3 ⟨rfl, hE3⟩
          go_wp2
          refine ⟨rfl, ?_⟩
          rw [← HR2.out]
          exact ⟨hT2'.trans (hE3.touch _), by simp only [hq]; rfl⟩
      · have hxz : ((x.toNat : Int) == 0) = false := by
          have : x.toNat ≠ 0 := fun e => hx0 (UInt8.toNat_inj.1 (by simpa using e))
          simp; omega
        have HD2 : Hid (textD (p - 1) (q + 1) (l.drop (q + 1)) (out ++ [x]) = R) := by
          have := HD.out; rwa [textD_some _ _ _ _ _ hx0] at this
        clear hx0
        go_wp2_with (at_builtin; refine app_tch (W := w) (S := fun b => b = sb) ei_byte rfl (.tmp 46) (.tmp 48) rfl (g := g) (cap := cap) (by rfl) (HB2.out.ext ((Ext.refl w2).alloc _)) HG.out (hT2'.alloc _) [x] (by rfl) (by rfl) (by omega) (blk_new _ _) (by omega) ?_)
        intro g4 cap4 w4 hB4 hg4 hE4 hT4
        have hS4 : Src w4 sb a c l (q + 1) := (HS2.out.ext ((Ext.refl w2).alloc _)).touch hT4 (fun e => by have := HG.out _ e; omega) (fun r e h => by have := HG.out _ h; have := HA.out r e; omega)
        have HB4 := Lib.hid hB4
        have HS4 := Lib.hid hS4
        clear hB4 hS4 hT4
        go_wp2
        go_roundg (l.length - (q + 1))
        case measure => have := HK.out; omega
        case rel => exact ⟨q + 1, some g4, cap4, out ++ [x], rfl, by simp [slv, adr], by simp; omega, HS4.out, by simpa using HB4.out, by simpa using hg4, hE4, HD2.out⟩
    · have hq : q = l.length := by omega
      have hdn : l.drop q = [] := List.drop_eq_nil_of_le (by omega)
      rw [hdn, textD_nil] at hD
      have HD := Lib.hid hD; clear hD hdn
      go_wp2_with fail
      refine (next_end sb a c l q wr HS.out hq).mono ?_
      rintro e w3 ⟨rfl, hE3⟩
      go_wp2
      refine ⟨rfl, ?_⟩
      rw [← HD.out]
      exact ⟨HT.out.trans (hE3.touch _), by simp only [hq]; rfl⟩

end Go.Proofs.Ytlmlkphdalkfdaa
