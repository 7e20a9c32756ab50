/- (*source).next, walked. -/
import Derived.Test.YtlmlkphdalkfdaaEnc
namespace Go.Proofs.Ytlmlkphdalkfdaa
open Go.RowKit

/-- The source at sb: it reads the bytes l, and stands at p. -/
def Src (w : World) (sb : Nat) (a : Option Addr) (c : Nat) (l : List UInt8) (p : Nat) : Prop :=
  w.heap[sb]? = some (.cells #[.slice a l.length c, .int .i64 (p : Int)] 68 (0, 0)) ∧ p ≤ l.length ∧
  (0 < l.length → ∃ b off, a = some ⟨b, off, none⟩ ∧ b ≠ sb ∧ ∀ j x, l[j]? = some x → w.cell? ⟨b, off + j, none⟩ = some (.int .u8 (x.toNat : Int)))
theorem Src.touch {S : Nat → Prop} {w w' : World} {sb : Nat} {a : Option Addr} {c : Nat} {l : List UInt8} {p : Nat} (h : Src w sb a c l p) (ht : Touch S w w') (h1 : ¬ S sb) (h2 : ∀ q : Addr, a = some q → ¬ S q.block) : Src w' sb a c l p := by
  obtain ⟨h3, h4, h5⟩ := h
  refine ⟨Touch.old ht h3 h1, h4, fun hl => ?_⟩
  obtain ⟨b, off, rfl, hb, hc⟩ := h5 hl
  exact ⟨b, off, rfl, hb, fun j x hx => Touch.cell ht (hc j x hx) (h2 ⟨b, off, none⟩ rfl)⟩
theorem Src.ext {w w' : World} {sb : Nat} {a : Option Addr} {c : Nat} {l : List UInt8} {p : Nat} (h : Src w sb a c l p) (he : Ext w w') : Src w' sb a c l p :=
  h.touch (he.touch fun _ => False) (fun h => h) (fun _ _ h => h)

/-- What Decode gives up with. -/
abbrev broken (code at_ : Int) : List PanicEntry := [{ v := .iface 64 (.agg #[.int .i64 code, .int .i64 at_]), recovered := false }]

set_option maxHeartbeats 4000000 in
theorem next_end (sb : Nat) (a : Option Addr) (c : Nat) (l : List UInt8) (p : Nat) (w : World) (h : Src w sb a c l p) (hp : p = l.length) :
    Calls Try.prog 29 #[.pointer (some ⟨sb, 0, none⟩)] w (fun e w' => e = .panicked (broken 20 p) ∧ Ext w w') := by
  obtain ⟨hb, hle, hc⟩ := h
  obtain ⟨c0, c1⟩ := blk2 hb
  subst hp
  have hE : Ext w w.drew := (Ext.refl w).drew
  clear hb hle hc
  go_enter Try.func29, Try.ntmps29
  go_wp2
  refine region_calm [.p 0, .p 1, .p 2, .l 3, .p 4, .p 5, .p 6, .l 7, .p 8, .p 9] f_mixed (by kernel_rfl) (by kernel_rfl) ?_
  repeat (first | (refine plan_p rfl (fun K hK => ?_); go_simp; refine hK _ ?_; clear hK K) | (refine plan_l rfl (fun K hK => ?_); go_simp; refine hK _ ?_; clear hK K))
  refine plan_done ?_
  go_wp2
  exact ⟨rfl, rfl, hE⟩

set_option maxHeartbeats 4000000 in
theorem next_ok (sb : Nat) (a : Option Addr) (c : Nat) (l : List UInt8) (p : Nat) (w : World) (h : Src w sb a c l p) (x : UInt8) (hx : l[p]? = some x) (hl : l.length ≤ 140737488355328) :
    Calls Try.prog 29 #[.pointer (some ⟨sb, 0, none⟩)] w (fun e w' => e = .returned (.int .u8 (x.toNat : Int)) ∧ Src w' sb a c l (p + 1) ∧ Touch (fun b => b = sb) w w') := by
  obtain ⟨hb, hle, hc⟩ := h
  have hlt : p < l.length := (List.getElem?_eq_some_iff.1 hx).1
  obtain ⟨b, off, rfl, hne, hcc⟩ := hc (by omega)
  obtain ⟨c0, c1⟩ := blk2 hb
  have cx := hcc p x hx
  have hnew : Src ((w.setCell ⟨sb, 1, none⟩ (.int .i64 ((p : Int) + 1))).drew.drew) sb (some ⟨b, off, none⟩) c l (p + 1) := by
    refine ⟨?_, hlt, fun _ => ⟨b, off, rfl, hne, fun j y hy => ?_⟩⟩
    · exact blk_set hb 1 _
    · have : (w.setCell ⟨sb, 1, none⟩ (.int .i64 ((p : Int) + 1))).cell? ⟨b, off + j, none⟩ = w.cell? ⟨b, off + j, none⟩ := World.cell?_setCell_other _ _ _ _ (fun e => hne (congrArg Addr.block e).symm)
      exact this.trans (hcc j y hy)
  have hT : Touch (fun b => b = sb) w ((w.setCell ⟨sb, 1, none⟩ (.int .i64 ((p : Int) + 1))).drew.drew) := (((Touch.refl (fun b => b = sb) w).setCell (p := ⟨sb, 1, none⟩) (fun _ => rfl) _).drew).drew
  have fr := blk_frozen hb 1
  have HN := Lib.hid hnew; clear hnew
  have HT := Lib.hid hT; clear hT
  have hpl : (p : Int) ≤ 140737488355328 := by omega
  have hee : ((p : Int) == (l.length : Int)) = false := by simp; omega
  clear hb hle hc hcc hx
  go_enter Try.func29, Try.ntmps29
  go_wp2
  refine region_calm [.p 0, .p 1, .p 2, .l 3, .p 4, .p 5, .p 6, .l 7, .p 8, .p 9] f_mixed (by kernel_rfl) (by kernel_rfl) ?_
  repeat (first | (refine plan_p rfl (fun K hK => ?_); go_simp; refine hK _ ?_; clear hK K) | (refine plan_l rfl (fun K hK => ?_); go_simp; refine hK _ ?_; clear hK K))
  refine plan_done ?_
  go_wp2
  have f0 : (w.setCell ⟨sb, 1, none⟩ (.int .i64 ((p : Int) + 1))).cell? ⟨sb, 0, none⟩ = some (.slice (some ⟨b, off, none⟩) l.length c) :=
    (World.cell?_setCell_other _ _ _ _ (fun e => by have := congrArg Addr.off e; simp at this)).trans c0
  have f1 : (w.setCell ⟨sb, 1, none⟩ (.int .i64 ((p : Int) + 1))).cell? ⟨sb, 1, none⟩ = some (.int .i64 ((p : Int) + 1)) := World.cell?_setCell_same _ _ _ c1
  have fx : (w.setCell ⟨sb, 1, none⟩ (.int .i64 ((p : Int) + 1))).cell? ⟨b, off + p, none⟩ = some (.int .u8 (x.toNat : Int)) :=
    (World.cell?_setCell_other _ _ _ _ (fun e => hne (congrArg Addr.block e).symm)).trans cx
  clear c0 c1 cx fr hee
  generalize w.setCell ⟨sb, 1, none⟩ (.int .i64 ((p : Int) + 1)) = W4 at *
  have hw : IntKind.i64.wrap (p : Int) = (p : Int) := by rw [IntKind.wrap_i64]; omega
  have hix : (0 : Int) ≤ (p : Int) ∧ (p : Int) < (l.length : Int) := by omega
  refine region_calm [.p 0, .p 1, .p 2, .l 3, .p 4, .p 5, .p 6, .l 7, .p 8, .p 9, .l 10, .p 11] f_mixed (by kernel_rfl) (by kernel_rfl) ?_
  repeat (first | (refine plan_p rfl (fun K hK => ?_); go_simp; refine hK _ ?_; clear hK K) | (refine plan_l rfl (fun K hK => ?_); go_simp; refine hK _ ?_; clear hK K))
  refine plan_done ?_
  go_wp2
  go_ret
  exact ⟨rfl, HN.out, HT.out⟩

end Go.Proofs.Ytlmlkphdalkfdaa
