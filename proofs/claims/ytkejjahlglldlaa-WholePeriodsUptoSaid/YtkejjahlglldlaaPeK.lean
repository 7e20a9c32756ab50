/- bag.Normal, bag.Except at facts of one row: the whole calls. -/
import Derived.Test.YtkejjahlglldlaaPeJ
namespace Go.Proofs.Ytkejjahlglldlaa
open Go.RowKit

theorem OutC.sort {W wr w' : World} {ob : Nat} {g : Option Nat} {n cap : Nat} {ps qs : List Per} (h : OutC W ob g n cap ps wr) (hF : FSl w' g n cap qs) (ht : Touch (fun b => g = some b) wr w') : OutC W ob g n cap qs w' := by
  refine ⟨ht.old h.blk h.ne, hF, h.fresh, h.touch.trans' ht fun i hi hs => ?_, h.old⟩
  have := h.fresh i hs
  omega
/-- What Normal gives. -/
def NormPost (ps : List Per) (w : World) (e : Ending) (w' : World) : Prop :=
  ∃ g m cap out, e = .returned (slv g m cap) ∧ FSl w' g m cap out ∧ (∀ q ∈ out, okP q) ∧ (∀ t, Pts out t ↔ Pts (okL ps) t) ∧ m ≤ 2199023255552 ∧ (∀ b, g = some b → w.heap.size ≤ b) ∧ Ext w w'
theorem norm_law {ps qs out sorted : List Per} {es : List Int} {st : List Stp} (hp : qs.Perm (okL ps)) (he : IsEdges (qs ++ []) es) (hs : IsSteps qs [] es st) (hl : LayF st 1 out) (ho : sorted.Perm out) : (∀ q ∈ sorted, okP q) ∧ ∀ t, Pts sorted t ↔ Pts (okL ps) t := by
  have hok : ∀ q ∈ qs, okP q := fun q hq => (mem_okL.1 (hp.mem_iff.1 hq)).2
  refine ⟨fun q hq => hl.ok q (ho.mem_iff.1 hq), fun t => ?_⟩
  rw [pts_perm ho t, lay_plus hs he hok hl t]
  exact pts_perm hp t
set_option maxRecDepth 100000 in
set_option maxHeartbeats 16000000 in
theorem Normal_ok (lb cp : Nat) (g1 : Option Nat) (n c1 : Nat) (ps : List Per) (w : World) (hc : w.cell? ⟨lb, 0, none⟩ = some (slv g1 n c1)) (h1 : FSl w g1 n c1 ps) (hn : n ≤ 1048576) :
    Calls Try.prog 75 #[.slice (some ⟨lb, 0, none⟩) 1 cp] w (NormPost ps w) := by
  have HN := Lib.hid h1.count
  have HF1 := Lib.hid h1; clear h1
  have HC1 := Lib.hid hc; clear hc
  have eg : ∀ args w, (callFunc 102 args).run Try.prog w = .ok (.enter 102 args) w := enters_of Try.func102 (by kernel_rfl) rfl
  go_enter Try.func75, Try.ntmps75
  go_wp2_with fail
  refine (Concat_ok lb cp g1 n c1 ps _ (Ext.cell ((Ext.refl w).alloc _) HC1.out) (HF1.out.ext ((Ext.refl _).alloc _)) (by omega)).mono ?_
  rintro e w1 ⟨g, cap, rfl, hF, _, hE1⟩
  have HF := Lib.hid hF
  have HE1 := Lib.hid hE1
  clear hF hE1
  go_wp2_with fail
  refine (right_ok g n cap ps _ HF.out (by omega)).mono ?_
  rintro e w2 ⟨g2, m2, cap2, qs, rfl, hF2, hp2, hm2, hg2, hE2⟩
  have HF2 := Lib.hid hF2
  have HP2 := Lib.hid hp2
  have HE2 := Lib.hid (((Ext.refl w).alloc (.cells #[.slice none 0 0] 65)).trans (HE1.out.trans hE2))
  have HO2 := Lib.hid (Ext.block (HE1.out.trans hE2) (blk_new w (.cells #[.slice none 0 0] 65)))
  have HCQ := Lib.hid hF2.count
  rw [HN.out] at hm2
  clear hF2 hp2 hg2 hE2
  go_wp2_with fail
  have key : Calls Try.prog 61 #[slv g2 m2 cap2, .func (.func 102) #[] #[.pointer (some ⟨w.heap.size, 0, none⟩)]] w2 (fun e w3 => e = .returned (.tuple #[]) ∧ LyQ w2 w.heap.size qs [] w3) := by
    rcases Nat.eq_zero_or_pos m2 with rfl | hpos
    · refine (group0_ok _ g2 cap2 w2).mono ?_
      rintro e w3 ⟨rfl, rfl⟩
      have hq : qs = [] := List.eq_nil_of_length_eq_zero HCQ.out
      subst hq
      exact ⟨rfl, none, 0, 0, [], [], [], OutC.start HO2.out, ⟨List.Pairwise.nil, fun x => by simp [endsL, okL]⟩, ⟨rfl, fun i a b h => by simp at h⟩, .done 1 rfl, Nat.zero_le _⟩
    · refine group_ok _ _ eg g2 m2 cap2 qs w2 HF2.out hpos (by omega) (LyQ w2 w.heap.size qs []) ?_
      intro r g4 cap4 w1 hr hp _ he
      refine (NormalF_ok w.heap.size r g4 m2 cap4 qs w1 hr hp (Ext.block he HO2.out) (by omega)).mono ?_
      rintro e w3 ⟨rfl, gz, mz, cz, out, es, st, hO, hrest⟩
      exact ⟨rfl, gz, mz, cz, out, es, st, hO.above he (blk_lt HO2.out), hrest⟩
  refine key.mono ?_
  rintro e w3 ⟨rfl, gz, mz, cz, out, es, st, hO, hED, hST, hL, hmz⟩
  have c0 := hO.cell
  have HO := Lib.hid hO
  have HED := Lib.hid hED
  have HST := Lib.hid hST
  have HL := Lib.hid hL
  clear hO hED hST hL key
  go_wp2_with fail
  refine (sortF_ok gz mz cz out _ HO.out.fsl hmz).mono ?_
  rintro e w4 ⟨rfl, sorted, hp, _, hF4, hT4⟩
  have HO4 := Lib.hid (HO.out.sort hF4 hT4)
  have c4 := HO4.out.cell
  have HLAW := Lib.hid (norm_law HP2.out HED.out HST.out HL.out hp)
  clear hp hF4 hT4 c0
  go_wp2
  go_ret
  exact ⟨gz, mz, cz, sorted, rfl, HO4.out.fsl, HLAW.out.1, HLAW.out.2, hmz, fun b hb => Nat.le_trans HE2.out.size (HO4.out.fresh b hb), Touch.freshX HE2.out HO4.out.touch (by rintro i rfl; exact Nat.le_refl _)⟩

/-- What Except gives of one fact. -/
def ExPost (p : Per) (ps : List Per) (w : World) (e : Ending) (w' : World) : Prop :=
  ∃ g m cap out, e = .returned (slv g m cap) ∧ FSl w' g m cap out ∧ (if okP p then IsMin p ps out else out = []) ∧ m ≤ 2199023255552 ∧ (∀ b, g = some b → w.heap.size ≤ b) ∧ Ext w w'
set_option maxRecDepth 100000 in
set_option maxHeartbeats 16000000 in
theorem Except_ok (p : Per) (g1 : Option Nat) (c1 : Nat) (gm : Option Nat) (nm cm : Nat) (ps : List Per) (w : World) (h1 : FSl w g1 1 c1 [p]) (hM : FSl w gm nm cm ps) (hnm : nm ≤ 2097152) :
    Calls Try.prog 29 #[slv g1 1 c1, slv gm nm cm] w (ExPost p ps w) := by
  have HN := Lib.hid hM.count
  have HF1 := Lib.hid h1; clear h1
  have HM := Lib.hid hM; clear hM
  have eg : ∀ args w, (callFunc 70 args).run Try.prog w = .ok (.enter 70 args) w := enters_of Try.func70 (by kernel_rfl) rfl
  go_enter Try.func29, Try.ntmps29
  go_wp2_with fail
  refine (right_ok gm nm cm ps _ HM.out (by omega)).mono ?_
  rintro e w1 ⟨g2, m2, cap2, ms, rfl, hF2, hp2, hm2, _, hE2⟩
  have HF2 := Lib.hid hF2
  have HP2 := Lib.hid hp2
  have HE2 := Lib.hid hE2
  rw [HN.out] at hm2
  clear hF2 hp2 hE2
  go_wp2_with fail
  refine (right_ok g1 1 c1 [p] _ (HF1.out.ext ((HE2.out.alloc _).alloc _)) (by omega)).mono ?_
  rintro e w2 ⟨g3, m3, cap3, qs, rfl, hF3, hp3, hm3, _, hE3⟩
  have HF3 := Lib.hid hF3
  have HP3 := Lib.hid hp3
  have HE3 := Lib.hid (((HE2.out.alloc (.cells #[slv g2 m2 cap2] 65)).alloc (.cells #[.slice none 0 0] 65)).trans hE3)
  have HMB := Lib.hid (Ext.block hE3 (blk_alloc (o' := .cells #[.slice none 0 0] 65) (blk_new w1 (.cells #[slv g2 m2 cap2] 65))))
  have HOB := Lib.hid (Ext.block hE3 (blk_new_at (w := w1.alloc (.cells #[slv g2 m2 cap2] 65)) (n := w1.heap.size + 1) (.cells #[.slice none 0 0] 65) (by simp)))
  have HM2 := Lib.hid (HF2.out.ext ((((Ext.refl w1).alloc (.cells #[slv g2 m2 cap2] 65)).alloc (.cells #[.slice none 0 0] 65)).trans hE3))
  have HCQ := Lib.hid hF3.count
  clear hF3 hp3 hE3
  simp only [List.length_singleton] at hm3
  go_wp2_with fail
  have key : Calls Try.prog 61 #[slv g3 m3 cap3, .func (.func 70) #[] #[.pointer (some ⟨w1.heap.size, 0, none⟩), .pointer (some ⟨w1.heap.size + 1, 0, none⟩)]] w2 (fun e w3 => e = .returned (.tuple #[]) ∧ ((m3 = 0 ∧ OutC w2 (w1.heap.size + 1) none 0 0 [] w3) ∨ (0 < m3 ∧ LyQ w2 (w1.heap.size + 1) qs ms w3))) := by
    rcases Nat.eq_zero_or_pos m3 with rfl | hpos
    · refine (group0_ok _ g3 cap3 w2).mono ?_
      rintro e w3 ⟨rfl, rfl⟩
      exact ⟨rfl, .inl ⟨rfl, OutC.start HOB.out⟩⟩
    · refine (group_ok _ _ eg g3 m3 cap3 qs w2 HF3.out hpos (by omega) (LyQ w2 (w1.heap.size + 1) qs ms) ?_).mono fun e w3 ⟨h1, h2⟩ => ⟨h1, .inr ⟨hpos, h2⟩⟩
      intro r g4 cap4 w3 hr hp _ he
      have hb := Ext.block he HMB.out
      refine (ExceptF_ok w1.heap.size (w1.heap.size + 1) r g4 m3 cap4 qs g2 m2 cap2 ms w3 hr hp (blk1 hb) (blk_lt hb) (HM2.out.ext he) (Ext.block he HOB.out) hm3 (by omega)).mono ?_
      rintro e w4 ⟨rfl, gz, mz, cz, out, es, st, hO, hrest⟩
      exact ⟨rfl, gz, mz, cz, out, es, st, hO.above he (blk_lt HOB.out), hrest⟩
  have fin : ∀ w3, ((m3 = 0 ∧ OutC w2 (w1.heap.size + 1) none 0 0 [] w3) ∨ (0 < m3 ∧ LyQ w2 (w1.heap.size + 1) qs ms w3)) → ∃ gz mz cz out, OutC w2 (w1.heap.size + 1) gz mz cz out w3 ∧ mz ≤ 2199023255552 ∧ ∀ sorted : List Per, sorted.Perm out → sorted.Pairwise leP → if okP p then IsMin p ps sorted else sorted = [] := by
    rintro w3 (⟨h0, hO⟩ | ⟨hpos, gz, mz, cz, out, es, st, hO, hED, hST, hL, hmz⟩)
    · refine ⟨none, 0, 0, [], hO, by omega, fun sorted hp _ => ?_⟩
      have hs := List.perm_nil.1 hp
      subst hs
      have hq : qs = [] := List.eq_nil_of_length_eq_zero (HCQ.out.trans h0)
      have hno : ¬ okP p := fun hk => by
        have := HP3.out
        rw [hq, show okL [p] = [p] from okL_ok (by simpa using hk)] at this
        exact absurd this.length_eq (by simp)
      rw [if_neg hno]
    · refine ⟨gz, mz, cz, out, hO, hmz, fun sorted hp hs => ?_⟩
      have hok : okP p := by
        obtain ⟨q, hq⟩ := List.exists_mem_of_length_pos (l := qs) (by rw [HCQ.out]; exact hpos)
        obtain ⟨h1, h2⟩ := mem_okL.1 (HP3.out.mem_iff.1 hq)
        rw [List.mem_singleton.1 h1] at h2
        exact h2
      rw [if_pos hok]
      exact except_min hok HP3.out HP2.out hST hED hL hp hs
  have FIN := Lib.hid fin
  clear fin
  refine key.mono ?_
  rintro e w3 ⟨rfl, hQ⟩
  obtain ⟨gz, mz, cz, out, hO, hmz, hlaw⟩ := FIN.out w3 hQ
  have c0 := hO.cell
  have HO := Lib.hid hO
  have HLAW := Lib.hid hlaw
  clear hO hlaw key hQ
  go_wp2_with fail
  refine (sortF_ok gz mz cz out _ HO.out.fsl hmz).mono ?_
  rintro e w4 ⟨rfl, sorted, hp, hsd, hF4, hT4⟩
  have HO4 := Lib.hid (HO.out.sort hF4 hT4)
  have c4 := HO4.out.cell
  have HFIN := Lib.hid (HLAW.out sorted hp hsd)
  clear hp hsd hF4 hT4 c0
  go_wp2
  go_ret
  have hEE := HE3.out
  refine ⟨gz, mz, cz, sorted, rfl, HO4.out.fsl, HFIN.out, hmz, fun b hb => Nat.le_trans hEE.size (HO4.out.fresh b hb), Touch.freshX hEE HO4.out.touch ?_⟩
  rintro i rfl
  have := HE2.out.size
  omega
end Go.Proofs.Ytkejjahlglldlaa
