/- bag.Coalesce at facts of one row: walked. -/
import Derived.Test.YtkejjahlglldlaaPeG
namespace Go.Proofs.Ytkejjahlglldlaa
open Go.RowKit

/-- A variable that holds facts of a call's own; else nothing old was touched. -/
structure OutC (W : World) (ob : Nat) (g : Option Nat) (n cap : Nat) (ps : List Per) (wr : World) : Prop where
  blk : wr.heap[ob]? = some (.cells #[slv g n cap] 65 (0, 0))
  fsl : FSl wr g n cap ps
  fresh : ∀ b, g = some b → W.heap.size ≤ b
  touch : Touch (fun k => k = ob) W wr
  old : ∃ (cur : Array Value) (f : Nat × Nat), W.heap[ob]? = some (.cells cur 65 f)
section
variable {W wr w5 w6 : World} {ob : Nat} {g g' : Option Nat} {n cap n' cap' : Nat} {ps ps' : List Per}
theorem OutC.lt (h : OutC W ob g n cap ps wr) : ob < W.heap.size := by obtain ⟨c, f, h⟩ := h.old; exact blk_lt h
theorem OutC.own (h : OutC W ob g n cap ps wr) : ∀ k, k = ob → ∃ (cur : Array Value) (t : TypeId) (f : Nat × Nat), W.heap[k]? = some (.cells cur t f) ∧ t ≠ 93 := by
  rintro k rfl
  obtain ⟨c, f, h⟩ := h.old
  exact ⟨c, _, f, h, by decide⟩
theorem OutC.row (h : OutC W ob g n cap ps wr) {v : Value} (hv : RowOk W v) : RowOk wr v := hv.touch h.touch h.own
theorem OutC.ne (h : OutC W ob g n cap ps wr) : ¬ g = some ob := fun e => by
  have := h.fresh _ e
  have := h.lt
  omega
theorem OutC.ext (h : OutC W ob g n cap ps wr) (he : Ext wr w5) : OutC W ob g n cap ps w5 :=
  ⟨Ext.block he h.blk, h.fsl.ext he, h.fresh, h.touch.trans (he.touch _), h.old⟩
theorem OutC.cell (h : OutC W ob g n cap ps wr) : wr.cell? ⟨ob, 0, none⟩ = some (slv g n cap) := blk1 h.blk
theorem OutC.start (hW : W.heap[ob]? = some (.cells #[.slice none 0 0] 65 (0, 0))) : OutC W ob none 0 0 [] W :=
  ⟨hW, FSl.nil _, by simp, Touch.refl _ _, _, _, hW⟩
theorem OutC.above {W0 : World} (h : OutC W ob g n cap ps wr) (he : Ext W0 W) (ho : ob < W0.heap.size) : OutC W0 ob g n cap ps wr := by
  obtain ⟨c, f, ho'⟩ := h.old
  refine ⟨h.blk, h.fsl, fun b hb => Nat.le_trans he.size (h.fresh b hb), (he.touch _).trans h.touch, ?_⟩
  have : W.heap[ob]? = W0.heap[ob]? := Below.block he ob ho
  exact ⟨c, f, this ▸ ho'⟩
/-- What an append did, and the store behind it. -/
theorem OutC.store (h : OutC W ob g n cap ps wr) (he : Ext wr w5) (ht : Touch (fun k => g = some k) w5 w6) (hF : FSl w6 g' n' cap' ps') (hat : g' = g ∨ g' = some w5.heap.size) :
    w6.cell? ⟨ob, 0, none⟩ = some (slv g n cap) ∧ w6.frozen? ⟨ob, 0, none⟩ = false ∧ OutC W ob g' n' cap' ps' (w6.setCell ⟨ob, 0, none⟩ (slv g' n' cap')) := by
  have h5 : w5.heap[ob]? = some (.cells #[slv g n cap] 65 (0, 0)) := Ext.block he h.blk
  have h6 := ht.old h5 h.ne
  have hfr : ∀ b, g' = some b → W.heap.size ≤ b := fun b hb => by
    rcases hat with e | e
    · exact h.fresh b (e ▸ hb)
    · rw [e] at hb; cases hb
      have := h.touch.size
      have := he.size
      omega
  have hts : Touch (fun k => k = ob) w6 (w6.setCell ⟨ob, 0, none⟩ (slv g' n' cap')) := (Touch.refl (fun k => k = ob) w6).setCell (fun _ => rfl) _
  refine ⟨blk1 h6, blk_frozen h6 0, by simpa using blk_set h6 0 (slv g' n' cap'), ?_, hfr, ?_, h.old⟩
  · refine hF.touch hts (fun b hb e => ?_) ?_
    · have := hfr b hb
      have := h.lt
      omega
    · rintro k rfl
      exact ⟨_, _, _, h6, by decide⟩
  · refine ((h.touch.trans (he.touch _)).trans' ht fun i hi hs => ?_).trans hts
    have := h.fresh i hs
    omega
end
theorem IsUni.of_perm {l l' u : List Per} (h : IsUni l u) (hp : l.Perm (okL l')) : IsUni l' u := ⟨h.can, fun t => by
  rw [h.pts t, okL_ok fun q hq => (mem_okL.1 (hp.mem_iff.1 hq)).2]
  exact pts_perm hp t⟩
theorem IsUni.nil : IsUni [] [] := ⟨Canon.nil, fun t => by simp [okL]⟩

/-- The union of periods, in the variable. -/
def CoQ (W : World) (ob : Nat) (ps : List Per) (wr : World) : Prop := ∃ g m cap out, OutC W ob g m cap out wr ∧ IsUni ps out ∧ m ≤ ps.length
def CoInv (W : World) (ob : Nat) (u : List Per) (g3 : Option Nat) (cap3 n gk : Nat) (v10 : Value) (wr : World) : Prop :=
  ∃ (i : Nat) (g : Option Nat) (cap : Nat), i + gk = n ∧ v10 = .int .i64 (i : Int) ∧ OutC W ob g i cap (u.take i) wr ∧ PSl wr g3 n cap3 u ∧ (∀ b, g = some b → ¬ g3 = some b)
set_option maxRecDepth 100000 in
set_option maxHeartbeats 16000000 in
theorem CoalesceF_ok (ob : Nat) (r : Value) (g : Option Nat) (n cap : Nat) (ps : List Per) (w : World) (hr : RowOk w r) (hS : PSl w g n cap ps) (ho : w.heap[ob]? = some (.cells #[.slice none 0 0] 65 (0, 0))) (hn : n ≤ 2199023255552) :
    Calls Try.prog 63 #[r, slv g n cap, .pointer (some ⟨ob, 0, none⟩)] w (fun e w' => e = .returned (.tuple #[]) ∧ CoQ w ob ps w') := by
  obtain ⟨rb, rc, rfl, _⟩ := hr.out
  have HR := Lib.hid hr; clear hr
  have HO := Lib.hid (OutC.start ho); clear ho
  have HC := Lib.hid hS.count
  go_enter Try.func63, Try.ntmps63
  go_wp2_with fail
  refine (Union_ok (adr g) n cap ps _ HC.out hS.pers hS.nilOf hn).mono ?_
  rintro e w3 ⟨g3, mu, cap3, u, rfl, hU, hu, hmu, hg3, hE3⟩
  have HU := Lib.hid hU
  have HUU := Lib.hid hu
  have HMU := Lib.hid hmu
  have HO3 := Lib.hid (HO.out.ext hE3)
  have HG3 : Hid (∀ b, g3 = some b → w.heap.size ≤ b) := hg3
  have HCU := Lib.hid hU.count
  rw [HC.out] at hmu
  clear hU hu hE3 hg3 hS
  go_wp2
  go_loopg [10] mu (fun gk v10 wr => CoInv w ob u g3 cap3 mu gk v10 wr)
  case atStart => exact ⟨0, none, 0, by omega, rfl, HO3.out, HU.out, by simp⟩
  case round =>
    obtain ⟨j, g4, cap4, hjk, rfl, hO4, hU4, hd4⟩ := hrel
    have HJK := Lib.hid hjk; clear hjk
    have HO4 := Lib.hid hO4; clear hO4
    have HU4 := Lib.hid hU4; clear hU4
    have HD4 := Lib.hid hd4; clear hd4
    by_cases hlt4 : j < mu
    · obtain ⟨b, x, y, e1, l1, p1, c0, c1⟩ := PSl.at' HU4.out hlt4
      have z1 := fun u => run_index_slv ei_per (cap := cap3) e1 hlt4 u
      have HQ : Hid (u.take (j + 1) = u.take j ++ [(x, y)]) := by show _ = _; rw [List.take_add_one, p1]; rfl
      have HRR := Lib.hid (HO4.out.row HR.out)
      have co := HO4.out.cell
      have lo := blk_lt HO4.out.blk
      have HOB := Lib.hid (HO4.out.lt)
      clear p1 e1
      go_wp2
      refine region_calm [.l 0, .p 1, .l 4, .h 2 true, .h 3 true, .p 5, .h 6 true, .h 7 false, .h 8 false] f_mixed (by kernel_rfl) (by kernel_rfl) ?_
      repeat (first | (refine plan_p rfl (fun K hK => ?_); go_simp; refine hK _ ?_; clear hK K) | (refine plan_l rfl (fun K hK => ?_); go_simp; refine hK _ ?_; clear hK K))
      refine plan_ct rfl rfl (fun K _ hK => ?_)
      go_wp2
      refine hK _ _ ((Ext.refl _).alloc _) ?_; clear hK K
      refine plan_ct rfl rfl (fun K _ hK => ?_)
      go_wp2_with fail
      refine (copied_ok _ 1 _ _ (copy_cell (by simp)) (HRR.out.ext ((((Ext.refl _).alloc _).alloc _).drew))).mono ?_
      rintro e w5 ⟨v, rfl, hV, hE5⟩
      obtain ⟨vb, vc, rfl, _⟩ := hV.out
      have HV := Lib.hid hV
      have HE5 := Lib.hid (((((Ext.refl wr).alloc (.cells #[.int .i64 x, .int .i64 y] 45)).alloc (.cells #[.slice (some ⟨rb, 0, none⟩) 1 rc] 23)).drew).trans hE5)
      go_wp2_with fail
      refine hK _ _ (hE5) ?_; clear hK K
      clear hV hE5 c0 c1 z1 l1 co lo
      repeat (first | (refine plan_p rfl (fun K hK => ?_); go_simp; refine hK _ ?_; clear hK K) | (refine plan_l rfl (fun K hK => ?_); go_simp; refine hK _ ?_; clear hK K))
      refine plan_ct rfl rfl (fun K _ hK => ?_)
      go_wp2
      refine hK _ _ ((Ext.refl _).alloc _) ?_; clear hK K
      obtain ⟨fs, hs4, hps4, hr4⟩ := HO4.out.fsl
      refine plan_c rfl rfl (fun K _ hK => ?_)
      refine app_lit ei_fact rfl (.tmp 14) (.tmp 20) rfl (g := g4) (n := j) (cap := cap4) (b := w5.heap.size) (by rfl) (hs4.ext (HE5.out.alloc _)) (by rfl) rfl (blk_new_at _ rfl) (by simp [Value.oneCell']) (by omega) (by omega) ?_
      intro g6 cap6 w6 hS6 hT6 hat6
      have hF6 : FSl w6 (some g6) (j + 1) cap6 (u.take j ++ [(x, y)]) := FSl.snoc (hs4.ext (HE5.out.alloc _)) hps4 (fun f hf => (hr4 f hf).ext (HE5.out.alloc _)) (HV.out.ext ((Ext.refl _).alloc _)) hS6 hT6
      rw [← HQ.out] at hF6
      obtain ⟨d0, d1, hO6⟩ := HO4.out.store (HE5.out.alloc _) hT6 hF6 (hat6.imp (fun h => h.symm) (fun h => by rw [h]))
      have HO6 := Lib.hid hO6
      have HU6 : Hid (PSl (w6.setCell ⟨ob, 0, none⟩ (slv (some g6) (j + 1) cap6)) g3 mu cap3 u) := ((HU4.out.ext (HE5.out.alloc _)).touch hT6 (fun b hb hn => HD4.out b hn hb)).touch ((Touch.refl (fun k => k = ob) _).setCell (fun _ => rfl) _) (fun b hb hn => by
        have := HG3.out b hb
        have := HOB.out
        omega)
      have HD6 : Hid (∀ b, some g6 = some b → ¬ g3 = some b) := by
        intro b hb hb3
        cases hb
        rcases hat6 with h | h
        · exact HD4.out _ h hb3
        · have h1 := Sl.block_lt (hb3 ▸ HU4.out)
          have h2 := HE5.out.size
          simp at h
          omega
      clear hs4 hps4 hr4 hS6 hT6 hat6 hF6 hO6
      go_wp2_with fail
      refine plan_c rfl rfl (fun K _ hK => ?_)
      go_wp2_with fail
      repeat (first | (refine plan_p rfl (fun K hK => ?_); go_simp; refine hK _ ?_; clear hK K) | (refine plan_l rfl (fun K hK => ?_); go_simp; refine hK _ ?_; clear hK K))
      refine plan_done ?_
      go_wp2
      go_roundg (gk - 1)
      case measure => have := HJK.out; omega
      case rel => exact ⟨j + 1, some g6, cap6, by have := HJK.out; omega, by go_num, HO6.out, HU6.out, HD6.out⟩
    · have hjn : j = mu := by have := HJK.out; omega
      subst hjn
      have hO5 := HO4.out
      rw [List.take_of_length_le (by rw [HCU.out]; exact Nat.le_refl _)] at hO5
      have HO5 := Lib.hid hO5
      clear hO5
      go_wp2
      (try simp only [Exit.inBlock, Exit.then]); refine bodyPost_end (results_none rfl _ _ _) rfl ?_
      exact ⟨rfl, g4, j, cap4, u, HO5.out, HUU.out, HMU.out⟩

/-- What Coalesce gives. -/
def CoaPost (ps : List Per) (w : World) (e : Ending) (w' : World) : Prop :=
  ∃ g m cap out, e = .returned (slv g m cap) ∧ FSl w' g m cap out ∧ IsUni ps out ∧ m ≤ ps.length ∧ (∀ b, g = some b → w.heap.size ≤ b) ∧ Ext w w'
set_option maxRecDepth 100000 in
set_option maxHeartbeats 16000000 in
theorem Coalesce_ok (g : Option Nat) (n cap : Nat) (ps : List Per) (w : World) (hS : FSl w g n cap ps) (hn : n ≤ 2199023255552) :
    Calls Try.prog 24 #[slv g n cap] w (CoaPost ps w) := by
  have HN := Lib.hid hS.count
  have HS := Lib.hid hS; clear hS
  have eg : ∀ args w, (callFunc 63 args).run Try.prog w = .ok (.enter 63 args) w := enters_of Try.func63 (by kernel_rfl) rfl
  go_enter Try.func24, Try.ntmps24
  go_wp2_with fail
  refine (right_ok g n cap ps _ (HS.out.ext ((Ext.refl _).alloc _)) hn).mono ?_
  rintro e w2 ⟨g2, m2, cap2, qs, rfl, hF2, hp2, hm2, hg2, hE2⟩
  have HF2 := Lib.hid hF2
  have HP2 := Lib.hid hp2
  have HM2 := Lib.hid hm2
  have HE2 := Lib.hid (((Ext.refl w).alloc (.cells #[.slice none 0 0] 65)).trans hE2)
  have HO2 := Lib.hid (Ext.block hE2 (blk_new w (.cells #[.slice none 0 0] 65)))
  have HCQ := Lib.hid hF2.count
  rw [HN.out] at hm2
  clear hF2 hp2 hg2 hE2
  have fin : ∀ w3, CoQ w2 w.heap.size qs w3 → ∃ gz mz cz out, OutC w2 w.heap.size gz mz cz out w3 ∧ CoaPost ps w (.returned (slv gz mz cz)) w3 := by
    rintro w3 ⟨gz, mz, cz, out, hO, hu, hmz⟩
    refine ⟨gz, mz, cz, out, hO, gz, mz, cz, out, rfl, hO.fsl, hu.of_perm HP2.out, ?_, fun b hb => Nat.le_trans HE2.out.size (hO.fresh b hb), Touch.freshX HE2.out hO.touch (by rintro i rfl; exact Nat.le_refl _)⟩
    rw [HCQ.out] at hmz
    exact Nat.le_trans hmz HM2.out
  have FIN := Lib.hid fin
  clear fin
  go_wp2_with fail
  have key : Calls Try.prog 61 #[slv g2 m2 cap2, .func (.func 63) #[] #[.pointer (some ⟨w.heap.size, 0, none⟩)]] w2 (fun e w3 => e = .returned (.tuple #[]) ∧ CoQ w2 w.heap.size qs w3) := by
    rcases Nat.eq_zero_or_pos m2 with rfl | hpos
    · refine (group0_ok _ g2 cap2 w2).mono ?_
      rintro e w3 ⟨rfl, rfl⟩
      have hq : qs = [] := List.eq_nil_of_length_eq_zero HCQ.out
      subst hq
      exact ⟨rfl, none, 0, 0, [], OutC.start HO2.out, IsUni.nil, Nat.le_refl _⟩
    · refine group_ok _ _ eg g2 m2 cap2 qs w2 HF2.out hpos (by omega) (CoQ w2 w.heap.size qs) ?_
      intro r g4 cap4 w1 hr hp _ he
      refine (CoalesceF_ok w.heap.size r g4 m2 cap4 qs w1 hr hp (Ext.block he HO2.out) (by omega)).mono ?_
      rintro e w3 ⟨rfl, gz, mz, cz, out, hO, hu, hmz⟩
      exact ⟨rfl, gz, mz, cz, out, hO.above he (blk_lt HO2.out), hu, hmz⟩
  refine key.mono ?_
  rintro e w3 ⟨rfl, hQ⟩
  obtain ⟨gz, mz, cz, out, hO, hpost⟩ := FIN.out w3 hQ
  have c0 := hO.cell
  have HPOST := Lib.hid hpost
  clear hQ hO hpost key
  go_wp2
  go_ret
  exact HPOST.out
end Go.Proofs.Ytkejjahlglldlaa
