/- annalslaw11.step: one call at the tree and at the document's list: walked. -/
import Derived.Test.YtcildmdmgjehbaaRef2
import Derived.Test.YtcildmdmgjehbaaRef4
import Derived.Test.YtcildmdmgjehbaaRef5
namespace Go.Proofs.Ytcildmdmgjehbaa
open Go.RowKit

/-- The tree and the document's list hold the same points. -/
structure Twin (B : Nat) (w : World) (tb : Nat) (g : Option Nat) (n cap : Nat) (L : List Pt) (bs : List Nat) : Prop where
  tree : TreeOk w tb L bs
  own : ∀ b ∈ bs, B ≤ b
  list : Sl w 66 3 g n cap (flatP L)
  len : L.length = n
  apart : ∀ b, g = some b → b ∉ bs
def StepPost (B tb m : Nat) (L : List Pt) (p : Pt) (w : World) (e : Ending) (w' : World) : Prop :=
  ∃ g' n' cap' L' bs', e = .returned (.tuple #[slv g' n' cap', .bool true]) ∧ Twin B w' tb g' n' cap' L' bs' ∧ n' ≤ m + 1 ∧ Below B w w' ∧ ∀ q ∈ L', q ∈ L ∨ q = p
theorem Twin.ext {B : Nat} {w w' : World} {tb : Nat} {g : Option Nat} {n cap : Nat} {L : List Pt} {bs : List Nat} (h : Twin B w tb g n cap L bs) (he : Ext w w') : Twin B w' tb g n cap L bs :=
  ⟨h.tree.ext he, h.own, h.list.ext he, h.len, h.apart⟩

abbrev opv (k x y i lo hi le : Int) : Value := .agg #[.int .i64 k, .int .i64 x, .int .i64 y, .int .i64 i, .int .i64 lo, .int .i64 hi, .int .i64 le]

section
variable (B tb : Nat) (g : Option Nat) (n cap : Nat) (L : List Pt) (bs : List Nat) (x y i lo hi le : Int) (w : World)

set_option maxRecDepth 100000 in
set_option maxHeartbeats 4000000 in
theorem step_dup (h : Twin B w tb g n cap L bs) (hid : ∃ q ∈ L, q.2.2 = i) (hB : B ≤ w.heap.size) (hsz : (n + 2) * 24 ≤ 140737488355328) :
    Calls Try.prog 12 #[.pointer (some ⟨tb, 0, none⟩), slv g n cap, opv 0 x y i lo hi le] w (StepPost B tb n L (x, y, i) w) := by
  have H := Lib.hid h; clear h
  have HID := Lib.hid hid; clear hid
  go_enter Try.func12, Try.ntmps12
  go_wp2_with fail
  refine (RAdd_dup x y i g n cap L _ H.out.len (H.out.list.ext ((((Ext.refl w).alloc _).alloc _))) HID.out (by omega)).mono ?_
  rintro e w1 ⟨rfl, hE1⟩
  have hE1' : Ext w w1 := ((((Ext.refl w).alloc _).alloc _)).trans hE1
  have hb1 := Ext.block hE1 (blk_alloc (blk_new w _))
  obtain ⟨c0, c1, c2, c3, c4, c5, c6⟩ := blk7 hb1
  clear hb1
  go_wp2_with fail
  refine (Add_dup tb x y i L bs _ (H.out.tree.ext hE1') HID.out).mono ?_
  rintro e w2 ⟨rfl, hE2⟩
  go_wp2
  go_ret2
  exact ⟨g, n, cap, L, bs, rfl, H.out.ext (hE1'.trans hE2), by omega, (hE1'.trans hE2).mono hB, fun q hq => .inl hq⟩

set_option maxRecDepth 100000 in
set_option maxHeartbeats 4000000 in
theorem step_new (h : Twin B w tb g n cap L bs) (hid : ∀ q ∈ L, q.2.2 ≠ i) (hB : B ≤ w.heap.size) (hsz : (n + 2) * 24 ≤ 140737488355328) :
    Calls Try.prog 12 #[.pointer (some ⟨tb, 0, none⟩), slv g n cap, opv 0 x y i lo hi le] w (StepPost B tb n L (x, y, i) w) := by
  have H := Lib.hid h; clear h
  have HID := Lib.hid hid; clear hid
  go_enter Try.func12, Try.ntmps12
  go_wp2_with fail
  refine (RAdd_new x y i g n cap L _ H.out.len (H.out.list.ext ((((Ext.refl w).alloc _).alloc _))) HID.out hsz).mono ?_
  rintro e w1 ⟨g1, cap1, rfl, hS1, hg1, hE1⟩
  have hE1' : Ext w w1 := ((((Ext.refl w).alloc _).alloc _)).trans hE1
  have hb1 := Ext.block hE1 (blk_alloc (blk_new w _))
  obtain ⟨c0, c1, c2, c3, c4, c5, c6⟩ := blk7 hb1
  have hg1' : ∀ b, g1 = some b → w.heap.size ≤ b ∧ b < w1.heap.size := fun b hb => ⟨by have := hg1 b hb; simp at this; omega, by subst hb; exact hS1.block_lt⟩
  have HS1 := Lib.hid hS1
  have HG1 := Lib.hid hg1'
  clear hb1 hS1 hg1 hg1'
  go_wp2_with fail
  refine (Add_ok tb x y i L bs _ (H.out.tree.ext hE1') HID.out).mono ?_
  rintro e w2 ⟨L2, bs2, rfl, hT2, hp2, hb2, ht2⟩
  have hL2 : L2 = insSorted (x, y, i) L := srt_unique hT2.srt (insSorted_srt _ L H.out.tree.srt HID.out) (hp2.trans (insSorted_perm _ L).symm)
  have hlt : ∀ b, g1 = some b → b ∉ bs := fun b hb hm => by have := HG1.out b hb; have := H.out.tree.lt b hm; omega
  have hTw : Twin B w2 tb g1 (n + 1) cap1 L2 bs2 := by
    refine ⟨hT2, fun b hb => ?_, ?_, ?_, fun b hb hm => ?_⟩
    · rcases hb2 b hb with h | h
      · exact H.out.own b h
      · exact Nat.le_trans (Nat.le_trans hB hE1'.size) h
    · rw [hL2]; exact HS1.out.touch ht2 (fun b hb => hlt b hb)
    · rw [hL2, (insSorted_perm _ L).length_eq, List.length_cons, H.out.len]
    · rcases hb2 b hm with h | h
      · exact hlt b hb h
      · have := (HG1.out b hb).2
        (try simp at h)
        omega
  have HTW := Lib.hid hTw
  have hBe : Below B w w2 := Below.trans (hE1'.mono hB) (ht2.below (Nat.le_trans hB hE1'.size) (fun k hk => H.out.own k hk))
  have HM : Hid (∀ q ∈ L2, q ∈ L ∨ q = (x, y, i)) := fun q hq => (List.mem_cons.1 (hp2.subset hq)).symm
  clear hT2 hp2 hb2 ht2 hL2 hTw hlt
  go_wp2
  go_ret2
  exact ⟨g1, n + 1, cap1, L2, bs2, rfl, HTW.out, by omega, hBe, HM.out⟩

theorem without_none (L : List Pt) (i : Int) (h : ∀ q ∈ L, q.2.2 ≠ i) : without i L = L := by
  unfold without
  exact List.filter_eq_self.2 fun q hq => by simpa using h q hq
theorem without_some {L M : List Pt} {p : Pt} (hp : L.Perm (p :: M)) (hn : (L.map (fun q : Pt => q.2.2)).Nodup) : (without p.2.2 L).Perm M := by
  have h1 : (without p.2.2 L).Perm (without p.2.2 (p :: M)) := hp.filter _
  have h2 : without p.2.2 (p :: M) = M := by
    have h3 := (hp.map (fun q : Pt => q.2.2)).nodup_iff.1 hn
    simp only [List.map_cons, List.nodup_cons, List.mem_map, not_exists, not_and] at h3
    unfold without
    rw [List.filter_cons_of_neg (by simp)]
    exact List.filter_eq_self.2 fun q hq => by simpa using h3.1 q hq
  rwa [h2] at h1

set_option maxRecDepth 100000 in
set_option maxHeartbeats 4000000 in
theorem step_cutno (h : Twin B w tb g n cap L bs) (hid : ∀ q ∈ L, q.2.2 ≠ i) (hB : B ≤ w.heap.size) (hsz : (n + 2) * 24 ≤ 140737488355328) :
    Calls Try.prog 12 #[.pointer (some ⟨tb, 0, none⟩), slv g n cap, opv 1 x y i lo hi le] w (StepPost B tb n L (x, y, i) w) := by
  have H := Lib.hid h; clear h
  have HID := Lib.hid hid; clear hid
  go_enter Try.func12, Try.ntmps12
  go_wp2_with fail
  refine (RCut_any i g n cap L _ H.out.len (H.out.list.ext ((((Ext.refl w).alloc _).alloc _))) (by omega)).mono ?_
  rintro e w1 ⟨hE1, hp⟩
  rw [without_none L i HID.out, if_pos rfl] at hp
  subst hp
  have hE1' : Ext w w1 := ((((Ext.refl w).alloc _).alloc _)).trans hE1
  have hb0 : (((w.alloc (.cells #[.int .i64 1, .int .i64 x, .int .i64 y, .int .i64 i, .int .i64 lo, .int .i64 hi, .int .i64 le] 43)).alloc (.cells #[.int .i64 x, .int .i64 y, .int .i64 i] 66))).heap[w.heap.size + 1]? = some (.cells #[.int .i64 x, .int .i64 y, .int .i64 i] 66 (0, 0)) := by
    have := blk_new (w.alloc (.cells #[.int .i64 1, .int .i64 x, .int .i64 y, .int .i64 i, .int .i64 lo, .int .i64 hi, .int .i64 le] 43)) (.cells #[.int .i64 x, .int .i64 y, .int .i64 i] 66)
    simpa using this
  obtain ⟨c0, c1, c2⟩ := blk3 (Ext.block hE1 hb0)
  clear hb0
  go_wp2_with fail
  refine (Cut_no tb i L bs _ (H.out.tree.ext hE1') HID.out).mono ?_
  rintro e w2 ⟨rfl, hE2⟩
  go_wp2
  go_ret2
  exact ⟨g, n, cap, L, bs, rfl, H.out.ext (hE1'.trans hE2), by omega, (hE1'.trans hE2).mono hB, fun q hq => .inl hq⟩

set_option maxRecDepth 100000 in
set_option maxHeartbeats 4000000 in
theorem step_cut (h : Twin B w tb g n cap L bs) (hid : ∃ q ∈ L, q.2.2 = i) (hB : B ≤ w.heap.size) (hsz : (n + 2) * 24 ≤ 140737488355328) :
    Calls Try.prog 12 #[.pointer (some ⟨tb, 0, none⟩), slv g n cap, opv 1 x y i lo hi le] w (StepPost B tb n L (x, y, i) w) := by
  have H := Lib.hid h; clear h
  obtain ⟨p, hpL, rfl⟩ := hid
  have HPL := Lib.hid hpL; clear hpL
  go_enter Try.func12, Try.ntmps12
  go_wp2_with fail
  refine (RCut_any p.2.2 g n cap L _ H.out.len (H.out.list.ext ((((Ext.refl w).alloc _).alloc _))) (by omega)).mono ?_
  rintro e w1 ⟨hE1, hp⟩
  have hne : ¬ (without p.2.2 L).length = L.length := by
    intro he
    have := List.filter_eq_self.1 (List.filter_sublist.eq_of_length he) p HPL.out
    simp at this
  rw [if_neg hne] at hp
  obtain ⟨g1, cap1, rfl, hS1, hg1⟩ := hp
  have hE1' : Ext w w1 := ((((Ext.refl w).alloc _).alloc _)).trans hE1
  have hb0 : (((w.alloc (.cells #[.int .i64 1, .int .i64 x, .int .i64 y, .int .i64 p.2.2, .int .i64 lo, .int .i64 hi, .int .i64 le] 43)).alloc (.cells #[.int .i64 x, .int .i64 y, .int .i64 p.2.2] 66))).heap[w.heap.size + 1]? = some (.cells #[.int .i64 x, .int .i64 y, .int .i64 p.2.2] 66 (0, 0)) := by
    have := blk_new (w.alloc (.cells #[.int .i64 1, .int .i64 x, .int .i64 y, .int .i64 p.2.2, .int .i64 lo, .int .i64 hi, .int .i64 le] 43)) (.cells #[.int .i64 x, .int .i64 y, .int .i64 p.2.2] 66)
    simpa using this
  obtain ⟨c0, c1, c2⟩ := blk3 (Ext.block hE1 hb0)
  have hg1' : ∀ b, g1 = some b → w.heap.size ≤ b ∧ b < w1.heap.size := fun b hb => ⟨by have := hg1 b hb; simp at this; omega, by subst hb; exact hS1.block_lt⟩
  have HS1 := Lib.hid hS1
  have HG1 := Lib.hid hg1'
  clear hb0 hS1 hg1 hg1' hne
  go_wp2_with fail
  refine (Cut_ok tb p L bs _ (H.out.tree.ext hE1') HPL.out).mono ?_
  rintro e w2 ⟨L2, bs2, rfl, hT2, hp2, hsub2, hb2, ht2⟩
  have hL2 : L2 = without p.2.2 L := srt_unique hT2.srt (H.out.tree.srt.filter _) (without_some hp2 H.out.tree.ids).symm
  have hlt : ∀ b, g1 = some b → b ∉ bs := fun b hb hm => by have := HG1.out b hb; have := H.out.tree.lt b hm; omega
  have hle := without_le p.2.2 L
  have hTw : Twin B w2 tb g1 (without p.2.2 L).length cap1 L2 bs2 := by
    refine ⟨hT2, fun b hb => H.out.own b (hb2 b hb), ?_, by rw [hL2], fun b hb hm => hlt b hb (hb2 b hm)⟩
    rw [hL2]; exact HS1.out.touch ht2 (fun b hb => hlt b hb)
  have HLE : Hid ((without p.2.2 L).length ≤ n) := by have := H.out.len; show _ ≤ _; omega
  have HTW := Lib.hid hTw
  have hBe : Below B w w2 := Below.trans (hE1'.mono hB) (ht2.below (Nat.le_trans hB hE1'.size) (fun k hk => H.out.own k hk))
  have HM : Hid (∀ q ∈ L2, q ∈ L ∨ q = (x, y, p.2.2)) := fun q hq => .inl (hsub2.subset hq)
  clear hT2 hp2 hsub2 hb2 ht2 hL2 hTw hlt hle
  go_wp2
  go_ret2
  exact ⟨g1, (without p.2.2 L).length, cap1, L2, bs2, rfl, HTW.out, by have := HLE.out; omega, hBe, HM.out⟩

set_option maxRecDepth 100000 in
set_option maxHeartbeats 4000000 in
theorem step_none (k : Int) (h0 : (k == 0) = false) (h1 : (k == 1) = false) (h2 : (k == 2) = false) (h3 : (k == 3) = false) (h : Twin B w tb g n cap L bs) (hB : B ≤ w.heap.size) :
    Calls Try.prog 12 #[.pointer (some ⟨tb, 0, none⟩), slv g n cap, opv k x y i lo hi le] w (StepPost B tb n L (x, y, i) w) := by
  have H := Lib.hid h; clear h
  go_enter Try.func12, Try.ntmps12
  go_wp2
  go_ret2
  have hE : Ext w ((w.alloc (.cells #[.int .i64 k, .int .i64 x, .int .i64 y, .int .i64 i, .int .i64 lo, .int .i64 hi, .int .i64 le] 43)).alloc (.cells #[.int .i64 x, .int .i64 y, .int .i64 i] 66)) := ((Ext.refl w).alloc _).alloc _
  exact ⟨g, n, cap, L, bs, rfl, H.out.ext hE, by omega, hE.mono hB, fun q hq => .inl hq⟩
end
end Go.Proofs.Ytcildmdmgjehbaa
