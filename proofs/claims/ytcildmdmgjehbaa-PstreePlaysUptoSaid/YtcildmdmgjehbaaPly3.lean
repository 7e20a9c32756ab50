/- PstreePlays: walked. -/
import Derived.Test.YtcildmdmgjehbaaPly2
namespace Go.Proofs.Ytcildmdmgjehbaa
open Go.RowKit

/-- A call that came in: its kind, the point, the range. -/
structure Opr where
  k : Int
  x : Int
  y : Int
  i : Int
  lo : Int
  hi : Int
  le : Int
/-- The slice of calls that came in. -/
def Oprs (w : World) (sv : Option Addr) (os : List Opr) : Prop :=
  0 < os.length → ∃ lb off, sv = some ⟨lb, off, none⟩ ∧ ∀ i (o : Opr), os[i]? = some o →
    w.cell? ⟨lb, off + i * 7, none⟩ = some (.int .i64 o.k) ∧ w.cell? ⟨lb, off + i * 7 + 1, none⟩ = some (.int .i64 o.x) ∧ w.cell? ⟨lb, off + i * 7 + 2, none⟩ = some (.int .i64 o.y) ∧
    w.cell? ⟨lb, off + i * 7 + 3, none⟩ = some (.int .i64 o.i) ∧ w.cell? ⟨lb, off + i * 7 + 4, none⟩ = some (.int .i64 o.lo) ∧ w.cell? ⟨lb, off + i * 7 + 5, none⟩ = some (.int .i64 o.hi) ∧ w.cell? ⟨lb, off + i * 7 + 6, none⟩ = some (.int .i64 o.le)
theorem Oprs.ext {w w' : World} {sv : Option Addr} {os : List Opr} (h : Oprs w sv os) (he : Ext w w') : Oprs w' sv os := fun hn => by
  obtain ⟨lb, off, h1, h2⟩ := h hn
  exact ⟨lb, off, h1, fun i o ho => by
    obtain ⟨a0, a1, a2, a3, a4, a5, a6⟩ := h2 i o ho
    exact ⟨Ext.cell he a0, Ext.cell he a1, Ext.cell he a2, Ext.cell he a3, Ext.cell he a4, Ext.cell he a5, Ext.cell he a6⟩⟩

theorem step_any (B tb : Nat) (g : Option Nat) (n cap : Nat) (L : List Pt) (bs : List Nat) (k x y i lo hi le : Int) (w : World) (h : Twin B w tb g n cap L bs) (hB : B ≤ w.heap.size) (hsz : (n + 2) * 24 ≤ 140737488355328) :
    Calls Try.prog 12 #[.pointer (some ⟨tb, 0, none⟩), slv g n cap, opv k x y i lo hi le] w (StepPost B tb n L (x, y, i) w) := by
  have hor : (∃ q ∈ L, q.2.2 = i) ∨ ∀ q ∈ L, q.2.2 ≠ i := by
    by_cases hh : ∃ q ∈ L, q.2.2 = i
    · exact .inl hh
    · exact .inr fun q hq he => hh ⟨q, hq, he⟩
  by_cases h0 : k = 0
  · subst h0
    rcases hor with hid | hid
    · exact step_dup B tb g n cap L bs x y i lo hi le w h hid hB hsz
    · exact step_new B tb g n cap L bs x y i lo hi le w h hid hB hsz
  by_cases h1 : k = 1
  · subst h1
    rcases hor with hid | hid
    · exact step_cut B tb g n cap L bs x y i lo hi le w h hid hB hsz
    · exact step_cutno B tb g n cap L bs x y i lo hi le w h hid hB hsz
  by_cases h2 : k = 2
  · subst h2
    exact step_find B tb g n cap L bs x y i lo hi le w h hB (by omega)
  by_cases h3 : k = 3
  · subst h3
    exact step_top B tb g n cap L bs x y i lo hi le w h hB (by omega)
  exact step_none B tb g n cap L bs x y i lo hi le w k (by simpa using h0) (by simpa using h1) (by simpa using h2) (by simpa using h3) h hB

def wide (x : Int) : Prop := -9223372036854775808 ≤ x ∧ x ≤ 9223372036854775807
/-- After i calls. -/
def PlyInv (w1 : World) (tb n k : Nat) (v4 v5 v13 : Value) (wr : World) : Prop :=
  ∃ (i : Nat) (g : Option Nat) (m cap : Nat) (L : List Pt) (bs : List Nat), i + k = n ∧ v13 = .int .i64 (i : Int) ∧ v5 = .bool true ∧ v4 = slv g m cap ∧ Twin w1.heap.size wr tb g m cap L bs ∧ m ≤ i ∧ (∀ q ∈ L, wide q.1 ∧ wide q.2.1) ∧ Ext w1 wr

theorem inRange_all {L : List Pt} (h : ∀ q ∈ L, wide q.1 ∧ wide q.2.1) : inRange (-9223372036854775808) 9223372036854775807 (-9223372036854775808) L = L := by
  unfold inRange
  refine List.filter_eq_self.2 fun q hq => ?_
  obtain ⟨⟨h1, h2⟩, h3, h4⟩ := h q hq
  simp only [decide_eq_true_eq]
  exact ⟨h1, h2, h3⟩

set_option maxRecDepth 100000 in
set_option maxHeartbeats 8000000 in
theorem plays_any (sv : Option Addr) (n cap : Nat) (os : List Opr) (w : World) (hn : os.length = n) (hc : Oprs w sv os) (hsz : (n + 2) * 24 ≤ 140737488355328) (hw : ∀ o ∈ os, wide o.x ∧ wide o.y) :
    Calls Try.prog 5 #[.slice sv n cap] w (fun e w' => e = .returned (.bool true) ∧ Ext w w') := by
  have HN := Lib.hid hn; clear hn
  have HC := Lib.hid hc; clear hc
  have HSZ := Lib.hid hsz; clear hsz
  have HW := Lib.hid hw; clear hw
  have hnm : n ≤ 10000000000000 := by have := HSZ.out; omega
  go_enter Try.func5, Try.ntmps5
  go_wp2_with fail
  refine (awake_any _).mono ?_
  rintro e w1 ⟨rfl, hW1⟩
  go_wp2_with fail
  refine (New_ok w1).mono ?_
  rintro e w2 ⟨tb, bs, rfl, hT2, hb2, hE2⟩
  have HT2 : Hid (Twin w1.heap.size w2 tb none 0 0 [] bs) := ⟨hT2, hb2, by simpa [flatP] using Sl.nil w2 _ _, rfl, by simp⟩
  clear hT2 hb2
  go_wp2
  go_loopg [4, 5, 13] n (fun k v4 v5 v13 wr => PlyInv w1 tb n k v4 v5 v13 wr)
  case atStart => exact ⟨0, none, 0, 0, [], bs, by omega, rfl, rfl, rfl, HT2.out, by omega, by simp, hE2⟩
  case round =>
    obtain ⟨i, g, m, cap', L, bs', hik, rfl, rfl, rfl, hTw, hmi, hwd, hEr⟩ := hrel
    have HIK := Lib.hid hik; clear hik
    have HTW := Lib.hid hTw; clear hTw
    have HWD := Lib.hid hwd; clear hwd
    clear HT2 hE2
    by_cases hlt : i < n
    · obtain ⟨lb, off, hsv, hcell⟩ := (HC.out.ext (hW1.trans hEr)) (by have := HN.out; omega)
      subst hsv
      obtain ⟨⟨ok, ox, oy, oi, olo, ohi, ole⟩, ho⟩ : ∃ o, os[i]? = some o := ⟨os[i]'(by rw [HN.out]; exact hlt), by rw [List.getElem?_eq_getElem]⟩
      obtain ⟨c0, c1, c2, c3, c4, c5, c6⟩ := hcell i _ ho
      simp only at c0 c1 c2 c3 c4 c5 c6
      have hbl : lb < wr.heap.size := World.block_lt_of_cell? wr _ c0
      have HO := Lib.hid ho; clear ho hcell
      have hroom : (m + 2) * 24 ≤ 140737488355328 := Nat.le_trans (Nat.mul_le_mul_right 24 (show m + 2 ≤ n + 2 by omega)) HSZ.out
      have HRM := Lib.hid hroom; clear hroom
      go_wp2_with fail
      refine (step_any w1.heap.size tb g m cap' L bs' ok ox oy oi olo ohi ole _ (HTW.out.ext ((Ext.refl wr).alloc _)) (by have := hEr.size; simp; omega) HRM.out).mono ?_
      rintro e w3 ⟨g3, m3, cap3, L3, bs3, rfl, hT3, hm3, hB3, hq3⟩
      have hE3 : Ext w1 w3 := Below.trans (hEr.alloc _) hB3
      have HT3 := Lib.hid hT3; clear hT3
      have hwd3 : ∀ q ∈ L3, wide q.1 ∧ wide q.2.1 := fun q hq => by
        rcases hq3 q hq with h | rfl
        · exact HWD.out q h
        · exact HW.out _ (List.mem_of_getElem? HO.out)
      have HWD3 := Lib.hid hwd3
      clear hwd3 hq3 hB3 c0 c1 c2 c3 c4 c5 c6
      go_wp2_with fail
      refine (Len_ok tb L3 bs3 w3 HT3.out.tree).mono ?_
      rintro e w4 ⟨rfl, rfl⟩
      rw [HT3.out.len]
      go_wp2
      go_roundg (gk - 1)
      case measure => have := HIK.out; omega
      case rel => exact ⟨i + 1, g3, m3, cap3, L3, bs3, by have := HIK.out; omega, by go_num, rfl, rfl, HT3.out, by omega, HWD3.out, hE3⟩
    · have hroom : m * 24 ≤ 140737488355328 := Nat.le_trans (Nat.mul_le_mul_right 24 (show m ≤ n + 2 by have := HIK.out; omega)) HSZ.out
      have HRM := Lib.hid hroom; clear hroom
      go_wp2_with fail
      refine (Find_ok (-9223372036854775808) 9223372036854775807 (-9223372036854775808) tb L bs' _ HTW.out.tree (by rw [HTW.out.len]; exact HRM.out)).mono ?_
      rintro e w3 ⟨g3, cap3, rfl, hS3, hg3, hE3⟩
      rw [inRange_all HWD.out, HTW.out.len] at hS3
      rw [inRange_all HWD.out, HTW.out.len]
      have HS3 := Lib.hid hS3
      clear hS3 hg3
      go_wp2_with fail
      refine (points_eq g3 g m cap3 cap' L _ HTW.out.len HS3.out (HTW.out.list.ext hE3) HRM.out).mono ?_
      rintro e w4 ⟨rfl, hE4⟩
      go_wp2
      go_ret
      exact ⟨rfl, hW1.trans (hEr.trans (hE3.trans hE4))⟩
end Go.Proofs.Ytcildmdmgjehbaa
