/- btree.New, Len, copied: walked. -/
import Derived.Test.YtkejjahlglldlaaBt8
namespace Go.Proofs.Ytkejjahlglldlaa
open Go.RowKit Go.Lib

set_option maxRecDepth 100000 in
set_option maxHeartbeats 2000000 in
theorem New_bad (o : Int) (ho : o < 2 ∨ 64 < o) (w : World) :
    Calls Try.prog 6 #[.int .i64 o] w fun e w' => e = .returned (.tuple #[.pointer none, .int .i64 1]) ∧ Ext w w' := by
  by_cases h2 : o < 2
  · go_enter Try.func6, Try.ntmps6
    go_wp2
    go_ret2
    exact ⟨rfl, Ext.refl _⟩
  · have h64 : 64 < o := ho.resolve_left h2
    go_enter Try.func6, Try.ntmps6
    go_wp2
    go_ret2
    exact ⟨rfl, Ext.refl _⟩
def NewPost (m : Nat) (w : World) (e : Ending) (w' : World) : Prop :=
  ∃ tb bs, e = .returned (.tuple #[.pointer (some ⟨tb, 0, none⟩), .int .i64 0]) ∧ TreeAt w' tb m [] bs ∧ (∀ x ∈ bs, w.heap.size ≤ x) ∧ Ext w w'
set_option maxRecDepth 100000 in
set_option maxHeartbeats 2000000 in
theorem New_ok (m : Nat) (h2 : 2 ≤ m) (h64 : m ≤ 64) (w : World) :
    Calls Try.prog 6 #[.int .i64 (m : Int)] w (NewPost m w) := by
  have h2' : ¬ ((m : Int) < 2) := by omega
  have h64' : ¬ (64 < (m : Int)) := by omega
  go_enter Try.func6, Try.ntmps6
  go_wp2
  go_ret2
  have hb1 := blk_new w (.cells #[.slice none 0 0, .slice none 0 0, .slice none 0 0] 82)
  have hb2 := blk_new (w.alloc (.cells #[.slice none 0 0, .slice none 0 0, .slice none 0 0] 82)) (.cells #[.int .i64 (m : Int), .pointer (some ⟨w.heap.size, 0, none⟩), .int .i64 0] 84)
  rw [World.size_alloc] at hb2
  refine ⟨w.heap.size + 1, [w.heap.size + 1, w.heap.size], rfl, ⟨⟨w.heap.size, 0, 0, [w.heap.size], hb2, ⟨[], none, none, none, 0, 0, 0, ⟨blk_alloc hb1, Sl.nil _ _ _, Sl.nil _ _ _, Sl.nil _ _ _⟩, rfl, rfl, rfl⟩, by simp, by omega, rfl⟩, by simp, by simp [Srt], h2, h64⟩, by simp, ((Ext.refl w).alloc _).alloc _⟩
set_option maxRecDepth 100000 in
set_option maxHeartbeats 2000000 in
theorem Len_ok {tb m : Nat} {L : List Ent} {bs : List Nat} {w : World} (hT : TreeAt w tb m L bs) :
    Calls Try.prog 8 #[.pointer (some ⟨tb, 0, none⟩)] w fun e w' => e = .returned (.int .i64 (L.length : Int)) ∧ w = w' := by
  obtain ⟨rb, H, n, bs', hb, -⟩ := hT.ex
  obtain ⟨c0, c1, c2⟩ := blk3 hb
  clear hb hT
  go_enter Try.func8, Try.ntmps8
  go_wp2
  go_ret
  exact ⟨rfl, rfl⟩
end Go.Proofs.Ytkejjahlglldlaa
