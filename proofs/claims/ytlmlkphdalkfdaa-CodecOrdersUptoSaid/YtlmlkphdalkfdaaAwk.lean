/- annalslaw02.awake, walked: it says true. -/
import Derived.Test.YtlmlkphdalkfdaaDec2
import Derived.Lib.SmallJoins
namespace Go.Proofs.Ytlmlkphdalkfdaa
open Go.RowKit

def awkV : List V := [(1, -1, []), (2, 0, [97])]
def awkB : List UInt8 := [1, 127, 255, 255, 255, 255, 255, 255, 255, 2, 97, 0, 0]
theorem awk_check : checkL awkV = 0 := by kernel_rfl
theorem awk_enc : encO awkV = awkB := by kernel_rfl
theorem awk_dec : decOf awkB = .inr awkV := by kernel_rfl
theorem awk_sum : crcOf [49, 50, 51, 52, 53, 54, 55, 56, 57] = 3421780262 := by kernel_rfl
theorem vals_block {w : World} {b : Nat} {vs : List V} {e : TypeId} {f : Nat × Nat} (h : w.heap[b]? = some (.cells (flatV vs).toArray e f)) : Vals w (some ⟨b, 0, none⟩) vs := fun hp => by
  refine ⟨b, 0, rfl, fun i v hv => ?_⟩
  obtain ⟨h0, h1, h2⟩ := flatV_get vs i v hv
  rw [Nat.zero_add]
  exact ⟨blk_cell h (by simpa using h0), blk_cell h (by simpa using h1), blk_cell h (by simpa using h2)⟩
theorem bytes_block {w : World} {b n c : Nat} {l : List UInt8} {e : TypeId} {f : Nat × Nat} (h : w.heap[b]? = some (.cells (bc l).toArray e f)) (hn : l.length = n) : BytesAt w (.slice (some ⟨b, 0, none⟩) n c) l := by
  subst hn
  refine ⟨some ⟨b, 0, none⟩, c, rfl, fun h => ?_, fun _ => ⟨b, 0, rfl, fun j x hx => by rw [Nat.zero_add]; exact blk_cell h (by simpa using bc_get hx)⟩⟩
  cases h

def b4 : Array Value := (bc [49, 50, 51, 52]).toArray
def b5 : Array Value := (bc [53, 54, 55, 56, 57]).toArray

set_option maxRecDepth 100000 in
set_option maxHeartbeats 8000000 in
theorem awake_ok (w : World) : Calls Try.prog 11 #[] w (fun e w' => e = .returned (.bool true) ∧ Ext w w') := by
  go_enter Try.func11, Try.ntmps11
  go_wp2_with fail
  refine (Encode_ok (some ⟨w.heap.size, 0, none⟩) 2 2 awkV _ rfl (vals_block (blk_new w _)) (by decide) (by decide) (by decide)).mono ?_
  rintro e w1 ⟨g, m, c, rfl, hB, hg, hE⟩
  have hE1 : Ext w w1 := ((Ext.refl w).alloc _).trans hE
  rw [awk_check]
  rw [awk_enc] at hB
  have hm := hB.bytes
  have HB := Lib.hid hB
  clear hB hg hE
  go_wp2_with fail
  refine (Decode_ok (adr g) m c awkB w1 hm.symm HB.out.at (by decide)).mono ?_
  rintro e w2 ⟨g2, m2, c2, rfl, hS, hg2, hE2⟩
  rw [awk_dec] at hS ⊢
  rw [show codeOf (.inr awkV) = 0 from rfl, show placeOf (.inr awkV) = 0 from rfl]
  have hS' : Sl w2 53 3 g2 m2 c2 (flatV awkV) := hS
  have hm2 : m2 = 2 := by
    have := hS'.len
    rw [flatV_len] at this
    have h2 : awkV.length = 2 := rfl
    omega
  subst hm2
  obtain ⟨b2, rfl⟩ := hS'.some_of_pos (by decide)
  have f1 : w2.cell? ⟨b2, 1, none⟩ = some (.int .i64 (-1)) := hS'.cell rfl
  have f5 : w2.cell? ⟨b2, 5, none⟩ = some (str [97]) := hS'.cell rfl
  have hb2 : b2 < w2.heap.size := hS'.block_lt
  have hEw : Ext w w2 := hE1.trans hE2
  clear hS hS' hg2 hE1 hE2 HB hm
  have kc1 : (convert 22 22 (.slice (some ⟨w2.heap.size + 1, 0, none⟩) 4 4)).run Try.prog ((w2.alloc (.cells #[.int .i64 0, .int .i64 0] 37)).alloc (.cells #[.int .u8 49, .int .u8 50, .int .u8 51, .int .u8 52] 5)) = .ok (.slice (some ⟨w2.heap.size + 1, 0, none⟩) 4 4) ((w2.alloc (.cells #[.int .i64 0, .int .i64 0] 37)).alloc (.cells #[.int .u8 49, .int .u8 50, .int .u8 51, .int .u8 52] 5 (4, 5))) :=
    Go.Joins.run_convert_bytes_const_at _ _ 5 _ 4 4 _ (by simp) Try.underlying22 Try.underlying5
  have kc2 : (convert 22 22 (.slice (some ⟨w2.heap.size + 1 + 1, 0, none⟩) 5 5)).run Try.prog (((w2.alloc (.cells #[.int .i64 0, .int .i64 0] 37)).alloc (.cells #[.int .u8 49, .int .u8 50, .int .u8 51, .int .u8 52] 5 (4, 5))).alloc (.cells #[.int .u8 53, .int .u8 54, .int .u8 55, .int .u8 56, .int .u8 57] 5)) = .ok (.slice (some ⟨w2.heap.size + 1 + 1, 0, none⟩) 5 5) (((w2.alloc (.cells #[.int .i64 0, .int .i64 0] 37)).alloc (.cells #[.int .u8 49, .int .u8 50, .int .u8 51, .int .u8 52] 5 (4, 5))).alloc (.cells #[.int .u8 53, .int .u8 54, .int .u8 55, .int .u8 56, .int .u8 57] 5 (5, 6))) :=
    Go.Joins.run_convert_bytes_const_at _ _ 5 _ 5 5 _ (by simp) Try.underlying22 Try.underlying5
  go_wp2_with fail
  have zf := blk_new w2 (.cells #[.int .i64 0, .int .i64 0] 37)
  have z0 := blk_new2 w2 (.cells #[.int .i64 0, .int .i64 0] 37) (.cells #[.int .u8 49, .int .u8 50, .int .u8 51, .int .u8 52] 5 (4, 5))
  have hEa : Ext w2 (w2.alloc (.cells #[.int .i64 0, .int .i64 0] 37)) := (Ext.refl _).alloc _
  have hE0 : Ext (w2.alloc (.cells #[.int .i64 0, .int .i64 0] 37)) ((w2.alloc (.cells #[.int .i64 0, .int .i64 0] 37)).alloc (.cells #[.int .u8 49, .int .u8 50, .int .u8 51, .int .u8 52] 5 (4, 5))) := (Ext.refl _).alloc _
  have hsz : ((w2.alloc (.cells #[.int .i64 0, .int .i64 0] 37)).alloc (.cells #[.int .u8 49, .int .u8 50, .int .u8 51, .int .u8 52] 5 (4, 5))).heap.size = w2.heap.size + 1 + 1 := by simp
  clear kc1 kc2
  generalize (w2.alloc (.cells #[.int .i64 0, .int .i64 0] 37)).alloc (.cells #[.int .u8 49, .int .u8 50, .int .u8 51, .int .u8 52] 5 (4, 5)) = W4 at *
  have z1 := blk_new W4 (.cells #[.int .u8 53, .int .u8 54, .int .u8 55, .int .u8 56, .int .u8 57] 5 (5, 6))
  have z2 := blk_new2 W4 (.cells #[.int .u8 53, .int .u8 54, .int .u8 55, .int .u8 56, .int .u8 57] 5 (5, 6)) (.cells #[.slice (some ⟨w2.heap.size + 1, 0, none⟩) 4 4, .slice none 0 0, .slice (some ⟨w2.heap.size + 1 + 1, 0, none⟩) 5 5] 22)
  rw [hsz] at z1 z2
  have z1' := blk_alloc (o' := .cells #[.slice (some ⟨w2.heap.size + 1, 0, none⟩) 4 4, .slice none 0 0, .slice (some ⟨w2.heap.size + 1 + 1, 0, none⟩) 5 5] 22) z1
  have hE4 : Ext W4 ((W4.alloc (.cells #[.int .u8 53, .int .u8 54, .int .u8 55, .int .u8 56, .int .u8 57] 5 (5, 6))).alloc (.cells #[.slice (some ⟨w2.heap.size + 1, 0, none⟩) 4 4, .slice none 0 0, .slice (some ⟨w2.heap.size + 1 + 1, 0, none⟩) 5 5] 22)) := ((Ext.refl _).alloc _).alloc _
  clear z1
  generalize (W4.alloc (.cells #[.int .u8 53, .int .u8 54, .int .u8 55, .int .u8 56, .int .u8 57] 5 (5, 6))).alloc (.cells #[.slice (some ⟨w2.heap.size + 1, 0, none⟩) 4 4, .slice none 0 0, .slice (some ⟨w2.heap.size + 1 + 1, 0, none⟩) 5 5] 22) = W5 at *
  have z0' := Ext.block hE4 z0
  have zf' := Ext.block hE4 (Ext.block hE0 zf)
  have hE5 : Ext w2 W5 := (hEa.trans hE0).trans hE4
  have hEw5 : Ext w W5 := hEw.trans hE5
  obtain ⟨q0, q1⟩ := blk2 zf'
  have f1' := Ext.cell hE5 f1
  have f5' := Ext.cell hE5 f5
  clear z0 zf hEa hE0 hE4 hEw hE5 f1 f5 hsz zf'
  generalize w2.heap.size + 1 + 1 + 1 = sb at *
  refine (Sum_ok sb 3 [[49, 50, 51, 52], [], [53, 54, 55, 56, 57]] _ (by decide) (fun i l hl => ?_)).mono ?_
  · match i, hl with
    | 0, hl =>
      cases hl
      exact ⟨by decide, _, blk_cell z2 rfl, bytes_block z0' rfl⟩
    | 1, hl =>
      cases hl
      exact ⟨by decide, _, blk_cell z2 rfl, BytesAt.nil _⟩
    | 2, hl =>
      cases hl
      exact ⟨by decide, _, blk_cell z2 rfl, bytes_block z1' rfl⟩
    | i + 3, hl => simp at hl
  · rintro e w3 ⟨rfl, rfl⟩
    have hsum : crcOf ([[49, 50, 51, 52], [], [53, 54, 55, 56, 57]] : List (List UInt8)).flatten = 3421780262 := awk_sum
    rw [hsum]
    clear z2 z1' z0' hsum
    have ht97 := bs_toList [97]
    have hl97 : (ByteArray.mk #[97]).toList = [97] := ByteArray.toList_mk [97]
    simp only [slv, adr_some]
    go_wp2
    go_ret
    exact ⟨rfl, hEw5⟩

end Go.Proofs.Ytlmlkphdalkfdaa
