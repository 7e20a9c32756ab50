/- lex.Quote; annalslaw14.awake; LexQuotes: walked. -/
import Derived.Test.YtaiedccjaahmgaaDoorLex6
import Derived.Laws.Concat
namespace Go.Proofs.YtaiedccjaahmgaaDoor
open Go.RowKit

theorem tokens_good (l : List UInt8) (w : World) (hl : l.length ≤ 1000000000) (ts : List Tok) (h : lexOf l = .inr ts) :
    Calls Tryd.prog 9 #[str l] w (fun e w' => ∃ g cap, e = .returned (.tuple #[slv g ts.length cap, .agg #[.int .i64 0, .int .i64 0]]) ∧ Sl w' 30 4 g ts.length cap (flatT ts) ∧ (∀ b, g = some b → w.heap.size ≤ b) ∧ Ext w w') := by
  refine (tokens_ok l w hl).mono ?_
  rintro e w' ⟨hE, hp⟩
  rw [h] at hp
  obtain ⟨g, cap, h1, h2, h3⟩ := hp
  exact ⟨g, cap, h1, h2, h3, hE⟩
theorem tokens_bad (l : List UInt8) (w : World) (hl : l.length ≤ 1000000000) (c p : Nat) (h : lexOf l = .inl (c, p)) :
    Calls Tryd.prog 9 #[str l] w (fun e w' => e = .returned (.tuple #[.slice none 0 0, .agg #[.int .i64 (c : Int), .int .i64 (p : Int)]]) ∧ Ext w w') := by
  refine (tokens_ok l w hl).mono ?_
  rintro e w' ⟨hE, hp⟩
  rw [h] at hp
  exact ⟨hp, hE⟩

/-- The library's variable that ReplaceAll reads holds a number. -/
def MaxOk (w : World) : Prop := ∃ m, w.cell? ⟨1, 0, none⟩ = some (.int .i64 m)
theorem MaxOk.ext {w w' : World} (h : MaxOk w) (he : Ext w w') : MaxOk w' := by
  obtain ⟨m, h⟩ := h
  exact ⟨m, Ext.cell he h⟩
theorem cat_ok {P : Program} (a b : List UInt8) (u : World) (h : a.length + b.length ≤ 4000000000) : (Op.stringOp .add (bs a) (bs b)).run P u = .ok (str (a ++ b)) u := by
  rw [run_string_add_sum u _ _ (by rw [bs_size, bs_size]; omega)]
  unfold bs
  rw [ByteArray.mk_append_mk]
  rfl
set_option maxHeartbeats 1000000 in
theorem quote_ok (l : List UInt8) (w : World) (hl : l.length ≤ 1000000000) (hm : MaxOk w) : Calls Tryd.prog 12 #[str l] w (fun e w' => e = .returned (str (quoted l)) ∧ Ext w w') := by
  obtain ⟨m, hm⟩ := hm
  go_enter Tryd.func12, Tryd.ntmps12
  go_wp2_with fail
  refine (Tryd.strings_ReplaceAll (bs l) ⟨#[39]⟩ ⟨#[39, 39]⟩ m w (by rw [bs_size]; omega) hm (by decide) ?_).mono ?_
  · have : Lib.countB (bs l) ⟨#[39]⟩ ≤ (bs l).data.toList.length + 1 := Lib.count_le (bs l).data.toList (⟨#[39]⟩ : ByteArray).data.toList
    have h1 : (bs l).data.toList.length = l.length := by simp [bs]
    have h2 : (⟨#[39, 39]⟩ : ByteArray).size = 2 := rfl
    rw [bs_size, h2]
    omega
  rintro e w1 ⟨rfl, hE⟩
  have h1 : (⟨(Lib.replaceAll (bs l).data.toList (⟨#[39]⟩ : ByteArray).data.toList (⟨#[39, 39]⟩ : ByteArray).data.toList).toArray⟩ : ByteArray) = bs (dbl l) := by
    show bs (Lib.replaceAll l [39] [39, 39]) = _
    rw [replaceAll_dbl]
  rw [h1]
  have hd := dbl_le l
  have hc1 : ∀ u : World, (Op.stringOp .add ⟨#[39]⟩ (bs (dbl l))).run Tryd.prog u = .ok (str (39 :: dbl l)) u := fun u => cat_ok [39] (dbl l) u (by simp; omega)
  have hc2 : ∀ u : World, (Op.stringOp .add (bs (39 :: dbl l)) ⟨#[39]⟩).run Tryd.prog u = .ok (str (quoted l)) u := fun u => cat_ok (39 :: dbl l) [39] u (by simp; omega)
  clear h1 hd
  go_wp2
  go_ret
  exact ⟨rfl, hE⟩

theorem quoted_len (l : List UInt8) : (quoted l).length = (dbl l).length + 2 := by simp [quoted]

set_option maxRecDepth 100000 in
set_option maxHeartbeats 4000000 in
theorem awake_ok (w : World) : Calls Tryd.prog 8 #[] w (fun e w' => e = .returned (.bool true) ∧ Ext w w') := by
  have hts : lexOf [97, 98, 32, 60, 61, 32, 39, 105, 116, 39, 39, 115, 39] = .inr [(1, [65, 66], 0, 0), (4, [60, 61], 0, 3), (3, [105, 116, 39, 115], 0, 6)] := by decide +kernel
  have HTS := Lib.hid hts; clear hts
  go_enter Tryd.func8, Tryd.ntmps8
  go_wp2_with fail
  refine (tokens_good [97, 98, 32, 60, 61, 32, 39, 105, 116, 39, 39, 115, 39] w (by decide) _ HTS.out).mono ?_
  rintro e w1 ⟨g, cap, rfl, hS, hg, hE⟩
  obtain ⟨b, hgb⟩ := hS.some_of_pos (by decide)
  have z0 : ∀ u : World, (Instr.indexAt 23 (slv g 3 cap) (.int .i64 0)).run Tryd.prog u = .ok (.pointer (some ⟨b, 0, none⟩)) u := fun u => by
    have := run_index_slv ei_tok (cap := cap) hgb (show 0 < 3 by omega) u
    simpa using this
  have z1 : ∀ u : World, (Instr.indexAt 23 (slv g 3 cap) (.int .i64 1)).run Tryd.prog u = .ok (.pointer (some ⟨b, 4, none⟩)) u := fun u => by
    have := run_index_slv ei_tok (cap := cap) hgb (show 1 < 3 by omega) u
    simpa using this
  have z2 : ∀ u : World, (Instr.indexAt 23 (slv g 3 cap) (.int .i64 2)).run Tryd.prog u = .ok (.pointer (some ⟨b, 8, none⟩)) u := fun u => by
    have := run_index_slv ei_tok (cap := cap) hgb (show 2 < 3 by omega) u
    simpa using this
  have hS' := hS
  rw [hgb] at hS'
  have hlb := hS'.block_lt
  have x1 : w1.cell? ⟨b, 1, none⟩ = some (str [65, 66]) := hS'.cell rfl
  have x5 : w1.cell? ⟨b, 5, none⟩ = some (str [60, 61]) := hS'.cell rfl
  have x9 : w1.cell? ⟨b, 9, none⟩ = some (str [105, 116, 39, 115]) := hS'.cell rfl
  have x11 : w1.cell? ⟨b, 11, none⟩ = some (.int .i64 6) := hS'.cell rfl
  clear hS hS' hg hgb
  have hbs := bs_toList
  go_wp2
  go_ret
  exact ⟨rfl, hE.alloc _⟩

theorem lexOf_quoted (l : List UInt8) : lexOf (quoted l) = if 4096 < (quoted l).length then .inl (2, 4096) else .inr [(3, l, 0, 0)] := by
  unfold lexOf
  split
  · rfl
  · rw [tk_quoted]
theorem idx0 {g : Option Nat} {b n cap : Nat} (hgb : g = some b) (hn : 0 < n) (u : World) : (Instr.indexAt 23 (slv g n cap) (.int .i64 0)).run Tryd.prog u = .ok (.pointer (some ⟨b, 0, none⟩)) u := by
  have := run_index_slv ei_tok (cap := cap) hgb hn u
  simpa using this

set_option maxRecDepth 100000 in
set_option maxHeartbeats 4000000 in
theorem quotes_any (l : List UInt8) (w : World) (hl : l.length ≤ 1048576) (hm : MaxOk w) :
    Calls Tryd.prog 7 #[str l] w (fun e w' => e = .returned (.bool true) ∧ Ext w w') := by
  have hql := quoted_len l
  have hdl := dbl_le l
  have hqm : (quoted l).length ≤ 1000000000 := by omega
  have HL := Lib.hid (lexOf_quoted l)
  clear hql hdl
  go_enter Tryd.func7, Tryd.ntmps7
  go_wp2_with fail
  refine (awake_ok w).mono ?_
  rintro e w1 ⟨rfl, hE1⟩
  go_wp2_with fail
  refine (quote_ok l w1 (by omega) (hm.ext hE1)).mono ?_
  rintro e w2 ⟨rfl, hE2⟩
  have hsz := bs_size (quoted l)
  have hbs := bs_toList
  by_cases hlong : 4096 < (quoted l).length
  · have h := HL.out
    rw [if_pos hlong] at h
    have HH := Lib.hid h; clear h
    go_wp2_with fail
    refine (tokens_bad (quoted l) w2 hqm 2 4096 HH.out).mono ?_
    rintro e w3 ⟨rfl, hE3⟩
    go_wp2
    go_ret
    exact ⟨rfl, (hE1.trans (hE2.trans hE3)).alloc _⟩
  · have h := HL.out
    rw [if_neg hlong] at h
    have HH := Lib.hid h; clear h
    go_wp2_with fail
    refine (tokens_good (quoted l) w2 hqm _ HH.out).mono ?_
    rintro e w3 ⟨g, cap, rfl, hS, hg, hE3⟩
    obtain ⟨b, hgb⟩ := hS.some_of_pos (by simp)
    have z0 := fun u => idx0 (cap := cap) hgb (show 0 < 1 by omega) u
    have hS' := hS
    rw [hgb] at hS'
    have hlb := hS'.block_lt
    have x0 : w3.cell? ⟨b, 0, none⟩ = some (.int .i64 3) := hS'.cell rfl
    have x1 : w3.cell? ⟨b, 1, none⟩ = some (str l) := hS'.cell rfl
    have x3 : w3.cell? ⟨b, 3, none⟩ = some (.int .i64 0) := hS'.cell rfl
    have hlz : decide (4096 < ((quoted l).length : Int)) = false := by simp; omega
    clear hS hS' hg hgb
    go_wp2
    go_ret
    exact ⟨rfl, (hE1.trans (hE2.trans hE3)).alloc _⟩
end Go.Proofs.YtaiedccjaahmgaaDoor
