/- annalsref11.Find, Cut: walked. -/
import Derived.Test.YtcildmdmgjehbaaSpl
import Derived.Test.YtcildmdmgjehbaaRefL
namespace Go.Proofs.Ytcildmdmgjehbaa
open Go.RowKit

theorem ei_rpt : EI Try.prog 41 66 3 24 :=
  ⟨Try.underlying41, by
    obtain ⟨i, h1, h2, h3, h4⟩ := info_parts (P := Try.prog) (e := 66) (z := .agg #[.int .i64 0, .int .i64 0, .int .i64 0]) (size := 3) (bytes := 24) (by kernel_rfl)
    exact ⟨i, _, h1, h2, h3, h4, rfl⟩, by omega, by omega⟩

def RefPost (qs : List Pt) (w : World) (e : Ending) (w' : World) : Prop :=
  ∃ g cap, e = .returned (slv g qs.length cap) ∧ Sl w' 66 3 g qs.length cap (flatP qs) ∧ (∀ b, g = some b → w.heap.size ≤ b) ∧ Ext w w'

def OutInv (w : World) (f : Nat → List Pt) (n k : Nat) (v9 v10 : Value) (wr : World) : Prop :=
  ∃ (i : Nat) (g : Option Nat) (cap : Nat), i + k = n ∧ v10 = .int .i64 i ∧ v9 = slv g (f i).length cap ∧ Sl wr 66 3 g (f i).length cap (flatP (f i)) ∧ (∀ b, g = some b → w.heap.size ≤ b) ∧ Ext w wr

theorem inRange_succ (low high least : Int) (L : List Pt) (i : Nat) (x : Pt) (h : L[i]? = some x) :
    inRange low high least (L.take (i + 1)) = inRange low high least (L.take i) ++ if low ≤ x.1 ∧ x.1 ≤ high ∧ least ≤ x.2.1 then [x] else [] := by
  simp only [inRange, List.take_add_one, h, Option.toList_some, List.filter_append, List.filter_cons, List.filter_nil, decide_eq_true_eq]

set_option maxRecDepth 100000 in
set_option maxHeartbeats 4000000 in
theorem RFind_any (low high least : Int) (g : Option Nat) (n cap : Nat) (L : List Pt) (w : World) (hn : L.length = n) (hS : Sl w 66 3 g n cap (flatP L)) (hsz : n * 24 ≤ 140737488355328) :
    Calls Try.prog 22 #[slv g n cap, .int .i64 low, .int .i64 high, .int .i64 least] w (RefPost (inRange low high least L) w) := by
  have HN := Lib.hid hn; clear hn
  have HS := Lib.hid hS; clear hS
  go_enter Try.func22, Try.ntmps22
  go_wp2
  go_loopg [9, 10] n (fun k v9 v10 wr => OutInv w (fun i => inRange low high least (L.take i)) n k v9 v10 wr)
  case atStart => exact ⟨0, none, 0, by omega, rfl, by simp [inRange, adr], by simpa [inRange, flatP] using Sl.nil _ _ _, by simp, Ext.refl _⟩
  case round =>
    obtain ⟨i, g1, cap1, hik, rfl, rfl, hS1, hg1, hE⟩ := hrel
    have HIK := Lib.hid hik
    by_cases hlt : i < n
    · obtain ⟨b, hgb⟩ := HS.out.some_of_pos (by omega)
      have z := run_index_slv ei_rpt (cap := cap) hgb hlt
      obtain ⟨⟨px, py, pid⟩, hq⟩ : ∃ q, L[i]? = some q := ⟨L[i]'(by rw [HN.out]; exact hlt), by rw [List.getElem?_eq_getElem]⟩
      obtain ⟨k0, k1, k2⟩ := flatP_get L i _ hq
      have HS' := HS.out
      rw [hgb] at HS'
      have hlb : b < wr.heap.size := by have := HS'.block_lt; have := hE.size; omega
      have x0 := Ext.cell hE (HS'.cell k0)
      have x1 := Ext.cell hE (HS'.cell k1)
      have x2 := Ext.cell hE (HS'.cell k2)
      simp only at x0 x1 x2
      have hsuc := inRange_succ low high least L i _ hq
      have hle := inRange_le low high least (L.take i)
      rw [List.length_take] at hle
      have HLE : Hid ((inRange low high least (L.take i)).length ≤ i) := Nat.le_trans hle (Nat.min_le_left _ _)
      have HSUC := Lib.hid hsuc
      have HS1 := Lib.hid hS1
      have HG1 := Lib.hid hg1
      clear hS1 hg1 hsuc hle k0 k1 k2 HS' hgb hq hik
      by_cases h1 : low ≤ px
      · by_cases h2 : px ≤ high
        · by_cases h3 : least ≤ py
          · go_wp2_with (at_builtin; refine app_lit ei_rpt rfl (.tmp 42) (.tmp 47) rfl (g := g1) (n := (inRange low high least (L.take i)).length) (cap := cap1) (by rfl) (HS1.out.ext ((Ext.refl wr).alloc _)) (by rfl) rfl (blk_new wr _) (by simp [Value.oneCell']) (by omega) (by have := HLE.out; omega) ?_; intro g2 cap2 w2 hS2 hT2 hat2)
            have hE2 : Ext w w2 := Touch.fresh (hE.alloc _) hT2 (fun k hk => HG1.out k hk)
            have hg2 : w.heap.size ≤ g2 := by
              rcases hat2 with h | h
              · exact HG1.out g2 h
              · have := hE.size; simp at h; omega
            have HS2 := Lib.hid hS2
            clear hS2 hT2 hat2 x0 x1 x2
            have hf : inRange low high least (L.take (i + 1)) = inRange low high least (L.take i) ++ [(px, py, pid)] := by
              rw [HSUC.out, if_pos ⟨h1, h2, h3⟩]
            have HF := Lib.hid hf; clear hf
            go_wp2
            go_roundg (gk - 1)
            case measure => have := HIK.out; omega
            case rel =>
              refine ⟨i + 1, some g2, cap2, by have := HIK.out; omega, by go_num, ?_, ?_, fun b hb => by cases hb; exact hg2, hE2⟩
              · dsimp only; rw [HF.out, List.length_append]; rfl
              · dsimp only; rw [HF.out, List.length_append, flatP_append]; exact HS2.out
          · skip
            have hf : inRange low high least (L.take (i + 1)) = inRange low high least (L.take i) := by
              rw [HSUC.out, if_neg (fun h => by simp only at h; omega), List.append_nil]
            have HF := Lib.hid hf; clear hf
            go_wp2
            go_roundg (gk - 1)
            case measure => have := HIK.out; omega
            case rel =>
              refine ⟨i + 1, g1, cap1, by have := HIK.out; omega, by go_num, ?_, ?_, HG1.out, hE⟩
              · dsimp only; rw [HF.out]
              · dsimp only; rw [HF.out]; exact HS1.out
        · skip
          have hf : inRange low high least (L.take (i + 1)) = inRange low high least (L.take i) := by
            rw [HSUC.out, if_neg (fun h => by simp only at h; omega), List.append_nil]
          have HF := Lib.hid hf; clear hf
          go_wp2
          go_roundg (gk - 1)
          case measure => have := HIK.out; omega
          case rel =>
            refine ⟨i + 1, g1, cap1, by have := HIK.out; omega, by go_num, ?_, ?_, HG1.out, hE⟩
            · dsimp only; rw [HF.out]
            · dsimp only; rw [HF.out]; exact HS1.out
      · skip
        have hf : inRange low high least (L.take (i + 1)) = inRange low high least (L.take i) := by
          rw [HSUC.out, if_neg (fun h => by simp only at h; omega), List.append_nil]
        have HF := Lib.hid hf; clear hf
        go_wp2
        go_roundg (gk - 1)
        case measure => have := HIK.out; omega
        case rel =>
          refine ⟨i + 1, g1, cap1, by have := HIK.out; omega, by go_num, ?_, ?_, HG1.out, hE⟩
          · dsimp only; rw [HF.out]
          · dsimp only; rw [HF.out]; exact HS1.out
    · have hin : i = n := by omega
      subst hin
      have hL : L.take i = L := by rw [← HN.out, List.take_length]
      simp only [hL] at hS1 ⊢
      go_wp2
      go_ret
      exact ⟨g1, cap1, rfl, hS1, hg1, hE⟩
end Go.Proofs.Ytcildmdmgjehbaa
