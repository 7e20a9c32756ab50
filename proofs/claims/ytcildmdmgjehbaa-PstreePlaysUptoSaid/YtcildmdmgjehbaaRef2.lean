/- annalsref11.Cut: walked. -/
import Derived.Test.YtcildmdmgjehbaaRef1
namespace Go.Proofs.Ytcildmdmgjehbaa
open Go.RowKit

def without (id : Int) (L : List Pt) : List Pt := L.filter fun q => decide (q.2.2 ≠ id)
theorem without_succ (id : Int) (L : List Pt) (i : Nat) (x : Pt) (h : L[i]? = some x) :
    without id (L.take (i + 1)) = without id (L.take i) ++ if x.2.2 ≠ id then [x] else [] := by
  simp only [without, List.take_add_one, h, Option.toList_some, List.filter_append, List.filter_cons, List.filter_nil, decide_eq_true_eq]
theorem without_le (id : Int) (L : List Pt) : (without id L).length ≤ L.length := List.length_filter_le _ _

/-- What Cut of the document gives. -/
def RCutPost (id : Int) (g : Option Nat) (n cap : Nat) (L : List Pt) (w : World) (e : Ending) (w' : World) : Prop :=
  Ext w w' ∧ if (without id L).length = L.length then e = .returned (.tuple #[slv g n cap, .int .i64 4]) else
    ∃ g' cap', e = .returned (.tuple #[slv g' (without id L).length cap', .int .i64 0]) ∧ Sl w' 66 3 g' (without id L).length cap' (flatP (without id L)) ∧ (∀ b, g' = some b → w.heap.size ≤ b)

set_option maxRecDepth 100000 in
set_option maxHeartbeats 4000000 in
theorem RCut_any (id : Int) (g : Option Nat) (n cap : Nat) (L : List Pt) (w : World) (hn : L.length = n) (hS : Sl w 66 3 g n cap (flatP L)) (hsz : n * 24 ≤ 140737488355328) :
    Calls Try.prog 21 #[slv g n cap, .int .i64 id] w (RCutPost id g n cap L w) := by
  have HN := Lib.hid hn; clear hn
  have HS := Lib.hid hS; clear hS
  go_enter Try.func21, Try.ntmps21
  go_wp2
  go_loopg [6, 7] n (fun k v9 v10 wr => OutInv w (fun i => without id (L.take i)) n k v9 v10 wr)
  case atStart => exact ⟨0, none, 0, by omega, rfl, by simp [without, adr], by simpa [without, flatP] using Sl.nil _ _ _, by simp, Ext.refl _⟩
  case round =>
    obtain ⟨i, g1, cap1, hik, rfl, rfl, hS1, hg1, hE⟩ := hrel
    have HIK := Lib.hid hik
    by_cases hlt : i < n
    · obtain ⟨b, hgb⟩ := HS.out.some_of_pos (by omega)
      have z := run_index_slv ei_rpt (cap := cap) hgb hlt
      obtain ⟨⟨px, py, pid⟩, hq⟩ : ∃ q, L[i]? = some q := ⟨L[i]'(by rw [HN.out]; exact hlt), by rw [List.getElem?_eq_getElem]⟩
      obtain ⟨k0, k1, k2⟩ := flatP_get L i _ hq
      have HS' := HS.out
      rw [hgb] at HS'
      have hlb : b < wr.heap.size := by have := HS'.block_lt; have := hE.size; omega
      have x0 := Ext.cell hE (HS'.cell k0)
      have x1 := Ext.cell hE (HS'.cell k1)
      have x2 := Ext.cell hE (HS'.cell k2)
      simp only at x0 x1 x2
      have hsuc := without_succ id L i _ hq
      simp only at hsuc
      have hle := without_le id (L.take i)
      rw [List.length_take] at hle
      have HLE : Hid ((without id (L.take i)).length ≤ i) := Nat.le_trans hle (Nat.min_le_left _ _)
      have HSUC := Lib.hid hsuc
      have HS1 := Lib.hid hS1
      have HG1 := Lib.hid hg1
      clear hS1 hg1 hsuc hle k0 k1 k2 HS' hgb hq hik
      by_cases hp : pid = id
      · have hp' := hp.symm
        subst hp'
        have hf : without id (L.take (i + 1)) = without id (L.take i) := by
          rw [HSUC.out, if_neg (fun h => h hp), List.append_nil]
        have HF := Lib.hid hf; clear hf
        go_wp2
        go_roundg (gk - 1)
        case measure => have := HIK.out; omega
        case rel =>
          refine ⟨i + 1, g1, cap1, by have := HIK.out; omega, by go_num, ?_, ?_, HG1.out, hE⟩
          · dsimp only; rw [HF.out]
          · dsimp only; rw [HF.out]; exact HS1.out
      · have hpz : (pid == id) = false := by simp; exact hp
        go_wp2_with (at_builtin; refine app_lit ei_rpt rfl (.tmp 21) (.tmp 26) rfl (g := g1) (n := (without id (L.take i)).length) (cap := cap1) (by rfl) (HS1.out.ext ((Ext.refl wr).alloc _)) (by rfl) rfl (blk_new wr _) (by simp [Value.oneCell']) (by omega) (by have := HLE.out; omega) ?_; intro g2 cap2 w2 hS2 hT2 hat2)
        have hE2 : Ext w w2 := Touch.fresh (hE.alloc _) hT2 (fun k hk => HG1.out k hk)
        have hg2 : w.heap.size ≤ g2 := by
          rcases hat2 with h | h
          · exact HG1.out g2 h
          · have := hE.size; simp at h; omega
        have HS2 := Lib.hid hS2
        clear hS2 hT2 hat2 x0 x1 x2
        have hf : without id (L.take (i + 1)) = without id (L.take i) ++ [(px, py, pid)] := by
          rw [HSUC.out, if_pos hp]
        have HF := Lib.hid hf; clear hf
        go_wp2
        go_roundg (gk - 1)
        case measure => have := HIK.out; omega
        case rel =>
          refine ⟨i + 1, some g2, cap2, by have := HIK.out; omega, by go_num, ?_, ?_, fun b hb => by cases hb; exact hg2, hE2⟩
          · dsimp only; rw [HF.out, List.length_append]; rfl
          · dsimp only; rw [HF.out, List.length_append, flatP_append]; exact HS2.out
    · have hin : i = n := by omega
      subst hin
      have hL : L.take i = L := by rw [← HN.out, List.take_length]
      simp only [hL] at hS1 ⊢
      have hle := without_le id L
      by_cases hlen : (without id L).length = i
      · have hz : (((without id L).length : Int) == (i : Int)) = true := by simp; omega
        have HZ : Hid ((without id L).length = L.length) := by have := HN.out; show _ = _; omega
        clear hlen
        go_wp2
        go_ret2
        refine ⟨hE, ?_⟩
        rw [if_pos HZ.out]
        rfl
      · have hz : (((without id L).length : Int) == (i : Int)) = false := by simp; omega
        have HZ : Hid (¬ (without id L).length = L.length) := by have := HN.out; show ¬ _; omega
        have HS1 := Lib.hid hS1
        clear hlen hS1
        go_wp2
        go_ret2
        refine ⟨hE, ?_⟩
        rw [if_neg HZ.out]
        exact ⟨g1, cap1, rfl, HS1.out, hg1⟩
end Go.Proofs.Ytcildmdmgjehbaa
