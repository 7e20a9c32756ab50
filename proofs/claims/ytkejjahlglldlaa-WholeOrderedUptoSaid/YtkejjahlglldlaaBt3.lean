/- slices.Clone at texts, numbers, nodes; slices.BinarySearch at texts: walked. -/
import Derived.Test.YtkejjahlglldlaaBt1
import Derived.Test.YtkejjahlglldlaaBt2
import Derived.Test.YtkejjahlglldlaaPe3
namespace Go.Proofs.Ytkejjahlglldlaa
open Go.RowKit Go.Lib

def ClnPS (n : Nat) (xs : List Value) (w : World) (e : Ending) (w' : World) : Prop :=
  ∃ g cap', e = .returned (slv g n cap') ∧ Sl w' 9 1 g n cap' xs ∧ (∀ b, g = some b → w.heap.size ≤ b) ∧ Ext w w'
set_option maxRecDepth 100000 in
set_option maxHeartbeats 8000000 in
theorem ClnS (s : Option Nat) (off n cap : Nat) (xs : List Value) (w : World) (hn : xs.length = n) (hc : ∀ b, s = some b → ∀ j u, xs[j]? = some u → w.cell? ⟨b, off + j, none⟩ = some u) (hnil : s = none → n = 0) (h1 : ∀ u ∈ xs, u.oneCell' = true) (hsz : n ≤ 1000000000) :
    Calls Try.prog 76 #[.slice (s.map fun b => ⟨b, off, none⟩) n cap] w (ClnPS n xs w) := by
  cases s with
  | none =>
    obtain rfl := hnil rfl
    have hps : xs = [] := List.eq_nil_of_length_eq_zero hn
    subst hps
    have hnl : ∀ u : World, (binOp .eql 79 (.slice none 0 cap) (.slice none 0 0)).run Try.prog u = .ok (.bool true) u := fun u => Lib.run_eql_slice_nil u _ _ none 0 cap 0 0 Try.underlying79
    show Calls Try.prog 76 #[.slice none 0 cap] w _
    go_enter Try.func76, Try.ntmps76
    go_wp2
    go_ret
    exact ⟨none, 0, rfl, Sl.nil _ _ _, by simp, Ext.refl _⟩
  | some p =>
    have hempty : ∀ u : World, Sl (u.alloc (.cells #[] 9)) 9 1 (some u.heap.size) 0 0 [] := fun u => ⟨by simp, #[], blk_new u _, Nat.le_refl _, by simp [maxLen], rfl, rfl⟩
    have hnl : ∀ u : World, (binOp .eql 79 (.slice (some ⟨p, off, none⟩) n cap) (.slice none 0 0)).run Try.prog u = .ok (.bool false) u := fun u => Lib.run_eql_slice_nil u _ _ (some ⟨p, off, none⟩) n cap 0 0 Try.underlying79
    show Calls Try.prog 76 #[.slice (some ⟨p, off, none⟩) n cap] w _
    have HC := Lib.hid (hc p rfl); clear hc
    have H1 := Lib.hid h1; clear h1
    have HN := Lib.hid hn; clear hn
    clear hnil
    go_enter Try.func76, Try.ntmps76
    go_wp2_with (at_builtin; refine (fun (h : True → _) => h trivial) ?_)
    intro _
    by_cases hn0 : n = 0
    · subst hn0
      have hps : xs = [] := List.eq_nil_of_length_eq_zero HN.out
      subst hps
      refine app_none ei_string rfl (.tmp 5) (.tmp 6) rfl (g := w.heap.size) (n := 0) (cap := 0) (by rfl) (hempty w) (by rfl) (by omega) ?_
      intro g5 cap5 w5 hS5 hT5 hat5
      clear hnl hempty
      go_wp2
      go_ret
      refine ⟨g5, cap5, rfl, hS5, ?_, Touch.freshX ((Ext.refl w).alloc _) hT5 (fun k hk => by cases hk; exact Nat.le_refl _)⟩
      intro b hb
      subst hb
      rcases hat5 with h | h
      · cases h; exact Nat.le_refl _
      · cases h; simp
    · refine app_from ei_string rfl (.tmp 5) (.tmp 6) rfl (g := some w.heap.size) (n := 0) (cap := 0) (by rfl) (hempty w) (b := p) (off := off) (m := n) (c := cap) (news := xs) (by rfl) (by rw [HN.out, Nat.mul_one]) (fun j u hu => Ext.cell ((Ext.refl w).alloc _) (HC.out j u hu)) H1.out (by omega) (by omega) ?_
      intro g5 cap5 w5 hS5 hT5 hat5
      rw [Nat.zero_add] at hS5 ⊢
      clear hnl hempty
      go_wp2
      go_ret
      refine ⟨some g5, cap5, rfl, by simpa using hS5, ?_, Touch.freshX ((Ext.refl w).alloc _) hT5 (fun k hk => by cases hk; exact Nat.le_refl _)⟩
      intro b hb
      cases hb
      rcases hat5 with h | h
      · cases h; exact Nat.le_refl _
      · rw [h]; simp
def ClnPI (n : Nat) (xs : List Value) (w : World) (e : Ending) (w' : World) : Prop :=
  ∃ g cap', e = .returned (slv g n cap') ∧ Sl w' 2 1 g n cap' xs ∧ (∀ b, g = some b → w.heap.size ≤ b) ∧ Ext w w'
set_option maxRecDepth 100000 in
set_option maxHeartbeats 8000000 in
theorem ClnI (s : Option Nat) (off n cap : Nat) (xs : List Value) (w : World) (hn : xs.length = n) (hc : ∀ b, s = some b → ∀ j u, xs[j]? = some u → w.cell? ⟨b, off + j, none⟩ = some u) (hnil : s = none → n = 0) (h1 : ∀ u ∈ xs, u.oneCell' = true) (hsz : n ≤ 1000000000) :
    Calls Try.prog 77 #[.slice (s.map fun b => ⟨b, off, none⟩) n cap] w (ClnPI n xs w) := by
  cases s with
  | none =>
    obtain rfl := hnil rfl
    have hps : xs = [] := List.eq_nil_of_length_eq_zero hn
    subst hps
    have hnl : ∀ u : World, (binOp .eql 46 (.slice none 0 cap) (.slice none 0 0)).run Try.prog u = .ok (.bool true) u := fun u => Lib.run_eql_slice_nil u _ _ none 0 cap 0 0 Try.underlying46
    show Calls Try.prog 77 #[.slice none 0 cap] w _
    go_enter Try.func77, Try.ntmps77
    go_wp2
    go_ret
    exact ⟨none, 0, rfl, Sl.nil _ _ _, by simp, Ext.refl _⟩
  | some p =>
    have hempty : ∀ u : World, Sl (u.alloc (.cells #[] 2)) 2 1 (some u.heap.size) 0 0 [] := fun u => ⟨by simp, #[], blk_new u _, Nat.le_refl _, by simp [maxLen], rfl, rfl⟩
    have hnl : ∀ u : World, (binOp .eql 46 (.slice (some ⟨p, off, none⟩) n cap) (.slice none 0 0)).run Try.prog u = .ok (.bool false) u := fun u => Lib.run_eql_slice_nil u _ _ (some ⟨p, off, none⟩) n cap 0 0 Try.underlying46
    show Calls Try.prog 77 #[.slice (some ⟨p, off, none⟩) n cap] w _
    have HC := Lib.hid (hc p rfl); clear hc
    have H1 := Lib.hid h1; clear h1
    have HN := Lib.hid hn; clear hn
    clear hnil
    go_enter Try.func77, Try.ntmps77
    go_wp2_with (at_builtin; refine (fun (h : True → _) => h trivial) ?_)
    intro _
    by_cases hn0 : n = 0
    · subst hn0
      have hps : xs = [] := List.eq_nil_of_length_eq_zero HN.out
      subst hps
      refine app_none ei_int64 rfl (.tmp 5) (.tmp 6) rfl (g := w.heap.size) (n := 0) (cap := 0) (by rfl) (hempty w) (by rfl) (by omega) ?_
      intro g5 cap5 w5 hS5 hT5 hat5
      clear hnl hempty
      go_wp2
      go_ret
      refine ⟨g5, cap5, rfl, hS5, ?_, Touch.freshX ((Ext.refl w).alloc _) hT5 (fun k hk => by cases hk; exact Nat.le_refl _)⟩
      intro b hb
      subst hb
      rcases hat5 with h | h
      · cases h; exact Nat.le_refl _
      · cases h; simp
    · refine app_from ei_int64 rfl (.tmp 5) (.tmp 6) rfl (g := some w.heap.size) (n := 0) (cap := 0) (by rfl) (hempty w) (b := p) (off := off) (m := n) (c := cap) (news := xs) (by rfl) (by rw [HN.out, Nat.mul_one]) (fun j u hu => Ext.cell ((Ext.refl w).alloc _) (HC.out j u hu)) H1.out (by omega) (by omega) ?_
      intro g5 cap5 w5 hS5 hT5 hat5
      rw [Nat.zero_add] at hS5 ⊢
      clear hnl hempty
      go_wp2
      go_ret
      refine ⟨some g5, cap5, rfl, by simpa using hS5, ?_, Touch.freshX ((Ext.refl w).alloc _) hT5 (fun k hk => by cases hk; exact Nat.le_refl _)⟩
      intro b hb
      cases hb
      rcases hat5 with h | h
      · cases h; exact Nat.le_refl _
      · rw [h]; simp
def ClnPN (n : Nat) (xs : List Value) (w : World) (e : Ending) (w' : World) : Prop :=
  ∃ g cap', e = .returned (slv g n cap') ∧ Sl w' 78 1 g n cap' xs ∧ (∀ b, g = some b → w.heap.size ≤ b) ∧ Ext w w'
set_option maxRecDepth 100000 in
set_option maxHeartbeats 8000000 in
theorem ClnN (s : Option Nat) (off n cap : Nat) (xs : List Value) (w : World) (hn : xs.length = n) (hc : ∀ b, s = some b → ∀ j u, xs[j]? = some u → w.cell? ⟨b, off + j, none⟩ = some u) (hnil : s = none → n = 0) (h1 : ∀ u ∈ xs, u.oneCell' = true) (hsz : n ≤ 1000000000) :
    Calls Try.prog 78 #[.slice (s.map fun b => ⟨b, off, none⟩) n cap] w (ClnPN n xs w) := by
  cases s with
  | none =>
    obtain rfl := hnil rfl
    have hps : xs = [] := List.eq_nil_of_length_eq_zero hn
    subst hps
    have hnl : ∀ u : World, (binOp .eql 80 (.slice none 0 cap) (.slice none 0 0)).run Try.prog u = .ok (.bool true) u := fun u => Lib.run_eql_slice_nil u _ _ none 0 cap 0 0 Try.underlying80
    show Calls Try.prog 78 #[.slice none 0 cap] w _
    go_enter Try.func78, Try.ntmps78
    go_wp2
    go_ret
    exact ⟨none, 0, rfl, Sl.nil _ _ _, by simp, Ext.refl _⟩
  | some p =>
    have hempty : ∀ u : World, Sl (u.alloc (.cells #[] 78)) 78 1 (some u.heap.size) 0 0 [] := fun u => ⟨by simp, #[], blk_new u _, Nat.le_refl _, by simp [maxLen], rfl, rfl⟩
    have hnl : ∀ u : World, (binOp .eql 80 (.slice (some ⟨p, off, none⟩) n cap) (.slice none 0 0)).run Try.prog u = .ok (.bool false) u := fun u => Lib.run_eql_slice_nil u _ _ (some ⟨p, off, none⟩) n cap 0 0 Try.underlying80
    show Calls Try.prog 78 #[.slice (some ⟨p, off, none⟩) n cap] w _
    have HC := Lib.hid (hc p rfl); clear hc
    have H1 := Lib.hid h1; clear h1
    have HN := Lib.hid hn; clear hn
    clear hnil
    go_enter Try.func78, Try.ntmps78
    go_wp2_with (at_builtin; refine (fun (h : True → _) => h trivial) ?_)
    intro _
    by_cases hn0 : n = 0
    · subst hn0
      have hps : xs = [] := List.eq_nil_of_length_eq_zero HN.out
      subst hps
      refine app_none ei_node rfl (.tmp 5) (.tmp 6) rfl (g := w.heap.size) (n := 0) (cap := 0) (by rfl) (hempty w) (by rfl) (by omega) ?_
      intro g5 cap5 w5 hS5 hT5 hat5
      clear hnl hempty
      go_wp2
      go_ret
      refine ⟨g5, cap5, rfl, hS5, ?_, Touch.freshX ((Ext.refl w).alloc _) hT5 (fun k hk => by cases hk; exact Nat.le_refl _)⟩
      intro b hb
      subst hb
      rcases hat5 with h | h
      · cases h; exact Nat.le_refl _
      · cases h; simp
    · refine app_from ei_node rfl (.tmp 5) (.tmp 6) rfl (g := some w.heap.size) (n := 0) (cap := 0) (by rfl) (hempty w) (b := p) (off := off) (m := n) (c := cap) (news := xs) (by rfl) (by rw [HN.out, Nat.mul_one]) (fun j u hu => Ext.cell ((Ext.refl w).alloc _) (HC.out j u hu)) H1.out (by omega) (by omega) ?_
      intro g5 cap5 w5 hS5 hT5 hat5
      rw [Nat.zero_add] at hS5 ⊢
      clear hnl hempty
      go_wp2
      go_ret
      refine ⟨some g5, cap5, rfl, by simpa using hS5, ?_, Touch.freshX ((Ext.refl w).alloc _) hT5 (fun k hk => by cases hk; exact Nat.le_refl _)⟩
      intro b hb
      cases hb
      rcases hat5 with h | h
      · cases h; exact Nat.le_refl _
      · rw [h]; simp
end Go.Proofs.Ytkejjahlglldlaa
