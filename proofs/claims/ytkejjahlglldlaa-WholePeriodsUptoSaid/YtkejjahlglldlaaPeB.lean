/- slices.Grow at nothing, slices.Concat of one list of facts: walked. -/
import Derived.Test.YtkejjahlglldlaaPeA
import Derived.Test.YtkejjahlglldlaaShG
namespace Go.Proofs.Ytkejjahlglldlaa
open Go.RowKit

theorem group0_ok (fv : Value) (g1 : Option Nat) (c1 : Nat) (w : World) :
    Calls Try.prog 61 #[slv g1 0 c1, fv] w (fun e w' => e = .returned (.tuple #[]) ∧ w' = w) := by
  go_enter Try.func61, Try.ntmps61
  go_wp2
  go_loopg [4] 0 (fun k v4 wr => k = 0 ∧ v4 = .int .i64 0 ∧ wr = w)
  case atStart => exact ⟨rfl, rfl, rfl⟩
  case round =>
    obtain ⟨rfl, rfl, rfl⟩ := hrel
    go_wp2
    (try simp only [Exit.inBlock, Exit.then]); refine bodyPost_end (results_none rfl _ _ _) rfl ?_
    exact ⟨rfl, rfl⟩

theorem Grow_ok (n : Nat) (w : World) (hsz : n ≤ 2199023255552) :
    Calls Try.prog 141 #[.slice none 0 0, .int .i64 (n : Int)] w (fun e w' => ∃ g cap, e = .returned (slv g 0 cap) ∧ Sl w' 70 3 g 0 cap [] ∧ (∀ b, g = some b → w.heap.size ≤ b) ∧ Ext w w') := by
  rcases Nat.eq_zero_or_pos n with rfl | hn
  · refine (Any8.slices_Grow_room Try.growF none 0 0 0 w (by omega) (by omega) (by omega) (by omega)).mono ?_
    rintro e w' ⟨rfl, rfl⟩
    exact ⟨none, 0, rfl, Sl.nil _ _ _, by simp, Ext.refl _⟩
  · obtain ⟨i, h1, h2, h3, h4⟩ := info_parts (P := Try.prog) (e := 70) (z := .agg #[.slice none 0 0, .int .i64 0, .int .i64 0]) (size := 3) (bytes := 40) (by kernel_rfl)
    have hz : (Value.agg #[.slice none 0 0, .int .i64 0, .int .i64 0]).cells = #[.slice none 0 0, .int .i64 0, .int .i64 0] := rfl
    refine (Any8.slices_Grow_grow Try.growF i _ h1 h2 (by omega) none 0 0 n [] w (by omega) (by omega) (by rw [h4]; omega) (by omega) (by simp) (fun _ => rfl) (by simp)).mono ?_
    rintro e w' ⟨rfl, rfl⟩
    have hge := grownCap_ge w n 0 (Try.growF_ren.t 25)
    have hle : grownCap w n 0 (Try.growF_ren.t 25) ≤ maxLen := grownCap_le_maxLen w n 0 _ (by unfold maxLen; omega)
    simp only [Nat.zero_add]
    refine ⟨some w.heap.size, grownCap w n 0 (Try.growF_ren.t 25), rfl, ⟨rfl, _, blk_new w.drew _, Nat.zero_le _, hle, ?_, by simp⟩, fun b hb => by cases hb; exact Nat.le_refl _, ((Ext.refl w).drew).alloc _⟩
    simp [Builtin.zeroCells, hz]
    omega

/-- append of a slice whose cells are known, whatever its length. -/
theorem app_slice {P : Program} {w : World} {ops : Array Oper} {rest : List Oper} {o : Oper} {a : Act} {Q : Exit → Act → World → Prop} {t e : TypeId} {size bytes : Nat} (E : EI P t e size bytes) (hgd : o.guard = none) (s x : Operand)
    (ho : o.op = .call { callee := .builtin .append, args := #[s, x], argTypes := #[t, t] })
    {g : Option Nat} {n cap : Nat} {xs : List Value} (hs : a.eval s = slv g n cap) (hown : Sl w e size g n cap xs) {g1 : Option Nat} {m c : Nat} {ys : List Value} (hx : a.eval x = slv g1 m c) (hsrc : Sl w e size g1 m c ys) (h1 : ∀ u ∈ ys, u.oneCell' = true) (hb : (n + m) * bytes ≤ 140737488355328)
    (h : ∀ g' cap' w', Sl w' e size g' (n + m) cap' (xs ++ ys) → Touch (fun k => g = some k) w w' → (g' = g ∨ g' = some w.heap.size) → wpList P ops Q rest (a.put o.dst (slv g' (n + m) cap')) w') : wpList P ops Q (o :: rest) a w := by
  obtain ⟨i, z, hi, hz, h2, h3, h4⟩ := E.info
  have h63 : n + m ≤ maxLen := by
    have := Nat.le_mul_of_pos_right (n + m) E.bpos
    simp only [maxLen]
    omega
  cases g1 with
  | none =>
    obtain ⟨hl, rfl, rfl⟩ := hsrc
    have hys : ys = [] := List.eq_nil_of_length_eq_zero (by simpa using hl)
    subst hys
    refine wpList_append_own_none hgd s x t ho 0 e i size E.und hi (slv g n cap) n xs hs hown.owns hx ?_
    simpa using h g cap w (by simpa using hown) (Touch.refl _ w) (.inl rfl)
  | some b =>
    refine wpList_append_own_at w hgd s x t ho 0 e i z size bytes E.und hi hz h2 h3 h4 E.pos (slv g n cap) n xs hs hown.owns ⟨b, 0, none⟩ m c ys hx hsrc.len ?_ h1 h63 hb (Nat.zero_le _) ?_
    · intro j u hu
      have := hsrc.cell hu
      unfold Addr.add
      split
      · rename_i hj; subst hj; exact this
      · simpa using this
    · intro v' w' hown' hgr hnil hat
      have hgr' : Touch (fun k => g = some k) w w' := by
        rw [ownBlock_slv] at hgr
        exact ⟨hgr.os, hgr.tape, hgr.output, hgr.size, fun k hk hn => hgr.block k hk fun e => hn e.symm⟩
      rcases hown'.2 with ⟨rfl, h0⟩ | ⟨g', cap', cur, rfl, _, hgg, h5, h6, h7, h8⟩
      · have hm := (hnil.1 rfl)
        have hg : g = none := by cases g with
          | none => rfl
          | some b => simp [slv, adr] at hm
        subst hg
        have hn0 : n + m = 0 := h0
        have hl : xs ++ ys = [] := List.eq_nil_of_length_eq_zero (by rw [hown'.1, hn0, Nat.zero_mul])
        have := h none 0 w' ⟨by rw [hl, hn0]; simp, hn0, rfl⟩ hgr' (.inl rfl)
        rw [hn0] at this
        exact this
      · refine h (some g') cap' w' (Sl.of_owns hown') hgr' ?_
        rw [ownBlock_slv] at hat
        exact hat

/-- What slices.Concat of one list of facts gives. -/
def ConPost (n : Nat) (ps : List Per) (w : World) (e : Ending) (w' : World) : Prop := ∃ g cap, e = .returned (slv g n cap) ∧ FSl w' g n cap ps ∧ (∀ b, g = some b → w.heap.size ≤ b) ∧ Ext w w'
theorem FSl.over {w w' : World} {fs : List Fct} {g' : Nat} {n cap' : Nat} (hr : ∀ f ∈ fs, RowOk w f.1) (hs : Sl w' 70 3 (some g') n cap' (flatF fs)) (he : Ext w w') : FSl w' (some g') n cap' (fs.map (·.2)) := ⟨fs, hs, rfl, fun f hf => (hr f hf).ext he⟩
theorem flatF_one : ∀ {fs : List Fct} {w : World}, (∀ f ∈ fs, RowOk w f.1) → ∀ u ∈ flatF fs, u.oneCell' = true
  | [], _, _, u, hu => by simp [flatF] at hu
  | f :: fs, w, h, u, hu => by
    simp only [flatF, List.mem_cons] at hu
    rcases hu with rfl | rfl | rfl | hu
    · obtain ⟨b, c, e, _⟩ := (h f (List.mem_cons_self ..)).out
      rw [e]; rfl
    · rfl
    · rfl
    · exact flatF_one (fun f hf => h f (List.mem_cons_of_mem _ hf)) u hu
set_option maxRecDepth 100000 in
set_option maxHeartbeats 8000000 in
theorem Concat_ok (lb cp : Nat) (g1 : Option Nat) (n c1 : Nat) (ps : List Per) (w : World) (hc : w.cell? ⟨lb, 0, none⟩ = some (slv g1 n c1)) (h1 : FSl w g1 n c1 ps) (hsz : n ≤ 2199023255552) :
    Calls Try.prog 101 #[.slice (some ⟨lb, 0, none⟩) 1 cp] w (ConPost n ps w) := by
  have H1 := Lib.hid h1; clear h1
  have HC := Lib.hid hc; clear hc
  go_enter Try.func101, Try.ntmps101
  go_wp2
  go_loopg [3, 11] 1 (fun k v3 v11 wr => w = wr ∧ ((k = 1 ∧ v11 = .int .i64 0 ∧ v3 = .int .i64 0) ∨ (k = 0 ∧ v11 = .int .i64 1 ∧ v3 = .int .i64 (n : Int))))
  case atStart => exact ⟨rfl, .inl ⟨rfl, rfl, rfl⟩⟩
  case round =>
    obtain ⟨rfl, ⟨rfl, rfl, rfl⟩ | ⟨rfl, rfl, rfl⟩⟩ := hrel
    · have c0 := HC.out
      go_wp2
      go_roundg 0
      case measure => omega
      case rel => exact ⟨rfl, .inr ⟨rfl, rfl, by go_num⟩⟩
    · go_wp2_with fail
      refine (Grow_ok n _ hsz).mono ?_
      rintro e w2 ⟨g2, cap2, rfl, hS2, hg2, hE2⟩
      have HS2 := Lib.hid hS2
      have HG2 := Lib.hid hg2
      have HE2 := Lib.hid hE2
      have HC2 : Hid (w2.cell? ⟨lb, 0, none⟩ = some (slv g1 n c1)) := Ext.cell hE2 HC.out
      clear hS2 hg2 hE2
      go_wp2
      go_loopg [6, 27] 1 (fun k v6 v27 wr2 => (k = 1 ∧ v27 = .int .i64 0 ∧ v6 = slv g2 0 cap2 ∧ w2 = wr2) ∨ (k = 0 ∧ v27 = .int .i64 1 ∧ ∃ g cap, v6 = slv g n cap ∧ FSl wr2 g n cap ps ∧ (∀ b, g = some b → w.heap.size ≤ b) ∧ Ext w wr2))
      case atStart => exact .inl ⟨rfl, rfl, rfl, rfl⟩
      case round =>
        rcases hrel with ⟨rfl, rfl, rfl, rfl⟩ | ⟨rfl, rfl, g, cap, rfl, hF, hg, hE⟩
        · have c0 := HC2.out
          obtain ⟨fs, hs, hps, hr⟩ := H1.out.ext HE2.out
          have HS := Lib.hid hs
          have HPS := Lib.hid hps
          have HR := Lib.hid hr
          clear hs hps hr
          go_wp2_with (at_builtin; refine (fun (h : True → _) => h trivial) ?_)
          intro _
          refine app_slice ei_fact rfl (.tmp 31) (.tmp 32) rfl (g := g2) (n := 0) (cap := cap2) (xs := []) (by rfl) HS2.out (by rfl) HS.out (flatF_one HR.out) (by omega) ?_
          intro g5 cap5 w5 hS5 hT5 hat5
          rw [Nat.zero_add] at hS5 ⊢
          rw [List.nil_append] at hS5
          have hE5 : Ext w w5 := Touch.freshX HE2.out hT5 (fun k hk => HG2.out k hk)
          have HF5 : Hid (FSl w5 g5 n cap5 ps) := by
            refine ⟨fs, hS5, HPS.out, fun f hf => ?_⟩
            exact (HR.out f hf).touch hT5 (fun k hk => by
              subst hk
              obtain ⟨_, cur, hb, _⟩ := HS2.out
              exact ⟨cur, _, _, hb, by decide⟩)
          have HG5 : Hid (∀ b, g5 = some b → w.heap.size ≤ b) := by
            intro k hk
            rcases hat5 with h | h
            · exact HG2.out k (h ▸ hk)
            · rw [h] at hk; cases hk; exact HE2.out.size
          have HE5 := Lib.hid hE5
          clear hS5 hT5 hat5 hE5 c0
          go_wp2
          go_roundg 0
          case measure => omega
          case rel => exact .inr ⟨rfl, rfl, g5, cap5, rfl, HF5.out, HG5.out, HE5.out⟩
        · have HF := Lib.hid hF
          have HG := Lib.hid hg
          have HE := Lib.hid hE
          clear hF hg hE
          go_wp2
          go_ret
          exact ⟨g, cap, rfl, HF.out, HG.out, HE.out⟩
end Go.Proofs.Ytkejjahlglldlaa
