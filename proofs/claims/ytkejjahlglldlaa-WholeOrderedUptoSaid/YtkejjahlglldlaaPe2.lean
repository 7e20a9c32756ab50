/- Facts of one row; annalstop.one; the copy of a slice of periods: walked. -/
import Derived.Test.YtkejjahlglldlaaPe1
import Derived.Laws.IdiomCopy
namespace Go.Proofs.Ytkejjahlglldlaa
open Go.RowKit

/-- The one row: a slice of one value, in memory of its own kind. -/
def RowOk (w : World) (v : Value) : Prop := ∃ (b cap : Nat) (cur : Array Value) (f : Nat × Nat), v = .slice (some ⟨b, 0, none⟩) 1 cap ∧ w.heap[b]? = some (.cells cur 93 f) ∧ Vals w (some ⟨b, 0, none⟩) [(1, 1, [])]
theorem RowOk.keep {w w' : World} {v : Value} (h : RowOk w v) (hk : ∀ (b : Nat) (cur : Array Value) (f : Nat × Nat), w.heap[b]? = some (.cells cur 93 f) → w'.heap[b]? = w.heap[b]?) : RowOk w' v := by
  obtain ⟨b, cap, cur, f, rfl, hb, hv⟩ := h
  have he := hk b cur f hb
  refine ⟨b, cap, cur, f, rfl, he.trans hb, fun hp => ?_⟩
  obtain ⟨lb, off, h1, h2⟩ := hv hp
  cases h1
  refine ⟨b, 0, rfl, fun i v hi => ?_⟩
  obtain ⟨c0, c1, c2⟩ := h2 i v hi
  exact ⟨(World.cell?_of_block (w := w) he).trans c0, (World.cell?_of_block (w := w) he).trans c1, (World.cell?_of_block (w := w) he).trans c2⟩
theorem RowOk.ext {w w' : World} {v : Value} (h : RowOk w v) (he : Ext w w') : RowOk w' v := h.keep fun b cur f hb => (Ext.block he hb).trans hb.symm
/-- .. behind a call that touched blocks of other kinds alone. -/
theorem RowOk.touch {S : Nat → Prop} {w w' : World} {v : Value} (h : RowOk w v) (ht : Touch S w w') (hn : ∀ k, S k → ∃ (cur : Array Value) (t : TypeId) (f : Nat × Nat), w.heap[k]? = some (.cells cur t f) ∧ t ≠ 93) : RowOk w' v :=
  h.keep fun b cur f hb => ht.block b (blk_lt hb) fun hs => by
    obtain ⟨cur', t, f', h1, h2⟩ := hn b hs
    rw [hb] at h1
    cases h1
    exact h2 rfl

abbrev Fct := Value × Per
def flatF : List Fct → List Value
  | [] => []
  | f :: r => f.1 :: .int .i64 f.2.1 :: .int .i64 f.2.2 :: flatF r
theorem flatF_append : ∀ a b : List Fct, flatF (a ++ b) = flatF a ++ flatF b
  | [], _ => rfl
  | q :: a, b => by simp [flatF, flatF_append a b]
theorem flatF_len : ∀ a : List Fct, (flatF a).length = a.length * 3
  | [] => rfl
  | q :: a => by simp [flatF, flatF_len a]; omega
theorem flatF_get : ∀ (fs : List Fct) (i : Nat) (f : Fct), fs[i]? = some f → (flatF fs)[i * 3]? = some f.1 ∧ (flatF fs)[i * 3 + 1]? = some (.int .i64 f.2.1) ∧ (flatF fs)[i * 3 + 2]? = some (.int .i64 f.2.2)
  | [], i, f, h => by simp at h
  | p :: fs, 0, f, h => by simp at h; subst h; simp [flatF]
  | p :: fs, i + 1, f, h => by
    have := flatF_get fs i f (by simpa using h)
    rw [show (i + 1) * 3 = i * 3 + 3 from by omega]
    simpa [flatF] using this
/-- Facts of the one row that a call owns: these periods. -/
def FSl (w : World) (g : Option Nat) (n cap : Nat) (ps : List Per) : Prop := ∃ fs : List Fct, Sl w 70 3 g n cap (flatF fs) ∧ fs.map (·.2) = ps ∧ ∀ f ∈ fs, RowOk w f.1
theorem FSl.ext {w w' : World} {g : Option Nat} {n cap : Nat} {ps : List Per} (h : FSl w g n cap ps) (he : Ext w w') : FSl w' g n cap ps := by
  obtain ⟨fs, h1, h2, h3⟩ := h
  exact ⟨fs, h1.ext he, h2, fun f hf => (h3 f hf).ext he⟩
theorem FSl.nil (w : World) : FSl w none 0 0 [] := ⟨[], Sl.nil _ _ _, rfl, by simp⟩
theorem FSl.count {w : World} {g : Option Nat} {n cap : Nat} {ps : List Per} (h : FSl w g n cap ps) : ps.length = n := by
  obtain ⟨fs, h1, h2, h3⟩ := h
  have hl := h1.len
  rw [flatF_len] at hl
  rw [← h2, List.length_map]
  omega
theorem FSl.touch {S : Nat → Prop} {w w' : World} {g : Option Nat} {n cap : Nat} {ps : List Per} (h : FSl w g n cap ps) (ht : Touch S w w') (hg : ∀ b, g = some b → ¬ S b) (hn : ∀ k, S k → ∃ (cur : Array Value) (t : TypeId) (f : Nat × Nat), w.heap[k]? = some (.cells cur t f) ∧ t ≠ 93) : FSl w' g n cap ps := by
  obtain ⟨fs, h1, h2, h3⟩ := h
  exact ⟨fs, h1.touch ht hg, h2, fun f hf => (h3 f hf).touch ht hn⟩
/-- A fact more behind an append. -/
theorem FSl.snoc {w w' : World} {g : Option Nat} {n cap g' cap' : Nat} {fs : List Fct} {ps : List Per} {v : Value} {q : Per} (h : Sl w 70 3 g n cap (flatF fs)) (hps : fs.map (·.2) = ps) (hr : ∀ f ∈ fs, RowOk w f.1) (hv : RowOk w v)
    (hs : Sl w' 70 3 (some g') (n + 1) cap' (flatF fs ++ [v, .int .i64 q.1, .int .i64 q.2])) (ht : Touch (fun k => g = some k) w w') : FSl w' (some g') (n + 1) cap' (ps ++ [q]) := by
  have hn : ∀ k, g = some k → ∃ (cur : Array Value) (t : TypeId) (f : Nat × Nat), w.heap[k]? = some (.cells cur t f) ∧ t ≠ 93 := by
    rintro k rfl
    obtain ⟨_, cur, hb, _⟩ := h
    exact ⟨cur, _, _, hb, by decide⟩
  refine ⟨fs ++ [(v, q)], ?_, by simp [hps], fun f hf => ?_⟩
  · rw [flatF_append]; exact hs
  · rcases List.mem_append.1 hf with hf | hf
    · exact (hr f hf).touch ht hn
    · rw [List.mem_singleton.1 hf]; exact hv.touch ht hn

theorem size_new (w : World) (o : Obj) : (w.alloc o).heap.size = w.heap.size + 1 := by simp
theorem blk_new_at {w : World} {n : Nat} (o : Obj) (h : w.heap.size = n) : (w.alloc o).heap[n]? = some o := by subst h; exact blk_new w o
theorem Touch.freshX {S : Nat → Prop} {a b c : World} (h : Ext a b) (k : Touch S b c) (hs : ∀ i, S i → a.heap.size ≤ i) : Ext a c :=
  Ext.trans' h (k.below h.size hs)
theorem row_new (w : World) : RowOk (w.alloc (.cells #[.int .i64 1, .int .i64 1, str []] 93)) (.slice (some ⟨w.heap.size, 0, none⟩) 1 1) := by
  have hb := blk_new w (.cells #[.int .i64 1, .int .i64 1, str []] 93)
  refine ⟨w.heap.size, 1, _, _, rfl, hb, vals_block (vs := [(1, 1, [])]) hb⟩
def OneInv (w : World) (ps : List Per) (n k : Nat) (v3 v8 : Value) (wr : World) : Prop :=
  ∃ (i : Nat) (g : Option Nat) (cap : Nat), i + k = n ∧ v8 = .int .i64 (i : Int) ∧ v3 = slv g i cap ∧ FSl wr g i cap (ps.take i) ∧ (∀ b, g = some b → w.heap.size ≤ b) ∧ Ext w wr
set_option maxRecDepth 100000 in
set_option maxHeartbeats 8000000 in
theorem one_ok (sv : Option Addr) (n cap : Nat) (ps : List Per) (w : World) (hn : ps.length = n) (hp : Pers w sv ps) (hsz : n ≤ 2199023255552) :
    Calls Try.prog 25 #[.slice sv n cap] w (fun e w' => ∃ g cap', e = .returned (slv g n cap') ∧ FSl w' g n cap' ps ∧ (∀ b, g = some b → w.heap.size ≤ b) ∧ Ext w w') := by
  have HN := Lib.hid hn; clear hn
  have HP := Lib.hid hp; clear hp
  go_enter Try.func25, Try.ntmps25
  go_wp2
  go_loopg [3, 8] n (fun k v3 v8 wr => OneInv w ps n k v3 v8 wr)
  case atStart => exact ⟨0, none, 0, by omega, rfl, rfl, by simpa using FSl.nil w, by simp, Ext.refl _⟩
  case round =>
    obtain ⟨i, g, cap', hik, rfl, rfl, hF, hg, hE⟩ := hrel
    have HIK := Lib.hid hik; clear hik
    have HF := Lib.hid hF; clear hF
    have HG := Lib.hid hg; clear hg
    have HE := Lib.hid hE; clear hE
    by_cases hlt : i < n
    · obtain ⟨lb, off, hsv, hcell⟩ := (HP.out.ext HE.out) (by have := HN.out; omega)
      subst hsv
      obtain ⟨⟨a, b⟩, hq⟩ : ∃ q, ps[i]? = some q := ⟨ps[i]'(by rw [HN.out]; exact hlt), by rw [List.getElem?_eq_getElem]⟩
      obtain ⟨c0, c1⟩ := hcell i _ hq
      simp only at c0 c1
      have hlb : lb < wr.heap.size := World.block_lt_of_cell? wr _ c0
      have HQ : Hid (ps.take (i + 1) = ps.take i ++ [(a, b)]) := by show _ = _; rw [List.take_add_one, hq]; rfl
      clear hcell hq
      obtain ⟨fs, hs, hps, hr⟩ := HF.out
      have HS := Lib.hid hs
      have HPS := Lib.hid hps
      have HR := Lib.hid hr
      clear hs hps hr
      go_wp2_with (at_builtin; refine (fun (h : True → _) => h trivial) ?_)
      intro _
      have hE3 := (((Ext.refl wr).alloc (.cells #[.int .i64 a, .int .i64 b] 45)).alloc (.cells #[.int .i64 1, .int .i64 1, str []] 93)).alloc (.cells #[.slice (some ⟨wr.heap.size + 1, 0, none⟩) 1 1, .int .i64 a, .int .i64 b] 70)
      have hrow := (row_new (wr.alloc (.cells #[.int .i64 a, .int .i64 b] 45))).ext ((Ext.refl _).alloc (.cells #[.slice (some ⟨wr.heap.size + 1, 0, none⟩) 1 1, .int .i64 a, .int .i64 b] 70))
      rw [size_new] at hrow
      have HE3 := Lib.hid hE3
      have HROW := Lib.hid hrow
      clear hE3 hrow
      refine app_lit ei_fact rfl (.tmp 12) (.tmp 17) rfl (g := g) (n := i) (cap := cap') (b := wr.heap.size + 1 + 1) (by rfl) (HS.out.ext HE3.out) (by rfl) rfl (blk_new_at _ (by simp)) (by simp [Value.oneCell']) (by omega) (by omega) ?_
      intro g5 cap5 w5 hS5 hT5 hat5
      have HF5 : Hid (FSl w5 (some g5) (i + 1) cap5 (ps.take (i + 1))) := by
        show FSl _ _ _ _ _
        rw [HQ.out]
        exact FSl.snoc (HS.out.ext HE3.out) HPS.out (fun f hf => (HR.out f hf).ext HE3.out) HROW.out hS5 hT5
      have HG5 : Hid (∀ b, some g5 = some b → w.heap.size ≤ b) := by
        intro k hk
        cases hk
        rcases hat5 with h | h
        · exact HG.out _ h
        · have := HE.out.size; simp at h; omega
      have HE5 : Hid (Ext w w5) := Touch.freshX (HE.out.trans HE3.out) hT5 (fun k hk => HG.out k hk)
      clear hS5 hT5 hat5
      go_wp2
      go_roundg (gk - 1)
      case measure => have := HIK.out; omega
      case rel => exact ⟨i + 1, some g5, cap5, by have := HIK.out; omega, by go_num, rfl, HF5.out, HG5.out, HE5.out⟩
    · go_wp2
      go_ret
      have hin : i = n := by have := HIK.out; omega
      subst hin
      have hF := HF.out
      rw [List.take_of_length_le (by rw [HN.out]; omega)] at hF
      exact ⟨g, cap', rfl, hF, HG.out, HE.out⟩
end Go.Proofs.Ytkejjahlglldlaa
