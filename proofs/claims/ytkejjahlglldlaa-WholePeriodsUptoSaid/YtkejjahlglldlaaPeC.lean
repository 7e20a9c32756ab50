/- bag.layers: walked. -/
import Derived.Test.YtkejjahlglldlaaPeB
import Derived.Test.YtkejjahlglldlaaPeM
namespace Go.Proofs.Ytkejjahlglldlaa
open Go.RowKit

def flatS : List Stp → List Value
  | [] => []
  | s :: r => .int .i64 s.1.1 :: .int .i64 s.1.2 :: .int .i64 s.2 :: flatS r
theorem flatS_append : ∀ a b : List Stp, flatS (a ++ b) = flatS a ++ flatS b
  | [], _ => rfl
  | q :: a, b => by simp [flatS, flatS_append a b]
theorem flatS_len : ∀ a : List Stp, (flatS a).length = a.length * 3
  | [] => rfl
  | q :: a => by simp [flatS, flatS_len a]; omega
theorem flatS_get : ∀ (ps : List Stp) (i : Nat) (q : Stp), ps[i]? = some q → (flatS ps)[i * 3]? = some (.int .i64 q.1.1) ∧ (flatS ps)[i * 3 + 1]? = some (.int .i64 q.1.2) ∧ (flatS ps)[i * 3 + 2]? = some (.int .i64 q.2)
  | [], i, q, h => by simp at h
  | p :: ps, 0, q, h => by simp at h; subst h; simp [flatS]
  | p :: ps, i + 1, q, h => by
    have := flatS_get ps i q (by simpa using h)
    rw [show (i + 1) * 3 = i * 3 + 3 from by omega]
    simpa [flatS] using this
theorem ei_step : EI Try.prog 146 177 3 24 :=
  ⟨Try.underlying146, by
    obtain ⟨i, h1, h2, h3, h4⟩ := info_parts (P := Try.prog) (e := 177) (z := .agg #[.int .i64 0, .int .i64 0, .int .i64 0]) (size := 3) (bytes := 24) (by kernel_rfl)
    exact ⟨i, _, h1, h2, h3, h4, rfl⟩, by omega, by omega⟩
/-- Steps that a call owns. -/
abbrev SSl (w : World) (g : Option Nat) (n cap : Nat) (st : List Stp) : Prop := Sl w 177 3 g n cap (flatS st)
theorem SSl.count {w : World} {g : Option Nat} {n cap : Nat} {ps : List Stp} (h : SSl w g n cap ps) : ps.length = n := by
  have hl := h.len
  rw [flatS_len] at hl
  omega
theorem SSl.at' {w : World} {g : Option Nat} {n cap : Nat} {st : List Stp} (h : SSl w g n cap st) {i : Nat} (hi : i < n) : ∃ (b : Nat) (x y m : Int), g = some b ∧ b < w.heap.size ∧ st[i]? = some ((x, y), m) ∧ w.cell? ⟨b, i * 3, none⟩ = some (.int .i64 x) ∧ w.cell? ⟨b, i * 3 + 1, none⟩ = some (.int .i64 y) ∧ w.cell? ⟨b, i * 3 + 2, none⟩ = some (.int .i64 m) := by
  have hl := h.count
  obtain ⟨b, rfl⟩ := h.some_of_pos (by omega)
  obtain ⟨⟨⟨x, y⟩, m⟩, hf⟩ : ∃ f, st[i]? = some f := ⟨st[i]'(by omega), List.getElem?_eq_getElem _⟩
  obtain ⟨k0, k1, k2⟩ := flatS_get st i _ hf
  exact ⟨b, x, y, m, rfl, h.block_lt, hf, h.cell k0, h.cell k1, h.cell k2⟩
theorem PSl.at' {w : World} {g : Option Nat} {n cap : Nat} {ps : List Per} (h : PSl w g n cap ps) {i : Nat} (hi : i < n) : ∃ (b : Nat) (x y : Int), g = some b ∧ b < w.heap.size ∧ ps[i]? = some (x, y) ∧ w.cell? ⟨b, i * 2, none⟩ = some (.int .i64 x) ∧ w.cell? ⟨b, i * 2 + 1, none⟩ = some (.int .i64 y) := by
  have hl := h.count
  obtain ⟨b, rfl⟩ := h.some_of_pos (by omega)
  obtain ⟨⟨x, y⟩, hf⟩ : ∃ f, ps[i]? = some f := ⟨ps[i]'(by omega), List.getElem?_eq_getElem _⟩
  obtain ⟨k0, k1⟩ := flatQ_get ps i _ hf
  exact ⟨b, x, y, rfl, h.block_lt, hf, h.cell k0, h.cell k1⟩
theorem PSl.nilOf {w : World} {g : Option Nat} {n cap : Nat} {ps : List Per} (h : PSl w g n cap ps) : adr g = none → n = 0 := by
  intro hg
  cases g with
  | none => obtain ⟨_, h1, _⟩ := h; exact h1
  | some b => simp [adr] at hg

theorem here_take {st : List Stp} {i : Nat} {x y m : Int} (h : st[i]? = some ((x, y), m)) (k : Nat) : hereL (st.take (i + 1)) k = if (k : Int) ≤ m then hereL (st.take i) k ++ [(x, y)] else hereL (st.take i) k := by
  unfold hereL
  rw [List.take_add_one, h, List.filter_append, List.map_append]
  split
  · rename_i hk; simp [hk]
  · rename_i hk; simp [hk]

/-- What layers gives. -/
def LayPost (st : List Stp) (M : Nat) (w : World) (e : Ending) (w' : World) : Prop :=
  ∃ g m cap out, e = .returned (slv g m cap) ∧ FSl w' g m cap out ∧ LayF st 1 out ∧ m ≤ M ∧ (∀ b, g = some b → w.heap.size ≤ b) ∧ Ext w w'
def LayInv (W : World) (st : List Stp) (n K gk : Nat) (v5 v6 : Value) (wr : World) : Prop :=
  ∃ (k m : Nat) (g : Option Nat) (cap : Nat) (out : List Per), k + gk = K + 1 ∧ 1 ≤ k ∧ v6 = .int .i64 (k : Int) ∧ v5 = slv g m cap ∧ FSl wr g m cap out ∧ m ≤ (k - 1) * n ∧ (∀ rest, LayF st k rest → LayF st 1 (out ++ rest)) ∧ (∀ b, g = some b → W.heap.size ≤ b) ∧ Ext W wr
def HereInv (W : World) (st : List Stp) (n k gk : Nat) (v7 v16 : Value) (wr : World) : Prop :=
  ∃ (i m : Nat) (g : Option Nat) (cap : Nat), i + gk = n ∧ v16 = .int .i64 (i : Int) ∧ v7 = slv g m cap ∧ PSl wr g m cap (hereL (st.take i) k) ∧ m ≤ i ∧ (∀ b, g = some b → W.heap.size ≤ b) ∧ Ext W wr
def PutInv (W : World) (out u : List Per) (g3 : Option Nat) (cap3 m n gk : Nat) (v5 v37 : Value) (wr : World) : Prop :=
  ∃ (i : Nat) (g : Option Nat) (cap : Nat), i + gk = n ∧ v37 = .int .i64 (i : Int) ∧ v5 = slv g (m + i) cap ∧ FSl wr g (m + i) cap (out ++ u.take i) ∧ (∀ b, g = some b → W.heap.size ≤ b) ∧ Ext W wr ∧ PSl wr g3 n cap3 u ∧ (∀ b, g = some b → ¬ g3 = some b)
theorem FSl.block_lt {w : World} {b n cap : Nat} {ps : List Per} (h : FSl w (some b) n cap ps) : b < w.heap.size := by
  obtain ⟨fs, h1, _⟩ := h
  exact h1.block_lt
theorem FSl.ownT {w : World} {g : Option Nat} {n cap : Nat} {ps : List Per} (h : FSl w g n cap ps) : ∀ k, g = some k → ∃ (cur : Array Value) (t : TypeId) (f : Nat × Nat), w.heap[k]? = some (.cells cur t f) ∧ t ≠ 93 := by
  rintro k rfl
  obtain ⟨fs, ⟨_, cur, hb, _⟩, _⟩ := h
  exact ⟨cur, _, _, hb, by decide⟩
theorem copy_cell {w : World} {o : Obj} {v : Value} {t : TypeId} {n : Nat} (h : (w.alloc o).heap.size = n) : (((w.alloc o).alloc (.cells #[v] t)).drew).cell? ⟨n, 0, none⟩ = some v := blk_cell (by rw [blk_drew]; exact blk_new_at _ h) rfl
/-- A fact more, its row copied just before. -/
theorem FSl.put {W w w5 w6 : World} {g : Option Nat} {n cap g' cap' : Nat} {ps : List Per} {v : Value} {q : Per} {fs : List Fct} (hs : Sl w 70 3 g n cap (flatF fs)) (hps : fs.map (·.2) = ps) (hr : ∀ f ∈ fs, RowOk w f.1) (he : Ext w w5) (hv : RowOk w5 v)
    (hs6 : Sl w6 70 3 (some g') (n + 1) cap' (flatF fs ++ [v, .int .i64 q.1, .int .i64 q.2])) (ht : Touch (fun k => g = some k) w5 w6) (hat : g = some g' ∨ g' = w5.heap.size) (hW : Ext W w) (hg : ∀ b, g = some b → W.heap.size ≤ b) :
    FSl w6 (some g') (n + 1) cap' (ps ++ [q]) ∧ (∀ b, some g' = some b → W.heap.size ≤ b) ∧ Ext W w6 := by
  refine ⟨FSl.snoc (hs.ext he) hps (fun f hf => (hr f hf).ext he) hv hs6 ht, fun b hb => ?_, Touch.freshX (hW.trans he) ht fun k hk => hg k hk⟩
  cases hb
  rcases hat with h | h
  · exact hg _ h
  · have := (hW.trans he).size; omega
set_option maxRecDepth 100000 in
set_option maxHeartbeats 16000000 in
theorem layers_ok (r : Value) (g : Option Nat) (n cap : Nat) (st : List Stp) (K : Nat) (w : World) (hr : RowOk w r) (hS : SSl w g n cap st) (hK : ∀ s ∈ st, s.2 ≤ (K : Int)) (hKs : K ≤ 2199023255552) (hn : n ≤ 2199023255552) (hsz : K * n ≤ 2199023255552) :
    Calls Try.prog 71 #[r, slv g n cap] w (LayPost st (K * n) w) := by
  obtain ⟨rb, rc, rfl, _⟩ := hr.out
  have HR := Lib.hid hr; clear hr
  have HS := Lib.hid hS; clear hS
  have HK := Lib.hid hK; clear hK
  have HSZ := Lib.hid hsz; clear hsz
  go_enter Try.func71, Try.ntmps71
  go_wp2
  go_loopg [5, 6] K (fun k v5 v6 wr => LayInv w st n K k v5 v6 wr)
  case atStart => exact ⟨1, 0, none, 0, [], by omega, by omega, rfl, rfl, FSl.nil _, by simp, by simp, by simp, Ext.refl _⟩
  case round =>
    rename World => wr0
    rename Nat => gk0
    obtain ⟨k, m, g1, cap1, out, hkk, hk1, rfl, rfl, hF, hm, hL, hg, hE⟩ := hrel
    have HKK := Lib.hid hkk; clear hkk
    have HF := Lib.hid hF; clear hF
    have HM := Lib.hid hm; clear hm
    have HL := Lib.hid hL; clear hL
    have HG := Lib.hid hg; clear hg
    have HE := Lib.hid hE; clear hE
    go_wp2
    go_loopg [7, 16] n (fun gk v7 v16 wr2 => HereInv wr0 st n k gk v7 v16 wr2)
    case atStart => exact ⟨0, 0, none, 0, by omega, rfl, rfl, Sl.nil _ _ _, by omega, by simp, Ext.refl _⟩
    case round =>
      obtain ⟨i, hm2, g2, cap2, hik, rfl, rfl, hP, hmi, hg2, hX⟩ := hrel
      have HIK := Lib.hid hik; clear hik
      have HP := Lib.hid hP; clear hP
      have HG2 := Lib.hid hg2; clear hg2
      have HX := Lib.hid hX; clear hX
      have HE2 := Lib.hid (HE.out.trans HX.out)
      by_cases hlt : i < n
      · obtain ⟨b, x, y, q, e1, l1, p1, c0, c1, c2⟩ := SSl.at' (HS.out.ext HE2.out) hlt
        have z1 := fun u => run_index_slv ei_step (cap := cap) e1 hlt u
        have HH := Lib.hid (here_take p1 k)
        clear p1 e1
        by_cases hq : (k : Int) ≤ q
        · have HH2 := Lib.hid (HH.out.trans (if_pos hq))
          clear HH
          go_wp2_with (at_builtin; refine (fun (h : True → _) => h trivial) ?_)
          intro _
          refine app_lit ei_per rfl (.tmp 24) (.tmp 27) rfl (g := g2) (n := hm2) (cap := cap2) (b := wr.heap.size + 1) (by rfl) (HP.out.ext (((Ext.refl _).alloc _).alloc _)) (by rfl) rfl (blk_new_at _ (by simp)) (by simp [Value.oneCell']) (by omega) (by omega) ?_
          intro g5 cap5 w5 hS5 hT5 hat5
          have hP5 : PSl w5 (some g5) (hm2 + 1) cap5 (hereL (st.take (i + 1)) k) := by
            show Sl _ _ _ _ _ _ _
            rw [HH2.out, flatQ_append]
            exact hS5
          have HP5 := Lib.hid hP5
          have HG5 : Hid (∀ b, some g5 = some b → wr0.heap.size ≤ b) := by
            intro j hj
            cases hj
            rcases hat5 with h | h
            · exact HG2.out _ h
            · have := HX.out.size; simp at h; omega
          have HX5 : Hid (Ext wr0 w5) := Touch.freshX ((HX.out.alloc _).alloc _) hT5 (fun j hj => HG2.out j hj)
          clear hS5 hT5 hat5 hP5
          go_wp2
          go_roundg (gk - 1)
          case measure => have := HIK.out; omega
          case rel => exact ⟨i + 1, hm2 + 1, some g5, cap5, by have := HIK.out; omega, by go_num, rfl, HP5.out, by omega, HG5.out, HX5.out⟩
        · have HH2 := Lib.hid (HH.out.trans (if_neg hq))
          clear HH
          go_wp2
          go_roundg (gk - 1)
          case measure => have := HIK.out; omega
          case rel => exact ⟨i + 1, hm2, g2, cap2, by have := HIK.out; omega, by go_num, rfl, by rw [HH2.out]; exact HP.out.ext ((Ext.refl _).alloc _), by omega, HG2.out, HX.out.alloc _⟩
      · have hin : i = n := by have := HIK.out; omega
        subst hin
        have hP2 := HP.out
        rw [List.take_of_length_le (by rw [SSl.count HS.out]; exact Nat.le_refl _)] at hP2
        have HP2 := Lib.hid hP2
        have HC2 := Lib.hid hP2.count
        clear hP2
        have hKm : ∀ a, a ≤ K → a * i ≤ K * i := fun a h => Nat.mul_le_mul_right i h
        have HKM := Lib.hid hKm
        clear hKm
        by_cases h0 : hm2 = 0
        · subst h0
          have hnil : hereL st k = [] := List.eq_nil_of_length_eq_zero HC2.out
          have HFIN : Hid (LayF st 1 out) := by show LayF _ _ _; have := HL.out [] (LayF.done k hnil); simpa using this
          clear hnil
          go_wp2
          go_ret
          exact ⟨g1, m, cap1, out, rfl, HF.out.ext HX.out, HFIN.out, Nat.le_trans HM.out (HKM.out _ (by have := HKK.out; omega)), HG.out, HE2.out⟩
        · have hne : hereL st k ≠ [] := fun e => h0 (by rw [← HC2.out, e]; rfl)
          have hkK : k ≤ K := by
            obtain ⟨q, hq⟩ := List.exists_mem_of_ne_nil _ hne
            obtain ⟨x, hx, hxk⟩ := mem_hereL.1 hq
            have := HK.out _ hx
            simp only at this
            omega
          have HNE := Lib.hid hne
          clear hne
          have hb0 : (((hm2 : Int) == 0) = false) := by simp [h0]
          go_wp2_with fail
          refine (Union_ok (adr g2) hm2 cap2 (hereL st k) _ HC2.out HP2.out.pers HP2.out.nilOf (by omega)).mono ?_
          rintro e w3 ⟨g3, mu, cap3, u, rfl, hU, hu, hmu, hg3, hE3⟩
          rw [HC2.out] at hmu
          have HU := Lib.hid hU
          have HUU := Lib.hid hu
          have HX3 := Lib.hid (HX.out.trans hE3)
          have HD3 : Hid (∀ b, g1 = some b → ¬ g3 = some b) := by
            intro b hb hb3
            subst hb
            have h1 := HF.out.block_lt
            have h2 := hg3 b hb3
            have h3 := HX.out.size
            omega
          have HCU := Lib.hid hU.count
          clear hU hu hg3 hE3 hb0
          have hmm : m + mu ≤ k * i := by
            have h1 := HM.out
            have h2 : (k - 1) * i + i = k * i := by
              obtain ⟨k', rfl⟩ : ∃ k', k = k' + 1 := ⟨k - 1, by omega⟩
              rw [Nat.add_sub_cancel, Nat.add_mul, Nat.one_mul]
            omega
          have hmb : m + mu ≤ 2199023255552 := Nat.le_trans hmm (Nat.le_trans (HKM.out _ hkK) HSZ.out)
          have HMM := Lib.hid hmm
          clear hmm
          go_wp2
          go_loopg [5, 37] mu (fun gk v5 v37 wr3 => PutInv w out u g3 cap3 m mu gk v5 v37 wr3)
          case atStart => exact ⟨0, g1, cap1, by omega, rfl, rfl, by simpa using HF.out.ext HX3.out, HG.out, HE.out.trans HX3.out, HU.out, HD3.out⟩
          case round =>
            rename World => wr4
            obtain ⟨j, g4, cap4, hjk, rfl, rfl, hF4, hg4, hX4, hU4, hd4⟩ := hrel
            have HJK := Lib.hid hjk; clear hjk
            have HF4 := Lib.hid hF4; clear hF4
            have HG4 := Lib.hid hg4; clear hg4
            have HX4 := Lib.hid hX4; clear hX4
            have HU4 := Lib.hid hU4; clear hU4
            have HD4 := Lib.hid hd4; clear hd4
            by_cases hlt4 : j < mu
            · obtain ⟨b, x, y, e1, l1, p1, c0, c1⟩ := HU4.out.at' hlt4
              have z1 := fun u => run_index_slv ei_per (cap := cap3) e1 hlt4 u
              have HQ : Hid (u.take (j + 1) = u.take j ++ [(x, y)]) := by show _ = _; rw [List.take_add_one, p1]; rfl
              have HRR := Lib.hid (HR.out.ext HX4.out)
              clear p1 e1
              go_wp2
              refine region_calm [.p 0, .p 1, .l 4, .h 2 true, .h 3 true, .p 5, .h 6 false, .h 7 false, .p 8] f_mixed (by kernel_rfl) (by kernel_rfl) ?_
              repeat (first | (refine plan_p rfl (fun K hK => ?_); go_simp; refine hK _ ?_; clear hK K) | (refine plan_l rfl (fun K hK => ?_); go_simp; refine hK _ ?_; clear hK K))
              refine plan_ct rfl rfl (fun K _ hK => ?_)
              go_wp2
              refine hK _ _ ((Ext.refl _).alloc _) ?_; clear hK K
              refine plan_ct rfl rfl (fun K _ hK => ?_)
              go_wp2_with fail
              refine (copied_ok _ 1 _ _ (copy_cell (by simp)) (HRR.out.ext ((((Ext.refl _).alloc _).alloc _).drew))).mono ?_
              rintro e w5 ⟨v, rfl, hV, hE5⟩
              obtain ⟨vb, vc, rfl, _⟩ := hV.out
              have HV := Lib.hid hV
              have HE5 := Lib.hid (((((Ext.refl wr4).alloc (.cells #[.int .i64 x, .int .i64 y] 45)).alloc (.cells #[.slice (some ⟨rb, 0, none⟩) 1 rc] 23)).drew).trans hE5)
              go_wp2_with fail
              refine hK _ _ (hE5) ?_; clear hK K
              clear hV hE5 c0 c1 z1 l1
              repeat (first | (refine plan_p rfl (fun K hK => ?_); go_simp; refine hK _ ?_; clear hK K) | (refine plan_l rfl (fun K hK => ?_); go_simp; refine hK _ ?_; clear hK K))
              refine plan_c rfl rfl (fun K _ hK => ?_)
              go_wp2_with fail
              obtain ⟨fs, hs4, hps4, hr4⟩ := HF4.out
              refine plan_c rfl rfl (fun K _ hK => ?_)
              refine app_lit ei_fact rfl (.tmp 41) (.tmp 47) rfl (g := g4) (n := m + j) (cap := cap4) (b := w5.heap.size) (by rfl) (hs4.ext (HE5.out.alloc _)) (by rfl) rfl (blk_new_at _ rfl) (by simp [Value.oneCell']) (by omega) (by omega) ?_
              intro g6 cap6 w6 hS6 hT6 hat6
              obtain ⟨hF6, hG6, hX6⟩ := FSl.put (W := w) (q := (x, y)) hs4 hps4 hr4 (HE5.out.alloc _) (HV.out.ext ((Ext.refl _).alloc _)) hS6 hT6 hat6 HX4.out HG4.out
              rw [List.append_assoc, ← HQ.out] at hF6
              have HF6 := Lib.hid hF6
              have HG6 := Lib.hid hG6
              have HX6 := Lib.hid hX6
              have hU6 := (HU4.out.ext (HE5.out.alloc _)).touch hT6 (fun b hb hn => HD4.out b hn hb)
              have HU6 := Lib.hid hU6
              have HD6 : Hid (∀ b, some g6 = some b → ¬ g3 = some b) := by
                intro b hb hb3
                cases hb
                rcases hat6 with h | h
                · exact HD4.out _ h hb3
                · have h1 := Sl.block_lt (hb3 ▸ HU4.out)
                  have h2 := HE5.out.size
                  simp at h
                  omega
              clear hs4 hps4 hr4 hS6 hT6 hat6 hF6 hG6 hX6 hU6
              go_wp2_with fail
              repeat (first | (refine plan_p rfl (fun K hK => ?_); go_simp; refine hK _ ?_; clear hK K) | (refine plan_l rfl (fun K hK => ?_); go_simp; refine hK _ ?_; clear hK K))
              refine plan_done ?_
              go_wp2
              go_roundg (gk - 1)
              case measure => have := HJK.out; omega
              case rel => exact ⟨j + 1, some g6, cap6, by have := HJK.out; omega, by go_num, rfl, HF6.out, HG6.out, HX6.out, HU6.out, HD6.out⟩
            · have hjm : j = mu := by have := HJK.out; omega
              subst hjm
              have hF4 := HF4.out
              rw [List.take_of_length_le (by rw [HCU.out]; exact Nat.le_refl _)] at hF4
              have HF5 := Lib.hid hF4
              have HL5 : Hid (∀ rest, LayF st (k + 1) rest → LayF st 1 (out ++ u ++ rest)) := by
                intro rest hr
                rw [List.append_assoc]
                exact HL.out _ (LayF.more k u rest HNE.out HUU.out hr)
              clear hF4
              go_wp2
              go_roundg (K - k)
              case measure => have := HKK.out; omega
              case rel => exact ⟨k + 1, m + j, g4, cap4, out ++ u, by omega, by omega, by go_num, rfl, HF5.out, by rw [Nat.add_sub_cancel]; exact HMM.out, HL5.out, HG4.out, HX4.out⟩
end Go.Proofs.Ytkejjahlglldlaa
