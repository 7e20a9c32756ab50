/- period.Minus: its plain law; walked. -/
import Derived.Test.YtkejjahlglldlaaPe6
namespace Go.Proofs.Ytkejjahlglldlaa
open Go.RowKit

/-- What is left of a behind the first i of u. -/
structure MinSo (a : Per) (u : List Per) (i : Nat) (fr : Int) (out : List Per) : Prop where
  lo : a.1 ≤ fr
  past : ∀ q ∈ u.take i, q.2 ≤ fr
  pts : ∀ t, Pts out t ↔ (a.1 ≤ t ∧ t < fr ∧ ¬ Pts (u.take i) t)
  can : Canon out
  front : ∀ o ∈ out, o.2 < fr
  over : ∀ t, a.2 ≤ t → t < fr → Pts (u.take i) t
  src : fr = a.1 ∨ ∃ q ∈ u.take i, q.2 = fr
theorem MinSo.start {a : Per} (ha : okP a) (u : List Per) : MinSo a u 0 a.1 [] := by
  obtain ⟨h1, h2, h3⟩ := ha
  refine ⟨Int.le_refl _, by simp, fun t => ?_, Canon.nil, by simp, fun t k1 k2 => by omega, .inl rfl⟩
  constructor
  · intro h; exact absurd h (pts_nil t)
  · rintro ⟨k1, k2, _⟩; omega
theorem canon_later {u : List Per} (hu : Canon u) {i : Nat} {p q : Per} (hp : u[i]? = some p) (hq : q ∈ u.take i) : q.2 < p.1 := by
  obtain ⟨hl, rfl⟩ := List.getElem?_eq_some_iff.1 hp
  have h1 : u = u.take i ++ u.drop i := (List.take_append_drop i u).symm
  have h2 := hu.apart
  rw [h1] at h2
  exact (List.pairwise_append.1 h2).2.2 q hq _ (drop_here hp)
theorem mem_take_more {u : List Per} {i : Nat} {p q : Per} (hp : u[i]? = some p) (h : q ∈ u.take (i + 1)) : q ∈ u.take i ∨ q = p := by
  rw [List.take_add_one, hp] at h
  rcases List.mem_append.1 h with h | h
  · exact .inl h
  · simp at h; exact .inr h
theorem mem_take_here {u : List Per} {i : Nat} {p : Per} (hp : u[i]? = some p) : p ∈ u.take (i + 1) := by
  rw [List.take_add_one, hp]; simp
theorem take_sub {u : List Per} {i : Nat} {q : Per} (h : q ∈ u.take i) : q ∈ u.take (i + 1) := by
  rw [List.take_add_one]; exact List.mem_append_left _ h
theorem MinSo.next {a : Per} {u : List Per} {i : Nat} {fr : Int} {out : List Per} (h : MinSo a u i fr out) (hu : Canon u) {p : Per} (hp : u[i]? = some p) (hlt : p.1 < a.2) (hle : p.1 ≤ fr) : MinSo a u (i + 1) (max fr p.2) out := by
  have hfr : fr = a.1 := by
    rcases h.src with e | ⟨q, hq, e⟩
    · exact e
    · have := canon_later hu hp hq; omega
  refine ⟨by have := h.lo; omega, fun q hq => ?_, fun t => ?_, h.can, fun o ho => by have := h.front o ho; omega, fun t k1 k2 => ?_, ?_⟩
  · rcases mem_take_more hp hq with hq | rfl
    · have := h.past q hq; omega
    · omega
  · rw [h.pts t, pts_take hp]
    constructor
    · rintro ⟨k1, k2, k3⟩; omega
    · rintro ⟨k1, k2, k3⟩
      refine ⟨k1, ?_, fun k4 => k3 (.inl k4)⟩
      apply Int.not_le.1
      intro k5
      exact k3 (.inr ⟨by omega, by omega⟩)
  · rw [pts_take hp]
    by_cases k3 : t < fr
    · exact .inl (h.over t k1 k3)
    · exact .inr ⟨by omega, by omega⟩
  · by_cases k : p.2 ≤ fr
    · rw [show max fr p.2 = fr by omega]
      exact .inl hfr
    · exact .inr ⟨p, mem_take_here hp, by omega⟩
theorem MinSo.more {a : Per} {u : List Per} {i : Nat} {fr : Int} {out : List Per} (h : MinSo a u i fr out) (ha : okP a) (hu : Canon u) {p : Per} (hp : u[i]? = some p) (hlt : p.1 < a.2) (hgt : fr < p.1) : MinSo a u (i + 1) (max fr p.2) (out ++ [(fr, p.1)]) := by
  have hok := hu.ok p (List.mem_of_getElem? hp)
  obtain ⟨o1, o2, o3⟩ := hok
  obtain ⟨a1, a2, a3⟩ := ha
  have hlo := h.lo
  refine ⟨by omega, fun q hq => ?_, fun t => ?_, ⟨fun q hq => ?_, ?_⟩, fun o ho => ?_, fun t k1 k2 => ?_, .inr ⟨p, mem_take_here hp, by omega⟩⟩
  · rcases mem_take_more hp hq with hq | rfl
    · have := h.past q hq; omega
    · omega
  · rw [pts_append, h.pts t, pts_take hp, pts_cons]
    constructor
    · rintro (⟨k1, k2, k3⟩ | k | k)
      · refine ⟨k1, by omega, ?_⟩
        rintro (k4 | k4)
        · exact k3 k4
        · omega
      · simp only at k
        refine ⟨by omega, by omega, ?_⟩
        rintro (⟨q, hq, k4⟩ | k4)
        · have := h.past q hq; omega
        · omega
      · exact absurd k (pts_nil t)
    · rintro ⟨k1, k2, k3⟩
      by_cases k4 : t < fr
      · exact .inl ⟨k1, k4, fun k5 => k3 (.inl k5)⟩
      · right; left
        refine ⟨by simp only; omega, ?_⟩
        apply Int.not_le.1
        intro k5
        exact k3 (.inr ⟨k5, by omega⟩)
  · rcases List.mem_append.1 hq with hq | hq
    · exact h.can.ok q hq
    · rw [List.mem_singleton.1 hq]
      exact ⟨by simp only; omega, hgt, by simp only; omega⟩
  · refine List.pairwise_append.2 ⟨h.can.apart, by simp, fun x hx y hy => ?_⟩
    rw [List.mem_singleton.1 hy]
    exact h.front x hx
  · rcases List.mem_append.1 ho with ho | ho
    · have := h.front o ho; omega
    · rw [List.mem_singleton.1 ho]; simp only; omega
  · rw [pts_take hp]
    by_cases k3 : t < fr
    · exact .inl (h.over t k1 k3)
    · exact .inr ⟨by omega, by omega⟩
/-- What is left of a without a list. -/
structure IsMin (a : Per) (l out : List Per) : Prop where
  can : Canon out
  pts : ∀ t, Pts out t ↔ (a.1 ≤ t ∧ t < a.2 ∧ ¬ Pts (okL l) t)
theorem MinSo.fin {a : Per} {l u : List Per} {i : Nat} {fr : Int} {out : List Per} (h : MinSo a u i fr out) (ha : okP a) (hu : IsUni l u) (hd : ∀ q ∈ u.drop i, a.2 ≤ q.1) : IsMin a l (if fr < a.2 then out ++ [(fr, a.2)] else out) := by
  obtain ⟨a1, a2, a3⟩ := ha
  have hlo := h.lo
  have hu' : ∀ t, t < a.2 → (Pts (okL l) t ↔ Pts (u.take i) t) := by
    intro t ht
    rw [← hu.pts t]
    conv => lhs; rw [← List.take_append_drop i u, pts_append]
    constructor
    · rintro (k | ⟨q, hq, k1, k2⟩)
      · exact k
      · have := hd q hq; omega
    · exact .inl
  split
  · rename_i hlt
    refine ⟨⟨fun q hq => ?_, ?_⟩, fun t => ?_⟩
    · rcases List.mem_append.1 hq with hq | hq
      · exact h.can.ok q hq
      · rw [List.mem_singleton.1 hq]
        exact ⟨by simp only; omega, hlt, a3⟩
    · refine List.pairwise_append.2 ⟨h.can.apart, by simp, fun x hx y hy => ?_⟩
      rw [List.mem_singleton.1 hy]
      exact h.front x hx
    · rw [pts_append, h.pts t, pts_cons]
      constructor
      · rintro (⟨k1, k2, k3⟩ | k | k)
        · exact ⟨k1, by omega, fun k4 => k3 ((hu' t (by omega)).1 k4)⟩
        · simp only at k
          refine ⟨by omega, k.2, fun k4 => ?_⟩
          obtain ⟨q, hq, k5, k6⟩ := (hu' t k.2).1 k4
          have := h.past q hq
          omega
        · exact absurd k (pts_nil t)
      · rintro ⟨k1, k2, k3⟩
        by_cases k4 : t < fr
        · exact .inl ⟨k1, k4, fun k5 => k3 ((hu' t k2).2 k5)⟩
        · right; left; exact ⟨by simp only; omega, k2⟩
  · rename_i hge
    refine ⟨h.can, fun t => ?_⟩
    rw [h.pts t]
    constructor
    · rintro ⟨k1, k2, k3⟩
      have k4 : t < a.2 := Int.not_le.1 fun k4 => k3 (h.over t k4 k2)
      exact ⟨k1, k4, fun k5 => k3 ((hu' t k4).1 k5)⟩
    · rintro ⟨k1, k2, k3⟩
      exact ⟨k1, by omega, fun k5 => k3 ((hu' t k2).2 k5)⟩

/-- What Minus gives. -/
def MinPost (a : Per) (ps : List Per) (w : World) (e : Ending) (w' : World) : Prop :=
  ∃ g m cap' out, e = .returned (slv g m cap') ∧ PSl w' g m cap' out ∧ (if okP a then IsMin a ps out else out = []) ∧ m ≤ ps.length + 1 ∧ (∀ b, g = some b → w.heap.size ≤ b) ∧ Ext w w'
def MinInv (W : World) (a : Per) (u : List Per) (n k : Nat) (v5 v6 v17 : Value) (wr : World) : Prop :=
  ∃ (i m : Nat) (fr : Int) (g : Option Nat) (cap : Nat) (out : List Per), i + k = n ∧ v17 = .int .i64 (i : Int) ∧ v6 = .int .i64 fr ∧ v5 = slv g m cap ∧ PSl wr g m cap out ∧ m ≤ i ∧ MinSo a u i fr out ∧ (∀ b, g = some b → W.heap.size ≤ b) ∧ Ext W wr
set_option maxRecDepth 100000 in
set_option maxHeartbeats 16000000 in
theorem Minus_ok (a b : Int) (sv : Option Addr) (n cap : Nat) (ps : List Per) (w : World) (hn : ps.length = n) (hp : Pers w sv ps) (hnil : sv = none → n = 0) (hsz : n ≤ 100000000) :
    Calls Try.prog 27 #[perV (a, b), .slice sv n cap] w (MinPost (a, b) ps w) := by
  have HN := Lib.hid hn
  by_cases hok : okP (a, b)
  · go_enter Try.func27, Try.ntmps27
    go_wp2_with fail
    refine (Check_yes (a, b) _ hok).mono ?_
    rintro e w1 ⟨rfl, hE1⟩
    have HE1 : Hid (Ext w w1) := ((Ext.refl w).alloc _).trans hE1
    have HB1 : Hid (w1.heap[w.heap.size]? = some (.cells #[.int .i64 a, .int .i64 b] 45 (0, 0))) := Ext.block hE1 (blk_new w _)
    have HOKA := Lib.hid hok
    obtain ⟨x0, x1⟩ := blk2 HB1.out
    have hp1 := hp.ext HE1.out
    clear hE1 hok
    go_wp2_with fail
    refine (Union_ok sv n cap ps w1 hn hp1 hnil (by omega)).mono ?_
    rintro e w3 ⟨g1, nn, cap1, u, rfl, hS3, hU3, hnn, hg1, hE3⟩
    clear x0 x1 hp hp1 hnil
    rw [HN.out] at hnn
    have HS3 := Lib.hid hS3
    have HU3 := Lib.hid hU3
    have HUL : Hid (u.length = nn) := hS3.count
    have HE3 : Hid (Ext w w3) := HE1.out.trans hE3
    have HB3 : Hid (w3.heap[w.heap.size]? = some (.cells #[.int .i64 a, .int .i64 b] 45 (0, 0))) := Ext.block hE3 HB1.out
    have HSZ : Hid (w.heap.size ≤ w3.heap.size) := HE3.out.size
    clear hS3 hU3 hg1 hE3 HE1 HB1
    go_wp2
    go_loopg [5, 6, 17] nn (fun k v5 v6 v17 wr => MinInv w3 (a, b) u nn k v5 v6 v17 wr)
    case atStart => exact ⟨0, 0, a, none, 0, [], by omega, rfl, rfl, rfl, Sl.nil _ _ _, by omega, MinSo.start HOKA.out u, by simp, Ext.refl _⟩
    case round =>
      obtain ⟨i, m, fr, g, cap', out, hik, rfl, rfl, rfl, hO, hmi, hM, hg, hE⟩ := hrel
      have HIK := Lib.hid hik; clear hik
      have HO := Lib.hid hO; clear hO
      have HM := Lib.hid hM; clear hM
      have HG := Lib.hid hg; clear hg
      have HE := Lib.hid hE; clear hE
      obtain ⟨x0, x1⟩ := blk2 (Ext.block HE.out HB3.out)
      have hxl := blk_lt (Ext.block HE.out HB3.out)
      have hmn : m ≤ nn := by have := HIK.out; omega
      by_cases hlt : i < nn
      · obtain ⟨b1, hb1⟩ := HS3.out.some_of_pos (by omega)
        have hS := HS3.out.ext HE.out
        rw [hb1] at hS
        have hlb1 := hS.block_lt
        obtain ⟨⟨pa, pb⟩, hq⟩ : ∃ q, u[i]? = some q := ⟨u[i]'(by rw [HUL.out]; exact hlt), by rw [List.getElem?_eq_getElem]⟩
        have c0 := hS.cell (flatQ_get u i _ hq).1
        have c1 := hS.cell (flatQ_get u i _ hq).2
        simp only at c0 c1
        have z1 := fun u => run_index_slv ei_per (cap := cap1) hb1 hlt u
        have HQ := Lib.hid hq
        clear hS hq hb1
        by_cases hbr : b ≤ pa
        · have HFIN := Lib.hid (HM.out.fin HOKA.out HU3.out (fun q hq => by
            have h1 := (List.pairwise_iff_getElem.1 HU3.out.can.apart)
            obtain ⟨j, hj, rfl⟩ := List.getElem_of_mem hq
            rw [List.getElem_drop]
            have hq0 := HQ.out
            rw [List.getElem?_eq_getElem (by rw [HUL.out]; exact hlt)] at hq0
            have hq1 : u[i]'(by rw [HUL.out]; exact hlt) = (pa, pb) := Option.some.inj hq0
            rw [List.length_drop] at hj
            rcases Nat.eq_zero_or_pos j with rfl | hj0
            · simp only [Nat.add_zero]; rw [hq1]; exact hbr
            · have h2 := h1 i (i + j) (by rw [HUL.out]; exact hlt) (by omega) (by omega)
              rw [hq1] at h2
              have h3 := HU3.out.can.ok _ (List.mem_of_getElem? HQ.out)
              have := h3.2.1
              simp only at *
              omega))
          by_cases hfb : fr < b
          · have HF2 : Hid (IsMin (a, b) ps (out ++ [(fr, b)])) := by
              have h := HFIN.out
              rw [if_pos hfb] at h
              exact h
            go_wp2_with (at_builtin; refine (fun (h : True → _) => h trivial) ?_)
            intro _
            refine app_lit ei_per rfl (.tmp 46) (.tmp 51) rfl (g := g) (n := m) (cap := cap') (b := wr.heap.size + 1) (by rfl) (HO.out.ext (((Ext.refl wr).alloc _).alloc _)) (by rfl) rfl (blk_new_at _ (by simp)) (by simp [Value.oneCell']) (by omega) (by omega) ?_
            intro g5 cap5 w5 hS5 hT5 hat5
            have hO5 : PSl w5 (some g5) (m + 1) cap5 (out ++ [(fr, b)]) := by
              show Sl _ _ _ _ _ _ _
              rw [flatQ_append]
              exact hS5
            have HO5 := Lib.hid hO5
            have HG5 : Hid (∀ b, some g5 = some b → w3.heap.size ≤ b) := by
              intro k hk
              cases hk
              rcases hat5 with h | h
              · exact HG.out _ h
              · have := HE.out.size; simp at h; omega
            have HE5 : Hid (Ext w3 w5) := Touch.freshX (HE.out.trans (((Ext.refl wr).alloc _).alloc _)) hT5 (fun k hk => HG.out k hk)
            clear hS5 hT5 hat5 hO5
            go_wp2
            go_ret
            exact ⟨some g5, m + 1, cap5, out ++ [(fr, b)], rfl, HO5.out, by rw [if_pos HOKA.out]; exact HF2.out, by rw [HN.out]; omega, fun k hk => by have := HG5.out k hk; have := HSZ.out; omega, HE3.out.trans HE5.out⟩
          · have HF2 : Hid (IsMin (a, b) ps out) := by
              have h := HFIN.out
              rw [if_neg hfb] at h
              exact h
            go_wp2
            go_ret
            exact ⟨g, m, cap', out, rfl, HO.out.ext ((Ext.refl wr).alloc _), by rw [if_pos HOKA.out]; exact HF2.out, by rw [HN.out]; omega, fun k hk => by have := HG.out k hk; have := HSZ.out; omega, HE3.out.trans (HE.out.trans ((Ext.refl wr).alloc _))⟩
        · by_cases hgt : fr < pa
          · have HM2 := Lib.hid (HM.out.more HOKA.out HU3.out.can HQ.out (by simp only; omega) hgt)
            go_wp2_with (at_builtin; refine (fun (h : True → _) => h trivial) ?_)
            intro _
            refine app_lit ei_per rfl (.tmp 30) (.tmp 35) rfl (g := g) (n := m) (cap := cap') (b := wr.heap.size + 1) (by rfl) (HO.out.ext (((Ext.refl wr).alloc _).alloc _)) (by rfl) rfl (blk_new_at _ (by simp)) (by simp [Value.oneCell']) (by omega) (by omega) ?_
            intro g5 cap5 w5 hS5 hT5 hat5
            have hO5 : PSl w5 (some g5) (m + 1) cap5 (out ++ [(fr, pa)]) := by
              show Sl _ _ _ _ _ _ _
              rw [flatQ_append]
              exact hS5
            have HO5 := Lib.hid hO5
            have HG5 : Hid (∀ b, some g5 = some b → w3.heap.size ≤ b) := by
              intro k hk
              cases hk
              rcases hat5 with h | h
              · exact HG.out _ h
              · have := HE.out.size; simp at h; omega
            have HE5 : Hid (Ext w3 w5) := Touch.freshX (HE.out.trans (((Ext.refl wr).alloc _).alloc _)) hT5 (fun k hk => HG.out k hk)
            have hbx := hT5.old (blk_alloc (blk_new wr _)) (fun h => by
              have h4 := HO.out
              rw [h] at h4
              have := h4.block_lt
              omega)
            obtain ⟨y0, y1⟩ := blk2 hbx
            clear hS5 hT5 hat5 hO5 hbx
            go_wp2
            go_roundg (gk - 1)
            case measure => have := HIK.out; omega
            case rel => exact ⟨i + 1, m + 1, max fr pb, some g5, cap5, out ++ [(fr, pa)], by have := HIK.out; omega, by go_num, rfl, rfl, HO5.out, by omega, HM2.out, HG5.out, HE5.out⟩
          · have HM2 := Lib.hid (HM.out.next HU3.out.can HQ.out (by simp only; omega) (by simp only; omega))
            go_wp2
            go_roundg (gk - 1)
            case measure => have := HIK.out; omega
            case rel => exact ⟨i + 1, m, max fr pb, g, cap', out, by have := HIK.out; omega, by go_num, rfl, rfl, HO.out.ext ((Ext.refl wr).alloc _), by omega, HM2.out, HG.out, HE.out.alloc _⟩
      · have hin : i = nn := by have := HIK.out; omega
        have HFIN := Lib.hid (HM.out.fin HOKA.out HU3.out (fun q hq => by rw [hin, List.drop_eq_nil_of_le (by rw [HUL.out]; exact Nat.le_refl _)] at hq; simp at hq))
        clear hin
        by_cases hfb : fr < b
        · have HF2 : Hid (IsMin (a, b) ps (out ++ [(fr, b)])) := by
            have h := HFIN.out
            rw [if_pos hfb] at h
            exact h
          go_wp2_with (at_builtin; refine (fun (h : True → _) => h trivial) ?_)
          intro _
          refine app_lit ei_per rfl (.tmp 46) (.tmp 51) rfl (g := g) (n := m) (cap := cap') (b := wr.heap.size) (by rfl) (HO.out.ext (((Ext.refl wr).alloc _))) (by rfl) rfl (blk_new_at _ (by simp)) (by simp [Value.oneCell']) (by omega) (by omega) ?_
          intro g5 cap5 w5 hS5 hT5 hat5
          have hO5 : PSl w5 (some g5) (m + 1) cap5 (out ++ [(fr, b)]) := by
            show Sl _ _ _ _ _ _ _
            rw [flatQ_append]
            exact hS5
          have HO5 := Lib.hid hO5
          have HG5 : Hid (∀ b, some g5 = some b → w3.heap.size ≤ b) := by
            intro k hk
            cases hk
            rcases hat5 with h | h
            · exact HG.out _ h
            · have := HE.out.size; simp at h; omega
          have HE5 : Hid (Ext w3 w5) := Touch.freshX (HE.out.trans (((Ext.refl wr).alloc _))) hT5 (fun k hk => HG.out k hk)
          clear hS5 hT5 hat5 hO5
          go_wp2
          go_ret
          exact ⟨some g5, m + 1, cap5, out ++ [(fr, b)], rfl, HO5.out, by rw [if_pos HOKA.out]; exact HF2.out, by rw [HN.out]; omega, fun k hk => by have := HG5.out k hk; have := HSZ.out; omega, HE3.out.trans HE5.out⟩
        · have HF2 : Hid (IsMin (a, b) ps out) := by
            have h := HFIN.out
            rw [if_neg hfb] at h
            exact h
          go_wp2
          go_ret
          exact ⟨g, m, cap', out, rfl, HO.out.ext (Ext.refl wr), by rw [if_pos HOKA.out]; exact HF2.out, by rw [HN.out]; omega, fun k hk => by have := HG.out k hk; have := HSZ.out; omega, HE3.out.trans (HE.out.trans (Ext.refl wr))⟩
  · go_enter Try.func27, Try.ntmps27
    go_wp2_with fail
    refine (Check_no (a, b) _ hok).mono ?_
    rintro e w1 ⟨rfl, hE1⟩
    have HE1 : Hid (Ext w w1) := ((Ext.refl w).alloc _).trans hE1
    have HOKA := Lib.hid hok
    clear hE1 hok
    go_wp2
    go_ret
    exact ⟨none, 0, 0, [], rfl, Sl.nil _ _ _, by rw [if_neg HOKA.out], by omega, by simp, HE1.out⟩
end Go.Proofs.Ytkejjahlglldlaa
