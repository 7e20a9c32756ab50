/- WholeOverlaps: walked. -/
import Derived.Test.YtkejjahlglldlaaMOv1
import Derived.Laws.MakeOwn
import Derived.Laws.OwnMore
namespace Go.Proofs.Ytkejjahlglldlaa
open Go.RowKit Go.Lib

/-- The rows are the list's first i periods, such as are periods. -/
structure RowsOf (ps : List Per) (i : Nat) (rs : List Row) : Prop where
  mem : ∀ r ∈ rs, ∃ j : Nat, j < i ∧ r.1 = (j : Int) ∧ ps[j]? = some r.2
  all : ∀ (j : Nat) (q : Per), j < i → ps[j]? = some q → okP q → ((j : Int), q) ∈ rs
  len : rs.length ≤ i
theorem RowsOf.skip {ps : List Per} {i : Nat} {rs : List Row} (h : RowsOf ps i rs) {q : Per} (hq : ps[i]? = some q) (hn : ¬ okP q) : RowsOf ps (i + 1) rs :=
  ⟨fun r hr => by obtain ⟨j, h1, h2⟩ := h.mem r hr; exact ⟨j, by omega, h2⟩, fun j q' hj hq' ho => by
    by_cases e : j = i
    · subst e; rw [hq] at hq'; cases hq'; exact absurd ho hn
    · exact h.all j q' (by omega) hq' ho, by have := h.len; omega⟩
theorem RowsOf.put {ps : List Per} {i : Nat} {rs : List Row} (h : RowsOf ps i rs) {q : Per} (hq : ps[i]? = some q) : RowsOf ps (i + 1) (rs ++ [((i : Int), q)]) ∧ ∀ r ∈ rs, r.1 ≠ (i : Int) := by
  refine ⟨⟨fun r hr => ?_, fun j q' hj hq' ho => ?_, by have := h.len; simp; omega⟩, fun r hr e => ?_⟩
  · rcases List.mem_append.1 hr with hr | hr
    · obtain ⟨j, h1, h2⟩ := h.mem r hr; exact ⟨j, by omega, h2⟩
    · simp at hr; subst hr; exact ⟨i, by omega, rfl, hq⟩
  · by_cases e : j = i
    · subst e; rw [hq] at hq'; cases hq'; simp
    · exact List.mem_append_left _ (h.all j q' (by omega) hq' ho)
  · obtain ⟨j, h1, h2, _⟩ := h.mem r hr; omega

/-- The marks. -/
def lfV (f : Nat → Bool) (n : Nat) : List Value := (List.range n).map fun j => .bool (f j)
theorem lfV_len (f : Nat → Bool) (n : Nat) : (lfV f n).length = n := by simp [lfV]
theorem lfV_get {f : Nat → Bool} {n i : Nat} (h : i < n) : (lfV f n)[i]? = some (.bool (f i)) := by simp [lfV, h]
theorem lfV_set {f : Nat → Bool} {n i : Nat} (b : Bool) : (lfV f n).set i (.bool b) = lfV (fun j => if j = i then b else f j) n := by
  refine List.ext_getElem (by simp [lfV]) fun k h1 h2 => ?_
  simp only [lfV, List.getElem_set, List.getElem_map, List.getElem_range]
  by_cases hk : i = k
  · subst hk; simp
  · rw [if_neg hk, if_neg (fun e => hk e.symm)]
theorem made_sl (u : World) (n : Nat) (hn : n ≤ 1000000000) : Sl (u.alloc (.cells (madeCells #[.bool false] n) 4)) 4 1 (some u.heap.size) n n (lfV (fun _ => false) n) := by
  refine ⟨by rw [lfV_len]; omega, madeCells #[.bool false] n, blk_new _ _, Nat.le_refl _, by simp only [maxLen]; omega, by rw [size_madeCells]; omega, ?_⟩
  rw [toList_madeCells_one, Nat.mul_one, List.take_of_length_le (by simp)]
  refine List.ext_getElem (by simp [lfV]) fun k h1 h2 => by simp [lfV]
theorem ei_bools : EI Try.prog 56 4 1 1 :=
  ⟨Try.underlying56, by
    obtain ⟨i, h1, h2, h3, h4⟩ := info_parts (P := Try.prog) (e := 4) (z := .bool false) (size := 1) (bytes := 1) (by kernel_rfl)
    exact ⟨i, _, h1, h2, h3, h4, rfl⟩, by omega, by omega⟩
theorem info_bool' : ((Try.prog.info? 4).map fun i => (i.zero, i.size, i.bytes)) = some (some (.bool false), 1, 1) := by kernel_rfl
theorem both_iff {q p : Per} (hp : okP p) : both q p ↔ okP q ∧ ov q p := by
  unfold both ov okP meetP
  unfold okP at hp
  simp only
  omega
/-- How many of the numbers have come. -/
def Come (ids : List Int) (nn i : Nat) : Prop := ∀ k y, ids[k]? = some y → (k < nn ↔ y < (i : Int))
theorem come_hit {ids : List Int} {nn i : Nat} (h : Come ids nn i) (hp : ids.Pairwise fun a b => a < b) (hi : (i : Int) ∈ ids) : nn < ids.length ∧ ids[nn]? = some (i : Int) ∧ Come ids (nn + 1) (i + 1) := by
  obtain ⟨k, hk, he⟩ := List.getElem_of_mem hi
  have hk2 : ids[k]? = some (i : Int) := by rw [List.getElem?_eq_getElem hk, he]
  have h1 := h k _ hk2
  have hkn : k = nn := by
    rcases Nat.lt_trichotomy k nn with h2 | h2 | h2
    · have := h1.1 h2; omega
    · exact h2
    · have hnl : nn < ids.length := by omega
      have h3 := List.pairwise_iff_getElem.1 hp nn k hnl hk h2
      have h4 := (h nn _ (List.getElem?_eq_getElem hnl)).2 (by omega)
      omega
  subst hkn
  refine ⟨hk, hk2, fun j y hj => ?_⟩
  obtain ⟨hjl, rfl⟩ := List.getElem?_eq_some_iff.1 hj
  rcases Nat.lt_trichotomy j k with h2 | h2 | h2
  · have := (h j _ hj).1 h2; exact ⟨fun _ => by omega, fun _ => by omega⟩
  · subst h2; exact ⟨fun _ => by omega, fun _ => by omega⟩
  · have h3 := List.pairwise_iff_getElem.1 hp k j hk hjl h2
    exact ⟨fun _ => by omega, fun _ => by omega⟩
theorem come_miss {ids : List Int} {nn i : Nat} (h : Come ids nn i) (hi : (i : Int) ∉ ids) : Come ids nn (i + 1) := fun k y hk => by
  have h1 := h k y hk
  have h2 : y ≠ (i : Int) := fun e => hi (e ▸ List.mem_of_getElem? hk)
  constructor
  · intro h3; have := h1.1 h3; omega
  · intro h3; exact h1.2 (by omega)
set_option maxRecDepth 100000 in
set_option maxHeartbeats 8000000 in
theorem overlaps_any (sv gv : Option Addr) (n cap m gcap : Nat) (ps : List Per) (gone : List Int) (F0 T0 : Int) (w : World) (hn : ps.length = n) (hc : Pers w sv ps) (hg : ∀ j x, gone[j]? = some x → ∃ lb off, gv = some ⟨lb, off, none⟩ ∧ w.cell? ⟨lb, off + j, none⟩ = some (.int .i64 x)) (hgn : gone.length = m)
    (hsz : n ≤ 1000000000) (hsm : m ≤ 1000000000000) :
    Calls Try.prog 4 #[.slice sv n cap, perV (F0, T0), .slice gv m gcap] w (fun e w' => e = .returned (.bool true) ∧ Ext w w') := by
  have HN := Lib.hid hn; have HC := Lib.hid hc; have HG := Lib.hid hg; have HGN := Lib.hid hgn
  clear hn hc hg hgn
  go_enter Try.func4, Try.ntmps4
  go_wp2_with fail
  refine (RiNew_ok _).mono ?_
  rintro e w1 ⟨t, bs, rfl, hR1, hf1, hE1⟩
  have HR1 := Lib.hid hR1; have HF1 := Lib.hid hf1; have HE1 := Lib.hid hE1
  clear hR1 hf1 hE1
  go_wp2_with fail
  refine (Ps.New_ok _).mono ?_
  rintro e w2 ⟨tb, bs2, rfl, hP2, hf2, hE2⟩
  have HW : Hid (MS (w.alloc (.cells #[.int .i64 F0, .int .i64 T0] 45)) w2 t bs tb bs2 [] []) := Lib.hid
    ⟨HR1.out.ext hE2, hP2, fun x hx e => by have := HR1.out.lt x hx; have := hf2 x e; omega, HF1.out, fun x hx => Nat.le_trans HE1.out.size (hf2 x hx), HE1.out.trans hE2, by simp, rfl⟩
  have HB0 := Lib.hid (blk_new w (.cells #[.int .i64 F0, .int .i64 T0] 45))
  have HE0 : Hid (Ext w (w.alloc (.cells #[.int .i64 F0, .int .i64 T0] 45))) := Lib.hid ((Ext.refl w).alloc _)
  clear HR1 HF1 HE1 hP2 hf2 hE2
  generalize w.alloc (.cells #[.int .i64 F0, .int .i64 T0] 45) = w0 at *
  generalize w.heap.size = pb at *
  go_wp2_with fail
  refine (show Calls _ _ #[.pointer (some ⟨t, 0, none⟩), .int .i64 1, perV (((1 : Nat) : Int), ((2 : Nat) : Int))] _ _ from (RiAdd_ok t 1 1 2 [] bs w2 HW.out.ri ⟨⟨by decide, by decide, by decide⟩, by decide, by decide⟩ (by simp) (by simp)).mono ?_)
  rintro e w3 ⟨rfl, bs3, hR3, hs3, hT3⟩
  go_wp2_with fail
  refine (RiCut_ok t 1 1 2 _ bs3 w3 hR3 (j := 0) rfl rfl (by simp)).mono ?_
  rintro e w4 ⟨rfl, bs4, hR4, hs4, hT4⟩
  have HW4 : Hid (MS w0 w4 t bs4 tb bs2 [] []) := Lib.hid (by
    obtain ⟨a1, a2, a3, a4⟩ := HW.out.left hR3 hs3 hT3
    have z := a4.size
    refine ⟨hR4, a1.touch hT4 (fun x hx e => a2 x e hx), fun x hx e => ?_, fun x hx => ?_, HW.out.n2, Touch.ext ((a4.touch _).trans' hT4 (fun _ _ e => e)) (fun i hi e => by have := a3 i e; omega), by simp, rfl⟩
    · rcases hs4 x hx with h1 | h1
      · exact a2 x h1 e
      · have := a1.lt x e; omega
    · rcases hs4 x hx with h1 | h1
      · exact a3 x h1
      · omega)
  clear HW hR3 hs3 hT3 hR4 hs4 hT4
  go_wp2
  go_loopg [47] n (fun k v47 wr => ∃ (i : Nat) (bs bs2 : List Nat) (rs : List Row) (Lp : List Ps.Pt), v47 = .int .i64 (i : Int) ∧ i + k = n ∧ MS w0 wr t bs tb bs2 rs Lp ∧ RowsOf ps i rs)
  case atStart => exact ⟨0, _, _, _, _, rfl, by omega, HW4.out, ⟨by simp, by simp, by simp⟩⟩
  case round =>
    obtain ⟨i, bs5, bs6, rs, Lp, rfl, hik, hM, hRO⟩ := hrel
    have HM := Lib.hid hM; have HRO := Lib.hid hRO
    clear hM hRO HW4
    by_cases hi : i = n
    · have hlt : decide (i < n) = false := decide_eq_false (by omega)
      have HI := Lib.hid hi; clear hi
      have HRN : Hid (RowsOf ps n rs) := Lib.hid (by rw [← HI.out]; exact HRO.out)
      obtain ⟨i0, hi0, hz0, hz1, hz2⟩ := info_parts info_bool'
      have hmk : (Instr.makeSlice 56 (.int .i64 (n : Int)) (.int .i64 (n : Int))).run Try.prog wr = .ok (.slice (some ⟨wr.heap.size, 0, none⟩) n n) (wr.alloc (.cells (madeCells #[.bool false] n) 4)) := by
        have h := run_make (P := Try.prog) (w := wr) 56 4 i0 (.bool false) Try.underlying56 hi0 hz0 .i64 .i64 (n : Int) (n : Int) (by omega) (Int.le_refl _) (by rw [hz2]; omega) (by omega)
        simpa [hz1, Value.cells] using h
      clear hi0 hz0 hz1 hz2
      have HS0 := Lib.hid (made_sl wr n hsz)
      have HM2 := Lib.hid (HM.out.go ((Ext.refl wr).alloc (.cells (madeCells #[.bool false] n) 4)))
      have HFB : Hid (wr.heap.size ∉ bs5 ∧ wr.heap.size ∉ bs6 ∧ w0.heap.size ≤ wr.heap.size) := Lib.hid ⟨fun e => by have := HM.out.ri.lt _ e; omega, fun e => by have := HM.out.ps.lt _ e; omega, HM.out.ext.size⟩
      go_wp2
      generalize wr.alloc (.cells (madeCells #[.bool false] n) 4) = w5 at *
      generalize wr.heap.size = fb at *
      clear hmk hlt HM HRO
      go_loopg [74] n (fun k v74 wz => ∃ (i : Nat) (f : Nat → Bool), v74 = .int .i64 (i : Int) ∧ i + k = n ∧ MS w0 wz t bs5 tb bs6 rs Lp ∧ Sl wz 4 1 (some fb) n n (lfV f n) ∧ ∀ j, j < i → (f j = true ↔ ∃ r ∈ rs, r.1 = (j : Int)))
      case atStart => exact ⟨0, _, rfl, by omega, HM2.out, HS0.out, fun j hj => absurd hj (by omega)⟩
      case round =>
        obtain ⟨i, f, rfl, hik2, hM, hS, hf⟩ := hrel
        have HM := Lib.hid hM; have HS := Lib.hid hS; have HF := Lib.hid hf
        clear hM hS hf HM2 HS0
        by_cases hi : i = n
        · have hlt : decide (i < n) = false := decide_eq_false (by omega)
          have HI2 := Lib.hid hi; clear hi
          have HFN : Hid (∀ j, j < n → (f j = true ↔ ∃ r ∈ rs, r.1 = (j : Int))) := Lib.hid (by rw [← HI2.out]; exact HF.out)
          have HFL : Hid (fb < wr.heap.size) := Lib.hid HS.out.block_lt
          have HRM : Hid (∀ r ∈ rs, ∃ j : Nat, j < n ∧ r.1 = (j : Int) ∧ ps[j]? = some r.2) := Lib.hid HRN.out.mem
          have HRL : Hid (rs.length ≤ n) := Lib.hid HRN.out.len
          go_wp2
          clear hlt HF HRN
          go_loopg [88] m (fun k v88 wz => ∃ (i : Nat) (f : Nat → Bool) (bs bs2 : List Nat) (rs : List Row) (Lp : List Ps.Pt), v88 = .int .i64 (i : Int) ∧ i + k = m ∧ MS w0 wz t bs tb bs2 rs Lp ∧ (fb ∉ bs ∧ fb ∉ bs2) ∧ Sl wz 4 1 (some fb) n n (lfV f n) ∧ (∀ j, j < n → (f j = true ↔ ∃ r ∈ rs, r.1 = (j : Int))) ∧
            (∀ r ∈ rs, ∃ j : Nat, j < n ∧ r.1 = (j : Int) ∧ ps[j]? = some r.2) ∧ rs.length ≤ n)
          case atStart => exact ⟨0, f, bs5, bs6, rs, Lp, rfl, by omega, HM.out, ⟨HFB.out.1, HFB.out.2.1⟩, HS.out, HFN.out, HRM.out, HRL.out⟩
          case round =>
            obtain ⟨i, f, bs, bs2, rs, Lp, rfl, hik3, hM, hfb, hS, hf, hrm, hrl⟩ := hrel
            have HFB3 := HFB.out.2.2
            have HF0 := Lib.hid HFB3
            clear HM HS HFN HRM HRL HFL HFB HFB3
            have HM := Lib.hid hM; have HFB := Lib.hid hfb; have HS := Lib.hid hS; have HF := Lib.hid hf; have HRM := Lib.hid hrm
            clear hM hfb hS hf hrm
            by_cases hi : i = m
            · have hlt : decide (i < m) = false := decide_eq_false (by omega)
              have HI3 := Lib.hid hi; clear hi
              have HBP := Lib.hid (Ext.block HM.out.ext HB0.out)
              have p0 := blk_cell HBP.out (i := 0) rfl
              have p1 := blk_cell HBP.out (i := 1) rfl
              by_cases hok : okP (F0, T0)
              · obtain ⟨F, T, rfl, rfl⟩ : ∃ F T : Nat, F0 = (F : Int) ∧ T0 = (T : Int) := ⟨F0.toNat, T0.toNat, by have := hok.1; simp only at this; omega, by have := hok.1; have := hok.2.1; simp only at *; omega⟩
                have HOK := Lib.hid hok
                have hFT : F < T := by have := hok.2.1; simp only at this; omega
                have hT : T ≤ 1099511627776 := by have := hok.2.2; simp only at this; omega
                clear hok
                go_wp2_with fail
                refine (RiOvl_ok t F T rs bs wr HM.out.ri HOK.out (by omega)).mono ?_
                rintro e w6 ⟨g, icap, ids, rfl, hSI, hE6, hpw, hmem⟩
                have HM6 := Lib.hid (HM.out.go hE6)
                have HS6 := Lib.hid (HS.out.ext hE6)
                have HSI := Lib.hid hSI; have HPW := Lib.hid hpw; have HMEM := Lib.hid hmem
                have HB6 := Lib.hid (Ext.block hE6 HBP.out)
                clear hSI hE6 hpw hmem p0 p1
                have p0 := blk_cell HB6.out (i := 0) rfl
                have p1 := blk_cell HB6.out (i := 1) rfl
                go_wp2_with fail
                refine (Check_yes ((F : Int), (T : Int)) _ HOK.out).mono ?_
                rintro e w7 ⟨rfl, hE7⟩
                have HM7 := Lib.hid (HM6.out.go hE7)
                have HS7 := Lib.hid (HS6.out.ext hE7)
                have HSI7 := Lib.hid (HSI.out.ext hE7)
                have HB7 := Lib.hid (Ext.block hE7 HB6.out)
                clear hE7 p0 p1
                have p0 := blk_cell HB7.out (i := 0) rfl
                have p1 := blk_cell HB7.out (i := 1) rfl
                have hwT : IntKind.i64.wrap ((T : Int) - 1) = (T : Int) - 1 := by rw [IntKind.wrap_i64]; omega
                have hwF : IntKind.i64.wrap ((F : Int) + 1) = (F : Int) + 1 := by rw [IntKind.wrap_i64]; omega
                have hcount := HM7.out.count HPW.out HMEM.out
                have HCOUNT := Lib.hid hcount
                clear hcount
                go_wp2_with fail
                refine (Ps.Find_ok 0 ((T : Int) - 1) ((F : Int) + 1) tb Lp bs2 w7 HM7.out.ps (by have := HM7.out.len; omega)).mono ?_
                rintro e w8 ⟨g2, pcap, rfl, -, -, hE8⟩
                rw [HCOUNT.out]
                have HM8 := Lib.hid (HM7.out.go hE8)
                have HS8 := Lib.hid (HS7.out.ext hE8)
                have HSI8 := Lib.hid (HSI7.out.ext hE8)
                have HB8 := Lib.hid (Ext.block hE8 HB7.out)
                clear hE8 p0 p1 HM HS HM6 HS6 HM7 HS7 HSI HSI7 HB6 HB7 HBP HCOUNT
                have HIN : Hid (∀ i, i < n → ∀ q, ps[i]? = some q → ((i : Int) ∈ ids ↔ f i = true ∧ ov q ((F : Int), (T : Int)))) := Lib.hid (by
                  intro i hi q hq
                  rw [HMEM.out, HF.out i hi]
                  constructor
                  · rintro ⟨r, hr, e, ho⟩
                    obtain ⟨j, h1, h2, h3⟩ := HRM.out r hr
                    have : j = i := by omega
                    subst this
                    rw [hq] at h3
                    rw [Option.some.inj h3]
                    exact ⟨⟨r, hr, e⟩, ho⟩
                  · rintro ⟨⟨r, hr, e⟩, ho⟩
                    obtain ⟨j, h1, h2, h3⟩ := HRM.out r hr
                    have : j = i := by omega
                    subst this
                    rw [hq] at h3
                    rw [Option.some.inj h3] at ho
                    exact ⟨r, hr, e, ho⟩)
                have HOKF : Hid (∀ i, i < n → ∀ q, ps[i]? = some q → f i = true → okP q) := Lib.hid (by
                  intro i hi q hq hfi
                  obtain ⟨r, hr, e⟩ := (HF.out i hi).1 hfi
                  obtain ⟨j, h1, h2, h3⟩ := HRM.out r hr
                  have : j = i := by omega
                  subst this
                  rw [hq] at h3
                  rw [Option.some.inj h3]
                  exact (HM8.out.ri.ok r hr).1)
                have HALL : Hid (∀ nn, Come ids nn n → nn ≤ ids.length → nn = ids.length) := Lib.hid (by
                  intro nn hc hl
                  rcases Nat.lt_or_ge nn ids.length with h | h
                  · obtain ⟨r, hr, e, _⟩ := (HMEM.out _).1 (List.getElem_mem h)
                    obtain ⟨j, h1, h2, h3⟩ := HRM.out r hr
                    have := (hc nn _ (List.getElem?_eq_getElem h)).2 (by omega)
                    omega
                  · omega)
                have hidl : ids.length ≤ 1000000000000 := by
                  have h1 : ids.Nodup := HPW.out.imp (fun hlt e => by subst e; omega)
                  have h2 := (h1.sublist (List.Sublist.refl _)).length_le_of_subset (l₂ := rs.map Prod.fst) (fun i hi => by
                    obtain ⟨r, hr, e, _⟩ := (HMEM.out i).1 hi
                    exact List.mem_map.2 ⟨r, hr, e⟩)
                  rw [List.length_map] at h2
                  omega
                go_wp2
                clear hlt
                go_loopg [21, 150] n (fun k v21 v150 wz => ∃ nn i : Nat, v21 = .int .i64 (nn : Int) ∧ v150 = .int .i64 (i : Int) ∧ i + k = n ∧ Ext w8 wz ∧ nn ≤ ids.length ∧ Come ids nn i)
                case atStart => exact ⟨0, 0, rfl, rfl, by omega, Ext.refl _, by omega, fun k y hy => by
                  obtain ⟨r, hr, e, _⟩ := (HMEM.out y).1 (List.mem_of_getElem? hy)
                  obtain ⟨j, h1, h2, h3⟩ := HRM.out r hr
                  exact ⟨fun h => absurd h (by omega), fun h => by omega⟩⟩
                case round =>
                  obtain ⟨nn, i, rfl, rfl, hik4, hE, hnn, hco⟩ := hrel
                  have HE := Lib.hid hE; have HCO := Lib.hid hco
                  clear hE hco
                  by_cases hi : i = n
                  · have hlt : decide (i < n) = false := decide_eq_false (by omega)
                    have hnl : nn = ids.length := HALL.out nn (by rw [← hi]; exact HCO.out) hnn
                    clear hi
                    subst hnl
                    have HEND : Hid (Ext w wr) := Lib.hid (HE0.out.trans (HM8.out.ext.trans HE.out))
                    go_wp2
                    go_ret
                    exact ⟨rfl, HEND.out⟩
                  · have hi2 : i < n := by omega
                    have hlt : decide (i < n) = true := decide_eq_true hi2
                    obtain ⟨q, hq⟩ : ∃ q, ps[i]? = some q := ⟨ps[i]'(by have := HN.out; omega), List.getElem?_eq_getElem _⟩
                    obtain ⟨lb, off, hsv, hcells⟩ := HC.out.ext (HE0.out.trans (HM8.out.ext.trans HE.out)) (by have := HN.out; omega)
                    obtain ⟨c0, c1⟩ := hcells i q hq
                    subst hsv
                    have hri := fun U => run_index_any (P := Try.prog) ei_per (lb := lb) (off := off) (n := n) (cap := cap) (j := i) hi2 U
                    have hrb := fun U => run_index_slv (P := Try.prog) ei_bools (g := some fb) (b := fb) (cap := n) rfl (j := i) (n := n) hi2 U
                    have hwi : IntKind.i64.wrap ((i : Int) + 1) = (i : Int) + 1 := by rw [IntKind.wrap_i64]; omega
                    have hwnn : IntKind.i64.wrap ((nn : Int) + 1) = (nn : Int) + 1 := by rw [IntKind.wrap_i64]; omega
                    have HINI := Lib.hid (HIN.out i hi2 q hq)
                    have HOKI := Lib.hid (HOKF.out i hi2 q hq)
                    clear hcells hq hi
                    obtain ⟨qa, qb⟩ := q
                    have HBR := Lib.hid (Ext.block HE.out HB8.out)
                    have p0 := blk_cell HBR.out (i := 0) rfl
                    have p1 := blk_cell HBR.out (i := 1) rfl
                    have hpl : pb < wr.heap.size := blk_lt HBR.out
                    go_wp2_with fail
                    refine (Overlap_ok (qa, qb) ((F : Int), (T : Int)) _).mono ?_
                    rintro e w9 ⟨hE9, rfl⟩
                    have HE9 : Hid (Ext w8 w9) := Lib.hid (HE.out.trans (((Ext.refl wr).alloc _).trans hE9))
                    clear hE9 c0 c1 p0 p1
                    have hbi := both_iff (q := (qa, qb)) HOK.out
                    by_cases hbo : both (qa, qb) ((F : Int), (T : Int))
                    · rw [if_pos hbo]
                      obtain ⟨mo, hmo⟩ : ∃ mo, meetP (qa, qb) ((F : Int), (T : Int)) = mo := ⟨_, rfl⟩
                      rw [hmo]
                      clear hmo
                      have hcf := (HS8.out.ext (HE9.out.alloc (.cells #[.int .i64 mo.1, .int .i64 mo.2] 45))).cell (lfV_get (f := f) hi2)
                      cases hfi : f i
                      · rw [hfi] at hcf
                        have hni : (i : Int) ∉ ids := fun h => by have := (HINI.out.1 h).1; rw [hfi] at this; cases this
                        have HC9 := Lib.hid (come_miss HCO.out hni)
                        clear hbi hbo hfi hni
                        go_wp2
                        go_roundg (gk - 1)
                        case measure => omega
                        case rel => exact ⟨nn, i + 1, rfl, rfl, by omega, HE9.out.alloc _, hnn, HC9.out⟩
                      · rw [hfi] at hcf
                        have hin := HINI.out.2 ⟨hfi, (hbi.1 hbo).2⟩
                        obtain ⟨k1, k2, k3⟩ := come_hit HCO.out HPW.out hin
                        have HC9 := Lib.hid k3
                        obtain ⟨gb, hgb⟩ := HSI8.out.some_of_pos (by omega)
                        have hsi := HSI8.out.ext (HE9.out.alloc (.cells #[.int .i64 mo.1, .int .i64 mo.2] 45))
                        rw [hgb] at hsi
                        have hci := hsi.cell (j := nn) (u := .int .i64 (i : Int)) (by simp [k2])
                        have hrii := fun U => run_index_slv (P := Try.prog) ei_int64 (g := g) (b := gb) (cap := icap) hgb (j := nn) (n := ids.length) k1 U
                        have hnd : decide (ids.length ≤ nn) = false := decide_eq_false (by omega)
                        have K1 := Lib.hid k1; have HGB := Lib.hid hgb
                        clear hbi hbo hfi hin k1 k2 k3 hsi hgb
                        go_wp2
                        go_roundg (gk - 1)
                        case measure => omega
                        case rel => exact ⟨nn + 1, i + 1, rfl, rfl, by omega, HE9.out.alloc _, by have := K1.out; omega, HC9.out⟩
                    · rw [if_neg hbo]
                      have hni : (i : Int) ∉ ids := fun h => by
                        obtain ⟨h1, h2⟩ := HINI.out.1 h
                        exact hbo (hbi.2 ⟨HOKI.out h1, h2⟩)
                      have HC9 := Lib.hid (come_miss HCO.out hni)
                      clear hbi hbo hni
                      go_wp2
                      go_roundg (gk - 1)
                      case measure => omega
                      case rel => exact ⟨nn, i + 1, rfl, rfl, by omega, HE9.out.alloc _, hnn, HC9.out⟩
              · have HOK := Lib.hid hok; clear hok
                go_wp2_with fail
                refine (RiOvl_no t (F0, T0) wr HOK.out).mono ?_
                rintro e w6 ⟨rfl, hE6⟩
                have HM6 := Lib.hid (HM.out.go hE6)
                have HB6 := Lib.hid (Ext.block hE6 HBP.out)
                clear hE6 p0 p1
                have p0 := blk_cell HB6.out (i := 0) rfl
                have p1 := blk_cell HB6.out (i := 1) rfl
                go_wp2_with fail
                refine (Check_no (F0, T0) _ HOK.out).mono ?_
                rintro e w7 ⟨rfl, hE7⟩
                have HEND : Hid (Ext w w7) := Lib.hid (HE0.out.trans (HM6.out.ext.trans hE7))
                clear hE7 p0 p1
                go_wp2
                go_ret
                exact ⟨rfl, HEND.out⟩
            · have hi2 : i < m := by omega
              have hlt : decide (i < m) = true := decide_eq_true hi2
              obtain ⟨x, hx⟩ : ∃ x, gone[i]? = some x := ⟨gone[i]'(by have := HGN.out; omega), List.getElem?_eq_getElem _⟩
              obtain ⟨lb, off, hgv, hcell⟩ := HG.out i x hx
              have hcx := Ext.cell (HE0.out.trans HM.out.ext) hcell
              subst hgv
              have hri := fun U => run_index_any (P := Try.prog) ei_int64 (lb := lb) (off := off) (n := m) (cap := gcap) (j := i) hi2 U
              simp only [Nat.mul_one] at hri
              have hwi : IntKind.i64.wrap ((i : Int) + 1) = (i : Int) + 1 := by rw [IntKind.wrap_i64]; omega
              clear hx hcell hi
              by_cases hex : ∃ r ∈ rs, r.1 = x
              · obtain ⟨j, q, hj, hlk⟩ := look_some 0 hex
                rw [Nat.zero_add] at hlk
                obtain ⟨jn, hjn, e1, e2⟩ := HRM.out _ (List.mem_of_getElem? hj)
                simp only at e1 e2
                subst e1
                have hokq := HM.out.ri.ok _ (List.mem_of_getElem? hj)
                obtain ⟨qa, qb⟩ := q
                obtain ⟨F, T, rfl, rfl⟩ : ∃ F T : Nat, qa = (F : Int) ∧ qb = (T : Int) := ⟨qa.toNat, qb.toNat, by have := hokq.1.1; simp only at this; omega, by have := hokq.1.1; have := hokq.1.2.1; simp only at *; omega⟩
                have HJ := Lib.hid hj; have HLK := Lib.hid hlk
                clear hex hj hlk e2 hokq
                go_wp2_with fail
                refine (RiCut_ok t (jn : Int) F T rs bs wr HM.out.ri HJ.out HLK.out (by omega)).mono ?_
                rintro e w6 ⟨rfl, bs7, hR6, hs6, hT6⟩
                have HR6 := Lib.hid hR6; have HS6 := Lib.hid hs6; have HT6 := Lib.hid hT6
                clear hR6 hs6 hT6 hcx
                have HP6 := Lib.hid (HM.out.left HR6.out HS6.out HT6.out).1
                go_wp2_with fail
                refine (Ps.Cut_ok tb (ptOf ((jn : Int), ((F : Int), (T : Int)))) Lp bs2 w6 HP6.out ((HM.out.eq _).2 ⟨_, List.mem_of_getElem? HJ.out, rfl⟩)).mono ?_
                rintro e w7 ⟨Lp', bs8, rfl, hP7, hpm, -, hs7, hT7⟩
                have HM7 := Lib.hid (HM.out.cut HJ.out HR6.out HS6.out HT6.out hP7 hpm hs7 hT7)
                have HFBN : Hid (fb ∉ bs7 ∧ fb ∉ bs8) := Lib.hid ⟨fun e => by
                  rcases HS6.out fb e with h | h
                  · exact HFB.out.1 h
                  · have := HS.out.block_lt; omega, fun e => HFB.out.2 (hs7 fb e)⟩
                have HS7 := Lib.hid ((HS.out.touch HT6.out (fun b hb e => HFB.out.1 (by cases hb; exact e))).touch hT7 (fun b hb e => HFB.out.2 (by cases hb; exact e)))
                clear hP7 hpm hs7 hT7
                have hrb := fun U => run_index_slv (P := Try.prog) ei_bools (g := some fb) (b := fb) (cap := n) rfl (j := jn) (n := n) hjn U
                have hft : f jn = true := (HF.out jn hjn).2 ⟨_, List.mem_of_getElem? HJ.out, rfl⟩
                have hcf := HS7.out.cell (lfV_get (f := f) hjn)
                rw [hft] at hcf
                have hz := HS7.out.frozen jn
                have hjd : decide (jn < n) = true := decide_eq_true hjn
                have HS9 := Lib.hid (show Sl (w7.setCell ⟨fb, jn, none⟩ (.bool false)) 4 1 (some fb) n n (lfV (fun j => if j = jn then false else f j) n) by rw [← lfV_set]; exact HS7.out.put (.bool false) hjn)
                have HM9 := Lib.hid (HM7.out.aside (Touch.setCell (S := fun k => k = fb) (Touch.refl _ w7) (p := ⟨fb, jn, none⟩) (fun _ => rfl) (.bool false)) HFBN.out.1 HFBN.out.2 HF0.out)
                have HF9 : Hid (∀ j', j' < n → ((if j' = jn then false else f j') = true ↔ ∃ r ∈ rs.eraseIdx j, r.1 = (j' : Int))) := Lib.hid (by
                  intro j' hj'
                  by_cases e : j' = jn
                  · subst e
                    rw [if_pos rfl]
                    refine ⟨fun h => (by cases h), fun ⟨r, hr, hr2⟩ => ?_⟩
                    exact absurd hr2 ((mem_erase HM.out.ri.ids HJ.out r).1 hr).2
                  · rw [if_neg e, HF.out j' hj']
                    constructor
                    · rintro ⟨r, hr, hr2⟩
                      exact ⟨r, (mem_erase HM.out.ri.ids HJ.out r).2 ⟨hr, by rw [hr2]; show (j' : Int) ≠ (jn : Int); omega⟩, hr2⟩
                    · rintro ⟨r, hr, hr2⟩
                      exact ⟨r, ((mem_erase HM.out.ri.ids HJ.out r).1 hr).1, hr2⟩)
                have HRM9 : Hid (∀ r ∈ rs.eraseIdx j, ∃ j : Nat, j < n ∧ r.1 = (j : Int) ∧ ps[j]? = some r.2) := Lib.hid (fun r hr => HRM.out r (List.mem_of_mem_eraseIdx hr))
                have HRL9 : Hid ((rs.eraseIdx j).length ≤ n) := Lib.hid (Nat.le_trans (List.length_eraseIdx_le ..) hrl)
                clear hft
                go_wp2
                go_roundg (gk - 1)
                case measure => omega
                case rel => exact ⟨i + 1, _, _, _, _, _, rfl, by omega, HM9.out, HFBN.out, HS9.out, HF9.out, HRM9.out, HRL9.out⟩
              · have hno : ∀ r ∈ rs, r.1 ≠ x := fun r hr e => hex ⟨r, hr, e⟩
                have HNO := Lib.hid hno
                clear hex hno
                go_wp2_with fail
                refine (RiCut_no t x rs bs wr HM.out.ri HNO.out).mono ?_
                rintro e w6 ⟨rfl, hE6⟩
                have HM6 := Lib.hid (HM.out.go hE6)
                have HS6 := Lib.hid (HS.out.ext hE6)
                clear hE6 hcx
                go_wp2_with fail
                refine (Ps.Cut_no tb x Lp bs2 w6 HM6.out.ps (fun q hq e => by
                  obtain ⟨r, hr, rfl⟩ := (HM6.out.eq q).1 hq
                  exact HNO.out r hr e)).mono ?_
                rintro e w7 ⟨rfl, hE7⟩
                have HM7 := Lib.hid (HM6.out.go hE7)
                have HS7 := Lib.hid (HS6.out.ext hE7)
                clear hE7
                by_cases hx1 : 0 ≤ x
                · obtain ⟨xn, rfl⟩ : ∃ xn : Nat, x = (xn : Int) := ⟨x.toNat, by omega⟩
                  by_cases hx2 : xn < n
                  · have hrb := fun U => run_index_slv (P := Try.prog) ei_bools (g := some fb) (b := fb) (cap := n) rfl (j := xn) (n := n) hx2 U
                    have hjd : decide (xn < n) = true := decide_eq_true hx2
                    have hcf := HS7.out.cell (lfV_get (f := f) hx2)
                    have hz := HS7.out.frozen xn
                    have HS9 := Lib.hid (show Sl (w7.setCell ⟨fb, xn, none⟩ (.bool false)) 4 1 (some fb) n n (lfV (fun j => if j = xn then false else f j) n) by rw [← lfV_set]; exact HS7.out.put (.bool false) hx2)
                    have HM9 := Lib.hid (HM7.out.aside (Touch.setCell (S := fun k => k = fb) (Touch.refl _ w7) (p := ⟨fb, xn, none⟩) (fun _ => rfl) (.bool false)) HFB.out.1 HFB.out.2 HF0.out)
                    have HF9 : Hid (∀ j', j' < n → ((if j' = xn then false else f j') = true ↔ ∃ r ∈ rs, r.1 = (j' : Int))) := Lib.hid (by
                      intro j' hj'
                      by_cases e : j' = xn
                      · subst e
                        rw [if_pos rfl]
                        exact ⟨fun h => (by cases h), fun ⟨r, hr, hr2⟩ => absurd hr2 (HNO.out r hr)⟩
                      · rw [if_neg e]; exact HF.out j' hj')
                    go_wp2
                    go_roundg (gk - 1)
                    case measure => omega
                    case rel => exact ⟨i + 1, _, _, _, _, _, rfl, by omega, HM9.out, HFB.out, HS9.out, HF9.out, HRM.out, hrl⟩
                  · have hjd : decide (xn < n) = false := decide_eq_false hx2
                    go_wp2
                    go_roundg (gk - 1)
                    case measure => omega
                    case rel => exact ⟨i + 1, _, _, _, _, _, rfl, by omega, HM7.out, HFB.out, HS7.out, HF.out, HRM.out, hrl⟩
                · have hxd : decide (0 ≤ x) = false := decide_eq_false hx1
                  go_wp2
                  go_roundg (gk - 1)
                  case measure => omega
                  case rel => exact ⟨i + 1, _, _, _, _, _, rfl, by omega, HM7.out, HFB.out, HS7.out, HF.out, HRM.out, hrl⟩
        · have hi2 : i < n := by omega
          have hlt : decide (i < n) = true := decide_eq_true hi2
          obtain ⟨q, hq⟩ : ∃ q, ps[i]? = some q := ⟨ps[i]'(by have := HN.out; omega), List.getElem?_eq_getElem _⟩
          obtain ⟨lb, off, hsv, hcells⟩ := HC.out.ext (HE0.out.trans HM.out.ext) (by have := HN.out; omega)
          obtain ⟨c0, c1⟩ := hcells i q hq
          subst hsv
          have hri := fun U => run_index_any (P := Try.prog) ei_per (lb := lb) (off := off) (n := n) (cap := cap) (j := i) hi2 U
          have hrb := fun U => run_index_slv (P := Try.prog) ei_bools (g := some fb) (b := fb) (cap := n) rfl (j := i) (n := n) hi2 U
          have hwi : IntKind.i64.wrap ((i : Int) + 1) = (i : Int) + 1 := by rw [IntKind.wrap_i64]; omega
          have HQ := Lib.hid hq
          clear hcells hq hi
          obtain ⟨qa, qb⟩ := q
          have HIFF : Hid (decide (okP (qa, qb)) = true ↔ ∃ r ∈ rs, r.1 = (i : Int)) := Lib.hid (by
            rw [decide_eq_true_iff]
            constructor
            · intro ho
              exact ⟨_, HRN.out.all i _ hi2 HQ.out ho, rfl⟩
            · rintro ⟨r, hr, e⟩
              obtain ⟨j, h1, h2, h3⟩ := HRN.out.mem r hr
              have : j = i := by omega
              subst this
              rw [HQ.out] at h3
              have h4 := (HM.out.ri.ok r hr).1
              rw [← Option.some.inj h3] at h4
              exact h4)
          go_wp2_with fail
          refine (Check_ok' qa qb _).mono ?_
          rintro e w6 ⟨rfl, hE6⟩
          have hE7 : Ext wr w6 := ((Ext.refl wr).alloc _).trans hE6
          have HM6 := Lib.hid (HM.out.go hE7)
          have HS6 := Lib.hid (HS.out.ext hE7)
          clear hE6 hE7 c0 c1
          have hz := HS6.out.frozen i
          have hcf := HS6.out.cell (lfV_get (f := f) hi2)
          have HM8 : Hid (∀ v, MS w0 (w6.setCell ⟨fb, i, none⟩ v) t bs5 tb bs6 rs Lp) := Lib.hid (fun v => HM6.out.aside (Touch.setCell (S := fun k => k = fb) (Touch.refl _ _) (p := ⟨fb, i, none⟩) (fun _ => rfl) v) HFB.out.1 HFB.out.2.1 HFB.out.2.2)
          have HS8 : Hid (∀ b : Bool, Sl (w6.setCell ⟨fb, i, none⟩ (.bool b)) 4 1 (some fb) n n (lfV (fun j => if j = i then b else f j) n)) := Lib.hid (fun b => by rw [← lfV_set]; exact HS6.out.put (.bool b) hi2)
          have HF8 : Hid (∀ b : Bool, (b = true ↔ ∃ r ∈ rs, r.1 = (i : Int)) → ∀ j, j < i + 1 → ((if j = i then b else f j) = true ↔ ∃ r ∈ rs, r.1 = (j : Int))) := Lib.hid (by
            intro b hb j hj
            by_cases e : j = i
            · subst e; rw [if_pos rfl]; exact hb
            · rw [if_neg e]; exact HF.out j (by omega))
          by_cases hok : okP (qa, qb)
          · have hd : decide (okP (qa, qb)) = true := decide_eq_true hok
            have hb := HIFF.out
            rw [hd] at hb
            have HD := Lib.hid hb
            rw [if_pos hok]
            clear hok hd hb
            go_wp2
            go_roundg (gk - 1)
            case measure => omega
            case rel => exact ⟨i + 1, _, rfl, by omega, HM8.out _, HS8.out true, HF8.out true (by have := HD.out; simpa using this)⟩
          · have hd : decide (okP (qa, qb)) = false := decide_eq_false hok
            have hb := HIFF.out
            rw [hd] at hb
            have HD := Lib.hid hb
            rw [if_neg hok]
            clear hok hd hb
            go_wp2
            go_roundg (gk - 1)
            case measure => omega
            case rel => exact ⟨i + 1, _, rfl, by omega, HM8.out _, HS8.out false, HF8.out false (by have := HD.out; simpa using this)⟩
    · have hi2 : i < n := by omega
      have hlt : decide (i < n) = true := decide_eq_true hi2
      obtain ⟨q, hq⟩ : ∃ q, ps[i]? = some q := ⟨ps[i]'(by have := HN.out; omega), List.getElem?_eq_getElem _⟩
      obtain ⟨lb, off, hsv, hcells⟩ := HC.out.ext (HE0.out.trans HM.out.ext) (by have := HN.out; omega)
      obtain ⟨c0, c1⟩ := hcells i q hq
      subst hsv
      have hri := fun U => run_index_any (P := Try.prog) ei_per (lb := lb) (off := off) (n := n) (cap := cap) (j := i) hi2 U
      have hwi : IntKind.i64.wrap ((i : Int) + 1) = (i : Int) + 1 := by rw [IntKind.wrap_i64]; omega
      have HQ := Lib.hid hq
      clear hcells hq hi
      obtain ⟨qa, qb⟩ := q
      by_cases hok : okP (qa, qb)
      · obtain ⟨F, T, rfl, rfl⟩ : ∃ F T : Nat, qa = (F : Int) ∧ qb = (T : Int) := ⟨qa.toNat, qb.toNat, by have := hok.1; simp only at this; omega, by have := hok.1; have := hok.2.1; simp only at *; omega⟩
        have HOK := Lib.hid hok; clear hok
        obtain ⟨hRO2, hnew⟩ := HRO.out.put HQ.out
        have HRO2 := Lib.hid hRO2; have HNEW := Lib.hid hnew
        clear hRO2 hnew
        have hrl : rs.length ≤ 1000000000 := by have := HRO.out.len; omega
        go_wp2_with fail
        have HX := Lib.hid (blk_new wr (.cells #[.int .i64 (F : Int), .int .i64 (T : Int)] 45))
        have HM5 := Lib.hid (HM.out.go ((Ext.refl wr).alloc (.cells #[.int .i64 (F : Int), .int .i64 (T : Int)] 45)))
        have hxb : wr.heap.size ∉ bs5 := fun e => by have := HM.out.ri.lt _ e; omega
        have HXB := Lib.hid hxb; clear hxb
        clear c0 c1
        generalize wr.alloc (.cells #[.int .i64 (F : Int), .int .i64 (T : Int)] 45) = w5 at *
        generalize wr.heap.size = xb at *
        refine (RiAdd_ok t (i : Int) F T rs bs5 w5 HM5.out.ri ⟨HOK.out, by simp only; omega, by simp only; omega⟩ HNEW.out hrl).mono ?_
        rintro e w6 ⟨rfl, bs7, hR6, hs6, hT6⟩
        have HR6 := Lib.hid hR6; have HS6 := Lib.hid hs6; have HT6 := Lib.hid hT6
        clear hR6 hs6 hT6
        have hX6 := HT6.out.old HX.out HXB.out
        have p0 := blk_cell hX6 (i := 0) rfl
        have p1 := blk_cell hX6 (i := 1) rfl
        clear hX6
        have HP6 := Lib.hid (HM5.out.left HR6.out HS6.out HT6.out).1
        go_wp2_with fail
        refine (Ps.Add_ok tb (F : Int) (T : Int) (i : Int) Lp bs6 w6 HP6.out (fun q hq e => by
          obtain ⟨r, hr, rfl⟩ := (HM5.out.eq q).1 hq
          exact HNEW.out r hr e)).mono ?_
        rintro e w7 ⟨Lp', bs8, rfl, hP7, hpm, hs7, hT7⟩
        have HM7 := Lib.hid (HM5.out.put HR6.out HS6.out HT6.out hP7 hpm hs7 hT7)
        clear hP7 hpm hs7 hT7 p0 p1
        go_wp2
        go_roundg (gk - 1)
        case measure => omega
        case rel => exact ⟨i + 1, _, _, _, _, rfl, by omega, HM7.out, HRO2.out⟩
      · have HOK := Lib.hid hok; clear hok
        have HRO2 := Lib.hid (HRO.out.skip HQ.out HOK.out)
        go_wp2_with fail
        refine (RiAdd_no t (i : Int) (qa, qb) _ HOK.out).mono ?_
        rintro e w6 ⟨rfl, hE6⟩
        have HM6 := Lib.hid (HM.out.go (((Ext.refl wr).alloc _).trans hE6))
        clear hE6 c0 c1
        go_wp2
        go_roundg (gk - 1)
        case measure => omega
        case rel => exact ⟨i + 1, _, _, _, _, rfl, by omega, HM6.out, HRO2.out⟩
end Go.Proofs.Ytkejjahlglldlaa
