/- period.Check, Has, Overlap; annalstop.one; the copy of a slice of periods: walked. Facts of one row; annalstop.one; the copy of a slice of periods: walked. The copy of a slice of periods, its periods that are none struck: walked. -/
import Derived.Test.YtkejjahlglldlaaMB2
import Derived.Laws.IdiomCopy
import Derived.Lib.SliceRun
namespace Go.Proofs.Ytkejjahlglldlaa
open Go.RowKit

abbrev Per := Int × Int
/-- A slice of periods that is read. -/
def Pers (w : World) (sv : Option Addr) (ps : List Per) : Prop :=
  0 < ps.length → ∃ lb off, sv = some ⟨lb, off, none⟩ ∧ ∀ i q, ps[i]? = some q → w.cell? ⟨lb, off + i * 2, none⟩ = some (.int .i64 q.1) ∧ w.cell? ⟨lb, off + i * 2 + 1, none⟩ = some (.int .i64 q.2)
theorem Pers.ext {w w' : World} {sv : Option Addr} {ps : List Per} (h : Pers w sv ps) (he : Ext w w') : Pers w' sv ps := fun hn => by
  obtain ⟨lb, off, h1, h2⟩ := h hn
  exact ⟨lb, off, h1, fun i q hq => ⟨Ext.cell he (h2 i q hq).1, Ext.cell he (h2 i q hq).2⟩⟩
def flatQ : List Per → List Value
  | [] => []
  | q :: r => .int .i64 q.1 :: .int .i64 q.2 :: flatQ r
theorem flatQ_append : ∀ a b : List Per, flatQ (a ++ b) = flatQ a ++ flatQ b
  | [], _ => rfl
  | q :: a, b => by simp [flatQ, flatQ_append a b]
theorem flatQ_len : ∀ a : List Per, (flatQ a).length = a.length * 2
  | [] => rfl
  | q :: a => by simp [flatQ, flatQ_len a]; omega
theorem flatQ_get : ∀ (ps : List Per) (i : Nat) (q : Per), ps[i]? = some q → (flatQ ps)[i * 2]? = some (.int .i64 q.1) ∧ (flatQ ps)[i * 2 + 1]? = some (.int .i64 q.2)
  | [], i, q, h => by simp at h
  | p :: ps, 0, q, h => by simp at h; subst h; simp [flatQ]
  | p :: ps, i + 1, q, h => by
    have := flatQ_get ps i q (by simpa using h)
    rw [show (i + 1) * 2 = i * 2 + 2 from by omega]
    simpa [flatQ] using this
theorem ei_per : EI Try.prog 43 45 2 16 :=
  ⟨Try.underlying43, by
    obtain ⟨i, h1, h2, h3, h4⟩ := info_parts (P := Try.prog) (e := 45) (z := .agg #[.int .i64 0, .int .i64 0]) (size := 2) (bytes := 16) (by kernel_rfl)
    exact ⟨i, _, h1, h2, h3, h4, rfl⟩, by omega, by omega⟩
theorem ei_fact : EI Try.prog 65 70 3 40 :=
  ⟨Try.underlying65, by
    obtain ⟨i, h1, h2, h3, h4⟩ := info_parts (P := Try.prog) (e := 70) (z := .agg #[.slice none 0 0, .int .i64 0, .int .i64 0]) (size := 3) (bytes := 40) (by kernel_rfl)
    exact ⟨i, _, h1, h2, h3, h4, rfl⟩, by omega, by omega⟩
/-- Periods that a call owns. -/
abbrev PSl (w : World) (g : Option Nat) (n cap : Nat) (ps : List Per) : Prop := Sl w 45 2 g n cap (flatQ ps)
theorem PSl.pers {w : World} {g : Option Nat} {n cap : Nat} {ps : List Per} (h : PSl w g n cap ps) : Pers w (adr g) ps := fun hp => by
  have hl := h.len
  rw [flatQ_len] at hl
  obtain ⟨b, rfl⟩ := h.some_of_pos (by omega)
  refine ⟨b, 0, rfl, fun i q hq => ?_⟩
  obtain ⟨k0, k1⟩ := flatQ_get ps i q hq
  rw [Nat.zero_add]
  exact ⟨h.cell k0, h.cell k1⟩
theorem PSl.count {w : World} {g : Option Nat} {n cap : Nat} {ps : List Per} (h : PSl w g n cap ps) : ps.length = n := by
  have hl := h.len
  rw [flatQ_len] at hl
  omega

def okP (q : Per) : Prop := 0 ≤ q.1 ∧ q.1 < q.2 ∧ q.2 ≤ 1099511627776
instance (q : Per) : Decidable (okP q) := by unfold okP; exact inferInstance
abbrev perV (q : Per) : Value := .agg #[.int .i64 q.1, .int .i64 q.2]
set_option maxHeartbeats 4000000 in
theorem Check_ok' (a b : Int) (w : World) : Calls Try.prog 19 #[perV (a, b)] w (fun e w' => e = .returned (.int .i64 (if okP (a, b) then 0 else 40)) ∧ Ext w w') := by
  by_cases h1 : a < 0
  · have HN : Hid (¬ okP (a, b)) := by show ¬ _; unfold okP; simp only; omega
    go_enter Try.func19, Try.ntmps19
    go_wp2
    go_ret
    exact ⟨by first | rfl | (rw [if_neg HN.out]; rfl), (Ext.refl w).alloc _⟩
  by_cases h2 : b ≤ a
  · have HN : Hid (¬ okP (a, b)) := by show ¬ _; unfold okP; simp only; omega
    go_enter Try.func19, Try.ntmps19
    go_wp2
    go_ret
    exact ⟨by first | rfl | (rw [if_neg HN.out]; rfl), (Ext.refl w).alloc _⟩
  by_cases h3 : 1099511627776 < b
  · have HN : Hid (¬ okP (a, b)) := by show ¬ _; unfold okP; simp only; omega
    go_enter Try.func19, Try.ntmps19
    go_wp2
    go_ret
    exact ⟨by first | rfl | (rw [if_neg HN.out]; rfl), (Ext.refl w).alloc _⟩
  · have HN : Hid (okP (a, b)) := ⟨by simp only; omega, by simp only; omega, by simp only; omega⟩
    go_enter Try.func19, Try.ntmps19
    go_wp2
    go_ret
    exact ⟨by first | rfl | (rw [if_pos HN.out]; rfl), (Ext.refl w).alloc _⟩
theorem Check_yes (q : Per) (w : World) (h : okP q) : Calls Try.prog 19 #[perV q] w (fun e w' => e = .returned (.int .i64 0) ∧ Ext w w') := by
  have := Check_ok' q.1 q.2 w
  rw [if_pos (show okP (q.1, q.2) from h)] at this
  exact this
theorem Check_no (q : Per) (w : World) (h : ¬ okP q) : Calls Try.prog 19 #[perV q] w (fun e w' => e = .returned (.int .i64 40) ∧ Ext w w') := by
  have := Check_ok' q.1 q.2 w
  rw [if_neg (show ¬ okP (q.1, q.2) from h)] at this
  exact this

def has (q : Per) (t : Int) : Bool := decide (q.1 ≤ t ∧ t < q.2)
set_option maxHeartbeats 4000000 in
theorem Has_ok (q : Per) (t : Int) (w : World) : Calls Try.prog 99 #[perV q, .int .i64 t] w (fun e w' => e = .returned (.bool (has q t)) ∧ Ext w w') := by
  obtain ⟨a, b⟩ := q
  go_enter Try.func99, Try.ntmps99
  go_wp2
  all_goals (go_ret; refine ⟨congrArg (fun b => Ending.returned (Value.bool b)) ?_, (Ext.refl w).alloc _⟩; rw [Bool.eq_iff_iff]; simp [has] <;> omega)

/-- Where both are. -/
def meetP (p q : Per) : Per := (max p.1 q.1, min p.2 q.2)
def both (p q : Per) : Prop := okP p ∧ okP q ∧ okP (meetP p q)

instance (p q : Per) : Decidable (both p q) := by unfold both; exact inferInstance
/-- What Overlap gives. -/
def OvPost (p q : Per) (w : World) (e : Ending) (w' : World) : Prop := Ext w w' ∧ e = .returned (.tuple (if both p q then #[perV (meetP p q), .bool true] else #[perV (0, 0), .bool false]))
theorem ov_no {p q : Per} {w : World} {e : Ending} {w' : World} (h : ¬ both p q) (hE : Ext w w') (he : e = .returned (.tuple #[perV (0, 0), .bool false])) : OvPost p q w e w' := ⟨hE, by rw [if_neg h]; exact he⟩
theorem ov_yes {p q r : Per} {w : World} {e : Ending} {w' : World} (h : both p q) (hm : meetP p q = r) (hE : Ext w w') (he : e = .returned (.tuple #[perV r, .bool true])) : OvPost p q w e w' := ⟨hE, by rw [if_pos h, hm]; exact he⟩

/-- Four blocks that a call has laid, one behind the other. -/
structure Four (w W : World) (o0 o1 o2 o3 : Obj) : Prop where
  b0 : W.heap[w.heap.size]? = some o0
  b1 : W.heap[w.heap.size + 1]? = some o1
  b2 : W.heap[w.heap.size + 1 + 1]? = some o2
  b3 : W.heap[w.heap.size + 1 + 1 + 1]? = some o3
theorem Four.ext {w W W' : World} {o0 o1 o2 o3 : Obj} (h : Four w W o0 o1 o2 o3) (he : Ext W W') : Four w W' o0 o1 o2 o3 := ⟨Ext.block he h.b0, Ext.block he h.b1, Ext.block he h.b2, Ext.block he h.b3⟩
theorem Four.new (w : World) (o0 o1 o2 o3 : Obj) : Four w ((((w.alloc o0).alloc o1).alloc o2).alloc o3) o0 o1 o2 o3 := by
  have s1 : (w.alloc o0).heap.size = w.heap.size + 1 := by simp
  have s2 : ((w.alloc o0).alloc o1).heap.size = w.heap.size + 1 + 1 := by simp
  have s3 : (((w.alloc o0).alloc o1).alloc o2).heap.size = w.heap.size + 1 + 1 + 1 := by simp
  refine ⟨blk_alloc (blk_alloc (blk_alloc (blk_new w o0))), ?_, ?_, ?_⟩
  · rw [← s1]; exact blk_alloc (blk_alloc (blk_new _ o1))
  · rw [← s2]; exact blk_alloc (blk_new _ o2)
  · rw [← s3]; exact blk_new _ o3
set_option maxHeartbeats 8000000 in
theorem Overlap_ok (p q : Per) (w : World) : Calls Try.prog 23 #[perV p, perV q] w (OvPost p q w) := by
  obtain ⟨a, b⟩ := p
  obtain ⟨c, d⟩ := q
  by_cases h1 : c ≤ a
  · by_cases h2 : b ≤ d
    · have HM : Hid (meetP (a, b) (c, d) = (a, b)) := by show _ = _; unfold meetP; simp only; congr 1 <;> omega
      go_enter Try.func23, Try.ntmps23
      by_cases hp : okP (a, b)
      · go_wp2_with fail
        refine (Check_yes (a, b) _ hp).mono ?_
        rintro e w1 ⟨rfl, hE1⟩
        have HF0 := Lib.hid (Four.ext (Four.new w _ _ _ _) hE1)
        have HE1 : Hid (Ext w w1) := (((((Ext.refl w).alloc _).alloc _).alloc _).alloc _).trans hE1
        clear hE1
        obtain ⟨q0, q1⟩ := blk2 HF0.out.b1
        by_cases hq : okP (c, d)
        · go_wp2_with fail
          refine (Check_yes (c, d) _ hq).mono ?_
          rintro e w2 ⟨rfl, hE2⟩
          have HF1 := Lib.hid (HF0.out.ext hE2)
          have HE2 : Hid (Ext w w2) := HE1.out.trans hE2
          clear hE2 q0 q1
          obtain ⟨s0, s1⟩ := blk2 HF1.out.b3
          by_cases hr : okP (a, b)
          · go_wp2_with fail
            refine (Check_yes (a, b) _ hr).mono ?_
            rintro e w3 ⟨rfl, hE3⟩
            have HF := Lib.hid (HF1.out.ext hE3)
            have HE : Hid (Ext w w3) := HE2.out.trans hE3
            have HH : Hid (both (a, b) (c, d)) := ⟨hp, hq, by rw [HM.out]; exact hr⟩
            clear hE3 s0 s1 hp hq hr
            obtain ⟨p0, p1⟩ := blk2 HF.out.b0
            obtain ⟨q0, q1⟩ := blk2 HF.out.b1
            obtain ⟨r0, r1⟩ := blk2 HF.out.b2
            obtain ⟨s0, s1⟩ := blk2 HF.out.b3
            have f0 := blk_frozen HF.out.b2 0
            have f1 := blk_frozen HF.out.b2 1
            have hsz := blk_lt HF.out.b3
            go_wp2
            (try simp only [Exit.inBlock, Exit.then])
            refine bodyPost_ret (v := .tuple #[perV (a, b), .bool true]) (by simp [results, Try.results23, go_sem, r0, r1]; try rfl) rfl ?_
            refine ov_yes HH.out HM.out ?_ rfl
            exact Below.setCell (p := ⟨w.heap.size + 1 + 1, 1, none⟩) (Below.setCell (p := ⟨w.heap.size + 1 + 1, 0, none⟩) HE.out (by simp; omega) _) (by simp; omega) _
          · go_wp2_with fail
            refine (Check_no (a, b) _ hr).mono ?_
            rintro e w3 ⟨rfl, hE3⟩
            have HF := Lib.hid (HF1.out.ext hE3)
            have HE : Hid (Ext w w3) := HE2.out.trans hE3
            have HH : Hid (¬ both (a, b) (c, d)) := fun h => hr (by have := h.2.2; rw [HM.out] at this; exact this)
            clear hE3 s0 s1 hp hq hr
            obtain ⟨p0, p1⟩ := blk2 HF.out.b0
            obtain ⟨q0, q1⟩ := blk2 HF.out.b1
            obtain ⟨r0, r1⟩ := blk2 HF.out.b2
            obtain ⟨s0, s1⟩ := blk2 HF.out.b3
            have f0 := blk_frozen HF.out.b2 0
            have f1 := blk_frozen HF.out.b2 1
            have hsz := blk_lt HF.out.b3
            go_wp2
            (try simp only [Exit.inBlock, Exit.then])
            refine bodyPost_ret (v := .tuple #[perV (0, 0), .bool false]) (by simp [results, Try.results23, go_sem, r0, r1]; try rfl) rfl ?_
            refine ov_no HH.out ?_ rfl
            exact Below.setCell (p := ⟨w.heap.size + 1 + 1, 1, none⟩) (Below.setCell (p := ⟨w.heap.size + 1 + 1, 0, none⟩) HE.out (by simp; omega) _) (by simp; omega) _
        · go_wp2_with fail
          refine (Check_no (c, d) _ hq).mono ?_
          rintro e w3 ⟨rfl, hE3⟩
          have HF := Lib.hid (HF0.out.ext hE3)
          have HE : Hid (Ext w w3) := HE1.out.trans hE3
          have HH : Hid (¬ both (a, b) (c, d)) := fun h => hq h.2.1
          clear hE3 q0 q1 hp hq
          obtain ⟨p0, p1⟩ := blk2 HF.out.b0
          obtain ⟨q0, q1⟩ := blk2 HF.out.b1
          obtain ⟨r0, r1⟩ := blk2 HF.out.b2
          obtain ⟨s0, s1⟩ := blk2 HF.out.b3
          have f0 := blk_frozen HF.out.b2 0
          have f1 := blk_frozen HF.out.b2 1
          have hsz := blk_lt HF.out.b3
          go_wp2
          (try simp only [Exit.inBlock, Exit.then])
          refine bodyPost_ret (v := .tuple #[perV (0, 0), .bool false]) (by simp [results, Try.results23, go_sem, r0, r1]; try rfl) rfl ?_
          refine ov_no HH.out ?_ rfl
          exact Below.setCell (p := ⟨w.heap.size + 1 + 1, 1, none⟩) (Below.setCell (p := ⟨w.heap.size + 1 + 1, 0, none⟩) HE.out (by simp; omega) _) (by simp; omega) _
      · go_wp2_with fail
        refine (Check_no (a, b) _ hp).mono ?_
        rintro e w3 ⟨rfl, hE3⟩
        have HF := Lib.hid (Four.ext (Four.new w _ _ _ _) hE3)
        have HE : Hid (Ext w w3) := (((((Ext.refl w).alloc _).alloc _).alloc _).alloc _).trans hE3
        have HH : Hid (¬ both (a, b) (c, d)) := fun h => hp h.1
        clear hE3 hp
        obtain ⟨p0, p1⟩ := blk2 HF.out.b0
        obtain ⟨q0, q1⟩ := blk2 HF.out.b1
        obtain ⟨r0, r1⟩ := blk2 HF.out.b2
        obtain ⟨s0, s1⟩ := blk2 HF.out.b3
        have f0 := blk_frozen HF.out.b2 0
        have f1 := blk_frozen HF.out.b2 1
        have hsz := blk_lt HF.out.b3
        go_wp2
        (try simp only [Exit.inBlock, Exit.then])
        refine bodyPost_ret (v := .tuple #[perV (0, 0), .bool false]) (by simp [results, Try.results23, go_sem, r0, r1]; try rfl) rfl ?_
        refine ov_no HH.out ?_ rfl
        exact Below.setCell (p := ⟨w.heap.size + 1 + 1, 1, none⟩) (Below.setCell (p := ⟨w.heap.size + 1 + 1, 0, none⟩) HE.out (by simp; omega) _) (by simp; omega) _
    · have HM : Hid (meetP (a, b) (c, d) = (a, d)) := by show _ = _; unfold meetP; simp only; congr 1 <;> omega
      go_enter Try.func23, Try.ntmps23
      by_cases hp : okP (a, b)
      · go_wp2_with fail
        refine (Check_yes (a, b) _ hp).mono ?_
        rintro e w1 ⟨rfl, hE1⟩
        have HF0 := Lib.hid (Four.ext (Four.new w _ _ _ _) hE1)
        have HE1 : Hid (Ext w w1) := (((((Ext.refl w).alloc _).alloc _).alloc _).alloc _).trans hE1
        clear hE1
        obtain ⟨q0, q1⟩ := blk2 HF0.out.b1
        by_cases hq : okP (c, d)
        · go_wp2_with fail
          refine (Check_yes (c, d) _ hq).mono ?_
          rintro e w2 ⟨rfl, hE2⟩
          have HF1 := Lib.hid (HF0.out.ext hE2)
          have HE2 : Hid (Ext w w2) := HE1.out.trans hE2
          clear hE2 q0 q1
          obtain ⟨s0, s1⟩ := blk2 HF1.out.b3
          by_cases hr : okP (a, d)
          · go_wp2_with fail
            refine (Check_yes (a, d) _ hr).mono ?_
            rintro e w3 ⟨rfl, hE3⟩
            have HF := Lib.hid (HF1.out.ext hE3)
            have HE : Hid (Ext w w3) := HE2.out.trans hE3
            have HH : Hid (both (a, b) (c, d)) := ⟨hp, hq, by rw [HM.out]; exact hr⟩
            clear hE3 s0 s1 hp hq hr
            obtain ⟨p0, p1⟩ := blk2 HF.out.b0
            obtain ⟨q0, q1⟩ := blk2 HF.out.b1
            obtain ⟨r0, r1⟩ := blk2 HF.out.b2
            obtain ⟨s0, s1⟩ := blk2 HF.out.b3
            have f0 := blk_frozen HF.out.b2 0
            have f1 := blk_frozen HF.out.b2 1
            have hsz := blk_lt HF.out.b3
            go_wp2
            (try simp only [Exit.inBlock, Exit.then])
            refine bodyPost_ret (v := .tuple #[perV (a, d), .bool true]) (by simp [results, Try.results23, go_sem, r0, r1]; try rfl) rfl ?_
            refine ov_yes HH.out HM.out ?_ rfl
            exact Below.setCell (p := ⟨w.heap.size + 1 + 1, 1, none⟩) (Below.setCell (p := ⟨w.heap.size + 1 + 1, 0, none⟩) HE.out (by simp; omega) _) (by simp; omega) _
          · go_wp2_with fail
            refine (Check_no (a, d) _ hr).mono ?_
            rintro e w3 ⟨rfl, hE3⟩
            have HF := Lib.hid (HF1.out.ext hE3)
            have HE : Hid (Ext w w3) := HE2.out.trans hE3
            have HH : Hid (¬ both (a, b) (c, d)) := fun h => hr (by have := h.2.2; rw [HM.out] at this; exact this)
            clear hE3 s0 s1 hp hq hr
            obtain ⟨p0, p1⟩ := blk2 HF.out.b0
            obtain ⟨q0, q1⟩ := blk2 HF.out.b1
            obtain ⟨r0, r1⟩ := blk2 HF.out.b2
            obtain ⟨s0, s1⟩ := blk2 HF.out.b3
            have f0 := blk_frozen HF.out.b2 0
            have f1 := blk_frozen HF.out.b2 1
            have hsz := blk_lt HF.out.b3
            go_wp2
            (try simp only [Exit.inBlock, Exit.then])
            refine bodyPost_ret (v := .tuple #[perV (0, 0), .bool false]) (by simp [results, Try.results23, go_sem, r0, r1]; try rfl) rfl ?_
            refine ov_no HH.out ?_ rfl
            exact Below.setCell (p := ⟨w.heap.size + 1 + 1, 1, none⟩) (Below.setCell (p := ⟨w.heap.size + 1 + 1, 0, none⟩) HE.out (by simp; omega) _) (by simp; omega) _
        · go_wp2_with fail
          refine (Check_no (c, d) _ hq).mono ?_
          rintro e w3 ⟨rfl, hE3⟩
          have HF := Lib.hid (HF0.out.ext hE3)
          have HE : Hid (Ext w w3) := HE1.out.trans hE3
          have HH : Hid (¬ both (a, b) (c, d)) := fun h => hq h.2.1
          clear hE3 q0 q1 hp hq
          obtain ⟨p0, p1⟩ := blk2 HF.out.b0
          obtain ⟨q0, q1⟩ := blk2 HF.out.b1
          obtain ⟨r0, r1⟩ := blk2 HF.out.b2
          obtain ⟨s0, s1⟩ := blk2 HF.out.b3
          have f0 := blk_frozen HF.out.b2 0
          have f1 := blk_frozen HF.out.b2 1
          have hsz := blk_lt HF.out.b3
          go_wp2
          (try simp only [Exit.inBlock, Exit.then])
          refine bodyPost_ret (v := .tuple #[perV (0, 0), .bool false]) (by simp [results, Try.results23, go_sem, r0, r1]; try rfl) rfl ?_
          refine ov_no HH.out ?_ rfl
          exact Below.setCell (p := ⟨w.heap.size + 1 + 1, 1, none⟩) (Below.setCell (p := ⟨w.heap.size + 1 + 1, 0, none⟩) HE.out (by simp; omega) _) (by simp; omega) _
      · go_wp2_with fail
        refine (Check_no (a, b) _ hp).mono ?_
        rintro e w3 ⟨rfl, hE3⟩
        have HF := Lib.hid (Four.ext (Four.new w _ _ _ _) hE3)
        have HE : Hid (Ext w w3) := (((((Ext.refl w).alloc _).alloc _).alloc _).alloc _).trans hE3
        have HH : Hid (¬ both (a, b) (c, d)) := fun h => hp h.1
        clear hE3 hp
        obtain ⟨p0, p1⟩ := blk2 HF.out.b0
        obtain ⟨q0, q1⟩ := blk2 HF.out.b1
        obtain ⟨r0, r1⟩ := blk2 HF.out.b2
        obtain ⟨s0, s1⟩ := blk2 HF.out.b3
        have f0 := blk_frozen HF.out.b2 0
        have f1 := blk_frozen HF.out.b2 1
        have hsz := blk_lt HF.out.b3
        go_wp2
        (try simp only [Exit.inBlock, Exit.then])
        refine bodyPost_ret (v := .tuple #[perV (0, 0), .bool false]) (by simp [results, Try.results23, go_sem, r0, r1]; try rfl) rfl ?_
        refine ov_no HH.out ?_ rfl
        exact Below.setCell (p := ⟨w.heap.size + 1 + 1, 1, none⟩) (Below.setCell (p := ⟨w.heap.size + 1 + 1, 0, none⟩) HE.out (by simp; omega) _) (by simp; omega) _
  · by_cases h2 : b ≤ d
    · have HM : Hid (meetP (a, b) (c, d) = (c, b)) := by show _ = _; unfold meetP; simp only; congr 1 <;> omega
      go_enter Try.func23, Try.ntmps23
      by_cases hp : okP (a, b)
      · go_wp2_with fail
        refine (Check_yes (a, b) _ hp).mono ?_
        rintro e w1 ⟨rfl, hE1⟩
        have HF0 := Lib.hid (Four.ext (Four.new w _ _ _ _) hE1)
        have HE1 : Hid (Ext w w1) := (((((Ext.refl w).alloc _).alloc _).alloc _).alloc _).trans hE1
        clear hE1
        obtain ⟨q0, q1⟩ := blk2 HF0.out.b1
        by_cases hq : okP (c, d)
        · go_wp2_with fail
          refine (Check_yes (c, d) _ hq).mono ?_
          rintro e w2 ⟨rfl, hE2⟩
          have HF1 := Lib.hid (HF0.out.ext hE2)
          have HE2 : Hid (Ext w w2) := HE1.out.trans hE2
          clear hE2 q0 q1
          obtain ⟨s0, s1⟩ := blk2 HF1.out.b3
          by_cases hr : okP (c, b)
          · go_wp2_with fail
            refine (Check_yes (c, b) _ hr).mono ?_
            rintro e w3 ⟨rfl, hE3⟩
            have HF := Lib.hid (HF1.out.ext hE3)
            have HE : Hid (Ext w w3) := HE2.out.trans hE3
            have HH : Hid (both (a, b) (c, d)) := ⟨hp, hq, by rw [HM.out]; exact hr⟩
            clear hE3 s0 s1 hp hq hr
            obtain ⟨p0, p1⟩ := blk2 HF.out.b0
            obtain ⟨q0, q1⟩ := blk2 HF.out.b1
            obtain ⟨r0, r1⟩ := blk2 HF.out.b2
            obtain ⟨s0, s1⟩ := blk2 HF.out.b3
            have f0 := blk_frozen HF.out.b2 0
            have f1 := blk_frozen HF.out.b2 1
            have hsz := blk_lt HF.out.b3
            go_wp2
            (try simp only [Exit.inBlock, Exit.then])
            refine bodyPost_ret (v := .tuple #[perV (c, b), .bool true]) (by simp [results, Try.results23, go_sem, r0, r1]; try rfl) rfl ?_
            refine ov_yes HH.out HM.out ?_ rfl
            exact Below.setCell (p := ⟨w.heap.size + 1 + 1, 1, none⟩) (Below.setCell (p := ⟨w.heap.size + 1 + 1, 0, none⟩) HE.out (by simp; omega) _) (by simp; omega) _
          · go_wp2_with fail
            refine (Check_no (c, b) _ hr).mono ?_
            rintro e w3 ⟨rfl, hE3⟩
            have HF := Lib.hid (HF1.out.ext hE3)
            have HE : Hid (Ext w w3) := HE2.out.trans hE3
            have HH : Hid (¬ both (a, b) (c, d)) := fun h => hr (by have := h.2.2; rw [HM.out] at this; exact this)
            clear hE3 s0 s1 hp hq hr
            obtain ⟨p0, p1⟩ := blk2 HF.out.b0
            obtain ⟨q0, q1⟩ := blk2 HF.out.b1
            obtain ⟨r0, r1⟩ := blk2 HF.out.b2
            obtain ⟨s0, s1⟩ := blk2 HF.out.b3
            have f0 := blk_frozen HF.out.b2 0
            have f1 := blk_frozen HF.out.b2 1
            have hsz := blk_lt HF.out.b3
            go_wp2
            (try simp only [Exit.inBlock, Exit.then])
            refine bodyPost_ret (v := .tuple #[perV (0, 0), .bool false]) (by simp [results, Try.results23, go_sem, r0, r1]; try rfl) rfl ?_
            refine ov_no HH.out ?_ rfl
            exact Below.setCell (p := ⟨w.heap.size + 1 + 1, 1, none⟩) (Below.setCell (p := ⟨w.heap.size + 1 + 1, 0, none⟩) HE.out (by simp; omega) _) (by simp; omega) _
        · go_wp2_with fail
          refine (Check_no (c, d) _ hq).mono ?_
          rintro e w3 ⟨rfl, hE3⟩
          have HF := Lib.hid (HF0.out.ext hE3)
          have HE : Hid (Ext w w3) := HE1.out.trans hE3
          have HH : Hid (¬ both (a, b) (c, d)) := fun h => hq h.2.1
          clear hE3 q0 q1 hp hq
          obtain ⟨p0, p1⟩ := blk2 HF.out.b0
          obtain ⟨q0, q1⟩ := blk2 HF.out.b1
          obtain ⟨r0, r1⟩ := blk2 HF.out.b2
          obtain ⟨s0, s1⟩ := blk2 HF.out.b3
          have f0 := blk_frozen HF.out.b2 0
          have f1 := blk_frozen HF.out.b2 1
          have hsz := blk_lt HF.out.b3
          go_wp2
          (try simp only [Exit.inBlock, Exit.then])
          refine bodyPost_ret (v := .tuple #[perV (0, 0), .bool false]) (by simp [results, Try.results23, go_sem, r0, r1]; try rfl) rfl ?_
          refine ov_no HH.out ?_ rfl
          exact Below.setCell (p := ⟨w.heap.size + 1 + 1, 1, none⟩) (Below.setCell (p := ⟨w.heap.size + 1 + 1, 0, none⟩) HE.out (by simp; omega) _) (by simp; omega) _
      · go_wp2_with fail
        refine (Check_no (a, b) _ hp).mono ?_
        rintro e w3 ⟨rfl, hE3⟩
        have HF := Lib.hid (Four.ext (Four.new w _ _ _ _) hE3)
        have HE : Hid (Ext w w3) := (((((Ext.refl w).alloc _).alloc _).alloc _).alloc _).trans hE3
        have HH : Hid (¬ both (a, b) (c, d)) := fun h => hp h.1
        clear hE3 hp
        obtain ⟨p0, p1⟩ := blk2 HF.out.b0
        obtain ⟨q0, q1⟩ := blk2 HF.out.b1
        obtain ⟨r0, r1⟩ := blk2 HF.out.b2
        obtain ⟨s0, s1⟩ := blk2 HF.out.b3
        have f0 := blk_frozen HF.out.b2 0
        have f1 := blk_frozen HF.out.b2 1
        have hsz := blk_lt HF.out.b3
        go_wp2
        (try simp only [Exit.inBlock, Exit.then])
        refine bodyPost_ret (v := .tuple #[perV (0, 0), .bool false]) (by simp [results, Try.results23, go_sem, r0, r1]; try rfl) rfl ?_
        refine ov_no HH.out ?_ rfl
        exact Below.setCell (p := ⟨w.heap.size + 1 + 1, 1, none⟩) (Below.setCell (p := ⟨w.heap.size + 1 + 1, 0, none⟩) HE.out (by simp; omega) _) (by simp; omega) _
    · have HM : Hid (meetP (a, b) (c, d) = (c, d)) := by show _ = _; unfold meetP; simp only; congr 1 <;> omega
      go_enter Try.func23, Try.ntmps23
      by_cases hp : okP (a, b)
      · go_wp2_with fail
        refine (Check_yes (a, b) _ hp).mono ?_
        rintro e w1 ⟨rfl, hE1⟩
        have HF0 := Lib.hid (Four.ext (Four.new w _ _ _ _) hE1)
        have HE1 : Hid (Ext w w1) := (((((Ext.refl w).alloc _).alloc _).alloc _).alloc _).trans hE1
        clear hE1
        obtain ⟨q0, q1⟩ := blk2 HF0.out.b1
        by_cases hq : okP (c, d)
        · go_wp2_with fail
          refine (Check_yes (c, d) _ hq).mono ?_
          rintro e w2 ⟨rfl, hE2⟩
          have HF1 := Lib.hid (HF0.out.ext hE2)
          have HE2 : Hid (Ext w w2) := HE1.out.trans hE2
          clear hE2 q0 q1
          obtain ⟨s0, s1⟩ := blk2 HF1.out.b3
          by_cases hr : okP (c, d)
          · go_wp2_with fail
            refine (Check_yes (c, d) _ hr).mono ?_
            rintro e w3 ⟨rfl, hE3⟩
            have HF := Lib.hid (HF1.out.ext hE3)
            have HE : Hid (Ext w w3) := HE2.out.trans hE3
            have HH : Hid (both (a, b) (c, d)) := ⟨hp, hq, by rw [HM.out]; exact hr⟩
            clear hE3 s0 s1 hp hq hr
            obtain ⟨p0, p1⟩ := blk2 HF.out.b0
            obtain ⟨q0, q1⟩ := blk2 HF.out.b1
            obtain ⟨r0, r1⟩ := blk2 HF.out.b2
            obtain ⟨s0, s1⟩ := blk2 HF.out.b3
            have f0 := blk_frozen HF.out.b2 0
            have f1 := blk_frozen HF.out.b2 1
            have hsz := blk_lt HF.out.b3
            go_wp2
            (try simp only [Exit.inBlock, Exit.then])
            refine bodyPost_ret (v := .tuple #[perV (c, d), .bool true]) (by simp [results, Try.results23, go_sem, r0, r1]; try rfl) rfl ?_
            refine ov_yes HH.out HM.out ?_ rfl
            exact Below.setCell (p := ⟨w.heap.size + 1 + 1, 1, none⟩) (Below.setCell (p := ⟨w.heap.size + 1 + 1, 0, none⟩) HE.out (by simp; omega) _) (by simp; omega) _
          · go_wp2_with fail
            refine (Check_no (c, d) _ hr).mono ?_
            rintro e w3 ⟨rfl, hE3⟩
            have HF := Lib.hid (HF1.out.ext hE3)
            have HE : Hid (Ext w w3) := HE2.out.trans hE3
            have HH : Hid (¬ both (a, b) (c, d)) := fun h => hr (by have := h.2.2; rw [HM.out] at this; exact this)
            clear hE3 s0 s1 hp hq hr
            obtain ⟨p0, p1⟩ := blk2 HF.out.b0
            obtain ⟨q0, q1⟩ := blk2 HF.out.b1
            obtain ⟨r0, r1⟩ := blk2 HF.out.b2
            obtain ⟨s0, s1⟩ := blk2 HF.out.b3
            have f0 := blk_frozen HF.out.b2 0
            have f1 := blk_frozen HF.out.b2 1
            have hsz := blk_lt HF.out.b3
            go_wp2
            (try simp only [Exit.inBlock, Exit.then])
            refine bodyPost_ret (v := .tuple #[perV (0, 0), .bool false]) (by simp [results, Try.results23, go_sem, r0, r1]; try rfl) rfl ?_
            refine ov_no HH.out ?_ rfl
            exact Below.setCell (p := ⟨w.heap.size + 1 + 1, 1, none⟩) (Below.setCell (p := ⟨w.heap.size + 1 + 1, 0, none⟩) HE.out (by simp; omega) _) (by simp; omega) _
        · go_wp2_with fail
          refine (Check_no (c, d) _ hq).mono ?_
          rintro e w3 ⟨rfl, hE3⟩
          have HF := Lib.hid (HF0.out.ext hE3)
          have HE : Hid (Ext w w3) := HE1.out.trans hE3
          have HH : Hid (¬ both (a, b) (c, d)) := fun h => hq h.2.1
          clear hE3 q0 q1 hp hq
          obtain ⟨p0, p1⟩ := blk2 HF.out.b0
          obtain ⟨q0, q1⟩ := blk2 HF.out.b1
          obtain ⟨r0, r1⟩ := blk2 HF.out.b2
          obtain ⟨s0, s1⟩ := blk2 HF.out.b3
          have f0 := blk_frozen HF.out.b2 0
          have f1 := blk_frozen HF.out.b2 1
          have hsz := blk_lt HF.out.b3
          go_wp2
          (try simp only [Exit.inBlock, Exit.then])
          refine bodyPost_ret (v := .tuple #[perV (0, 0), .bool false]) (by simp [results, Try.results23, go_sem, r0, r1]; try rfl) rfl ?_
          refine ov_no HH.out ?_ rfl
          exact Below.setCell (p := ⟨w.heap.size + 1 + 1, 1, none⟩) (Below.setCell (p := ⟨w.heap.size + 1 + 1, 0, none⟩) HE.out (by simp; omega) _) (by simp; omega) _
      · go_wp2_with fail
        refine (Check_no (a, b) _ hp).mono ?_
        rintro e w3 ⟨rfl, hE3⟩
        have HF := Lib.hid (Four.ext (Four.new w _ _ _ _) hE3)
        have HE : Hid (Ext w w3) := (((((Ext.refl w).alloc _).alloc _).alloc _).alloc _).trans hE3
        have HH : Hid (¬ both (a, b) (c, d)) := fun h => hp h.1
        clear hE3 hp
        obtain ⟨p0, p1⟩ := blk2 HF.out.b0
        obtain ⟨q0, q1⟩ := blk2 HF.out.b1
        obtain ⟨r0, r1⟩ := blk2 HF.out.b2
        obtain ⟨s0, s1⟩ := blk2 HF.out.b3
        have f0 := blk_frozen HF.out.b2 0
        have f1 := blk_frozen HF.out.b2 1
        have hsz := blk_lt HF.out.b3
        go_wp2
        (try simp only [Exit.inBlock, Exit.then])
        refine bodyPost_ret (v := .tuple #[perV (0, 0), .bool false]) (by simp [results, Try.results23, go_sem, r0, r1]; try rfl) rfl ?_
        refine ov_no HH.out ?_ rfl
        exact Below.setCell (p := ⟨w.heap.size + 1 + 1, 1, none⟩) (Below.setCell (p := ⟨w.heap.size + 1 + 1, 0, none⟩) HE.out (by simp; omega) _) (by simp; omega) _
end Go.Proofs.Ytkejjahlglldlaa
namespace Go.Proofs.Ytkejjahlglldlaa
open Go.RowKit

/-- The one row: a slice of one value, in memory of its own kind. -/
def RowOk (w : World) (v : Value) : Prop := ∃ (b cap : Nat) (cur : Array Value) (f : Nat × Nat), v = .slice (some ⟨b, 0, none⟩) 1 cap ∧ w.heap[b]? = some (.cells cur 93 f) ∧ Vals w (some ⟨b, 0, none⟩) [(1, 1, [])]
theorem RowOk.keep {w w' : World} {v : Value} (h : RowOk w v) (hk : ∀ (b : Nat) (cur : Array Value) (f : Nat × Nat), w.heap[b]? = some (.cells cur 93 f) → w'.heap[b]? = w.heap[b]?) : RowOk w' v := by
  obtain ⟨b, cap, cur, f, rfl, hb, hv⟩ := h
  have he := hk b cur f hb
  refine ⟨b, cap, cur, f, rfl, he.trans hb, fun hp => ?_⟩
  obtain ⟨lb, off, h1, h2⟩ := hv hp
  cases h1
  refine ⟨b, 0, rfl, fun i v hi => ?_⟩
  obtain ⟨c0, c1, c2⟩ := h2 i v hi
  exact ⟨(World.cell?_of_block (w := w) he).trans c0, (World.cell?_of_block (w := w) he).trans c1, (World.cell?_of_block (w := w) he).trans c2⟩
theorem RowOk.ext {w w' : World} {v : Value} (h : RowOk w v) (he : Ext w w') : RowOk w' v := h.keep fun b cur f hb => (Ext.block he hb).trans hb.symm
/-- .. behind a call that touched blocks of other kinds alone. -/
theorem RowOk.touch {S : Nat → Prop} {w w' : World} {v : Value} (h : RowOk w v) (ht : Touch S w w') (hn : ∀ k, S k → ∃ (cur : Array Value) (t : TypeId) (f : Nat × Nat), w.heap[k]? = some (.cells cur t f) ∧ t ≠ 93) : RowOk w' v :=
  h.keep fun b cur f hb => ht.block b (blk_lt hb) fun hs => by
    obtain ⟨cur', t, f', h1, h2⟩ := hn b hs
    rw [hb] at h1
    cases h1
    exact h2 rfl

abbrev Fct := Value × Per
def flatF : List Fct → List Value
  | [] => []
  | f :: r => f.1 :: .int .i64 f.2.1 :: .int .i64 f.2.2 :: flatF r
theorem flatF_append : ∀ a b : List Fct, flatF (a ++ b) = flatF a ++ flatF b
  | [], _ => rfl
  | q :: a, b => by simp [flatF, flatF_append a b]
theorem flatF_len : ∀ a : List Fct, (flatF a).length = a.length * 3
  | [] => rfl
  | q :: a => by simp [flatF, flatF_len a]; omega
theorem flatF_get : ∀ (fs : List Fct) (i : Nat) (f : Fct), fs[i]? = some f → (flatF fs)[i * 3]? = some f.1 ∧ (flatF fs)[i * 3 + 1]? = some (.int .i64 f.2.1) ∧ (flatF fs)[i * 3 + 2]? = some (.int .i64 f.2.2)
  | [], i, f, h => by simp at h
  | p :: fs, 0, f, h => by simp at h; subst h; simp [flatF]
  | p :: fs, i + 1, f, h => by
    have := flatF_get fs i f (by simpa using h)
    rw [show (i + 1) * 3 = i * 3 + 3 from by omega]
    simpa [flatF] using this
/-- Facts of the one row that a call owns: these periods. -/
def FSl (w : World) (g : Option Nat) (n cap : Nat) (ps : List Per) : Prop := ∃ fs : List Fct, Sl w 70 3 g n cap (flatF fs) ∧ fs.map (·.2) = ps ∧ ∀ f ∈ fs, RowOk w f.1
theorem FSl.ext {w w' : World} {g : Option Nat} {n cap : Nat} {ps : List Per} (h : FSl w g n cap ps) (he : Ext w w') : FSl w' g n cap ps := by
  obtain ⟨fs, h1, h2, h3⟩ := h
  exact ⟨fs, h1.ext he, h2, fun f hf => (h3 f hf).ext he⟩
theorem FSl.nil (w : World) : FSl w none 0 0 [] := ⟨[], Sl.nil _ _ _, rfl, by simp⟩
theorem FSl.count {w : World} {g : Option Nat} {n cap : Nat} {ps : List Per} (h : FSl w g n cap ps) : ps.length = n := by
  obtain ⟨fs, h1, h2, h3⟩ := h
  have hl := h1.len
  rw [flatF_len] at hl
  rw [← h2, List.length_map]
  omega
theorem FSl.touch {S : Nat → Prop} {w w' : World} {g : Option Nat} {n cap : Nat} {ps : List Per} (h : FSl w g n cap ps) (ht : Touch S w w') (hg : ∀ b, g = some b → ¬ S b) (hn : ∀ k, S k → ∃ (cur : Array Value) (t : TypeId) (f : Nat × Nat), w.heap[k]? = some (.cells cur t f) ∧ t ≠ 93) : FSl w' g n cap ps := by
  obtain ⟨fs, h1, h2, h3⟩ := h
  exact ⟨fs, h1.touch ht hg, h2, fun f hf => (h3 f hf).touch ht hn⟩
/-- A fact more behind an append. -/
theorem FSl.snoc {w w' : World} {g : Option Nat} {n cap g' cap' : Nat} {fs : List Fct} {ps : List Per} {v : Value} {q : Per} (h : Sl w 70 3 g n cap (flatF fs)) (hps : fs.map (·.2) = ps) (hr : ∀ f ∈ fs, RowOk w f.1) (hv : RowOk w v)
    (hs : Sl w' 70 3 (some g') (n + 1) cap' (flatF fs ++ [v, .int .i64 q.1, .int .i64 q.2])) (ht : Touch (fun k => g = some k) w w') : FSl w' (some g') (n + 1) cap' (ps ++ [q]) := by
  have hn : ∀ k, g = some k → ∃ (cur : Array Value) (t : TypeId) (f : Nat × Nat), w.heap[k]? = some (.cells cur t f) ∧ t ≠ 93 := by
    rintro k rfl
    obtain ⟨_, cur, hb, _⟩ := h
    exact ⟨cur, _, _, hb, by decide⟩
  refine ⟨fs ++ [(v, q)], ?_, by simp [hps], fun f hf => ?_⟩
  · rw [flatF_append]; exact hs
  · rcases List.mem_append.1 hf with hf | hf
    · exact (hr f hf).touch ht hn
    · rw [List.mem_singleton.1 hf]; exact hv.touch ht hn

theorem size_new (w : World) (o : Obj) : (w.alloc o).heap.size = w.heap.size + 1 := by simp
theorem blk_new_at {w : World} {n : Nat} (o : Obj) (h : w.heap.size = n) : (w.alloc o).heap[n]? = some o := by subst h; exact blk_new w o
theorem Touch.freshX {S : Nat → Prop} {a b c : World} (h : Ext a b) (k : Touch S b c) (hs : ∀ i, S i → a.heap.size ≤ i) : Ext a c :=
  Ext.trans' h (k.below h.size hs)
theorem row_new (w : World) : RowOk (w.alloc (.cells #[.int .i64 1, .int .i64 1, str []] 93)) (.slice (some ⟨w.heap.size, 0, none⟩) 1 1) := by
  have hb := blk_new w (.cells #[.int .i64 1, .int .i64 1, str []] 93)
  refine ⟨w.heap.size, 1, _, _, rfl, hb, vals_block (vs := [(1, 1, [])]) hb⟩
def OneInv (w : World) (ps : List Per) (n k : Nat) (v3 v8 : Value) (wr : World) : Prop :=
  ∃ (i : Nat) (g : Option Nat) (cap : Nat), i + k = n ∧ v8 = .int .i64 (i : Int) ∧ v3 = slv g i cap ∧ FSl wr g i cap (ps.take i) ∧ (∀ b, g = some b → w.heap.size ≤ b) ∧ Ext w wr
set_option maxRecDepth 100000 in
set_option maxHeartbeats 8000000 in
theorem one_ok (sv : Option Addr) (n cap : Nat) (ps : List Per) (w : World) (hn : ps.length = n) (hp : Pers w sv ps) (hsz : n ≤ 2199023255552) :
    Calls Try.prog 25 #[.slice sv n cap] w (fun e w' => ∃ g cap', e = .returned (slv g n cap') ∧ FSl w' g n cap' ps ∧ (∀ b, g = some b → w.heap.size ≤ b) ∧ Ext w w') := by
  have HN := Lib.hid hn; clear hn
  have HP := Lib.hid hp; clear hp
  go_enter Try.func25, Try.ntmps25
  go_wp2
  go_loopg [3, 8] n (fun k v3 v8 wr => OneInv w ps n k v3 v8 wr)
  case atStart => exact ⟨0, none, 0, by omega, rfl, rfl, by simpa using FSl.nil w, by simp, Ext.refl _⟩
  case round =>
    obtain ⟨i, g, cap', hik, rfl, rfl, hF, hg, hE⟩ := hrel
    have HIK := Lib.hid hik; clear hik
    have HF := Lib.hid hF; clear hF
    have HG := Lib.hid hg; clear hg
    have HE := Lib.hid hE; clear hE
    by_cases hlt : i < n
    · obtain ⟨lb, off, hsv, hcell⟩ := (HP.out.ext HE.out) (by have := HN.out; omega)
      subst hsv
      obtain ⟨⟨a, b⟩, hq⟩ : ∃ q, ps[i]? = some q := ⟨ps[i]'(by rw [HN.out]; exact hlt), by rw [List.getElem?_eq_getElem]⟩
      obtain ⟨c0, c1⟩ := hcell i _ hq
      simp only at c0 c1
      have hlb : lb < wr.heap.size := World.block_lt_of_cell? wr _ c0
      have HQ : Hid (ps.take (i + 1) = ps.take i ++ [(a, b)]) := by show _ = _; rw [List.take_add_one, hq]; rfl
      clear hcell hq
      obtain ⟨fs, hs, hps, hr⟩ := HF.out
      have HS := Lib.hid hs
      have HPS := Lib.hid hps
      have HR := Lib.hid hr
      clear hs hps hr
      go_wp2_with (at_builtin; refine (fun (h : True → _) => h trivial) ?_)
      intro _
      have hE3 := (((Ext.refl wr).alloc (.cells #[.int .i64 a, .int .i64 b] 45)).alloc (.cells #[.int .i64 1, .int .i64 1, str []] 93)).alloc (.cells #[.slice (some ⟨wr.heap.size + 1, 0, none⟩) 1 1, .int .i64 a, .int .i64 b] 70)
      have hrow := (row_new (wr.alloc (.cells #[.int .i64 a, .int .i64 b] 45))).ext ((Ext.refl _).alloc (.cells #[.slice (some ⟨wr.heap.size + 1, 0, none⟩) 1 1, .int .i64 a, .int .i64 b] 70))
      rw [size_new] at hrow
      have HE3 := Lib.hid hE3
      have HROW := Lib.hid hrow
      clear hE3 hrow
      refine app_lit ei_fact rfl (.tmp 12) (.tmp 17) rfl (g := g) (n := i) (cap := cap') (b := wr.heap.size + 1 + 1) (by rfl) (HS.out.ext HE3.out) (by rfl) rfl (blk_new_at _ (by simp)) (by simp [Value.oneCell']) (by omega) (by omega) ?_
      intro g5 cap5 w5 hS5 hT5 hat5
      have HF5 : Hid (FSl w5 (some g5) (i + 1) cap5 (ps.take (i + 1))) := by
        show FSl _ _ _ _ _
        rw [HQ.out]
        exact FSl.snoc (HS.out.ext HE3.out) HPS.out (fun f hf => (HR.out f hf).ext HE3.out) HROW.out hS5 hT5
      have HG5 : Hid (∀ b, some g5 = some b → w.heap.size ≤ b) := by
        intro k hk
        cases hk
        rcases hat5 with h | h
        · exact HG.out _ h
        · have := HE.out.size; simp at h; omega
      have HE5 : Hid (Ext w w5) := Touch.freshX (HE.out.trans HE3.out) hT5 (fun k hk => HG.out k hk)
      clear hS5 hT5 hat5
      go_wp2
      go_roundg (gk - 1)
      case measure => have := HIK.out; omega
      case rel => exact ⟨i + 1, some g5, cap5, by have := HIK.out; omega, by go_num, rfl, HF5.out, HG5.out, HE5.out⟩
    · go_wp2
      go_ret
      have hin : i = n := by have := HIK.out; omega
      subst hin
      have hF := HF.out
      rw [List.take_of_length_le (by rw [HN.out]; omega)] at hF
      exact ⟨g, cap', rfl, hF, HG.out, HE.out⟩
end Go.Proofs.Ytkejjahlglldlaa
namespace Go.Proofs.Ytkejjahlglldlaa
open Go.RowKit

/-- A slice whose cells have turned. -/
theorem Sl.of_cells {w w' : World} {e : TypeId} {size b n n' cap : Nat} {xs xs' : List Value} (h : Sl w e size (some b) n cap xs) (hn : n' ≤ n) {cur' : Array Value} (hb : w'.heap[b]? = some (.cells cur' e (0, 0))) (hs : cur'.size = cap * size) (hl : xs'.length = n' * size)
    (hc : ∀ (j : Nat) (u : Value), xs'[j]? = some u → cur'[j]? = some u) : Sl w' e size (some b) n' cap xs' := by
  obtain ⟨_, cur, _, h1, h2, h3, h4⟩ := h
  refine ⟨hl, cur', hb, by omega, h2, hs, ?_⟩
  apply List.ext_getElem?
  intro j
  rw [List.getElem?_take]
  have hle : n' * size ≤ cap * size := Nat.mul_le_mul_right size (by omega)
  split
  · rename_i hj
    have hj2 : j < xs'.length := by omega
    have := hc j _ (List.getElem?_eq_getElem hj2)
    rw [List.getElem?_eq_getElem hj2, Array.getElem?_toList, this]
  · rename_i hj
    rw [List.getElem?_eq_none (by omega)]
theorem Sl.raw {w : World} {e : TypeId} {size b n cap : Nat} {xs : List Value} (h : Sl w e size (some b) n cap xs) : ∃ cur : Array Value, w.heap[b]? = some (.cells cur e (0, 0)) ∧ cur.size = cap * size ∧ ∀ (j : Nat) (u : Value), xs[j]? = some u → cur[j]? = some u := by
  obtain ⟨_, cur, hb, h1, h2, h3, h4⟩ := h
  refine ⟨cur, hb, h3, fun j u hu => ?_⟩
  rw [← h4, List.getElem?_take] at hu
  split at hu
  · simpa using hu
  · cases hu
theorem PSl.set {w : World} {b n cap : Nat} {ps : List Per} (h : PSl w (some b) n cap ps) {i : Nat} (hi : i < n) (q : Per) : PSl ((w.setCell ⟨b, i * 2, none⟩ (.int .i64 q.1)).setCell ⟨b, i * 2 + 1, none⟩ (.int .i64 q.2)) (some b) n cap (ps.set i q) := by
  obtain ⟨cur, hb, hs, hc⟩ := h.raw
  have hcnt := h.count
  refine Sl.of_cells h (Nat.le_refl _) (blk_set (blk_set hb (i * 2) (.int .i64 q.1)) (i * 2 + 1) (.int .i64 q.2)) (by simp [hs]) (by rw [flatQ_len, List.length_set, hcnt]) ?_
  intro j u hu
  have hj : j < (ps.set i q).length * 2 := by rw [← flatQ_len]; exact (List.getElem?_eq_some_iff.1 hu).1
  rw [List.length_set] at hj
  have hjs : j < cur.size := by rw [hs]; have := h.le; omega
  obtain ⟨k, r, hk, hr⟩ : ∃ k r, j = k * 2 + r ∧ r < 2 := ⟨j / 2, j % 2, by omega, by omega⟩
  have hkl : k < ps.length := by omega
  by_cases hki : k = i
  · subst hki
    have hg := flatQ_get (ps.set k q) k q (by rw [List.getElem?_set_self hkl])
    obtain rfl | rfl : r = 0 ∨ r = 1 := by omega
    · rw [Nat.add_zero] at hk
      rw [hk] at hu ⊢
      rw [hg.1] at hu
      cases hu
      rw [Array.getElem?_setIfInBounds_ne (by omega), Array.getElem?_setIfInBounds_self_of_lt (by omega)]
    · rw [hk] at hu ⊢
      rw [hg.2] at hu
      cases hu
      rw [Array.getElem?_setIfInBounds_self_of_lt (by simp; omega)]
  · have hps : (ps.set i q)[k]? = some (ps[k]'hkl) := by rw [List.getElem?_set_ne (Ne.symm hki), List.getElem?_eq_getElem hkl]
    have hg := flatQ_get (ps.set i q) k _ hps
    have hg' := flatQ_get ps k _ (List.getElem?_eq_getElem hkl)
    obtain rfl | rfl : r = 0 ∨ r = 1 := by omega
    · rw [Nat.add_zero] at hk
      rw [hk] at hu ⊢
      rw [hg.1] at hu
      cases hu
      rw [Array.getElem?_setIfInBounds_ne (by omega), Array.getElem?_setIfInBounds_ne (by omega)]
      exact hc _ _ hg'.1
    · rw [hk] at hu ⊢
      rw [hg.2] at hu
      cases hu
      rw [Array.getElem?_setIfInBounds_ne (by omega), Array.getElem?_setIfInBounds_ne (by omega)]
      exact hc _ _ hg'.2

/-- A run of stores: the block stays a block. -/
theorem setCells_blk (b : Nat) (e : TypeId) (f : Nat × Nat) : ∀ (vs : List Value) (o : Nat) (w : World) (cur : Array Value), w.heap[b]? = some (.cells cur e f) → ∃ cur' : Array Value, (w.setCells b o vs).heap[b]? = some (.cells cur' e f) ∧ cur'.size = cur.size ∧ ∀ j, j < o → cur'[j]? = cur[j]?
  | [], o, w, cur, h => ⟨cur, h, rfl, fun _ _ => rfl⟩
  | v :: vs, o, w, cur, h => by
    obtain ⟨cur', h1, h2, h3⟩ := setCells_blk b e f vs (o + 1) (w.setCell ⟨b, o, none⟩ v) _ (blk_set h o v)
    refine ⟨cur', h1, by rw [h2]; simp, fun j hj => ?_⟩
    rw [h3 j (by omega), Array.getElem?_setIfInBounds_ne (by omega)]
theorem setCells_touch (b : Nat) : ∀ (vs : List Value) (o : Nat) (w : World), Touch (fun k => k = b) w (w.setCells b o vs)
  | [], _, w => Touch.refl _ w
  | v :: vs, o, w => (show Touch (fun k => k = b) w (w.setCell ⟨b, o, none⟩ v) from Touch.setCell (S := fun k => k = b) (Touch.refl _ w) (p := ⟨b, o, none⟩) (fun _ => rfl) v).trans (setCells_touch b vs (o + 1) _)
theorem run_clear_per (w : World) (ty : TypeId) (b o n c : Nat) (hn : 0 < n) (hc : ∀ j, j < n * 2 → (w.cell? ⟨b, o + j, none⟩).isSome = true) (hf : ∀ j, j < n * 2 → w.frozen? ⟨b, o + j, none⟩ = false) :
    ∃ vs : List Value, (Builtin.clear_ #[43] ty #[.slice (some ⟨b, o, none⟩) n c]).run Try.prog w = .ok (.tuple #[]) (w.setCells b o vs) := by
  have hz : (Value.agg #[.int .i64 0, .int .i64 0]).cells = #[.int .i64 0, .int .i64 0] := rfl
  refine ⟨(Builtin.zeroCells #[.int .i64 0, .int .i64 0] n).toList, ?_⟩
  have hlen : (Builtin.zeroCells #[Value.int .i64 0, .int .i64 0] n).toList.length = n * 2 := by simp [Builtin.zeroCells]
  have hst := run_storeCells_cells (P := Try.prog) b o (Builtin.zeroCells #[Value.int .i64 0, .int .i64 0] n).toList 0 w (by rw [hlen]; simpa using hc) (by rw [hlen]; simpa using hf) (by
    intro v hv'
    simp [Builtin.zeroCells] at hv'
    obtain ⟨i, hi, rfl⟩ := hv'
    have : i % 2 = 0 ∨ i % 2 = 1 := by omega
    rcases this with h | h <;> simp [h, Value.oneCell'])
  simp only [Nat.add_zero] at hst
  obtain ⟨m, rfl⟩ : ∃ m, n = m + 1 := ⟨n - 1, by omega⟩
  have hzv := fun w : World => Try.zeroValue45 w
  simp [Builtin.clear_, run_underlying Try.underlying43, hzv, hz, hst]

/-- append of no element: whatever the slice's address. -/
theorem app_none {P : Program} {w : World} {ops : Array Oper} {rest : List Oper} {o : Oper} {a : Act} {Q : Exit → Act → World → Prop} {t e : TypeId} {size bytes : Nat} (E : EI P t e size bytes) (hgd : o.guard = none) (s x : Operand)
    (ho : o.op = .call { callee := .builtin .append, args := #[s, x], argTypes := #[t, t] })
    {g n cap : Nat} {xs : List Value} (hs : a.eval s = slv (some g) n cap) (hown : Sl w e size (some g) n cap xs) {p : Addr} {c : Nat} (hx : a.eval x = .slice (some p) 0 c) (hb : n * bytes ≤ 140737488355328)
    (h : ∀ g' cap' w', Sl w' e size g' n cap' xs → Touch (fun k => some g = some k) w w' → (g' = some g ∨ g' = some w.heap.size) → wpList P ops Q rest (a.put o.dst (slv g' n cap')) w') : wpList P ops Q (o :: rest) a w := by
  obtain ⟨i, z, hi, hz, h2, h3, h4⟩ := E.info
  have h63 : n + 0 ≤ maxLen := by
    have := Nat.le_mul_of_pos_right n E.bpos
    simp only [maxLen]
    omega
  refine wpList_append_own_at w hgd s x t ho 0 e i z size bytes E.und hi hz h2 h3 h4 E.pos (slv (some g) n cap) n xs hs hown.owns p 0 c [] hx (by simp) (by simp) (by simp) h63 hb (Nat.zero_le _) ?_
  intro v' w' hown' hgr hnil hat
  have hgr' : Touch (fun k => some g = some k) w w' := by
    rw [ownBlock_slv] at hgr
    exact ⟨hgr.os, hgr.tape, hgr.output, hgr.size, fun k hk hn => hgr.block k hk fun e => hn e.symm⟩
  rcases hown'.2 with ⟨rfl, h0⟩ | ⟨g', cap', cur, rfl, _, hgg, h5, h6, h7, h8⟩
  · have := hnil.1 rfl
    simp [slv, adr] at this
  · refine h (some g') cap' w' (by simpa using Sl.of_owns hown') hgr' ?_
    rw [ownBlock_slv] at hat
    exact hat

/-- What the copy gives. -/
def ClonePost (n : Nat) (ps : List Per) (w : World) (e : Ending) (w' : World) : Prop :=
  ∃ g cap', e = .returned (slv g n cap') ∧ PSl w' g n cap' ps ∧ (∀ b, g = some b → w.heap.size ≤ b) ∧ Ext w w'
set_option maxRecDepth 100000 in
set_option maxHeartbeats 8000000 in
theorem Clone_ok (sv : Option Addr) (n cap : Nat) (ps : List Per) (w : World) (hn : ps.length = n) (hp : Pers w sv ps) (hnil : sv = none → n = 0) (hsz : n ≤ 2199023255552) :
    Calls Try.prog 66 #[.slice sv n cap] w (ClonePost n ps w) := by
  cases sv with
  | none =>
    obtain rfl := hnil rfl
    have hps : ps = [] := List.eq_nil_of_length_eq_zero hn
    subst hps
    have hnl : ∀ u : World, (binOp .eql 43 (.slice none 0 cap) (.slice none 0 0)).run Try.prog u = .ok (.bool true) u := fun u => Lib.run_eql_slice_nil u _ _ none 0 cap 0 0 Try.underlying43
    go_enter Try.func66, Try.ntmps66
    go_wp2
    go_ret
    exact ⟨none, 0, rfl, Sl.nil _ _ _, by simp, Ext.refl _⟩
  | some p =>
    have hempty : ∀ u : World, Sl (u.alloc (.cells #[] 45)) 45 2 (some u.heap.size) 0 0 [] := fun u => ⟨by simp, #[], blk_new u _, Nat.le_refl _, by simp [maxLen], rfl, rfl⟩
    have hnl : ∀ u : World, (binOp .eql 43 (.slice (some p) n cap) (.slice none 0 0)).run Try.prog u = .ok (.bool false) u := fun u => Lib.run_eql_slice_nil u _ _ (some p) n cap 0 0 Try.underlying43
    go_enter Try.func66, Try.ntmps66
    go_wp2_with (at_builtin; refine (fun (h : True → _) => h trivial) ?_)
    intro _
    by_cases hn0 : n = 0
    · subst hn0
      have hps : ps = [] := List.eq_nil_of_length_eq_zero hn
      subst hps
      refine app_none ei_per rfl (.tmp 5) (.tmp 6) rfl (g := w.heap.size) (n := 0) (cap := 0) (by rfl) (hempty w) (by rfl) (by omega) ?_
      intro g5 cap5 w5 hS5 hT5 hat5
      clear hnl hempty
      go_wp2
      go_ret
      refine ⟨g5, cap5, rfl, hS5, ?_, Touch.freshX ((Ext.refl w).alloc _) hT5 (fun k hk => by cases hk; exact Nat.le_refl _)⟩
      intro b hb
      subst hb
      rcases hat5 with h | h
      · cases h; exact Nat.le_refl _
      · cases h; simp
    · obtain ⟨lb, off, hsv, hcell⟩ := hp (by omega)
      cases hsv
      have hcl : ∀ j u, (flatQ ps)[j]? = some u → (w.alloc (.cells #[] 45)).cell? ⟨lb, off + j, none⟩ = some u := by
        intro j u hu
        refine Ext.cell ((Ext.refl w).alloc _) ?_
        have hj : j < ps.length * 2 := by rw [← flatQ_len]; exact (List.getElem?_eq_some_iff.1 hu).1
        obtain ⟨k, r, hk, hr⟩ : ∃ k r, j = k * 2 + r ∧ r < 2 := ⟨j / 2, j % 2, by omega, by omega⟩
        have hkl : k < ps.length := by omega
        have hg := flatQ_get ps k _ (List.getElem?_eq_getElem hkl)
        have hc := hcell k _ (List.getElem?_eq_getElem hkl)
        obtain rfl | rfl : r = 0 ∨ r = 1 := by omega
        · rw [Nat.add_zero] at hk
          rw [hk] at hu ⊢
          rw [hg.1] at hu; cases hu; exact hc.1
        · rw [hk] at hu ⊢
          rw [hg.2] at hu; cases hu
          rw [← Nat.add_assoc]; exact hc.2
      refine app_from ei_per rfl (.tmp 5) (.tmp 6) rfl (g := some w.heap.size) (n := 0) (cap := 0) (by rfl) (hempty w) (b := lb) (off := off) (m := n) (c := cap) (news := flatQ ps) (by rfl) (by rw [flatQ_len, hn]) hcl ?_ (by omega) (by omega) ?_
      · intro u hu
        obtain ⟨j, hj, rfl⟩ := List.getElem_of_mem hu
        have hj2 : j < ps.length * 2 := by rw [← flatQ_len]; exact hj
        obtain ⟨k, r, hk, hr⟩ : ∃ k r, j = k * 2 + r ∧ r < 2 := ⟨j / 2, j % 2, by omega, by omega⟩
        have hg := flatQ_get ps k _ (List.getElem?_eq_getElem (show k < ps.length by omega))
        have hg3 := List.getElem?_eq_getElem hj
        obtain rfl | rfl : r = 0 ∨ r = 1 := by omega
        · rw [Nat.add_zero] at hk
          subst hk
          rw [hg.1] at hg3
          rw [← Option.some.inj hg3]; rfl
        · subst hk
          rw [hg.2] at hg3
          rw [← Option.some.inj hg3]; rfl
      · intro g5 cap5 w5 hS5 hT5 hat5
        rw [Nat.zero_add] at hS5 ⊢
        clear hnl hempty hcl hcell
        go_wp2
        go_ret
        refine ⟨some g5, cap5, rfl, by simpa using hS5, ?_, Touch.freshX ((Ext.refl w).alloc _) hT5 (fun k hk => by cases hk; exact Nat.le_refl _)⟩
        intro b hb
        cases hb
        rcases hat5 with h | h
        · cases h; exact Nat.le_refl _
        · rw [h]; simp
end Go.Proofs.Ytkejjahlglldlaa
