/- period.Check, Has, Overlap; annalstop.one; the copy of a slice of periods: walked. -/
import Derived.Test.YtkejjahlglldlaaCoD
namespace Go.Proofs.Ytkejjahlglldlaa
open Go.RowKit

abbrev Per := Int × Int
/-- A slice of periods that is read. -/
def Pers (w : World) (sv : Option Addr) (ps : List Per) : Prop :=
  0 < ps.length → ∃ lb off, sv = some ⟨lb, off, none⟩ ∧ ∀ i q, ps[i]? = some q → w.cell? ⟨lb, off + i * 2, none⟩ = some (.int .i64 q.1) ∧ w.cell? ⟨lb, off + i * 2 + 1, none⟩ = some (.int .i64 q.2)
theorem Pers.ext {w w' : World} {sv : Option Addr} {ps : List Per} (h : Pers w sv ps) (he : Ext w w') : Pers w' sv ps := fun hn => by
  obtain ⟨lb, off, h1, h2⟩ := h hn
  exact ⟨lb, off, h1, fun i q hq => ⟨Ext.cell he (h2 i q hq).1, Ext.cell he (h2 i q hq).2⟩⟩
def flatQ : List Per → List Value
  | [] => []
  | q :: r => .int .i64 q.1 :: .int .i64 q.2 :: flatQ r
theorem flatQ_append : ∀ a b : List Per, flatQ (a ++ b) = flatQ a ++ flatQ b
  | [], _ => rfl
  | q :: a, b => by simp [flatQ, flatQ_append a b]
theorem flatQ_len : ∀ a : List Per, (flatQ a).length = a.length * 2
  | [] => rfl
  | q :: a => by simp [flatQ, flatQ_len a]; omega
theorem flatQ_get : ∀ (ps : List Per) (i : Nat) (q : Per), ps[i]? = some q → (flatQ ps)[i * 2]? = some (.int .i64 q.1) ∧ (flatQ ps)[i * 2 + 1]? = some (.int .i64 q.2)
  | [], i, q, h => by simp at h
  | p :: ps, 0, q, h => by simp at h; subst h; simp [flatQ]
  | p :: ps, i + 1, q, h => by
    have := flatQ_get ps i q (by simpa using h)
    rw [show (i + 1) * 2 = i * 2 + 2 from by omega]
    simpa [flatQ] using this
theorem ei_per : EI Try.prog 43 45 2 16 :=
  ⟨Try.underlying43, by
    obtain ⟨i, h1, h2, h3, h4⟩ := info_parts (P := Try.prog) (e := 45) (z := .agg #[.int .i64 0, .int .i64 0]) (size := 2) (bytes := 16) (by kernel_rfl)
    exact ⟨i, _, h1, h2, h3, h4, rfl⟩, by omega, by omega⟩
theorem ei_fact : EI Try.prog 65 70 3 40 :=
  ⟨Try.underlying65, by
    obtain ⟨i, h1, h2, h3, h4⟩ := info_parts (P := Try.prog) (e := 70) (z := .agg #[.slice none 0 0, .int .i64 0, .int .i64 0]) (size := 3) (bytes := 40) (by kernel_rfl)
    exact ⟨i, _, h1, h2, h3, h4, rfl⟩, by omega, by omega⟩
/-- Periods that a call owns. -/
abbrev PSl (w : World) (g : Option Nat) (n cap : Nat) (ps : List Per) : Prop := Sl w 45 2 g n cap (flatQ ps)
theorem PSl.pers {w : World} {g : Option Nat} {n cap : Nat} {ps : List Per} (h : PSl w g n cap ps) : Pers w (adr g) ps := fun hp => by
  have hl := h.len
  rw [flatQ_len] at hl
  obtain ⟨b, rfl⟩ := h.some_of_pos (by omega)
  refine ⟨b, 0, rfl, fun i q hq => ?_⟩
  obtain ⟨k0, k1⟩ := flatQ_get ps i q hq
  rw [Nat.zero_add]
  exact ⟨h.cell k0, h.cell k1⟩
theorem PSl.count {w : World} {g : Option Nat} {n cap : Nat} {ps : List Per} (h : PSl w g n cap ps) : ps.length = n := by
  have hl := h.len
  rw [flatQ_len] at hl
  omega

def okP (q : Per) : Prop := 0 ≤ q.1 ∧ q.1 < q.2 ∧ q.2 ≤ 1099511627776
instance (q : Per) : Decidable (okP q) := by unfold okP; exact inferInstance
abbrev perV (q : Per) : Value := .agg #[.int .i64 q.1, .int .i64 q.2]
set_option maxHeartbeats 4000000 in
theorem Check_ok' (a b : Int) (w : World) : Calls Try.prog 19 #[perV (a, b)] w (fun e w' => e = .returned (.int .i64 (if okP (a, b) then 0 else 40)) ∧ Ext w w') := by
  by_cases h1 : a < 0
  · have HN : Hid (¬ okP (a, b)) := by show ¬ _; unfold okP; simp only; omega
    go_enter Try.func19, Try.ntmps19
    go_wp2
    go_ret
    exact ⟨by first | rfl | (rw [if_neg HN.out]; rfl), (Ext.refl w).alloc _⟩
  by_cases h2 : b ≤ a
  · have HN : Hid (¬ okP (a, b)) := by show ¬ _; unfold okP; simp only; omega
    go_enter Try.func19, Try.ntmps19
    go_wp2
    go_ret
    exact ⟨by first | rfl | (rw [if_neg HN.out]; rfl), (Ext.refl w).alloc _⟩
  by_cases h3 : 1099511627776 < b
  · have HN : Hid (¬ okP (a, b)) := by show ¬ _; unfold okP; simp only; omega
    go_enter Try.func19, Try.ntmps19
    go_wp2
    go_ret
    exact ⟨by first | rfl | (rw [if_neg HN.out]; rfl), (Ext.refl w).alloc _⟩
  · have HN : Hid (okP (a, b)) := ⟨by simp only; omega, by simp only; omega, by simp only; omega⟩
    go_enter Try.func19, Try.ntmps19
    go_wp2
    go_ret
    exact ⟨by first | rfl | (rw [if_pos HN.out]; rfl), (Ext.refl w).alloc _⟩
theorem Check_yes (q : Per) (w : World) (h : okP q) : Calls Try.prog 19 #[perV q] w (fun e w' => e = .returned (.int .i64 0) ∧ Ext w w') := by
  have := Check_ok' q.1 q.2 w
  rw [if_pos (show okP (q.1, q.2) from h)] at this
  exact this
theorem Check_no (q : Per) (w : World) (h : ¬ okP q) : Calls Try.prog 19 #[perV q] w (fun e w' => e = .returned (.int .i64 40) ∧ Ext w w') := by
  have := Check_ok' q.1 q.2 w
  rw [if_neg (show ¬ okP (q.1, q.2) from h)] at this
  exact this

def has (q : Per) (t : Int) : Bool := decide (q.1 ≤ t ∧ t < q.2)
set_option maxHeartbeats 4000000 in
theorem Has_ok (q : Per) (t : Int) (w : World) : Calls Try.prog 99 #[perV q, .int .i64 t] w (fun e w' => e = .returned (.bool (has q t)) ∧ Ext w w') := by
  obtain ⟨a, b⟩ := q
  go_enter Try.func99, Try.ntmps99
  go_wp2
  all_goals (go_ret; refine ⟨congrArg (fun b => Ending.returned (Value.bool b)) ?_, (Ext.refl w).alloc _⟩; rw [Bool.eq_iff_iff]; simp [has] <;> omega)

/-- Where both are. -/
def meetP (p q : Per) : Per := (max p.1 q.1, min p.2 q.2)
def both (p q : Per) : Prop := okP p ∧ okP q ∧ okP (meetP p q)

instance (p q : Per) : Decidable (both p q) := by unfold both; exact inferInstance
/-- What Overlap gives. -/
def OvPost (p q : Per) (w : World) (e : Ending) (w' : World) : Prop := Ext w w' ∧ e = .returned (.tuple (if both p q then #[perV (meetP p q), .bool true] else #[perV (0, 0), .bool false]))
theorem ov_no {p q : Per} {w : World} {e : Ending} {w' : World} (h : ¬ both p q) (hE : Ext w w') (he : e = .returned (.tuple #[perV (0, 0), .bool false])) : OvPost p q w e w' := ⟨hE, by rw [if_neg h]; exact he⟩
theorem ov_yes {p q r : Per} {w : World} {e : Ending} {w' : World} (h : both p q) (hm : meetP p q = r) (hE : Ext w w') (he : e = .returned (.tuple #[perV r, .bool true])) : OvPost p q w e w' := ⟨hE, by rw [if_pos h, hm]; exact he⟩

/-- Four blocks that a call has laid, one behind the other. -/
structure Four (w W : World) (o0 o1 o2 o3 : Obj) : Prop where
  b0 : W.heap[w.heap.size]? = some o0
  b1 : W.heap[w.heap.size + 1]? = some o1
  b2 : W.heap[w.heap.size + 1 + 1]? = some o2
  b3 : W.heap[w.heap.size + 1 + 1 + 1]? = some o3
theorem Four.ext {w W W' : World} {o0 o1 o2 o3 : Obj} (h : Four w W o0 o1 o2 o3) (he : Ext W W') : Four w W' o0 o1 o2 o3 := ⟨Ext.block he h.b0, Ext.block he h.b1, Ext.block he h.b2, Ext.block he h.b3⟩
theorem Four.new (w : World) (o0 o1 o2 o3 : Obj) : Four w ((((w.alloc o0).alloc o1).alloc o2).alloc o3) o0 o1 o2 o3 := by
  have s1 : (w.alloc o0).heap.size = w.heap.size + 1 := by simp
  have s2 : ((w.alloc o0).alloc o1).heap.size = w.heap.size + 1 + 1 := by simp
  have s3 : (((w.alloc o0).alloc o1).alloc o2).heap.size = w.heap.size + 1 + 1 + 1 := by simp
  refine ⟨blk_alloc (blk_alloc (blk_alloc (blk_new w o0))), ?_, ?_, ?_⟩
  · rw [← s1]; exact blk_alloc (blk_alloc (blk_new _ o1))
  · rw [← s2]; exact blk_alloc (blk_new _ o2)
  · rw [← s3]; exact blk_new _ o3
set_option maxHeartbeats 8000000 in
theorem Overlap_ok (p q : Per) (w : World) : Calls Try.prog 23 #[perV p, perV q] w (OvPost p q w) := by
  obtain ⟨a, b⟩ := p
  obtain ⟨c, d⟩ := q
  by_cases h1 : c ≤ a
  · by_cases h2 : b ≤ d
    · have HM : Hid (meetP (a, b) (c, d) = (a, b)) := by show _ = _; unfold meetP; simp only; congr 1 <;> omega
      go_enter Try.func23, Try.ntmps23
      by_cases hp : okP (a, b)
      · go_wp2_with fail
        refine (Check_yes (a, b) _ hp).mono ?_
        rintro e w1 ⟨rfl, hE1⟩
        have HF0 := Lib.hid (Four.ext (Four.new w _ _ _ _) hE1)
        have HE1 : Hid (Ext w w1) := (((((Ext.refl w).alloc _).alloc _).alloc _).alloc _).trans hE1
        clear hE1
        obtain ⟨q0, q1⟩ := blk2 HF0.out.b1
        by_cases hq : okP (c, d)
        · go_wp2_with fail
          refine (Check_yes (c, d) _ hq).mono ?_
          rintro e w2 ⟨rfl, hE2⟩
          have HF1 := Lib.hid (HF0.out.ext hE2)
          have HE2 : Hid (Ext w w2) := HE1.out.trans hE2
          clear hE2 q0 q1
          obtain ⟨s0, s1⟩ := blk2 HF1.out.b3
          by_cases hr : okP (a, b)
          · go_wp2_with fail
            refine (Check_yes (a, b) _ hr).mono ?_
            rintro e w3 ⟨rfl, hE3⟩
            have HF := Lib.hid (HF1.out.ext hE3)
            have HE : Hid (Ext w w3) := HE2.out.trans hE3
            have HH : Hid (both (a, b) (c, d)) := ⟨hp, hq, by rw [HM.out]; exact hr⟩
            clear hE3 s0 s1 hp hq hr
            obtain ⟨p0, p1⟩ := blk2 HF.out.b0
            obtain ⟨q0, q1⟩ := blk2 HF.out.b1
            obtain ⟨r0, r1⟩ := blk2 HF.out.b2
            obtain ⟨s0, s1⟩ := blk2 HF.out.b3
            have f0 := blk_frozen HF.out.b2 0
            have f1 := blk_frozen HF.out.b2 1
            have hsz := blk_lt HF.out.b3
            go_wp2
            (try simp only [Exit.inBlock, Exit.then])
            refine bodyPost_ret (v := .tuple #[perV (a, b), .bool true]) (by simp [results, Try.results23, go_sem, r0, r1]; try rfl) rfl ?_
            refine ov_yes HH.out HM.out ?_ rfl
            exact Below.setCell (p := ⟨w.heap.size + 1 + 1, 1, none⟩) (Below.setCell (p := ⟨w.heap.size + 1 + 1, 0, none⟩) HE.out (by simp; omega) _) (by simp; omega) _
          · go_wp2_with fail
            refine (Check_no (a, b) _ hr).mono ?_
            rintro e w3 ⟨rfl, hE3⟩
            have HF := Lib.hid (HF1.out.ext hE3)
            have HE : Hid (Ext w w3) := HE2.out.trans hE3
            have HH : Hid (¬ both (a, b) (c, d)) := fun h => hr (by have := h.2.2; rw [HM.out] at this; exact this)
            clear hE3 s0 s1 hp hq hr
            obtain ⟨p0, p1⟩ := blk2 HF.out.b0
            obtain ⟨q0, q1⟩ := blk2 HF.out.b1
            obtain ⟨r0, r1⟩ := blk2 HF.out.b2
            obtain ⟨s0, s1⟩ := blk2 HF.out.b3
            have f0 := blk_frozen HF.out.b2 0
            have f1 := blk_frozen HF.out.b2 1
            have hsz := blk_lt HF.out.b3
            go_wp2
            (try simp only [Exit.inBlock, Exit.then])
            refine bodyPost_ret (v := .tuple #[perV (0, 0), .bool false]) (by simp [results, Try.results23, go_sem, r0, r1]; try rfl) rfl ?_
            refine ov_no HH.out ?_ rfl
            exact Below.setCell (p := ⟨w.heap.size + 1 + 1, 1, none⟩) (Below.setCell (p := ⟨w.heap.size + 1 + 1, 0, none⟩) HE.out (by simp; omega) _) (by simp; omega) _
        · go_wp2_with fail
          refine (Check_no (c, d) _ hq).mono ?_
          rintro e w3 ⟨rfl, hE3⟩
          have HF := Lib.hid (HF0.out.ext hE3)
          have HE : Hid (Ext w w3) := HE1.out.trans hE3
          have HH : Hid (¬ both (a, b) (c, d)) := fun h => hq h.2.1
          clear hE3 q0 q1 hp hq
          obtain ⟨p0, p1⟩ := blk2 HF.out.b0
          obtain ⟨q0, q1⟩ := blk2 HF.out.b1
          obtain ⟨r0, r1⟩ := blk2 HF.out.b2
          obtain ⟨s0, s1⟩ := blk2 HF.out.b3
          have f0 := blk_frozen HF.out.b2 0
          have f1 := blk_frozen HF.out.b2 1
          have hsz := blk_lt HF.out.b3
          go_wp2
          (try simp only [Exit.inBlock, Exit.then])
          refine bodyPost_ret (v := .tuple #[perV (0, 0), .bool false]) (by simp [results, Try.results23, go_sem, r0, r1]; try rfl) rfl ?_
          refine ov_no HH.out ?_ rfl
          exact Below.setCell (p := ⟨w.heap.size + 1 + 1, 1, none⟩) (Below.setCell (p := ⟨w.heap.size + 1 + 1, 0, none⟩) HE.out (by simp; omega) _) (by simp; omega) _
      · go_wp2_with fail
        refine (Check_no (a, b) _ hp).mono ?_
        rintro e w3 ⟨rfl, hE3⟩
        have HF := Lib.hid (Four.ext (Four.new w _ _ _ _) hE3)
        have HE : Hid (Ext w w3) := (((((Ext.refl w).alloc _).alloc _).alloc _).alloc _).trans hE3
        have HH : Hid (¬ both (a, b) (c, d)) := fun h => hp h.1
        clear hE3 hp
        obtain ⟨p0, p1⟩ := blk2 HF.out.b0
        obtain ⟨q0, q1⟩ := blk2 HF.out.b1
        obtain ⟨r0, r1⟩ := blk2 HF.out.b2
        obtain ⟨s0, s1⟩ := blk2 HF.out.b3
        have f0 := blk_frozen HF.out.b2 0
        have f1 := blk_frozen HF.out.b2 1
        have hsz := blk_lt HF.out.b3
        go_wp2
        (try simp only [Exit.inBlock, Exit.then])
        refine bodyPost_ret (v := .tuple #[perV (0, 0), .bool false]) (by simp [results, Try.results23, go_sem, r0, r1]; try rfl) rfl ?_
        refine ov_no HH.out ?_ rfl
        exact Below.setCell (p := ⟨w.heap.size + 1 + 1, 1, none⟩) (Below.setCell (p := ⟨w.heap.size + 1 + 1, 0, none⟩) HE.out (by simp; omega) _) (by simp; omega) _
    · have HM : Hid (meetP (a, b) (c, d) = (a, d)) := by show _ = _; unfold meetP; simp only; congr 1 <;> omega
      go_enter Try.func23, Try.ntmps23
      by_cases hp : okP (a, b)
      · go_wp2_with fail
        refine (Check_yes (a, b) _ hp).mono ?_
        rintro e w1 ⟨rfl, hE1⟩
        have HF0 := Lib.hid (Four.ext (Four.new w _ _ _ _) hE1)
        have HE1 : Hid (Ext w w1) := (((((Ext.refl w).alloc _).alloc _).alloc _).alloc _).trans hE1
        clear hE1
        obtain ⟨q0, q1⟩ := blk2 HF0.out.b1
        by_cases hq : okP (c, d)
        · go_wp2_with fail
          refine (Check_yes (c, d) _ hq).mono ?_
          rintro e w2 ⟨rfl, hE2⟩
          have HF1 := Lib.hid (HF0.out.ext hE2)
          have HE2 : Hid (Ext w w2) := HE1.out.trans hE2
          clear hE2 q0 q1
          obtain ⟨s0, s1⟩ := blk2 HF1.out.b3
          by_cases hr : okP (a, d)
          · go_wp2_with fail
            refine (Check_yes (a, d) _ hr).mono ?_
            rintro e w3 ⟨rfl, hE3⟩
            have HF := Lib.hid (HF1.out.ext hE3)
            have HE : Hid (Ext w w3) := HE2.out.trans hE3
            have HH : Hid (both (a, b) (c, d)) := ⟨hp, hq, by rw [HM.out]; exact hr⟩
            clear hE3 s0 s1 hp hq hr
            obtain ⟨p0, p1⟩ := blk2 HF.out.b0
            obtain ⟨q0, q1⟩ := blk2 HF.out.b1
            obtain ⟨r0, r1⟩ := blk2 HF.out.b2
            obtain ⟨s0, s1⟩ := blk2 HF.out.b3
            have f0 := blk_frozen HF.out.b2 0
            have f1 := blk_frozen HF.out.b2 1
            have hsz := blk_lt HF.out.b3
            go_wp2
            (try simp only [Exit.inBlock, Exit.then])
            refine bodyPost_ret (v := .tuple #[perV (a, d), .bool true]) (by simp [results, Try.results23, go_sem, r0, r1]; try rfl) rfl ?_
            refine ov_yes HH.out HM.out ?_ rfl
            exact Below.setCell (p := ⟨w.heap.size + 1 + 1, 1, none⟩) (Below.setCell (p := ⟨w.heap.size + 1 + 1, 0, none⟩) HE.out (by simp; omega) _) (by simp; omega) _
          · go_wp2_with fail
            refine (Check_no (a, d) _ hr).mono ?_
            rintro e w3 ⟨rfl, hE3⟩
            have HF := Lib.hid (HF1.out.ext hE3)
            have HE : Hid (Ext w w3) := HE2.out.trans hE3
            have HH : Hid (¬ both (a, b) (c, d)) := fun h => hr (by have := h.2.2; rw [HM.out] at this; exact this)
            clear hE3 s0 s1 hp hq hr
            obtain ⟨p0, p1⟩ := blk2 HF.out.b0
            obtain ⟨q0, q1⟩ := blk2 HF.out.b1
            obtain ⟨r0, r1⟩ := blk2 HF.out.b2
            obtain ⟨s0, s1⟩ := blk2 HF.out.b3
            have f0 := blk_frozen HF.out.b2 0
            have f1 := blk_frozen HF.out.b2 1
            have hsz := blk_lt HF.out.b3
            go_wp2
            (try simp only [Exit.inBlock, Exit.then])
            refine bodyPost_ret (v := .tuple #[perV (0, 0), .bool false]) (by simp [results, Try.results23, go_sem, r0, r1]; try rfl) rfl ?_
            refine ov_no HH.out ?_ rfl
            exact Below.setCell (p := ⟨w.heap.size + 1 + 1, 1, none⟩) (Below.setCell (p := ⟨w.heap.size + 1 + 1, 0, none⟩) HE.out (by simp; omega) _) (by simp; omega) _
        · go_wp2_with fail
          refine (Check_no (c, d) _ hq).mono ?_
          rintro e w3 ⟨rfl, hE3⟩
          have HF := Lib.hid (HF0.out.ext hE3)
          have HE : Hid (Ext w w3) := HE1.out.trans hE3
          have HH : Hid (¬ both (a, b) (c, d)) := fun h => hq h.2.1
          clear hE3 q0 q1 hp hq
          obtain ⟨p0, p1⟩ := blk2 HF.out.b0
          obtain ⟨q0, q1⟩ := blk2 HF.out.b1
          obtain ⟨r0, r1⟩ := blk2 HF.out.b2
          obtain ⟨s0, s1⟩ := blk2 HF.out.b3
          have f0 := blk_frozen HF.out.b2 0
          have f1 := blk_frozen HF.out.b2 1
          have hsz := blk_lt HF.out.b3
          go_wp2
          (try simp only [Exit.inBlock, Exit.then])
          refine bodyPost_ret (v := .tuple #[perV (0, 0), .bool false]) (by simp [results, Try.results23, go_sem, r0, r1]; try rfl) rfl ?_
          refine ov_no HH.out ?_ rfl
          exact Below.setCell (p := ⟨w.heap.size + 1 + 1, 1, none⟩) (Below.setCell (p := ⟨w.heap.size + 1 + 1, 0, none⟩) HE.out (by simp; omega) _) (by simp; omega) _
      · go_wp2_with fail
        refine (Check_no (a, b) _ hp).mono ?_
        rintro e w3 ⟨rfl, hE3⟩
        have HF := Lib.hid (Four.ext (Four.new w _ _ _ _) hE3)
        have HE : Hid (Ext w w3) := (((((Ext.refl w).alloc _).alloc _).alloc _).alloc _).trans hE3
        have HH : Hid (¬ both (a, b) (c, d)) := fun h => hp h.1
        clear hE3 hp
        obtain ⟨p0, p1⟩ := blk2 HF.out.b0
        obtain ⟨q0, q1⟩ := blk2 HF.out.b1
        obtain ⟨r0, r1⟩ := blk2 HF.out.b2
        obtain ⟨s0, s1⟩ := blk2 HF.out.b3
        have f0 := blk_frozen HF.out.b2 0
        have f1 := blk_frozen HF.out.b2 1
        have hsz := blk_lt HF.out.b3
        go_wp2
        (try simp only [Exit.inBlock, Exit.then])
        refine bodyPost_ret (v := .tuple #[perV (0, 0), .bool false]) (by simp [results, Try.results23, go_sem, r0, r1]; try rfl) rfl ?_
        refine ov_no HH.out ?_ rfl
        exact Below.setCell (p := ⟨w.heap.size + 1 + 1, 1, none⟩) (Below.setCell (p := ⟨w.heap.size + 1 + 1, 0, none⟩) HE.out (by simp; omega) _) (by simp; omega) _
  · by_cases h2 : b ≤ d
    · have HM : Hid (meetP (a, b) (c, d) = (c, b)) := by show _ = _; unfold meetP; simp only; congr 1 <;> omega
      go_enter Try.func23, Try.ntmps23
      by_cases hp : okP (a, b)
      · go_wp2_with fail
        refine (Check_yes (a, b) _ hp).mono ?_
        rintro e w1 ⟨rfl, hE1⟩
        have HF0 := Lib.hid (Four.ext (Four.new w _ _ _ _) hE1)
        have HE1 : Hid (Ext w w1) := (((((Ext.refl w).alloc _).alloc _).alloc _).alloc _).trans hE1
        clear hE1
        obtain ⟨q0, q1⟩ := blk2 HF0.out.b1
        by_cases hq : okP (c, d)
        · go_wp2_with fail
          refine (Check_yes (c, d) _ hq).mono ?_
          rintro e w2 ⟨rfl, hE2⟩
          have HF1 := Lib.hid (HF0.out.ext hE2)
          have HE2 : Hid (Ext w w2) := HE1.out.trans hE2
          clear hE2 q0 q1
          obtain ⟨s0, s1⟩ := blk2 HF1.out.b3
          by_cases hr : okP (c, b)
          · go_wp2_with fail
            refine (Check_yes (c, b) _ hr).mono ?_
            rintro e w3 ⟨rfl, hE3⟩
            have HF := Lib.hid (HF1.out.ext hE3)
            have HE : Hid (Ext w w3) := HE2.out.trans hE3
            have HH : Hid (both (a, b) (c, d)) := ⟨hp, hq, by rw [HM.out]; exact hr⟩
            clear hE3 s0 s1 hp hq hr
            obtain ⟨p0, p1⟩ := blk2 HF.out.b0
            obtain ⟨q0, q1⟩ := blk2 HF.out.b1
            obtain ⟨r0, r1⟩ := blk2 HF.out.b2
            obtain ⟨s0, s1⟩ := blk2 HF.out.b3
            have f0 := blk_frozen HF.out.b2 0
            have f1 := blk_frozen HF.out.b2 1
            have hsz := blk_lt HF.out.b3
            go_wp2
            (try simp only [Exit.inBlock, Exit.then])
            refine bodyPost_ret (v := .tuple #[perV (c, b), .bool true]) (by simp [results, Try.results23, go_sem, r0, r1]; try rfl) rfl ?_
            refine ov_yes HH.out HM.out ?_ rfl
            exact Below.setCell (p := ⟨w.heap.size + 1 + 1, 1, none⟩) (Below.setCell (p := ⟨w.heap.size + 1 + 1, 0, none⟩) HE.out (by simp; omega) _) (by simp; omega) _
          · go_wp2_with fail
            refine (Check_no (c, b) _ hr).mono ?_
            rintro e w3 ⟨rfl, hE3⟩
            have HF := Lib.hid (HF1.out.ext hE3)
            have HE : Hid (Ext w w3) := HE2.out.trans hE3
            have HH : Hid (¬ both (a, b) (c, d)) := fun h => hr (by have := h.2.2; rw [HM.out] at this; exact this)
            clear hE3 s0 s1 hp hq hr
            obtain ⟨p0, p1⟩ := blk2 HF.out.b0
            obtain ⟨q0, q1⟩ := blk2 HF.out.b1
            obtain ⟨r0, r1⟩ := blk2 HF.out.b2
            obtain ⟨s0, s1⟩ := blk2 HF.out.b3
            have f0 := blk_frozen HF.out.b2 0
            have f1 := blk_frozen HF.out.b2 1
            have hsz := blk_lt HF.out.b3
            go_wp2
            (try simp only [Exit.inBlock, Exit.then])
            refine bodyPost_ret (v := .tuple #[perV (0, 0), .bool false]) (by simp [results, Try.results23, go_sem, r0, r1]; try rfl) rfl ?_
            refine ov_no HH.out ?_ rfl
            exact Below.setCell (p := ⟨w.heap.size + 1 + 1, 1, none⟩) (Below.setCell (p := ⟨w.heap.size + 1 + 1, 0, none⟩) HE.out (by simp; omega) _) (by simp; omega) _
        · go_wp2_with fail
          refine (Check_no (c, d) _ hq).mono ?_
          rintro e w3 ⟨rfl, hE3⟩
          have HF := Lib.hid (HF0.out.ext hE3)
          have HE : Hid (Ext w w3) := HE1.out.trans hE3
          have HH : Hid (¬ both (a, b) (c, d)) := fun h => hq h.2.1
          clear hE3 q0 q1 hp hq
          obtain ⟨p0, p1⟩ := blk2 HF.out.b0
          obtain ⟨q0, q1⟩ := blk2 HF.out.b1
          obtain ⟨r0, r1⟩ := blk2 HF.out.b2
          obtain ⟨s0, s1⟩ := blk2 HF.out.b3
          have f0 := blk_frozen HF.out.b2 0
          have f1 := blk_frozen HF.out.b2 1
          have hsz := blk_lt HF.out.b3
          go_wp2
          (try simp only [Exit.inBlock, Exit.then])
          refine bodyPost_ret (v := .tuple #[perV (0, 0), .bool false]) (by simp [results, Try.results23, go_sem, r0, r1]; try rfl) rfl ?_
          refine ov_no HH.out ?_ rfl
          exact Below.setCell (p := ⟨w.heap.size + 1 + 1, 1, none⟩) (Below.setCell (p := ⟨w.heap.size + 1 + 1, 0, none⟩) HE.out (by simp; omega) _) (by simp; omega) _
      · go_wp2_with fail
        refine (Check_no (a, b) _ hp).mono ?_
        rintro e w3 ⟨rfl, hE3⟩
        have HF := Lib.hid (Four.ext (Four.new w _ _ _ _) hE3)
        have HE : Hid (Ext w w3) := (((((Ext.refl w).alloc _).alloc _).alloc _).alloc _).trans hE3
        have HH : Hid (¬ both (a, b) (c, d)) := fun h => hp h.1
        clear hE3 hp
        obtain ⟨p0, p1⟩ := blk2 HF.out.b0
        obtain ⟨q0, q1⟩ := blk2 HF.out.b1
        obtain ⟨r0, r1⟩ := blk2 HF.out.b2
        obtain ⟨s0, s1⟩ := blk2 HF.out.b3
        have f0 := blk_frozen HF.out.b2 0
        have f1 := blk_frozen HF.out.b2 1
        have hsz := blk_lt HF.out.b3
        go_wp2
        (try simp only [Exit.inBlock, Exit.then])
        refine bodyPost_ret (v := .tuple #[perV (0, 0), .bool false]) (by simp [results, Try.results23, go_sem, r0, r1]; try rfl) rfl ?_
        refine ov_no HH.out ?_ rfl
        exact Below.setCell (p := ⟨w.heap.size + 1 + 1, 1, none⟩) (Below.setCell (p := ⟨w.heap.size + 1 + 1, 0, none⟩) HE.out (by simp; omega) _) (by simp; omega) _
    · have HM : Hid (meetP (a, b) (c, d) = (c, d)) := by show _ = _; unfold meetP; simp only; congr 1 <;> omega
      go_enter Try.func23, Try.ntmps23
      by_cases hp : okP (a, b)
      · go_wp2_with fail
        refine (Check_yes (a, b) _ hp).mono ?_
        rintro e w1 ⟨rfl, hE1⟩
        have HF0 := Lib.hid (Four.ext (Four.new w _ _ _ _) hE1)
        have HE1 : Hid (Ext w w1) := (((((Ext.refl w).alloc _).alloc _).alloc _).alloc _).trans hE1
        clear hE1
        obtain ⟨q0, q1⟩ := blk2 HF0.out.b1
        by_cases hq : okP (c, d)
        · go_wp2_with fail
          refine (Check_yes (c, d) _ hq).mono ?_
          rintro e w2 ⟨rfl, hE2⟩
          have HF1 := Lib.hid (HF0.out.ext hE2)
          have HE2 : Hid (Ext w w2) := HE1.out.trans hE2
          clear hE2 q0 q1
          obtain ⟨s0, s1⟩ := blk2 HF1.out.b3
          by_cases hr : okP (c, d)
          · go_wp2_with fail
            refine (Check_yes (c, d) _ hr).mono ?_
            rintro e w3 ⟨rfl, hE3⟩
            have HF := Lib.hid (HF1.out.ext hE3)
            have HE : Hid (Ext w w3) := HE2.out.trans hE3
            have HH : Hid (both (a, b) (c, d)) := ⟨hp, hq, by rw [HM.out]; exact hr⟩
            clear hE3 s0 s1 hp hq hr
            obtain ⟨p0, p1⟩ := blk2 HF.out.b0
            obtain ⟨q0, q1⟩ := blk2 HF.out.b1
            obtain ⟨r0, r1⟩ := blk2 HF.out.b2
            obtain ⟨s0, s1⟩ := blk2 HF.out.b3
            have f0 := blk_frozen HF.out.b2 0
            have f1 := blk_frozen HF.out.b2 1
            have hsz := blk_lt HF.out.b3
            go_wp2
            (try simp only [Exit.inBlock, Exit.then])
            refine bodyPost_ret (v := .tuple #[perV (c, d), .bool true]) (by simp [results, Try.results23, go_sem, r0, r1]; try rfl) rfl ?_
            refine ov_yes HH.out HM.out ?_ rfl
            exact Below.setCell (p := ⟨w.heap.size + 1 + 1, 1, none⟩) (Below.setCell (p := ⟨w.heap.size + 1 + 1, 0, none⟩) HE.out (by simp; omega) _) (by simp; omega) _
          · go_wp2_with fail
            refine (Check_no (c, d) _ hr).mono ?_
            rintro e w3 ⟨rfl, hE3⟩
            have HF := Lib.hid (HF1.out.ext hE3)
            have HE : Hid (Ext w w3) := HE2.out.trans hE3
            have HH : Hid (¬ both (a, b) (c, d)) := fun h => hr (by have := h.2.2; rw [HM.out] at this; exact this)
            clear hE3 s0 s1 hp hq hr
            obtain ⟨p0, p1⟩ := blk2 HF.out.b0
            obtain ⟨q0, q1⟩ := blk2 HF.out.b1
            obtain ⟨r0, r1⟩ := blk2 HF.out.b2
            obtain ⟨s0, s1⟩ := blk2 HF.out.b3
            have f0 := blk_frozen HF.out.b2 0
            have f1 := blk_frozen HF.out.b2 1
            have hsz := blk_lt HF.out.b3
            go_wp2
            (try simp only [Exit.inBlock, Exit.then])
            refine bodyPost_ret (v := .tuple #[perV (0, 0), .bool false]) (by simp [results, Try.results23, go_sem, r0, r1]; try rfl) rfl ?_
            refine ov_no HH.out ?_ rfl
            exact Below.setCell (p := ⟨w.heap.size + 1 + 1, 1, none⟩) (Below.setCell (p := ⟨w.heap.size + 1 + 1, 0, none⟩) HE.out (by simp; omega) _) (by simp; omega) _
        · go_wp2_with fail
          refine (Check_no (c, d) _ hq).mono ?_
          rintro e w3 ⟨rfl, hE3⟩
          have HF := Lib.hid (HF0.out.ext hE3)
          have HE : Hid (Ext w w3) := HE1.out.trans hE3
          have HH : Hid (¬ both (a, b) (c, d)) := fun h => hq h.2.1
          clear hE3 q0 q1 hp hq
          obtain ⟨p0, p1⟩ := blk2 HF.out.b0
          obtain ⟨q0, q1⟩ := blk2 HF.out.b1
          obtain ⟨r0, r1⟩ := blk2 HF.out.b2
          obtain ⟨s0, s1⟩ := blk2 HF.out.b3
          have f0 := blk_frozen HF.out.b2 0
          have f1 := blk_frozen HF.out.b2 1
          have hsz := blk_lt HF.out.b3
          go_wp2
          (try simp only [Exit.inBlock, Exit.then])
          refine bodyPost_ret (v := .tuple #[perV (0, 0), .bool false]) (by simp [results, Try.results23, go_sem, r0, r1]; try rfl) rfl ?_
          refine ov_no HH.out ?_ rfl
          exact Below.setCell (p := ⟨w.heap.size + 1 + 1, 1, none⟩) (Below.setCell (p := ⟨w.heap.size + 1 + 1, 0, none⟩) HE.out (by simp; omega) _) (by simp; omega) _
      · go_wp2_with fail
        refine (Check_no (a, b) _ hp).mono ?_
        rintro e w3 ⟨rfl, hE3⟩
        have HF := Lib.hid (Four.ext (Four.new w _ _ _ _) hE3)
        have HE : Hid (Ext w w3) := (((((Ext.refl w).alloc _).alloc _).alloc _).alloc _).trans hE3
        have HH : Hid (¬ both (a, b) (c, d)) := fun h => hp h.1
        clear hE3 hp
        obtain ⟨p0, p1⟩ := blk2 HF.out.b0
        obtain ⟨q0, q1⟩ := blk2 HF.out.b1
        obtain ⟨r0, r1⟩ := blk2 HF.out.b2
        obtain ⟨s0, s1⟩ := blk2 HF.out.b3
        have f0 := blk_frozen HF.out.b2 0
        have f1 := blk_frozen HF.out.b2 1
        have hsz := blk_lt HF.out.b3
        go_wp2
        (try simp only [Exit.inBlock, Exit.then])
        refine bodyPost_ret (v := .tuple #[perV (0, 0), .bool false]) (by simp [results, Try.results23, go_sem, r0, r1]; try rfl) rfl ?_
        refine ov_no HH.out ?_ rfl
        exact Below.setCell (p := ⟨w.heap.size + 1 + 1, 1, none⟩) (Below.setCell (p := ⟨w.heap.size + 1 + 1, 0, none⟩) HE.out (by simp; omega) _) (by simp; omega) _
end Go.Proofs.Ytkejjahlglldlaa
