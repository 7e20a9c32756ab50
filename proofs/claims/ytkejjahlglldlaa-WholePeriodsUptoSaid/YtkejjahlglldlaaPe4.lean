/- period.Union's two functions; IndexFunc, DeleteFunc at periods: walked. -/
import Derived.Test.YtkejjahlglldlaaPe3
namespace Go.Proofs.Ytkejjahlglldlaa
open Go.RowKit

set_option maxHeartbeats 4000000 in
theorem bad_ok (q : Per) (w : World) : Calls Try.prog 67 #[perV q] w (fun e w' => e = .returned (.bool (!decide (okP q))) ∧ Ext w w') := by
  obtain ⟨a, b⟩ := q
  by_cases h : okP (a, b)
  · have hd : (!decide (okP (a, b))) = false := by simp [h]
    rw [hd]
    go_enter Try.func67, Try.ntmps67
    go_wp2_with fail
    refine (Check_yes (a, b) _ h).mono ?_
    rintro e w1 ⟨rfl, hE⟩
    clear hd h
    go_wp2
    go_ret
    exact ⟨rfl, ((Ext.refl w).alloc _).trans hE⟩
  · have hd : (!decide (okP (a, b))) = true := by simp [h]
    rw [hd]
    go_enter Try.func67, Try.ntmps67
    go_wp2_with fail
    refine (Check_no (a, b) _ h).mono ?_
    rintro e w1 ⟨rfl, hE⟩
    clear hd h
    go_wp2
    go_ret
    exact ⟨rfl, ((Ext.refl w).alloc _).trans hE⟩

/-- Where the first that is no period stands, or -1. -/
def IdxPost (ps : List Per) (n : Nat) (w : World) (e : Ending) (w' : World) : Prop :=
  Ext w w' ∧ ((e = .returned (.int .i64 (-1)) ∧ ∀ q ∈ ps, okP q) ∨ ∃ i q, i < n ∧ e = .returned (.int .i64 (i : Int)) ∧ ps[i]? = some q ∧ ¬ okP q ∧ ∀ r ∈ ps.take i, okP r)
set_option maxRecDepth 100000 in
set_option maxHeartbeats 8000000 in
theorem IndexFunc_ok (sv : Option Addr) (n cap : Nat) (ps : List Per) (w : World) (hn : ps.length = n) (hp : Pers w sv ps) (hsz : n ≤ 2199023255552) :
    Calls Try.prog 96 #[.slice sv n cap, .func (.func 67) #[] #[]] w (IdxPost ps n w) := by
  have HN := Lib.hid hn; clear hn
  have HP := Lib.hid hp; clear hp
  go_enter Try.func96, Try.ntmps96
  go_wp2
  go_loopg [8] n (fun k v8 wr => ∃ i : Nat, i + k = n ∧ v8 = .int .i64 (i : Int) ∧ Ext w wr ∧ ∀ r ∈ ps.take i, okP r)
  case atStart => exact ⟨0, by omega, rfl, Ext.refl _, by simp⟩
  case round =>
    obtain ⟨i, hik, rfl, hE, hall⟩ := hrel
    have HIK := Lib.hid hik; clear hik
    have HE := Lib.hid hE; clear hE
    have HA := Lib.hid hall; clear hall
    by_cases hlt : i < n
    · obtain ⟨lb, off, hsv, hcell⟩ := (HP.out.ext HE.out) (by have := HN.out; omega)
      subst hsv
      obtain ⟨⟨a, b⟩, hq⟩ : ∃ q, ps[i]? = some q := ⟨ps[i]'(by rw [HN.out]; exact hlt), by rw [List.getElem?_eq_getElem]⟩
      obtain ⟨c0, c1⟩ := hcell i _ hq
      simp only at c0 c1
      have hlb : lb < wr.heap.size := World.block_lt_of_cell? wr _ c0
      have HQ := Lib.hid hq
      clear hcell hq
      go_wp2_with fail
      refine (bad_ok (a, b) _).mono ?_
      rintro e w2 ⟨rfl, hE2⟩
      by_cases hk : okP (a, b)
      · have hd : (!decide (okP (a, b))) = false := by simp [hk]
        rw [hd]
        have HE2 := Lib.hid (HE.out.trans hE2)
        have HA2 : Hid (∀ r ∈ ps.take (i + 1), okP r) := by
          intro r hr
          rw [List.take_add_one, HQ.out] at hr
          rcases List.mem_append.1 hr with h | h
          · exact HA.out r h
          · simp at h; rw [h]; exact hk
        clear hE2 hd hk c0 c1
        go_wp2
        go_roundg (gk - 1)
        case measure => have := HIK.out; omega
        case rel => exact ⟨i + 1, by have := HIK.out; omega, by go_num, HE2.out, HA2.out⟩
      · have hd : (!decide (okP (a, b))) = true := by simp [hk]
        rw [hd]
        have HK := Lib.hid hk
        clear hd hk c0 c1
        go_wp2
        go_ret
        exact ⟨HE.out.trans hE2, .inr ⟨i, (a, b), hlt, rfl, HQ.out, HK.out, HA.out⟩⟩
    · have hin : i = n := by have := HIK.out; omega
      have hall := HA.out
      rw [hin, List.take_of_length_le (by rw [HN.out]; exact Nat.le_refl _)] at hall
      have HAL := Lib.hid hall
      clear hall hin
      go_wp2
      go_ret
      exact ⟨HE.out, .inl ⟨rfl, HAL.out⟩⟩

theorem Touch.cells_two {S : Nat → Prop} {a w : World} (h : Touch S a w) {b : Nat} (hb : S b) (i j : Nat) (u v : Value) : Touch S a ((w.setCell ⟨b, i, none⟩ u).setCell ⟨b, j, none⟩ v) :=
  (h.setCell (p := ⟨b, i, none⟩) (fun _ => hb) u).setCell (p := ⟨b, j, none⟩) (fun _ => hb) v
/-- So far: of the first j those that are periods lie in front. -/
def DelInv (w : World) (g cap : Nat) (ps : List Per) (n k : Nat) (v5 v6 : Value) (wr : World) : Prop :=
  ∃ (j : Nat) (cur : List Per), j + k = n ∧ v6 = .int .i64 (j : Int) ∧ v5 = .int .i64 (((ps.take j).filter fun q => decide (okP q)).length : Int) ∧ PSl wr (some g) n cap cur ∧
    cur.take ((ps.take j).filter fun q => decide (okP q)).length = (ps.take j).filter (fun q => decide (okP q)) ∧ cur.drop j = ps.drop j ∧ ((ps.take j).filter fun q => decide (okP q)).length < j ∧ Touch (fun b => b = g) w wr
def DelPost (n : Nat) (g : Option Nat) (ps : List Per) (w : World) (e : Ending) (w' : World) : Prop :=
  ∃ cap' , e = .returned (slv g (ps.filter fun q => decide (okP q)).length cap') ∧ PSl w' g (ps.filter fun q => decide (okP q)).length cap' (ps.filter fun q => decide (okP q)) ∧ Touch (fun b => g = some b) w w'
theorem filter_lt {ps : List Per} {i : Nat} {q : Per} (hq : ps[i]? = some q) (hb : ¬ okP q) (ha : ∀ r ∈ ps.take i, okP r) : (ps.take (i + 1)).filter (fun q => decide (okP q)) = ps.take i := by
  rw [List.take_add_one, hq, List.filter_append]
  have h1 : (ps.take i).filter (fun q => decide (okP q)) = ps.take i := List.filter_eq_self.2 (fun r hr => by simpa using ha r hr)
  rw [h1]
  simp [hb]
set_option maxRecDepth 100000 in
set_option maxHeartbeats 8000000 in
theorem DeleteFunc_ok (g : Option Nat) (n cap : Nat) (ps : List Per) (w : World) (hS : PSl w g n cap ps) (hsz : n ≤ 2199023255552) :
    Calls Try.prog 65 #[slv g n cap, .func (.func 67) #[] #[]] w (DelPost n g ps w) := by
  have hn := hS.count
  have hpers := hS.pers
  have HS := Lib.hid hS; clear hS
  have HP := Lib.hid hpers; clear hpers
  have HN := Lib.hid hn
  go_enter Try.func65, Try.ntmps65
  go_wp2_with fail
  refine (IndexFunc_ok (adr g) n cap ps w hn HP.out hsz).mono ?_
  rintro e w1 ⟨hE1, hp⟩
  clear hn
  have HE1 := Lib.hid hE1; clear hE1
  rcases hp with ⟨rfl, hall⟩ | ⟨i, q, hin, rfl, hq, hb, ha⟩
  · have hfil : ps.filter (fun q => decide (okP q)) = ps := List.filter_eq_self.2 (fun r hr => by simpa using hall r hr)
    go_wp2
    go_ret
    refine ⟨cap, ?_, ?_, HE1.out.touch _⟩
    · rw [hfil, HN.out]; rfl
    · rw [hfil, HN.out]; exact HS.out.ext HE1.out
  · obtain ⟨b, rfl⟩ := HS.out.some_of_pos (by omega)
    have HF := Lib.hid (filter_lt hq hb ha)
    have hbI : ((i : Int) == -1) = false := by rw [beq_eq_false_iff_ne]; omega
    have HPL : Hid (i < ps.length) := by show _ < _; rw [HN.out]; exact hin
    clear hq hb ha
    go_wp2
    go_loopg [5, 6] (n - (i + 1)) (fun k v5 v6 wr => DelInv w b cap ps n k v5 v6 wr)
    case atStart =>
      refine ⟨i + 1, ps, by omega, by go_num, ?_, HS.out.ext HE1.out, ?_, rfl, ?_, HE1.out.touch _⟩
      · rw [HF.out, List.length_take, Nat.min_eq_left (by have := HPL.out; omega)]
      · rw [HF.out, List.length_take, Nat.min_eq_left (by have := HPL.out; omega)]
      · rw [HF.out, List.length_take]; omega
    case round =>
      clear HF hbI
      obtain ⟨j, cur, hjk, rfl, rfl, hC, hc1, hc2, hc3, hT⟩ := hrel
      have HJK := Lib.hid hjk; clear hjk
      have HC := Lib.hid hC; clear hC
      have HC1 := Lib.hid hc1; clear hc1
      have HC2 := Lib.hid hc2; clear hc2
      have HT := Lib.hid hT; clear hT
      generalize hkd : (ps.take j).filter (fun q => decide (okP q)) = kd at HC1 hc3 ⊢
      have HKD := Lib.hid hkd; clear hkd
      generalize hm : kd.length = m at HC1 hc3 ⊢
      have HM := Lib.hid hm; clear hm
      by_cases hlt : j < n
      · have hcnt := HC.out.count
        obtain ⟨⟨x, y⟩, hq⟩ : ∃ q, cur[j]? = some q := ⟨cur[j]'(by omega), by rw [List.getElem?_eq_getElem]⟩
        have hqp : ps[j]? = some (x, y) := by
          have := congrArg (fun l : List Per => l[0]?) HC2.out
          simp only [List.getElem?_drop, Nat.add_zero] at this
          rw [← this]; exact hq
        obtain ⟨k0, k1⟩ := flatQ_get cur j _ hq
        have c0 := HC.out.cell k0
        have c1 := HC.out.cell k1
        simp only at c0 c1
        have hz : ∀ (u : World) (t : Nat), t < n → (Instr.indexAt 43 (slv (some b) n cap) (.int .i64 (t : Int))).run Try.prog u = .ok (.pointer (some ⟨b, t * 2, none⟩)) u := fun u t ht => run_index_slv ei_per (g := some b) (cap := cap) rfl ht u
        have z1 := fun u => hz u j hlt
        have z2 := fun u => hz u m (by omega)
        have hlb := HC.out.block_lt
        have HQP := Lib.hid hqp
        clear hz k0 k1 hq hqp hcnt
        go_wp2_with fail
        refine (bad_ok (x, y) _).mono ?_
        rintro e w2 ⟨rfl, hE2⟩
        have HE2 : Hid (Ext wr w2) := ((Ext.refl wr).alloc _).trans hE2
        have hx := Ext.block hE2 (blk_new wr _)
        obtain ⟨x0, x1⟩ := blk2 hx
        have hxl := blk_lt hx
        by_cases hk : okP (x, y)
        · have hd : (!decide (okP (x, y))) = false := by simp [hk]
          rw [hd]
          have HK := Lib.hid hk
          have hblk := (HC.out.ext HE2.out)
          obtain ⟨craw, hraw, hrs, hrc⟩ := hblk.raw
          have f0 := blk_frozen hraw (m * 2)
          have f1 := blk_frozen hraw (m * 2 + 1)
          obtain ⟨⟨x', y'⟩, hq'⟩ : ∃ q, cur[m]? = some q := ⟨cur[m]'(by have := HC.out.count; omega), by rw [List.getElem?_eq_getElem]⟩
          have e0 := hblk.cell (flatQ_get cur m _ hq').1
          have e1 := hblk.cell (flatQ_get cur m _ hq').2
          simp only at e0 e1
          have hblt := blk_lt hraw
          clear hd hk hE2 hx hraw hrs hrc hblk c0 c1 hq'
          go_wp2
          go_roundg (gk - 1)
          case measure => have := HJK.out; omega
          case rel =>
            have hfl : (ps.take (j + 1)).filter (fun q => decide (okP q)) = kd ++ [(x, y)] := by
              rw [List.take_add_one, HQP.out, List.filter_append, HKD.out]
              simp [HK.out]
            refine ⟨j + 1, cur.set m (x, y), by have := HJK.out; omega, by go_num, ?_, ?_, ?_, ?_, ?_, ?_⟩
            · rw [hfl, List.length_append, HM.out]; go_num
            · exact PSl.set (HC.out.ext HE2.out) (by omega) (x, y)
            · rw [hfl, List.length_append, HM.out, List.length_singleton]
              have hml : m < cur.length := by have := HC.out.count; omega
              rw [List.take_add_one, List.getElem?_set_self hml, List.take_set_of_le (Nat.le_refl _), HC1.out]
              rfl
            · have h1 : (cur.set m (x, y)).drop (j + 1) = cur.drop (j + 1) := List.drop_set_of_lt (by omega)
              rw [h1]
              have := congrArg (List.drop 1) HC2.out
              simpa using this
            · rw [hfl, List.length_append, HM.out, List.length_singleton]; omega
            · exact (HT.out.trans (HE2.out.touch _)).cells_two rfl _ _ _ _
        · have hd : (!decide (okP (x, y))) = true := by simp [hk]
          rw [hd]
          have HK := Lib.hid hk
          clear hd hk hE2 hx c0 c1
          go_wp2
          go_roundg (gk - 1)
          case measure => have := HJK.out; omega
          case rel =>
            have hfl : (ps.take (j + 1)).filter (fun q => decide (okP q)) = kd := by
              rw [List.take_add_one, HQP.out, List.filter_append, HKD.out]
              simp [HK.out]
            refine ⟨j + 1, cur, by have := HJK.out; omega, by go_num, ?_, HC.out.ext HE2.out, ?_, ?_, ?_, HT.out.trans (HE2.out.touch _)⟩
            · rw [hfl, HM.out]
            · rw [hfl, HM.out, HC1.out]
            · have := congrArg (List.drop 1) HC2.out
              simpa using this
            · rw [hfl, HM.out]; omega
      · have hjn : j = n := by have := HJK.out; omega
        subst hjn
        have hkd : ps.filter (fun q => decide (okP q)) = kd := by
          have := HKD.out
          rwa [List.take_of_length_le (by rw [HN.out]; exact Nat.le_refl _)] at this
        obtain ⟨craw, hraw, hrs, hrc⟩ := HC.out.raw
        have hcle := HC.out.le
        have hcap : cap ≤ maxLen := by obtain ⟨_, _, _, _, h, _⟩ := HC.out; exact h
        obtain ⟨vs, hcl⟩ := run_clear_per wr 0 b (m * 2) (j - m) (cap - m) (by omega) (fun t ht => by
            rw [blk_cell hraw (Array.getElem?_eq_getElem (show m * 2 + t < craw.size by omega))]; rfl) (fun t _ => blk_frozen hraw _)
        have HKD2 := Lib.hid hkd
        have hadr : Option.map (fun x : Addr => x.add (m * 2)) (adr (some b)) = some ⟨b, m * 2, none⟩ := by
          show some ((⟨b, 0, none⟩ : Addr).add (m * 2)) = _
          rw [add_flat, Nat.zero_add]
        have hclr : (Builtin.clear_ #[43] 0 #[.slice (Option.map (fun x : Addr => x.add (m * 2)) (adr (some b))) (j - m) (cap - m)]).run Try.prog wr = .ok (.tuple #[]) (wr.setCells b (m * 2) vs) := by
          rw [hadr]; exact hcl
        obtain ⟨cur2, hraw2, hrs2, hrc2⟩ := setCells_blk b _ _ vs (m * 2) wr craw hraw
        have HS2 : Hid (PSl (wr.setCells b (m * 2) vs) (some b) m cap kd) := by
          refine Sl.of_cells HC.out (by omega) hraw2 (by rw [hrs2, hrs]) (by rw [flatQ_len, HM.out]) ?_
          intro t u hu
          have ht : t < m * 2 := by
            have := (List.getElem?_eq_some_iff.1 hu).1
            rwa [flatQ_len, HM.out] at this
          rw [hrc2 t ht]
          refine hrc t u ?_
          have hsplit : flatQ cur = flatQ kd ++ flatQ (cur.drop m) := by rw [← flatQ_append, ← HC1.out, List.take_append_drop]
          rw [hsplit, List.getElem?_append_left (by rw [flatQ_len, HM.out]; exact ht)]
          exact hu
        clear hkd hraw hrs hrc hcl hadr hraw2 hrs2 hrc2
        go_wp2
        go_ret
        have hwhole : (ps.filter fun q => decide (okP q)) = kd := HKD2.out
        refine ⟨cap, ?_, ?_, ?_⟩
        · rw [hwhole, HM.out]; rfl
        · rw [hwhole, HM.out]; exact HS2.out
        · exact (HT.out.trans (setCells_touch b vs _ wr)).mono (fun k _ hk => by rw [hk])
end Go.Proofs.Ytkejjahlglldlaa
