/- What a loop body over an iterator may touch: all but what lies from B on, and there the one block to which a cell points. No program is walked here. btree.walk: walked, over whatever loop body. Range's iterator, over whatever loop body may touch the block to which a cell points: walked. -/
import Derived.Test.YtkejjahlglldlaaMH
import Derived.RangeFuncWrites
import Derived.Test.YtkejjahlglldlaaMD
import Derived.RangeFuncNested
import Derived.RangeFuncBound
import Derived.RangeFuncLeaves
import Derived.Shelf.Abstract
import Derived.Shelf.RegionOpen
import Derived.WalkKit
import Derived.OwnWalkIn
import Derived.TacticsInMore
import Derived.Test.YtkejjahlglldlaaMF
import Derived.Test.YtkejjahlglldlaaMWo2
namespace Go.Proofs.Ytkejjahlglldlaa.Ob
open Go.RowKit Go.Lib

/-- The slice in cell ob lies in block k. -/
def Pts (W : World) (ob k : Nat) : Prop := ∃ cs t f off n c, W.heap[ob]? = some (.cells cs t f) ∧ cs[0]? = some (.slice (some ⟨k, off, none⟩) n c)
/-- What lies from B on in cells lies as it lay, but for the block to which ob points. -/
structure KB (ob B : Nat) (W W' : World) : Prop where
  size : W.heap.size ≤ W'.heap.size
  cells : ∀ k cs t f, B ≤ k → ¬ Pts W ob k → W.heap[k]? = some (.cells cs t f) → W'.heap[k]? = some (.cells cs t f)
  pts : ∀ k, Pts W' ob k → Pts W ob k ∨ W.heap.size ≤ k
theorem KB.refl (ob B : Nat) (W : World) : KB ob B W W := ⟨Nat.le_refl _, fun _ _ _ _ _ _ h => h, fun _ h => .inl h⟩
theorem KB.away {ob B : Nat} {X Y : World} (h : KB ob B X Y) {k : Nat} (hk : k < X.heap.size) (hn : ¬ Pts X ob k) : ¬ Pts Y ob k := fun hp => by
  rcases h.pts k hp with h | h
  · exact hn h
  · omega
theorem KB.trans {ob B : Nat} {X Y Z : World} (h : KB ob B X Y) (k : KB ob B Y Z) : KB ob B X Z :=
  ⟨Nat.le_trans h.size k.size, fun i cs t f hB hn hi => k.cells i cs t f hB (h.away (blk_lt hi) hn) (h.cells i cs t f hB hn hi), fun i hi => by
    rcases k.pts i hi with h1 | h1
    · exact h.pts i h1
    · exact .inr (Nat.le_trans h.size h1)⟩
theorem KB.drew {ob B : Nat} {W W' : World} (h : KB ob B W W') : KB ob B W W'.drew := ⟨h.size, h.cells, h.pts⟩
theorem Rep.kb {W W' : World} {m h ob B : Nat} {k : Kid} (hr : Rep W m h k) (hb : ∀ x ∈ k.bs, B ≤ x ∧ ¬ Pts W ob x) (hK : KB ob B W W') : Rep W' m h k := hr.congr fun x hx => by
  obtain ⟨cs, t, f, h1⟩ := hr.isCells x hx
  rw [h1]; exact hK.cells x cs t f (hb x hx).1 (hb x hx).2 h1
theorem NodeAt.kb {W W' : World} {ob B b : Nat} {es : List Ent} {ps : List Nat} {gk gv gc : Option Nat} {ck cv cc : Nat} (h : NodeAt W b es ps gk gv gc ck cv cc) (hb : ∀ x ∈ ownL b gk gv gc, B ≤ x ∧ ¬ Pts W ob x) (hK : KB ob B W W') : NodeAt W' b es ps gk gv gc ck cv cc := h.congr fun x hx => by
  obtain ⟨cs, t, f, h1⟩ := h.isCells x hx
  rw [h1]; exact hK.cells x cs t f (hb x hx).1 (hb x hx).2 h1
end Go.Proofs.Ytkejjahlglldlaa.Ob
namespace Go.Proofs.Ytkejjahlglldlaa.Ob
open Go.RowKit Go.Lib Go.Shelf

def WPost (fr to : List UInt8) (J Jx : List Ent → World → Prop) (ob B : Nat) (L : List Ent) (pr : List Ent) (W : World) (e : Ending) (W' : World) : Prop :=
  (e = .returned (.bool true) ∧ J (pr ++ sel fr to L) W' ∧ KB ob B W W' ∧ allU fr to L) ∨
  (e = .returned (.bool false) ∧ ((J (pr ++ sel fr to L) W' ∧ KB ob B W W' ∧ over fr to L) ∨ ∃ q, q <+: sel fr to L ∧ Jx (pr ++ q) W'))

set_option maxRecDepth 100000 in
set_option maxHeartbeats 16000000 in
theorem walk_step (m h ob B N l : Nat) (hm64 : m ≤ 64) (fr to : List UInt8) (J Jx : List Ent → World → Prop) (hJd : ∀ p W, J p W → J p W.drew)
    (PX : Ent → Prop) (hY : ∀ p x W, PX x → J p W → p.length < N → YieldAt Fence.wide 0 Try.prog l #[str x.1, .int .i64 x.2] W fun e W' => (e = .returned (.bool true) ∧ J (p ++ [x]) W' ∧ KB ob B W W') ∨ (e = .returned (.bool false) ∧ Jx (p ++ [x]) W'))
    (ih : ∀ h', h = h' + 1 → ∀ (k : Kid) (W : World) (pr : List Ent), Rep W m h' k → k.n + 1 ≤ 2 * m → (∀ x ∈ k.bs, B ≤ x ∧ ¬ Pts W ob x) → Srt k.L → (∀ e ∈ sel fr to k.L, PX e) → J pr W → pr.length + (sel fr to k.L).length ≤ N →
      Calls Try.prog 41 #[.pointer (some ⟨k.b, 0, none⟩), str fr, str to, .func (.yield l) #[] #[]] W (WPost fr to J Jx ob B k.L pr W))
    (k : Kid) (W : World) (pr : List Ent) (hr : Rep W m h k) (hhi : k.n + 1 ≤ 2 * m) (hB : ∀ x ∈ k.bs, B ≤ x ∧ ¬ Pts W ob x) (hsrt : Srt k.L) (hPX : ∀ e ∈ sel fr to k.L, PX e) (hJ : J pr W) (hN : pr.length + (sel fr to k.L).length ≤ N) :
    Calls Try.prog 41 #[.pointer (some ⟨k.b, 0, none⟩), str fr, str to, .func (.yield l) #[] #[]] W (WPost fr to J Jx ob B k.L pr W) := by
  obtain ⟨es, ks, gk, gv, gc, ck, cv, cc, h1, h2, h3, h4, h5⟩ := hr.open
  obtain ⟨hl1, hl2⟩ := lsOf_inter h5
  obtain ⟨Ls, hLs⟩ : ∃ Ls, lsOf ks es.length = Ls := ⟨_, rfl⟩
  rw [hLs] at hl1 hl2
  have hes : es.length ≤ 127 := by omega
  have HNA := Lib.hid h1; have HNN := Lib.hid h2; have HBS := Lib.hid h4; have HOK := Lib.hid h5; have IH := Lib.hid ih; have HY := Lib.hid hY; have HJD := Lib.hid hJd; have HB := Lib.hid hB
  have HL := Lib.hid (h3.trans hl1.symm); have HLL := Lib.hid hl2; have HLS := Lib.hid hLs; have HSRT := Lib.hid hsrt; have HJ := Lib.hid hJ; have HN := Lib.hid hN; have HPX := Lib.hid hPX
  have HSN : Hid (Srt es) := by
    have := hsrt
    rw [HL.out] at this
    exact this.node
  have HOB : Hid (∀ x ∈ ownL k.b gk gv gc, B ≤ x ∧ ¬ Pts W ob x) := fun x hx => hB x (by rw [h4]; exact List.mem_append_left _ hx)
  clear h1 h2 h3 h4 h5 ih hY hJd hB hl1 hl2 hLs hsrt hJ hN hr hPX
  have hple := pos_le fr es
  obtain ⟨p, hp⟩ : ∃ p, pos fr es = p := ⟨_, rfl⟩
  rw [hp] at hple
  have HP := Lib.hid hp
  go_enter Try.func41, Try.ntmps41
  go_wp2_with fail
  refine (find_ok HNA.out fr (by omega) HSN.out).mono ?_
  rintro e w' ⟨rfl, rfl⟩
  rw [hp]
  clear hp
  go_wp2
  go_loopg [9] (es.length + 1 - p) (fun r v9 wr => ∃ i : Nat, i + r = es.length + 1 ∧ v9 = .int .i64 (i : Int) ∧ p ≤ i ∧ i ≤ es.length ∧ J (pr ++ sel fr to (part Ls es i)) wr ∧ KB ob B W wr ∧ allU fr to (part Ls es i))
  case atStart =>
    have hbel := part_first (fr := fr) HLL.out (by rw [← HL.out]; exact HSRT.out)
    rw [HP.out] at hbel
    exact ⟨p, by omega, rfl, Nat.le_refl _, hple, by rw [sel_below hbel, List.append_nil]; exact HJ.out, KB.refl _ _ _, allU_below hbel⟩
  case round =>
    obtain ⟨i, hir, rfl, hpi, hie, hJi, hKi, hAi⟩ := hrel
    have HJI := Lib.hid hJi; have HKI := Lib.hid hKi; have HAI := Lib.hid hAi; have HIR := Lib.hid hir
    have HPI : Hid (pos fr es ≤ i) := by rw [HP.out]; exact hpi
    clear hJi hKi hAi hir
    have HNR := Lib.hid (NodeAt.kb HNA.out HOB.out HKI.out)
    obtain ⟨n0, n1, n2⟩ := blk3 HNR.out.blk
    obtain ⟨Lk, hLk⟩ : ∃ Lk, Ls[i]? = some Lk := ⟨Ls[i]'(by have := HLL.out; omega), List.getElem?_eq_getElem _⟩
    have HLK := Lib.hid hLk; clear hLk
    by_cases hks : ks = []
    · have hpk' : decide (ks.map Kid.b = []) = true := decide_eq_true (by rw [hks]; rfl)
      have hLk0 : Lk = [] := by
        have h1 := HLK.out
        rw [← HLS.out, hks] at h1
        simp [lsOf, List.getElem?_replicate] at h1
        exact h1.2
      have HKS := Lib.hid hks; clear hks
      have HNW := HNR
      have HJ2 : Hid (J (pr ++ sel fr to (part Ls es i ++ Lk)) wr) := by rw [hLk0, List.append_nil]; exact HJI.out
      have HK2 : Hid (KB ob B W wr) := HKI.out
      have HA2 : Hid (allU fr to (part Ls es i ++ Lk)) := by rw [hLk0, List.append_nil]; exact HAI.out
      clear hLk0
      by_cases hin : i = es.length
      · have hin' : ((i : Int) == (es.length : Int)) = true := by simp [hin]
        have HIN := Lib.hid hin; clear hin
        go_wp2_with (first | (go_at_call 34; refine (leaf_ok HNR.out).mono ?_; rintro e w' ⟨rfl, rfl⟩))
        go_ret
        refine .inl ⟨rfl, ?_, HK2.out, ?_⟩
        · rw [HL.out, part_end HLL.out (by rw [← HIN.out]; exact HLK.out), ← HIN.out]; exact HJ2.out
        · rw [HL.out, part_end HLL.out (by rw [← HIN.out]; exact HLK.out), ← HIN.out]; exact HA2.out
      · have hin' : ((i : Int) == (es.length : Int)) = false := by simp; omega
        obtain ⟨x, hx⟩ : ∃ x, es[i]? = some x := ⟨es[i]'(by omega), List.getElem?_eq_getElem _⟩
        have HX := Lib.hid hx; clear hx
        obtain ⟨R, hR⟩ := part_mid HLL.out HLK.out HX.out
        have HR := Lib.hid hR; clear hR
        have HSRT2 : Hid (Srt (part Ls es i ++ (Lk ++ (x :: R)))) := by
          have := HSRT.out
          rw [HL.out, HR.out] at this
          exact this
        have HGE : Hid (Op.bytesLess x.1 fr = false) := by
          refine pos_ge fr es HSN.out x ?_
          rw [List.mem_iff_getElem]
          refine ⟨i - pos fr es, by rw [List.length_drop]; have := HPI.out; omega, ?_⟩
          rw [List.getElem_drop]
          have := (List.getElem?_eq_some_iff.1 HX.out).2
          have h3 : pos fr es + (i - pos fr es) = i := by have := HPI.out; omega
          simp only [h3]; exact this
        go_wp2_with (first | (go_at_call 34; refine (leaf_ok HNR.out).mono ?_; rintro e w' ⟨rfl, rfl⟩))
        clear n0 n1 n2
        obtain ⟨n0, n1, n2⟩ := blk3 HNW.out.blk
        obtain ⟨gkb, hgkb⟩ := HNW.out.keys.some_of_pos (by omega)
        obtain ⟨gvb, hgvb⟩ := HNW.out.vals.some_of_pos (by omega)
        have hks := HNW.out.keys
        have hvs := HNW.out.vals
        rw [hgkb] at hks
        rw [hgvb] at hvs
        have hkc := hks.cell (sK_get HX.out)
        have hvc := hvs.cell (sV_get HX.out)
        have hki := fun U => run_index_slv (P := Try.prog) ei_string (cap := ck) hgkb (j := i) (n := es.length) (by omega) U
        have hvi := fun U => run_index_slv (P := Try.prog) ei_int64 (cap := cv) hgvb (j := i) (n := es.length) (by omega) U
        have HGK := Lib.hid hgkb; have HGV := Lib.hid hgvb
        clear hks hvs hgkb hgvb
        refine (wpIn_wide (n := 1)).1 ?_
        have hlenN : (pr ++ sel fr to (part Ls es i ++ Lk)).length < N ∨ inR fr to x = false := by
          cases hin2 : inR fr to x with
          | false => exact .inr rfl
          | true =>
            left
            have h1 := HN.out
            rw [HL.out, HR.out, ← List.append_assoc, sel_append] at h1
            have h2 : sel fr to (x :: R) = x :: sel fr to R := by unfold sel; rw [List.filter_cons, if_pos hin2]
            rw [h2] at h1
            simp only [List.length_append, List.length_cons] at h1 ⊢
            omega
        have HLN := Lib.hid hlenN; clear hlenN
        have hro : Fence.wide.round = none := rfl
        have hfn : ∀ f, Fence.wide.fn f := fun _ => trivial
        have hdd : ∀ k : Nat, (Fence.wide.depth.isSome = true → 1 ≤ k) := fun k h => by cases h
        by_cases hto : to = []
        · have hemp : (bs to).toList.isEmpty = true := by rw [bs_toList, hto]; rfl
          have hinx : inR fr to x = true := by simp [inR, HGE.out, hto]
          have HINX := Lib.hid hinx; clear hinx
          have HXU : Hid (to = [] ∨ blt x.1 to) := .inl hto
          clear hto
          refine regionI (fun _ => trivial) (by kernel_rfl) [.p 0, .p 1, .p 2, .p 3, .p 4, .p 5, .l 6, .p 7, .p 8, .l 9, .p 10, .h 11 false, .p 12, .p 13, .p 14, .p 15, .p 16, .p 17, .p 18, .l 19, .p 20, .p 21, .l 22, .p 23, .p 24, .p 25, .l 26, .p 27, .p 28, .l 29, .h 30 false, .p 31, .p 32] f_mixed (by kernel_rfl) (by kernel_rfl) ?_
          repeat (first | (refine iplan_p rfl (fun K hK => ?_); go_simp; refine hK _ ?_; clear hK K) | (refine iplan_l rfl (fun K hK => ?_); go_simp; refine hK _ ?_; clear hK K))
          refine iplan_h rfl (fun K hK => ?_)
          gi_wp2
          repeat (first | (refine iplan_p rfl (fun K hK => ?_); go_simp; refine hK _ ?_; clear hK K) | (refine iplan_l rfl (fun K hK => ?_); go_simp; refine hK _ ?_; clear hK K))
          refine iplan_h rfl (fun K hK => ?_)
          obtain ⟨fn, tmps, assign, body, hy, hRd⟩ := HY.out (pr ++ sel fr to (part Ls es i ++ Lk)) x wr.drew (HPX.out x (by
            rw [HL.out, HR.out, sel_append, sel_append]
            refine List.mem_append_right _ (List.mem_append_right _ ?_)
            unfold sel
            rw [List.filter_cons, if_pos HINX.out]
            exact List.mem_cons_self ..)) (HJD.out _ _ HJ2.out) (HLN.out.resolve_right (by rw [HINX.out]; exact Bool.noConfusion))
          gi_wp2
          refine hRd.mono ?_
          clear hRd hy
          rintro e W3 (⟨rfl, hJ3, hK3⟩ | ⟨rfl, hx3⟩)
          · gi_wp2
            repeat (first | (refine iplan_p rfl (fun K hK => ?_); go_simp; refine hK _ ?_; clear hK K) | (refine iplan_l rfl (fun K hK => ?_); go_simp; refine hK _ ?_; clear hK K))
            refine iplan_done ?_
            go_wp2
            go_roundg (gk - 1)
            case measure => have := HIR.out; omega
            case rel =>
              refine ⟨i + 1, by have := HIR.out; omega, by go_num, by omega, by omega, ?_, HK2.out.trans ⟨hK3.size, hK3.cells, hK3.pts⟩, ?_⟩
              · rw [part_succ HLK.out HX.out, ← List.append_assoc, sel_append _ _ _ [x]]
                have : sel fr to [x] = [x] := by unfold sel; rw [List.filter_cons, if_pos HINX.out]; rfl
                rw [this, ← List.append_assoc]; exact hJ3
              · rw [part_succ HLK.out HX.out, ← List.append_assoc]
                exact HA2.out.append (fun e he _ => by simp at he; subst he; exact HXU.out)
          · gi_wp2
            repeat (first | (refine iplan_p rfl (fun K hK => ?_); go_simp; refine hK _ ?_; clear hK K) | (refine iplan_l rfl (fun K hK => ?_); go_simp; refine hK _ ?_; clear hK K))
            refine iplan_done ?_
            go_wp2
            go_ret
            refine .inr ⟨rfl, .inr ⟨sel fr to (part Ls es i ++ Lk) ++ [x], ?_, by rw [← List.append_assoc]; exact hx3⟩⟩
            rw [HL.out, HR.out, ← List.append_assoc, sel_append _ _ _ (x :: R)]
            have : sel fr to (x :: R) = [x] ++ sel fr to R := by unfold sel; rw [List.filter_cons, if_pos HINX.out]; rfl
            rw [this, ← List.append_assoc]
            exact List.prefix_append _ _
        · have hemp : (bs to).toList.isEmpty = false := by rw [bs_toList]; simpa using hto
          have HTO := Lib.hid hto; clear hto
          cases hbl : Op.bytesLess x.1 to
          · have hcmp : (0 ≤ Lib.compareBytes x.1 to) := by rw [cmpB_eq, hbl]; simp; split <;> omega
            have HBL := Lib.hid hbl; clear hbl
            refine regionI (fun _ => trivial) (by kernel_rfl) [.p 0, .p 1, .p 2, .p 3, .p 4, .p 5, .l 6, .p 7, .p 8, .l 9, .p 10, .h 11 false, .p 12, .p 13, .p 14, .p 15, .p 16, .p 17, .p 18, .l 19, .p 20, .p 21, .l 22, .p 23, .p 24, .p 25, .l 26, .p 27, .p 28, .l 29, .h 30 false, .p 31, .p 32] f_mixed (by kernel_rfl) (by kernel_rfl) ?_
            repeat (first | (refine iplan_p rfl (fun K hK => ?_); go_simp; refine hK _ ?_; clear hK K) | (refine iplan_l rfl (fun K hK => ?_); go_simp; refine hK _ ?_; clear hK K))
            refine iplan_h rfl (fun K hK => ?_)
            gi_wp2_with (gi_at_call 49; refine (callsIn_wide.2 (strcmp_bs _ _ _)).mono ?_; rintro e w' ⟨rfl, rfl⟩)
            repeat (first | (refine iplan_p rfl (fun K hK => ?_); go_simp; refine hK _ ?_; clear hK K) | (refine iplan_l rfl (fun K hK => ?_); go_simp; refine hK _ ?_; clear hK K))
            refine iplan_h rfl (fun K hK => ?_)
            gi_wp2
            repeat (first | (refine iplan_p rfl (fun K hK => ?_); go_simp; refine hK _ ?_; clear hK K) | (refine iplan_l rfl (fun K hK => ?_); go_simp; refine hK _ ?_; clear hK K))
            refine iplan_done ?_
            go_wp2
            go_ret
            have hov : over fr to [x] := ⟨HTO.out, x, by simp, HGE.out, HBL.out⟩
            have hsx : sel fr to (x :: R) = [] := by
              have h1 : sel fr to [x] = [] := by unfold sel; rw [List.filter_cons, if_neg (by simp [inR, HTO.out, HBL.out])]; rfl
              have h2 := sel_over (A := [x]) (B := R) (srt_append.1 (srt_append.1 HSRT2.out).2.1).2.1 hov
              have h3 : x :: R = [x] ++ R := rfl
              rw [h3, sel_append, h1, h2]; rfl
            refine .inr ⟨rfl, .inl ⟨?_, HK2.out.drew, ?_⟩⟩
            · rw [HL.out, HR.out, ← List.append_assoc, sel_append _ _ _ (x :: R), hsx, List.append_nil]
              exact HJD.out _ _ HJ2.out
            · rw [HL.out, HR.out]
              exact ((hov.left R).right Lk).right _
          · have hcmp : ¬ (0 ≤ Lib.compareBytes x.1 to) := by rw [cmpB_eq, hbl]; simp
            have hinx : inR fr to x = true := by simp [inR, HGE.out, hbl]
            have HINX := Lib.hid hinx; clear hinx
            have HXU : Hid (to = [] ∨ blt x.1 to) := .inr hbl
            clear hbl
            refine regionI (fun _ => trivial) (by kernel_rfl) [.p 0, .p 1, .p 2, .p 3, .p 4, .p 5, .l 6, .p 7, .p 8, .l 9, .p 10, .h 11 false, .p 12, .p 13, .p 14, .p 15, .p 16, .p 17, .p 18, .l 19, .p 20, .p 21, .l 22, .p 23, .p 24, .p 25, .l 26, .p 27, .p 28, .l 29, .h 30 false, .p 31, .p 32] f_mixed (by kernel_rfl) (by kernel_rfl) ?_
            repeat (first | (refine iplan_p rfl (fun K hK => ?_); go_simp; refine hK _ ?_; clear hK K) | (refine iplan_l rfl (fun K hK => ?_); go_simp; refine hK _ ?_; clear hK K))
            refine iplan_h rfl (fun K hK => ?_)
            gi_wp2_with (gi_at_call 49; refine (callsIn_wide.2 (strcmp_bs _ _ _)).mono ?_; rintro e w' ⟨rfl, rfl⟩)
            repeat (first | (refine iplan_p rfl (fun K hK => ?_); go_simp; refine hK _ ?_; clear hK K) | (refine iplan_l rfl (fun K hK => ?_); go_simp; refine hK _ ?_; clear hK K))
            refine iplan_h rfl (fun K hK => ?_)
            obtain ⟨fn, tmps, assign, body, hy, hRd⟩ := HY.out (pr ++ sel fr to (part Ls es i ++ Lk)) x wr.drew (HPX.out x (by
              rw [HL.out, HR.out, sel_append, sel_append]
              refine List.mem_append_right _ (List.mem_append_right _ ?_)
              unfold sel
              rw [List.filter_cons, if_pos HINX.out]
              exact List.mem_cons_self ..)) (HJD.out _ _ HJ2.out) (HLN.out.resolve_right (by rw [HINX.out]; exact Bool.noConfusion))
            gi_wp2
            refine hRd.mono ?_
            clear hRd hy
            rintro e W3 (⟨rfl, hJ3, hK3⟩ | ⟨rfl, hx3⟩)
            · gi_wp2
              repeat (first | (refine iplan_p rfl (fun K hK => ?_); go_simp; refine hK _ ?_; clear hK K) | (refine iplan_l rfl (fun K hK => ?_); go_simp; refine hK _ ?_; clear hK K))
              refine iplan_done ?_
              go_wp2
              go_roundg (gk - 1)
              case measure => have := HIR.out; omega
              case rel =>
                refine ⟨i + 1, by have := HIR.out; omega, by go_num, by omega, by omega, ?_, HK2.out.trans ⟨hK3.size, hK3.cells, hK3.pts⟩, ?_⟩
                · rw [part_succ HLK.out HX.out, ← List.append_assoc, sel_append _ _ _ [x]]
                  have : sel fr to [x] = [x] := by unfold sel; rw [List.filter_cons, if_pos HINX.out]; rfl
                  rw [this, ← List.append_assoc]; exact hJ3
                · rw [part_succ HLK.out HX.out, ← List.append_assoc]
                  exact HA2.out.append (fun e he _ => by simp at he; subst he; exact HXU.out)
            · gi_wp2
              repeat (first | (refine iplan_p rfl (fun K hK => ?_); go_simp; refine hK _ ?_; clear hK K) | (refine iplan_l rfl (fun K hK => ?_); go_simp; refine hK _ ?_; clear hK K))
              refine iplan_done ?_
              go_wp2
              go_ret
              refine .inr ⟨rfl, .inr ⟨sel fr to (part Ls es i ++ Lk) ++ [x], ?_, by rw [← List.append_assoc]; exact hx3⟩⟩
              rw [HL.out, HR.out, ← List.append_assoc, sel_append _ _ _ (x :: R)]
              have : sel fr to (x :: R) = [x] ++ sel fr to R := by unfold sel; rw [List.filter_cons, if_pos HINX.out]; rfl
              rw [this, ← List.append_assoc]
              exact List.prefix_append _ _
    · have hpk' : decide (ks.map Kid.b = []) = false := decide_eq_false (by simpa using hks)
      have HKS := Lib.hid hks; clear hks
      obtain ⟨h', hh'⟩ : ∃ h', h = h' + 1 := by
        cases h with
        | zero => exact absurd HOK.out HKS.out
        | succ h' => exact ⟨h', rfl⟩
      subst hh'
      have HKL : Hid (ks.length = es.length + 1) := HOK.out.1
      obtain ⟨y, hy⟩ : ∃ y, ks[i]? = some y := ⟨ks[i]'(by have := HKL.out; omega), List.getElem?_eq_getElem _⟩
      have hym := HOK.out.2 y (List.mem_of_getElem? hy)
      have hyL : Lk = y.L := by
        have h1 := HLK.out
        rw [← HLS.out] at h1
        unfold lsOf at h1
        rw [if_neg HKS.out, List.getElem?_map, hy] at h1
        exact (Option.some.inj h1).symm
      have hyB : ∀ x ∈ y.bs, B ≤ x ∧ ¬ Pts W ob x := fun x hx => HB.out x (by rw [HBS.out]; exact List.mem_append_right _ (List.mem_flatMap.2 ⟨y, List.mem_of_getElem? hy, hx⟩))
      have hyS : Srt y.L := by
        have h1 := HSRT.out
        rw [HL.out, part_at HLL.out HLK.out, hyL] at h1
        exact (srt_append.1 (srt_append.1 h1).2.1).1
      have hyN : (pr ++ sel fr to (part Ls es i)).length + (sel fr to y.L).length ≤ N := by
        have h1 := HN.out
        rw [HL.out, part_at HLL.out HLK.out, hyL, sel_append, sel_append] at h1
        simp only [List.length_append] at h1 ⊢
        omega
      have hyP : ∀ e ∈ sel fr to y.L, PX e := fun e he => HPX.out e (by
        rw [HL.out, part_at HLL.out HLK.out, hyL, sel_append, sel_append]
        exact List.mem_append_right _ (List.mem_append_left _ he))
      obtain ⟨gcb, hgcb⟩ := HNR.out.kids.some_of_pos (by rw [List.length_map]; have := HKL.out; omega)
      have hsc := HNR.out.kids
      rw [hgcb] at hsc
      have hci := hsc.cell (sP_get (show (ks.map Kid.b)[i]? = some y.b by rw [List.getElem?_map, hy]; rfl))
      obtain ⟨kn, hkn⟩ : ∃ kn, (ks.map Kid.b).length = kn := ⟨_, rfl⟩
      have hri := fun U => run_index_slv (P := Try.prog) ei_node (cap := cc) hgcb (j := i) (n := kn) (by rw [← hkn, List.length_map]; have := HKL.out; omega) U
      rw [hkn] at n2
      have HCALL := Lib.hid (IH.out h' rfl y wr (pr ++ sel fr to (part Ls es i)) (Rep.kb hym.1 hyB HKI.out) hym.2.2 (fun x hx => ⟨(hyB x hx).1, HKI.out.away (hym.1.lt x hx) (hyB x hx).2⟩) hyS hyP HJI.out hyN)
      rw [← hyL] at HCALL
      have HYM := Lib.hid hym; have HG := Lib.hid hgcb; have HKN := Lib.hid hkn
      clear hym hgcb hkn hsc hy hyL hyB hyS hyN hyP
      by_cases hin : i = es.length
      · have hin' : ((i : Int) == (es.length : Int)) = true := by simp [hin]
        have HIN := Lib.hid hin; clear hin
        go_wp2_with (first | (go_at_call 34; refine (leaf_ok HNR.out).mono ?_; rintro e w' ⟨rfl, rfl⟩))
        refine HCALL.out.mono ?_
        clear HCALL
        rintro e W2 (⟨rfl, hJ2, hK2, hA2⟩ | ⟨rfl, hF⟩)
        · have HJ2 : Hid (J (pr ++ sel fr to (part Ls es i ++ Lk)) W2) := by rw [sel_append, ← List.append_assoc]; exact hJ2
          have HK2 : Hid (KB ob B W W2) := HKI.out.trans hK2
          have HA2 : Hid (allU fr to (part Ls es i ++ Lk)) := HAI.out.append hA2
          have HNW := Lib.hid (NodeAt.kb HNA.out HOB.out HK2.out)
          clear hJ2 hK2 hA2 n0 n1 n2 hci
          obtain ⟨n0, n1, n2⟩ := blk3 HNW.out.blk
          go_wp2
          go_ret
          refine .inl ⟨rfl, ?_, HK2.out, ?_⟩
          · rw [HL.out, part_end HLL.out (by rw [← HIN.out]; exact HLK.out), ← HIN.out]; exact HJ2.out
          · rw [HL.out, part_end HLL.out (by rw [← HIN.out]; exact HLK.out), ← HIN.out]; exact HA2.out
        · clear n0 n1 n2
          go_wp2
          go_ret
          refine .inr ⟨rfl, ?_⟩
          rw [HL.out, part_at HLL.out HLK.out]
          rcases hF with ⟨h1, h2, h3⟩ | ⟨q, h1, h2⟩
          · have h4 : sel fr to (suf (Ls.drop (i + 1)) (es.drop i)) = [] := by
              have h5 := HSRT.out
              rw [HL.out, part_at HLL.out HLK.out] at h5
              exact sel_over (srt_append.1 h5).2.1 h3
            refine .inl ⟨?_, HKI.out.trans h2, (h3.left _).right _⟩
            rw [sel_append, sel_append, h4, List.append_nil, ← List.append_assoc]; exact h1
          · exact .inr ⟨_, prefix_sel h1 _, by rw [← List.append_assoc]; exact h2⟩
      · have hin' : ((i : Int) == (es.length : Int)) = false := by simp; omega
        obtain ⟨x, hx⟩ : ∃ x, es[i]? = some x := ⟨es[i]'(by omega), List.getElem?_eq_getElem _⟩
        have HX := Lib.hid hx; clear hx
        obtain ⟨R, hR⟩ := part_mid HLL.out HLK.out HX.out
        have HR := Lib.hid hR; clear hR
        have HSRT2 : Hid (Srt (part Ls es i ++ (Lk ++ (x :: R)))) := by
          have := HSRT.out
          rw [HL.out, HR.out] at this
          exact this
        have HGE : Hid (Op.bytesLess x.1 fr = false) := by
          refine pos_ge fr es HSN.out x ?_
          rw [List.mem_iff_getElem]
          refine ⟨i - pos fr es, by rw [List.length_drop]; have := HPI.out; omega, ?_⟩
          rw [List.getElem_drop]
          have := (List.getElem?_eq_some_iff.1 HX.out).2
          have h3 : pos fr es + (i - pos fr es) = i := by have := HPI.out; omega
          simp only [h3]; exact this
        go_wp2_with (first | (go_at_call 34; refine (leaf_ok HNR.out).mono ?_; rintro e w' ⟨rfl, rfl⟩))
        refine HCALL.out.mono ?_
        clear HCALL
        rintro e W2 (⟨rfl, hJ2, hK2, hA2⟩ | ⟨rfl, hF⟩)
        · have HJ2 : Hid (J (pr ++ sel fr to (part Ls es i ++ Lk)) W2) := by rw [sel_append, ← List.append_assoc]; exact hJ2
          have HK2 : Hid (KB ob B W W2) := HKI.out.trans hK2
          have HA2 : Hid (allU fr to (part Ls es i ++ Lk)) := HAI.out.append hA2
          have HNW := Lib.hid (NodeAt.kb HNA.out HOB.out HK2.out)
          clear hJ2 hK2 hA2 n0 n1 n2 hci
          obtain ⟨n0, n1, n2⟩ := blk3 HNW.out.blk
          go_wp2
          clear n0 n1 n2
          obtain ⟨n0, n1, n2⟩ := blk3 HNW.out.blk
          obtain ⟨gkb, hgkb⟩ := HNW.out.keys.some_of_pos (by omega)
          obtain ⟨gvb, hgvb⟩ := HNW.out.vals.some_of_pos (by omega)
          have hks := HNW.out.keys
          have hvs := HNW.out.vals
          rw [hgkb] at hks
          rw [hgvb] at hvs
          have hkc := hks.cell (sK_get HX.out)
          have hvc := hvs.cell (sV_get HX.out)
          have hki := fun U => run_index_slv (P := Try.prog) ei_string (cap := ck) hgkb (j := i) (n := es.length) (by omega) U
          have hvi := fun U => run_index_slv (P := Try.prog) ei_int64 (cap := cv) hgvb (j := i) (n := es.length) (by omega) U
          have HGK := Lib.hid hgkb; have HGV := Lib.hid hgvb
          clear hks hvs hgkb hgvb
          refine (wpIn_wide (n := 1)).1 ?_
          have hlenN : (pr ++ sel fr to (part Ls es i ++ Lk)).length < N ∨ inR fr to x = false := by
            cases hin2 : inR fr to x with
            | false => exact .inr rfl
            | true =>
              left
              have h1 := HN.out
              rw [HL.out, HR.out, ← List.append_assoc, sel_append] at h1
              have h2 : sel fr to (x :: R) = x :: sel fr to R := by unfold sel; rw [List.filter_cons, if_pos hin2]
              rw [h2] at h1
              simp only [List.length_append, List.length_cons] at h1 ⊢
              omega
          have HLN := Lib.hid hlenN; clear hlenN
          have hro : Fence.wide.round = none := rfl
          have hfn : ∀ f, Fence.wide.fn f := fun _ => trivial
          have hdd : ∀ k : Nat, (Fence.wide.depth.isSome = true → 1 ≤ k) := fun k h => by cases h
          by_cases hto : to = []
          · have hemp : (bs to).toList.isEmpty = true := by rw [bs_toList, hto]; rfl
            have hinx : inR fr to x = true := by simp [inR, HGE.out, hto]
            have HINX := Lib.hid hinx; clear hinx
            have HXU : Hid (to = [] ∨ blt x.1 to) := .inl hto
            clear hto
            refine regionI (fun _ => trivial) (by kernel_rfl) [.p 0, .p 1, .p 2, .p 3, .p 4, .p 5, .l 6, .p 7, .p 8, .l 9, .p 10, .h 11 false, .p 12, .p 13, .p 14, .p 15, .p 16, .p 17, .p 18, .l 19, .p 20, .p 21, .l 22, .p 23, .p 24, .p 25, .l 26, .p 27, .p 28, .l 29, .h 30 false, .p 31, .p 32] f_mixed (by kernel_rfl) (by kernel_rfl) ?_
            repeat (first | (refine iplan_p rfl (fun K hK => ?_); go_simp; refine hK _ ?_; clear hK K) | (refine iplan_l rfl (fun K hK => ?_); go_simp; refine hK _ ?_; clear hK K))
            refine iplan_h rfl (fun K hK => ?_)
            gi_wp2
            repeat (first | (refine iplan_p rfl (fun K hK => ?_); go_simp; refine hK _ ?_; clear hK K) | (refine iplan_l rfl (fun K hK => ?_); go_simp; refine hK _ ?_; clear hK K))
            refine iplan_h rfl (fun K hK => ?_)
            obtain ⟨fn, tmps, assign, body, hy, hRd⟩ := HY.out (pr ++ sel fr to (part Ls es i ++ Lk)) x W2.drew (HPX.out x (by
              rw [HL.out, HR.out, sel_append, sel_append]
              refine List.mem_append_right _ (List.mem_append_right _ ?_)
              unfold sel
              rw [List.filter_cons, if_pos HINX.out]
              exact List.mem_cons_self ..)) (HJD.out _ _ HJ2.out) (HLN.out.resolve_right (by rw [HINX.out]; exact Bool.noConfusion))
            gi_wp2
            refine hRd.mono ?_
            clear hRd hy
            rintro e W3 (⟨rfl, hJ3, hK3⟩ | ⟨rfl, hx3⟩)
            · gi_wp2
              repeat (first | (refine iplan_p rfl (fun K hK => ?_); go_simp; refine hK _ ?_; clear hK K) | (refine iplan_l rfl (fun K hK => ?_); go_simp; refine hK _ ?_; clear hK K))
              refine iplan_done ?_
              go_wp2
              go_roundg (gk - 1)
              case measure => have := HIR.out; omega
              case rel =>
                refine ⟨i + 1, by have := HIR.out; omega, by go_num, by omega, by omega, ?_, HK2.out.trans ⟨hK3.size, hK3.cells, hK3.pts⟩, ?_⟩
                · rw [part_succ HLK.out HX.out, ← List.append_assoc, sel_append _ _ _ [x]]
                  have : sel fr to [x] = [x] := by unfold sel; rw [List.filter_cons, if_pos HINX.out]; rfl
                  rw [this, ← List.append_assoc]; exact hJ3
                · rw [part_succ HLK.out HX.out, ← List.append_assoc]
                  exact HA2.out.append (fun e he _ => by simp at he; subst he; exact HXU.out)
            · gi_wp2
              repeat (first | (refine iplan_p rfl (fun K hK => ?_); go_simp; refine hK _ ?_; clear hK K) | (refine iplan_l rfl (fun K hK => ?_); go_simp; refine hK _ ?_; clear hK K))
              refine iplan_done ?_
              go_wp2
              go_ret
              refine .inr ⟨rfl, .inr ⟨sel fr to (part Ls es i ++ Lk) ++ [x], ?_, by rw [← List.append_assoc]; exact hx3⟩⟩
              rw [HL.out, HR.out, ← List.append_assoc, sel_append _ _ _ (x :: R)]
              have : sel fr to (x :: R) = [x] ++ sel fr to R := by unfold sel; rw [List.filter_cons, if_pos HINX.out]; rfl
              rw [this, ← List.append_assoc]
              exact List.prefix_append _ _
          · have hemp : (bs to).toList.isEmpty = false := by rw [bs_toList]; simpa using hto
            have HTO := Lib.hid hto; clear hto
            cases hbl : Op.bytesLess x.1 to
            · have hcmp : (0 ≤ Lib.compareBytes x.1 to) := by rw [cmpB_eq, hbl]; simp; split <;> omega
              have HBL := Lib.hid hbl; clear hbl
              refine regionI (fun _ => trivial) (by kernel_rfl) [.p 0, .p 1, .p 2, .p 3, .p 4, .p 5, .l 6, .p 7, .p 8, .l 9, .p 10, .h 11 false, .p 12, .p 13, .p 14, .p 15, .p 16, .p 17, .p 18, .l 19, .p 20, .p 21, .l 22, .p 23, .p 24, .p 25, .l 26, .p 27, .p 28, .l 29, .h 30 false, .p 31, .p 32] f_mixed (by kernel_rfl) (by kernel_rfl) ?_
              repeat (first | (refine iplan_p rfl (fun K hK => ?_); go_simp; refine hK _ ?_; clear hK K) | (refine iplan_l rfl (fun K hK => ?_); go_simp; refine hK _ ?_; clear hK K))
              refine iplan_h rfl (fun K hK => ?_)
              gi_wp2_with (gi_at_call 49; refine (callsIn_wide.2 (strcmp_bs _ _ _)).mono ?_; rintro e w' ⟨rfl, rfl⟩)
              repeat (first | (refine iplan_p rfl (fun K hK => ?_); go_simp; refine hK _ ?_; clear hK K) | (refine iplan_l rfl (fun K hK => ?_); go_simp; refine hK _ ?_; clear hK K))
              refine iplan_h rfl (fun K hK => ?_)
              gi_wp2
              repeat (first | (refine iplan_p rfl (fun K hK => ?_); go_simp; refine hK _ ?_; clear hK K) | (refine iplan_l rfl (fun K hK => ?_); go_simp; refine hK _ ?_; clear hK K))
              refine iplan_done ?_
              go_wp2
              go_ret
              have hov : over fr to [x] := ⟨HTO.out, x, by simp, HGE.out, HBL.out⟩
              have hsx : sel fr to (x :: R) = [] := by
                have h1 : sel fr to [x] = [] := by unfold sel; rw [List.filter_cons, if_neg (by simp [inR, HTO.out, HBL.out])]; rfl
                have h2 := sel_over (A := [x]) (B := R) (srt_append.1 (srt_append.1 HSRT2.out).2.1).2.1 hov
                have h3 : x :: R = [x] ++ R := rfl
                rw [h3, sel_append, h1, h2]; rfl
              refine .inr ⟨rfl, .inl ⟨?_, HK2.out.drew, ?_⟩⟩
              · rw [HL.out, HR.out, ← List.append_assoc, sel_append _ _ _ (x :: R), hsx, List.append_nil]
                exact HJD.out _ _ HJ2.out
              · rw [HL.out, HR.out]
                exact ((hov.left R).right Lk).right _
            · have hcmp : ¬ (0 ≤ Lib.compareBytes x.1 to) := by rw [cmpB_eq, hbl]; simp
              have hinx : inR fr to x = true := by simp [inR, HGE.out, hbl]
              have HINX := Lib.hid hinx; clear hinx
              have HXU : Hid (to = [] ∨ blt x.1 to) := .inr hbl
              clear hbl
              refine regionI (fun _ => trivial) (by kernel_rfl) [.p 0, .p 1, .p 2, .p 3, .p 4, .p 5, .l 6, .p 7, .p 8, .l 9, .p 10, .h 11 false, .p 12, .p 13, .p 14, .p 15, .p 16, .p 17, .p 18, .l 19, .p 20, .p 21, .l 22, .p 23, .p 24, .p 25, .l 26, .p 27, .p 28, .l 29, .h 30 false, .p 31, .p 32] f_mixed (by kernel_rfl) (by kernel_rfl) ?_
              repeat (first | (refine iplan_p rfl (fun K hK => ?_); go_simp; refine hK _ ?_; clear hK K) | (refine iplan_l rfl (fun K hK => ?_); go_simp; refine hK _ ?_; clear hK K))
              refine iplan_h rfl (fun K hK => ?_)
              gi_wp2_with (gi_at_call 49; refine (callsIn_wide.2 (strcmp_bs _ _ _)).mono ?_; rintro e w' ⟨rfl, rfl⟩)
              repeat (first | (refine iplan_p rfl (fun K hK => ?_); go_simp; refine hK _ ?_; clear hK K) | (refine iplan_l rfl (fun K hK => ?_); go_simp; refine hK _ ?_; clear hK K))
              refine iplan_h rfl (fun K hK => ?_)
              obtain ⟨fn, tmps, assign, body, hy, hRd⟩ := HY.out (pr ++ sel fr to (part Ls es i ++ Lk)) x W2.drew (HPX.out x (by
                rw [HL.out, HR.out, sel_append, sel_append]
                refine List.mem_append_right _ (List.mem_append_right _ ?_)
                unfold sel
                rw [List.filter_cons, if_pos HINX.out]
                exact List.mem_cons_self ..)) (HJD.out _ _ HJ2.out) (HLN.out.resolve_right (by rw [HINX.out]; exact Bool.noConfusion))
              gi_wp2
              refine hRd.mono ?_
              clear hRd hy
              rintro e W3 (⟨rfl, hJ3, hK3⟩ | ⟨rfl, hx3⟩)
              · gi_wp2
                repeat (first | (refine iplan_p rfl (fun K hK => ?_); go_simp; refine hK _ ?_; clear hK K) | (refine iplan_l rfl (fun K hK => ?_); go_simp; refine hK _ ?_; clear hK K))
                refine iplan_done ?_
                go_wp2
                go_roundg (gk - 1)
                case measure => have := HIR.out; omega
                case rel =>
                  refine ⟨i + 1, by have := HIR.out; omega, by go_num, by omega, by omega, ?_, HK2.out.trans ⟨hK3.size, hK3.cells, hK3.pts⟩, ?_⟩
                  · rw [part_succ HLK.out HX.out, ← List.append_assoc, sel_append _ _ _ [x]]
                    have : sel fr to [x] = [x] := by unfold sel; rw [List.filter_cons, if_pos HINX.out]; rfl
                    rw [this, ← List.append_assoc]; exact hJ3
                  · rw [part_succ HLK.out HX.out, ← List.append_assoc]
                    exact HA2.out.append (fun e he _ => by simp at he; subst he; exact HXU.out)
              · gi_wp2
                repeat (first | (refine iplan_p rfl (fun K hK => ?_); go_simp; refine hK _ ?_; clear hK K) | (refine iplan_l rfl (fun K hK => ?_); go_simp; refine hK _ ?_; clear hK K))
                refine iplan_done ?_
                go_wp2
                go_ret
                refine .inr ⟨rfl, .inr ⟨sel fr to (part Ls es i ++ Lk) ++ [x], ?_, by rw [← List.append_assoc]; exact hx3⟩⟩
                rw [HL.out, HR.out, ← List.append_assoc, sel_append _ _ _ (x :: R)]
                have : sel fr to (x :: R) = [x] ++ sel fr to R := by unfold sel; rw [List.filter_cons, if_pos HINX.out]; rfl
                rw [this, ← List.append_assoc]
                exact List.prefix_append _ _
        · clear n0 n1 n2
          go_wp2
          go_ret
          refine .inr ⟨rfl, ?_⟩
          rw [HL.out, part_at HLL.out HLK.out]
          rcases hF with ⟨h1, h2, h3⟩ | ⟨q, h1, h2⟩
          · have h4 : sel fr to (suf (Ls.drop (i + 1)) (es.drop i)) = [] := by
              have h5 := HSRT.out
              rw [HL.out, part_at HLL.out HLK.out] at h5
              exact sel_over (srt_append.1 h5).2.1 h3
            refine .inl ⟨?_, HKI.out.trans h2, (h3.left _).right _⟩
            rw [sel_append, sel_append, h4, List.append_nil, ← List.append_assoc]; exact h1
          · exact .inr ⟨_, prefix_sel h1 _, by rw [← List.append_assoc]; exact h2⟩
theorem walk_ok (m ob B N l : Nat) (hm64 : m ≤ 64) (fr to : List UInt8) (J Jx : List Ent → World → Prop) (hJd : ∀ p W, J p W → J p W.drew)
    (PX : Ent → Prop) (hY : ∀ p x W, PX x → J p W → p.length < N → YieldAt Fence.wide 0 Try.prog l #[str x.1, .int .i64 x.2] W fun e W' => (e = .returned (.bool true) ∧ J (p ++ [x]) W' ∧ KB ob B W W') ∨ (e = .returned (.bool false) ∧ Jx (p ++ [x]) W')) :
    ∀ (h : Nat) (k : Kid) (W : World) (pr : List Ent), Rep W m h k → k.n + 1 ≤ 2 * m → (∀ x ∈ k.bs, B ≤ x ∧ ¬ Pts W ob x) → Srt k.L → (∀ e ∈ sel fr to k.L, PX e) → J pr W → pr.length + (sel fr to k.L).length ≤ N →
      Calls Try.prog 41 #[.pointer (some ⟨k.b, 0, none⟩), str fr, str to, .func (.yield l) #[] #[]] W (WPost fr to J Jx ob B k.L pr W)
  | 0, k, W, pr, hr, h1, h2, h3, hp, h4, h5 => walk_step m 0 ob B N l hm64 fr to J Jx hJd PX hY (fun h' e => by cases e) k W pr hr h1 h2 h3 hp h4 h5
  | h + 1, k, W, pr, hr, h1, h2, h3, hp, h4, h5 => walk_step m (h + 1) ob B N l hm64 fr to J Jx hJd PX hY (fun h' e k W pr hr h1 h2 h3 hp h4 h5 => by cases e; exact walk_ok m ob B N l hm64 fr to J Jx hJd PX hY h k W pr hr h1 h2 h3 hp h4 h5) k W pr hr h1 h2 h3 hp h4 h5
end Go.Proofs.Ytkejjahlglldlaa.Ob
namespace Go.Proofs.Ytkejjahlglldlaa.Ob
open Go.RowKit Go.Lib Go.Shelf

def IterPost (fr to : List UInt8) (L : List Ent) (J Jx : List Ent → World → Prop) (e : Ending) (W' : World) : Prop :=
  (∃ v, e = .returned v) ∧ ((∃ xs, xs = sel fr to L ∧ J xs W') ∨ (∃ pre, pre <+: sel fr to L ∧ Jx pre W'))
set_option maxRecDepth 100000 in
set_option maxHeartbeats 4000000 in
theorem iter_ok (tb m ob B l b : Nat) (L : List Ent) (bs : List Nat) (fr to : List UInt8) (J Jx : List Ent → World → Prop) (W : World) (hT : TreeAt W tb m L bs) (hC : Caught W tb fr to b) (hB : B ≤ W.heap.size) (hob : ob < W.heap.size) (hpt : ∀ k, Pts W ob k → k < W.heap.size) (hJa : AbidesFrom W.heap.size J)
    (PX : Ent → Prop) (hPX : ∀ e ∈ sel fr to L, PX e) (hY : ∀ p x W, PX x → J p W → p.length < (sel fr to L).length → YieldAt Fence.wide 0 Try.prog l #[str x.1, .int .i64 x.2] W fun e W' => (e = .returned (.bool true) ∧ J (p ++ [x]) W' ∧ KB ob B W W') ∨ (e = .returned (.bool false) ∧ Jx (p ++ [x]) W')) (h0 : J [] W) :
    Calls Try.prog 39 #[.func (.yield l) #[] #[], .pointer (some ⟨b, 0, none⟩), .pointer (some ⟨b + 1, 0, none⟩), .pointer (some ⟨b + 2, 0, none⟩)] W (IterPost fr to L J Jx) := by
  have HOB := Lib.hid hob; have HPT := Lib.hid hpt
  clear hob hpt
  obtain ⟨rb, H, n, bs', hb, hr, hlo, hhi, hbs⟩ := hT.ex
  obtain ⟨t0, t1, t2⟩ := blk3 hb
  have x0 := blk1 hC.c0
  have x1 := blk1 hC.c1
  have x2 := blk1 hC.c2
  have hJd : ∀ p W', J p W' → J p W'.drew := fun p W' h => hJa p W' _ none h (ext_grown ((Ext.refl W').drew)) (fun r e => by cases e)
  have HR := Lib.hid hr; have HY := Lib.hid hY; have HPX := Lib.hid hPX; have HJA := Lib.hid hJa; have HJD := Lib.hid hJd; have H0 := Lib.hid h0; have HS := Lib.hid hT.srt; have HM := Lib.hid hT.hi; have HBB := Lib.hid hB; have HHI := Lib.hid hhi
  clear hr hY hPX hJa hJd h0 hT hC hB hb hlo hbs hhi
  go_enter Try.func39, Try.ntmps39
  go_wp2
  refine region_calm [.l 0, .p 1, .p 2, .l 3, .l 5, .l 6, .p 7, .h 4 true, .h 8 false] f_mixed (by kernel_rfl) (by kernel_rfl) ?_
  repeat (first | (refine plan_p rfl (fun K hK => ?_); go_simp; refine hK _ ?_; clear hK K) | (refine plan_l rfl (fun K hK => ?_); go_simp; refine hK _ ?_; clear hK K))
  refine plan_ct rfl rfl (fun K _ hK => ?_)
  go_wp2_with fail
  refine (copied_ok m HM.out H ⟨rb, n, L, bs'⟩ W.drew (HR.out.ext (Ext.refl W).drew) HHI.out).mono ?_
  rintro e W2 ⟨k', rfl, hk1, hk2, hk3, hk4, hE⟩
  go_wp2
  refine hK _ _ (hE) ?_; clear hK K
  refine plan_c rfl rfl (fun K _ hK => ?_)
  go_wp2_with fail
  have hJ2 : J [] W2 := HJA.out [] W W2 none H0.out (ext_grown ((Ext.refl W).drew.trans hE)) (fun r e => by cases e)
  have hL : k'.L = L := hk3
  have hnp : ∀ x ∈ k'.bs, ¬ Pts W2 ob x := fun x hx hp => by
    obtain ⟨cs, t, f, off, n, c, p1, p2⟩ := hp
    have p3 : W2.heap[ob]? = W.heap[ob]? := Below.block ((Ext.refl W).drew.trans hE) ob HOB.out
    have p4 := HPT.out x ⟨cs, t, f, off, n, c, by rw [← p3]; exact p1, p2⟩
    have p5 := hk4 x hx
    have p6 : W.drew.heap.size = W.heap.size := rfl
    omega
  refine (walk_ok m ob B (sel fr to L).length l HM.out fr to J Jx HJD.out PX HY.out H k' W2 [] hk1 (by rw [hk2]; exact HHI.out) (fun x hx => ⟨Nat.le_trans HBB.out (hk4 x hx), fun hp => hnp x hx hp⟩) (by rw [hL]; exact HS.out) (by rw [hL]; exact HPX.out) hJ2 (by rw [hL]; simp)).mono ?_
  rw [hL]
  have fin : ∀ (W' : World) (v : Value), ((∃ xs, xs = sel fr to L ∧ J xs W') ∨ (∃ pre, pre <+: sel fr to L ∧ Jx pre W')) → IterPost fr to L J Jx (.returned v) W' := fun W' v h => ⟨⟨v, rfl⟩, h⟩
  have FIN := Lib.hid fin; clear fin
  clear hk1 hk2 hk3 hk4 hJ2 hL t0 t1 t2 x0 x1 x2
  rintro e W3 (⟨rfl, h1, -, -⟩ | ⟨rfl, (⟨h1, -, -⟩ | ⟨q, h1, h2⟩)⟩)
  · have H1 := Lib.hid h1; clear h1
    go_wp2
    refine plan_done ?_
    go_wp2
    (try simp only [Exit.inBlock, Exit.then]); refine bodyPost_end (results_none rfl _ _ _) rfl ?_
    exact FIN.out _ _ (.inl ⟨_, rfl, by simpa using H1.out⟩)
  · have H1 := Lib.hid h1; clear h1
    go_wp2
    refine plan_done ?_
    go_wp2
    (try simp only [Exit.inBlock, Exit.then]); refine bodyPost_end (results_none rfl _ _ _) rfl ?_
    exact FIN.out _ _ (.inl ⟨_, rfl, by simpa using H1.out⟩)
  · have H1 := Lib.hid h1; have H2 := Lib.hid h2; clear h1 h2
    go_wp2
    refine plan_done ?_
    go_wp2
    (try simp only [Exit.inBlock, Exit.then]); refine bodyPost_end (results_none rfl _ _ _) rfl ?_
    exact FIN.out _ _ (.inr ⟨q, H1.out, by simpa using H2.out⟩)

theorem range_stops (n tb m ob B b : Nat) (L : List Ent) (bs : List Nat) (fr to : List UInt8) (w : World) (hT : TreeAt w tb m L bs) (hC : Caught w tb fr to b) (hB : B ≤ w.heap.size) (hob : ob < w.heap.size) (hpt : ∀ k, Pts w ob k → k < w.heap.size) :
    SeqStopsK Fence.wide n Try.prog 39 #[.pointer (some ⟨b, 0, none⟩), .pointer (some ⟨b + 1, 0, none⟩), .pointer (some ⟨b + 2, 0, none⟩)] (encE (L := L)) (KB ob B) (fun ys => ys.map Subtype.val = sel fr to L) (fun p => p.map Subtype.val <+: sel fr to L) (sel fr to L).length w := by
  intro l J Jx W hW hJ hJx hY h0
  refine callsIn_wide.2 ?_
  refine (iter_ok tb m ob B l b L bs fr to (fun p W => ∃ q : List (EntOf L), q.map Subtype.val = p ∧ J q W) (fun p W => ∃ q : List (EntOf L), q.map Subtype.val = p ∧ Jx q W) W (hT.ext hW) (hC.below hW) (Nat.le_trans hB hW.size) (Nat.lt_of_lt_of_le hob hW.size) (fun k ⟨cs, t, f, off, n, c, p1, p2⟩ => Nat.lt_of_lt_of_le (hpt k ⟨cs, t, f, off, n, c, by rw [← Below.block hW ob hob]; exact p1, p2⟩) hW.size)
    (fun p W1 W2 row ⟨q, h1, h2⟩ hg hr => ⟨q, h1, hJ q W1 W2 row h2 hg hr⟩) (fun e => e ∈ L) (fun e he => (List.mem_filter.1 he).1) ?_ ⟨[], rfl, h0⟩).mono ?_
  · rintro p x W1 hx ⟨q, rfl, hq⟩ hlen
    refine YieldAt.mono (YieldAt.anyN 0 (hY q ⟨x, hx⟩ W1 hq (by simpa using hlen))) ?_
    rintro e W' (⟨he, hj, hk⟩ | ⟨he, hj⟩)
    · exact .inl ⟨he, ⟨q ++ [⟨x, hx⟩], by simp, hj⟩, hk⟩
    · exact .inr ⟨he, ⟨q ++ [⟨x, hx⟩], by simp, hj⟩⟩
  · rintro e W' ⟨he, (⟨xs, rfl, q, hq, hj⟩ | ⟨pre, hp, q, hq, hj⟩)⟩
    · exact ⟨he, .inl ⟨q, hq, hj⟩⟩
    · exact ⟨he, .inr ⟨q, (by show q.map Subtype.val <+: _; rw [hq]; exact hp), hj⟩⟩
theorem KB.t {ob B : Nat} {X Y Z : World} (h : KB ob B X Y) (k : KB ob B Y Z) : KB ob B X Z := h.trans k
theorem KB.b {w : World} (ob B : Nat) (hob : ob < w.heap.size) (W : World) (l : Nat) (o o' : Obj) (hl : w.heap.size ≤ l) (h : W.heap[l]? = some o) (hc : o.isCells = false) (_ : o.isWalk = false) : KB ob B W (W.putObj l o') :=
  have hg := grownBy_putObj' W l o'
  ⟨hg.size, fun k cs t f _ _ hk => by
    rw [hg.block k (Array.getElem?_eq_some_iff.1 hk).1 (fun e => ?_)]
    · exact hk
    · cases e
      rw [h] at hk
      cases hk
      simp [Obj.isCells] at hc, fun k ⟨cs, t, f, off, n, c, p1, p2⟩ => by
    have hlW : l < W.heap.size := (Array.getElem?_eq_some_iff.1 h).1
    refine .inl ⟨cs, t, f, off, n, c, ?_, p2⟩
    rw [← hg.block ob (by omega) (fun e => by cases e; omega)]; exact p1⟩
/-- A loop over an iterator: the round is walked from the act that the assignment leaves. -/
theorem range_round {α : Type} {n ob : Nat} {P : Program} {g : Operand} {ps : Array Tmp} {assign body : Code} {Q : Exit → Act → World → Prop} {a : Act} {w : World}
    (h1 : 1 ≤ n) (hob : ob < w.heap.size) {gf : Nat} {lb : Array Value} (hg : a.eval g = .func (.func gf) #[] lb) (eg : ∀ args w, (callFunc gf args).run P w = .ok (.enter gf args) w)
    {encs : α → Array Value} {S Sp : List α → Prop} {N : Nat} (hseq : SeqStopsK Fence.wide (n - 1) P gf lb encs (KB ob w.heap.size) S Sp N w) (hps : ∀ x, (encs x).size = ps.size)
    (I : List α → World → Prop) (Ix : Code → List α → World → Prop) (hI : OwnFrom w.heap.size I) (hIx : ∀ c, OwnFrom w.heap.size (Ix c)) (h0 : I [] w)
    (hround : ∀ (l0 : Nat) (pre0 : List α) (x : α) (W0 : World) (K : Act → World → Prop), I pre0 W0 →
      (∀ a' W', KeepsFrom w.heap.size W0 W' → KB ob w.heap.size W0 W' → I pre0 W' →
        (∀ (l : Nat) (pre : List α) (W : World), I pre W → pre.length < N → body.wpIn (Fence.wide.inRound l) (n - 1 - 1) P (ownPostG w.heap.size (KB ob w.heap.size) I Ix (pre ++ [x]) W) a' W) → K a' W') →
      assign.wpIn (Fence.wide.inRound l0) (n - 1 - 1) P (Exit.then K (fun _ _ _ => False)) { tmps := (ps.zip (encs x)).foldl (fun t (p, v) => t.setIfInBounds p v) a.tmps, defers := [] } W0)
    (hdone : ∀ (D : Nat) (xs : List α) (W : World), w.heap.size ≤ D → S xs → I xs W → W.heap[D]? = some (.deferred (some [])) → Q .normal { a with defers := { target := .collected D, args := #[] } :: a.defers } W)
    (hstop : ∀ (D : Nat) (c : Code) (pre : List α) (W : World), w.heap.size ≤ D → Sp pre → Ix c pre W → W.heap[D]? = some (.deferred (some [])) → c.wpIn Fence.wide n P Q { a with defers := { target := .collected D, args := #[] } :: a.defers } W) :
    (Code.rangeFunc g ps assign body).wp P Q a w :=
  wpIn_wide.1 (wpIn_rangeFunc_ownH (F := Fence.wide) (n := n) rfl h1 hg trivial eg hseq KB.t (KB.b ob _ hob) (Below.refl _ _) hps I Ix hI hIx h0
    (fun x a' _ => ∀ (l : Nat) (pre : List α) (W : World), I pre W → pre.length < N → body.wpIn (Fence.wide.inRound l) (n - 1 - 1) P (ownPostG w.heap.size (KB ob w.heap.size) I Ix (pre ++ [x]) W) a' W)
    (fun _ _ _ _ _ _ h _ _ => h) hround (fun l pre x a' W _ _ hi hx hlen => hx l pre W hi hlen) hdone hstop)
end Go.Proofs.Ytkejjahlglldlaa.Ob
