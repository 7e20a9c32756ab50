/- btree.walk: walked, over whatever loop body. -/
import Derived.Test.YtkejjahlglldlaaBtD
import Derived.Test.YtkejjahlglldlaaBt4
import Derived.RangeFuncNested
import Derived.RangeFuncBound
import Derived.RangeFuncLeaves
import Derived.Shelf.Abstract
import Derived.Shelf.RegionOpen
import Derived.WalkKit
import Derived.OwnWalkIn
import Derived.TacticsInMore
namespace Go.Proofs.Ytkejjahlglldlaa
open Go.RowKit Go.Lib Go.Shelf

def WPost (fr to : List UInt8) (J Jx : List Ent → World → Prop) (B : Nat) (L : List Ent) (pr : List Ent) (W : World) (e : Ending) (W' : World) : Prop :=
  (e = .returned (.bool true) ∧ J (pr ++ sel fr to L) W' ∧ KB B W W' ∧ allU fr to L) ∨
  (e = .returned (.bool false) ∧ ((J (pr ++ sel fr to L) W' ∧ KB B W W' ∧ over fr to L) ∨ ∃ q, q <+: sel fr to L ∧ Jx (pr ++ q) W'))

theorem prefix_sel {fr to : List UInt8} {A C q : List Ent} (h : q <+: sel fr to C) (D : List Ent) : sel fr to A ++ q <+: sel fr to (A ++ (C ++ D)) := by
  obtain ⟨t, ht⟩ := h
  refine ⟨t ++ sel fr to D, ?_⟩
  rw [sel_append, sel_append, ← ht]; simp

set_option maxRecDepth 100000 in
set_option maxHeartbeats 16000000 in
theorem walk_step (m h B N l : Nat) (hm64 : m ≤ 64) (fr to : List UInt8) (J Jx : List Ent → World → Prop) (hJd : ∀ p W, J p W → J p W.drew)
    (PX : Ent → Prop) (hY : ∀ p x W, PX x → J p W → p.length < N → YieldAt Fence.wide 0 Try.prog l #[str x.1, .int .i64 x.2] W fun e W' => (e = .returned (.bool true) ∧ J (p ++ [x]) W' ∧ KB B W W') ∨ (e = .returned (.bool false) ∧ Jx (p ++ [x]) W'))
    (ih : ∀ h', h = h' + 1 → ∀ (k : Kid) (W : World) (pr : List Ent), Rep W m h' k → k.n + 1 ≤ 2 * m → (∀ x ∈ k.bs, B ≤ x) → Srt k.L → (∀ e ∈ sel fr to k.L, PX e) → J pr W → pr.length + (sel fr to k.L).length ≤ N →
      Calls Try.prog 41 #[.pointer (some ⟨k.b, 0, none⟩), str fr, str to, .func (.yield l) #[] #[]] W (WPost fr to J Jx B k.L pr W))
    (k : Kid) (W : World) (pr : List Ent) (hr : Rep W m h k) (hhi : k.n + 1 ≤ 2 * m) (hB : ∀ x ∈ k.bs, B ≤ x) (hsrt : Srt k.L) (hPX : ∀ e ∈ sel fr to k.L, PX e) (hJ : J pr W) (hN : pr.length + (sel fr to k.L).length ≤ N) :
    Calls Try.prog 41 #[.pointer (some ⟨k.b, 0, none⟩), str fr, str to, .func (.yield l) #[] #[]] W (WPost fr to J Jx B k.L pr W) := by
  obtain ⟨es, ks, gk, gv, gc, ck, cv, cc, h1, h2, h3, h4, h5⟩ := hr.open
  obtain ⟨hl1, hl2⟩ := lsOf_inter h5
  obtain ⟨Ls, hLs⟩ : ∃ Ls, lsOf ks es.length = Ls := ⟨_, rfl⟩
  rw [hLs] at hl1 hl2
  have hes : es.length ≤ 127 := by omega
  have HNA := Lib.hid h1; have HNN := Lib.hid h2; have HBS := Lib.hid h4; have HOK := Lib.hid h5; have IH := Lib.hid ih; have HY := Lib.hid hY; have HJD := Lib.hid hJd; have HB := Lib.hid hB
  have HL := Lib.hid (h3.trans hl1.symm); have HLL := Lib.hid hl2; have HLS := Lib.hid hLs; have HSRT := Lib.hid hsrt; have HJ := Lib.hid hJ; have HN := Lib.hid hN; have HPX := Lib.hid hPX
  have HSN : Hid (Srt es) := by
    have := hsrt
    rw [HL.out] at this
    exact this.node
  have HOB : Hid (∀ x ∈ ownL k.b gk gv gc, B ≤ x) := fun x hx => hB x (by rw [h4]; exact List.mem_append_left _ hx)
  clear h1 h2 h3 h4 h5 ih hY hJd hB hl1 hl2 hLs hsrt hJ hN hr hPX
  have hple := pos_le fr es
  obtain ⟨p, hp⟩ : ∃ p, pos fr es = p := ⟨_, rfl⟩
  rw [hp] at hple
  have HP := Lib.hid hp
  go_enter Try.func41, Try.ntmps41
  go_wp2_with fail
  refine (find_ok HNA.out fr (by omega) HSN.out).mono ?_
  rintro e w' ⟨rfl, rfl⟩
  rw [hp]
  clear hp
  go_wp2
  go_loopg [9] (es.length + 1 - p) (fun r v9 wr => ∃ i : Nat, i + r = es.length + 1 ∧ v9 = .int .i64 (i : Int) ∧ p ≤ i ∧ i ≤ es.length ∧ J (pr ++ sel fr to (part Ls es i)) wr ∧ KB B W wr ∧ allU fr to (part Ls es i))
  case atStart =>
    have hbel := part_first (fr := fr) HLL.out (by rw [← HL.out]; exact HSRT.out)
    rw [HP.out] at hbel
    exact ⟨p, by omega, rfl, Nat.le_refl _, hple, by rw [sel_below hbel, List.append_nil]; exact HJ.out, KB.refl _ _, allU_below hbel⟩
  case round =>
    obtain ⟨i, hir, rfl, hpi, hie, hJi, hKi, hAi⟩ := hrel
    have HJI := Lib.hid hJi; have HKI := Lib.hid hKi; have HAI := Lib.hid hAi; have HIR := Lib.hid hir
    have HPI : Hid (pos fr es ≤ i) := by rw [HP.out]; exact hpi
    clear hJi hKi hAi hir
    have HNR := Lib.hid (HNA.out.kb HOB.out HKI.out)
    obtain ⟨n0, n1, n2⟩ := blk3 HNR.out.blk
    obtain ⟨Lk, hLk⟩ : ∃ Lk, Ls[i]? = some Lk := ⟨Ls[i]'(by have := HLL.out; omega), List.getElem?_eq_getElem _⟩
    have HLK := Lib.hid hLk; clear hLk
    by_cases hks : ks = []
    · have hpk' : decide (ks.map Kid.b = []) = true := decide_eq_true (by rw [hks]; rfl)
      have hLk0 : Lk = [] := by
        have h1 := HLK.out
        rw [← HLS.out, hks] at h1
        simp [lsOf, List.getElem?_replicate] at h1
        exact h1.2
      have HKS := Lib.hid hks; clear hks
      have HNW := HNR
      have HJ2 : Hid (J (pr ++ sel fr to (part Ls es i ++ Lk)) wr) := by rw [hLk0, List.append_nil]; exact HJI.out
      have HK2 : Hid (KB B W wr) := HKI.out
      have HA2 : Hid (allU fr to (part Ls es i ++ Lk)) := by rw [hLk0, List.append_nil]; exact HAI.out
      clear hLk0
      by_cases hin : i = es.length
      · have hin' : ((i : Int) == (es.length : Int)) = true := by simp [hin]
        have HIN := Lib.hid hin; clear hin
        go_wp2_with (first | (go_at_call 34; refine (leaf_ok HNR.out).mono ?_; rintro e w' ⟨rfl, rfl⟩))
        go_ret
        refine .inl ⟨rfl, ?_, HK2.out, ?_⟩
        · rw [HL.out, part_end HLL.out (by rw [← HIN.out]; exact HLK.out), ← HIN.out]; exact HJ2.out
        · rw [HL.out, part_end HLL.out (by rw [← HIN.out]; exact HLK.out), ← HIN.out]; exact HA2.out
      · have hin' : ((i : Int) == (es.length : Int)) = false := by simp; omega
        obtain ⟨x, hx⟩ : ∃ x, es[i]? = some x := ⟨es[i]'(by omega), List.getElem?_eq_getElem _⟩
        have HX := Lib.hid hx; clear hx
        obtain ⟨R, hR⟩ := part_mid HLL.out HLK.out HX.out
        have HR := Lib.hid hR; clear hR
        have HSRT2 : Hid (Srt (part Ls es i ++ (Lk ++ (x :: R)))) := by
          have := HSRT.out
          rw [HL.out, HR.out] at this
          exact this
        have HGE : Hid (Op.bytesLess x.1 fr = false) := by
          refine pos_ge fr es HSN.out x ?_
          rw [List.mem_iff_getElem]
          refine ⟨i - pos fr es, by rw [List.length_drop]; have := HPI.out; omega, ?_⟩
          rw [List.getElem_drop]
          have := (List.getElem?_eq_some_iff.1 HX.out).2
          have h3 : pos fr es + (i - pos fr es) = i := by have := HPI.out; omega
          simp only [h3]; exact this
        go_wp2_with (first | (go_at_call 34; refine (leaf_ok HNR.out).mono ?_; rintro e w' ⟨rfl, rfl⟩))
        clear n0 n1 n2
        obtain ⟨n0, n1, n2⟩ := blk3 HNW.out.blk
        obtain ⟨gkb, hgkb⟩ := HNW.out.keys.some_of_pos (by omega)
        obtain ⟨gvb, hgvb⟩ := HNW.out.vals.some_of_pos (by omega)
        have hks := HNW.out.keys
        have hvs := HNW.out.vals
        rw [hgkb] at hks
        rw [hgvb] at hvs
        have hkc := hks.cell (sK_get HX.out)
        have hvc := hvs.cell (sV_get HX.out)
        have hki := fun U => run_index_slv (P := Try.prog) ei_string (cap := ck) hgkb (j := i) (n := es.length) (by omega) U
        have hvi := fun U => run_index_slv (P := Try.prog) ei_int64 (cap := cv) hgvb (j := i) (n := es.length) (by omega) U
        have HGK := Lib.hid hgkb; have HGV := Lib.hid hgvb
        clear hks hvs hgkb hgvb
        refine (wpIn_wide (n := 1)).1 ?_
        have hlenN : (pr ++ sel fr to (part Ls es i ++ Lk)).length < N ∨ inR fr to x = false := by
          cases hin2 : inR fr to x with
          | false => exact .inr rfl
          | true =>
            left
            have h1 := HN.out
            rw [HL.out, HR.out, ← List.append_assoc, sel_append] at h1
            have h2 : sel fr to (x :: R) = x :: sel fr to R := by unfold sel; rw [List.filter_cons, if_pos hin2]
            rw [h2] at h1
            simp only [List.length_append, List.length_cons] at h1 ⊢
            omega
        have HLN := Lib.hid hlenN; clear hlenN
        have hro : Fence.wide.round = none := rfl
        have hfn : ∀ f, Fence.wide.fn f := fun _ => trivial
        have hdd : ∀ k : Nat, (Fence.wide.depth.isSome = true → 1 ≤ k) := fun k h => by cases h
        by_cases hto : to = []
        · have hemp : (bs to).toList.isEmpty = true := by rw [bs_toList, hto]; rfl
          have hinx : inR fr to x = true := by simp [inR, HGE.out, hto]
          have HINX := Lib.hid hinx; clear hinx
          have HXU : Hid (to = [] ∨ blt x.1 to) := .inl hto
          clear hto
          refine regionI (fun _ => trivial) (by kernel_rfl) [.p 0, .p 1, .p 2, .p 3, .p 4, .p 5, .l 6, .p 7, .p 8, .l 9, .p 10, .h 11 false, .p 12, .p 13, .p 14, .p 15, .p 16, .p 17, .p 18, .l 19, .p 20, .p 21, .l 22, .p 23, .p 24, .p 25, .l 26, .p 27, .p 28, .l 29, .h 30 false, .p 31, .p 32] f_mixed (by kernel_rfl) (by kernel_rfl) ?_
          repeat (first | (refine iplan_p rfl (fun K hK => ?_); go_simp; refine hK _ ?_; clear hK K) | (refine iplan_l rfl (fun K hK => ?_); go_simp; refine hK _ ?_; clear hK K))
          refine iplan_h rfl (fun K hK => ?_)
          gi_wp2
          repeat (first | (refine iplan_p rfl (fun K hK => ?_); go_simp; refine hK _ ?_; clear hK K) | (refine iplan_l rfl (fun K hK => ?_); go_simp; refine hK _ ?_; clear hK K))
          refine iplan_h rfl (fun K hK => ?_)
          obtain ⟨fn, tmps, assign, body, hy, hRd⟩ := HY.out (pr ++ sel fr to (part Ls es i ++ Lk)) x wr.drew (HPX.out x (by
            rw [HL.out, HR.out, sel_append, sel_append]
            refine List.mem_append_right _ (List.mem_append_right _ ?_)
            unfold sel
            rw [List.filter_cons, if_pos HINX.out]
            exact List.mem_cons_self ..)) (HJD.out _ _ HJ2.out) (HLN.out.resolve_right (by rw [HINX.out]; exact Bool.noConfusion))
          gi_wp2
          refine hRd.mono ?_
          clear hRd hy
          rintro e W3 (⟨rfl, hJ3, hK3⟩ | ⟨rfl, hx3⟩)
          · gi_wp2
            repeat (first | (refine iplan_p rfl (fun K hK => ?_); go_simp; refine hK _ ?_; clear hK K) | (refine iplan_l rfl (fun K hK => ?_); go_simp; refine hK _ ?_; clear hK K))
            refine iplan_done ?_
            go_wp2
            go_roundg (gk - 1)
            case measure => have := HIR.out; omega
            case rel =>
              refine ⟨i + 1, by have := HIR.out; omega, by go_num, by omega, by omega, ?_, HK2.out.trans ⟨hK3.size, hK3.cells⟩, ?_⟩
              · rw [part_succ HLK.out HX.out, ← List.append_assoc, sel_append _ _ _ [x]]
                have : sel fr to [x] = [x] := by unfold sel; rw [List.filter_cons, if_pos HINX.out]; rfl
                rw [this, ← List.append_assoc]; exact hJ3
              · rw [part_succ HLK.out HX.out, ← List.append_assoc]
                exact HA2.out.append (fun e he _ => by simp at he; subst he; exact HXU.out)
          · gi_wp2
            repeat (first | (refine iplan_p rfl (fun K hK => ?_); go_simp; refine hK _ ?_; clear hK K) | (refine iplan_l rfl (fun K hK => ?_); go_simp; refine hK _ ?_; clear hK K))
            refine iplan_done ?_
            go_wp2
            go_ret
            refine .inr ⟨rfl, .inr ⟨sel fr to (part Ls es i ++ Lk) ++ [x], ?_, by rw [← List.append_assoc]; exact hx3⟩⟩
            rw [HL.out, HR.out, ← List.append_assoc, sel_append _ _ _ (x :: R)]
            have : sel fr to (x :: R) = [x] ++ sel fr to R := by unfold sel; rw [List.filter_cons, if_pos HINX.out]; rfl
            rw [this, ← List.append_assoc]
            exact List.prefix_append _ _
        · have hemp : (bs to).toList.isEmpty = false := by rw [bs_toList]; simpa using hto
          have HTO := Lib.hid hto; clear hto
          cases hbl : Op.bytesLess x.1 to
          · have hcmp : (0 ≤ Lib.compareBytes x.1 to) := by rw [cmpB_eq, hbl]; simp; split <;> omega
            have HBL := Lib.hid hbl; clear hbl
            refine regionI (fun _ => trivial) (by kernel_rfl) [.p 0, .p 1, .p 2, .p 3, .p 4, .p 5, .l 6, .p 7, .p 8, .l 9, .p 10, .h 11 false, .p 12, .p 13, .p 14, .p 15, .p 16, .p 17, .p 18, .l 19, .p 20, .p 21, .l 22, .p 23, .p 24, .p 25, .l 26, .p 27, .p 28, .l 29, .h 30 false, .p 31, .p 32] f_mixed (by kernel_rfl) (by kernel_rfl) ?_
            repeat (first | (refine iplan_p rfl (fun K hK => ?_); go_simp; refine hK _ ?_; clear hK K) | (refine iplan_l rfl (fun K hK => ?_); go_simp; refine hK _ ?_; clear hK K))
            refine iplan_h rfl (fun K hK => ?_)
            gi_wp2_with (gi_at_call 49; refine (callsIn_wide.2 (strcmp_bs _ _ _)).mono ?_; rintro e w' ⟨rfl, rfl⟩)
            repeat (first | (refine iplan_p rfl (fun K hK => ?_); go_simp; refine hK _ ?_; clear hK K) | (refine iplan_l rfl (fun K hK => ?_); go_simp; refine hK _ ?_; clear hK K))
            refine iplan_h rfl (fun K hK => ?_)
            gi_wp2
            repeat (first | (refine iplan_p rfl (fun K hK => ?_); go_simp; refine hK _ ?_; clear hK K) | (refine iplan_l rfl (fun K hK => ?_); go_simp; refine hK _ ?_; clear hK K))
            refine iplan_done ?_
            go_wp2
            go_ret
            have hov : over fr to [x] := ⟨HTO.out, x, by simp, HGE.out, HBL.out⟩
            have hsx : sel fr to (x :: R) = [] := by
              have h1 : sel fr to [x] = [] := by unfold sel; rw [List.filter_cons, if_neg (by simp [inR, HTO.out, HBL.out])]; rfl
              have h2 := sel_over (A := [x]) (B := R) (srt_append.1 (srt_append.1 HSRT2.out).2.1).2.1 hov
              have h3 : x :: R = [x] ++ R := rfl
              rw [h3, sel_append, h1, h2]; rfl
            refine .inr ⟨rfl, .inl ⟨?_, HK2.out.drew, ?_⟩⟩
            · rw [HL.out, HR.out, ← List.append_assoc, sel_append _ _ _ (x :: R), hsx, List.append_nil]
              exact HJD.out _ _ HJ2.out
            · rw [HL.out, HR.out]
              exact ((hov.left R).right Lk).right _
          · have hcmp : ¬ (0 ≤ Lib.compareBytes x.1 to) := by rw [cmpB_eq, hbl]; simp
            have hinx : inR fr to x = true := by simp [inR, HGE.out, hbl]
            have HINX := Lib.hid hinx; clear hinx
            have HXU : Hid (to = [] ∨ blt x.1 to) := .inr hbl
            clear hbl
            refine regionI (fun _ => trivial) (by kernel_rfl) [.p 0, .p 1, .p 2, .p 3, .p 4, .p 5, .l 6, .p 7, .p 8, .l 9, .p 10, .h 11 false, .p 12, .p 13, .p 14, .p 15, .p 16, .p 17, .p 18, .l 19, .p 20, .p 21, .l 22, .p 23, .p 24, .p 25, .l 26, .p 27, .p 28, .l 29, .h 30 false, .p 31, .p 32] f_mixed (by kernel_rfl) (by kernel_rfl) ?_
            repeat (first | (refine iplan_p rfl (fun K hK => ?_); go_simp; refine hK _ ?_; clear hK K) | (refine iplan_l rfl (fun K hK => ?_); go_simp; refine hK _ ?_; clear hK K))
            refine iplan_h rfl (fun K hK => ?_)
            gi_wp2_with (gi_at_call 49; refine (callsIn_wide.2 (strcmp_bs _ _ _)).mono ?_; rintro e w' ⟨rfl, rfl⟩)
            repeat (first | (refine iplan_p rfl (fun K hK => ?_); go_simp; refine hK _ ?_; clear hK K) | (refine iplan_l rfl (fun K hK => ?_); go_simp; refine hK _ ?_; clear hK K))
            refine iplan_h rfl (fun K hK => ?_)
            obtain ⟨fn, tmps, assign, body, hy, hRd⟩ := HY.out (pr ++ sel fr to (part Ls es i ++ Lk)) x wr.drew (HPX.out x (by
              rw [HL.out, HR.out, sel_append, sel_append]
              refine List.mem_append_right _ (List.mem_append_right _ ?_)
              unfold sel
              rw [List.filter_cons, if_pos HINX.out]
              exact List.mem_cons_self ..)) (HJD.out _ _ HJ2.out) (HLN.out.resolve_right (by rw [HINX.out]; exact Bool.noConfusion))
            gi_wp2
            refine hRd.mono ?_
            clear hRd hy
            rintro e W3 (⟨rfl, hJ3, hK3⟩ | ⟨rfl, hx3⟩)
            · gi_wp2
              repeat (first | (refine iplan_p rfl (fun K hK => ?_); go_simp; refine hK _ ?_; clear hK K) | (refine iplan_l rfl (fun K hK => ?_); go_simp; refine hK _ ?_; clear hK K))
              refine iplan_done ?_
              go_wp2
              go_roundg (gk - 1)
              case measure => have := HIR.out; omega
              case rel =>
                refine ⟨i + 1, by have := HIR.out; omega, by go_num, by omega, by omega, ?_, HK2.out.trans ⟨hK3.size, hK3.cells⟩, ?_⟩
                · rw [part_succ HLK.out HX.out, ← List.append_assoc, sel_append _ _ _ [x]]
                  have : sel fr to [x] = [x] := by unfold sel; rw [List.filter_cons, if_pos HINX.out]; rfl
                  rw [this, ← List.append_assoc]; exact hJ3
                · rw [part_succ HLK.out HX.out, ← List.append_assoc]
                  exact HA2.out.append (fun e he _ => by simp at he; subst he; exact HXU.out)
            · gi_wp2
              repeat (first | (refine iplan_p rfl (fun K hK => ?_); go_simp; refine hK _ ?_; clear hK K) | (refine iplan_l rfl (fun K hK => ?_); go_simp; refine hK _ ?_; clear hK K))
              refine iplan_done ?_
              go_wp2
              go_ret
              refine .inr ⟨rfl, .inr ⟨sel fr to (part Ls es i ++ Lk) ++ [x], ?_, by rw [← List.append_assoc]; exact hx3⟩⟩
              rw [HL.out, HR.out, ← List.append_assoc, sel_append _ _ _ (x :: R)]
              have : sel fr to (x :: R) = [x] ++ sel fr to R := by unfold sel; rw [List.filter_cons, if_pos HINX.out]; rfl
              rw [this, ← List.append_assoc]
              exact List.prefix_append _ _
    · have hpk' : decide (ks.map Kid.b = []) = false := decide_eq_false (by simpa using hks)
      have HKS := Lib.hid hks; clear hks
      obtain ⟨h', hh'⟩ : ∃ h', h = h' + 1 := by
        cases h with
        | zero => exact absurd HOK.out HKS.out
        | succ h' => exact ⟨h', rfl⟩
      subst hh'
      have HKL : Hid (ks.length = es.length + 1) := HOK.out.1
      obtain ⟨y, hy⟩ : ∃ y, ks[i]? = some y := ⟨ks[i]'(by have := HKL.out; omega), List.getElem?_eq_getElem _⟩
      have hym := HOK.out.2 y (List.mem_of_getElem? hy)
      have hyL : Lk = y.L := by
        have h1 := HLK.out
        rw [← HLS.out] at h1
        unfold lsOf at h1
        rw [if_neg HKS.out, List.getElem?_map, hy] at h1
        exact (Option.some.inj h1).symm
      have hyB : ∀ x ∈ y.bs, B ≤ x := fun x hx => HB.out x (by rw [HBS.out]; exact List.mem_append_right _ (List.mem_flatMap.2 ⟨y, List.mem_of_getElem? hy, hx⟩))
      have hyS : Srt y.L := by
        have h1 := HSRT.out
        rw [HL.out, part_at HLL.out HLK.out, hyL] at h1
        exact (srt_append.1 (srt_append.1 h1).2.1).1
      have hyN : (pr ++ sel fr to (part Ls es i)).length + (sel fr to y.L).length ≤ N := by
        have h1 := HN.out
        rw [HL.out, part_at HLL.out HLK.out, hyL, sel_append, sel_append] at h1
        simp only [List.length_append] at h1 ⊢
        omega
      have hyP : ∀ e ∈ sel fr to y.L, PX e := fun e he => HPX.out e (by
        rw [HL.out, part_at HLL.out HLK.out, hyL, sel_append, sel_append]
        exact List.mem_append_right _ (List.mem_append_left _ he))
      obtain ⟨gcb, hgcb⟩ := HNR.out.kids.some_of_pos (by rw [List.length_map]; have := HKL.out; omega)
      have hsc := HNR.out.kids
      rw [hgcb] at hsc
      have hci := hsc.cell (sP_get (show (ks.map Kid.b)[i]? = some y.b by rw [List.getElem?_map, hy]; rfl))
      obtain ⟨kn, hkn⟩ : ∃ kn, (ks.map Kid.b).length = kn := ⟨_, rfl⟩
      have hri := fun U => run_index_slv (P := Try.prog) ei_node (cap := cc) hgcb (j := i) (n := kn) (by rw [← hkn, List.length_map]; have := HKL.out; omega) U
      rw [hkn] at n2
      have HCALL := Lib.hid (IH.out h' rfl y wr (pr ++ sel fr to (part Ls es i)) (hym.1.kb hyB HKI.out) hym.2.2 hyB hyS hyP HJI.out hyN)
      rw [← hyL] at HCALL
      have HYM := Lib.hid hym; have HG := Lib.hid hgcb; have HKN := Lib.hid hkn
      clear hym hgcb hkn hsc hy hyL hyB hyS hyN hyP
      by_cases hin : i = es.length
      · have hin' : ((i : Int) == (es.length : Int)) = true := by simp [hin]
        have HIN := Lib.hid hin; clear hin
        go_wp2_with (first | (go_at_call 34; refine (leaf_ok HNR.out).mono ?_; rintro e w' ⟨rfl, rfl⟩))
        refine HCALL.out.mono ?_
        clear HCALL
        rintro e W2 (⟨rfl, hJ2, hK2, hA2⟩ | ⟨rfl, hF⟩)
        · have HJ2 : Hid (J (pr ++ sel fr to (part Ls es i ++ Lk)) W2) := by rw [sel_append, ← List.append_assoc]; exact hJ2
          have HK2 : Hid (KB B W W2) := HKI.out.trans hK2
          have HA2 : Hid (allU fr to (part Ls es i ++ Lk)) := HAI.out.append hA2
          have HNW := Lib.hid (HNA.out.kb HOB.out HK2.out)
          clear hJ2 hK2 hA2 n0 n1 n2 hci
          obtain ⟨n0, n1, n2⟩ := blk3 HNW.out.blk
          go_wp2
          go_ret
          refine .inl ⟨rfl, ?_, HK2.out, ?_⟩
          · rw [HL.out, part_end HLL.out (by rw [← HIN.out]; exact HLK.out), ← HIN.out]; exact HJ2.out
          · rw [HL.out, part_end HLL.out (by rw [← HIN.out]; exact HLK.out), ← HIN.out]; exact HA2.out
        · clear n0 n1 n2
          go_wp2
          go_ret
          refine .inr ⟨rfl, ?_⟩
          rw [HL.out, part_at HLL.out HLK.out]
          rcases hF with ⟨h1, h2, h3⟩ | ⟨q, h1, h2⟩
          · have h4 : sel fr to (suf (Ls.drop (i + 1)) (es.drop i)) = [] := by
              have h5 := HSRT.out
              rw [HL.out, part_at HLL.out HLK.out] at h5
              exact sel_over (srt_append.1 h5).2.1 h3
            refine .inl ⟨?_, HKI.out.trans h2, (h3.left _).right _⟩
            rw [sel_append, sel_append, h4, List.append_nil, ← List.append_assoc]; exact h1
          · exact .inr ⟨_, prefix_sel h1 _, by rw [← List.append_assoc]; exact h2⟩
      · have hin' : ((i : Int) == (es.length : Int)) = false := by simp; omega
        obtain ⟨x, hx⟩ : ∃ x, es[i]? = some x := ⟨es[i]'(by omega), List.getElem?_eq_getElem _⟩
        have HX := Lib.hid hx; clear hx
        obtain ⟨R, hR⟩ := part_mid HLL.out HLK.out HX.out
        have HR := Lib.hid hR; clear hR
        have HSRT2 : Hid (Srt (part Ls es i ++ (Lk ++ (x :: R)))) := by
          have := HSRT.out
          rw [HL.out, HR.out] at this
          exact this
        have HGE : Hid (Op.bytesLess x.1 fr = false) := by
          refine pos_ge fr es HSN.out x ?_
          rw [List.mem_iff_getElem]
          refine ⟨i - pos fr es, by rw [List.length_drop]; have := HPI.out; omega, ?_⟩
          rw [List.getElem_drop]
          have := (List.getElem?_eq_some_iff.1 HX.out).2
          have h3 : pos fr es + (i - pos fr es) = i := by have := HPI.out; omega
          simp only [h3]; exact this
        go_wp2_with (first | (go_at_call 34; refine (leaf_ok HNR.out).mono ?_; rintro e w' ⟨rfl, rfl⟩))
        refine HCALL.out.mono ?_
        clear HCALL
        rintro e W2 (⟨rfl, hJ2, hK2, hA2⟩ | ⟨rfl, hF⟩)
        · have HJ2 : Hid (J (pr ++ sel fr to (part Ls es i ++ Lk)) W2) := by rw [sel_append, ← List.append_assoc]; exact hJ2
          have HK2 : Hid (KB B W W2) := HKI.out.trans hK2
          have HA2 : Hid (allU fr to (part Ls es i ++ Lk)) := HAI.out.append hA2
          have HNW := Lib.hid (HNA.out.kb HOB.out HK2.out)
          clear hJ2 hK2 hA2 n0 n1 n2 hci
          obtain ⟨n0, n1, n2⟩ := blk3 HNW.out.blk
          go_wp2
          clear n0 n1 n2
          obtain ⟨n0, n1, n2⟩ := blk3 HNW.out.blk
          obtain ⟨gkb, hgkb⟩ := HNW.out.keys.some_of_pos (by omega)
          obtain ⟨gvb, hgvb⟩ := HNW.out.vals.some_of_pos (by omega)
          have hks := HNW.out.keys
          have hvs := HNW.out.vals
          rw [hgkb] at hks
          rw [hgvb] at hvs
          have hkc := hks.cell (sK_get HX.out)
          have hvc := hvs.cell (sV_get HX.out)
          have hki := fun U => run_index_slv (P := Try.prog) ei_string (cap := ck) hgkb (j := i) (n := es.length) (by omega) U
          have hvi := fun U => run_index_slv (P := Try.prog) ei_int64 (cap := cv) hgvb (j := i) (n := es.length) (by omega) U
          have HGK := Lib.hid hgkb; have HGV := Lib.hid hgvb
          clear hks hvs hgkb hgvb
          refine (wpIn_wide (n := 1)).1 ?_
          have hlenN : (pr ++ sel fr to (part Ls es i ++ Lk)).length < N ∨ inR fr to x = false := by
            cases hin2 : inR fr to x with
            | false => exact .inr rfl
            | true =>
              left
              have h1 := HN.out
              rw [HL.out, HR.out, ← List.append_assoc, sel_append] at h1
              have h2 : sel fr to (x :: R) = x :: sel fr to R := by unfold sel; rw [List.filter_cons, if_pos hin2]
              rw [h2] at h1
              simp only [List.length_append, List.length_cons] at h1 ⊢
              omega
          have HLN := Lib.hid hlenN; clear hlenN
          have hro : Fence.wide.round = none := rfl
          have hfn : ∀ f, Fence.wide.fn f := fun _ => trivial
          have hdd : ∀ k : Nat, (Fence.wide.depth.isSome = true → 1 ≤ k) := fun k h => by cases h
          by_cases hto : to = []
          · have hemp : (bs to).toList.isEmpty = true := by rw [bs_toList, hto]; rfl
            have hinx : inR fr to x = true := by simp [inR, HGE.out, hto]
            have HINX := Lib.hid hinx; clear hinx
            have HXU : Hid (to = [] ∨ blt x.1 to) := .inl hto
            clear hto
            refine regionI (fun _ => trivial) (by kernel_rfl) [.p 0, .p 1, .p 2, .p 3, .p 4, .p 5, .l 6, .p 7, .p 8, .l 9, .p 10, .h 11 false, .p 12, .p 13, .p 14, .p 15, .p 16, .p 17, .p 18, .l 19, .p 20, .p 21, .l 22, .p 23, .p 24, .p 25, .l 26, .p 27, .p 28, .l 29, .h 30 false, .p 31, .p 32] f_mixed (by kernel_rfl) (by kernel_rfl) ?_
            repeat (first | (refine iplan_p rfl (fun K hK => ?_); go_simp; refine hK _ ?_; clear hK K) | (refine iplan_l rfl (fun K hK => ?_); go_simp; refine hK _ ?_; clear hK K))
            refine iplan_h rfl (fun K hK => ?_)
            gi_wp2
            repeat (first | (refine iplan_p rfl (fun K hK => ?_); go_simp; refine hK _ ?_; clear hK K) | (refine iplan_l rfl (fun K hK => ?_); go_simp; refine hK _ ?_; clear hK K))
            refine iplan_h rfl (fun K hK => ?_)
            obtain ⟨fn, tmps, assign, body, hy, hRd⟩ := HY.out (pr ++ sel fr to (part Ls es i ++ Lk)) x W2.drew (HPX.out x (by
              rw [HL.out, HR.out, sel_append, sel_append]
              refine List.mem_append_right _ (List.mem_append_right _ ?_)
              unfold sel
              rw [List.filter_cons, if_pos HINX.out]
              exact List.mem_cons_self ..)) (HJD.out _ _ HJ2.out) (HLN.out.resolve_right (by rw [HINX.out]; exact Bool.noConfusion))
            gi_wp2
            refine hRd.mono ?_
            clear hRd hy
            rintro e W3 (⟨rfl, hJ3, hK3⟩ | ⟨rfl, hx3⟩)
            · gi_wp2
              repeat (first | (refine iplan_p rfl (fun K hK => ?_); go_simp; refine hK _ ?_; clear hK K) | (refine iplan_l rfl (fun K hK => ?_); go_simp; refine hK _ ?_; clear hK K))
              refine iplan_done ?_
              go_wp2
              go_roundg (gk - 1)
              case measure => have := HIR.out; omega
              case rel =>
                refine ⟨i + 1, by have := HIR.out; omega, by go_num, by omega, by omega, ?_, HK2.out.trans ⟨hK3.size, hK3.cells⟩, ?_⟩
                · rw [part_succ HLK.out HX.out, ← List.append_assoc, sel_append _ _ _ [x]]
                  have : sel fr to [x] = [x] := by unfold sel; rw [List.filter_cons, if_pos HINX.out]; rfl
                  rw [this, ← List.append_assoc]; exact hJ3
                · rw [part_succ HLK.out HX.out, ← List.append_assoc]
                  exact HA2.out.append (fun e he _ => by simp at he; subst he; exact HXU.out)
            · gi_wp2
              repeat (first | (refine iplan_p rfl (fun K hK => ?_); go_simp; refine hK _ ?_; clear hK K) | (refine iplan_l rfl (fun K hK => ?_); go_simp; refine hK _ ?_; clear hK K))
              refine iplan_done ?_
              go_wp2
              go_ret
              refine .inr ⟨rfl, .inr ⟨sel fr to (part Ls es i ++ Lk) ++ [x], ?_, by rw [← List.append_assoc]; exact hx3⟩⟩
              rw [HL.out, HR.out, ← List.append_assoc, sel_append _ _ _ (x :: R)]
              have : sel fr to (x :: R) = [x] ++ sel fr to R := by unfold sel; rw [List.filter_cons, if_pos HINX.out]; rfl
              rw [this, ← List.append_assoc]
              exact List.prefix_append _ _
          · have hemp : (bs to).toList.isEmpty = false := by rw [bs_toList]; simpa using hto
            have HTO := Lib.hid hto; clear hto
            cases hbl : Op.bytesLess x.1 to
            · have hcmp : (0 ≤ Lib.compareBytes x.1 to) := by rw [cmpB_eq, hbl]; simp; split <;> omega
              have HBL := Lib.hid hbl; clear hbl
              refine regionI (fun _ => trivial) (by kernel_rfl) [.p 0, .p 1, .p 2, .p 3, .p 4, .p 5, .l 6, .p 7, .p 8, .l 9, .p 10, .h 11 false, .p 12, .p 13, .p 14, .p 15, .p 16, .p 17, .p 18, .l 19, .p 20, .p 21, .l 22, .p 23, .p 24, .p 25, .l 26, .p 27, .p 28, .l 29, .h 30 false, .p 31, .p 32] f_mixed (by kernel_rfl) (by kernel_rfl) ?_
              repeat (first | (refine iplan_p rfl (fun K hK => ?_); go_simp; refine hK _ ?_; clear hK K) | (refine iplan_l rfl (fun K hK => ?_); go_simp; refine hK _ ?_; clear hK K))
              refine iplan_h rfl (fun K hK => ?_)
              gi_wp2_with (gi_at_call 49; refine (callsIn_wide.2 (strcmp_bs _ _ _)).mono ?_; rintro e w' ⟨rfl, rfl⟩)
              repeat (first | (refine iplan_p rfl (fun K hK => ?_); go_simp; refine hK _ ?_; clear hK K) | (refine iplan_l rfl (fun K hK => ?_); go_simp; refine hK _ ?_; clear hK K))
              refine iplan_h rfl (fun K hK => ?_)
              gi_wp2
              repeat (first | (refine iplan_p rfl (fun K hK => ?_); go_simp; refine hK _ ?_; clear hK K) | (refine iplan_l rfl (fun K hK => ?_); go_simp; refine hK _ ?_; clear hK K))
              refine iplan_done ?_
              go_wp2
              go_ret
              have hov : over fr to [x] := ⟨HTO.out, x, by simp, HGE.out, HBL.out⟩
              have hsx : sel fr to (x :: R) = [] := by
                have h1 : sel fr to [x] = [] := by unfold sel; rw [List.filter_cons, if_neg (by simp [inR, HTO.out, HBL.out])]; rfl
                have h2 := sel_over (A := [x]) (B := R) (srt_append.1 (srt_append.1 HSRT2.out).2.1).2.1 hov
                have h3 : x :: R = [x] ++ R := rfl
                rw [h3, sel_append, h1, h2]; rfl
              refine .inr ⟨rfl, .inl ⟨?_, HK2.out.drew, ?_⟩⟩
              · rw [HL.out, HR.out, ← List.append_assoc, sel_append _ _ _ (x :: R), hsx, List.append_nil]
                exact HJD.out _ _ HJ2.out
              · rw [HL.out, HR.out]
                exact ((hov.left R).right Lk).right _
            · have hcmp : ¬ (0 ≤ Lib.compareBytes x.1 to) := by rw [cmpB_eq, hbl]; simp
              have hinx : inR fr to x = true := by simp [inR, HGE.out, hbl]
              have HINX := Lib.hid hinx; clear hinx
              have HXU : Hid (to = [] ∨ blt x.1 to) := .inr hbl
              clear hbl
              refine regionI (fun _ => trivial) (by kernel_rfl) [.p 0, .p 1, .p 2, .p 3, .p 4, .p 5, .l 6, .p 7, .p 8, .l 9, .p 10, .h 11 false, .p 12, .p 13, .p 14, .p 15, .p 16, .p 17, .p 18, .l 19, .p 20, .p 21, .l 22, .p 23, .p 24, .p 25, .l 26, .p 27, .p 28, .l 29, .h 30 false, .p 31, .p 32] f_mixed (by kernel_rfl) (by kernel_rfl) ?_
              repeat (first | (refine iplan_p rfl (fun K hK => ?_); go_simp; refine hK _ ?_; clear hK K) | (refine iplan_l rfl (fun K hK => ?_); go_simp; refine hK _ ?_; clear hK K))
              refine iplan_h rfl (fun K hK => ?_)
              gi_wp2_with (gi_at_call 49; refine (callsIn_wide.2 (strcmp_bs _ _ _)).mono ?_; rintro e w' ⟨rfl, rfl⟩)
              repeat (first | (refine iplan_p rfl (fun K hK => ?_); go_simp; refine hK _ ?_; clear hK K) | (refine iplan_l rfl (fun K hK => ?_); go_simp; refine hK _ ?_; clear hK K))
              refine iplan_h rfl (fun K hK => ?_)
              obtain ⟨fn, tmps, assign, body, hy, hRd⟩ := HY.out (pr ++ sel fr to (part Ls es i ++ Lk)) x W2.drew (HPX.out x (by
                rw [HL.out, HR.out, sel_append, sel_append]
                refine List.mem_append_right _ (List.mem_append_right _ ?_)
                unfold sel
                rw [List.filter_cons, if_pos HINX.out]
                exact List.mem_cons_self ..)) (HJD.out _ _ HJ2.out) (HLN.out.resolve_right (by rw [HINX.out]; exact Bool.noConfusion))
              gi_wp2
              refine hRd.mono ?_
              clear hRd hy
              rintro e W3 (⟨rfl, hJ3, hK3⟩ | ⟨rfl, hx3⟩)
              · gi_wp2
                repeat (first | (refine iplan_p rfl (fun K hK => ?_); go_simp; refine hK _ ?_; clear hK K) | (refine iplan_l rfl (fun K hK => ?_); go_simp; refine hK _ ?_; clear hK K))
                refine iplan_done ?_
                go_wp2
                go_roundg (gk - 1)
                case measure => have := HIR.out; omega
                case rel =>
                  refine ⟨i + 1, by have := HIR.out; omega, by go_num, by omega, by omega, ?_, HK2.out.trans ⟨hK3.size, hK3.cells⟩, ?_⟩
                  · rw [part_succ HLK.out HX.out, ← List.append_assoc, sel_append _ _ _ [x]]
                    have : sel fr to [x] = [x] := by unfold sel; rw [List.filter_cons, if_pos HINX.out]; rfl
                    rw [this, ← List.append_assoc]; exact hJ3
                  · rw [part_succ HLK.out HX.out, ← List.append_assoc]
                    exact HA2.out.append (fun e he _ => by simp at he; subst he; exact HXU.out)
              · gi_wp2
                repeat (first | (refine iplan_p rfl (fun K hK => ?_); go_simp; refine hK _ ?_; clear hK K) | (refine iplan_l rfl (fun K hK => ?_); go_simp; refine hK _ ?_; clear hK K))
                refine iplan_done ?_
                go_wp2
                go_ret
                refine .inr ⟨rfl, .inr ⟨sel fr to (part Ls es i ++ Lk) ++ [x], ?_, by rw [← List.append_assoc]; exact hx3⟩⟩
                rw [HL.out, HR.out, ← List.append_assoc, sel_append _ _ _ (x :: R)]
                have : sel fr to (x :: R) = [x] ++ sel fr to R := by unfold sel; rw [List.filter_cons, if_pos HINX.out]; rfl
                rw [this, ← List.append_assoc]
                exact List.prefix_append _ _
        · clear n0 n1 n2
          go_wp2
          go_ret
          refine .inr ⟨rfl, ?_⟩
          rw [HL.out, part_at HLL.out HLK.out]
          rcases hF with ⟨h1, h2, h3⟩ | ⟨q, h1, h2⟩
          · have h4 : sel fr to (suf (Ls.drop (i + 1)) (es.drop i)) = [] := by
              have h5 := HSRT.out
              rw [HL.out, part_at HLL.out HLK.out] at h5
              exact sel_over (srt_append.1 h5).2.1 h3
            refine .inl ⟨?_, HKI.out.trans h2, (h3.left _).right _⟩
            rw [sel_append, sel_append, h4, List.append_nil, ← List.append_assoc]; exact h1
          · exact .inr ⟨_, prefix_sel h1 _, by rw [← List.append_assoc]; exact h2⟩
theorem walk_ok (m B N l : Nat) (hm64 : m ≤ 64) (fr to : List UInt8) (J Jx : List Ent → World → Prop) (hJd : ∀ p W, J p W → J p W.drew)
    (PX : Ent → Prop) (hY : ∀ p x W, PX x → J p W → p.length < N → YieldAt Fence.wide 0 Try.prog l #[str x.1, .int .i64 x.2] W fun e W' => (e = .returned (.bool true) ∧ J (p ++ [x]) W' ∧ KB B W W') ∨ (e = .returned (.bool false) ∧ Jx (p ++ [x]) W')) :
    ∀ (h : Nat) (k : Kid) (W : World) (pr : List Ent), Rep W m h k → k.n + 1 ≤ 2 * m → (∀ x ∈ k.bs, B ≤ x) → Srt k.L → (∀ e ∈ sel fr to k.L, PX e) → J pr W → pr.length + (sel fr to k.L).length ≤ N →
      Calls Try.prog 41 #[.pointer (some ⟨k.b, 0, none⟩), str fr, str to, .func (.yield l) #[] #[]] W (WPost fr to J Jx B k.L pr W)
  | 0, k, W, pr, hr, h1, h2, h3, hp, h4, h5 => walk_step m 0 B N l hm64 fr to J Jx hJd PX hY (fun h' e => by cases e) k W pr hr h1 h2 h3 hp h4 h5
  | h + 1, k, W, pr, hr, h1, h2, h3, hp, h4, h5 => walk_step m (h + 1) B N l hm64 fr to J Jx hJd PX hY (fun h' e k W pr hr h1 h2 h3 hp h4 h5 => by cases e; exact walk_ok m B N l hm64 fr to J Jx hJd PX hY h k W pr hr h1 h2 h3 hp h4 h5) k W pr hr h1 h2 h3 hp h4 h5
end Go.Proofs.Ytkejjahlglldlaa
