/- Lemmas. -/
import Derived.Test.YtkhnpmeohjafiaaGreatDoorML
import Derived.Laws.StructEq
set_option maxHeartbeats 16000000
set_option maxRecDepth 100000
namespace Go.Proofs.YtkhnpmeohjafiaaGreatDoor
open Go.RowKit
def Rd {α : Type} (K : Kd α) (T : TypeId) (w : World) (v : Value) (xs : List α) : Prop :=
 ∃ g cap fl, v = slv g xs.length cap ∧ Sl w T K.size g xs.length cap fl ∧ LsC K w (fun _ => True) fl xs
theorem VLA.rd {α : Type} {K : Kd α} {T : TypeId} {w : World} {A : Nat → Prop} {v : Value} {xs : List α} (h : VLA K T w A v xs) : Rd K T w v xs := by
 obtain ⟨g, cap, fl, h1, h2, h3, h4⟩ := h
 exact ⟨g, cap, fl, h1, h2, LsC.keep K (fun b _ _ => ⟨rfl, trivial⟩) _ _ h4⟩
theorem exs_ls {w : World} {A : Nat → Prop} : ∀ {fl : List Value} {es : List Ex}, ExsC w A fl es → LsC ExK w A fl es
 | fl, [], h => h
 | fl, e :: es, h => by
   obtain ⟨c, r, h1, h2, h3⟩ := h
   exact ⟨c, r, h1, h2, exs_ls h3⟩
theorem Rd.slice {α : Type} {K : Kd α} {T : TypeId} {w : World} {v : Value} {xs : List α} (h : Rd K T w v xs) : ∃ g cap, v = slv g xs.length cap := by
 obtain ⟨g, cap, _, h, _⟩ := h; exact ⟨g, cap, h⟩
theorem slv_inj {g g' : Option Nat} {n c c' : Nat} (h : slv g n c = slv g' n c') : g = g' ∧ c = c' := by
 simp only [slv, Value.slice.injEq, true_and] at h
 refine ⟨?_, h.2⟩
 have h1 := h.1
 cases g <;> cases g' <;> simp [adr] at h1 ⊢
 exact h1
theorem ls_at {α : Type} {K : Kd α} {w : World} {A : Nat → Prop} : ∀ {fl : List Value} {xs : List α} {i : Nat} {x : α}, LsC K w A fl xs → xs[i]? = some x → ∃ cs, K.C w A cs x ∧ ∀ k, k < K.size → fl[i * K.size + k]? = cs[k]?
 | fl, [], i, x, _, hx => by simp at hx
 | fl, y :: ys, 0, x, ⟨c, r, hfl, hc, hr⟩, hx => by
   subst hfl
   simp at hx; subst hx
   refine ⟨c, hc, fun k hk => ?_⟩
   rw [Nat.zero_mul, Nat.zero_add, List.getElem?_append_left (by rw [K.len hc]; exact hk)]
 | fl, y :: ys, i + 1, x, ⟨c, r, hfl, hc, hr⟩, hx => by
   subst hfl
   obtain ⟨cs, h1, h2⟩ := ls_at hr (by simpa using hx)
   refine ⟨cs, h1, fun k hk => ?_⟩
   rw [← h2 k hk, List.getElem?_append_right (by rw [K.len hc, Nat.add_mul]; omega), K.len hc]
   congr 1
   rw [Nat.add_mul]; omega
theorem Rd.le {α : Type} {K : Kd α} {T : TypeId} {w : World} {v : Value} {xs : List α} (h : Rd K T w v xs) : xs.length ≤ 9223372036854775807 := by
 obtain ⟨g, cap, fl, _, h1, _⟩ := h
 cases g with
 | none => obtain ⟨_, h2, _⟩ := h1; omega
 | some b => obtain ⟨_, cur, _, h2, h3, _⟩ := h1; simp only [maxLen] at h3; omega
theorem Rd.at {α : Type} {K : Kd α} {T : TypeId} {w : World} {v : Value} {xs : List α} (h : Rd K T w v xs) {i : Nat} {x : α} (hx : xs[i]? = some x) :
  ∃ g cap b cs, v = slv g xs.length cap ∧ g = some b ∧ b < w.heap.size ∧ K.C w (fun _ => True) cs x ∧ ∀ k, k < K.size → ∀ u, cs[k]? = some u → w.cell? ⟨b, i * K.size + k, none⟩ = some u := by
 obtain ⟨g, cap, fl, hv, hs, hl⟩ := h
 have hi : i < xs.length := (List.getElem?_eq_some_iff.1 hx).1
 obtain ⟨b, hb⟩ := hs.some_of_pos (by omega)
 subst hb
 obtain ⟨cs, h1, h2⟩ := ls_at hl hx
 refine ⟨some b, cap, b, cs, hv, rfl, hs.block_lt, K.keep (fun _ _ _ => ⟨rfl, trivial⟩) _ _ h1, fun k hk u hu => hs.cell (by rw [h2 k hk]; exact hu)⟩
theorem Rd.ext {α : Type} {K : Kd α} {T : TypeId} {w w' : World} {v : Value} {xs : List α} (h : Rd K T w v xs) (he : Ext w w') : Rd K T w' v xs := by
 obtain ⟨g, cap, fl, h1, h2, h3⟩ := h
 exact ⟨g, cap, fl, h1, h2.ext he, LsC.keep K (fun b hb _ => ⟨Below.block he b hb, trivial⟩) _ _ h3⟩
theorem SameTexts_ok (v1 v2 : Value) (xs : List Str) (w : World) (h1 : Rd StrK 9 w v1 xs) (h2 : Rd StrK 9 w v2 xs) :
  Calls Tryz.prog 28 #[v1, v2] w (fun e w' => e = .returned (.bool true) ∧ Ext w w') := by
 have H1 := Lib.hid h1
 have H2 := Lib.hid h2
 have hn := h1.le
 obtain ⟨g1, c1, rfl⟩ := h1.slice
 obtain ⟨g2, c2, rfl⟩ := h2.slice
 clear h1 h2
 have hbs := bs_toList
 have hz : ((xs.length : Int) == (xs.length : Int)) = true := by simp
 go_enter Tryz.func28, Tryz.ntmps28
 go_wp2
 go_loopg [5] xs.length (fun gk v5 wr => ∃ j : Nat, j + gk = xs.length ∧ v5 = .int .i64 (j : Int) ∧ Ext w wr)
 case atStart => exact ⟨0, by omega, rfl, Ext.refl _⟩
 case round =>
  obtain ⟨j, hjk, rfl, hE⟩ := hrel
  have HJK := Lib.hid hjk
  have HE := Lib.hid hE
  clear hjk hE
  by_cases hj : j < xs.length
  · obtain ⟨s, hs⟩ : ∃ s, xs[j]? = some s := ⟨_, List.getElem?_eq_getElem hj⟩
    obtain ⟨ga, ca, ba, csa, hva, hga, hla, hca, hcc⟩ := (H1.out.ext HE.out).at hs
    obtain ⟨gb, cb, bb, csb, hvb, hgb, hlb, hcb, hdd⟩ := (H2.out.ext HE.out).at hs
    obtain ⟨rfl, rfl⟩ := slv_inj hva
    obtain ⟨rfl, rfl⟩ := slv_inj hvb
    obtain rfl : csa = [str s] := hca
    obtain rfl : csb = [str s] := hcb
    have d0 : wr.cell? ⟨ba, j, none⟩ = some (str s) := by have := hcc 0 (by decide) (str s) rfl; simpa [StrK] using this
    have d1 : wr.cell? ⟨bb, j, none⟩ = some (str s) := by have := hdd 0 (by decide) (str s) rfl; simpa [StrK] using this
    have z1 : ∀ u : World, (Instr.indexAt 24 (slv g1 xs.length c1) (.int .i64 (j : Int))).run Tryz.prog u = .ok (.pointer (some ⟨ba, j, none⟩)) u := fun u => by
     have := run_index_slv ei_str (cap := c1) hga hj u
     rwa [Nat.mul_one] at this
    have z2 : ∀ u : World, (Instr.indexAt 24 (slv g2 xs.length c2) (.int .i64 (j : Int))).run Tryz.prog u = .ok (.pointer (some ⟨bb, j, none⟩)) u := fun u => by
     have := run_index_slv ei_str (cap := c2) hgb hj u
     rwa [Nat.mul_one] at this
    have hss : (s == s) = true := by simp
    clear hs hva hvb hga hgb hcc hdd
    go_wp2
    refine region_calm [.p 0, .p 1, .p 2, .l 3, .p 4, .p 5, .p 6, .l 7, .p 8] f_mixed (by kernel_rfl) (by kernel_rfl) ?_
    repeat ((first | refine plan_p rfl (fun K hK => ?_) | refine plan_l rfl (fun K hK => ?_)); go_simp; refine hK _ ?_; clear hK K)
    refine plan_done ?_
    go_wp2
    go_roundg (gk - 1)
    case measure => have := HJK.out; omega
    case rel => exact ⟨j + 1, by have := HJK.out; omega, by go_num, HE.out.drew⟩
  · go_wp2
    go_ret
    exact ⟨rfl, HE.out⟩
def SE (e : Ex) : Prop := ∀ (c1 c2 : List Value) (w : World), ExC w (fun _ => True) c1 e → ExC w (fun _ => True) c2 e → Calls Tryz.prog 26 #[.agg c1.toArray, .agg c2.toArray] w (fun r w' => r = .returned (.bool true) ∧ Ext w w')
theorem SameExprs_ok (v1 v2 : Value) (xs : List Ex) (w : World) (h1 : Rd ExK 45 w v1 xs) (h2 : Rd ExK 45 w v2 xs) (hse : ∀ x ∈ xs, SE x) :
  Calls Tryz.prog 14 #[v1, v2] w (fun e w' => e = .returned (.bool true) ∧ Ext w w') := by
 have H1 := Lib.hid h1
 have H2 := Lib.hid h2
 have HSE := Lib.hid hse
 have hn := h1.le
 obtain ⟨g1, c1, rfl⟩ := h1.slice
 obtain ⟨g2, c2, rfl⟩ := h2.slice
 clear h1 h2 hse
 have hz : ((xs.length : Int) == (xs.length : Int)) = true := by simp
 go_enter Tryz.func14, Tryz.ntmps14
 go_wp2
 go_loopg [5] xs.length (fun gk v5 wr => ∃ j : Nat, j + gk = xs.length ∧ v5 = .int .i64 (j : Int) ∧ Ext w wr)
 case atStart => exact ⟨0, by omega, rfl, Ext.refl _⟩
 case round =>
  obtain ⟨j, hjk, rfl, hE⟩ := hrel
  have HJK := Lib.hid hjk
  have HE := Lib.hid hE
  clear hjk hE
  by_cases hj : j < xs.length
  · obtain ⟨s, hs⟩ : ∃ s, xs[j]? = some s := ⟨_, List.getElem?_eq_getElem hj⟩
    obtain ⟨ga, ca, ba, csa, hva, hga, hla, hca, hcc⟩ := (H1.out.ext HE.out).at hs
    obtain ⟨gb, cb, bb, csb, hvb, hgb, hlb, hcb, hdd⟩ := (H2.out.ext HE.out).at hs
    obtain ⟨rfl, rfl⟩ := slv_inj hva
    obtain ⟨rfl, rfl⟩ := slv_inj hvb
    have HS := Lib.hid (HSE.out s (List.mem_of_getElem? hs))
    have HCA := Lib.hid hca
    have HCB := Lib.hid hcb
    obtain ⟨op, n, t, o, args⟩ := s
    obtain ⟨gx, cx, fx, rfl, _⟩ := hca
    obtain ⟨gy, cy, fy, rfl, _⟩ := hcb
    have d0 : wr.cell? ⟨ba, j * 5, none⟩ = some (str op) := hcc 0 (by decide) (str op) rfl
    have d1 : wr.cell? ⟨ba, j * 5 + 1, none⟩ = some (.int .i64 (n : Int)) := hcc 1 (by decide) _ rfl
    have d2 : wr.cell? ⟨ba, j * 5 + 2, none⟩ = some (str t) := hcc 2 (by decide) _ rfl
    have d3 : wr.cell? ⟨ba, j * 5 + 3, none⟩ = some (str o) := hcc 3 (by decide) _ rfl
    have d4 : wr.cell? ⟨ba, j * 5 + 4, none⟩ = some (slv gx args.length cx) := hcc 4 (by decide) _ rfl
    have e0 : wr.cell? ⟨bb, j * 5, none⟩ = some (str op) := hdd 0 (by decide) (str op) rfl
    have e1 : wr.cell? ⟨bb, j * 5 + 1, none⟩ = some (.int .i64 (n : Int)) := hdd 1 (by decide) _ rfl
    have e2 : wr.cell? ⟨bb, j * 5 + 2, none⟩ = some (str t) := hdd 2 (by decide) _ rfl
    have e3 : wr.cell? ⟨bb, j * 5 + 3, none⟩ = some (str o) := hdd 3 (by decide) _ rfl
    have e4 : wr.cell? ⟨bb, j * 5 + 4, none⟩ = some (slv gy args.length cy) := hdd 4 (by decide) _ rfl
    have z1 := fun u => run_index_slv ei_ex (cap := c1) hga hj u
    have z2 := fun u => run_index_slv ei_ex (cap := c2) hgb hj u
    clear hs hva hvb hga hgb hcc hdd
    go_wp2
    refine region_calm [.p 0, .p 1, .p 2, .l 3, .p 4, .p 5, .p 6, .l 7, .h 8 false, .p 9] f_mixed (by kernel_rfl) (by kernel_rfl) ?_
    repeat ((first | refine plan_p rfl (fun K hK => ?_) | refine plan_l rfl (fun K hK => ?_)); go_simp; refine hK _ ?_; clear hK K)
    refine plan_c rfl rfl (fun K _ hK => ?_)
    go_wp2_with fail
    refine (HS.out _ _ _ (HCA.out.ext (Ext.refl wr).drew) (HCB.out.ext (Ext.refl wr).drew)).mono ?_
    rintro e w2 ⟨rfl, hE2⟩
    have HE2 := Lib.hid (HE.out.trans ((Ext.refl wr).drew.trans hE2))
    clear hE2
    go_wp2_with fail
    repeat ((first | refine plan_p rfl (fun K hK => ?_) | refine plan_l rfl (fun K hK => ?_)); go_simp; refine hK _ ?_; clear hK K)
    refine plan_done ?_
    go_wp2
    go_roundg (gk - 1)
    case measure => have := HJK.out; omega
    case rel => exact ⟨j + 1, by have := HJK.out; omega, by go_num, HE2.out⟩
  · go_wp2
    go_ret
    exact ⟨rfl, HE.out⟩
theorem SameExpr_step (op : Str) (n : Nat) (t o : Str) (args : List Ex) (hse : ∀ x ∈ args, SE x) : SE (.mk op n t o args) := by
 intro cs1 cs2 w h1 h2
 obtain ⟨g1, c1, f1, rfl, s1, -, l1⟩ := h1
 obtain ⟨g2, c2, f2, rfl, s2, -, l2⟩ := h2
 have R1 : Hid (Rd ExK 45 w (slv g1 args.length c1) args) := Lib.hid ⟨g1, c1, f1, rfl, s1, exs_ls l1⟩
 have R2 : Hid (Rd ExK 45 w (slv g2 args.length c2) args) := Lib.hid ⟨g2, c2, f2, rfl, s2, exs_ls l2⟩
 have HSE := Lib.hid hse
 clear s1 s2 l1 l2 hse
 rw [show (exCells op n t o (slv g1 args.length c1)).toArray = #[str op, .int .i64 (n : Int), str t, str o, slv g1 args.length c1] from rfl, show (exCells op n t o (slv g2 args.length c2)).toArray = #[str op, .int .i64 (n : Int), str t, str o, slv g2 args.length c2] from rfl]
 have hbs := bs_toList
 have h1 : (op == op) = true := by simp
 have h2 : (t == t) = true := by simp
 have h3 : (o == o) = true := by simp
 have h4 : ((n : Int) == (n : Int)) = true := by simp
 go_enter Tryz.func26, Tryz.ntmps26
 go_wp2_with fail
 have HE : Hid (Ext w ((w.alloc (.cells #[str op, .int .i64 (n : Int), str t, str o, slv g1 args.length c1] 45)).alloc (.cells #[str op, .int .i64 (n : Int), str t, str o, slv g2 args.length c2] 45))) := Lib.hid (((Ext.refl w).alloc _).alloc _)
 refine (SameExprs_ok _ _ args _ (R1.out.ext HE.out) (R2.out.ext HE.out) HSE.out).mono ?_
 rintro e w2 ⟨rfl, hE2⟩
 go_wp2
 go_ret
 exact ⟨rfl, HE.out.trans hE2⟩
theorem SE_all : ∀ e : Ex, SE e
 | .mk op n t o args => SameExpr_step op n t o args fun x hx => SE_all x
termination_by e => SizeOf.sizeOf e
decreasing_by
 have := List.sizeOf_lt_of_mem hx
 simp
 omega
theorem exprs_same (v1 v2 : Value) (xs : List Ex) (w : World) (h1 : Rd ExK 45 w v1 xs) (h2 : Rd ExK 45 w v2 xs) :
 Calls Tryz.prog 14 #[v1, v2] w (fun e w' => e = .returned (.bool true) ∧ Ext w w') := SameExprs_ok v1 v2 xs w h1 h2 fun x _ => SE_all x
theorem sameQuery_ok (q : Qu) (cs1 cs2 : List Value) (w : World) (h1 : QuC w (fun _ => True) cs1 q) (h2 : QuC w (fun _ => True) cs2 q) :
  Calls Tryz.prog 27 #[.agg cs1.toArray, .agg cs2.toArray] w (fun e w' => e = .returned (.bool true) ∧ Ext w w') := by
 obtain ⟨vi1, vt1, vc1, rfl, a1, b1, d1⟩ := h1
 obtain ⟨vi2, vt2, vc2, rfl, a2, b2, d2⟩ := h2
 have A1 := Lib.hid a1.rd
 have A2 := Lib.hid a2.rd
 have B1 := Lib.hid b1.rd
 have B2 := Lib.hid b2.rd
 have D1 := Lib.hid d1.rd
 have D2 := Lib.hid d2.rd
 clear a1 a2 b1 b2 d1 d2
 rw [show ([.bool q.coalesce, .bool q.all, .bool q.count, str q.sum, vi1, vt1, vc1] : List Value).toArray = #[.bool q.coalesce, .bool q.all, .bool q.count, str q.sum, vi1, vt1, vc1] from rfl, show ([.bool q.coalesce, .bool q.all, .bool q.count, str q.sum, vi2, vt2, vc2] : List Value).toArray = #[.bool q.coalesce, .bool q.all, .bool q.count, str q.sum, vi2, vt2, vc2] from rfl]
 have hbs := bs_toList
 have h1 : (q.sum == q.sum) = true := by simp
 have h2 : (q.coalesce == q.coalesce) = true := by simp
 have h3 : (q.all == q.all) = true := by simp
 have h4 : (q.count == q.count) = true := by simp
 have HE : Hid (Ext w ((w.alloc (.cells #[.bool q.coalesce, .bool q.all, .bool q.count, str q.sum, vi1, vt1, vc1] 49)).alloc (.cells #[.bool q.coalesce, .bool q.all, .bool q.count, str q.sum, vi2, vt2, vc2] 49))) := Lib.hid (((Ext.refl w).alloc _).alloc _)
 have HB : Hid (((w.alloc (.cells #[.bool q.coalesce, .bool q.all, .bool q.count, str q.sum, vi1, vt1, vc1] 49)).alloc (.cells #[.bool q.coalesce, .bool q.all, .bool q.count, str q.sum, vi2, vt2, vc2] 49)).heap[w.heap.size]? = some (.cells #[.bool q.coalesce, .bool q.all, .bool q.count, str q.sum, vi1, vt1, vc1] 49 (0, 0)) ∧
  ((w.alloc (.cells #[.bool q.coalesce, .bool q.all, .bool q.count, str q.sum, vi1, vt1, vc1] 49)).alloc (.cells #[.bool q.coalesce, .bool q.all, .bool q.count, str q.sum, vi2, vt2, vc2] 49)).heap[w.heap.size + 1]? = some (.cells #[.bool q.coalesce, .bool q.all, .bool q.count, str q.sum, vi2, vt2, vc2] 49 (0, 0))) :=
  Lib.hid ⟨blk_alloc (blk_new _ _), blk_new_at _ (by simp)⟩
 go_enter Tryz.func27, Tryz.ntmps27
 go_wp2_with fail
 refine (exprs_same _ _ q.items _ (A1.out.ext HE.out) (A2.out.ext HE.out)).mono ?_
 rintro e w2 ⟨rfl, hE2⟩
 obtain ⟨x0, x1, x2, x3, x4, x5, x6⟩ := blk7 (Ext.block hE2 HB.out.1)
 obtain ⟨y0, y1, y2, y3, y4, y5, y6⟩ := blk7 (Ext.block hE2 HB.out.2)
 have HE2 := Lib.hid (HE.out.trans hE2)
 have HB2 : Hid (_ ∧ _) := Lib.hid ⟨Ext.block hE2 HB.out.1, Ext.block hE2 HB.out.2⟩
 clear hE2 HE
 go_wp2_with fail
 refine (SameTexts_ok _ _ q.tables _ (B1.out.ext HE2.out) (B2.out.ext HE2.out)).mono ?_
 rintro e w3 ⟨rfl, hE3⟩
 clear x0 x1 x2 x3 x4 x5 x6 y0 y1 y2 y3 y4 y5 y6
 obtain ⟨x0, x1, x2, x3, x4, x5, x6⟩ := blk7 (Ext.block hE3 HB2.out.1)
 obtain ⟨y0, y1, y2, y3, y4, y5, y6⟩ := blk7 (Ext.block hE3 HB2.out.2)
 have HE3 := Lib.hid (HE2.out.trans hE3)
 clear hE3 HE2
 go_wp2_with fail
 refine (exprs_same _ _ q.cond _ (D1.out.ext HE3.out) (D2.out.ext HE3.out)).mono ?_
 rintro e w4 ⟨rfl, hE4⟩
 go_wp2
 go_ret
 exact ⟨rfl, HE3.out.trans hE4⟩
end Go.Proofs.YtkhnpmeohjafiaaGreatDoor
