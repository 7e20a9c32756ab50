/- Lemmas. -/
import Derived.Test.YtkhnpmeohjafiaaGreatDoorMQ
import Derived.Laws.StructEq
import Derived.Test.YtkhnpmeohjafiaaGreatDoorML
set_option maxHeartbeats 16000000
set_option maxRecDepth 100000
namespace Go.Proofs.YtkhnpmeohjafiaaGreatDoor
open Go.RowKit
structure Te (e : Ex) : Prop where
 tx : TX e
 len : (textE e).length ≤ 100000000
theorem where_nil (v : Value) (w : World) (h : Rd ExK 45 w v []) : Calls Tryz.prog 37 #[v] w (fun r w' => r = .returned (str (whereT [])) ∧ Ext w w') := by
 obtain ⟨g, c, rfl⟩ := h.slice
 rw [show slv g ([] : List Ex).length c = slv g 0 c from rfl]
 clear h
 go_enter Tryz.func37, Tryz.ntmps37
 go_wp2
 go_ret
 exact ⟨rfl, Ext.refl _⟩
theorem where_one (e : Ex) (he : Te e) (v : Value) (w : World) (hg : Gl w) (h : Rd ExK 45 w v [e]) : Calls Tryz.prog 37 #[v] w (fun r w' => r = .returned (str (whereT [e])) ∧ Ext w w') := by
 obtain ⟨g, c, rfl⟩ := h.slice
 rw [show slv g ([e] : List Ex).length c = slv g 1 c from rfl]
 obtain ⟨gp, cp, bp, csp, hvp, hgp, hlp, hcp, hccp⟩ := h.at (i := 0) (x := e) rfl
 obtain ⟨rfl, rfl⟩ := slv_inj hvp
 obtain ⟨p0, p1, p2, p3, p4, rfl⟩ := ex5 hcp
 have dp0 : w.cell? ⟨bp, 0, none⟩ = some p0 := hccp 0 (by decide) _ rfl
 have dp1 : w.cell? ⟨bp, 1, none⟩ = some p1 := hccp 1 (by decide) _ rfl
 have dp2 : w.cell? ⟨bp, 2, none⟩ = some p2 := hccp 2 (by decide) _ rfl
 have dp3 : w.cell? ⟨bp, 3, none⟩ = some p3 := hccp 3 (by decide) _ rfl
 have dp4 : w.cell? ⟨bp, 4, none⟩ = some p4 := hccp 4 (by decide) _ rfl
 have zp : ∀ u : World, (Instr.indexAt 25 (slv g 1 c) (.int .i64 0)).run Tryz.prog u = .ok (.pointer (some ⟨bp, 0, none⟩)) u := fun u => run_index_slv ei_ex (n := 1) (cap := c) (j := 0) hgp (by decide) u
 have HCP := Lib.hid hcp
 have HG := Lib.hid hg
 have hc1 : ∀ u : World, (Op.stringOp .add ⟨#[32, 87, 72, 69, 82, 69, 32]⟩ (bs (textE e))).run Tryz.prog u = .ok (str (whereT [e])) u := fun u => cat_ok [32, 87, 72, 69, 82, 69, 32] _ u (by have := he.len; simp; omega)
 clear hvp hgp hlp hcp hccp h hg
 go_enter Tryz.func37, Tryz.ntmps37
 go_wp2_with fail
 refine (he.tx _ _ HG.out HCP.out).mono ?_
 rintro r w2 ⟨rfl, hE2⟩
 have HE2 := Lib.hid hE2
 clear hE2 dp0 dp1 dp2 dp3 dp4 zp
 go_wp2
 go_ret
 exact ⟨rfl, HE2.out⟩
theorem whereT_ok (l : List Ex) (hl : l.length ≤ 1) (he : ∀ e ∈ l, Te e) (v : Value) (w : World) (hg : Gl w) (h : Rd ExK 45 w v l) : Calls Tryz.prog 37 #[v] w (fun r w' => r = .returned (str (whereT l)) ∧ Ext w w') := by
 cases l with
 | nil => exact where_nil v w h
 | cons e l =>
   cases l with
   | nil => exact where_one e (he e (by simp)) v w hg h
   | cons f l => simp at hl
theorem dec_len18 {n : Nat} (h : n ≤ 9223372036854775807) : (dec n).length ≤ 20 := Nat.le_trans (dec_len 18 n (by omega)) (by omega)
theorem span_ok (a z : Nat) (ha : a ≤ 9223372036854775807) (hz : z ≤ 9223372036854775807) (w : World) (hg : Gl w) :
   Calls Tryz.prog 33 #[.agg #[.int .i64 (a : Int), .int .i64 (z : Int)]] w (fun r w' => r = .returned (str (spanT (a, z))) ∧ Ext w w') := by
 have HG := Lib.hid hg
 have hla := dec_len18 ha
 have hlz := dec_len18 hz
 have HB : Hid ((w.alloc (.cells #[.int .i64 (a : Int), .int .i64 (z : Int)] 28)).heap[w.heap.size]? = some (.cells #[.int .i64 (a : Int), .int .i64 (z : Int)] 28 (0, 0))) := Lib.hid (blk_new _ _)
 have HE : Hid (Ext w (w.alloc (.cells #[.int .i64 (a : Int), .int .i64 (z : Int)] 28))) := Lib.hid ((Ext.refl w).alloc _)
 have hc1 : ∀ u : World, (Op.stringOp .add (bs (dec a)) ⟨#[32, 84, 79, 32]⟩).run Tryz.prog u = .ok (str (dec a ++ [32, 84, 79, 32])) u := fun u => cat_ok _ [32, 84, 79, 32] u (by simp; omega)
 clear hg
 by_cases hf : z = 1099511627776
 · subst hf
   have hc2 : ∀ u : World, (Op.stringOp .add (bs (dec a ++ [32, 84, 79, 32])) ⟨#[70, 79, 82, 69, 86, 69, 82]⟩).run Tryz.prog u = .ok (str (spanT (a, 1099511627776))) u := fun u => cat_ok _ [70, 79, 82, 69, 86, 69, 82] u (by simp; omega)
   clear hla hlz
   go_enter Tryz.func33, Tryz.ntmps33
   go_wp2_with fail
   refine (format_ok a _ ha (HG.out.ext HE.out)).mono ?_
   rintro r w2 ⟨rfl, hE2⟩
   have HE2 := Lib.hid (HE.out.trans hE2)
   clear hE2
   go_wp2
   go_ret
   exact ⟨rfl, HE2.out⟩
 · have hc2 : ∀ u : World, (Op.stringOp .add (bs (dec a ++ [32, 84, 79, 32])) (bs (dec z))).run Tryz.prog u = .ok (str (spanT (a, z))) u := fun u => by
    rw [show spanT (a, z) = dec a ++ [32, 84, 79, 32] ++ dec z by unfold spanT toT; rw [if_neg (by exact hf)]]
    exact cat_ok _ _ u (by simp; omega)
   have hb : (((z : Nat) : Int) == 1099511627776) = false := by simp; omega
   have HZ := Lib.hid hz
   obtain ⟨zi, hzi⟩ : ∃ zi : Int, zi = (z : Int) := ⟨_, rfl⟩
   rw [← hzi] at hb HB HE ⊢
   have HZI := Lib.hid hzi
   clear hla hlz hf hzi
   go_enter Tryz.func33, Tryz.ntmps33
   go_wp2_with fail
   rw [HZI.out]
   refine (format_ok z _ HZ.out (by rw [← HZI.out]; exact HG.out.ext HE.out)).mono ?_
   rintro r w1 ⟨rfl, hE1⟩
   rw [← HZI.out] at hE1 ⊢
   have HE1 := Lib.hid (HE.out.trans hE1)
   obtain ⟨b0, b1⟩ := blk2 (Ext.block hE1 HB.out)
   clear hE1
   go_wp2_with fail
   refine (format_ok a _ ha (HG.out.ext HE1.out)).mono ?_
   rintro r w2 ⟨rfl, hE2⟩
   have HE2 := Lib.hid (HE1.out.trans hE2)
   clear hE2
   go_wp2
   go_ret
   exact ⟨rfl, HE2.out⟩
theorem joinL_eq : ∀ l : List Str, joinL [44, 32] l = Lib.join l [44, 32]
 | [] => rfl
 | [a] => by rw [Lib.join_one]; rfl
 | a :: b :: l => by
   have h := joinL_eq (b :: l)
   rw [show joinL [44, 32] (a :: b :: l) = a ++ [44, 32] ++ joinL [44, 32] (b :: l) from rfl, h, Lib.join_cons, Lib.join_cons]
   simp [Lib.joinTail]
theorem join_ok (l : List Str) (g : Option Nat) (cap : Nat) (w : World) (hs : Sl w 9 1 g l.length cap (l.map str)) (hn : l.length ≤ 1000000000) (hl : (joinL [44, 32] l).length ≤ 1000000000) :
   Calls Tryz.prog 31 #[slv g l.length cap, .string ⟨#[44, 32]⟩] w (fun r w' => r = .returned (str (joinL [44, 32] l)) ∧ Ext w w') := by
 cases l with
 | nil =>
   refine (Tryz.strings_Join_none (adr g) cap ⟨#[44, 32]⟩ w).mono ?_
   rintro r w' ⟨rfl, rfl⟩
   exact ⟨rfl, Ext.refl _⟩
 | cons a l =>
   obtain ⟨b, rfl⟩ := hs.some_of_pos (by simp)
   have hm : ((a :: l).map bs).map (·.data.toList) = a :: l := by
    rw [List.map_map]
    have : (fun x : ByteArray => x.data.toList) ∘ bs = id := by funext x; simp [bs]
    rw [this, List.map_id]
   have hj : Lib.join (((a :: l).map bs).map (·.data.toList)) (⟨#[44, 32]⟩ : ByteArray).data.toList = joinL [44, 32] (a :: l) := by rw [hm, joinL_eq]
   have hcap := hs.le
   have h := Tryz.strings_Join b 0 cap ((a :: l).map bs) ⟨#[44, 32]⟩ w (fun j x hx => by
    rw [Nat.zero_add]
    refine hs.cell ?_
    rw [List.getElem?_map] at hx ⊢
    obtain ⟨y, hy, rfl⟩ := Option.map_eq_some_iff.1 hx
    rw [hy]; rfl) hs.block_lt (by rw [List.length_map]; omega) (by rw [List.length_map]; exact hcap) (by rw [hj]; omega)
   rw [List.length_map, hj] at h
   refine h.mono ?_
   rintro r w' ⟨rfl, hE⟩
   exact ⟨rfl, hE⟩
theorem joined_ex (xs : List Ex) (T : Ex → Str) (v : Value) (w : World) (hg : Gl w) (h : Rd ExK 45 w v xs) (hn : xs.length ≤ 100000000) (hl : (joinL [44, 32] (xs.map T)).length ≤ 1000000000) (F : FuncId) (hent : Ent F)
  (hF : ∀ x ∈ xs, ∀ (cs : List Value) (u : World), Gl u → ExK.C u (fun _ => True) cs x → Calls Tryz.prog F #[.agg cs.toArray] u (fun r u' => r = .returned (str (T x)) ∧ Ext u u')) :
  Calls Tryz.prog 32 #[v, .func (.func F) #[] #[]] w (fun r w' => r = .returned (str (joinL [44, 32] (xs.map T))) ∧ Ext w w') := by
 have H := Lib.hid h
 have HG := Lib.hid hg
 have HF := Lib.hid hF
 have hnn := hn
 obtain ⟨g0, c0, rfl⟩ := h.slice
 clear h hg hF
 go_enter Tryz.func32, Tryz.ntmps32
 go_wp2
 go_loopg [5, 10] xs.length (fun gk v5 v10 wr => ∃ (j : Nat) (g : Option Nat) (cap : Nat), j + gk = xs.length ∧ v5 = slv g j cap ∧ v10 = .int .i64 (j : Int) ∧ Ext w wr ∧ Sl wr 9 1 g j cap (((xs.map T).take j).map str) ∧ ∀ b, g = some b → w.heap.size ≤ b)
 case atStart => exact ⟨0, none, 0, by omega, rfl, rfl, Ext.refl _, by simpa using Sl.nil w _ 1, by simp⟩
 case round =>
  obtain ⟨j, g, cap, hjk, rfl, rfl, hE, hS, hO⟩ := hrel
  have HJK := Lib.hid hjk
  have HE := Lib.hid hE
  have HS := Lib.hid hS
  have HO := Lib.hid hO
  clear hjk hE hS hO
  by_cases hj : j < xs.length
  · obtain ⟨x, hx⟩ : ∃ x, xs[j]? = some x := ⟨_, List.getElem?_eq_getElem hj⟩
    obtain ⟨ga, ca, ba, csa, hva, hga, hla, hca, hcc⟩ := (H.out.ext HE.out).at hx
    obtain ⟨rfl, rfl⟩ := slv_inj hva
    have HX := Lib.hid (List.mem_of_getElem? hx)
    have HTK : Hid (((xs.map T).take (j + 1)).map str = ((xs.map T).take j).map str ++ [str (T x)]) := Lib.hid (by rw [List.take_add_one, List.getElem?_map, hx]; simp)
    have HCA := Lib.hid hca
    obtain ⟨op, n, t, o, args⟩ := x; obtain ⟨gx, cx, fx, rfl, -⟩ := hca
    have d0 : wr.cell? ⟨ba, j * 5, none⟩ = some (str op) := hcc 0 (by decide) _ rfl; have d1 : wr.cell? ⟨ba, j * 5 + 1, none⟩ = some (.int .i64 (n : Int)) := hcc 1 (by decide) _ rfl; have d2 : wr.cell? ⟨ba, j * 5 + 2, none⟩ = some (str t) := hcc 2 (by decide) _ rfl; have d3 : wr.cell? ⟨ba, j * 5 + 3, none⟩ = some (str o) := hcc 3 (by decide) _ rfl; have d4 : wr.cell? ⟨ba, j * 5 + 4, none⟩ = some (slv gx args.length cx) := hcc 4 (by decide) _ rfl
    have z1 : ∀ u : World, (Instr.indexAt 25 (slv g0 xs.length c0) (.int .i64 (j : Int))).run Tryz.prog u = .ok (.pointer (some ⟨ba, j * 5, none⟩)) u := fun u => run_index_slv ei_ex (cap := c0) hga hj u
    clear hx hva hga hcc hla
    go_wp2_with fail
    go_wp2_with fail
    have HW : Hid (Ext wr (wr.alloc (.cells (exCells op n t o (slv gx args.length cx)).toArray 45))) := Lib.hid ((Ext.refl wr).alloc _)
    have HG2 := Lib.hid (HG.out.ext (HE.out.trans HW.out))
    have HC2 : Hid (ExK.C (wr.alloc (.cells (exCells op n t o (slv gx args.length cx)).toArray 45)) (fun _ => True) (exCells op n t o (slv gx args.length cx)) (.mk op n t o args)) := Lib.hid (ExK.keep (fun b hb ha => ⟨Below.block HW.out b hb, ha⟩) _ _ HCA.out)
    have h9 := HF.out _ HX.out (exCells op n t o (slv gx args.length cx)) (wr.alloc (.cells (exCells op n t o (slv gx args.length cx)).toArray 45)) HG2.out HC2.out
    refine h9.mono ?_
    rintro r w2 ⟨rfl, hE2⟩
    have HE2 := Lib.hid (HW.out.trans hE2)
    clear hE2 d0 d1 d2 d3 d4 z1
    go_wp2_with (at_builtin; refine (fun (h : True → _) => h trivial) ?_)
    intro _
    refine app_lit ei_str rfl (.tmp 14) (.tmp 18) rfl (g := g) (n := j) (cap := cap) (b := w2.heap.size) (by rfl) (HS.out.ext (HE2.out.trans ((Ext.refl w2).alloc _))) (by rfl) (news := [str (T (.mk op n t o args))]) rfl (blk_new_at _ rfl) (by simp [Value.oneCell']) (by omega) (by omega) ?_
    intro g6 cap6 w6 hS6 hT6 hat6
    have HE6 : Hid (Ext w w6) := Lib.hid (Touch.ext (((HE.out.trans (HE2.out.trans ((Ext.refl w2).alloc _))).touch _).trans hT6) (fun i hi e => by have := HO.out i e; omega))
    rw [← HTK.out] at hS6
    have HS6 := Lib.hid hS6
    have HO6 : Hid (w.heap.size ≤ g6) := Lib.hid (by
     rcases hat6 with h | h
     · exact HO.out _ h
     · have := HE.out.size; have := HE2.out.size; simp at h; omega)
    clear hS6 hT6 hat6
    go_wp2
    go_roundg (gk - 1)
    case measure => have := HJK.out; omega
    case rel => exact ⟨j + 1, some g6, cap6, by have := HJK.out; omega, rfl, by go_num, HE6.out, HS6.out, fun b hb => by cases hb; exact HO6.out⟩
  · obtain rfl : j = xs.length := by have := HJK.out; omega
    have HS2 : Hid (Sl wr 9 1 g (xs.map T).length cap ((xs.map T).map str)) := Lib.hid (by
     have h1 := HS.out
     rw [List.take_of_length_le (by simp)] at h1
     rw [List.length_map]
     exact h1)
    clear hj
    go_wp2_with fail
    have hjn := join_ok _ _ _ _ HS2.out (by rw [List.length_map]; omega) hl
    rw [List.length_map] at hjn
    refine hjn.mono ?_
    rintro r w2 ⟨rfl, hE2⟩
    have HE2 := Lib.hid (HE.out.trans hE2)
    clear hE2 hjn
    go_wp2
    go_ret
    exact ⟨rfl, HE2.out⟩
end Go.Proofs.YtkhnpmeohjafiaaGreatDoor
