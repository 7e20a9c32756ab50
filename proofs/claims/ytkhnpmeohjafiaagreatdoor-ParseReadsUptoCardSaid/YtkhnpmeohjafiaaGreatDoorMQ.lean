/- Lemmas. -/
import Derived.Test.YtkhnpmeohjafiaaGreatDoorML
import Derived.Test.YtkhnpmeohjafiaaGreatDoorMG
import Derived.Test.YtkhnpmeohjafiaaGreatDoorMShf
import Derived.Laws.Concat
import Derived.Test.YtkhnpmeohjafiaaGreatDoorMO
set_option maxHeartbeats 16000000
set_option maxRecDepth 100000
namespace Go.Proofs.YtkhnpmeohjafiaaGreatDoor
open Go.RowKit
def MaxOk (w : World) : Prop := ∃ m, w.cell? ⟨2, 0, none⟩ = some (.int .i64 m)
structure Gl (w : World) : Prop where
 max : MaxOk w
 tab : Lib.TabIs Tryz.prog w "internal/strconv.uint64pow10" .u64 Lib.pow10Tab
theorem Gl.ext {w w' : World} (h : Gl w) (he : Ext w w') : Gl w' := by
 obtain ⟨⟨m, h1⟩, h2⟩ := h
 refine ⟨⟨m, Ext.cell he h1⟩, ?_⟩
 unfold Lib.TabIs World.var? at h2 ⊢
 cases hg : Tryz.prog.globalNamed "internal/strconv.uint64pow10" with
 | none => rw [hg] at h2; simp at h2
 | some g =>
   rw [hg] at h2
   simp only [Option.bind_some] at h2 ⊢
   cases hb : w.heap[g]? with
   | none => rw [hb] at h2; simp at h2
   | some o =>
     rw [Ext.block he hb]
     rw [hb] at h2
     exact h2
theorem cat_ok {P : Program} (a b : List UInt8) (u : World) (h : a.length + b.length ≤ 4000000000) : (Op.stringOp .add (bs a) (bs b)).run P u = .ok (str (a ++ b)) u := by
 rw [run_string_add_sum u _ _ (by rw [bs_size, bs_size]; omega)]
 unfold bs
 rw [ByteArray.mk_append_mk]
 rfl
theorem quote_ok (l : List UInt8) (w : World) (hl : l.length ≤ 1000000000) (hm : MaxOk w) : Calls Tryz.prog 41 #[str l] w (fun e w' => e = .returned (str (quoted l)) ∧ Ext w w') := by
 obtain ⟨m, hm⟩ := hm
 go_enter Tryz.func41, Tryz.ntmps41
 go_wp2_with fail
 refine (Tryz.strings_ReplaceAll (bs l) ⟨#[39]⟩ ⟨#[39, 39]⟩ m w (by rw [bs_size]; omega) hm (by decide) ?_).mono ?_
 · have : Lib.countB (bs l) ⟨#[39]⟩ ≤ (bs l).data.toList.length + 1 := Lib.count_le (bs l).data.toList (⟨#[39]⟩ : ByteArray).data.toList
   have h1 : (bs l).data.toList.length = l.length := by simp [bs]
   have h2 : (⟨#[39, 39]⟩ : ByteArray).size = 2 := rfl
   rw [bs_size, h2]
   omega
 rintro e w1 ⟨rfl, hE⟩
 have h1 : (⟨(Lib.replaceAll (bs l).data.toList (⟨#[39]⟩ : ByteArray).data.toList (⟨#[39, 39]⟩ : ByteArray).data.toList).toArray⟩ : ByteArray) = bs (dbl l) := by
   show bs (Lib.replaceAll l [39] [39, 39]) = _
   rw [replaceAll_dbl]
 rw [h1]
 have hd := dbl_le l
 have hc1 : ∀ u : World, (Op.stringOp .add ⟨#[39]⟩ (bs (dbl l))).run Tryz.prog u = .ok (str (39 :: dbl l)) u := fun u => cat_ok [39] (dbl l) u (by simp; omega)
 have hc2 : ∀ u : World, (Op.stringOp .add (bs (39 :: dbl l)) ⟨#[39]⟩).run Tryz.prog u = .ok (str (quoted l)) u := fun u => cat_ok (39 :: dbl l) [39] u (by simp; omega)
 clear h1 hd
 go_wp2
 go_ret
 exact ⟨rfl, hE⟩
theorem itoa_dec (n : Nat) : Lib.itoa (n : Int) = dec n := by
 unfold Lib.itoa dec
 rw [if_neg (by omega)]
 rfl
theorem format_ok (n : Nat) (w : World) (hn : n ≤ 9223372036854775807) (hg : Gl w) : Calls Tryz.prog 40 #[.int .i64 (n : Int), .int .i64 10] w (fun e w' => e = .returned (str (dec n)) ∧ Ext w w') := by
 refine (Tryz.strconv_FormatInt_10 (n : Int) (by omega) (by omega) w hg.tab).mono ?_
 rintro e w' ⟨rfl, k, os, rfl⟩
 refine ⟨?_, ?_⟩
 · rw [itoa_dec]; rfl
 · exact ⟨rfl, rfl, rfl, by simp [Sort.grow, World.drewN], fun i hi => by simp [Sort.grow, World.drewN, Array.getElem?_append_left hi]⟩
theorem level_ok (e : Ex) (cs : List Value) (w : World) (h : ExC w (fun _ => True) cs e) :
  Calls Tryz.prog 39 #[.agg cs.toArray] w (fun r w' => r = .returned (.int .i64 (lvl e : Int)) ∧ Ext w w') := by
 obtain ⟨op, n, t, o, args⟩ := e
 obtain ⟨g, c, f, rfl, -, -, -⟩ := h
 rw [show (exCells op n t o (slv g args.length c)).toArray = #[str op, .int .i64 (n : Int), str t, str o, slv g args.length c] from rfl]
 have hbs := bs_toList
 go_enter Tryz.func39, Tryz.ntmps39
 go_wp2
 all_goals (go_ret; refine ⟨congrArg (fun b => Ending.returned (Value.int IntKind.i64 b)) ?_, (Ext.refl w).alloc _⟩; clear hbs; simp_all [lvl]; try (split <;> omega))
def TX (e : Ex) : Prop := ∀ (cs : List Value) (w : World), Gl w → ExC w (fun _ => True) cs e → Calls Tryz.prog 13 #[.agg cs.toArray] w (fun r w' => r = .returned (str (textE e)) ∧ Ext w w')
theorem part_ok (e : Ex) (hT : TX e) (hl : (textE e).length ≤ 1000000000) (least : Nat) (cs : List Value) (w : World) (hg : Gl w) (h : ExC w (fun _ => True) cs e) :
   Calls Tryz.prog 42 #[.agg cs.toArray, .int .i64 (least : Int)] w (fun r w' => r = .returned (str (brk e least (textE e))) ∧ Ext w w') := by
 have HC := Lib.hid h
 have HG := Lib.hid hg
 have HT := Lib.hid hT
 have hcs : ∃ v0 v1 v2 v3 v4, cs = [v0, v1, v2, v3, v4] := by
   obtain ⟨op, n, t, o, args⟩ := e
   obtain ⟨g, c, f, rfl, -, -, -⟩ := h
   exact ⟨_, _, _, _, _, rfl⟩
 obtain ⟨v0, v1, v2, v3, v4, rfl⟩ := hcs
 clear h hg hT
 rw [show ([v0, v1, v2, v3, v4] : List Value).toArray = #[v0, v1, v2, v3, v4] from rfl]
 have HB : Hid ((w.alloc (.cells #[v0, v1, v2, v3, v4] 45)).heap[w.heap.size]? = some (.cells #[v0, v1, v2, v3, v4] 45 (0, 0))) := Lib.hid (blk_new _ _)
 have HE : Hid (Ext w (w.alloc (.cells #[v0, v1, v2, v3, v4] 45))) := Lib.hid ((Ext.refl w).alloc _)
 go_enter Tryz.func42, Tryz.ntmps42
 go_wp2_with fail
 refine (level_ok e _ _ (HC.out.ext HE.out)).mono ?_
 rintro r w1 ⟨rfl, hE1⟩
 have HE1 := Lib.hid (HE.out.trans hE1)
 have HB1 := Lib.hid (Ext.block hE1 HB.out)
 clear hE1
 obtain ⟨a0, a1, a2, a3, a4⟩ := blk5 HB1.out
 by_cases hlv : lvl e < least
 · have hd : decide (((lvl e : Nat) : Int) < ((least : Nat) : Int)) = true := by simpa using hlv
   go_wp2_with fail
   refine (HT.out _ _ (HG.out.ext HE1.out) (HC.out.ext HE1.out)).mono ?_
   rintro r w2 ⟨rfl, hE2⟩
   have HE2 := Lib.hid (HE1.out.trans hE2)
   have HR : Hid (brk e least (textE e) = [40] ++ textE e ++ [41]) := Lib.hid (by unfold brk; rw [if_pos hlv])
   have hc1 : ∀ u : World, (Op.stringOp .add ⟨#[40]⟩ (bs (textE e))).run Tryz.prog u = .ok (str (40 :: textE e)) u := fun u => cat_ok [40] (textE e) u (by simp; omega)
   have hc2 : ∀ u : World, (Op.stringOp .add (bs (40 :: textE e)) ⟨#[41]⟩).run Tryz.prog u = .ok (str ([40] ++ textE e ++ [41])) u := fun u => cat_ok (40 :: textE e) [41] u (by simp; omega)
   clear hE2 hlv hd a0 a1 a2 a3 a4
   go_wp2
   go_ret
   rw [HR.out]
   exact ⟨rfl, HE2.out⟩
 · have hd : decide (((lvl e : Nat) : Int) < ((least : Nat) : Int)) = false := by simpa using hlv
   go_wp2_with fail
   refine (HT.out _ _ (HG.out.ext HE1.out) (HC.out.ext HE1.out)).mono ?_
   rintro r w2 ⟨rfl, hE2⟩
   have HE2 := Lib.hid (HE1.out.trans hE2)
   have HR : Hid (brk e least (textE e) = textE e) := Lib.hid (by unfold brk; rw [if_neg hlv])
   clear hE2 hlv hd a0 a1 a2 a3 a4
   go_wp2
   go_ret
   rw [HR.out]
   exact ⟨rfl, HE2.out⟩
theorem ex5 {w : World} {A : Nat → Prop} {cs : List Value} {e : Ex} (h : ExC w A cs e) : ∃ v0 v1 v2 v3 v4, cs = [v0, v1, v2, v3, v4] := by
 obtain ⟨op, n, t, o, args⟩ := e
 obtain ⟨g, c, f, rfl, -, -, -⟩ := h
 exact ⟨_, _, _, _, _, rfl⟩
theorem Text_num (n : Nat) (hn : n < 1000000000000000000) : TX (eNum n) := by
 intro cs w hg h
 obtain ⟨g, c, f, rfl, s, -, l⟩ := h
 have R : Hid (Rd ExK 45 w (slv g 0 c) []) := Lib.hid ⟨g, c, f, rfl, s, exs_ls l⟩
 have HC : Hid (ExC w (fun _ => True) (exCells [110, 117, 109, 98, 101, 114] n [] [] (slv g 0 c)) (.mk [110, 117, 109, 98, 101, 114] n [] [] [])) := Lib.hid ⟨g, c, f, rfl, s, fun _ _ => trivial, l⟩
 have HG := Lib.hid hg
 clear s l hg
 rw [show (exCells [110, 117, 109, 98, 101, 114] n [] [] (slv g ([] : List Ex).length c)).toArray = #[str [110, 117, 109, 98, 101, 114], .int .i64 (n : Nat), str [], str [], slv g 0 c] from rfl]
 have HB : Hid ((w.alloc (.cells #[str [110, 117, 109, 98, 101, 114], .int .i64 (n : Nat), str [], str [], slv g 0 c] 45)).heap[w.heap.size]? = some (.cells #[str [110, 117, 109, 98, 101, 114], .int .i64 (n : Nat), str [], str [], slv g 0 c] 45 (0, 0))) := Lib.hid (blk_new _ _)
 have HE : Hid (Ext w (w.alloc (.cells #[str [110, 117, 109, 98, 101, 114], .int .i64 (n : Nat), str [], str [], slv g 0 c] 45))) := Lib.hid ((Ext.refl w).alloc _)
 have hbs := bs_toList
 go_enter Tryz.func13, Tryz.ntmps13
 go_wp2_with fail
 refine (level_ok (.mk [110, 117, 109, 98, 101, 114] n [] [] []) _ _ (HC.out.ext HE.out)).mono ?_
 rintro r w1 ⟨rfl, hE1⟩
 have HE1 := Lib.hid (HE.out.trans hE1)
 have HB1 := Lib.hid (Ext.block hE1 HB.out)
 clear hE1
 obtain ⟨a0, a1, a2, a3, a4⟩ := blk5 HB1.out
 go_wp2_with fail
 refine (format_ok n _ (by omega) (HG.out.ext HE1.out)).mono ?_
 rintro r w2 ⟨rfl, hE2⟩
 have HE2 := Lib.hid (HE1.out.trans hE2)
 clear hE2
 go_wp2
 go_ret
 rw [text_num]
 exact ⟨rfl, HE2.out⟩
theorem Text_text (t : Str) (ht : t.length ≤ 1000000000) : TX (eText t) := by
 intro cs w hg h
 obtain ⟨g, c, f, rfl, s, -, l⟩ := h
 have R : Hid (Rd ExK 45 w (slv g 0 c) []) := Lib.hid ⟨g, c, f, rfl, s, exs_ls l⟩
 have HC : Hid (ExC w (fun _ => True) (exCells [116, 101, 120, 116] 0 t [] (slv g 0 c)) (.mk [116, 101, 120, 116] 0 t [] [])) := Lib.hid ⟨g, c, f, rfl, s, fun _ _ => trivial, l⟩
 have HG := Lib.hid hg
 clear s l hg
 rw [show (exCells [116, 101, 120, 116] 0 t [] (slv g ([] : List Ex).length c)).toArray = #[str [116, 101, 120, 116], .int .i64 (0 : Nat), str t, str [], slv g 0 c] from rfl]
 have HB : Hid ((w.alloc (.cells #[str [116, 101, 120, 116], .int .i64 (0 : Nat), str t, str [], slv g 0 c] 45)).heap[w.heap.size]? = some (.cells #[str [116, 101, 120, 116], .int .i64 (0 : Nat), str t, str [], slv g 0 c] 45 (0, 0))) := Lib.hid (blk_new _ _)
 have HE : Hid (Ext w (w.alloc (.cells #[str [116, 101, 120, 116], .int .i64 (0 : Nat), str t, str [], slv g 0 c] 45))) := Lib.hid ((Ext.refl w).alloc _)
 have hbs := bs_toList
 go_enter Tryz.func13, Tryz.ntmps13
 go_wp2_with fail
 refine (level_ok (.mk [116, 101, 120, 116] 0 t [] []) _ _ (HC.out.ext HE.out)).mono ?_
 rintro r w1 ⟨rfl, hE1⟩
 have HE1 := Lib.hid (HE.out.trans hE1)
 have HB1 := Lib.hid (Ext.block hE1 HB.out)
 clear hE1
 obtain ⟨a0, a1, a2, a3, a4⟩ := blk5 HB1.out
 go_wp2_with fail
 refine (quote_ok t _ ht (HG.out.ext HE1.out).max).mono ?_
 rintro r w2 ⟨rfl, hE2⟩
 have HE2 := Lib.hid (HE1.out.trans hE2)
 clear hE2
 go_wp2
 go_ret
 rw [text_text]
 exact ⟨rfl, HE2.out⟩
theorem Text_name (t o : Str) (ht : t.length + o.length ≤ 1000000000) : TX (eName t o) := by
 intro cs w hg h
 obtain ⟨s1, h1⟩ : ∃ s : Str, s = o ++ [46] := ⟨_, rfl⟩
 obtain ⟨s2, h2⟩ : ∃ s : Str, s = s1 ++ t := ⟨_, rfl⟩
 have hc1 : ∀ u : World, (Op.stringOp .add (bs o) ⟨#[46]⟩).run Tryz.prog u = .ok (str s1) u := fun u => by rw [h1]; exact cat_ok o [46] u (by simp; omega)
 have hc2 : ∀ u : World, (Op.stringOp .add (bs s1) (bs t)).run Tryz.prog u = .ok (str s2) u := fun u => by rw [h2]; exact cat_ok _ _ u (by rw [h1]; simp; omega)
 have H2 : Hid (s2 = o ++ [46] ++ t) := Lib.hid (by rw [h2, h1])
 clear h1 h2
 by_cases ho : o = []
 · subst ho
   obtain ⟨g, c, f, rfl, s, -, l⟩ := h
   have R : Hid (Rd ExK 45 w (slv g 0 c) []) := Lib.hid ⟨g, c, f, rfl, s, exs_ls l⟩
   have HC : Hid (ExC w (fun _ => True) (exCells [110, 97, 109, 101] 0 t [] (slv g 0 c)) (.mk [110, 97, 109, 101] 0 t [] [])) := Lib.hid ⟨g, c, f, rfl, s, fun _ _ => trivial, l⟩
   have HG := Lib.hid hg
   clear s l hg
   rw [show (exCells [110, 97, 109, 101] 0 t [] (slv g ([] : List Ex).length c)).toArray = #[str [110, 97, 109, 101], .int .i64 (0 : Nat), str t, str [], slv g 0 c] from rfl]
   have HB : Hid ((w.alloc (.cells #[str [110, 97, 109, 101], .int .i64 (0 : Nat), str t, str [], slv g 0 c] 45)).heap[w.heap.size]? = some (.cells #[str [110, 97, 109, 101], .int .i64 (0 : Nat), str t, str [], slv g 0 c] 45 (0, 0))) := Lib.hid (blk_new _ _)
   have HE : Hid (Ext w (w.alloc (.cells #[str [110, 97, 109, 101], .int .i64 (0 : Nat), str t, str [], slv g 0 c] 45))) := Lib.hid ((Ext.refl w).alloc _)
   have hbs := bs_toList
   go_enter Tryz.func13, Tryz.ntmps13
   go_wp2_with fail
   refine (level_ok (.mk [110, 97, 109, 101] 0 t [] []) _ _ (HC.out.ext HE.out)).mono ?_
   rintro r w1 ⟨rfl, hE1⟩
   have HE1 := Lib.hid (HE.out.trans hE1)
   have HB1 := Lib.hid (Ext.block hE1 HB.out)
   clear hE1
   obtain ⟨a0, a1, a2, a3, a4⟩ := blk5 HB1.out
   go_wp2
   go_ret
   rw [text_name, if_pos rfl]
   exact ⟨rfl, HE1.out⟩
 · have hb : (o == ([] : Str)) = false := by simpa using ho
   obtain ⟨g, c, f, rfl, s, -, l⟩ := h
   have R : Hid (Rd ExK 45 w (slv g 0 c) []) := Lib.hid ⟨g, c, f, rfl, s, exs_ls l⟩
   have HC : Hid (ExC w (fun _ => True) (exCells [110, 97, 109, 101] 0 t o (slv g 0 c)) (.mk [110, 97, 109, 101] 0 t o [])) := Lib.hid ⟨g, c, f, rfl, s, fun _ _ => trivial, l⟩
   have HG := Lib.hid hg
   clear s l hg
   rw [show (exCells [110, 97, 109, 101] 0 t o (slv g ([] : List Ex).length c)).toArray = #[str [110, 97, 109, 101], .int .i64 (0 : Nat), str t, str o, slv g 0 c] from rfl]
   have HB : Hid ((w.alloc (.cells #[str [110, 97, 109, 101], .int .i64 (0 : Nat), str t, str o, slv g 0 c] 45)).heap[w.heap.size]? = some (.cells #[str [110, 97, 109, 101], .int .i64 (0 : Nat), str t, str o, slv g 0 c] 45 (0, 0))) := Lib.hid (blk_new _ _)
   have HE : Hid (Ext w (w.alloc (.cells #[str [110, 97, 109, 101], .int .i64 (0 : Nat), str t, str o, slv g 0 c] 45))) := Lib.hid ((Ext.refl w).alloc _)
   have hbs := bs_toList
   go_enter Tryz.func13, Tryz.ntmps13
   go_wp2_with fail
   refine (level_ok (.mk [110, 97, 109, 101] 0 t o []) _ _ (HC.out.ext HE.out)).mono ?_
   rintro r w1 ⟨rfl, hE1⟩
   have HE1 := Lib.hid (HE.out.trans hE1)
   have HB1 := Lib.hid (Ext.block hE1 HB.out)
   clear hE1
   obtain ⟨a0, a1, a2, a3, a4⟩ := blk5 HB1.out
   have HO := Lib.hid ho
   clear ho
   go_wp2
   go_ret
   rw [text_name, if_neg HO.out, ← H2.out]
   exact ⟨rfl, HE1.out⟩
theorem Text_no (a : Ex) (hT : TX a) (ha : (textE a).length ≤ 1000000000) : TX (eOne [78, 79, 84] a) := by
 intro cs w hg h
 have hbl := brk_len (e := a) (k := 3) (s := textE a)
 have hc1 : ∀ u : World, (Op.stringOp .add ⟨#[78, 79, 84, 32]⟩ (bs (brk a 3 (textE a)))).run Tryz.prog u = .ok (str ([78, 79, 84, 32] ++ brk a 3 (textE a))) u := fun u => cat_ok [78, 79, 84, 32] _ u (by simp; omega)
 clear hbl
 obtain ⟨g, c, f, rfl, s, -, l⟩ := h
 have R : Hid (Rd ExK 45 w (slv g 1 c) [a]) := Lib.hid ⟨g, c, f, rfl, s, exs_ls l⟩
 have HC : Hid (ExC w (fun _ => True) (exCells [78, 79, 84] 0 [] [] (slv g 1 c)) (.mk [78, 79, 84] 0 [] [] [a])) := Lib.hid ⟨g, c, f, rfl, s, fun _ _ => trivial, l⟩
 have HG := Lib.hid hg
 clear s l hg
 rw [show (exCells [78, 79, 84] 0 [] [] (slv g ([a] : List Ex).length c)).toArray = #[str [78, 79, 84], .int .i64 (0 : Nat), str [], str [], slv g 1 c] from rfl]
 have HB : Hid ((w.alloc (.cells #[str [78, 79, 84], .int .i64 (0 : Nat), str [], str [], slv g 1 c] 45)).heap[w.heap.size]? = some (.cells #[str [78, 79, 84], .int .i64 (0 : Nat), str [], str [], slv g 1 c] 45 (0, 0))) := Lib.hid (blk_new _ _)
 have HE : Hid (Ext w (w.alloc (.cells #[str [78, 79, 84], .int .i64 (0 : Nat), str [], str [], slv g 1 c] 45))) := Lib.hid ((Ext.refl w).alloc _)
 have hbs := bs_toList
 go_enter Tryz.func13, Tryz.ntmps13
 go_wp2_with fail
 refine (level_ok (.mk [78, 79, 84] 0 [] [] [a]) _ _ (HC.out.ext HE.out)).mono ?_
 rintro r w1 ⟨rfl, hE1⟩
 have HE1 := Lib.hid (HE.out.trans hE1)
 have HB1 := Lib.hid (Ext.block hE1 HB.out)
 clear hE1
 obtain ⟨a0, a1, a2, a3, a4⟩ := blk5 HB1.out
 rw [show lvl (.mk [78, 79, 84] 0 [] [] [a]) = 3 from lvl_no a]
 obtain ⟨gp, cp, bp, csp, hvp, hgp, hlp, hcp, hccp⟩ := (R.out.ext HE1.out).at (i := 0) (x := a) rfl
 obtain ⟨rfl, rfl⟩ := slv_inj hvp
 obtain ⟨p0, p1, p2, p3, p4, rfl⟩ := ex5 hcp
 have dp0 : w1.cell? ⟨bp, 0, none⟩ = some p0 := hccp 0 (by decide) _ rfl
 have dp1 : w1.cell? ⟨bp, 1, none⟩ = some p1 := hccp 1 (by decide) _ rfl
 have dp2 : w1.cell? ⟨bp, 2, none⟩ = some p2 := hccp 2 (by decide) _ rfl
 have dp3 : w1.cell? ⟨bp, 3, none⟩ = some p3 := hccp 3 (by decide) _ rfl
 have dp4 : w1.cell? ⟨bp, 4, none⟩ = some p4 := hccp 4 (by decide) _ rfl
 have zp : ∀ u : World, (Instr.indexAt 25 (slv g 1 c) (.int .i64 0)).run Tryz.prog u = .ok (.pointer (some ⟨bp, 0, none⟩)) u := fun u => run_index_slv ei_ex (n := 1) (cap := c) (j := 0) hgp (by decide) u
 have HCP := Lib.hid hcp
 clear hvp hgp hlp hcp hccp
 go_wp2_with fail
 refine (part_ok a hT ha 3 _ _ (HG.out.ext HE1.out) HCP.out).mono ?_
 rintro r w2 ⟨rfl, hE2⟩
 have HE2 := Lib.hid (HE1.out.trans hE2)
 clear hE2 dp0 dp1 dp2 dp3 dp4 zp a0 a1 a2 a3 a4
 go_wp2
 go_ret
 rw [text_no]
 exact ⟨rfl, HE2.out⟩
theorem Text_neg (a : Ex) (hT : TX a) (ha : (textE a).length ≤ 1000000000) : TX (eOne [45] a) := by
 intro cs w hg h
 have hbl := brk_len (e := a) (k := 7) (s := textE a)
 have hc1 : ∀ u : World, (Op.stringOp .add ⟨#[45]⟩ (bs (brk a 7 (textE a)))).run Tryz.prog u = .ok (str ([45] ++ brk a 7 (textE a))) u := fun u => cat_ok [45] _ u (by simp; omega)
 clear hbl
 obtain ⟨g, c, f, rfl, s, -, l⟩ := h
 have R : Hid (Rd ExK 45 w (slv g 1 c) [a]) := Lib.hid ⟨g, c, f, rfl, s, exs_ls l⟩
 have HC : Hid (ExC w (fun _ => True) (exCells [45] 0 [] [] (slv g 1 c)) (.mk [45] 0 [] [] [a])) := Lib.hid ⟨g, c, f, rfl, s, fun _ _ => trivial, l⟩
 have HG := Lib.hid hg
 clear s l hg
 rw [show (exCells [45] 0 [] [] (slv g ([a] : List Ex).length c)).toArray = #[str [45], .int .i64 (0 : Nat), str [], str [], slv g 1 c] from rfl]
 have HB : Hid ((w.alloc (.cells #[str [45], .int .i64 (0 : Nat), str [], str [], slv g 1 c] 45)).heap[w.heap.size]? = some (.cells #[str [45], .int .i64 (0 : Nat), str [], str [], slv g 1 c] 45 (0, 0))) := Lib.hid (blk_new _ _)
 have HE : Hid (Ext w (w.alloc (.cells #[str [45], .int .i64 (0 : Nat), str [], str [], slv g 1 c] 45))) := Lib.hid ((Ext.refl w).alloc _)
 have hbs := bs_toList
 go_enter Tryz.func13, Tryz.ntmps13
 go_wp2_with fail
 refine (level_ok (.mk [45] 0 [] [] [a]) _ _ (HC.out.ext HE.out)).mono ?_
 rintro r w1 ⟨rfl, hE1⟩
 have HE1 := Lib.hid (HE.out.trans hE1)
 have HB1 := Lib.hid (Ext.block hE1 HB.out)
 clear hE1
 obtain ⟨a0, a1, a2, a3, a4⟩ := blk5 HB1.out
 rw [show lvl (.mk [45] 0 [] [] [a]) = 7 from lvl_neg a]
 obtain ⟨gp, cp, bp, csp, hvp, hgp, hlp, hcp, hccp⟩ := (R.out.ext HE1.out).at (i := 0) (x := a) rfl
 obtain ⟨rfl, rfl⟩ := slv_inj hvp
 obtain ⟨p0, p1, p2, p3, p4, rfl⟩ := ex5 hcp
 have dp0 : w1.cell? ⟨bp, 0, none⟩ = some p0 := hccp 0 (by decide) _ rfl
 have dp1 : w1.cell? ⟨bp, 1, none⟩ = some p1 := hccp 1 (by decide) _ rfl
 have dp2 : w1.cell? ⟨bp, 2, none⟩ = some p2 := hccp 2 (by decide) _ rfl
 have dp3 : w1.cell? ⟨bp, 3, none⟩ = some p3 := hccp 3 (by decide) _ rfl
 have dp4 : w1.cell? ⟨bp, 4, none⟩ = some p4 := hccp 4 (by decide) _ rfl
 have zp : ∀ u : World, (Instr.indexAt 25 (slv g 1 c) (.int .i64 0)).run Tryz.prog u = .ok (.pointer (some ⟨bp, 0, none⟩)) u := fun u => run_index_slv ei_ex (n := 1) (cap := c) (j := 0) hgp (by decide) u
 have HCP := Lib.hid hcp
 clear hvp hgp hlp hcp hccp
 go_wp2_with fail
 refine (part_ok a hT ha 7 _ _ (HG.out.ext HE1.out) HCP.out).mono ?_
 rintro r w2 ⟨rfl, hE2⟩
 have HE2 := Lib.hid (HE1.out.trans hE2)
 clear hE2 dp0 dp1 dp2 dp3 dp4 zp a0 a1 a2 a3 a4
 go_wp2
 go_ret
 rw [text_neg]
 exact ⟨rfl, HE2.out⟩
theorem Text_cmp (op : Str) (a b : Ex) (ho : op ∈ binL) (hl4 : lvl (eTwo op a b) = 4) (hT : TX a) (hU : TX b) (ha : (textE a).length + (textE b).length ≤ 1000000000) : TX (eTwo op a b) := by
 intro cs w hg h
 have hol := bin_len ho
 have hbl := brk_len (e := a) (k := 5) (s := textE a)
 have hbm := brk_len (e := b) (k := 5) (s := textE b)
 obtain ⟨s1, h1⟩ : ∃ s : Str, s = brk a 5 (textE a) ++ [32] := ⟨_, rfl⟩
 obtain ⟨s2, h2⟩ : ∃ s : Str, s = s1 ++ op := ⟨_, rfl⟩
 obtain ⟨s3, h3⟩ : ∃ s : Str, s = s2 ++ [32] := ⟨_, rfl⟩
 obtain ⟨s4, h4⟩ : ∃ s : Str, s = s3 ++ brk b 5 (textE b) := ⟨_, rfl⟩
 have l1 : s1.length ≤ (textE a).length + 3 := by rw [h1]; simp; omega
 have l2 : s2.length ≤ (textE a).length + 6 := by rw [h2]; simp; omega
 have l3 : s3.length ≤ (textE a).length + 7 := by rw [h3]; simp; omega
 have hc1 : ∀ u : World, (Op.stringOp .add (bs (brk a 5 (textE a))) ⟨#[32]⟩).run Tryz.prog u = .ok (str s1) u := fun u => by rw [h1]; exact cat_ok _ [32] u (by simp; omega)
 have hc2 : ∀ u : World, (Op.stringOp .add (bs s1) (bs op)).run Tryz.prog u = .ok (str s2) u := fun u => by rw [h2]; exact cat_ok _ _ u (by omega)
 have hc3 : ∀ u : World, (Op.stringOp .add (bs s2) ⟨#[32]⟩).run Tryz.prog u = .ok (str s3) u := fun u => by rw [h3]; exact cat_ok _ [32] u (by simp; omega)
 have hc4 : ∀ u : World, (Op.stringOp .add (bs s3) (bs (brk b 5 (textE b)))).run Tryz.prog u = .ok (str s4) u := fun u => by rw [h4]; exact cat_ok _ _ u (by omega)
 have H4 : Hid (s4 = brk a 5 (textE a) ++ [32] ++ op ++ [32] ++ brk b 5 (textE b)) := Lib.hid (by rw [h4, h3, h2, h1])
 clear hbl hbm h1 h2 h3 h4 l1 l2 l3
 have HF : Hid (textE (eTwo op a b) = s4) := Lib.hid (by rw [text_two ho, hl4, if_pos rfl, H4.out])
 clear hol
 have HO := Lib.hid ho
 have b1 : (op == [110, 117, 109, 98, 101, 114]) = false := by have := HO.out; revert this; simp only [binL, List.mem_cons, List.not_mem_nil, or_false]; rintro (rfl | rfl | rfl | rfl | rfl | rfl | rfl | rfl | rfl | rfl | rfl) <;> rfl
 have b2 : (op == [116, 101, 120, 116]) = false := by have := HO.out; revert this; simp only [binL, List.mem_cons, List.not_mem_nil, or_false]; rintro (rfl | rfl | rfl | rfl | rfl | rfl | rfl | rfl | rfl | rfl | rfl) <;> rfl
 have b3 : (op == [110, 97, 109, 101]) = false := by have := HO.out; revert this; simp only [binL, List.mem_cons, List.not_mem_nil, or_false]; rintro (rfl | rfl | rfl | rfl | rfl | rfl | rfl | rfl | rfl | rfl | rfl) <;> rfl
 have b4 : (op == [78, 79, 84]) = false := by have := HO.out; revert this; simp only [binL, List.mem_cons, List.not_mem_nil, or_false]; rintro (rfl | rfl | rfl | rfl | rfl | rfl | rfl | rfl | rfl | rfl | rfl) <;> rfl
 have b5 : (op == [45]) = false := by
  have := HO.out
  have h1 := hl4
  revert h1 this
  simp only [binL, List.mem_cons, List.not_mem_nil, or_false]
  rintro (rfl | rfl | rfl | rfl | rfl | rfl | rfl | rfl | rfl | rfl | rfl) h1 <;> first | rfl | (simp [lvl, eTwo] at h1)
 clear ho
 obtain ⟨g, c, f, rfl, s, -, l⟩ := h
 have R : Hid (Rd ExK 45 w (slv g 2 c) [a, b]) := Lib.hid ⟨g, c, f, rfl, s, exs_ls l⟩
 have HC : Hid (ExC w (fun _ => True) (exCells op 0 [] [] (slv g 2 c)) (.mk op 0 [] [] [a, b])) := Lib.hid ⟨g, c, f, rfl, s, fun _ _ => trivial, l⟩
 have HG := Lib.hid hg
 clear s l hg
 rw [show (exCells op 0 [] [] (slv g ([a, b] : List Ex).length c)).toArray = #[str op, .int .i64 (0 : Nat), str [], str [], slv g 2 c] from rfl]
 have HB : Hid ((w.alloc (.cells #[str op, .int .i64 (0 : Nat), str [], str [], slv g 2 c] 45)).heap[w.heap.size]? = some (.cells #[str op, .int .i64 (0 : Nat), str [], str [], slv g 2 c] 45 (0, 0))) := Lib.hid (blk_new _ _)
 have HE : Hid (Ext w (w.alloc (.cells #[str op, .int .i64 (0 : Nat), str [], str [], slv g 2 c] 45))) := Lib.hid ((Ext.refl w).alloc _)
 have hbs := bs_toList
 go_enter Tryz.func13, Tryz.ntmps13
 go_wp2_with fail
 refine (level_ok (.mk op 0 [] [] [a, b]) _ _ (HC.out.ext HE.out)).mono ?_
 rintro r w1 ⟨rfl, hE1⟩
 have HE1 := Lib.hid (HE.out.trans hE1)
 have HB1 := Lib.hid (Ext.block hE1 HB.out)
 clear hE1
 obtain ⟨a0, a1, a2, a3, a4⟩ := blk5 HB1.out
 rw [show lvl (.mk op 0 [] [] [a, b]) = 4 from hl4]
 have HL4 := Lib.hid hl4
 clear hl4
 obtain ⟨gp, cp, bp, csp, hvp, hgp, hlp, hcp, hccp⟩ := (R.out.ext HE1.out).at (i := 0) (x := a) rfl
 obtain ⟨rfl, rfl⟩ := slv_inj hvp
 obtain ⟨p0, p1, p2, p3, p4, rfl⟩ := ex5 hcp
 have dp0 : w1.cell? ⟨bp, 0, none⟩ = some p0 := hccp 0 (by decide) _ rfl
 have dp1 : w1.cell? ⟨bp, 1, none⟩ = some p1 := hccp 1 (by decide) _ rfl
 have dp2 : w1.cell? ⟨bp, 2, none⟩ = some p2 := hccp 2 (by decide) _ rfl
 have dp3 : w1.cell? ⟨bp, 3, none⟩ = some p3 := hccp 3 (by decide) _ rfl
 have dp4 : w1.cell? ⟨bp, 4, none⟩ = some p4 := hccp 4 (by decide) _ rfl
 have zp : ∀ u : World, (Instr.indexAt 25 (slv g 2 c) (.int .i64 0)).run Tryz.prog u = .ok (.pointer (some ⟨bp, 0, none⟩)) u := fun u => run_index_slv ei_ex (n := 2) (cap := c) (j := 0) hgp (by decide) u
 have HCP := Lib.hid hcp
 clear hvp hgp hlp hcp hccp
 obtain ⟨gq, cq, bq, csq, hvq, hgq, hlq, hcq, hccq⟩ := (R.out.ext HE1.out).at (i := 1) (x := b) rfl
 obtain ⟨rfl, rfl⟩ := slv_inj hvq
 obtain ⟨q0, q1, q2, q3, q4, rfl⟩ := ex5 hcq
 have dq0 : w1.cell? ⟨bq, 5, none⟩ = some q0 := hccq 0 (by decide) _ rfl
 have dq1 : w1.cell? ⟨bq, 6, none⟩ = some q1 := hccq 1 (by decide) _ rfl
 have dq2 : w1.cell? ⟨bq, 7, none⟩ = some q2 := hccq 2 (by decide) _ rfl
 have dq3 : w1.cell? ⟨bq, 8, none⟩ = some q3 := hccq 3 (by decide) _ rfl
 have dq4 : w1.cell? ⟨bq, 9, none⟩ = some q4 := hccq 4 (by decide) _ rfl
 have zq : ∀ u : World, (Instr.indexAt 25 (slv g 2 c) (.int .i64 1)).run Tryz.prog u = .ok (.pointer (some ⟨bq, 5, none⟩)) u := fun u => run_index_slv ei_ex (n := 2) (cap := c) (j := 1) hgq (by decide) u
 have HCQ := Lib.hid hcq
 clear hvq hgq hlq hcq hccq
 go_wp2_with fail
 refine region_calm [.p 0, .l 1, .p 2, .l 3, .p 4, .p 5, .p 8, .l 9, .p 12, .l 13, .p 14, .l 15, .p 16, .p 17, .h 6 true, .p 7, .p 10, .p 11, .h 18 true, .p 19, .p 20] f_mixed (by kernel_rfl) (by kernel_rfl) ?_
 repeat ((first | refine plan_p rfl (fun K hK => ?_) | refine plan_l rfl (fun K hK => ?_)); go_simp; refine hK _ ?_; clear hK K)
 refine plan_ct rfl rfl (fun K _ hK => ?_)
 go_wp2_with fail
 refine (part_ok a hT (by omega) 5 _ _ (HG.out.ext (HE1.out.trans (Ext.refl _).drew)) (ExC.ext HCP.out (Ext.refl _).drew)).mono ?_
 rintro r w2 ⟨rfl, hE2⟩
 have HX2 := Lib.hid hE2
 have HE2 := Lib.hid (HE1.out.trans ((Ext.refl _).drew.trans hE2))
 have HQ2 := Lib.hid (ExC.ext HCQ.out ((Ext.refl _).drew.trans hE2))
 clear hE2 dp0 dp1 dp2 dp3 dp4 zp dq0 dq1 dq2 dq3 dq4 zq a0 a1 a2 a3 a4
 go_wp2_with fail
 refine hK _ _ (HX2.out) ?_; clear hK K
 repeat ((first | refine plan_p rfl (fun K hK => ?_) | refine plan_l rfl (fun K hK => ?_)); go_simp; refine hK _ ?_; clear hK K)
 refine plan_ct rfl rfl (fun K _ hK => ?_)
 go_wp2_with fail
 refine (part_ok b hU (by omega) 5 _ _ (HG.out.ext HE2.out) HQ2.out).mono ?_
 rintro r w3 ⟨rfl, hE3⟩
 have HX3 := Lib.hid hE3
 have HE3 := Lib.hid (HE2.out.trans hE3)
 clear hE3
 go_wp2_with fail
 refine hK _ _ (HX3.out) ?_; clear hK K
 repeat ((first | refine plan_p rfl (fun K hK => ?_) | refine plan_l rfl (fun K hK => ?_)); go_simp; refine hK _ ?_; clear hK K)
 refine plan_done ?_
 go_wp2
 go_ret
 rw [HF.out]
 exact ⟨rfl, HE3.out⟩
theorem Text_two (op : Str) (a b : Ex) (ho : op ∈ binL) (hl4 : lvl (eTwo op a b) ≠ 4) (hT : TX a) (hU : TX b) (ha : (textE a).length + (textE b).length ≤ 1000000000) : TX (eTwo op a b) := by
 intro cs w hg h
 have hol := bin_len ho
 obtain ⟨k, hk⟩ : ∃ k, k = lvl (eTwo op a b) := ⟨_, rfl⟩
 rw [← hk] at hl4
 have hbl := brk_len (e := a) (k := k) (s := textE a)
 have hbm := brk_len (e := b) (k := (k + 1)) (s := textE b)
 obtain ⟨s1, h1⟩ : ∃ s : Str, s = brk a k (textE a) ++ [32] := ⟨_, rfl⟩
 obtain ⟨s2, h2⟩ : ∃ s : Str, s = s1 ++ op := ⟨_, rfl⟩
 obtain ⟨s3, h3⟩ : ∃ s : Str, s = s2 ++ [32] := ⟨_, rfl⟩
 obtain ⟨s4, h4⟩ : ∃ s : Str, s = s3 ++ brk b (k + 1) (textE b) := ⟨_, rfl⟩
 have l1 : s1.length ≤ (textE a).length + 3 := by rw [h1]; simp; omega
 have l2 : s2.length ≤ (textE a).length + 6 := by rw [h2]; simp; omega
 have l3 : s3.length ≤ (textE a).length + 7 := by rw [h3]; simp; omega
 have hc1 : ∀ u : World, (Op.stringOp .add (bs (brk a k (textE a))) ⟨#[32]⟩).run Tryz.prog u = .ok (str s1) u := fun u => by rw [h1]; exact cat_ok _ [32] u (by simp; omega)
 have hc2 : ∀ u : World, (Op.stringOp .add (bs s1) (bs op)).run Tryz.prog u = .ok (str s2) u := fun u => by rw [h2]; exact cat_ok _ _ u (by omega)
 have hc3 : ∀ u : World, (Op.stringOp .add (bs s2) ⟨#[32]⟩).run Tryz.prog u = .ok (str s3) u := fun u => by rw [h3]; exact cat_ok _ [32] u (by simp; omega)
 have hc4 : ∀ u : World, (Op.stringOp .add (bs s3) (bs (brk b (k + 1) (textE b)))).run Tryz.prog u = .ok (str s4) u := fun u => by rw [h4]; exact cat_ok _ _ u (by omega)
 have H4 : Hid (s4 = brk a k (textE a) ++ [32] ++ op ++ [32] ++ brk b (k + 1) (textE b)) := Lib.hid (by rw [h4, h3, h2, h1])
 clear hbl hbm h1 h2 h3 h4 l1 l2 l3
 have hk8 : k ≤ 8 := by rw [hk, lvl_two ho]; unfold opLv; (repeat' split) <;> omega
 have hb4 : (((k : Nat) : Int) == 4) = false := by simp; omega
 have hw1 : IntKind.i64.wrap ((k : Int) + 1) = ((k + 1 : Nat) : Int) := by rw [IntKind.wrap_i64]; omega
 have HF : Hid (textE (eTwo op a b) = s4) := Lib.hid (by rw [text_two ho, ← hk, if_neg hl4, H4.out])
 clear hol hl4 hk8
 have HO := Lib.hid ho
 have HK := Lib.hid hk
 clear hk ho
 have b1 : (op == [110, 117, 109, 98, 101, 114]) = false := by have := HO.out; revert this; simp only [binL, List.mem_cons, List.not_mem_nil, or_false]; rintro (rfl | rfl | rfl | rfl | rfl | rfl | rfl | rfl | rfl | rfl | rfl) <;> rfl
 have b2 : (op == [116, 101, 120, 116]) = false := by have := HO.out; revert this; simp only [binL, List.mem_cons, List.not_mem_nil, or_false]; rintro (rfl | rfl | rfl | rfl | rfl | rfl | rfl | rfl | rfl | rfl | rfl) <;> rfl
 have b3 : (op == [110, 97, 109, 101]) = false := by have := HO.out; revert this; simp only [binL, List.mem_cons, List.not_mem_nil, or_false]; rintro (rfl | rfl | rfl | rfl | rfl | rfl | rfl | rfl | rfl | rfl | rfl) <;> rfl
 have b4 : (op == [78, 79, 84]) = false := by have := HO.out; revert this; simp only [binL, List.mem_cons, List.not_mem_nil, or_false]; rintro (rfl | rfl | rfl | rfl | rfl | rfl | rfl | rfl | rfl | rfl | rfl) <;> rfl
 by_cases h5 : op = [45]
 · have HOM : Hid (op = [45]) := Lib.hid h5
   have b5 : (op == [45]) = true := by simpa using h5
   clear h5
   obtain ⟨g, c, f, rfl, s, -, l⟩ := h
   have R : Hid (Rd ExK 45 w (slv g 2 c) [a, b]) := Lib.hid ⟨g, c, f, rfl, s, exs_ls l⟩
   have HC : Hid (ExC w (fun _ => True) (exCells op 0 [] [] (slv g 2 c)) (.mk op 0 [] [] [a, b])) := Lib.hid ⟨g, c, f, rfl, s, fun _ _ => trivial, l⟩
   have HG := Lib.hid hg
   clear s l hg
   rw [show (exCells op 0 [] [] (slv g ([a, b] : List Ex).length c)).toArray = #[str op, .int .i64 (0 : Nat), str [], str [], slv g 2 c] from rfl]
   have HB : Hid ((w.alloc (.cells #[str op, .int .i64 (0 : Nat), str [], str [], slv g 2 c] 45)).heap[w.heap.size]? = some (.cells #[str op, .int .i64 (0 : Nat), str [], str [], slv g 2 c] 45 (0, 0))) := Lib.hid (blk_new _ _)
   have HE : Hid (Ext w (w.alloc (.cells #[str op, .int .i64 (0 : Nat), str [], str [], slv g 2 c] 45))) := Lib.hid ((Ext.refl w).alloc _)
   have hbs := bs_toList
   go_enter Tryz.func13, Tryz.ntmps13
   go_wp2_with fail
   refine (level_ok (.mk op 0 [] [] [a, b]) _ _ (HC.out.ext HE.out)).mono ?_
   rintro r w1 ⟨rfl, hE1⟩
   have HE1 := Lib.hid (HE.out.trans hE1)
   have HB1 := Lib.hid (Ext.block hE1 HB.out)
   clear hE1
   obtain ⟨a0, a1, a2, a3, a4⟩ := blk5 HB1.out
   rw [show lvl (.mk op 0 [] [] [a, b]) = k from HK.out.symm]
   obtain ⟨gp, cp, bp, csp, hvp, hgp, hlp, hcp, hccp⟩ := (R.out.ext HE1.out).at (i := 0) (x := a) rfl
   obtain ⟨rfl, rfl⟩ := slv_inj hvp
   obtain ⟨p0, p1, p2, p3, p4, rfl⟩ := ex5 hcp
   have dp0 : w1.cell? ⟨bp, 0, none⟩ = some p0 := hccp 0 (by decide) _ rfl
   have dp1 : w1.cell? ⟨bp, 1, none⟩ = some p1 := hccp 1 (by decide) _ rfl
   have dp2 : w1.cell? ⟨bp, 2, none⟩ = some p2 := hccp 2 (by decide) _ rfl
   have dp3 : w1.cell? ⟨bp, 3, none⟩ = some p3 := hccp 3 (by decide) _ rfl
   have dp4 : w1.cell? ⟨bp, 4, none⟩ = some p4 := hccp 4 (by decide) _ rfl
   have zp : ∀ u : World, (Instr.indexAt 25 (slv g 2 c) (.int .i64 0)).run Tryz.prog u = .ok (.pointer (some ⟨bp, 0, none⟩)) u := fun u => run_index_slv ei_ex (n := 2) (cap := c) (j := 0) hgp (by decide) u
   have HCP := Lib.hid hcp
   clear hvp hgp hlp hcp hccp
   obtain ⟨gq, cq, bq, csq, hvq, hgq, hlq, hcq, hccq⟩ := (R.out.ext HE1.out).at (i := 1) (x := b) rfl
   obtain ⟨rfl, rfl⟩ := slv_inj hvq
   obtain ⟨q0, q1, q2, q3, q4, rfl⟩ := ex5 hcq
   have dq0 : w1.cell? ⟨bq, 5, none⟩ = some q0 := hccq 0 (by decide) _ rfl
   have dq1 : w1.cell? ⟨bq, 6, none⟩ = some q1 := hccq 1 (by decide) _ rfl
   have dq2 : w1.cell? ⟨bq, 7, none⟩ = some q2 := hccq 2 (by decide) _ rfl
   have dq3 : w1.cell? ⟨bq, 8, none⟩ = some q3 := hccq 3 (by decide) _ rfl
   have dq4 : w1.cell? ⟨bq, 9, none⟩ = some q4 := hccq 4 (by decide) _ rfl
   have zq : ∀ u : World, (Instr.indexAt 25 (slv g 2 c) (.int .i64 1)).run Tryz.prog u = .ok (.pointer (some ⟨bq, 5, none⟩)) u := fun u => run_index_slv ei_ex (n := 2) (cap := c) (j := 1) hgq (by decide) u
   have HCQ := Lib.hid hcq
   clear hvq hgq hlq hcq hccq
   go_wp2_with fail
   refine region_calm [.p 0, .l 1, .p 2, .l 3, .p 4, .p 7, .l 8, .p 11, .l 12, .p 13, .l 14, .p 15, .p 16, .h 5 true, .p 6, .p 9, .p 10, .h 17 true, .p 18, .p 19] f_mixed (by kernel_rfl) (by kernel_rfl) ?_
   repeat ((first | refine plan_p rfl (fun K hK => ?_) | refine plan_l rfl (fun K hK => ?_)); go_simp; refine hK _ ?_; clear hK K)
   refine plan_ct rfl rfl (fun K _ hK => ?_)
   go_wp2_with fail
   refine (part_ok a hT (by omega) k _ _ (HG.out.ext (HE1.out.trans (Ext.refl _).drew)) (ExC.ext HCP.out (Ext.refl _).drew)).mono ?_
   rintro r w2 ⟨rfl, hE2⟩
   have HX2 := Lib.hid hE2
   have HE2 := Lib.hid (HE1.out.trans ((Ext.refl _).drew.trans hE2))
   have HQ2 := Lib.hid (ExC.ext HCQ.out ((Ext.refl _).drew.trans hE2))
   clear hE2 dp0 dp1 dp2 dp3 dp4 zp dq0 dq1 dq2 dq3 dq4 zq a0 a1 a2 a3 a4
   go_wp2_with fail
   refine hK _ _ (HX2.out) ?_; clear hK K
   repeat ((first | refine plan_p rfl (fun K hK => ?_) | refine plan_l rfl (fun K hK => ?_)); go_simp; refine hK _ ?_; clear hK K)
   refine plan_ct rfl rfl (fun K _ hK => ?_)
   go_wp2_with fail
   refine (part_ok b hU (by omega) (k + 1) _ _ (HG.out.ext HE2.out) HQ2.out).mono ?_
   rintro r w3 ⟨rfl, hE3⟩
   have HX3 := Lib.hid hE3
   have HE3 := Lib.hid (HE2.out.trans hE3)
   clear hE3
   go_wp2_with fail
   refine hK _ _ (HX3.out) ?_; clear hK K
   repeat ((first | refine plan_p rfl (fun K hK => ?_) | refine plan_l rfl (fun K hK => ?_)); go_simp; refine hK _ ?_; clear hK K)
   refine plan_done ?_
   go_wp2
   go_ret
   rw [HF.out]
   exact ⟨rfl, HE3.out⟩
 · have b5 : (op == [45]) = false := by simpa using h5
   clear h5
   obtain ⟨g, c, f, rfl, s, -, l⟩ := h
   have R : Hid (Rd ExK 45 w (slv g 2 c) [a, b]) := Lib.hid ⟨g, c, f, rfl, s, exs_ls l⟩
   have HC : Hid (ExC w (fun _ => True) (exCells op 0 [] [] (slv g 2 c)) (.mk op 0 [] [] [a, b])) := Lib.hid ⟨g, c, f, rfl, s, fun _ _ => trivial, l⟩
   have HG := Lib.hid hg
   clear s l hg
   rw [show (exCells op 0 [] [] (slv g ([a, b] : List Ex).length c)).toArray = #[str op, .int .i64 (0 : Nat), str [], str [], slv g 2 c] from rfl]
   have HB : Hid ((w.alloc (.cells #[str op, .int .i64 (0 : Nat), str [], str [], slv g 2 c] 45)).heap[w.heap.size]? = some (.cells #[str op, .int .i64 (0 : Nat), str [], str [], slv g 2 c] 45 (0, 0))) := Lib.hid (blk_new _ _)
   have HE : Hid (Ext w (w.alloc (.cells #[str op, .int .i64 (0 : Nat), str [], str [], slv g 2 c] 45))) := Lib.hid ((Ext.refl w).alloc _)
   have hbs := bs_toList
   go_enter Tryz.func13, Tryz.ntmps13
   go_wp2_with fail
   refine (level_ok (.mk op 0 [] [] [a, b]) _ _ (HC.out.ext HE.out)).mono ?_
   rintro r w1 ⟨rfl, hE1⟩
   have HE1 := Lib.hid (HE.out.trans hE1)
   have HB1 := Lib.hid (Ext.block hE1 HB.out)
   clear hE1
   obtain ⟨a0, a1, a2, a3, a4⟩ := blk5 HB1.out
   rw [show lvl (.mk op 0 [] [] [a, b]) = k from HK.out.symm]
   obtain ⟨gp, cp, bp, csp, hvp, hgp, hlp, hcp, hccp⟩ := (R.out.ext HE1.out).at (i := 0) (x := a) rfl
   obtain ⟨rfl, rfl⟩ := slv_inj hvp
   obtain ⟨p0, p1, p2, p3, p4, rfl⟩ := ex5 hcp
   have dp0 : w1.cell? ⟨bp, 0, none⟩ = some p0 := hccp 0 (by decide) _ rfl
   have dp1 : w1.cell? ⟨bp, 1, none⟩ = some p1 := hccp 1 (by decide) _ rfl
   have dp2 : w1.cell? ⟨bp, 2, none⟩ = some p2 := hccp 2 (by decide) _ rfl
   have dp3 : w1.cell? ⟨bp, 3, none⟩ = some p3 := hccp 3 (by decide) _ rfl
   have dp4 : w1.cell? ⟨bp, 4, none⟩ = some p4 := hccp 4 (by decide) _ rfl
   have zp : ∀ u : World, (Instr.indexAt 25 (slv g 2 c) (.int .i64 0)).run Tryz.prog u = .ok (.pointer (some ⟨bp, 0, none⟩)) u := fun u => run_index_slv ei_ex (n := 2) (cap := c) (j := 0) hgp (by decide) u
   have HCP := Lib.hid hcp
   clear hvp hgp hlp hcp hccp
   obtain ⟨gq, cq, bq, csq, hvq, hgq, hlq, hcq, hccq⟩ := (R.out.ext HE1.out).at (i := 1) (x := b) rfl
   obtain ⟨rfl, rfl⟩ := slv_inj hvq
   obtain ⟨q0, q1, q2, q3, q4, rfl⟩ := ex5 hcq
   have dq0 : w1.cell? ⟨bq, 5, none⟩ = some q0 := hccq 0 (by decide) _ rfl
   have dq1 : w1.cell? ⟨bq, 6, none⟩ = some q1 := hccq 1 (by decide) _ rfl
   have dq2 : w1.cell? ⟨bq, 7, none⟩ = some q2 := hccq 2 (by decide) _ rfl
   have dq3 : w1.cell? ⟨bq, 8, none⟩ = some q3 := hccq 3 (by decide) _ rfl
   have dq4 : w1.cell? ⟨bq, 9, none⟩ = some q4 := hccq 4 (by decide) _ rfl
   have zq : ∀ u : World, (Instr.indexAt 25 (slv g 2 c) (.int .i64 1)).run Tryz.prog u = .ok (.pointer (some ⟨bq, 5, none⟩)) u := fun u => run_index_slv ei_ex (n := 2) (cap := c) (j := 1) hgq (by decide) u
   have HCQ := Lib.hid hcq
   clear hvq hgq hlq hcq hccq
   go_wp2_with fail
   refine region_calm [.p 0, .l 1, .p 2, .l 3, .p 4, .p 7, .l 8, .p 11, .l 12, .p 13, .l 14, .p 15, .p 16, .h 5 true, .p 6, .p 9, .p 10, .h 17 true, .p 18, .p 19] f_mixed (by kernel_rfl) (by kernel_rfl) ?_
   repeat ((first | refine plan_p rfl (fun K hK => ?_) | refine plan_l rfl (fun K hK => ?_)); go_simp; refine hK _ ?_; clear hK K)
   refine plan_ct rfl rfl (fun K _ hK => ?_)
   go_wp2_with fail
   refine (part_ok a hT (by omega) k _ _ (HG.out.ext (HE1.out.trans (Ext.refl _).drew)) (ExC.ext HCP.out (Ext.refl _).drew)).mono ?_
   rintro r w2 ⟨rfl, hE2⟩
   have HX2 := Lib.hid hE2
   have HE2 := Lib.hid (HE1.out.trans ((Ext.refl _).drew.trans hE2))
   have HQ2 := Lib.hid (ExC.ext HCQ.out ((Ext.refl _).drew.trans hE2))
   clear hE2 dp0 dp1 dp2 dp3 dp4 zp dq0 dq1 dq2 dq3 dq4 zq a0 a1 a2 a3 a4
   go_wp2_with fail
   refine hK _ _ (HX2.out) ?_; clear hK K
   repeat ((first | refine plan_p rfl (fun K hK => ?_) | refine plan_l rfl (fun K hK => ?_)); go_simp; refine hK _ ?_; clear hK K)
   refine plan_ct rfl rfl (fun K _ hK => ?_)
   go_wp2_with fail
   refine (part_ok b hU (by omega) (k + 1) _ _ (HG.out.ext HE2.out) HQ2.out).mono ?_
   rintro r w3 ⟨rfl, hE3⟩
   have HX3 := Lib.hid hE3
   have HE3 := Lib.hid (HE2.out.trans hE3)
   clear hE3
   go_wp2_with fail
   refine hK _ _ (HX3.out) ?_; clear hK K
   repeat ((first | refine plan_p rfl (fun K hK => ?_) | refine plan_l rfl (fun K hK => ?_)); go_simp; refine hK _ ?_; clear hK K)
   refine plan_done ?_
   go_wp2
   go_ret
   rw [HF.out]
   exact ⟨rfl, HE3.out⟩
theorem Text_ok {e : Ex} (h : WfE e) (hs : szE e ≤ 100000000) : TX e := by
 induction h with
 | num n h => exact Text_num n h
 | text t => rw [sz_text] at hs; exact Text_text t (by omega)
 | name t o h h' => rw [sz_name] at hs; exact Text_name t o (by omega)
 | no a h ih =>
   rw [sz_one] at hs
   exact Text_no a (ih (by omega)) (by have := textE_len h; omega)
 | neg a h ih =>
   rw [sz_one] at hs
   exact Text_neg a (ih (by omega)) (by have := textE_len h; omega)
 | two op a b ho h h' ih ih' =>
   rw [sz_two] at hs
   have h1 := textE_len h
   have h2 := textE_len h'
   by_cases hl : lvl (eTwo op a b) = 4
   · exact Text_cmp op a b ho hl (ih (by omega)) (ih' (by omega)) (by omega)
   · exact Text_two op a b ho hl (ih (by omega)) (ih' (by omega)) (by omega)
end Go.Proofs.YtkhnpmeohjafiaaGreatDoor
