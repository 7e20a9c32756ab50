/- Lemmas. -/
import Derived.Test.YtkhnpmeohjafiaaGreatDoorMJ
set_option maxHeartbeats 16000000
set_option maxRecDepth 100000
namespace Go.Proofs.YtkhnpmeohjafiaaGreatDoor
open Go.RowKit
structure Kd (α : Type) where
 C : World → (Nat → Prop) → List Value → α → Prop
 size : Nat
 keep : ∀ {w w' : World} {A A' : Nat → Prop}, (∀ b, b < w.heap.size → A b → w'.heap[b]? = w.heap[b]? ∧ A' b) → ∀ c x, C w A c x → C w' A' c x
 len : ∀ {w A c x}, C w A c x → c.length = size
 one : ∀ {w A c x}, C w A c x → ∀ u ∈ c, u.oneCell' = true
section
variable {α : Type} (K : Kd α)
def LsC (w : World) (A : Nat → Prop) : List Value → List α → Prop
 | fl, [] => fl = []
 | fl, x :: xs => ∃ c r, fl = c ++ r ∧ K.C w A c x ∧ LsC w A r xs
theorem LsC.keep {w w' : World} {A A' : Nat → Prop} (hw : ∀ b, b < w.heap.size → A b → w'.heap[b]? = w.heap[b]? ∧ A' b) : ∀ (fl : List Value) (xs : List α), LsC K w A fl xs → LsC K w' A' fl xs
 | fl, [] => id
 | fl, x :: xs => by
   rintro ⟨c, r, h1, h2, h3⟩
   exact ⟨c, r, h1, K.keep hw c x h2, LsC.keep hw r xs h3⟩
theorem LsC.append {w : World} {A : Nat → Prop} : ∀ {c r : List Value} {xs ys : List α}, LsC K w A c xs → LsC K w A r ys → LsC K w A (c ++ r) (xs ++ ys)
 | c, r, [], ys, h1, h2 => by rw [show c = [] from h1]; exact h2
 | c, r, x :: xs, ys, h1, h2 => by
   obtain ⟨a, b, rfl, h3, h4⟩ := h1
   exact ⟨a, b ++ r, by rw [List.append_assoc], h3, LsC.append h4 h2⟩
theorem LsC.one {w : World} {A : Nat → Prop} {c : List Value} {x : α} (h : K.C w A c x) : LsC K w A c [x] := ⟨c, [], by simp, h, rfl⟩
def VLs (T : TypeId) (w : World) (lo : Nat) (v : Value) (xs : List α) : Prop :=
 ∃ g cap fl, v = slv g xs.length cap ∧ Sl w T K.size g xs.length cap fl ∧ (∀ b, g = some b → lo ≤ b) ∧ LsC K w (fun b => lo ≤ b ∧ g ≠ some b) fl xs
theorem VLs.keep {T : TypeId} {w w' : World} {lo lo' : Nat} {v : Value} {xs : List α} (h : VLs K T w lo v xs) (hw : ∀ b, b < w.heap.size → lo ≤ b → w'.heap[b]? = w.heap[b]?) (hlo : lo' ≤ lo) : VLs K T w' lo' v xs := by
 obtain ⟨g, cap, fl, h1, h2, h3, h4⟩ := h
 refine ⟨g, cap, fl, h1, h2.congr fun b hb => hw b (by subst hb; exact h2.block_lt) (h3 b hb), fun b hb => Nat.le_trans hlo (h3 b hb), LsC.keep K (fun b hb ha => ⟨hw b hb ha.1, by omega, ha.2⟩) fl xs h4⟩
variable {K}
theorem VLs.put {w0 w w' : World} {lo : Nat} {c : Cx} {g : Option Nat} {fl cs : List Value} {xs : List α} {x : α} {g' : Nat}
   (hfl : LsC K w (fun b => lo ≤ b ∧ g ≠ some b) fl xs) (hcs : K.C w (fun b => lo ≤ b ∧ g ≠ some b) cs x) (hT : Touch (fun k => g = some k) w w') (hat : g = some g' ∨ g' = w.heap.size) (hg : ∀ b, g = some b → lo ≤ b) (hlo : lo ≤ w.heap.size)
   (h0 : Touch (onlyB c) w0 w) (hl : w0.heap.size ≤ lo) : LsC K w' (fun b => lo ≤ b ∧ some g' ≠ some b) (fl ++ cs) (xs ++ [x]) ∧ lo ≤ g' ∧ Touch (onlyB c) w0 w' := by
 have hk : ∀ b, b < w.heap.size → (lo ≤ b ∧ g ≠ some b) → w'.heap[b]? = w.heap[b]? ∧ lo ≤ b ∧ some g' ≠ some b := by
   intro b hb ha
   refine ⟨hT.block b hb ha.2, ha.1, fun e => ?_⟩
   cases e
   rcases hat with hat | hat
   · exact ha.2 hat
   · omega
 refine ⟨LsC.append K (LsC.keep K hk fl xs hfl) (LsC.one K (K.keep hk cs x hcs)), ?_, h0.trans' hT (fun b hb e => ?_)⟩
 · rcases hat with hat | hat
   · exact hg _ hat
   · omega
 · have := hg b e; omega
end
def StrK : Kd Str where
 C _ _ c s := c = [str s]
 size := 1
 keep _ _ _ := id
 len h := by rw [h]; rfl
 one h u hu := by rw [h] at hu; simp at hu; subst hu; rfl
def ColK : Kd (Str × Nat) where
 C _ _ c s := c = [str s.1, .int .i64 (s.2 : Int)]
 size := 2
 keep _ _ _ := id
 len h := by rw [h]; rfl
 one h u hu := by rw [h] at hu; simp at hu; rcases hu with rfl | rfl <;> rfl
def ExK : Kd Ex where
 C := ExC
 size := 5
 keep := ExC.keep
 len := ExC.len
 one := ExC.one
def SetK : Kd (Str × Ex) where
 C w A c s := ∃ ce, c = str s.1 :: ce ∧ ExC w A ce s.2
 size := 6
 keep hw c x := by rintro ⟨ce, rfl, h⟩; exact ⟨ce, rfl, ExC.keep hw _ _ h⟩
 len := by rintro w A c x ⟨ce, rfl, h⟩; simp [h.len]
 one := by
  rintro w A c x ⟨ce, rfl, h⟩ u hu
  rcases List.mem_cons.1 hu with rfl | hu
  · rfl
  · exact h.one u hu
theorem ei_col : EI Tryz.prog 23 78 2 24 :=
 ⟨Tryz.underlying23, by
  obtain ⟨i, h1, h2, h3, h4⟩ := info_parts (P := Tryz.prog) (e := 78) (z := .agg #[.string (ByteArray.mk #[]), .int .i64 0]) (size := 2) (bytes := 24) (by kernel_rfl)
  exact ⟨i, _, h1, h2, h3, h4, rfl⟩, by omega, by omega⟩
theorem ei_set : EI Tryz.prog 26 80 6 96 :=
 ⟨Tryz.underlying26, by
  obtain ⟨i, h1, h2, h3, h4⟩ := info_parts (P := Tryz.prog) (e := 80) (z := .agg #[.string (ByteArray.mk #[]), .string (ByteArray.mk #[]), .int .i64 0, .string (ByteArray.mk #[]), .string (ByteArray.mk #[]), .slice none 0 0]) (size := 6) (bytes := 96) (by kernel_rfl)
  exact ⟨i, _, h1, h2, h3, h4, rfl⟩, by omega, by omega⟩
def VCol (_ : World) (_ : Nat) (v : Value) (x : Str × Nat) : Prop := v = .agg #[str x.1, .int .i64 (x.2 : Int)]
def VSet (w : World) (lo : Nat) (v : Value) (x : Str × Ex) : Prop := ∃ ce, v = .agg (str x.1 :: ce).toArray ∧ ExC w (fun b => lo ≤ b) ce x.2
structure LiInv {α : Type} (K : Kd α) (T : TypeId) (w : World) (c : Cx) (i d : Nat) (one : List Tok → Res α) (gk : Nat) (v5 : Value) (wr : World) (j f : Nat) (xs : List α) (g : Option Nat) (cap : Nat) (fl : List Value) : Prop where
 k : gk = c.all.length - j
 v : v5 = slv g xs.length cap
 src : Src wr c j d
 touch : Touch (onlyB c) w wr
 sl : Sl wr T K.size g xs.length cap fl
 own : ∀ b, g = some b → w.heap.size ≤ b
 ls : LsC K wr (fun b => w.heap.size ≤ b ∧ g ≠ some b) fl xs
 few : c.all.length - j ≤ f
 len : xs.length + (c.all.length - j) ≤ c.all.length + 1
 so : sep one (c.ts i) = sepL one f xs (c.ts j)
theorem list_str (c : Cx) (i d : Nat) (w : World) (h : Src w c i d) (F : FuncId) (hent : Ent F) (one : List Tok → Res Str) (hsuf : ∀ ts, Suf ts (one ts))
   (hone : ∀ w i, Src w c i d → Calls Tryz.prog F #[.pointer (some ⟨c.sb, 0, none⟩)] w (RdPost VStr w c d (one (c.ts i)))) :
   Calls Tryz.prog 90 #[.pointer (some ⟨c.sb, 0, none⟩), .func (.func F) #[.pointer (some ⟨c.sb, 0, none⟩)] #[]] w (RdPost (VLs StrK 9) w c d (sep one (c.ts i))) := by
 have H := Lib.hid h
 have HO := Lib.hid hone
 have HSUF := Lib.hid hsuf
 have lb := blk_lt h.blk
 clear h hone hsuf
 go_enter Tryz.func90, Tryz.ntmps90
 go_wp2_with fail
 refine (HO.out _ i H.out).mono ?_
 rintro e w1 ⟨hT, hp⟩
 have HT1 := Lib.hid hT
 cases hr : one (c.ts i) with
 | error kp =>
   obtain ⟨k, p⟩ := kp
   rw [hr] at hp
   obtain rfl := hp
   exact bodyPost_panic rfl (RdPost.bad (by rw [sep, hr]; rfl) HT1.out)
 | ok xt =>
   obtain ⟨x, ts⟩ := xt
   rw [hr] at hp
   obtain ⟨v, j, rfl, rfl, rfl, hS⟩ := hp; have HC : Hid (StrK.C w1 (fun b => w.heap.size ≤ b) [str x] x) := rfl
   have HS := Lib.hid hS
   have HSO : Hid (sep one (c.ts i) = sepL one (c.ts j).length [x] (c.ts j)) := by show _ = _; rw [sep, hr]; rfl
   have hjn := hS.le
   clear hT hS hr
   go_wp2
   have HI0 : Hid (∃ (f : Nat) (g : Option Nat) (cap : Nat) (fl : List Value), LiInv StrK 9 w c i d one (c.all.length - j) (.slice (some ⟨w1.heap.size, 0, none⟩) 1 1) (w1.alloc (.cells [str x].toArray 9)) j f [x] g cap fl) := by
    refine Lib.hid ⟨(c.ts j).length, some w1.heap.size, 1, [str x], rfl, rfl, HS.out.ext ((Ext.refl _).alloc _), HT1.out.alloc _, ⟨by rw [StrK.len HC.out]; rfl, _, blk_new _ _, Nat.le_refl _, by simp [maxLen], by simp [StrK.len HC.out], ?_⟩, fun b hb => by cases hb; exact HT1.out.size, ?_, by rw [ts_len]; omega, by simp; omega, HSO.out⟩
    · rw [List.take_of_length_le]
      simp [StrK.len HC.out]
    · refine LsC.one StrK (StrK.keep (fun b hb ha => ⟨Below.block ((Ext.refl w1).alloc _) b hb, ha, fun e => ?_⟩) _ _ HC.out)
      cases e; omega
   obtain ⟨f0, g0, cap0, fl0, hI0⟩ := HI0.out
   clear HI0 HSO HS HT1
   go_loopg [5] (c.all.length - j) (fun gk v5 wr => ∃ (j f : Nat) (xs : List Str) (g : Option Nat) (cap : Nat) (fl : List Value), LiInv StrK 9 w c i d one gk v5 wr j f xs g cap fl)
   case atStart => exact ⟨j, f0, [x], g0, cap0, fl0, hI0⟩
   case round =>
    clear hI0 HC
    obtain ⟨j, f, xs, g, cap, fl, hI⟩ := hrel
    obtain rfl := hI.v
    have HI := Lib.hid hI
    clear hI
    go_wp2_with fail
    refine (may_ok c j d _ (HI.out.src.ext ((Ext.refl wr).alloc _)) (some wr.heap.size) [[44]] (txts_new wr [[44]]) (by simp)).mono ?_
    rintro e w2 ⟨rfl, hS2, hT2⟩
    rw [mayN_one] at hS2 ⊢
    have hT2' : Touch (onlyB c) wr w2 := (((Ext.refl wr).alloc _).touch _).trans hT2
    have HT2 := Lib.hid (HI.out.touch.trans hT2')
    have HSL2 := Lib.hid (HI.out.sl.touch hT2' (fun b hb e => by have h1 : b = c.sb := e; have := HI.out.own b hb; omega))
    have HLS2 := Lib.hid (LsC.keep StrK (fun b hb ha => ⟨hT2'.block b hb (fun e => by have h1 : b = c.sb := e; have := ha.1; omega), ha⟩) _ _ HI.out.ls)
    clear hT2 hT2'
    cases h1 : isT [44] (c.ts j) with
    | false =>
      rw [h1, if_neg (by simp)] at hS2
      have HS2 := Lib.hid hS2
      have HRR : Hid (sep one (c.ts i) = .ok (xs, c.ts j)) := by show _ = _; rw [HI.out.so]; cases f <;> simp [sepL, h1]
      clear hS2 h1
      go_wp2
      go_ret
      exact RdPost.ok (v := slv g xs.length cap) HRR.out HT2.out ⟨g, cap, fl, rfl, HSL2.out, HI.out.own, HLS2.out⟩ HS2.out
    | true =>
      rw [h1, if_pos rfl] at hS2
      have HS2 := Lib.hid hS2
      have hj := isT_lt h1
      have HSO : Hid (∃ f', f = f' + 1 ∧ c.all.length - (j + 1) ≤ f' ∧ sep one (c.ts i) = bnd (one (c.ts (j + 1))) fun x r => sepL one f' (xs ++ [x]) r) := by
        have h2 := HI.out.few
        obtain ⟨f', rfl⟩ : ∃ f', f = f' + 1 := ⟨f - 1, by omega⟩
        refine Lib.hid ⟨f', rfl, by omega, ?_⟩
        rw [HI.out.so, sepL, if_pos h1, Src.tail]
      clear hS2 h1
      go_wp2_with fail
      refine (HO.out _ (j + 1) HS2.out).mono ?_
      rintro e w3 ⟨hT3, hp⟩
      have HT3 := Lib.hid (HT2.out.trans hT3)
      have HSL3 := Lib.hid (HSL2.out.touch hT3 (fun b hb e => by have h1 : b = c.sb := e; have := HI.out.own b hb; omega))
      have HLS3 := Lib.hid (LsC.keep StrK (fun b hb ha => ⟨hT3.block b hb (fun e => by have h1 : b = c.sb := e; have := ha.1; omega), ha⟩) _ _ HLS2.out)
      cases hr : one (c.ts (j + 1)) with
      | error kp =>
        obtain ⟨k, p⟩ := kp
        rw [hr] at hp
        obtain rfl := hp
        refine ⟨rfl, RdPost.bad ?_ HT3.out⟩
        obtain ⟨f', -, -, h1⟩ := HSO.out
        rw [h1, hr]; rfl
      | ok xt =>
        obtain ⟨x, ts⟩ := xt
        rw [hr] at hp
        obtain ⟨v, j', rfl, rfl, rfl, hS⟩ := hp; have HC3 : Hid (StrK.C w3 (fun b => w.heap.size ≤ b ∧ g ≠ some b) [str x] x) := rfl
        have HS3 := Lib.hid hS
        have HR3 := Lib.hid hr
        have hlen := HI.out.len
        have hsm := HI.out.src.small
        have hgl : ∀ b, g = some b → b < w3.heap.size := fun b hb => by
         have h1 := HSL2.out
         rw [hb] at h1
         have h2 := h1.block_lt
         have h3 := hT3.size
         omega
        have HGL := Lib.hid hgl
        have HJ : Hid (c.all.length - j' ≤ c.all.length - (j + 1)) := by
         have h1 := (HSUF.out _ _ _ hr).length_le
         rw [ts_len, ts_len] at h1
         exact Lib.hid h1
        clear hT3 hS hr hgl
        go_wp2_with (at_builtin; refine (fun (h : True → _) => h trivial) ?_)
        intro _
        refine app_lit ei_str rfl (.tmp 12) (.tmp 15) rfl (g := g) (n := xs.length) (cap := cap) (b := w3.heap.size) (by rfl) (HSL3.out.ext ((Ext.refl w3).alloc _)) (by rfl) rfl (blk_new_at _ rfl) (StrK.one HC3.out) (by omega) (by omega) ?_
        intro g6 cap6 w6 hS6 hT6 hat6
        obtain ⟨p1, p2, p3⟩ := VLs.put (w0 := w) (lo := w.heap.size) (c := c) (LsC.keep StrK (fun b hb ha => ⟨Below.block ((Ext.refl w3).alloc (.cells [str x].toArray 9)) b hb, ha⟩) _ _ HLS3.out) (StrK.keep (fun b hb ha => ⟨Below.block ((Ext.refl w3).alloc (.cells [str x].toArray 9)) b hb, ha⟩) _ _ HC3.out) hT6 hat6 HI.out.own (by have := HT3.out.size; simp; omega) (HT3.out.alloc _) (Nat.le_refl _)
        have HN : Hid (Src w6 c j' d) := Lib.hid ((HS3.out.ext ((Ext.refl w3).alloc (.cells [str x].toArray 9))).touch hT6 (fun e => by have := HI.out.own _ e; omega) (fun b hb e => by
         have h1 := H.out.toks
         rw [hb] at h1
         have h2 := h1.block_lt
         have h3 := HI.out.own _ e
         omega))
        have HP1 := Lib.hid p1
        have HP2 := Lib.hid p2
        have HP3 := Lib.hid p3
        have HS6 := Lib.hid hS6
        clear hS6 hT6 hat6 p1 p2 p3
        go_wp2
        go_roundg (c.all.length - j')
        case measure => have h1 := HI.out.k; have h2 := HJ.out; omega
        case rel =>
         obtain ⟨f', hf', hfew, hso⟩ := HSO.out
         refine ⟨j', f', xs ++ [x], some g6, cap6, fl ++ [str x], rfl, by rw [List.length_append]; rfl, HN.out, HP3.out, by rw [List.length_append]; exact HS6.out, fun b hb => by cases hb; exact HP2.out, HP1.out, by have := HJ.out; omega, ?_, ?_⟩
         · rw [List.length_append]; have := HJ.out; simp; omega
         · rw [hso, HR3.out]; rfl
theorem list_col (c : Cx) (i d : Nat) (w : World) (h : Src w c i d) (F : FuncId) (hent : Ent F) (one : List Tok → Res (Str × Nat)) (hsuf : ∀ ts, Suf ts (one ts))
   (hone : ∀ w i, Src w c i d → Calls Tryz.prog F #[.pointer (some ⟨c.sb, 0, none⟩)] w (RdPost VCol w c d (one (c.ts i)))) :
   Calls Tryz.prog 55 #[.pointer (some ⟨c.sb, 0, none⟩), .func (.func F) #[.pointer (some ⟨c.sb, 0, none⟩)] #[]] w (RdPost (VLs ColK 78) w c d (sep one (c.ts i))) := by
 have H := Lib.hid h
 have HO := Lib.hid hone
 have HSUF := Lib.hid hsuf
 have lb := blk_lt h.blk
 clear h hone hsuf
 go_enter Tryz.func55, Tryz.ntmps55
 go_wp2_with fail
 refine (HO.out _ i H.out).mono ?_
 rintro e w1 ⟨hT, hp⟩
 have HT1 := Lib.hid hT
 cases hr : one (c.ts i) with
 | error kp =>
   obtain ⟨k, p⟩ := kp
   rw [hr] at hp
   obtain rfl := hp
   exact bodyPost_panic rfl (RdPost.bad (by rw [sep, hr]; rfl) HT1.out)
 | ok xt =>
   obtain ⟨x, ts⟩ := xt
   rw [hr] at hp
   obtain ⟨x1, x2⟩ := x; obtain ⟨v, j, rfl, rfl, rfl, hS⟩ := hp; have HC : Hid (ColK.C w1 (fun b => w.heap.size ≤ b) [str x1, .int .i64 (x2 : Int)] (x1, x2)) := rfl
   have HS := Lib.hid hS
   have HSO : Hid (sep one (c.ts i) = sepL one (c.ts j).length [(x1, x2)] (c.ts j)) := by show _ = _; rw [sep, hr]; rfl
   have hjn := hS.le
   clear hT hS hr
   go_wp2
   have HI0 : Hid (∃ (f : Nat) (g : Option Nat) (cap : Nat) (fl : List Value), LiInv ColK 78 w c i d one (c.all.length - j) (.slice (some ⟨w1.heap.size, 0, none⟩) 1 1) (w1.alloc (.cells [str x1, .int .i64 (x2 : Int)].toArray 78)) j f [(x1, x2)] g cap fl) := by
    refine Lib.hid ⟨(c.ts j).length, some w1.heap.size, 1, [str x1, .int .i64 (x2 : Int)], rfl, rfl, HS.out.ext ((Ext.refl _).alloc _), HT1.out.alloc _, ⟨by rw [ColK.len HC.out]; rfl, _, blk_new _ _, Nat.le_refl _, by simp [maxLen], by simp [ColK.len HC.out], ?_⟩, fun b hb => by cases hb; exact HT1.out.size, ?_, by rw [ts_len]; omega, by simp; omega, HSO.out⟩
    · rw [List.take_of_length_le]
      simp [ColK.len HC.out]
    · refine LsC.one ColK (ColK.keep (fun b hb ha => ⟨Below.block ((Ext.refl w1).alloc _) b hb, ha, fun e => ?_⟩) _ _ HC.out)
      cases e; omega
   obtain ⟨f0, g0, cap0, fl0, hI0⟩ := HI0.out
   clear HI0 HSO HS HT1
   go_loopg [5] (c.all.length - j) (fun gk v5 wr => ∃ (j f : Nat) (xs : List (Str × Nat)) (g : Option Nat) (cap : Nat) (fl : List Value), LiInv ColK 78 w c i d one gk v5 wr j f xs g cap fl)
   case atStart => exact ⟨j, f0, [(x1, x2)], g0, cap0, fl0, hI0⟩
   case round =>
    clear hI0 HC
    obtain ⟨j, f, xs, g, cap, fl, hI⟩ := hrel
    obtain rfl := hI.v
    have HI := Lib.hid hI
    clear hI
    go_wp2_with fail
    refine (may_ok c j d _ (HI.out.src.ext ((Ext.refl wr).alloc _)) (some wr.heap.size) [[44]] (txts_new wr [[44]]) (by simp)).mono ?_
    rintro e w2 ⟨rfl, hS2, hT2⟩
    rw [mayN_one] at hS2 ⊢
    have hT2' : Touch (onlyB c) wr w2 := (((Ext.refl wr).alloc _).touch _).trans hT2
    have HT2 := Lib.hid (HI.out.touch.trans hT2')
    have HSL2 := Lib.hid (HI.out.sl.touch hT2' (fun b hb e => by have h1 : b = c.sb := e; have := HI.out.own b hb; omega))
    have HLS2 := Lib.hid (LsC.keep ColK (fun b hb ha => ⟨hT2'.block b hb (fun e => by have h1 : b = c.sb := e; have := ha.1; omega), ha⟩) _ _ HI.out.ls)
    clear hT2 hT2'
    cases h1 : isT [44] (c.ts j) with
    | false =>
      rw [h1, if_neg (by simp)] at hS2
      have HS2 := Lib.hid hS2
      have HRR : Hid (sep one (c.ts i) = .ok (xs, c.ts j)) := by show _ = _; rw [HI.out.so]; cases f <;> simp [sepL, h1]
      clear hS2 h1
      go_wp2
      go_ret
      exact RdPost.ok (v := slv g xs.length cap) HRR.out HT2.out ⟨g, cap, fl, rfl, HSL2.out, HI.out.own, HLS2.out⟩ HS2.out
    | true =>
      rw [h1, if_pos rfl] at hS2
      have HS2 := Lib.hid hS2
      have hj := isT_lt h1
      have HSO : Hid (∃ f', f = f' + 1 ∧ c.all.length - (j + 1) ≤ f' ∧ sep one (c.ts i) = bnd (one (c.ts (j + 1))) fun x r => sepL one f' (xs ++ [x]) r) := by
        have h2 := HI.out.few
        obtain ⟨f', rfl⟩ : ∃ f', f = f' + 1 := ⟨f - 1, by omega⟩
        refine Lib.hid ⟨f', rfl, by omega, ?_⟩
        rw [HI.out.so, sepL, if_pos h1, Src.tail]
      clear hS2 h1
      go_wp2_with fail
      refine (HO.out _ (j + 1) HS2.out).mono ?_
      rintro e w3 ⟨hT3, hp⟩
      have HT3 := Lib.hid (HT2.out.trans hT3)
      have HSL3 := Lib.hid (HSL2.out.touch hT3 (fun b hb e => by have h1 : b = c.sb := e; have := HI.out.own b hb; omega))
      have HLS3 := Lib.hid (LsC.keep ColK (fun b hb ha => ⟨hT3.block b hb (fun e => by have h1 : b = c.sb := e; have := ha.1; omega), ha⟩) _ _ HLS2.out)
      cases hr : one (c.ts (j + 1)) with
      | error kp =>
        obtain ⟨k, p⟩ := kp
        rw [hr] at hp
        obtain rfl := hp
        refine ⟨rfl, RdPost.bad ?_ HT3.out⟩
        obtain ⟨f', -, -, h1⟩ := HSO.out
        rw [h1, hr]; rfl
      | ok xt =>
        obtain ⟨x, ts⟩ := xt
        rw [hr] at hp
        obtain ⟨x1, x2⟩ := x; obtain ⟨v, j', rfl, rfl, rfl, hS⟩ := hp; have HC3 : Hid (ColK.C w3 (fun b => w.heap.size ≤ b ∧ g ≠ some b) [str x1, .int .i64 (x2 : Int)] (x1, x2)) := rfl
        have HS3 := Lib.hid hS
        have HR3 := Lib.hid hr
        have hlen := HI.out.len
        have hsm := HI.out.src.small
        have hgl : ∀ b, g = some b → b < w3.heap.size := fun b hb => by
         have h1 := HSL2.out
         rw [hb] at h1
         have h2 := h1.block_lt
         have h3 := hT3.size
         omega
        have HGL := Lib.hid hgl
        have HJ : Hid (c.all.length - j' ≤ c.all.length - (j + 1)) := by
         have h1 := (HSUF.out _ _ _ hr).length_le
         rw [ts_len, ts_len] at h1
         exact Lib.hid h1
        clear hT3 hS hr hgl
        go_wp2_with (at_builtin; refine (fun (h : True → _) => h trivial) ?_)
        intro _
        refine app_lit ei_col rfl (.tmp 12) (.tmp 15) rfl (g := g) (n := xs.length) (cap := cap) (b := w3.heap.size) (by rfl) (HSL3.out.ext ((Ext.refl w3).alloc _)) (by rfl) rfl (blk_new_at _ rfl) (ColK.one HC3.out) (by omega) (by omega) ?_
        intro g6 cap6 w6 hS6 hT6 hat6
        obtain ⟨p1, p2, p3⟩ := VLs.put (w0 := w) (lo := w.heap.size) (c := c) (LsC.keep ColK (fun b hb ha => ⟨Below.block ((Ext.refl w3).alloc (.cells [str x1, .int .i64 (x2 : Int)].toArray 78)) b hb, ha⟩) _ _ HLS3.out) (ColK.keep (fun b hb ha => ⟨Below.block ((Ext.refl w3).alloc (.cells [str x1, .int .i64 (x2 : Int)].toArray 78)) b hb, ha⟩) _ _ HC3.out) hT6 hat6 HI.out.own (by have := HT3.out.size; simp; omega) (HT3.out.alloc _) (Nat.le_refl _)
        have HN : Hid (Src w6 c j' d) := Lib.hid ((HS3.out.ext ((Ext.refl w3).alloc (.cells [str x1, .int .i64 (x2 : Int)].toArray 78))).touch hT6 (fun e => by have := HI.out.own _ e; omega) (fun b hb e => by
         have h1 := H.out.toks
         rw [hb] at h1
         have h2 := h1.block_lt
         have h3 := HI.out.own _ e
         omega))
        have HP1 := Lib.hid p1
        have HP2 := Lib.hid p2
        have HP3 := Lib.hid p3
        have HS6 := Lib.hid hS6
        clear hS6 hT6 hat6 p1 p2 p3
        go_wp2
        go_roundg (c.all.length - j')
        case measure => have h1 := HI.out.k; have h2 := HJ.out; omega
        case rel =>
         obtain ⟨f', hf', hfew, hso⟩ := HSO.out
         refine ⟨j', f', xs ++ [(x1, x2)], some g6, cap6, fl ++ [str x1, .int .i64 (x2 : Int)], rfl, by rw [List.length_append]; rfl, HN.out, HP3.out, by rw [List.length_append]; exact HS6.out, fun b hb => by cases hb; exact HP2.out, HP1.out, by have := HJ.out; omega, ?_, ?_⟩
         · rw [List.length_append]; have := HJ.out; simp; omega
         · rw [hso, HR3.out]; rfl
theorem list_ex (c : Cx) (i d : Nat) (w : World) (h : Src w c i d) (F : FuncId) (hent : Ent F) (one : List Tok → Res Ex) (hsuf : ∀ ts, Suf ts (one ts))
   (hone : ∀ w i, Src w c i d → Calls Tryz.prog F #[.pointer (some ⟨c.sb, 0, none⟩)] w (RdPost VEx w c d (one (c.ts i)))) :
   Calls Tryz.prog 58 #[.pointer (some ⟨c.sb, 0, none⟩), .func (.func F) #[.pointer (some ⟨c.sb, 0, none⟩)] #[]] w (RdPost (VLs ExK 45) w c d (sep one (c.ts i))) := by
 have H := Lib.hid h
 have HO := Lib.hid hone
 have HSUF := Lib.hid hsuf
 have lb := blk_lt h.blk
 clear h hone hsuf
 go_enter Tryz.func58, Tryz.ntmps58
 go_wp2_with fail
 refine (HO.out _ i H.out).mono ?_
 rintro e w1 ⟨hT, hp⟩
 have HT1 := Lib.hid hT
 cases hr : one (c.ts i) with
 | error kp =>
   obtain ⟨k, p⟩ := kp
   rw [hr] at hp
   obtain rfl := hp
   exact bodyPost_panic rfl (RdPost.bad (by rw [sep, hr]; rfl) HT1.out)
 | ok xt =>
   obtain ⟨x, ts⟩ := xt
   rw [hr] at hp
   obtain ⟨v, j, rfl, ⟨cs, rfl, hx⟩, rfl, hS⟩ := hp; obtain ⟨op, n, t, o, args⟩ := x; obtain ⟨gx, capx, flx, rfl, hx2⟩ := hx; have HC : Hid (ExK.C w1 (fun b => w.heap.size ≤ b) [str op, .int .i64 (n : Int), str t, str o, slv gx args.length capx] (.mk op n t o args)) := Lib.hid ⟨gx, capx, flx, rfl, hx2⟩; rw [show (exCells op n t o (slv gx args.length capx)).toArray = #[str op, .int .i64 (n : Int), str t, str o, slv gx args.length capx] from rfl]; clear hx2
   have HS := Lib.hid hS
   have HSO : Hid (sep one (c.ts i) = sepL one (c.ts j).length [(.mk op n t o args)] (c.ts j)) := by show _ = _; rw [sep, hr]; rfl
   have hjn := hS.le
   clear hT hS hr
   go_wp2
   have HI0 : Hid (∃ (f : Nat) (g : Option Nat) (cap : Nat) (fl : List Value), LiInv ExK 45 w c i d one (c.all.length - j) (.slice (some ⟨w1.heap.size, 0, none⟩) 1 1) (w1.alloc (.cells [str op, .int .i64 (n : Int), str t, str o, slv gx args.length capx].toArray 45)) j f [(.mk op n t o args)] g cap fl) := by
    refine Lib.hid ⟨(c.ts j).length, some w1.heap.size, 1, [str op, .int .i64 (n : Int), str t, str o, slv gx args.length capx], rfl, rfl, HS.out.ext ((Ext.refl _).alloc _), HT1.out.alloc _, ⟨by rw [ExK.len HC.out]; rfl, _, blk_new _ _, Nat.le_refl _, by simp [maxLen], by simp [ExK.len HC.out], ?_⟩, fun b hb => by cases hb; exact HT1.out.size, ?_, by rw [ts_len]; omega, by simp; omega, HSO.out⟩
    · rw [List.take_of_length_le]
      simp [ExK.len HC.out]
    · refine LsC.one ExK (ExK.keep (fun b hb ha => ⟨Below.block ((Ext.refl w1).alloc _) b hb, ha, fun e => ?_⟩) _ _ HC.out)
      cases e; omega
   obtain ⟨f0, g0, cap0, fl0, hI0⟩ := HI0.out
   clear HI0 HSO HS HT1
   go_loopg [5] (c.all.length - j) (fun gk v5 wr => ∃ (j f : Nat) (xs : List Ex) (g : Option Nat) (cap : Nat) (fl : List Value), LiInv ExK 45 w c i d one gk v5 wr j f xs g cap fl)
   case atStart => exact ⟨j, f0, [(.mk op n t o args)], g0, cap0, fl0, hI0⟩
   case round =>
    clear hI0 HC
    obtain ⟨j, f, xs, g, cap, fl, hI⟩ := hrel
    obtain rfl := hI.v
    have HI := Lib.hid hI
    clear hI
    go_wp2_with fail
    refine (may_ok c j d _ (HI.out.src.ext ((Ext.refl wr).alloc _)) (some wr.heap.size) [[44]] (txts_new wr [[44]]) (by simp)).mono ?_
    rintro e w2 ⟨rfl, hS2, hT2⟩
    rw [mayN_one] at hS2 ⊢
    have hT2' : Touch (onlyB c) wr w2 := (((Ext.refl wr).alloc _).touch _).trans hT2
    have HT2 := Lib.hid (HI.out.touch.trans hT2')
    have HSL2 := Lib.hid (HI.out.sl.touch hT2' (fun b hb e => by have h1 : b = c.sb := e; have := HI.out.own b hb; omega))
    have HLS2 := Lib.hid (LsC.keep ExK (fun b hb ha => ⟨hT2'.block b hb (fun e => by have h1 : b = c.sb := e; have := ha.1; omega), ha⟩) _ _ HI.out.ls)
    clear hT2 hT2'
    cases h1 : isT [44] (c.ts j) with
    | false =>
      rw [h1, if_neg (by simp)] at hS2
      have HS2 := Lib.hid hS2
      have HRR : Hid (sep one (c.ts i) = .ok (xs, c.ts j)) := by show _ = _; rw [HI.out.so]; cases f <;> simp [sepL, h1]
      clear hS2 h1
      go_wp2
      go_ret
      exact RdPost.ok (v := slv g xs.length cap) HRR.out HT2.out ⟨g, cap, fl, rfl, HSL2.out, HI.out.own, HLS2.out⟩ HS2.out
    | true =>
      rw [h1, if_pos rfl] at hS2
      have HS2 := Lib.hid hS2
      have hj := isT_lt h1
      have HSO : Hid (∃ f', f = f' + 1 ∧ c.all.length - (j + 1) ≤ f' ∧ sep one (c.ts i) = bnd (one (c.ts (j + 1))) fun x r => sepL one f' (xs ++ [x]) r) := by
        have h2 := HI.out.few
        obtain ⟨f', rfl⟩ : ∃ f', f = f' + 1 := ⟨f - 1, by omega⟩
        refine Lib.hid ⟨f', rfl, by omega, ?_⟩
        rw [HI.out.so, sepL, if_pos h1, Src.tail]
      clear hS2 h1
      go_wp2_with fail
      refine (HO.out _ (j + 1) HS2.out).mono ?_
      rintro e w3 ⟨hT3, hp⟩
      have HT3 := Lib.hid (HT2.out.trans hT3)
      have HSL3 := Lib.hid (HSL2.out.touch hT3 (fun b hb e => by have h1 : b = c.sb := e; have := HI.out.own b hb; omega))
      have HLS3 := Lib.hid (LsC.keep ExK (fun b hb ha => ⟨hT3.block b hb (fun e => by have h1 : b = c.sb := e; have := ha.1; omega), ha⟩) _ _ HLS2.out)
      cases hr : one (c.ts (j + 1)) with
      | error kp =>
        obtain ⟨k, p⟩ := kp
        rw [hr] at hp
        obtain rfl := hp
        refine ⟨rfl, RdPost.bad ?_ HT3.out⟩
        obtain ⟨f', -, -, h1⟩ := HSO.out
        rw [h1, hr]; rfl
      | ok xt =>
        obtain ⟨x, ts⟩ := xt
        rw [hr] at hp
        obtain ⟨v, j', rfl, ⟨cs, rfl, hx⟩, rfl, hS⟩ := hp; obtain ⟨op, n, t, o, args⟩ := x; have hx' := ExC.weak (A' := fun b => w.heap.size ≤ b ∧ g ≠ some b) hx (fun b _ hb => ⟨by have := HT2.out.size; omega, fun e => by have h1 := HSL2.out; rw [e] at h1; have := h1.block_lt; omega⟩); obtain ⟨gx, capx, flx, rfl, hx2⟩ := hx'; have HC3 : Hid (ExK.C w3 (fun b => w.heap.size ≤ b ∧ g ≠ some b) [str op, .int .i64 (n : Int), str t, str o, slv gx args.length capx] (.mk op n t o args)) := Lib.hid ⟨gx, capx, flx, rfl, hx2⟩; rw [show (exCells op n t o (slv gx args.length capx)).toArray = #[str op, .int .i64 (n : Int), str t, str o, slv gx args.length capx] from rfl]; clear hx2 hx
        have HS3 := Lib.hid hS
        have HR3 := Lib.hid hr
        have hlen := HI.out.len
        have hsm := HI.out.src.small
        have hgl : ∀ b, g = some b → b < w3.heap.size := fun b hb => by
         have h1 := HSL2.out
         rw [hb] at h1
         have h2 := h1.block_lt
         have h3 := hT3.size
         omega
        have HGL := Lib.hid hgl
        have HJ : Hid (c.all.length - j' ≤ c.all.length - (j + 1)) := by
         have h1 := (HSUF.out _ _ _ hr).length_le
         rw [ts_len, ts_len] at h1
         exact Lib.hid h1
        clear hT3 hS hr hgl
        go_wp2_with (at_builtin; refine (fun (h : True → _) => h trivial) ?_)
        intro _
        refine app_lit ei_ex rfl (.tmp 12) (.tmp 15) rfl (g := g) (n := xs.length) (cap := cap) (b := w3.heap.size) (by rfl) (HSL3.out.ext ((Ext.refl w3).alloc _)) (by rfl) rfl (blk_new_at _ rfl) (ExK.one HC3.out) (by omega) (by omega) ?_
        intro g6 cap6 w6 hS6 hT6 hat6
        obtain ⟨p1, p2, p3⟩ := VLs.put (w0 := w) (lo := w.heap.size) (c := c) (LsC.keep ExK (fun b hb ha => ⟨Below.block ((Ext.refl w3).alloc (.cells [str op, .int .i64 (n : Int), str t, str o, slv gx args.length capx].toArray 45)) b hb, ha⟩) _ _ HLS3.out) (ExK.keep (fun b hb ha => ⟨Below.block ((Ext.refl w3).alloc (.cells [str op, .int .i64 (n : Int), str t, str o, slv gx args.length capx].toArray 45)) b hb, ha⟩) _ _ HC3.out) hT6 hat6 HI.out.own (by have := HT3.out.size; simp; omega) (HT3.out.alloc _) (Nat.le_refl _)
        have HN : Hid (Src w6 c j' d) := Lib.hid ((HS3.out.ext ((Ext.refl w3).alloc (.cells [str op, .int .i64 (n : Int), str t, str o, slv gx args.length capx].toArray 45))).touch hT6 (fun e => by have := HI.out.own _ e; omega) (fun b hb e => by
         have h1 := H.out.toks
         rw [hb] at h1
         have h2 := h1.block_lt
         have h3 := HI.out.own _ e
         omega))
        have HP1 := Lib.hid p1
        have HP2 := Lib.hid p2
        have HP3 := Lib.hid p3
        have HS6 := Lib.hid hS6
        clear hS6 hT6 hat6 p1 p2 p3
        go_wp2
        go_roundg (c.all.length - j')
        case measure => have h1 := HI.out.k; have h2 := HJ.out; omega
        case rel =>
         obtain ⟨f', hf', hfew, hso⟩ := HSO.out
         refine ⟨j', f', xs ++ [(.mk op n t o args)], some g6, cap6, fl ++ [str op, .int .i64 (n : Int), str t, str o, slv gx args.length capx], rfl, by rw [List.length_append]; rfl, HN.out, HP3.out, by rw [List.length_append]; exact HS6.out, fun b hb => by cases hb; exact HP2.out, HP1.out, by have := HJ.out; omega, ?_, ?_⟩
         · rw [List.length_append]; have := HJ.out; simp; omega
         · rw [hso, HR3.out]; rfl
theorem list_set (c : Cx) (i d : Nat) (w : World) (h : Src w c i d) (F : FuncId) (hent : Ent F) (one : List Tok → Res (Str × Ex)) (hsuf : ∀ ts, Suf ts (one ts))
   (hone : ∀ w i, Src w c i d → Calls Tryz.prog F #[.pointer (some ⟨c.sb, 0, none⟩)] w (RdPost VSet w c d (one (c.ts i)))) :
   Calls Tryz.prog 61 #[.pointer (some ⟨c.sb, 0, none⟩), .func (.func F) #[.pointer (some ⟨c.sb, 0, none⟩)] #[]] w (RdPost (VLs SetK 80) w c d (sep one (c.ts i))) := by
 have H := Lib.hid h
 have HO := Lib.hid hone
 have HSUF := Lib.hid hsuf
 have lb := blk_lt h.blk
 clear h hone hsuf
 go_enter Tryz.func61, Tryz.ntmps61
 go_wp2_with fail
 refine (HO.out _ i H.out).mono ?_
 rintro e w1 ⟨hT, hp⟩
 have HT1 := Lib.hid hT
 cases hr : one (c.ts i) with
 | error kp =>
   obtain ⟨k, p⟩ := kp
   rw [hr] at hp
   obtain rfl := hp
   exact bodyPost_panic rfl (RdPost.bad (by rw [sep, hr]; rfl) HT1.out)
 | ok xt =>
   obtain ⟨x, ts⟩ := xt
   rw [hr] at hp
   obtain ⟨nm, op, n, t, o, args⟩ := x; obtain ⟨v, j, rfl, ⟨cs, rfl, hx⟩, rfl, hS⟩ := hp; obtain ⟨gx, capx, flx, rfl, hx2⟩ := hx; have HC : Hid (SetK.C w1 (fun b => w.heap.size ≤ b) [str nm, str op, .int .i64 (n : Int), str t, str o, slv gx args.length capx] (nm, .mk op n t o args)) := Lib.hid ⟨exCells op n t o (slv gx args.length capx), rfl, gx, capx, flx, rfl, hx2⟩; rw [show (str (nm, Ex.mk op n t o args).1 :: exCells op n t o (slv gx args.length capx)).toArray = #[str nm, str op, .int .i64 (n : Int), str t, str o, slv gx args.length capx] from rfl]; clear hx2
   have HS := Lib.hid hS
   have HSO : Hid (sep one (c.ts i) = sepL one (c.ts j).length [(nm, .mk op n t o args)] (c.ts j)) := by show _ = _; rw [sep, hr]; rfl
   have hjn := hS.le
   clear hT hS hr
   go_wp2
   have HI0 : Hid (∃ (f : Nat) (g : Option Nat) (cap : Nat) (fl : List Value), LiInv SetK 80 w c i d one (c.all.length - j) (.slice (some ⟨w1.heap.size, 0, none⟩) 1 1) (w1.alloc (.cells [str nm, str op, .int .i64 (n : Int), str t, str o, slv gx args.length capx].toArray 80)) j f [(nm, .mk op n t o args)] g cap fl) := by
    refine Lib.hid ⟨(c.ts j).length, some w1.heap.size, 1, [str nm, str op, .int .i64 (n : Int), str t, str o, slv gx args.length capx], rfl, rfl, HS.out.ext ((Ext.refl _).alloc _), HT1.out.alloc _, ⟨by rw [SetK.len HC.out]; rfl, _, blk_new _ _, Nat.le_refl _, by simp [maxLen], by simp [SetK.len HC.out], ?_⟩, fun b hb => by cases hb; exact HT1.out.size, ?_, by rw [ts_len]; omega, by simp; omega, HSO.out⟩
    · rw [List.take_of_length_le]
      simp [SetK.len HC.out]
    · refine LsC.one SetK (SetK.keep (fun b hb ha => ⟨Below.block ((Ext.refl w1).alloc _) b hb, ha, fun e => ?_⟩) _ _ HC.out)
      cases e; omega
   obtain ⟨f0, g0, cap0, fl0, hI0⟩ := HI0.out
   clear HI0 HSO HS HT1
   go_loopg [5] (c.all.length - j) (fun gk v5 wr => ∃ (j f : Nat) (xs : List (Str × Ex)) (g : Option Nat) (cap : Nat) (fl : List Value), LiInv SetK 80 w c i d one gk v5 wr j f xs g cap fl)
   case atStart => exact ⟨j, f0, [(nm, .mk op n t o args)], g0, cap0, fl0, hI0⟩
   case round =>
    clear hI0 HC
    obtain ⟨j, f, xs, g, cap, fl, hI⟩ := hrel
    obtain rfl := hI.v
    have HI := Lib.hid hI
    clear hI
    go_wp2_with fail
    refine (may_ok c j d _ (HI.out.src.ext ((Ext.refl wr).alloc _)) (some wr.heap.size) [[44]] (txts_new wr [[44]]) (by simp)).mono ?_
    rintro e w2 ⟨rfl, hS2, hT2⟩
    rw [mayN_one] at hS2 ⊢
    have hT2' : Touch (onlyB c) wr w2 := (((Ext.refl wr).alloc _).touch _).trans hT2
    have HT2 := Lib.hid (HI.out.touch.trans hT2')
    have HSL2 := Lib.hid (HI.out.sl.touch hT2' (fun b hb e => by have h1 : b = c.sb := e; have := HI.out.own b hb; omega))
    have HLS2 := Lib.hid (LsC.keep SetK (fun b hb ha => ⟨hT2'.block b hb (fun e => by have h1 : b = c.sb := e; have := ha.1; omega), ha⟩) _ _ HI.out.ls)
    clear hT2 hT2'
    cases h1 : isT [44] (c.ts j) with
    | false =>
      rw [h1, if_neg (by simp)] at hS2
      have HS2 := Lib.hid hS2
      have HRR : Hid (sep one (c.ts i) = .ok (xs, c.ts j)) := by show _ = _; rw [HI.out.so]; cases f <;> simp [sepL, h1]
      clear hS2 h1
      go_wp2
      go_ret
      exact RdPost.ok (v := slv g xs.length cap) HRR.out HT2.out ⟨g, cap, fl, rfl, HSL2.out, HI.out.own, HLS2.out⟩ HS2.out
    | true =>
      rw [h1, if_pos rfl] at hS2
      have HS2 := Lib.hid hS2
      have hj := isT_lt h1
      have HSO : Hid (∃ f', f = f' + 1 ∧ c.all.length - (j + 1) ≤ f' ∧ sep one (c.ts i) = bnd (one (c.ts (j + 1))) fun x r => sepL one f' (xs ++ [x]) r) := by
        have h2 := HI.out.few
        obtain ⟨f', rfl⟩ : ∃ f', f = f' + 1 := ⟨f - 1, by omega⟩
        refine Lib.hid ⟨f', rfl, by omega, ?_⟩
        rw [HI.out.so, sepL, if_pos h1, Src.tail]
      clear hS2 h1
      go_wp2_with fail
      refine (HO.out _ (j + 1) HS2.out).mono ?_
      rintro e w3 ⟨hT3, hp⟩
      have HT3 := Lib.hid (HT2.out.trans hT3)
      have HSL3 := Lib.hid (HSL2.out.touch hT3 (fun b hb e => by have h1 : b = c.sb := e; have := HI.out.own b hb; omega))
      have HLS3 := Lib.hid (LsC.keep SetK (fun b hb ha => ⟨hT3.block b hb (fun e => by have h1 : b = c.sb := e; have := ha.1; omega), ha⟩) _ _ HLS2.out)
      cases hr : one (c.ts (j + 1)) with
      | error kp =>
        obtain ⟨k, p⟩ := kp
        rw [hr] at hp
        obtain rfl := hp
        refine ⟨rfl, RdPost.bad ?_ HT3.out⟩
        obtain ⟨f', -, -, h1⟩ := HSO.out
        rw [h1, hr]; rfl
      | ok xt =>
        obtain ⟨x, ts⟩ := xt
        rw [hr] at hp
        obtain ⟨nm, op, n, t, o, args⟩ := x; obtain ⟨v, j', rfl, ⟨cs, rfl, hx⟩, rfl, hS⟩ := hp; have hx' := ExC.weak (A' := fun b => w.heap.size ≤ b ∧ g ≠ some b) hx (fun b _ hb => ⟨by have := HT2.out.size; omega, fun e => by have h1 := HSL2.out; rw [e] at h1; have := h1.block_lt; omega⟩); obtain ⟨gx, capx, flx, rfl, hx2⟩ := hx'; have HC3 : Hid (SetK.C w3 (fun b => w.heap.size ≤ b ∧ g ≠ some b) [str nm, str op, .int .i64 (n : Int), str t, str o, slv gx args.length capx] (nm, .mk op n t o args)) := Lib.hid ⟨exCells op n t o (slv gx args.length capx), rfl, gx, capx, flx, rfl, hx2⟩; rw [show (str (nm, Ex.mk op n t o args).1 :: exCells op n t o (slv gx args.length capx)).toArray = #[str nm, str op, .int .i64 (n : Int), str t, str o, slv gx args.length capx] from rfl]; clear hx2 hx
        have HS3 := Lib.hid hS
        have HR3 := Lib.hid hr
        have hlen := HI.out.len
        have hsm := HI.out.src.small
        have hgl : ∀ b, g = some b → b < w3.heap.size := fun b hb => by
         have h1 := HSL2.out
         rw [hb] at h1
         have h2 := h1.block_lt
         have h3 := hT3.size
         omega
        have HGL := Lib.hid hgl
        have HJ : Hid (c.all.length - j' ≤ c.all.length - (j + 1)) := by
         have h1 := (HSUF.out _ _ _ hr).length_le
         rw [ts_len, ts_len] at h1
         exact Lib.hid h1
        clear hT3 hS hr hgl
        go_wp2_with (at_builtin; refine (fun (h : True → _) => h trivial) ?_)
        intro _
        refine app_lit ei_set rfl (.tmp 12) (.tmp 15) rfl (g := g) (n := xs.length) (cap := cap) (b := w3.heap.size) (by rfl) (HSL3.out.ext ((Ext.refl w3).alloc _)) (by rfl) rfl (blk_new_at _ rfl) (SetK.one HC3.out) (by omega) (by omega) ?_
        intro g6 cap6 w6 hS6 hT6 hat6
        obtain ⟨p1, p2, p3⟩ := VLs.put (w0 := w) (lo := w.heap.size) (c := c) (LsC.keep SetK (fun b hb ha => ⟨Below.block ((Ext.refl w3).alloc (.cells [str nm, str op, .int .i64 (n : Int), str t, str o, slv gx args.length capx].toArray 80)) b hb, ha⟩) _ _ HLS3.out) (SetK.keep (fun b hb ha => ⟨Below.block ((Ext.refl w3).alloc (.cells [str nm, str op, .int .i64 (n : Int), str t, str o, slv gx args.length capx].toArray 80)) b hb, ha⟩) _ _ HC3.out) hT6 hat6 HI.out.own (by have := HT3.out.size; simp; omega) (HT3.out.alloc _) (Nat.le_refl _)
        have HN : Hid (Src w6 c j' d) := Lib.hid ((HS3.out.ext ((Ext.refl w3).alloc (.cells [str nm, str op, .int .i64 (n : Int), str t, str o, slv gx args.length capx].toArray 80))).touch hT6 (fun e => by have := HI.out.own _ e; omega) (fun b hb e => by
         have h1 := H.out.toks
         rw [hb] at h1
         have h2 := h1.block_lt
         have h3 := HI.out.own _ e
         omega))
        have HP1 := Lib.hid p1
        have HP2 := Lib.hid p2
        have HP3 := Lib.hid p3
        have HS6 := Lib.hid hS6
        clear hS6 hT6 hat6 p1 p2 p3
        go_wp2
        go_roundg (c.all.length - j')
        case measure => have h1 := HI.out.k; have h2 := HJ.out; omega
        case rel =>
         obtain ⟨f', hf', hfew, hso⟩ := HSO.out
         refine ⟨j', f', xs ++ [(nm, .mk op n t o args)], some g6, cap6, fl ++ [str nm, str op, .int .i64 (n : Int), str t, str o, slv gx args.length capx], rfl, by rw [List.length_append]; rfl, HN.out, HP3.out, by rw [List.length_append]; exact HS6.out, fun b hb => by cases hb; exact HP2.out, HP1.out, by have := HJ.out; omega, ?_, ?_⟩
         · rw [List.length_append]; have := HJ.out; simp; omega
         · rw [hso, HR3.out]; rfl
theorem fin_late {α : Type} {V : World → Nat → Value → α → Prop} {w w2 w' : World} {c : Cx} {i d j : Nat} {x : α} {v : Value} {r : Res α} (h0 : Src w c i d) (hT : Touch (onlyB c) w w2) (hS : Src w2 c j d)
  (hl : Touch (fun b => w.heap.size ≤ b) w2 w') (hv : V w' w.heap.size v x) (hr : r = .ok (x, c.ts j)) : RdPost V w c d r (.returned v) w' := by
 have h1 := blk_lt h0.blk
 refine RdPost.ok hr (hT.trans' hl (fun b hb e => by omega)) hv (hS.touch hl (by omega) (fun b hb e => ?_))
 have := h0.toks
 rw [hb] at this
 have := this.block_lt
 omega
theorem ent_name : Ent 53 := enters_of Tryz.func53 (by kernel_rfl) rfl
theorem ent_column : Ent 56 := enters_of Tryz.func56 (by kernel_rfl) rfl
theorem ent_set : Ent 62 := enters_of Tryz.func62 (by kernel_rfl) rfl
theorem ent_item : Ent 117 := enters_of Tryz.func117 (by kernel_rfl) rfl
theorem names_ok (c : Cx) (i d : Nat) (w : World) (h : Src w c i d) :
   Calls Tryz.prog 57 #[.pointer (some ⟨c.sb, 0, none⟩)] w (RdPost (VLs StrK 9) w c d (names c.E (c.ts i))) := by
 have H := Lib.hid h
 have HT0 := Lib.hid (Touch.refl (onlyB c) w)
 obtain ⟨R, hR⟩ : ∃ R, R = names c.E (c.ts i) := ⟨_, rfl⟩
 rw [← hR]
 unfold names at hR
 have HR0 := Lib.hid hR
 clear hR h
 go_enter Tryz.func57, Tryz.ntmps57
 go_wp2_with fail
 refine (must_ok c i d _ (H.out.ext ((Ext.refl w).alloc _)) (some w.heap.size) [[40]] (txts_new w [[40]]) (by simp)).mono ?_
 rintro e w1 ⟨hT0, hp⟩
 have hT : Touch (onlyB c) w w1 := (((Ext.refl w).alloc _).touch _).trans hT0
 have HT1 := Lib.hid (HT0.out.trans hT)
 skip
 rw [mustN_one] at hp
 have hR := HR0.out
 rcases hr : must c.E [40] (c.ts i) with ⟨k, p⟩ | ⟨⟨⟩, ts⟩
 · rw [hr] at hp
   simp only [hr, bnd_error, fin_error] at hR
   obtain rfl := hp
   exact bodyPost_panic rfl (RdPost.bad hR HT1.out)
 rw [hr] at hp
 obtain ⟨v, j1, rfl, rfl, rfl, hS⟩ := hp
 simp only [hr, bnd_ok, fin_ok] at hR
 have HS1 := Lib.hid hS
 have HR1 := Lib.hid hR
 clear hT0 hT hS hR hr
 go_wp2_with fail
 refine (list_str c j1 d _ HS1.out _ ent_name (name c.E) (Suf.name c.E) (fun w i h => name_ok c i d w h)).mono ?_
 rintro e w2 ⟨hT, hp⟩
 have HT2 := Lib.hid (HT1.out.trans hT)
 skip
 have hR := HR1.out
 rcases hr : sep (name c.E) (c.ts j1) with ⟨k, p⟩ | ⟨l, ts⟩
 · rw [hr] at hp
   simp only [hr, bnd_error, fin_error] at hR
   obtain rfl := hp
   exact bodyPost_panic rfl (RdPost.bad hR HT2.out)
 rw [hr] at hp
 obtain ⟨v, j2, rfl, hv, rfl, hS⟩ := hp
 simp only [hr, bnd_ok, fin_ok] at hR
 have HS2 := Lib.hid hS
 have HR2 := Lib.hid hR
 clear hT hS hR hr
 obtain ⟨g, cap, fl, rfl, h1, h2, h3⟩ := hv
 have HV : Hid (VLs StrK 9 w2 w.heap.size (slv g l.length cap) l) := Lib.hid (VLs.keep (w := w2) (lo := w1.heap.size) StrK ⟨g, cap, fl, rfl, h1, h2, h3⟩ (fun _ _ _ => rfl) HT1.out.size)
 clear h1 h2 h3
 go_wp2_with fail
 refine (must_ok c j2 d _ (HS2.out.ext ((Ext.refl w2).alloc _)) (some w2.heap.size) [[41]] (txts_new w2 [[41]]) (by simp)).mono ?_
 rintro e w3 ⟨hT0, hp⟩
 have hT : Touch (onlyB c) w2 w3 := (((Ext.refl w2).alloc _).touch _).trans hT0
 have HT3 := Lib.hid (HT2.out.trans hT)
 have HV3 := Lib.hid (VLs.keep StrK HV.out (fun b hb hl => hT.block b hb (fun e => by have h1 : b = c.sb := e; have h2 := blk_lt H.out.blk; omega)) (Nat.le_refl _))
 rw [mustN_one] at hp
 have hR := HR2.out
 rcases hr : must c.E [41] (c.ts j2) with ⟨k, p⟩ | ⟨⟨⟩, ts⟩
 · rw [hr] at hp
   simp only [hr, bnd_error, fin_error] at hR
   obtain rfl := hp
   exact bodyPost_panic rfl (RdPost.bad hR HT3.out)
 rw [hr] at hp
 obtain ⟨v, j3, rfl, rfl, rfl, hS⟩ := hp
 simp only [hr, bnd_ok, fin_ok] at hR
 have HS3 := Lib.hid hS
 have HR3 := Lib.hid hR
 clear hT0 hT hS hR hr
 go_wp2
 go_ret
 exact RdPost.ok (v := slv g l.length cap) HR3.out HT3.out HV3.out HS3.out
theorem where_ok (c : Cx) (i : Nat) (w : World) (h : Src w c i 0) :
   Calls Tryz.prog 64 #[.pointer (some ⟨c.sb, 0, none⟩)] w (RdPost (VLs ExK 45) w c 0 (whereP c.E (c.ts i))) := by
 have H := Lib.hid h
 have HT0 := Lib.hid (Touch.refl (onlyB c) w)
 clear h
 go_enter Tryz.func64, Tryz.ntmps64
 go_wp2_with fail
 refine (may_ok c i 0 _ (H.out.ext ((Ext.refl w).alloc _)) (some w.heap.size) [[87, 72, 69, 82, 69]] (txts_new w [[87, 72, 69, 82, 69]]) (by simp)).mono ?_
 rintro e w1 ⟨rfl, hS, hT0⟩
 rw [mayN_one] at hS ⊢
 have hT : Touch (onlyB c) w w1 := (((Ext.refl w).alloc _).touch _).trans hT0
 have HT1 := Lib.hid (HT0.out.trans hT)
 skip
 clear hT0 hT
 cases h1 : isT [87, 72, 69, 82, 69] (c.ts i) with
 | false =>
   rw [h1, if_neg (by simp)] at hS
   have HS1 := Lib.hid hS
   have HR : Hid (whereP c.E (c.ts i) = .ok ([], c.ts i)) := by show _ = _; rw [whereP, h1]; rfl
   clear hS h1
   go_wp2
   go_ret
   exact RdPost.ok (v := slv none 0 0) HR.out HT1.out ⟨none, 0, [], rfl, Sl.nil _ _ _, by simp, rfl⟩ HS1.out
 | true =>
   rw [h1, if_pos rfl] at hS
   have HS1 := Lib.hid hS
   have HR1 : Hid (whereP c.E (c.ts i) = fin (fun e => [e]) (expr c.E (c.ts (i + 1)))) := by show _ = _; rw [whereP, if_pos h1, Src.tail]
   generalize whereP c.E (c.ts i) = R at *
   clear hS h1
   go_wp2_with fail
   refine (expr_ok c _ (i + 1) HS1.out).mono ?_
   rintro e w2 ⟨hT, hp⟩
   have HT2 := Lib.hid (HT1.out.trans hT)
   skip
   have hR := HR1.out
   rcases hr : expr c.E (c.ts (i + 1)) with ⟨k, p⟩ | ⟨x, ts⟩
   · rw [hr] at hp
     simp only [hr, bnd_error, fin_error] at hR
     obtain rfl := hp
     exact bodyPost_panic rfl (RdPost.bad hR HT2.out)
   rw [hr] at hp
   obtain ⟨v, j2, rfl, ⟨cs, rfl, hx⟩, rfl, hS⟩ := hp
   simp only [hr, bnd_ok, fin_ok] at hR
   have HS2 := Lib.hid hS
   have HR2 := Lib.hid hR
   clear hT hS hR hr
   obtain ⟨op, n, t, o, args⟩ := x
   obtain ⟨g, cap, fl, rfl, hx2⟩ := ExC.weak (A' := fun b => w.heap.size ≤ b ∧ b < w2.heap.size) hx (fun b h1 hb => ⟨by have := HT1.out.size; omega, h1⟩)
   have HX : Hid (ExC w2 (fun b => w.heap.size ≤ b ∧ b < w2.heap.size) [str op, .int .i64 (n : Int), str t, str o, slv g args.length cap] (.mk op n t o args)) := Lib.hid ⟨g, cap, fl, rfl, hx2⟩
   rw [show (exCells op n t o (slv g args.length cap)).toArray = #[str op, .int .i64 (n : Int), str t, str o, slv g args.length cap] from rfl]
   clear hx hx2
   go_wp2
   go_ret
   refine RdPost.ok (v := slv (some w2.heap.size) 1 1) HR2.out (HT2.out.alloc _) ⟨some w2.heap.size, 1, [str op, .int .i64 (n : Int), str t, str o, slv g args.length cap], rfl, ⟨rfl, _, blk_new _ _, Nat.le_refl _, by simp [maxLen], rfl, rfl⟩, fun b hb => by cases hb; exact HT2.out.size, ?_⟩ (HS2.out.ext ((Ext.refl _).alloc _))
   exact LsC.one ExK (ExC.keep (fun b hb ha => ⟨Below.block ((Ext.refl w2).alloc _) b hb, ha.1, fun e => by cases e; omega⟩) _ _ HX.out)
def VPer (_ : World) (_ : Nat) (v : Value) (p : Nat × Nat) : Prop := v = .agg #[.int .i64 (p.1 : Int), .int .i64 (p.2 : Int)]
abbrev zPer : Obj := .cells #[.int .i64 0, .int .i64 0] 28
abbrev zCol : Obj := .cells #[.string (ByteArray.mk #[]), .int .i64 0] 78
abbrev zSet : Obj := .cells #[.string (ByteArray.mk #[]), .string (ByteArray.mk #[]), .int .i64 0, .string (ByteArray.mk #[]), .string (ByteArray.mk #[]), .slice none 0 0] 80
theorem results_per {fn : Func} {t : Tmp} (hr : fn.results = #[.cell t 28]) {tmps : Array Value} {w : World} {b : Nat} {f : Nat × Nat} {T : TypeId} {v0 v1 : Value} (ht : tmps.getD t undef = .pointer (some ⟨b, 0, none⟩))
  (h : w.heap[b]? = some (.cells #[v0, v1] T f)) : (results fn tmps).run Tryz.prog w = .ok (.agg #[v0, v1]) w := by
 obtain ⟨c0, c1⟩ := blk2 h
 rw [Array.getD_eq_getD_getElem?] at ht
 simp [results, hr, go_sem, ht, c0, c1]
theorem results_col {fn : Func} {t : Tmp} (hr : fn.results = #[.cell t 78]) {tmps : Array Value} {w : World} {b : Nat} {f : Nat × Nat} {T : TypeId} {v0 v1 : Value} (ht : tmps.getD t undef = .pointer (some ⟨b, 0, none⟩))
  (h : w.heap[b]? = some (.cells #[v0, v1] T f)) : (results fn tmps).run Tryz.prog w = .ok (.agg #[v0, v1]) w := by
 obtain ⟨c0, c1⟩ := blk2 h
 rw [Array.getD_eq_getD_getElem?] at ht
 simp [results, hr, go_sem, ht, c0, c1]
theorem blk6 {w : World} {b : Nat} {t : TypeId} {f : Nat × Nat} {v0 v1 v2 v3 v4 v5 : Value} (h : w.heap[b]? = some (.cells #[v0, v1, v2, v3, v4, v5] t f)) : w.cell? ⟨b, 0, none⟩ = some v0 ∧ w.cell? ⟨b, 1, none⟩ = some v1 ∧ w.cell? ⟨b, 2, none⟩ = some v2 ∧ w.cell? ⟨b, 3, none⟩ = some v3 ∧ w.cell? ⟨b, 4, none⟩ = some v4 ∧ w.cell? ⟨b, 5, none⟩ = some v5 :=
 ⟨blk_cell h rfl, blk_cell h rfl, blk_cell h rfl, blk_cell h rfl, blk_cell h rfl, blk_cell h rfl⟩
theorem results_set {fn : Func} {t : Tmp} (hr : fn.results = #[.cell t 80]) {tmps : Array Value} {w : World} {b : Nat} {f : Nat × Nat} {T : TypeId} {v0 v1 v2 v3 v4 v5 : Value} (ht : tmps.getD t undef = .pointer (some ⟨b, 0, none⟩))
  (h : w.heap[b]? = some (.cells #[v0, v1, v2, v3, v4, v5] T f)) : (results fn tmps).run Tryz.prog w = .ok (.agg #[v0, v1, v2, v3, v4, v5]) w := by
 obtain ⟨c0, c1, c2, c3, c4, c5⟩ := blk6 h
 rw [Array.getD_eq_getD_getElem?] at ht
 simp [results, hr, go_sem, ht, c0, c1, c2, c3, c4, c5]
theorem set2 {w : World} {b : Nat} {T : TypeId} {f : Nat × Nat} {a0 a1 : Value} (h : w.heap[b]? = some (.cells #[a0, a1] T f)) (v0 v1 : Value) :
 ((w.setCell ⟨b, 0, none⟩ v0).setCell ⟨b, 1, none⟩ v1).heap[b]? = some (.cells #[v0, v1] T f) := blk_set (blk_set h 0 v0) 1 v1
theorem late2 {a w : World} {b lo : Nat} (h : Touch (fun k => lo ≤ k) a w) (hb : lo ≤ b) (v0 v1 : Value) : Touch (fun k => lo ≤ k) a ((w.setCell ⟨b, 0, none⟩ v0).setCell ⟨b, 1, none⟩ v1) :=
 (h.setCell (p := ⟨b, 0, none⟩) (fun _ => hb) v0).setCell (p := ⟨b, 1, none⟩) (fun _ => hb) v1
theorem set_ok (c : Cx) (i : Nat) (w : World) (h : Src w c i 0) :
   Calls Tryz.prog 62 #[.pointer (some ⟨c.sb, 0, none⟩)] w (RdPost VSet w c 0 (setP c.E (c.ts i))) := by
 have H := Lib.hid h
 have lb := blk_lt h.blk
 have hne : w.heap.size ≠ c.sb := by omega
 have HT0 : Hid (Touch (onlyB c) w (w.alloc zSet)) := Lib.hid (((Ext.refl w).alloc _).touch _)
 have HB0 : Hid ((w.alloc zSet).heap[w.heap.size]? = some zSet) := blk_new w _
 obtain ⟨R, hR⟩ : ∃ R, R = setP c.E (c.ts i) := ⟨_, rfl⟩
 rw [← hR]
 unfold setP at hR
 have HR0 := Lib.hid hR
 clear hR h
 go_enter Tryz.func62, Tryz.ntmps62
 go_wp2_with fail
 refine (name_ok c i 0 _ (H.out.ext ((Ext.refl w).alloc zSet))).mono ?_
 rintro e w1 ⟨hT, hp⟩
 have HT1 := Lib.hid (HT0.out.trans hT)
 have HB1 := Lib.hid (hT.old HB0.out (fun e => hne e))
 have hR := HR0.out
 rcases hr : name c.E (c.ts i) with ⟨k, p⟩ | ⟨nm, ts⟩
 · rw [hr] at hp
   simp only [hr, bnd_error, fin_error] at hR
   obtain rfl := hp
   exact bodyPost_panic rfl (RdPost.bad hR HT1.out)
 rw [hr] at hp
 obtain ⟨v, j1, rfl, rfl, rfl, hS⟩ := hp
 simp only [hr, bnd_ok, fin_ok] at hR
 have HS1 := Lib.hid hS
 have HR1 := Lib.hid hR
 clear hT hS hR hr
 go_wp2_with fail
 refine (must_ok c j1 0 _ (HS1.out.ext ((Ext.refl w1).alloc _)) (some w1.heap.size) [[61]] (txts_new w1 [[61]]) (by simp)).mono ?_
 rintro e w2 ⟨hT0, hp⟩
 have hT : Touch (onlyB c) w1 w2 := (((Ext.refl w1).alloc _).touch _).trans hT0
 have HT2 := Lib.hid (HT1.out.trans hT)
 have HB2 := Lib.hid (hT.old HB1.out (fun e => hne e))
 rw [mustN_one] at hp
 have hR := HR1.out
 rcases hr : must c.E [61] (c.ts j1) with ⟨k, p⟩ | ⟨⟨⟩, ts⟩
 · rw [hr] at hp
   simp only [hr, bnd_error, fin_error] at hR
   obtain rfl := hp
   exact bodyPost_panic rfl (RdPost.bad hR HT2.out)
 rw [hr] at hp
 obtain ⟨v, j2, rfl, rfl, rfl, hS⟩ := hp
 simp only [hr, bnd_ok, fin_ok] at hR
 have HS2 := Lib.hid hS
 have HR2 := Lib.hid hR
 clear hT0 hT hS hR hr
 go_wp2_with fail
 refine (expr_ok c _ j2 HS2.out).mono ?_
 rintro e w3 ⟨hT, hp⟩
 have HT3 := Lib.hid (HT2.out.trans hT)
 have HB3 := Lib.hid (hT.old HB2.out (fun e => hne e))
 have hR := HR2.out
 rcases hr : expr c.E (c.ts j2) with ⟨k, p⟩ | ⟨x, ts⟩
 · rw [hr] at hp
   simp only [hr, bnd_error, fin_error] at hR
   obtain rfl := hp
   exact bodyPost_panic rfl (RdPost.bad hR HT3.out)
 rw [hr] at hp
 obtain ⟨v, j3, rfl, ⟨cs, rfl, hx⟩, rfl, hS⟩ := hp
 simp only [hr, bnd_ok, fin_ok] at hR
 have HS3 := Lib.hid hS
 have HR3 := Lib.hid hR
 clear hT hS hR hr
 have hlo := blk_lt HB2.out
 obtain ⟨op, n, t, o, args⟩ := x
 obtain ⟨g, cap, fl, rfl, hx2⟩ := ExC.weak (A' := fun b => w.heap.size < b) hx (fun b h1 hb => by omega)
 have HX : Hid (ExC w3 (fun b => w.heap.size < b) (exCells op n t o (slv g args.length cap)) (.mk op n t o args)) := Lib.hid ⟨g, cap, fl, rfl, hx2⟩
 rw [show (exCells op n t o (slv g args.length cap)).toArray = #[str op, .int .i64 (n : Int), str t, str o, slv g args.length cap] from rfl]
 clear hx hx2
 obtain ⟨e0, e1, e2, e3, e4, e5⟩ := blk6 HB3.out
 have f0 := blk_frozen HB3.out 0
 have f1 := blk_frozen HB3.out 1
 have f2 := blk_frozen HB3.out 2
 have f3 := blk_frozen HB3.out 3
 have f4 := blk_frozen HB3.out 4
 have f5 := blk_frozen HB3.out 5
 have lbr := blk_lt HB3.out
 go_wp2
 refine bodyPost_ret (v := .agg (str nm :: exCells op n t o (slv g args.length cap)).toArray) (results_set rfl rfl (blk_set (blk_set (blk_set (blk_set (blk_set (blk_set HB3.out 0 _) 1 _) 2 _) 3 _) 4 _) 5 _)) rfl ?_
 have hl : Touch (fun b => b = w.heap.size) w3 ((((((w3.setCell ⟨w.heap.size, 0, none⟩ (str nm)).setCell ⟨w.heap.size, 1, none⟩ (str op)).setCell ⟨w.heap.size, 2, none⟩ (.int .i64 (n : Int))).setCell ⟨w.heap.size, 3, none⟩ (str t)).setCell ⟨w.heap.size, 4, none⟩ (str o)).setCell ⟨w.heap.size, 5, none⟩ (slv g args.length cap)) :=
   (((((((Touch.refl (fun b => b = w.heap.size) w3).setCell (p := ⟨w.heap.size, 0, none⟩) (fun _ => rfl) _).setCell (p := ⟨w.heap.size, 1, none⟩) (fun _ => rfl) _).setCell (p := ⟨w.heap.size, 2, none⟩) (fun _ => rfl) _).setCell (p := ⟨w.heap.size, 3, none⟩) (fun _ => rfl) _).setCell (p := ⟨w.heap.size, 4, none⟩) (fun _ => rfl) _).setCell (p := ⟨w.heap.size, 5, none⟩) (fun _ => rfl) _)
 exact fin_late H.out HT3.out HS3.out (hl.mono (fun b _ e => by omega)) ⟨_, rfl, (HX.out.touch hl (fun b _ hb e => by omega)).weak (fun b _ hb => by omega)⟩ HR3.out
theorem column_ok (c : Cx) (i d : Nat) (w : World) (h : Src w c i d) :
   Calls Tryz.prog 56 #[.pointer (some ⟨c.sb, 0, none⟩)] w (RdPost VCol w c d (column c.E (c.ts i))) := by
 have H := Lib.hid h
 have lb := blk_lt h.blk
 have hne : w.heap.size ≠ c.sb := by omega
 have HT0 : Hid (Touch (onlyB c) w (w.alloc zCol)) := Lib.hid (((Ext.refl w).alloc _).touch _)
 have HB0 : Hid ((w.alloc zCol).heap[w.heap.size]? = some zCol) := blk_new w _
 obtain ⟨R, hR⟩ : ∃ R, R = column c.E (c.ts i) := ⟨_, rfl⟩
 rw [← hR]
 unfold column at hR
 have HR0 := Lib.hid hR
 clear hR h
 go_enter Tryz.func56, Tryz.ntmps56
 go_wp2_with fail
 refine (name_ok c i d _ (H.out.ext ((Ext.refl w).alloc zCol))).mono ?_
 rintro e w1 ⟨hT, hp⟩
 have HT1 := Lib.hid (HT0.out.trans hT)
 have HB1 := Lib.hid (hT.old HB0.out (fun e => hne e))
 have hR := HR0.out
 rcases hr : name c.E (c.ts i) with ⟨k, p⟩ | ⟨nm, ts⟩
 · rw [hr] at hp
   simp only [hr, bnd_error, fin_error] at hR
   obtain rfl := hp
   exact bodyPost_panic rfl (RdPost.bad hR HT1.out)
 rw [hr] at hp
 obtain ⟨v, j1, rfl, rfl, rfl, hS⟩ := hp
 simp only [hr, bnd_ok, fin_ok] at hR
 have HS1 := Lib.hid hS
 have HR1 := Lib.hid hR
 clear hT hS hR hr
 have lb1 := blk_lt HB1.out
 have lbs := blk_lt HS1.out.blk
 go_wp2_with fail
 have HT1b : Hid (Touch (onlyB c) w (w1.alloc (.cells #[str nm, .int .i64 1] 78))) := Lib.hid (HT1.out.alloc _)
 have HS1b := Lib.hid (HS1.out.ext ((Ext.refl w1).alloc (.cells #[str nm, .int .i64 1] 78)))
 have HB1b : Hid ((w1.alloc (.cells #[str nm, .int .i64 1] 78)).heap[w.heap.size]? = some zCol) := Lib.hid (blk_alloc HB1.out)
 have HP1 : Hid ((w1.alloc (.cells #[str nm, .int .i64 1] 78)).heap[w1.heap.size]? = some (.cells #[str nm, .int .i64 1] 78 (0, 0))) := Lib.hid (blk_new _ _)
 refine (may_ok c j1 d _ (HS1b.out.ext ((Ext.refl _).alloc _)) (some (w1.heap.size + 1)) [[84, 69, 88, 84]] (txts_new2 w1 _ [[84, 69, 88, 84]]) (by simp)).mono ?_
 rintro e w2 ⟨rfl, hS, hT0⟩
 rw [mayN_one] at hS ⊢
 have hT : Touch (onlyB c) (w1.alloc (.cells #[str nm, .int .i64 1] 78)) w2 := (((Ext.refl _).alloc _).touch _).trans hT0
 have HT2 := Lib.hid (HT1b.out.trans hT)
 have HB2 := Lib.hid (hT.old HB1b.out (fun e => hne e))
 have HP2 := Lib.hid (hT.old HP1.out (fun e => by have h1 : w1.heap.size = c.sb := e; omega))
 have hR := HR1.out
 clear hT0 hT HT1b HS1b HB1b HP1
 cases h1 : isT [84, 69, 88, 84] (c.ts j1) with
 | true =>
   rw [h1, if_pos rfl] at hS
   rw [if_pos h1, Src.tail] at hR
   have HS2 := Lib.hid hS
   have HR2 := Lib.hid hR
   clear hS hR h1
   obtain ⟨e0, e1⟩ := blk2 HB2.out
   obtain ⟨p0, p1⟩ := blk2 HP2.out
   have f0 := blk_frozen HB2.out 0
   have f1 := blk_frozen HB2.out 1
   have g1 := blk_frozen HP2.out 1
   have lb2 := blk_lt HB2.out
   have lp2 := blk_lt HP2.out
   go_wp2
   refine bodyPost_ret (v := .agg #[str nm, .int .i64 2]) (results_col rfl rfl (set2 (blk_set_ne HB2.out (by simp; omega) _) _ _)) rfl ?_
   exact fin_late (x := (nm, 2)) H.out HT2.out HS2.out (late2 ((Touch.refl _ w2).setCell (p := ⟨w1.heap.size, 1, none⟩) (fun _ => by simp; omega) _) (Nat.le_refl _) _ _) rfl HR2.out
 | false =>
   rw [h1, if_neg (by simp)] at hS
   rw [if_neg (by simp [h1])] at hR
   have HS2 := Lib.hid hS
   have HR2 := Lib.hid hR
   clear hS hR h1
   go_wp2_with fail
   refine (must_ok c j1 d _ (HS2.out.ext ((Ext.refl w2).alloc _)) (some w2.heap.size) [[73, 78, 84]] (txts_new w2 [[73, 78, 84]]) (by simp)).mono ?_
   rintro e w3 ⟨hT0, hp⟩
   have hT : Touch (onlyB c) w2 w3 := (((Ext.refl w2).alloc _).touch _).trans hT0
   have HT3 := Lib.hid (HT2.out.trans hT)
   have HB3 := Lib.hid (hT.old HB2.out (fun e => hne e)); have HP3 := Lib.hid (hT.old HP2.out (fun e => by have h1 : w1.heap.size = c.sb := e; omega))
   rw [mustN_one] at hp
   have hR := HR2.out
   rcases hr : must c.E [73, 78, 84] (c.ts j1) with ⟨k, p⟩ | ⟨⟨⟩, ts⟩
   · rw [hr] at hp
     simp only [hr, bnd_error, fin_error] at hR
     obtain rfl := hp
     exact bodyPost_panic rfl (RdPost.bad hR HT3.out)
   rw [hr] at hp
   obtain ⟨v, j2, rfl, rfl, rfl, hS⟩ := hp
   simp only [hr, bnd_ok, fin_ok] at hR
   have HS3 := Lib.hid hS
   have HR3 := Lib.hid hR
   clear hT0 hT hS hR hr
   obtain ⟨e0, e1⟩ := blk2 HB3.out
   obtain ⟨p0, p1⟩ := blk2 HP3.out
   have f0 := blk_frozen HB3.out 0
   have f1 := blk_frozen HB3.out 1
   have lb2 := blk_lt HB3.out
   go_wp2
   refine bodyPost_ret (v := .agg #[str nm, .int .i64 1]) (results_col rfl rfl (set2 HB3.out _ _)) rfl ?_
   exact fin_late (x := (nm, 1)) H.out HT3.out HS3.out (late2 (Touch.refl _ w3) (Nat.le_refl _) _ _) rfl HR3.out
theorem period_ok (c : Cx) (i d : Nat) (w : World) (h : Src w c i d) :
   Calls Tryz.prog 60 #[.pointer (some ⟨c.sb, 0, none⟩)] w (RdPost VPer w c d (period c.E (c.ts i))) := by
 have H := Lib.hid h
 have lb := blk_lt h.blk
 obtain ⟨q0, q1, q2, q3⟩ := blk4 h.blk
 have hne : w.heap.size ≠ c.sb := by omega
 have HT0 : Hid (Touch (onlyB c) w (w.alloc zPer)) := Lib.hid (((Ext.refl w).alloc _).touch _)
 have HB0 : Hid ((w.alloc zPer).heap[w.heap.size]? = some zPer) := blk_new w _
 obtain ⟨R, hR⟩ : ∃ R, R = period c.E (c.ts i) := ⟨_, rfl⟩
 rw [← hR]
 unfold period at hR
 have HR0 := Lib.hid hR
 clear hR h
 go_enter Tryz.func60, Tryz.ntmps60
 go_wp2_with fail
 refine (number_ok' c i d _ (H.out.ext ((Ext.refl w).alloc zPer))).mono ?_
 rintro e w1 ⟨hT, hp⟩
 have HT1 := Lib.hid (HT0.out.trans hT)
 have HB1 := Lib.hid (hT.old HB0.out (fun e => hne e))
 have hR := HR0.out
 rcases hr : number c.E (c.ts i) with ⟨k, p⟩ | ⟨a, ts⟩
 · rw [hr] at hp
   simp only [hr, bnd_error, fin_error] at hR
   obtain rfl := hp
   exact bodyPost_panic rfl (RdPost.bad hR HT1.out)
 rw [hr] at hp
 obtain ⟨v, j1, rfl, rfl, rfl, hS⟩ := hp
 simp only [hr, bnd_ok, fin_ok] at hR
 have HS1 := Lib.hid hS
 have HR1 := Lib.hid hR
 clear hT hS hR hr
 have lb1 := blk_lt HB1.out
 have lbs := blk_lt HS1.out.blk
 clear q0 q1 q2 q3
 go_wp2_with fail
 have HT1b : Hid (Touch (onlyB c) w (w1.alloc (.cells #[.int .i64 (a : Int), .int .i64 0] 28))) := Lib.hid (HT1.out.alloc _)
 have HS1b := Lib.hid (HS1.out.ext ((Ext.refl w1).alloc (.cells #[.int .i64 (a : Int), .int .i64 0] 28)))
 have HB1b : Hid ((w1.alloc (.cells #[.int .i64 (a : Int), .int .i64 0] 28)).heap[w.heap.size]? = some zPer) := Lib.hid (blk_alloc HB1.out)
 have HP1 : Hid ((w1.alloc (.cells #[.int .i64 (a : Int), .int .i64 0] 28)).heap[w1.heap.size]? = some (.cells #[.int .i64 (a : Int), .int .i64 0] 28 (0, 0))) := Lib.hid (blk_new _ _)
 refine (must_ok c j1 d _ (HS1b.out.ext ((Ext.refl _).alloc _)) (some (w1.heap.size + 1)) [[84, 79]] (txts_new2 w1 _ [[84, 79]]) (by simp)).mono ?_
 rintro e w2 ⟨hT0, hp⟩
 have hT : Touch (onlyB c) (w1.alloc (.cells #[.int .i64 (a : Int), .int .i64 0] 28)) w2 := (((Ext.refl _).alloc _).touch _).trans hT0
 have HT2 := Lib.hid (HT1b.out.trans hT)
 have HB2 := Lib.hid (hT.old HB1b.out (fun e => hne e))
 have HP2 := Lib.hid (hT.old HP1.out (fun e => by have h1 : w1.heap.size = c.sb := e; omega))
 rw [mustN_one] at hp
 have hR := HR1.out
 rcases hr : must c.E [84, 79] (c.ts j1) with ⟨k, p⟩ | ⟨⟨⟩, ts⟩
 · rw [hr] at hp
   simp only [hr, bnd_error, fin_error] at hR
   obtain rfl := hp
   exact bodyPost_panic rfl (RdPost.bad hR HT2.out)
 rw [hr] at hp
 obtain ⟨v, j2, rfl, rfl, rfl, hS⟩ := hp
 simp only [hr, bnd_ok, fin_ok] at hR
 have HS2 := Lib.hid hS
 have HR2 := Lib.hid hR
 clear hT0 hT hS hR hr HT1b HS1b HB1b HP1
 have hnp : w1.heap.size ≠ c.sb := by omega
 go_wp2_with fail
 refine (may_ok c j2 d _ (HS2.out.ext ((Ext.refl w2).alloc _)) (some w2.heap.size) [[70, 79, 82, 69, 86, 69, 82]] (txts_new w2 [[70, 79, 82, 69, 86, 69, 82]]) (by simp)).mono ?_
 rintro e w3 ⟨rfl, hS, hT0⟩
 rw [mayN_one] at hS ⊢
 have hT : Touch (onlyB c) w2 w3 := (((Ext.refl w2).alloc _).touch _).trans hT0
 have HT3 := Lib.hid (HT2.out.trans hT)
 have HB3 := Lib.hid (hT.old HB2.out (fun e => hne e)); have HP3 := Lib.hid (hT.old HP2.out (fun e => hnp e))
 clear hT0 hT
 have hR := HR2.out
 have lp3 := blk_lt HP3.out
 cases h1 : isT [70, 79, 82, 69, 86, 69, 82] (c.ts j2) with
 | true =>
   rw [h1, if_pos rfl] at hS
   simp only [if_pos h1, Src.tail, bnd_ok] at hR
   have HS3 := Lib.hid hS
   have HR3 := Lib.hid hR
   clear hS hR h1
   generalize hA : (a : Int) = A at *
   have HA := Lib.hid hA
   clear hA
   obtain ⟨p0, p1⟩ := blk2 HP3.out
   have g1 := blk_frozen HP3.out 1
   have lp4 := blk_lt HP3.out
   obtain ⟨e0, e1⟩ := blk2 HB3.out
   have f0 := blk_frozen HB3.out 0
   have f1 := blk_frozen HB3.out 1
   have lb4 := blk_lt HB3.out
   have hl4 : Touch (fun b => b = w1.heap.size) w3 (w3.setCell ⟨w1.heap.size, 1, none⟩ (.int .i64 1099511627776)) := (Touch.refl (fun b => b = w1.heap.size) w3).setCell (p := ⟨w1.heap.size, 1, none⟩) (fun _ => rfl) _
   have hS4 : Src (w3.setCell ⟨w1.heap.size, 1, none⟩ (.int .i64 1099511627776)) c (j2 + 1) d := HS3.out.touch hl4 (fun e => hnp e.symm) (fun b hb e => by
     have h1 := H.out.toks
     rw [hb] at h1
     have := h1.block_lt
     omega)
   have HS4b := Lib.hid hS4
   have HT4b := Lib.hid (HT3.out.late' (b := w1.heap.size) (by omega) 1 (.int .i64 1099511627776))
   clear hl4 hS4
   by_cases hc : FOREVER ≤ a ∨ FOREVER < FOREVER
   · have hRb : R = .error (40, plc c.E (c.ts i)) := by have := HR3.out; rw [if_pos hc] at this; exact this
     have HRB := Lib.hid hRb
     have HS5 := Lib.hid (HS4b.out.move (j := i) H.out.le)
     obtain ⟨q0, q1, q2, q3⟩ := blk4 HS3.out.blk
     have fz := blk_frozen HS3.out.blk 1
     have lbs4 := blk_lt HS3.out.blk
     clear hRb
     by_cases hza : FOREVER ≤ a
     · have t1 : decide ((1099511627776 : Int) ≤ A) = true := by have hA9 := HA.out; (try simp only [FOREVER] at hza); first | (simp; done) | (simp; omega)
       clear hc hza
       go_wp2_with fail
       refine (fail_ok c i d _ HS5.out 40).mono ?_
       rintro e w5 ⟨rfl, hE⟩
       go_wp2
       exact bodyPost_panic rfl (RdPost.bad HRB.out ((HT4b.out.setCell (p := ⟨c.sb, 1, none⟩) (fun _ => rfl) _).trans (hE.touch _)))
     · exact absurd (hc.resolve_left hza) (by simp)
       all_goals (
        have t1 : decide ((1099511627776 : Int) ≤ A) = false := by have hA9 := HA.out; (try simp only [FOREVER] at hza); first | (simp; done) | (simp; omega)
        have t2 : decide ((1099511627776 : Int) < 1099511627776) = true := by have h2 : FOREVER < FOREVER := hc.resolve_left hza; simp only [FOREVER] at h2; first | (simp; done) | (simp; omega) | omega
        clear hc hza
        go_wp2_with fail
        refine (fail_ok c i d _ HS5.out 40).mono ?_
        rintro e w5 ⟨rfl, hE⟩
        go_wp2
        exact bodyPost_panic rfl (RdPost.bad HRB.out ((HT4b.out.setCell (p := ⟨c.sb, 1, none⟩) (fun _ => rfl) _).trans (hE.touch _))))
   · have HRB : Hid (R = .ok ((a, FOREVER), c.ts (j2 + 1))) := by have := HR3.out; rw [if_neg hc] at this; exact Lib.hid this
     have t1 : decide ((1099511627776 : Int) ≤ A) = false := by have hA9 := HA.out; (try simp only [FOREVER] at hc); first | (simp; done) | (simp; omega)
     have t2 : decide ((1099511627776 : Int) < 1099511627776) = false := by (try simp only [FOREVER] at hc); first | (simp; done) | (simp; omega)
     clear hc
     go_wp2
     refine bodyPost_ret (v := .agg #[.int .i64 A, .int .i64 1099511627776]) (results_per rfl rfl (set2 (blk_set_ne HB3.out (by simp; omega) _) _ _)) rfl ?_
     exact fin_late (x := (a, FOREVER)) H.out HT4b.out HS4b.out (late2 (Touch.refl _ _) (Nat.le_refl _) _ _) (by rw [← HA.out]; rfl) HRB.out
 | false =>
   rw [h1, if_neg (by simp)] at hS
   simp only [h1, Bool.false_eq_true, if_false] at hR
   have HS3 := Lib.hid hS
   have HR3 := Lib.hid hR
   clear hS hR h1
   go_wp2_with fail
   refine (number_ok' c j2 d _ HS3.out).mono ?_
   rintro e w4 ⟨hT, hp⟩
   have HT4 := Lib.hid (HT3.out.trans hT)
   have HB4 := Lib.hid (hT.old HB3.out (fun e => hne e)); have HP4 := Lib.hid (hT.old HP3.out (fun e => hnp e))
   have hR := HR3.out
   rcases hr : number c.E (c.ts j2) with ⟨k, p⟩ | ⟨z, ts⟩
   · rw [hr] at hp
     simp only [hr, bnd_error, fin_error] at hR
     obtain rfl := hp
     exact bodyPost_panic rfl (RdPost.bad hR HT4.out)
   rw [hr] at hp
   obtain ⟨v, j4, rfl, rfl, rfl, hS⟩ := hp
   simp only [hr, bnd_ok, fin_ok] at hR
   have HS4 := Lib.hid hS
   have HR4 := Lib.hid hR
   clear hT hS hR hr
   obtain ⟨p0, p1⟩ := blk2 HP4.out
   have g1 := blk_frozen HP4.out 1
   have lp4 := blk_lt HP4.out
   obtain ⟨e0, e1⟩ := blk2 HB4.out
   have f0 := blk_frozen HB4.out 0
   have f1 := blk_frozen HB4.out 1
   have lb4 := blk_lt HB4.out
   have hl4 : Touch (fun b => b = w1.heap.size) w4 (w4.setCell ⟨w1.heap.size, 1, none⟩ (.int .i64 (z : Int))) := (Touch.refl (fun b => b = w1.heap.size) w4).setCell (p := ⟨w1.heap.size, 1, none⟩) (fun _ => rfl) _
   have hS4 : Src (w4.setCell ⟨w1.heap.size, 1, none⟩ (.int .i64 (z : Int))) c j4 d := HS4.out.touch hl4 (fun e => hnp e.symm) (fun b hb e => by
     have h1 := H.out.toks
     rw [hb] at h1
     have := h1.block_lt
     omega)
   have HS4b := Lib.hid hS4
   have HT4b := Lib.hid (HT4.out.late' (b := w1.heap.size) (by omega) 1 (.int .i64 (z : Int)))
   clear hl4 hS4
   by_cases hc : z ≤ a ∨ FOREVER < z
   · have hRb : R = .error (40, plc c.E (c.ts i)) := by have := HR4.out; rw [if_pos hc] at this; exact this
     have HRB := Lib.hid hRb
     have HS5 := Lib.hid (HS4b.out.move (j := i) H.out.le)
     obtain ⟨q0, q1, q2, q3⟩ := blk4 HS4.out.blk
     have fz := blk_frozen HS4.out.blk 1
     have lbs4 := blk_lt HS4.out.blk
     clear hRb
     by_cases hza : z ≤ a
     · have t1 : decide (z ≤ a) = true := by skip; (try simp only [FOREVER] at hza); first | (simp; done) | (simp; omega)
       clear hc hza
       go_wp2_with fail
       refine (fail_ok c i d _ HS5.out 40).mono ?_
       rintro e w5 ⟨rfl, hE⟩
       go_wp2
       exact bodyPost_panic rfl (RdPost.bad HRB.out ((HT4b.out.setCell (p := ⟨c.sb, 1, none⟩) (fun _ => rfl) _).trans (hE.touch _)))
     · skip
       all_goals (
        have t1 : decide (z ≤ a) = false := by skip; (try simp only [FOREVER] at hza); first | (simp; done) | (simp; omega)
        have t2 : decide ((1099511627776 : Int) < (z : Int)) = true := by have h2 : FOREVER < z := hc.resolve_left hza; simp only [FOREVER] at h2; first | (simp; done) | (simp; omega) | omega
        clear hc hza
        go_wp2_with fail
        refine (fail_ok c i d _ HS5.out 40).mono ?_
        rintro e w5 ⟨rfl, hE⟩
        go_wp2
        exact bodyPost_panic rfl (RdPost.bad HRB.out ((HT4b.out.setCell (p := ⟨c.sb, 1, none⟩) (fun _ => rfl) _).trans (hE.touch _))))
   · have HRB : Hid (R = .ok ((a, z), c.ts j4)) := by have := HR4.out; rw [if_neg hc] at this; exact Lib.hid this
     have t1 : decide (z ≤ a) = false := by skip; (try simp only [FOREVER] at hc); first | (simp; done) | (simp; omega)
     have t2 : decide ((1099511627776 : Int) < (z : Int)) = false := by (try simp only [FOREVER] at hc); first | (simp; done) | (simp; omega)
     clear hc
     go_wp2
     refine bodyPost_ret (v := .agg #[.int .i64 (a : Int), .int .i64 (z : Int)]) (results_per rfl rfl (set2 (blk_set_ne HB4.out (by simp; omega) _) _ _)) rfl ?_
     exact fin_late (x := (a, z)) H.out HT4b.out HS4b.out (late2 (Touch.refl _ _) (Nat.le_refl _) _ _) (rfl) HRB.out
end Go.Proofs.YtkhnpmeohjafiaaGreatDoor
