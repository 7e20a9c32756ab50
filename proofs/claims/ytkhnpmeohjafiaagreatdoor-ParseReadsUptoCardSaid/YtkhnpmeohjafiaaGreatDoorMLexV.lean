/- Lemmas. -/
import Derived.Test.YtkhnpmeohjafiaaGreatDoorMLexU
import Derived.Test.YtkhnpmeohjafiaaGreatDoorMD
namespace Go.Proofs.YtkhnpmeohjafiaaGreatDoor
open Go.RowKit
theorem ei_rtok : EI Tryz.prog 67 120 4 40 :=
 ⟨Tryz.underlying67, by
  obtain ⟨i, h1, h2, h3, h4⟩ := info_parts (P := Tryz.prog) (e := 120) (z := .agg #[.int .i64 0, .string (ByteArray.mk #[]), .int .i64 0, .int .i64 0]) (size := 4) (bytes := 40) (by kernel_rfl)
  exact ⟨i, _, h1, h2, h3, h4, rfl⟩, by omega, by omega⟩
def RTokPost (l : List UInt8) (w : World) (e : Ending) (w' : World) : Prop :=
 Ext w w' ∧ match lexOf l with
  | .inl f => e = .returned (.tuple #[.slice none 0 0, .int .i64 (f.1 : Int), .int .i64 (f.2 : Int)])
  | .inr ts => ∃ g cap, e = .returned (.tuple #[slv g ts.length cap, .int .i64 0, .int .i64 0]) ∧ Sl w' 120 4 g ts.length cap (flatT ts) ∧ (∀ b, g = some b → w.heap.size ≤ b)
structure RSo (w wr : World) (l : List UInt8) (q : Nat) (ts : List Tok) (g : Option Nat) (cap : Nat) : Prop where
 le : q ≤ l.length
 out : Sl wr 120 4 g ts.length cap (flatT ts)
 own : ∀ b, g = some b → w.heap.size ≤ b
 ext : Ext w wr
 few : ts.length ≤ q
 so : tk 0 l = appR ts (tk q (l.drop q))
theorem tk_blank_at {l : List UInt8} {q : Nat} {x : UInt8} (hx : l[q]? = some x) (hb : isB x = true) : tk q (l.drop q) = tk (q + 1) (l.drop (q + 1)) := by
 rw [drop_at hx, tk_blank hb]
theorem RSo.blank {w wr : World} {l : List UInt8} {q : Nat} {ts : List Tok} {g : Option Nat} {cap : Nat} (h : RSo w wr l q ts g cap) {x : UInt8} (hx : l[q]? = some x) (hb : isB x = true) : RSo w wr l (q + 1) ts g cap :=
 ⟨(List.getElem?_eq_some_iff.1 hx).1, h.out, h.own, h.ext, Nat.le_trans h.few (Nat.le_succ _), by rw [h.so, tk_blank_at hx hb]⟩
theorem RSo.next {w w1 X w5 : World} {l : List UInt8} {q cap cap5 g5 k n m : Nat} {ts : List Tok} {g : Option Nat} {t : List UInt8} (h : RSo w w1 l q ts g cap) (hE : Ext w1 X)
   (hap : Sl w5 120 4 (some g5) (ts.length + 1) cap5 (flatT ts ++ tokC (k, t, n, q))) (ht5 : Touch (fun b => g = some b) X w5) (hat : g = some g5 ∨ g5 = X.heap.size)
   (hone : one (l.drop q) = some (k, t, n, m)) : RSo w w5 l (q + m) (ts ++ [(k, t, n, q)]) (some g5) cap5 := by
 have hm := one_le hone
 have hX := hE.size
 have hw := h.ext.size
 refine ⟨?_, ?_, ?_, ?_, ?_, ?_⟩
 · have := h.le
   rw [List.length_drop] at hm
   omega
 · rw [List.length_append, flatT_append]; simpa [flatT] using hap
 · intro b hb
   cases hb
   rcases hat with hat | hat
   · exact h.own _ hat
   · omega
 · exact Touch.freshX (h.ext.trans hE) ht5 (fun k hk => h.own k hk)
 · rw [List.length_append]
   have := h.few
   simp; omega
 · rw [← appR_snoc, ← tk_one hone]; exact h.so
set_option maxRecDepth 100000 in
set_option maxHeartbeats 8000000 in
theorem rtokens_ok (l : List UInt8) (w : World) (hl : l.length ≤ 1000000000) :
   Calls Tryz.prog 22 #[str l] w (RTokPost l w) := by
 have hsz := bs_size l
 by_cases hlong : 4096 < l.length
 · go_enter Tryz.func22, Tryz.ntmps22
   go_wp2
   (try simp only [Exit.inBlock, Exit.then])
   refine bodyPost_ret (v := .tuple #[.slice none 0 0, .int .i64 2, .int .i64 4096]) (by simp [results, Tryz.results22, go_sem]) rfl ?_
   unfold RTokPost lexOf
   rw [if_pos hlong]
   exact ⟨Ext.refl w, rfl⟩
 · have hlen : l.length ≤ 4096 := by omega
   go_enter Tryz.func22, Tryz.ntmps22
   go_wp2
   go_loopg [5, 6] l.length (fun k v5 v6 wr => ∃ (q : Nat) (ts : List Tok) (g : Option Nat) (cap : Nat), k = l.length - q ∧ v5 = slv g ts.length cap ∧ v6 = .int .i64 (q : Int) ∧ RSo w wr l q ts g cap)
   case atStart => exact ⟨0, [], none, 0, rfl, rfl, rfl, Nat.zero_le _, Sl.nil _ _ _, by simp, Ext.refl _, Nat.le_refl _, (appR_nil _).symm⟩
   case round =>
    obtain ⟨q, ts, g, cap, hk, rfl, rfl, hR⟩ := hrel
    have HK := Lib.hid hk; clear hk
    have HR := Lib.hid hR; clear hR
    by_cases hlt : q < l.length
    · obtain ⟨x, hx⟩ : ∃ x, l[q]? = some x := ⟨_, List.getElem?_eq_getElem hlt⟩
      have hxg := bs_get hx
      have HX := Lib.hid hx; clear hx
      cases hisB : isB x with
      | true =>
        have HB := Lib.hid hisB
        have hb := hisB
        simp only [isB, decide_eq_true_eq] at hb
        rcases hb with hb | hb | hb
        · have hz : (x.toNat : Int) = 32 := by omega
          clear hb
          go_wp2
          go_roundg (l.length - (q + 1))
          case measure => have := HK.out; omega
          case rel => exact ⟨q + 1, ts, g, cap, rfl, rfl, by go_num, HR.out.blank HX.out HB.out⟩
        · have hz : (x.toNat : Int) = 9 := by omega
          clear hb
          go_wp2
          go_roundg (l.length - (q + 1))
          case measure => have := HK.out; omega
          case rel => exact ⟨q + 1, ts, g, cap, rfl, rfl, by go_num, HR.out.blank HX.out HB.out⟩
        · have hz : (x.toNat : Int) = 10 := by omega
          clear hb
          go_wp2
          go_roundg (l.length - (q + 1))
          case measure => have := HK.out; omega
          case rel => exact ⟨q + 1, ts, g, cap, rfl, rfl, by go_num, HR.out.blank HX.out HB.out⟩
      | false =>
        have hb := hisB
        simp only [isB, decide_eq_false_iff_not] at hb
        have hz1 : ((x.toNat : Int) == 32) = false := by rw [beq_eq_false_iff_ne]; omega
        have hz2 : ((x.toNat : Int) == 9) = false := by rw [beq_eq_false_iff_ne]; omega
        have hz3 : ((x.toNat : Int) == 10) = false := by rw [beq_eq_false_iff_ne]; omega
        have HNB := Lib.hid hisB
        clear hb hisB
        go_wp2_with fail
        refine (rone_ok l q wr hlt hl).mono ?_
        rintro e w3 ⟨hE3, hp⟩
        have HE3 := Lib.hid hE3; clear hE3
        cases hone : one (l.drop q) with
        | none =>
          rw [hone] at hp
          obtain ⟨k, t, n, p, r, rfl⟩ := hp
          have HONE := Lib.hid hone; clear hone
          go_wp2
          (try simp only [Exit.inBlock, Exit.then])
          refine bodyPost_ret (v := .tuple #[.slice none 0 0, .int .i64 140, .int .i64 (q : Int)]) (by simp [results, Tryz.results22, go_sem]) rfl ?_
          unfold RTokPost
          rw [lexOf_bad hlen (tk_bad HX.out HNB.out HONE.out) HR.out.so]
          exact ⟨(HR.out.ext.trans HE3.out).alloc _, rfl⟩
        | some z =>
          obtain ⟨k, t, n, m⟩ := z
          rw [hone] at hp
          simp only at hp
          subst hp
          have HONE := Lib.hid hone; clear hone
          go_wp2_with (at_builtin; refine (fun (h : True → _) => h trivial) ?_)
          intro _
          refine app_lit ei_rtok rfl (.tmp 45) (.tmp 47) rfl (g := g) (n := ts.length) (cap := cap) (b := w3.heap.size + 1) (by rfl) (HR.out.out.ext ((HE3.out.alloc _).alloc _)) (by rfl) rfl (blk_new_at _ (by simp)) (by simp [Value.oneCell']) (by omega) (by have := HR.out.few; omega) ?_
          intro g5 cap5 w5 hS5 hT5 hat5
          have HR5 := Lib.hid (RSo.next HR.out ((HE3.out.alloc _).alloc _) hS5 hT5 hat5 HONE.out)
          have hm := one_le HONE.out
          have HM := Lib.hid hm.1
          clear hS5 hT5 hat5 hm
          go_wp2
          go_roundg (l.length - (q + m))
          case measure => have := HK.out; have := HM.out; omega
          case rel => exact ⟨q + m, ts ++ [(k, t, n, q)], some g5, cap5, rfl, by rw [List.length_append]; rfl, rfl, HR5.out⟩
    · have hqe : q = l.length := by have := HR.out.le; omega
      go_wp2
      (try simp only [Exit.inBlock, Exit.then])
      refine bodyPost_ret (v := .tuple #[slv g ts.length cap, .int .i64 0, .int .i64 0]) (by simp [results, Tryz.results22, go_sem]) rfl ?_
      unfold RTokPost
      rw [lexOf_done hlen (by omega) HR.out.so]
      exact ⟨HR.out.ext, g, cap, rfl, HR.out.out, HR.out.own⟩
end Go.Proofs.YtkhnpmeohjafiaaGreatDoor
