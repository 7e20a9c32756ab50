/- btree.Range: what it hands back gives out the keys of its range, in order. -/
import Derived.Test.YtkejjahlglldlaaBtC
import Derived.Test.YtkejjahlglldlaaBtE
namespace Go.Proofs.Ytkejjahlglldlaa
open Go.RowKit Go.Lib Go.Shelf

theorem ext_grown {W W' : World} (h : Ext W W') : W.grownBy W' none := ⟨h.os, h.tape, h.output, h.size, fun k hk _ => Below.block h k hk⟩
theorem RoundIn.anyN {m m' : Nat} {P : Program} {l : Nat} {f : FuncId} {tmps : Array Value} {assign body : Code} {w : World} {R : Ending → World → Prop} (h : RoundIn Fence.wide m P l f tmps assign body w R) : RoundIn Fence.wide m' P l f tmps assign body w R :=
  ⟨h.1, fun c cs _ => h.2 c cs (room_wide _)⟩
theorem YieldAt.anyN {m : Nat} (m' : Nat) {P : Program} {l : Nat} {args : Array Value} {W : World} {R : Ending → World → Prop} (h : YieldAt Fence.wide m P l args W R) : YieldAt Fence.wide m' P l args W R := by
  obtain ⟨fn, tmps, assign, body, hy, hR⟩ := h
  exact ⟨fn, tmps, assign, body, hy, RoundIn.anyN hR⟩

/-- What the iterator has captured. -/
structure Caught (w : World) (tb : Nat) (fr to : List UInt8) (b : Nat) : Prop where
  c0 : w.heap[b]? = some (.cells #[.pointer (some ⟨tb, 0, none⟩)] 24 (0, 0))
  c1 : w.heap[b + 1]? = some (.cells #[str fr] 9 (0, 0))
  c2 : w.heap[b + 2]? = some (.cells #[str to] 9 (0, 0))
abbrev iterV (b : Nat) : Value := .func (.func 39) #[] #[.pointer (some ⟨b, 0, none⟩), .pointer (some ⟨b + 1, 0, none⟩), .pointer (some ⟨b + 2, 0, none⟩)]

set_option maxRecDepth 100000 in
set_option maxHeartbeats 2000000 in
theorem Range_ok (tb : Nat) (fr to : List UInt8) (w : World) :
    Calls Try.prog 10 #[.pointer (some ⟨tb, 0, none⟩), str fr, str to] w fun e w' => e = .returned (iterV w.heap.size) ∧ Caught w' tb fr to w.heap.size ∧ Ext w w' := by
  go_enter Try.func10, Try.ntmps10
  go_wp2
  go_ret
  refine ⟨rfl, ⟨?_, ?_, ?_⟩, (((Ext.refl w).alloc _).alloc _).alloc _⟩
  · exact blk_alloc (blk_alloc (blk_new w _))
  · have := blk_new (w.alloc (.cells #[.pointer (some ⟨tb, 0, none⟩)] 24)) (.cells #[str fr] 9)
    rw [World.size_alloc] at this
    exact blk_alloc this
  · have := blk_new ((w.alloc (.cells #[.pointer (some ⟨tb, 0, none⟩)] 24)).alloc (.cells #[str fr] 9)) (.cells #[str to] 9)
    rw [World.size_alloc, World.size_alloc] at this
    exact this

def IterPost (fr to : List UInt8) (L : List Ent) (J Jx : List Ent → World → Prop) (e : Ending) (W' : World) : Prop :=
  (∃ v, e = .returned v) ∧ ((∃ xs, xs = sel fr to L ∧ J xs W') ∨ (∃ pre, pre <+: sel fr to L ∧ Jx pre W'))
set_option maxRecDepth 100000 in
set_option maxHeartbeats 4000000 in
theorem iter_ok (tb m B l b : Nat) (L : List Ent) (bs : List Nat) (fr to : List UInt8) (J Jx : List Ent → World → Prop) (W : World) (hT : TreeAt W tb m L bs) (hC : Caught W tb fr to b) (hB : B ≤ W.heap.size) (hJa : AbidesFrom W.heap.size J)
    (PX : Ent → Prop) (hPX : ∀ e ∈ sel fr to L, PX e) (hY : ∀ p x W, PX x → J p W → p.length < (sel fr to L).length → YieldAt Fence.wide 0 Try.prog l #[str x.1, .int .i64 x.2] W fun e W' => (e = .returned (.bool true) ∧ J (p ++ [x]) W' ∧ KB B W W') ∨ (e = .returned (.bool false) ∧ Jx (p ++ [x]) W')) (h0 : J [] W) :
    Calls Try.prog 39 #[.func (.yield l) #[] #[], .pointer (some ⟨b, 0, none⟩), .pointer (some ⟨b + 1, 0, none⟩), .pointer (some ⟨b + 2, 0, none⟩)] W (IterPost fr to L J Jx) := by
  obtain ⟨rb, H, n, bs', hb, hr, hlo, hhi, hbs⟩ := hT.ex
  obtain ⟨t0, t1, t2⟩ := blk3 hb
  have x0 := blk1 hC.c0
  have x1 := blk1 hC.c1
  have x2 := blk1 hC.c2
  have hJd : ∀ p W', J p W' → J p W'.drew := fun p W' h => hJa p W' _ none h (ext_grown ((Ext.refl W').drew)) (fun r e => by cases e)
  have HR := Lib.hid hr; have HY := Lib.hid hY; have HPX := Lib.hid hPX; have HJA := Lib.hid hJa; have HJD := Lib.hid hJd; have H0 := Lib.hid h0; have HS := Lib.hid hT.srt; have HM := Lib.hid hT.hi; have HBB := Lib.hid hB; have HHI := Lib.hid hhi
  clear hr hY hPX hJa hJd h0 hT hC hB hb hlo hbs hhi
  go_enter Try.func39, Try.ntmps39
  go_wp2
  refine region_calm [.l 0, .p 1, .p 2, .l 3, .l 5, .l 6, .p 7, .h 4 true, .h 8 false] f_mixed (by kernel_rfl) (by kernel_rfl) ?_
  repeat (first | (refine plan_p rfl (fun K hK => ?_); go_simp; refine hK _ ?_; clear hK K) | (refine plan_l rfl (fun K hK => ?_); go_simp; refine hK _ ?_; clear hK K))
  refine plan_ct rfl rfl (fun K _ hK => ?_)
  go_wp2_with fail
  refine (copied_ok m HM.out H ⟨rb, n, L, bs'⟩ W.drew (HR.out.ext (Ext.refl W).drew) HHI.out).mono ?_
  rintro e W2 ⟨k', rfl, hk1, hk2, hk3, hk4, hE⟩
  go_wp2
  refine hK _ _ (hE) ?_; clear hK K
  refine plan_c rfl rfl (fun K _ hK => ?_)
  go_wp2_with fail
  have hJ2 : J [] W2 := HJA.out [] W W2 none H0.out (ext_grown ((Ext.refl W).drew.trans hE)) (fun r e => by cases e)
  have hL : k'.L = L := hk3
  refine (walk_ok m B (sel fr to L).length l HM.out fr to J Jx HJD.out PX HY.out H k' W2 [] hk1 (by rw [hk2]; exact HHI.out) (fun x hx => Nat.le_trans HBB.out (hk4 x hx)) (by rw [hL]; exact HS.out) (by rw [hL]; exact HPX.out) hJ2 (by rw [hL]; simp)).mono ?_
  rw [hL]
  have fin : ∀ (W' : World) (v : Value), ((∃ xs, xs = sel fr to L ∧ J xs W') ∨ (∃ pre, pre <+: sel fr to L ∧ Jx pre W')) → IterPost fr to L J Jx (.returned v) W' := fun W' v h => ⟨⟨v, rfl⟩, h⟩
  have FIN := Lib.hid fin; clear fin
  clear hk1 hk2 hk3 hk4 hJ2 hL t0 t1 t2 x0 x1 x2
  rintro e W3 (⟨rfl, h1, -, -⟩ | ⟨rfl, (⟨h1, -, -⟩ | ⟨q, h1, h2⟩)⟩)
  · have H1 := Lib.hid h1; clear h1
    go_wp2
    refine plan_done ?_
    go_wp2
    (try simp only [Exit.inBlock, Exit.then]); refine bodyPost_end (results_none rfl _ _ _) rfl ?_
    exact FIN.out _ _ (.inl ⟨_, rfl, by simpa using H1.out⟩)
  · have H1 := Lib.hid h1; clear h1
    go_wp2
    refine plan_done ?_
    go_wp2
    (try simp only [Exit.inBlock, Exit.then]); refine bodyPost_end (results_none rfl _ _ _) rfl ?_
    exact FIN.out _ _ (.inl ⟨_, rfl, by simpa using H1.out⟩)
  · have H1 := Lib.hid h1; have H2 := Lib.hid h2; clear h1 h2
    go_wp2
    refine plan_done ?_
    go_wp2
    (try simp only [Exit.inBlock, Exit.then]); refine bodyPost_end (results_none rfl _ _ _) rfl ?_
    exact FIN.out _ _ (.inr ⟨q, H1.out, by simpa using H2.out⟩)

/-- An entry of L. -/
abbrev EntOf (L : List Ent) := { e : Ent // e ∈ L }
abbrev encE {L : List Ent} (e : EntOf L) : Array Value := #[str e.1.1, .int .i64 e.1.2]
theorem Caught.below {w W : World} {tb b : Nat} {fr to : List UInt8} (h : Caught w tb fr to b) (hE : Ext w W) : Caught W tb fr to b := ⟨Ext.block hE h.c0, Ext.block hE h.c1, Ext.block hE h.c2⟩
theorem range_stops (n tb m B b : Nat) (L : List Ent) (bs : List Nat) (fr to : List UInt8) (w : World) (hT : TreeAt w tb m L bs) (hC : Caught w tb fr to b) (hB : B ≤ w.heap.size) :
    SeqStopsK Fence.wide n Try.prog 39 #[.pointer (some ⟨b, 0, none⟩), .pointer (some ⟨b + 1, 0, none⟩), .pointer (some ⟨b + 2, 0, none⟩)] (encE (L := L)) (KB B) (fun ys => ys.map Subtype.val = sel fr to L) (fun p => p.map Subtype.val <+: sel fr to L) (sel fr to L).length w := by
  intro l J Jx W hW hJ hJx hY h0
  refine callsIn_wide.2 ?_
  refine (iter_ok tb m B l b L bs fr to (fun p W => ∃ q : List (EntOf L), q.map Subtype.val = p ∧ J q W) (fun p W => ∃ q : List (EntOf L), q.map Subtype.val = p ∧ Jx q W) W (hT.ext hW) (hC.below hW) (Nat.le_trans hB hW.size)
    (fun p W1 W2 row ⟨q, h1, h2⟩ hg hr => ⟨q, h1, hJ q W1 W2 row h2 hg hr⟩) (fun e => e ∈ L) (fun e he => (List.mem_filter.1 he).1) ?_ ⟨[], rfl, h0⟩).mono ?_
  · rintro p x W1 hx ⟨q, rfl, hq⟩ hlen
    refine YieldAt.mono (YieldAt.anyN 0 (hY q ⟨x, hx⟩ W1 hq (by simpa using hlen))) ?_
    rintro e W' (⟨he, hj, hk⟩ | ⟨he, hj⟩)
    · exact .inl ⟨he, ⟨q ++ [⟨x, hx⟩], by simp, hj⟩, hk⟩
    · exact .inr ⟨he, ⟨q ++ [⟨x, hx⟩], by simp, hj⟩⟩
  · rintro e W' ⟨he, (⟨xs, rfl, q, hq, hj⟩ | ⟨pre, hp, q, hq, hj⟩)⟩
    · exact ⟨he, .inl ⟨q, hq, hj⟩⟩
    · exact ⟨he, .inr ⟨q, (by show q.map Subtype.val <+: _; rw [hq]; exact hp), hj⟩⟩
theorem KB.t {B : Nat} {X Y Z : World} (h : KB B X Y) (k : KB B Y Z) : KB B X Z := h.trans k
theorem KB.b {w : World} (B : Nat) (W : World) (l : Nat) (o o' : Obj) (_ : w.heap.size ≤ l) (h : W.heap[l]? = some o) (hc : o.isCells = false) (_ : o.isWalk = false) : KB B W (W.putObj l o') :=
  have hg := grownBy_putObj' W l o'
  ⟨hg.size, fun k cs t f _ hk => by
    rw [hg.block k (Array.getElem?_eq_some_iff.1 hk).1 (fun e => ?_)]
    · exact hk
    · cases e
      rw [h] at hk
      cases hk
      simp [Obj.isCells] at hc⟩
end Go.Proofs.Ytkejjahlglldlaa
