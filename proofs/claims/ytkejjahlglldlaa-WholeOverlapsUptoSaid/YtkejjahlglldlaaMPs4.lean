/- pstree.New, Len, Top, Add, Cut: walked. -/
import Derived.Test.YtkejjahlglldlaaMS1
import Derived.Test.YtkejjahlglldlaaMA
import Derived.Deep.LoopGhost
namespace Go.Proofs.Ytkejjahlglldlaa.Ps
open Go.RowKit

/-- A tree with a hole, from the hole up. -/
inductive PC where
  | top
  | left (x y i : Int) (c : PC) (r : PT)
  | right (x y i : Int) (l : PT) (c : PC)

def fill : PC → PT → PT
  | .top, t => t
  | .left x y i c r, t => fill c (.node x y i t r)
  | .right x y i l c, t => fill c (.node x y i l t)

/-- The hole is the cell ⟨ab, ao⟩; bs: the blocks of the nodes around it. -/
def HoleRep (w : World) (tb m : Nat) : PC → Nat → Nat → List Nat → Prop
  | .top, ab, ao, bs => ab = tb ∧ ao = 0 ∧ bs = [] ∧ ∃ h, w.heap[tb]? = some (.cells #[h, .map (some m)] 117 (0, 0))
  | .left x y i c r, ab, ao, bs => ao = 3 ∧ ∃ h vr br pa po bc, w.heap[ab]? = some (.cells #[.int .i64 x, .int .i64 y, .int .i64 i, h, ptr vr] 126 (0, 0)) ∧
      NodeRep w r vr br ∧ HoleRep w tb m c pa po bc ∧ w.cell? ⟨pa, po, none⟩ = some (ptr (some ab)) ∧ bs = ab :: (br ++ bc)
  | .right x y i l c, ab, ao, bs => ao = 4 ∧ ∃ h vl bl pa po bc, w.heap[ab]? = some (.cells #[.int .i64 x, .int .i64 y, .int .i64 i, ptr vl, h] 126 (0, 0)) ∧
      NodeRep w l vl bl ∧ HoleRep w tb m c pa po bc ∧ w.cell? ⟨pa, po, none⟩ = some (ptr (some ab)) ∧ bs = ab :: (bl ++ bc)

theorem HoleRep.mem {w : World} {tb m : Nat} {c : PC} {ab ao : Nat} {bs : List Nat} (h : HoleRep w tb m c ab ao bs) : ab = tb ∨ ab ∈ bs := by
  cases c with
  | top => exact .inl h.1
  | left x y i c r => obtain ⟨_, _, _, _, _, _, _, _, _, _, _, rfl⟩ := h; exact .inr (by simp)
  | right x y i l c => obtain ⟨_, _, _, _, _, _, _, _, _, _, _, rfl⟩ := h; exact .inr (by simp)

theorem HoleRep.congr {w w' : World} {tb m : Nat} : ∀ {c : PC} {ab ao : Nat} {bs : List Nat}, HoleRep w tb m c ab ao bs → (∀ k, (k = tb ∨ k ∈ bs) → w'.heap[k]? = w.heap[k]?) → HoleRep w' tb m c ab ao bs
  | .top, _, _, _, ⟨h1, h2, h3, h, h4⟩, hc => ⟨h1, h2, h3, h, by rw [hc tb (.inl rfl)]; exact h4⟩
  | .left x y i c r, ab, ao, bs, ⟨h1, h, vr, br, pa, po, bc, h2, h3, h4, h5, h6⟩, hc => by
    subst h6
    have h4' := h4.congr (w' := w') (fun k hk => hc k (hk.imp id fun h => by simp [h]))
    refine ⟨h1, h, vr, br, pa, po, bc, by rw [hc ab (by simp)]; exact h2, h3.congr fun k hk => hc k (by simp [hk]), h4', ?_, rfl⟩
    rw [World.cell?_of_block (w := w) (hc pa (h4.mem.imp id fun h => by simp [h]))]; exact h5
  | .right x y i l c, ab, ao, bs, ⟨h1, h, vr, br, pa, po, bc, h2, h3, h4, h5, h6⟩, hc => by
    subst h6
    have h4' := h4.congr (w' := w') (fun k hk => hc k (hk.imp id fun h => by simp [h]))
    refine ⟨h1, h, vr, br, pa, po, bc, by rw [hc ab (by simp)]; exact h2, h3.congr fun k hk => hc k (by simp [hk]), h4', ?_, rfl⟩
    rw [World.cell?_of_block (w := w) (hc pa (h4.mem.imp id fun h => by simp [h]))]; exact h5

theorem HoleRep.lt {w : World} {tb m : Nat} : ∀ {c : PC} {ab ao : Nat} {bs : List Nat}, HoleRep w tb m c ab ao bs → ∀ k, (k = tb ∨ k ∈ bs) → k < w.heap.size
  | .top, _, _, _, ⟨_, _, rfl, h, h4⟩, k, hk => by
    rcases hk with rfl | hk
    · exact blk_lt h4
    · simp at hk
  | .left x y i c r, ab, ao, bs, ⟨_, h, vr, br, pa, po, bc, h2, h3, h4, h5, h6⟩, k, hk => by
    subst h6
    rcases hk with hk | hk
    · exact h4.lt k (.inl hk)
    · rcases List.mem_cons.1 hk with rfl | hk
      · exact blk_lt h2
      · rcases List.mem_append.1 hk with hk | hk
        · exact h3.lt k hk
        · exact h4.lt k (.inr hk)
  | .right x y i l c, ab, ao, bs, ⟨_, h, vr, br, pa, po, bc, h2, h3, h4, h5, h6⟩, k, hk => by
    subst h6
    rcases hk with hk | hk
    · exact h4.lt k (.inl hk)
    · rcases List.mem_cons.1 hk with rfl | hk
      · exact blk_lt h2
      · rcases List.mem_append.1 hk with hk | hk
        · exact h3.lt k hk
        · exact h4.lt k (.inr hk)

theorem HoleRep.ext {w w' : World} {tb m : Nat} {c : PC} {ab ao : Nat} {bs : List Nat} (h : HoleRep w tb m c ab ao bs) (he : Ext w w') : HoleRep w' tb m c ab ao bs :=
  h.congr fun k hk => Below.block he k (h.lt k hk)
theorem HoleRep.touch {S : Nat → Prop} {w w' : World} {tb m : Nat} {c : PC} {ab ao : Nat} {bs : List Nat} (h : HoleRep w tb m c ab ao bs) (he : Touch S w w') (hn : ∀ k, (k = tb ∨ k ∈ bs) → ¬ S k) : HoleRep w' tb m c ab ao bs :=
  h.congr fun k hk => he.block k (h.lt k hk) (hn k hk)

theorem cell_set_ne {w : World} {p q : Addr} {u v : Value} (h : w.cell? p = some u) (hn : p.block ≠ q.block) : (w.setCell q v).cell? p = some u := by
  rw [World.cell?_of_block (w := w) (Below.heap_setCell _ _ _ _ hn)]; exact h

/-- A store into the hole. -/
theorem HoleRep.plugged {w : World} {tb m : Nat} {c : PC} {ab ao : Nat} {bs : List Nat} (h : HoleRep w tb m c ab ao bs) (hnd : (tb :: bs).Nodup) (u : Value) :
    HoleRep (w.setCell ⟨ab, ao, none⟩ u) tb m c ab ao bs := by
  cases c with
  | top =>
    obtain ⟨rfl, rfl, rfl, h, h4⟩ := h
    exact ⟨rfl, rfl, rfl, u, by rw [blk_set h4]; simp⟩
  | left x y i c r =>
    obtain ⟨rfl, h, vr, br, pa, po, bc, h2, h3, h4, h5, rfl⟩ := h
    simp only [List.nodup_cons, List.mem_cons, List.mem_append, not_or, List.nodup_append] at hnd
    obtain ⟨⟨n1, n2, n3⟩, ⟨n4, n5⟩, n6, n7, n8⟩ := hnd
    refine ⟨rfl, u, vr, br, pa, po, bc, by rw [blk_set h2]; simp, h3.setCell_off n4 _, h4.congr fun k hk => Below.heap_setCell _ _ _ _ ?_, cell_set_ne h5 ?_, rfl⟩
    · rintro rfl; rcases hk with hk | hk
      · exact n1 hk.symm
      · exact n5 hk
    · show pa ≠ ab
      rintro rfl; rcases h4.mem with hk | hk
      · exact n1 hk.symm
      · exact n5 hk
  | right x y i l c =>
    obtain ⟨rfl, h, vr, br, pa, po, bc, h2, h3, h4, h5, rfl⟩ := h
    simp only [List.nodup_cons, List.mem_cons, List.mem_append, not_or, List.nodup_append] at hnd
    obtain ⟨⟨n1, n2, n3⟩, ⟨n4, n5⟩, n6, n7, n8⟩ := hnd
    refine ⟨rfl, u, vr, br, pa, po, bc, by rw [blk_set h2]; simp, h3.setCell_off n4 _, h4.congr fun k hk => Below.heap_setCell _ _ _ _ ?_, cell_set_ne h5 ?_, rfl⟩
    · rintro rfl; rcases hk with hk | hk
      · exact n1 hk.symm
      · exact n5 hk
    · show pa ≠ ab
      rintro rfl; rcases h4.mem with hk | hk
      · exact n1 hk.symm
      · exact n5 hk

theorem perm3 {l r : List Nat} (h : ∀ a, l.count a = r.count a) : l.Perm r := List.perm_iff_count.2 h

/-- The whole tree, its hole filled. -/
theorem plug {w : World} {tb m : Nat} : ∀ (c : PC) (t : PT) (ab ao : Nat) (v : Option Nat) (bc bt : List Nat), HoleRep w tb m c ab ao bc → w.cell? ⟨ab, ao, none⟩ = some (ptr v) → NodeRep w t v bt →
    ∃ vr bs, TreeAt w tb vr m ∧ NodeRep w (fill c t) vr bs ∧ bs.Perm (bc ++ bt)
  | .top, t, ab, ao, v, bc, bt, ⟨h1, h2, h3, h, h4⟩, hc, hn => by
    subst h1 h2 h3
    refine ⟨v, bt, ?_, hn, List.Perm.refl _⟩
    have := (blk2 h4).1
    rw [this] at hc
    simp only [Option.some.injEq] at hc
    subst hc
    exact h4
  | .left x y i c r, t, ab, ao, v, bc, bt, ⟨h1, h, vr, br, pa, po, bc', h2, h3, h4, h5, h6⟩, hc, hn => by
    subst h1 h6
    have := (blk5 h2).2.2.2.1
    rw [this] at hc
    simp only [Option.some.injEq] at hc
    subst hc
    obtain ⟨vr', bs, g1, g2, g3⟩ := plug c (.node x y i t r) pa po (some ab) bc' (ab :: (bt ++ br)) h4 h5 ⟨ab, v, vr, bt, br, rfl, h2, hn, h3, rfl⟩
    refine ⟨vr', bs, g1, g2, g3.trans ?_⟩
    refine List.perm_middle.trans (List.Perm.cons ab ?_)
    exact perm3 (fun a => by simp only [List.count_append]; show _ = List.count a (br ++ bc' ++ bt); simp only [List.count_append]; omega)
  | .right x y i l c, t, ab, ao, v, bc, bt, ⟨h1, h, vl, bl, pa, po, bc', h2, h3, h4, h5, h6⟩, hc, hn => by
    subst h1 h6
    have := (blk5 h2).2.2.2.2
    rw [this] at hc
    simp only [Option.some.injEq] at hc
    subst hc
    obtain ⟨vr', bs, g1, g2, g3⟩ := plug c (.node x y i l t) pa po (some ab) bc' (ab :: (bl ++ bt)) h4 h5 ⟨ab, vl, v, bl, bt, rfl, h2, h3, hn, rfl⟩
    refine ⟨vr', bs, g1, g2, g3.trans ?_⟩
    refine List.perm_middle.trans (List.Perm.cons ab ?_)
    exact perm3 (fun a => by simp only [List.count_append]; show _ = List.count a (bl ++ bc' ++ bt); simp only [List.count_append]; omega)

/-- The entries of the map of points. -/
def mp (M : List (Int × Int × Int)) : List (Int × Value) := M.map fun p => (p.2.2, pt p.1 p.2.1 p.2.2)
def lookP (id : Int) : List (Int × Int × Int) → Nat → Option (Nat × Int × Int × Int)
  | [], _ => none
  | p :: M, i => if id = p.2.2 then some (i, p) else lookP id M (i + 1)
theorem lookI_mp (id : Int) : ∀ (M : List (Int × Int × Int)) (i : Nat), lookI id (mp M) i = (lookP id M i).map fun q => (q.1, pt q.2.1 q.2.2.1 q.2.2.2)
  | [], _ => rfl
  | p :: M, i => by
    simp only [mp, List.map_cons, lookI, lookP]
    split
    · rfl
    · exact lookI_mp id M (i + 1)
theorem mp_append (M N : List (Int × Int × Int)) : mp (M ++ N) = mp M ++ mp N := by simp [mp]
theorem mp_length (M : List (Int × Int × Int)) : (mp M).length = M.length := by simp [mp]
theorem mp_erase (M : List (Int × Int × Int)) (j : Nat) : (mp M).eraseIdx j = mp (M.eraseIdx j) := (map_eraseIdx' _ M j).symm

/-- The tree object: its tree t, its map M. bs: all its blocks. -/
def TreeRep (w : World) (tb : Nat) (t : PT) (M : List (Int × Int × Int)) (bs : List Nat) : Prop :=
  ∃ v m bn, TreeAt w tb v m ∧ NodeRep w t v bn ∧ MapI w m (mp M) ∧ bs = tb :: m :: bn ∧ bs.Nodup

theorem TreeRep.congr {w w' : World} {tb : Nat} {t : PT} {M : List (Int × Int × Int)} {bs : List Nat} (h : TreeRep w tb t M bs) (hc : ∀ k ∈ bs, w'.heap[k]? = w.heap[k]?) : TreeRep w' tb t M bs := by
  obtain ⟨v, m, bn, h1, h2, h3, h4, h5⟩ := h
  subst h4
  exact ⟨v, m, bn, by unfold TreeAt; rw [hc tb (by simp)]; exact h1, h2.congr fun k hk => hc k (by simp [hk]), h3.congr (hc m (by simp)), rfl, h5⟩
theorem TreeRep.lt {w : World} {tb : Nat} {t : PT} {M : List (Int × Int × Int)} {bs : List Nat} (h : TreeRep w tb t M bs) : ∀ k ∈ bs, k < w.heap.size := by
  obtain ⟨v, m, bn, h1, h2, h3, h4, h5⟩ := h
  subst h4
  intro k hk
  rcases List.mem_cons.1 hk with rfl | hk
  · exact blk_lt h1
  · rcases List.mem_cons.1 hk with rfl | hk
    · exact h3.lt
    · exact h2.lt k hk
theorem TreeRep.ext {w w' : World} {tb : Nat} {t : PT} {M : List (Int × Int × Int)} {bs : List Nat} (h : TreeRep w tb t M bs) (he : Ext w w') : TreeRep w' tb t M bs :=
  h.congr fun k hk => Below.block he k (h.lt k hk)
theorem TreeRep.touch {S : Nat → Prop} {w w' : World} {tb : Nat} {t : PT} {M : List (Int × Int × Int)} {bs : List Nat} (h : TreeRep w tb t M bs) (he : Touch S w w') (hn : ∀ k ∈ bs, ¬ S k) : TreeRep w' tb t M bs :=
  h.congr fun k hk => he.block k (h.lt k hk) (hn k hk)

theorem point_map : Try.prog.underlying 114 = some (.map 2 55) := Try.underlying114
theorem point_key : Try.prog.underlying 2 = some (.int .i64) := Try.underlying2
theorem point_zero : (Try.prog.info? 55).map (·.zero) = some (some (pt 0 0 0)) := by kernel_rfl

def NewPost (w : World) (e : Ending) (w' : World) : Prop := ∃ tb bs, e = .returned (.pointer (some ⟨tb, 0, none⟩)) ∧ TreeRep w' tb .nil [] bs ∧ (∀ k ∈ bs, w.heap.size ≤ k) ∧ Ext w w'
set_option maxHeartbeats 400000 in
theorem New_any (w : World) : Calls Try.prog 15 #[] w (NewPost w) := by
  have hmm := @run_makeMap Try.prog
  go_enter Try.func15, Try.ntmps15
  go_wp2
  go_ret
  refine ⟨w.heap.size + 1, [w.heap.size + 1, w.heap.size], rfl, ⟨none, w.heap.size, [], ?_, ⟨rfl, rfl⟩, ?_, rfl, by simp⟩, ?_, ((Ext.refl _).alloc _).alloc _⟩
  · have := blk_new (w.alloc (.map #[] 0)) (.cells #[ptr none, .map (some w.heap.size)] 117)
    rw [World.size_alloc] at this
    exact this
  · exact (MapI.new w).ext ((Ext.refl _).alloc _)
  · intro k hk; simp at hk; omega

def ptop : PT → (Int × Int × Int) × Int
  | .nil => ((0, 0, 0), 5)
  | .node x y i _ _ => ((x, y, i), 0)
/-- A point put in: it goes down while those above it in the heap stand in its way; there it takes the rest apart. -/
def padd (px py pid : Int) : PT → PT
  | .nil => .node px py pid .nil .nil
  | .node x y i l r =>
    if aboveB x y i px py pid then
      if aheadI px pid x i < 0 then .node x y i (padd px py pid l) r else .node x y i l (padd px py pid r)
    else .node px py pid (psplit px pid (.node x y i l r)).1 (psplit px pid (.node x y i l r)).2

def AddPost (tb : Nat) (px py pid : Int) (t : PT) (M : List (Int × Int × Int)) (bs : List Nat) (w : World) (e : Ending) (w' : World) : Prop :=
  ∃ bs', e = .returned (.int .i64 0) ∧ TreeRep w' tb (padd px py pid t) (M ++ [(px, py, pid)]) bs' ∧ (∀ k ∈ bs', k ∈ bs ∨ w.heap.size ≤ k) ∧ Touch (fun k => k ∈ bs) w w'

set_option maxHeartbeats 1000000 in
theorem Add_there (tb : Nat) (px py pid : Int) (t : PT) (M : List (Int × Int × Int)) (bs : List Nat) (w : World) (h : TreeRep w tb t M bs) {j : Nat} {q : Int × Int × Int} (hl : lookP pid M 0 = some (j, q)) :
    Calls Try.prog 18 #[.pointer (some ⟨tb, 0, none⟩), pt px py pid] w (fun e w' => e = .returned (.int .i64 90) ∧ Ext w w') := by
  obtain ⟨v, m, bn, h1, h2, h3, h4, h5⟩ := h
  have H1 := Lib.hid h1
  have HL := Lib.hid hl
  have htb := blk_lt h1
  have hlk : ∀ w', Ext w w' → (Instr.lookup 114 (.map (some m)) (.int .i64 pid) true).run Try.prog w' = .ok (.tuple #[pt q.1 q.2.1 q.2.2, .bool true]) w' :=
    fun w' he => by rw [map_look point_map point_key point_zero (h3.ext he) pid, lookI_mp, hl]; rfl
  have HK := Lib.hid hlk; clear hlk h1 hl h2 h3 h4 h5
  go_enter Try.func18, Try.ntmps18
  go_wp2
  refine wp_at (fun W => Ext w W ∧ TreeAt W tb v m ∧ W.heap[w.heap.size]? = some (.cells #[.int .i64 px, .int .i64 py, .int .i64 pid] 55 (0, 0))) ⟨(Ext.refl _).alloc _, Ext.block ((Ext.refl w).alloc _) H1.out, blk_new _ _⟩ ?_
  rintro W ⟨hE, hT, hp⟩
  obtain ⟨c0, c1⟩ := blk2 hT
  obtain ⟨p0, p1, p2⟩ := blk3 hp
  refine region_calm [.p 0, .p 1, .p 2, .l 3, .p 4, .l 5, .e 6, .p 7, .p 8, .p 9, .h 10 true, .h 11 false, .p 12] f_mixed (by kernel_rfl) (by kernel_rfl) ?_
  repeat (first | (refine plan_p rfl (fun K hK => ?_); go_simp; refine hK _ ?_; clear hK K) | (refine plan_l rfl (fun K hK => ?_); go_simp; refine hK _ ?_; clear hK K))
  refine plan_e1 rfl rfl (.tuple #[pt q.1 q.2.1 q.2.2, .bool true]) (fun w' he => ?_) (fun K hK => ?_)
  · have h := HK.out w' (hE.drew.trans he)
    go_simp
  go_simp; refine hK _ ?_; clear hK K
  repeat (first | (refine plan_p rfl (fun K hK => ?_); go_simp; refine hK _ ?_; clear hK K) | (refine plan_l rfl (fun K hK => ?_); go_simp; refine hK _ ?_; clear hK K))
  refine plan_ct rfl rfl (fun K _ hK => ?_)
  go_wp2
  refine hK _ _ ((Ext.refl W.drew).alloc _) ?_; clear hK K
  refine plan_c rfl rfl (fun K _ hK => ?_)
  go_wp2
  repeat (first | (refine plan_p rfl (fun K hK => ?_); go_simp; refine hK _ ?_; clear hK K) | (refine plan_l rfl (fun K hK => ?_); go_simp; refine hK _ ?_; clear hK K))
  refine plan_done ?_
  go_wp2
  go_ret
  refine ⟨rfl, ?_⟩
  exact (hE.alloc _).drew

theorem HoleRep.frozen {w : World} {tb m : Nat} {c : PC} {ab ao : Nat} {bs : List Nat} (h : HoleRep w tb m c ab ao bs) : w.frozen? ⟨ab, ao, none⟩ = false := by
  cases c with
  | top => obtain ⟨rfl, rfl, _, _, h4⟩ := h; exact blk_frozen h4 0
  | left x y i c r => obtain ⟨rfl, _, _, _, _, _, _, h2, _⟩ := h; exact blk_frozen h2 3
  | right x y i l c => obtain ⟨rfl, _, _, _, _, _, _, h2, _⟩ := h; exact blk_frozen h2 4

/-- A tree whose hole is filled anew. -/
theorem refill {W5 : World} {tb m : Nat} {c : PC} {ab ao : Nat} {bc bt : List Nat} {t : PT} {v0 v : Option Nat} (hh : HoleRep W5 tb m c ab ao bc) (hcell : W5.cell? ⟨ab, ao, none⟩ = some (ptr v0)) (hn : NodeRep W5 t v bt)
    (hnd : (tb :: (bc ++ bt)).Nodup) :
    ∃ vr bn, TreeAt (W5.setCell ⟨ab, ao, none⟩ (ptr v)) tb vr m ∧ NodeRep (W5.setCell ⟨ab, ao, none⟩ (ptr v)) (fill c t) vr bn ∧ bn.Perm (bc ++ bt) := by
  have hnd' := hnd
  simp only [List.nodup_cons, List.mem_append, not_or, List.nodup_append] at hnd
  obtain ⟨⟨n1, n2⟩, n3, n4, n5⟩ := hnd
  have hab : ab ∉ bt := by
    rcases hh.mem with h | h
    · rw [h]; exact n2
    · exact fun h' => n5 ab h ab h' rfl
  exact plug c t ab ao v bc bt (hh.plugged (by simp [n1, n3]) _) (World.cell?_setCell_same _ _ _ hcell) (hn.setCell_off hab _)

theorem TreeRep.of {w : World} {tb m : Nat} {t : PT} {M : List (Int × Int × Int)} {v : Option Nat} {bn : List Nat} (h1 : TreeAt w tb v m) (h2 : NodeRep w t v bn) (h3 : MapI w m (mp M)) (h4 : (tb :: m :: bn).Nodup) :
    TreeRep w tb t M (tb :: m :: bn) := ⟨v, m, bn, h1, h2, h3, rfl, h4⟩

def AddInv (px py pid : Int) (T : PT) (tb m : Nat) (bn : List Nat) (W0 : World) (k : Nat) (v7 : Value) (wr : World) : Prop :=
  ∃ c ab ao sub v bc bt, v7 = .pointer (some ⟨ab, ao, none⟩) ∧ HoleRep wr tb m c ab ao bc ∧ wr.cell? ⟨ab, ao, none⟩ = some (ptr v) ∧ NodeRep wr sub v bt ∧ (tb :: (bc ++ bt)).Nodup ∧
    (bc ++ bt).Perm bn ∧ padd px py pid T = fill c (padd px py pid sub) ∧ sub.count ≤ k ∧ Ext W0 wr

theorem AddInv_left {px py pid : Int} {T : PT} {tb m : Nat} {bn : List Nat} {W0 wr W7 : World} {c : PC} {ab ao b : Nat} {bc bt bl br : List Nat} {x y i : Int} {l r : PT} {vl vr : Option Nat}
    (hh : HoleRep wr tb m c ab ao bc) (hnd : (tb :: (bc ++ bt)).Nodup) (hperm : (bc ++ bt).Perm bn) (heq : padd px py pid T = fill c (padd px py pid (.node x y i l r)))
    (hnl : NodeRep wr l vl bl) (hnr : NodeRep wr r vr br) (hbt : bt = b :: (bl ++ br)) (hE0 : Ext W0 wr) (hE : Ext wr W7)
    (hb : W7.heap[b]? = some (.cells #[.int .i64 x, .int .i64 y, .int .i64 i, ptr vl, ptr vr] 126 (0, 0)))
    (hc : W7.cell? ⟨ab, ao, none⟩ = some (ptr (some b))) (hab : aboveB x y i px py pid = true) (hlt : aheadI px pid x i < 0) :
    AddInv px py pid T tb m bn W0 l.count (.pointer (some ⟨b, 3, none⟩)) W7 := by
  subst hbt
  have hp : (b :: (br ++ bc) ++ bl).Perm (bc ++ b :: (bl ++ br)) := by
    refine List.Perm.trans ?_ List.perm_middle.symm
    exact perm3 (fun a => by simp only [List.cons_append, List.count_cons, List.count_append]; omega)
  refine ⟨.left x y i c r, b, 3, l, vl, b :: (br ++ bc), bl, rfl, ⟨rfl, _, vr, br, ab, ao, bc, hb, hnr.ext hE, hh.ext hE, hc, rfl⟩, (blk5 hb).2.2.2.1, hnl.ext hE, ?_, hp.trans hperm, ?_, Nat.le_refl _, hE0.trans hE⟩
  · exact (hp.cons tb).nodup_iff.2 hnd
  · rw [heq, padd, if_pos hab, if_pos hlt]; rfl
theorem AddInv_right {px py pid : Int} {T : PT} {tb m : Nat} {bn : List Nat} {W0 wr W7 : World} {c : PC} {ab ao b : Nat} {bc bt bl br : List Nat} {x y i : Int} {l r : PT} {vl vr : Option Nat}
    (hh : HoleRep wr tb m c ab ao bc) (hnd : (tb :: (bc ++ bt)).Nodup) (hperm : (bc ++ bt).Perm bn) (heq : padd px py pid T = fill c (padd px py pid (.node x y i l r)))
    (hnl : NodeRep wr l vl bl) (hnr : NodeRep wr r vr br) (hbt : bt = b :: (bl ++ br)) (hE0 : Ext W0 wr) (hE : Ext wr W7)
    (hb : W7.heap[b]? = some (.cells #[.int .i64 x, .int .i64 y, .int .i64 i, ptr vl, ptr vr] 126 (0, 0)))
    (hc : W7.cell? ⟨ab, ao, none⟩ = some (ptr (some b))) (hab : aboveB x y i px py pid = true) (hlt : ¬ aheadI px pid x i < 0) :
    AddInv px py pid T tb m bn W0 r.count (.pointer (some ⟨b, 4, none⟩)) W7 := by
  subst hbt
  have hp : (b :: (bl ++ bc) ++ br).Perm (bc ++ b :: (bl ++ br)) := by
    refine List.Perm.trans ?_ List.perm_middle.symm
    exact perm3 (fun a => by simp only [List.cons_append, List.count_cons, List.count_append]; omega)
  refine ⟨.right x y i l c, b, 4, r, vr, b :: (bl ++ bc), br, rfl, ⟨rfl, _, vl, bl, ab, ao, bc, hb, hnl.ext hE, hh.ext hE, hc, rfl⟩, (blk5 hb).2.2.2.2, hnr.ext hE, ?_, hp.trans hperm, ?_, Nat.le_refl _, hE0.trans hE⟩
  · exact (hp.cons tb).nodup_iff.2 hnd
  · rw [heq, padd, if_pos hab, if_neg hlt]; rfl

theorem Add_close {w W5 : World} {tb m : Nat} {px py pid : Int} {t sub t1 t2 : PT} {M : List (Int × Int × Int)} {bs bn bc bt b1 b2 : List Nat} {c : PC} {ab ao : Nat} {v0 v1 v2 : Option Nat} {e : Ending}
    (he : e = .returned (.int .i64 0)) (hbs : bs = tb :: m :: bn) (hnd0 : bs.Nodup) (hlt : ∀ k ∈ bs, k < w.heap.size)
    (hh : HoleRep W5 tb m c ab ao bc) (hcell : W5.cell? ⟨ab, ao, none⟩ = some (ptr v0)) (hnd : (tb :: (bc ++ bt)).Nodup) (hperm : (bc ++ bt).Perm bn)
    (hr1 : NodeRep W5 t1 v1 b1) (hr2 : NodeRep W5 t2 v2 b2) (hp5 : (b1 ++ b2).Perm bt) (hM : MapI W5 m (mp M ++ [(pid, pt px py pid)])) (hT : Touch (fun k => k ∈ bs) w W5)
    (heq : padd px py pid t = fill c sub) (hsub : sub = .node px py pid t1 t2) :
    AddPost tb px py pid t M bs w e ((W5.alloc (.cells #[.int .i64 px, .int .i64 py, .int .i64 pid, ptr v1, ptr v2] 126)).setCell ⟨ab, ao, none⟩ (ptr (some W5.heap.size))) := by
  subst hbs
  have hmn : m ≠ tb ∧ m ∉ bn := by simp at hnd0; exact ⟨fun h => hnd0.1.1 h.symm, hnd0.2.1⟩
  have hab : ab = tb ∨ ab ∈ bc := hh.mem
  have habn : ab ∈ tb :: m :: bn := by
    rcases hab with h | h
    · simp [h]
    · simp [hperm.subset (List.mem_append_left _ h)]
  have hsz := hT.size
  have hall : ∀ k, k ∈ bc ∨ k ∈ bt → k < w.heap.size := fun k hk => hlt k (by simp [hperm.subset (List.mem_append.2 hk)])
  have hE : Ext W5 (W5.alloc (.cells #[.int .i64 px, .int .i64 py, .int .i64 pid, ptr v1, ptr v2] 126)) := (Ext.refl _).alloc _
  have hnode : NodeRep (W5.alloc (.cells #[.int .i64 px, .int .i64 py, .int .i64 pid, ptr v1, ptr v2] 126)) (.node px py pid t1 t2) (some W5.heap.size) (W5.heap.size :: (b1 ++ b2)) :=
    ⟨W5.heap.size, v1, v2, b1, b2, rfl, blk_new _ _, hr1.ext hE, hr2.ext hE, rfl⟩
  have hnew : ∀ k, k < w.heap.size → k ≠ W5.heap.size := fun k hk => by omega
  have hnd2 : (tb :: (bc ++ (W5.heap.size :: (b1 ++ b2)))).Nodup := by
    have hq : (tb :: (bc ++ (b1 ++ b2))).Nodup := ((List.Perm.append_left bc hp5).cons tb).nodup_iff.2 hnd
    refine (List.Perm.cons tb List.perm_middle).nodup_iff.2 ?_
    refine (List.Perm.swap _ _ _).nodup_iff.1 ?_
    refine List.nodup_cons.2 ⟨?_, hq⟩
    intro h
    rcases List.mem_cons.1 h with h | h
    · exact hnew tb (hlt tb (by simp)) h.symm
    · rcases List.mem_append.1 h with h | h
      · exact hnew _ (hall _ (.inl h)) rfl
      · exact hnew _ (hall _ (.inr (hp5.subset h))) rfl
  obtain ⟨vr, bn', g1, g2, g3⟩ := refill (v := some W5.heap.size) (hh.ext hE) (Ext.cell hE hcell) hnode hnd2
  refine ⟨tb :: m :: bn', he, ?_, ?_, ?_⟩
  · rw [heq, hsub]
    refine TreeRep.of g1 g2 ?_ ?_
    · rw [mp_append]
      refine (hM.ext hE).congr (Below.heap_setCell _ _ _ _ ?_)
      show m ≠ ab
      rintro rfl
      rcases hab with h | h
      · exact hmn.1 h
      · exact hmn.2 (hperm.subset (List.mem_append_left _ h))
    · refine (List.Perm.cons tb (List.Perm.cons m g3)).nodup_iff.2 ?_
      refine (List.Perm.swap _ _ _).nodup_iff.1 ?_
      refine List.nodup_cons.2 ⟨?_, hnd2⟩
      intro h
      rcases List.mem_cons.1 h with h | h
      · exact hmn.1 h
      · rcases List.mem_append.1 h with h | h
        · exact hmn.2 (hperm.subset (List.mem_append_left _ h))
        · rcases List.mem_cons.1 h with h | h
          · exact hnew m (hlt m (by simp)) h
          · exact hmn.2 (hperm.subset (List.mem_append_right _ (hp5.subset h)))
  · intro k hk
    rcases List.mem_cons.1 hk with rfl | hk
    · simp
    · rcases List.mem_cons.1 hk with rfl | hk
      · simp
      · rcases List.mem_append.1 (g3.subset hk) with h | h
        · exact .inl (by simp [hperm.subset (List.mem_append_left _ h)])
        · rcases List.mem_cons.1 h with rfl | h
          · exact .inr hsz
          · exact .inl (by simp [hperm.subset (List.mem_append_right _ (hp5.subset h))])
  · exact (hT.alloc _).setCell (fun _ => habn) _

set_option maxHeartbeats 2000000 in
theorem Add_new (tb : Nat) (px py pid : Int) (t : PT) (M : List (Int × Int × Int)) (bs : List Nat) (w : World) (h : TreeRep w tb t M bs) (hl : lookP pid M 0 = none) :
    Calls Try.prog 18 #[.pointer (some ⟨tb, 0, none⟩), pt px py pid] w (AddPost tb px py pid t M bs w) := by
  obtain ⟨v, m, bn, h1, h2, h3, h4, h5⟩ := h
  have H1 := Lib.hid h1
  have H2 := Lib.hid h2
  have H3 := Lib.hid h3
  have H4 := Lib.hid h4
  have H5 := Lib.hid h5
  have HL := Lib.hid hl
  have htb := blk_lt h1
  have hlk : ∀ w', Ext w w' → (Instr.lookup 114 (.map (some m)) (.int .i64 pid) true).run Try.prog w' = .ok (.tuple #[pt 0 0 0, .bool false]) w' :=
    fun w' he => by rw [map_look point_map point_key point_zero (h3.ext he) pid, lookI_mp, hl]; rfl
  have HK := Lib.hid hlk; clear hlk h1 hl h2 h3 h4 h5
  go_enter Try.func18, Try.ntmps18
  go_wp2
  refine wp_at (fun W => Ext w W ∧ TreeAt W tb v m ∧ W.heap[w.heap.size]? = some (.cells #[.int .i64 px, .int .i64 py, .int .i64 pid] 55 (0, 0))) ⟨(Ext.refl _).alloc _, Ext.block ((Ext.refl w).alloc _) H1.out, blk_new _ _⟩ ?_
  rintro W ⟨hE, hT, hp⟩
  obtain ⟨c0, c1⟩ := blk2 hT
  obtain ⟨p0, p1, p2⟩ := blk3 hp
  refine region_calm [.p 0, .p 1, .p 2, .l 3, .p 4, .l 5, .e 6, .p 7, .p 8, .p 9, .h 10 true, .h 11 false, .p 12] f_mixed (by kernel_rfl) (by kernel_rfl) ?_
  repeat (first | (refine plan_p rfl (fun K hK => ?_); go_simp; refine hK _ ?_; clear hK K) | (refine plan_l rfl (fun K hK => ?_); go_simp; refine hK _ ?_; clear hK K))
  refine plan_e1 rfl rfl (.tuple #[pt 0 0 0, .bool false]) (fun w' he => ?_) (fun K hK => ?_)
  · have h := HK.out w' (hE.drew.trans he)
    go_simp
  go_simp; refine hK _ ?_; clear hK K
  repeat (first | (refine plan_p rfl (fun K hK => ?_); go_simp; refine hK _ ?_; clear hK K) | (refine plan_l rfl (fun K hK => ?_); go_simp; refine hK _ ?_; clear hK K))
  refine plan_ct rfl rfl (fun K _ hK => ?_)
  go_wp2
  refine hK _ _ ((Ext.refl W.drew).alloc _) ?_; clear hK K
  refine plan_c rfl rfl (fun K _ hK => ?_)
  go_wp2
  repeat (first | (refine plan_p rfl (fun K hK => ?_); go_simp; refine hK _ ?_; clear hK K) | (refine plan_l rfl (fun K hK => ?_); go_simp; refine hK _ ?_; clear hK K))
  refine plan_done ?_
  go_wp2
  refine wp_at (fun W2 => Ext W W2) ((Ext.refl W).alloc _).drew ?_
  rintro W2 hE2
  have hT2 := Ext.block hE2 hT
  have hp2 := Ext.block hE2 hp
  clear c0 c1 p0 p1 p2 hT hp
  obtain ⟨c0, c1⟩ := blk2 hT2
  obtain ⟨p0, p1, p2⟩ := blk3 hp2
  obtain ⟨W3, hmu, hM3, hT3⟩ := map_put (w := W2.drew) point_map point_key (H3.out.ext ((hE.trans hE2).drew)) pid (pt px py pid) (by rw [lookI_mp, HL.out]; rfl)
  have HM3 := Lib.hid hM3; clear hM3
  have HT3 := Lib.hid hT3; clear hT3
  refine region_calm [.p 0, .p 1, .p 2, .l 3, .p 4, .l 5, .l 6, .h 7 false] f_mixed (by kernel_rfl) (by kernel_rfl) ?_
  repeat (first | (refine plan_p rfl (fun K hK => ?_); go_simp; refine hK _ ?_; clear hK K) | (refine plan_l rfl (fun K hK => ?_); go_simp; refine hK _ ?_; clear hK K))
  refine plan_c rfl rfl (fun K _ hK => ?_)
  go_wp2
  refine plan_done ?_
  have htm : tb ≠ m := by have := H5.out; rw [H4.out] at this; simp at this; exact this.1.1
  have hmb : m ∉ bn := by have := H5.out; rw [H4.out] at this; simp at this; exact this.2.1
  have hT3' : TreeAt W3 tb v m := HT3.out.old (show W2.drew.heap[tb]? = _ from hT2) htm
  have hN3 : NodeRep W3 t v bn := (H2.out.ext (hE.trans hE2).drew).touch HT3.out (fun b hb e => hmb (e ▸ hb))
  have hml : m < w.heap.size := H3.out.lt
  have hp3 := HT3.out.old (show W2.drew.heap[w.heap.size]? = _ from hp2) (by omega)
  have hinv : AddInv px py pid t tb m bn W3 t.count (.pointer (some ⟨tb, 0, none⟩)) W3 :=
    ⟨.top, tb, 0, t, v, [], bn, rfl, ⟨rfl, rfl, rfl, _, hT3'⟩, (blk2 hT3').1, hN3, by have := H5.out; rw [H4.out] at this; simp at this; simp [this.1.2, this.2.2], List.Perm.refl _, rfl, Nat.le_refl _, Ext.refl _⟩
  have HP3 := Lib.hid hp3
  have HINV := Lib.hid hinv
  clear c0 c1 p0 p1 p2 hT2 hp2 hmu hinv hp3 hN3 hml hmb
  obtain ⟨c0, c1⟩ := blk2 hT3'
  clear hT3'
  go_wp2
  go_loopg [7] t.count (fun k v7 wr => AddInv px py pid t tb m bn W3 k v7 wr)
  case atStart => exact HINV.out
  case round =>
    obtain ⟨c, ab, ao, sub, v', bc, bt, rfl, hh, hcell, hn, hnd, hperm, heq, hcnt, hEr⟩ := hrel
    have HH := Lib.hid hh; clear hh
    have HND := Lib.hid hnd; clear hnd
    have HPERM := Lib.hid hperm; clear hperm
    have HEQ := Lib.hid heq; clear heq
    have HN := Lib.hid hn
    have hpr := Ext.block hEr HP3.out
    obtain ⟨p0, p1, p2⟩ := blk3 hpr
    clear c0 c1
    have HC := Lib.hid hcell
    cases sub with
    | nil =>
      obtain ⟨hv', hbt'⟩ := hn
      subst hv'
      clear hbt'
      change wr.cell? ⟨ab, ao, none⟩ = some (.pointer none) at hcell
      have hpad : padd px py pid .nil = .node px py pid (psplit px pid .nil).1 (psplit px pid .nil).2 := rfl
      have HPAD := Lib.hid hpad; clear hpad
      go_wp2
      refine region_calm [.p 0, .p 1, .l 2, .p 3, .p 4, .p 5, .p 6, .l 7, .p 8, .p 9, .l 10, .l 11, .h 12 false, .p 13] f_mixed (by kernel_rfl) (by kernel_rfl) ?_
      repeat (first | (refine plan_p rfl (fun K hK => ?_); go_simp; refine hK _ ?_; clear hK K) | (refine plan_l rfl (fun K hK => ?_); go_simp; refine hK _ ?_; clear hK K))
      refine plan_h rfl (fun K hK => ?_)
      go_wp2
      repeat (first | (refine plan_p rfl (fun K hK => ?_); go_simp; refine hK _ ?_; clear hK K) | (refine plan_l rfl (fun K hK => ?_); go_simp; refine hK _ ?_; clear hK K))
      refine plan_done ?_
      go_wp2
      have hW4 : Ext wr wr.drew := (Ext.refl wr).drew
      refine wp_at (fun W => Ext wr W) hW4 ?_
      rintro W4 hE4
      have hc4 := Ext.cell hE4 HC.out
      have hp4 := Ext.block hE4 hpr
      clear p0 p1 p2 hpr hW4
      obtain ⟨p0, p1, p2⟩ := blk3 hp4
      refine region_calm [.p 0, .p 1, .l 2, .l 3, .h 4 false, .p 5, .p 6, .p 7, .p 8, .p 9] f_mixed (by kernel_rfl) (by kernel_rfl) ?_
      repeat (first | (refine plan_p rfl (fun K hK => ?_); go_simp; refine hK _ ?_; clear hK K) | (refine plan_l rfl (fun K hK => ?_); go_simp; refine hK _ ?_; clear hK K))
      refine plan_c rfl rfl (fun K _ hK => ?_)
      go_wp2_with fail
      refine (split_any px py pid _ _ bt W4.drew (HN.out.ext hE4.drew) (by have := HND.out; simp only [List.nodup_cons, List.nodup_append] at this; exact this.2.2.1)).mono ?_
      rintro e W5 ⟨v1, v2, b1, b2, rfl, hr1, hr2, hperm5, ht5⟩
      have hnd5 := HND.out
      simp only [List.nodup_cons, List.mem_append, not_or, List.nodup_append] at hnd5
      have hbt : ∀ k ∈ bt, k < w.heap.size := fun k hk => H2.out.lt k (HPERM.out.subset (List.mem_append_right _ hk))
      have hab : ab ∉ bt := by
        rcases HH.out.mem with h | h
        · rw [h]; exact hnd5.1.2
        · exact fun h' => hnd5.2.2.2 ab h ab h' rfl
      have hp5 := ht5.old (show W4.drew.heap[w.heap.size]? = _ from hp4) (fun h => by have := hbt _ h; omega)
      have hc5 := ht5.cell (show W4.drew.cell? ⟨ab, ao, none⟩ = _ from hc4) hab
      have hh5 : HoleRep W5 tb m c ab ao bc := (HH.out.ext hE4.drew).touch ht5 (by rintro k (rfl | hk) hk'; exact hnd5.1.2 hk'; exact hnd5.2.2.2 k hk k hk' rfl)
      have hz5 := hh5.frozen
      have hl5 : ab < W5.heap.size := hh5.lt ab hh5.mem
      clear p0 p1 p2 hp4 hc4 hcell
      obtain ⟨p0, p1, p2⟩ := blk3 hp5
      have hl6 := blk_lt hp5
      have HH5 := Lib.hid hh5; clear hh5
      have HT5 := Lib.hid ht5; clear ht5
      have HBT := Lib.hid hbt; clear hbt
      have HN5 := Lib.hid hnd5; clear hnd5
      go_wp2
      repeat (first | (refine plan_p rfl (fun K hK => ?_); go_simp; refine hK _ ?_; clear hK K) | (refine plan_l rfl (fun K hK => ?_); go_simp; refine hK _ ?_; clear hK K))
      refine plan_done ?_
      go_wp2
      go_ret
      rw [← World.setCell_alloc_past _ _ _ _ hl5]
      have hbs : ∀ k ∈ bs, k < w.heap.size := by
        rw [H4.out]; intro k hk
        rcases List.mem_cons.1 hk with rfl | hk
        · exact htb
        · rcases List.mem_cons.1 hk with rfl | hk
          · exact H3.out.lt
          · exact H2.out.lt k hk
      have hm5 : m ∉ bt := fun h => by have := H5.out; rw [H4.out] at this; simp at this; exact this.2.1 (HPERM.out.subset (List.mem_append_right _ h))
      have hTW : Touch (fun k => k ∈ bs) w W5 := by
        refine Touch.trans' (((hE.trans hE2).drew).touch _) ((HT3.out.mono (S' := fun k => k ∈ bs) (fun k _ e => by rw [H4.out, e]; simp)).trans' ?_ (fun _ _ h => h)) (fun _ _ h => h)
        refine ((hEr.trans hE4).drew.touch _).trans' HT5.out (fun k _ hk => ?_)
        rw [H4.out]; simp [HPERM.out.subset (List.mem_append_right _ hk)]
      refine Add_close rfl H4.out H5.out hbs HH5.out hc5 HND.out HPERM.out hr1 hr2 hperm5 ?_ hTW HEQ.out HPAD.out
      exact (((HM3.out.ext hEr).ext hE4).ext (Ext.refl _).drew).touch HT5.out hm5
    | node x y i l r =>
      obtain ⟨b, vl, vr, bl, br, hv', hb, hnl, hnr, hbt'⟩ := hn
      subst hv'
      have HBT' := Lib.hid hbt'; clear hbt'
      have HBr := Lib.hid hb
      obtain ⟨d0, d1, d2, d3, d4⟩ := blk5 hb
      change wr.cell? ⟨ab, ao, none⟩ = some (.pointer (some ⟨b, 0, none⟩)) at hcell
      cases hab' : aboveB x y i px py pid
      · have hpad : padd px py pid (.node x y i l r) = .node px py pid (psplit px pid (.node x y i l r)).1 (psplit px pid (.node x y i l r)).2 := by
          rw [padd, if_neg (by simp [hab'])]
        have HPAD := Lib.hid hpad; clear hpad
        go_wp2
        refine region_calm [.p 0, .p 1, .l 2, .p 3, .p 4, .p 5, .p 6, .l 7, .p 8, .p 9, .l 10, .l 11, .h 12 false, .p 13] f_mixed (by kernel_rfl) (by kernel_rfl) ?_
        repeat (first | (refine plan_p rfl (fun K hK => ?_); go_simp; refine hK _ ?_; clear hK K) | (refine plan_l rfl (fun K hK => ?_); go_simp; refine hK _ ?_; clear hK K))
        refine plan_h rfl (fun K hK => ?_)
        go_wp2_with fail
        refine (above_any _ _ _ _ _ _ _).mono ?_
        rintro e W6 ⟨rfl, hE6⟩
        clear d0 d1 d2 d3 d4 hb hnl hnr
        have HAB := Lib.hid hab'
        go_wp2
        repeat (first | (refine plan_p rfl (fun K hK => ?_); go_simp; refine hK _ ?_; clear hK K) | (refine plan_l rfl (fun K hK => ?_); go_simp; refine hK _ ?_; clear hK K))
        refine plan_done ?_
        clear hab'
        go_wp2
        have hW4 : Ext wr W6 := (Ext.refl wr).drew.trans hE6
        clear hE6
        refine wp_at (fun W => Ext wr W) hW4 ?_
        rintro W4 hE4
        have hc4 := Ext.cell hE4 HC.out
        have hp4 := Ext.block hE4 hpr
        clear p0 p1 p2 hpr hW4
        obtain ⟨p0, p1, p2⟩ := blk3 hp4
        refine region_calm [.p 0, .p 1, .l 2, .l 3, .h 4 false, .p 5, .p 6, .p 7, .p 8, .p 9] f_mixed (by kernel_rfl) (by kernel_rfl) ?_
        repeat (first | (refine plan_p rfl (fun K hK => ?_); go_simp; refine hK _ ?_; clear hK K) | (refine plan_l rfl (fun K hK => ?_); go_simp; refine hK _ ?_; clear hK K))
        refine plan_c rfl rfl (fun K _ hK => ?_)
        go_wp2_with fail
        refine (split_any px py pid _ _ bt W4.drew (HN.out.ext hE4.drew) (by have := HND.out; simp only [List.nodup_cons, List.nodup_append] at this; exact this.2.2.1)).mono ?_
        rintro e W5 ⟨v1, v2, b1, b2, rfl, hr1, hr2, hperm5, ht5⟩
        have hnd5 := HND.out
        simp only [List.nodup_cons, List.mem_append, not_or, List.nodup_append] at hnd5
        have hbt : ∀ k ∈ bt, k < w.heap.size := fun k hk => H2.out.lt k (HPERM.out.subset (List.mem_append_right _ hk))
        have hab : ab ∉ bt := by
          rcases HH.out.mem with h | h
          · rw [h]; exact hnd5.1.2
          · exact fun h' => hnd5.2.2.2 ab h ab h' rfl
        have hp5 := ht5.old (show W4.drew.heap[w.heap.size]? = _ from hp4) (fun h => by have := hbt _ h; omega)
        have hc5 := ht5.cell (show W4.drew.cell? ⟨ab, ao, none⟩ = _ from hc4) hab
        have hh5 : HoleRep W5 tb m c ab ao bc := (HH.out.ext hE4.drew).touch ht5 (by rintro k (rfl | hk) hk'; exact hnd5.1.2 hk'; exact hnd5.2.2.2 k hk k hk' rfl)
        have hz5 := hh5.frozen
        have hl5 : ab < W5.heap.size := hh5.lt ab hh5.mem
        clear p0 p1 p2 hp4 hc4 hcell
        obtain ⟨p0, p1, p2⟩ := blk3 hp5
        have hl6 := blk_lt hp5
        have HH5 := Lib.hid hh5; clear hh5
        have HT5 := Lib.hid ht5; clear ht5
        have HBT := Lib.hid hbt; clear hbt
        have HN5 := Lib.hid hnd5; clear hnd5
        go_wp2
        repeat (first | (refine plan_p rfl (fun K hK => ?_); go_simp; refine hK _ ?_; clear hK K) | (refine plan_l rfl (fun K hK => ?_); go_simp; refine hK _ ?_; clear hK K))
        refine plan_done ?_
        go_wp2
        go_ret
        rw [← World.setCell_alloc_past _ _ _ _ hl5]
        have hbs : ∀ k ∈ bs, k < w.heap.size := by
          rw [H4.out]; intro k hk
          rcases List.mem_cons.1 hk with rfl | hk
          · exact htb
          · rcases List.mem_cons.1 hk with rfl | hk
            · exact H3.out.lt
            · exact H2.out.lt k hk
        have hm5 : m ∉ bt := fun h => by have := H5.out; rw [H4.out] at this; simp at this; exact this.2.1 (HPERM.out.subset (List.mem_append_right _ h))
        have hTW : Touch (fun k => k ∈ bs) w W5 := by
          refine Touch.trans' (((hE.trans hE2).drew).touch _) ((HT3.out.mono (S' := fun k => k ∈ bs) (fun k _ e => by rw [H4.out, e]; simp)).trans' ?_ (fun _ _ h => h)) (fun _ _ h => h)
          refine ((hEr.trans hE4).drew.touch _).trans' HT5.out (fun k _ hk => ?_)
          rw [H4.out]; simp [HPERM.out.subset (List.mem_append_right _ hk)]
        refine Add_close rfl H4.out H5.out hbs HH5.out hc5 HND.out HPERM.out hr1 hr2 hperm5 ?_ hTW HEQ.out HPAD.out
        exact (((HM3.out.ext hEr).ext hE4).ext (Ext.refl _).drew).touch HT5.out hm5
      · go_wp2
        refine region_calm [.p 0, .p 1, .l 2, .p 3, .p 4, .p 5, .p 6, .l 7, .p 8, .p 9, .l 10, .l 11, .h 12 false, .p 13] f_mixed (by kernel_rfl) (by kernel_rfl) ?_
        repeat (first | (refine plan_p rfl (fun K hK => ?_); go_simp; refine hK _ ?_; clear hK K) | (refine plan_l rfl (fun K hK => ?_); go_simp; refine hK _ ?_; clear hK K))
        refine plan_h rfl (fun K hK => ?_)
        go_wp2_with fail
        refine (above_any _ _ _ _ _ _ _).mono ?_
        rintro e W6 ⟨rfl, hE6⟩
        have hW6 : Ext wr W6 := (Ext.refl wr).drew.trans hE6
        go_wp2
        repeat (first | (refine plan_p rfl (fun K hK => ?_); go_simp; refine hK _ ?_; clear hK K) | (refine plan_l rfl (fun K hK => ?_); go_simp; refine hK _ ?_; clear hK K))
        refine plan_done ?_
        go_wp2
        have HAB := Lib.hid hab'; clear hab'
        have hb6 := Ext.block hW6 hb
        have hp6 := Ext.block hW6 hpr
        have hcell6 := Ext.cell hW6 hcell
        clear d0 d1 d2 d3 d4 hb p0 p1 p2 hpr hcell hE6
        obtain ⟨d0, d1, d2, d3, d4⟩ := blk5 hb6
        obtain ⟨p0, p1, p2⟩ := blk3 hp6
        refine region_calm [.l 0, .p 1, .p 2, .l 3, .p 4, .p 5, .l 6, .h 7 false, .p 8] f_mixed (by kernel_rfl) (by kernel_rfl) ?_
        repeat (first | (refine plan_p rfl (fun K hK => ?_); go_simp; refine hK _ ?_; clear hK K) | (refine plan_l rfl (fun K hK => ?_); go_simp; refine hK _ ?_; clear hK K))
        refine plan_c rfl rfl (fun K _ hK => ?_)
        go_wp2_with fail
        refine (ahead_any _ _ _ _ _ _ _).mono ?_
        rintro e W7 ⟨rfl, hE7⟩
        have hW7 : Ext wr W7 := hW6.drew.trans hE7
        have hb7 := Ext.block hE7 (show W6.drew.heap[b]? = _ from hb6)
        have hcell7 := Ext.cell hE7 (show W6.drew.cell? ⟨ab, ao, none⟩ = _ from hcell6)
        clear d0 d1 d2 d3 d4 hb6 p0 p1 p2 hp6 hcell6 hE7
        obtain ⟨d0, d1, d2, d3, d4⟩ := blk5 hb7
        have HB7 := Lib.hid hb7; clear hb7
        have HW7 := Lib.hid hW7
        clear hW6 hW7
        by_cases hlt : aheadI px pid x i < 0
        · go_wp2
          repeat (first | (refine plan_p rfl (fun K hK => ?_); go_simp; refine hK _ ?_; clear hK K) | (refine plan_l rfl (fun K hK => ?_); go_simp; refine hK _ ?_; clear hK K))
          refine plan_done ?_
          go_wp2
          go_roundg l.count
          case measure => simp only [PT.count] at hcnt; omega
          case rel => exact AddInv_left HH.out HND.out HPERM.out HEQ.out hnl hnr HBT'.out hEr HW7.out HB7.out hcell7 HAB.out hlt
        · go_wp2
          repeat (first | (refine plan_p rfl (fun K hK => ?_); go_simp; refine hK _ ?_; clear hK K) | (refine plan_l rfl (fun K hK => ?_); go_simp; refine hK _ ?_; clear hK K))
          refine plan_done ?_
          go_wp2
          go_roundg r.count
          case measure => simp only [PT.count] at hcnt; omega
          case rel => exact AddInv_right HH.out HND.out HPERM.out HEQ.out hnl hnr HBT'.out hEr HW7.out HB7.out hcell7 HAB.out (by omega)

end Go.Proofs.Ytkejjahlglldlaa.Ps
