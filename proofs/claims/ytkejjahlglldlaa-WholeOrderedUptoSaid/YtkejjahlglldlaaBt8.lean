/- The tree as a whole; where Put stands, and how it ends. No program is walked here. -/
import Derived.Test.YtkejjahlglldlaaBt7
namespace Go.Proofs.Ytkejjahlglldlaa
open Go.RowKit Go.Lib

/-- The tree at tb, of order m, holds L in the blocks bs. -/
structure TreeAt (W : World) (tb m : Nat) (L : List Ent) (bs : List Nat) : Prop where
  ex : ∃ (rb H n : Nat) (bs' : List Nat), W.heap[tb]? = some (.cells #[.int .i64 (m : Int), .pointer (some ⟨rb, 0, none⟩), .int .i64 (L.length : Int)] 84 (0, 0)) ∧
    Rep W m H ⟨rb, n, L, bs'⟩ ∧ (if H = 0 then 0 else 1) ≤ n ∧ n + 1 ≤ 2 * m ∧ bs = tb :: bs'
  nodup : bs.Nodup
  srt : Srt L
  lo : 2 ≤ m
  hi : m ≤ 64
theorem TreeAt.lt {W : World} {tb m : Nat} {L : List Ent} {bs : List Nat} (h : TreeAt W tb m L bs) : ∀ x ∈ bs, x < W.heap.size := by
  obtain ⟨rb, H, n, bs', hb, hr, h1, h2, rfl⟩ := h.ex
  intro x hx
  rcases List.mem_cons.1 hx with rfl | hx
  · exact blk_lt hb
  · exact hr.lt x hx
theorem TreeAt.congr {W W' : World} {tb m : Nat} {L : List Ent} {bs : List Nat} (h : TreeAt W tb m L bs) (hc : ∀ x ∈ bs, W'.heap[x]? = W.heap[x]?) : TreeAt W' tb m L bs := by
  obtain ⟨rb, H, n, bs', hb, hr, h1, h2, hbs⟩ := h.ex
  exact ⟨⟨rb, H, n, bs', by rw [hc tb (by simp [hbs])]; exact hb, hr.congr fun x hx => hc x (by rw [hbs]; exact List.mem_cons_of_mem _ hx), h1, h2, hbs⟩, h.nodup, h.srt, h.lo, h.hi⟩
theorem TreeAt.touch {S : Nat → Prop} {W W' : World} {tb m : Nat} {L : List Ent} {bs : List Nat} (h : TreeAt W tb m L bs) (hT : Touch S W W') (hn : ∀ x ∈ bs, ¬ S x) : TreeAt W' tb m L bs :=
  h.congr fun x hx => hT.block x (h.lt x hx) (hn x hx)
theorem TreeAt.ext {W W' : World} {tb m : Nat} {L : List Ent} {bs : List Nat} (h : TreeAt W tb m L bs) (hT : Ext W W') : TreeAt W' tb m L bs :=
  h.congr fun x hx => Below.block hT x (h.lt x hx)

/-- Where Put stands: at a node of height h. -/
structure PI (w0 : World) (tb m : Nat) (key : List UInt8) (v : Int) (L0 : List Ent) (bs0 : List Nat) (wr : World) (rb H loR h nb lo : Nat) (F : List Nat) (A B es : List Ent) (ks : List Kid) (gk gv gc : Option Nat) (ck cv cc : Nat) : Prop where
  tree : wr.heap[tb]? = some (.cells #[.int .i64 (m : Int), .pointer (some ⟨rb, 0, none⟩), .int .i64 (L0.length : Int)] 84 (0, 0))
  node : NodeAt wr nb es (ks.map Kid.b) gk gv gc ck cv cc
  ok : KidsOk wr m h ks es.length
  hole : Hole wr m loR H rb h nb lo F A B
  loR : (if H = 0 then 0 else 1) ≤ loR
  lo : lo ≤ es.length
  hi : es.length + 1 ≤ 2 * m
  nodup : ((ownL nb gk gv gc) ++ (tb :: (F ++ ks.flatMap Kid.bs))).Nodup
  flt : ∀ x ∈ F, x < wr.heap.size
  sub : ∀ x ∈ ownL nb gk gv gc ++ (tb :: (F ++ ks.flatMap Kid.bs)), x ∈ bs0 ∨ w0.heap.size ≤ x
  insE : A ++ ins key v (inter (ks.map Kid.L) es) ++ B = ins key v L0
  hasE : hasK key (inter (ks.map Kid.L) es) = hasK key L0
  srt : Srt (inter (ks.map Kid.L) es)
  srt0 : Srt L0
  touch : Touch (fun k => k ∈ bs0) w0 wr
  m2 : 2 ≤ m
  m64 : m ≤ 64

def PutPost (tb m : Nat) (key : List UInt8) (v : Int) (L0 : List Ent) (bs0 : List Nat) (w0 : World) (e : Ending) (w' : World) : Prop :=
  e = .returned (.bool (hasK key L0)) ∧ ∃ bs, TreeAt w' tb m (ins key v L0) bs ∧ (∀ x ∈ bs, x ∈ bs0 ∨ w0.heap.size ≤ x) ∧ Touch (fun k => k ∈ bs0) w0 w'

theorem KidsOk.lt {W : World} {m h n : Nat} {ks : List Kid} (hk : KidsOk W m h ks n) : ∀ x ∈ ks.flatMap Kid.bs, x < W.heap.size := by
  intro x hx
  obtain ⟨q, hq, hx⟩ := List.mem_flatMap.1 hx
  cases h with
  | zero => have : ks = [] := hk; subst this; cases hq
  | succ h => exact (hk.2 q hq).1.lt x hx

section
variable {w0 wr : World} {tb m : Nat} {key : List UInt8} {v : Int} {L0 : List Ent} {bs0 : List Nat} {rb H loR h nb lo : Nat} {F : List Nat} {A B es : List Ent} {ks : List Kid} {gk gv gc : Option Nat} {ck cv cc : Nat}

theorem PI.rlt (hI : PI w0 tb m key v L0 bs0 wr rb H loR h nb lo F A B es ks gk gv gc ck cv cc) : ∀ y ∈ tb :: (F ++ ks.flatMap Kid.bs), y < wr.heap.size := by
  intro y hy
  rcases List.mem_cons.1 hy with rfl | hy
  · exact blk_lt hI.tree
  · rcases List.mem_append.1 hy with hy | hy
    · exact hI.flt y hy
    · exact hI.ok.lt y hy

/-- Put is at its end: the node holds what it should. -/
theorem PI.close (hI : PI w0 tb m key v L0 bs0 wr rb H loR h nb lo F A B es ks gk gv gc ck cv cc) {W' : World} {es2 : List Ent} {gk' gv' gc' : Option Nat} {ck' cv' cc' : Nat} {e : Ending}
    (he : e = .returned (.bool (hasK key L0)))
    (hT : Touch (fun k => k ∈ ownL nb gk gv gc ∨ k = tb) wr W') (hblk : W'.heap[tb]? = some (.cells #[.int .i64 (m : Int), .pointer (some ⟨rb, 0, none⟩), .int .i64 ((ins key v L0).length : Int)] 84 (0, 0)))
    (hnode : NodeAt W' nb es2 (ks.map Kid.b) gk' gv' gc' ck' cv' cc') (hlo : es.length ≤ es2.length) (hhi : es2.length + 1 ≤ 2 * m) (hok : KidsOk wr m h ks es2.length)
    (hL : inter (ks.map Kid.L) es2 = ins key v (inter (ks.map Kid.L) es)) (hX : (ownL nb gk' gv' gc').Nodup) (hsub : ∀ x ∈ ownL nb gk' gv' gc', x ∈ ownL nb gk gv gc ∨ wr.heap.size ≤ x) :
    PutPost tb m key v L0 bs0 w0 e W' := by
  have hN2 := nodup_new hX hI.nodup hI.rlt hsub
  have hsz := hI.touch.size
  have htb : tb ∉ ownL nb gk gv gc := fun hh => (List.nodup_append.1 hI.nodup).2.2 tb hh tb (by simp) rfl
  have hkeep : ∀ y ∈ F ++ ks.flatMap Kid.bs, W'.heap[y]? = wr.heap[y]? := by
    intro y hy
    refine hT.block y (hI.rlt y (List.mem_cons_of_mem _ hy)) ?_
    rintro (hh | rfl)
    · exact (List.nodup_append.1 hI.nodup).2.2 y hh y (List.mem_cons_of_mem _ hy) rfl
    · exact (List.nodup_cons.1 (List.nodup_append.1 hI.nodup).2.1).1 hy
  have hok' : KidsOk W' m h ks es2.length := hok.congr fun q hq b hb => hkeep b (List.mem_append_right _ (List.mem_flatMap.2 ⟨q, hq, hb⟩))
  obtain ⟨N', Bs, hr, h1, h2, h3⟩ := hI.hole W' es2.length (inter (ks.map Kid.L) es2) (ownL nb gk' gv' gc' ++ ks.flatMap Kid.bs) (Rep.close hnode rfl rfl rfl hok') (Nat.le_trans hI.lo hlo) hhi
    (fun x hx => hkeep x (List.mem_append_left _ hx))
  rw [hL, hI.insE] at hr
  have hperm : (tb :: Bs).Perm (ownL nb gk' gv' gc' ++ (tb :: (F ++ ks.flatMap Kid.bs))) := by
    refine (h3.cons tb).trans ?_
    rw [List.perm_iff_count]
    intro a
    simp only [List.count_append, List.count_cons]
    omega
  refine ⟨he, tb :: Bs, ⟨⟨rb, H, N', Bs, hblk, hr, Nat.le_trans hI.loR h1, h2, rfl⟩, hperm.nodup_iff.2 hN2, ins_srt _ _ hI.srt0, hI.m2, hI.m64⟩, fun x hx => ?_, ?_⟩
  · rcases List.mem_append.1 (hperm.subset hx) with hx | hx
    · rcases hsub x hx with hx | hx
      · exact hI.sub x (List.mem_append_left _ hx)
      · exact .inr (by omega)
    · exact hI.sub x (List.mem_append_right _ hx)
  · refine hI.touch.trans' hT fun k hk hh => ?_
    have hx : k ∈ ownL nb gk gv gc ++ (tb :: (F ++ ks.flatMap Kid.bs)) := by
      rcases hh with hh | rfl
      · exact List.mem_append_left _ hh
      · exact List.mem_append_right _ (by simp)
    rcases hI.sub k hx with h' | h'
    · exact h'
    · omega

/-- The key is there: its value is written. -/
theorem PI.here (hI : PI w0 tb m key v L0 bs0 wr rb H loR h nb lo F A B es ks gk gv gc ck cv cc) {e : Ending} (he : e = .returned (.bool true)) (hat : at_ key es = true) {b : Nat} (hb : gv = some b) :
    PutPost tb m key v L0 bs0 w0 e (wr.setCell ⟨b, pos key es, none⟩ (.int .i64 v)) := by
  obtain ⟨v0, hv0, hes⟩ := at_true hat
  have hil := (List.getElem?_eq_some_iff.1 hv0).1
  have hsn := hI.srt.node
  have hx : ∀ e ∈ es.take (pos key es), blt e.1 key := fun e he => pos_lt key es e he
  have hlen : (es.take (pos key es) ++ (key, v) :: es.drop (pos key es + 1)).length = es.length := by simp; omega
  have hbm : b ∈ ownL nb gk gv gc := by simp [hb]
  have hnb : b ≠ nb := by
    intro hh
    have := (List.nodup_cons.1 (List.nodup_append.1 hI.nodup).1).1
    exact this (by simp [hb, hh])
  have hgk : ∀ x, gk = some x → x ≠ b := by
    intro x hx hh
    subst hx hb hh
    have := (List.nodup_cons.1 (List.nodup_append.1 hI.nodup).1).2
    simp at this
  have hgc : ∀ x, gc = some x → x ≠ b := by
    intro x hx hh
    subst hx hb hh
    have := (List.nodup_cons.1 (List.nodup_append.1 hI.nodup).1).2
    have := (List.nodup_append.1 this).2.1
    simp at this
  have hboth : inter (ks.map Kid.L) (es.take (pos key es) ++ (key, v) :: es.drop (pos key es + 1)) = ins key v (inter (ks.map Kid.L) es) ∧ hasK key (inter (ks.map Kid.L) es) = true := by
    cases h with
    | zero =>
      have hk : ks = [] := hI.ok
      subst hk
      have := ins_leaf_here (x := es.take (pos key es)) (y := es.drop (pos key es + 1)) (k := key) (v := v) (v0 := v0) hx
      rw [← hes] at this
      exact ⟨this.1.symm, this.2⟩
    | succ h =>
      have hl := hI.ok.1
      have := ins_here (P := (ks.take (pos key es)).map Kid.L) (Q := (ks.drop (pos key es)).map Kid.L) (x := es.take (pos key es)) (y := es.drop (pos key es + 1)) (k := key) (v := v) (v0 := v0) (by simp; omega)
        (by rw [← hes, ← List.map_append, List.take_append_drop]; exact hI.srt) (by intro hh; have := congrArg List.length hh; simp at this; omega) hx
      rw [← hes, ← List.map_append, List.take_append_drop] at this
      exact ⟨this.1.symm, this.2⟩
  have htrue : hasK key L0 = true := by rw [← hI.hasE]; exact hboth.2
  refine hI.close (es2 := es.take (pos key es) ++ (key, v) :: es.drop (pos key es + 1)) (gk' := gk) (gv' := gv) (gc' := gc) (ck' := ck) (cv' := cv) (cc' := cc) (by rw [he, htrue]) ?_ ?_ ?_ (by rw [hlen]; exact Nat.le_refl _) (by rw [hlen]; exact hI.hi) (by rw [hlen]; exact hI.ok) hboth.1
    (List.nodup_append.1 hI.nodup).1 (fun x hx => .inl hx)
  · exact Touch.setCell (Touch.refl _ _) (p := ⟨b, _, none⟩) (fun _ => .inl hbm) _
  · have htb : tb ≠ b := fun hh => (List.nodup_append.1 hI.nodup).2.2 b hbm tb (by simp) hh.symm
    have h1 := ins_len key v hI.srt0
    rw [htrue, if_pos rfl] at h1
    rw [h1]
    exact blk_set_ne hI.tree htb _
  · refine ⟨?_, ?_, ?_, ?_⟩
    · rw [hlen]; exact blk_set_ne hI.node.blk (Ne.symm hnb) _
    · rw [hlen]
      have : sK (es.take (pos key es) ++ (key, v) :: es.drop (pos key es + 1)) = sK es := by
        conv => rhs; rw [hes]
        simp [sK]
      rw [this]
      exact hI.node.keys.set_off _ _ hgk
    · rw [hlen]
      subst hb
      obtain ⟨q1, cur, q2, q3, q4, q5, q6⟩ := hI.node.vals
      refine ⟨by simp [sV]; omega, cur.setIfInBounds (pos key es) (.int .i64 v), blk_set q2 _ _, q3, q4, by simp [q5], ?_⟩
      rw [Nat.mul_one] at q6 ⊢
      rw [Array.toList_setIfInBounds, List.take_set, q6]
      have hsv : sV (es.take (pos key es) ++ (key, v) :: es.drop (pos key es + 1)) = (sV es).take (pos key es) ++ .int .i64 v :: (sV es).drop (pos key es + 1) := by simp [sV]
      rw [hsv, List.set_eq_take_append_cons_drop, if_pos (by simp [sV]; exact hil)]
    · exact hI.node.kids.set_off _ _ hgc
end
end Go.Proofs.Ytkejjahlglldlaa
