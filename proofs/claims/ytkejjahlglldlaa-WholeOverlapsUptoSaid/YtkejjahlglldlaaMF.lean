/- The tree as a whole; where Put stands, and how it ends. No program is walked here. How Put ends at a leaf; one step down; a full kid cut. No program is walked here. btree.New, Len, copied: walked. btree.copied: walked. -/
import Derived.Test.YtkejjahlglldlaaME
namespace Go.Proofs.Ytkejjahlglldlaa
open Go.RowKit Go.Lib

/-- The tree at tb, of order m, holds L in the blocks bs. -/
structure TreeAt (W : World) (tb m : Nat) (L : List Ent) (bs : List Nat) : Prop where
  ex : ∃ (rb H n : Nat) (bs' : List Nat), W.heap[tb]? = some (.cells #[.int .i64 (m : Int), .pointer (some ⟨rb, 0, none⟩), .int .i64 (L.length : Int)] 84 (0, 0)) ∧
    Rep W m H ⟨rb, n, L, bs'⟩ ∧ (if H = 0 then 0 else 1) ≤ n ∧ n + 1 ≤ 2 * m ∧ bs = tb :: bs'
  nodup : bs.Nodup
  srt : Srt L
  lo : 2 ≤ m
  hi : m ≤ 64
theorem TreeAt.lt {W : World} {tb m : Nat} {L : List Ent} {bs : List Nat} (h : TreeAt W tb m L bs) : ∀ x ∈ bs, x < W.heap.size := by
  obtain ⟨rb, H, n, bs', hb, hr, h1, h2, rfl⟩ := h.ex
  intro x hx
  rcases List.mem_cons.1 hx with rfl | hx
  · exact blk_lt hb
  · exact hr.lt x hx
theorem TreeAt.congr {W W' : World} {tb m : Nat} {L : List Ent} {bs : List Nat} (h : TreeAt W tb m L bs) (hc : ∀ x ∈ bs, W'.heap[x]? = W.heap[x]?) : TreeAt W' tb m L bs := by
  obtain ⟨rb, H, n, bs', hb, hr, h1, h2, hbs⟩ := h.ex
  exact ⟨⟨rb, H, n, bs', by rw [hc tb (by simp [hbs])]; exact hb, hr.congr fun x hx => hc x (by rw [hbs]; exact List.mem_cons_of_mem _ hx), h1, h2, hbs⟩, h.nodup, h.srt, h.lo, h.hi⟩
theorem TreeAt.touch {S : Nat → Prop} {W W' : World} {tb m : Nat} {L : List Ent} {bs : List Nat} (h : TreeAt W tb m L bs) (hT : Touch S W W') (hn : ∀ x ∈ bs, ¬ S x) : TreeAt W' tb m L bs :=
  h.congr fun x hx => hT.block x (h.lt x hx) (hn x hx)
theorem TreeAt.ext {W W' : World} {tb m : Nat} {L : List Ent} {bs : List Nat} (h : TreeAt W tb m L bs) (hT : Ext W W') : TreeAt W' tb m L bs :=
  h.congr fun x hx => Below.block hT x (h.lt x hx)

/-- Where Put stands: at a node of height h. -/
structure PI (w0 : World) (tb m : Nat) (key : List UInt8) (v : Int) (L0 : List Ent) (bs0 : List Nat) (wr : World) (rb H loR h nb lo : Nat) (F : List Nat) (A B es : List Ent) (ks : List Kid) (gk gv gc : Option Nat) (ck cv cc : Nat) : Prop where
  tree : wr.heap[tb]? = some (.cells #[.int .i64 (m : Int), .pointer (some ⟨rb, 0, none⟩), .int .i64 (L0.length : Int)] 84 (0, 0))
  node : NodeAt wr nb es (ks.map Kid.b) gk gv gc ck cv cc
  ok : KidsOk wr m h ks es.length
  hole : Hole wr m loR H rb h nb lo F A B
  loR : (if H = 0 then 0 else 1) ≤ loR
  lo : lo ≤ es.length
  hi : es.length + 1 ≤ 2 * m
  nodup : ((ownL nb gk gv gc) ++ (tb :: (F ++ ks.flatMap Kid.bs))).Nodup
  flt : ∀ x ∈ F, x < wr.heap.size
  sub : ∀ x ∈ ownL nb gk gv gc ++ (tb :: (F ++ ks.flatMap Kid.bs)), x ∈ bs0 ∨ w0.heap.size ≤ x
  insE : A ++ ins key v (inter (ks.map Kid.L) es) ++ B = ins key v L0
  hasE : hasK key (inter (ks.map Kid.L) es) = hasK key L0
  srt : Srt (inter (ks.map Kid.L) es)
  srt0 : Srt L0
  touch : Touch (fun k => k ∈ bs0) w0 wr
  m2 : 2 ≤ m
  m64 : m ≤ 64

def PutPost (tb m : Nat) (key : List UInt8) (v : Int) (L0 : List Ent) (bs0 : List Nat) (w0 : World) (e : Ending) (w' : World) : Prop :=
  e = .returned (.bool (hasK key L0)) ∧ ∃ bs, TreeAt w' tb m (ins key v L0) bs ∧ (∀ x ∈ bs, x ∈ bs0 ∨ w0.heap.size ≤ x) ∧ Touch (fun k => k ∈ bs0) w0 w'

theorem KidsOk.lt {W : World} {m h n : Nat} {ks : List Kid} (hk : KidsOk W m h ks n) : ∀ x ∈ ks.flatMap Kid.bs, x < W.heap.size := by
  intro x hx
  obtain ⟨q, hq, hx⟩ := List.mem_flatMap.1 hx
  cases h with
  | zero => have : ks = [] := hk; subst this; cases hq
  | succ h => exact (hk.2 q hq).1.lt x hx

section
variable {w0 wr : World} {tb m : Nat} {key : List UInt8} {v : Int} {L0 : List Ent} {bs0 : List Nat} {rb H loR h nb lo : Nat} {F : List Nat} {A B es : List Ent} {ks : List Kid} {gk gv gc : Option Nat} {ck cv cc : Nat}

theorem PI.rlt (hI : PI w0 tb m key v L0 bs0 wr rb H loR h nb lo F A B es ks gk gv gc ck cv cc) : ∀ y ∈ tb :: (F ++ ks.flatMap Kid.bs), y < wr.heap.size := by
  intro y hy
  rcases List.mem_cons.1 hy with rfl | hy
  · exact blk_lt hI.tree
  · rcases List.mem_append.1 hy with hy | hy
    · exact hI.flt y hy
    · exact hI.ok.lt y hy

/-- Put is at its end: the node holds what it should. -/
theorem PI.close (hI : PI w0 tb m key v L0 bs0 wr rb H loR h nb lo F A B es ks gk gv gc ck cv cc) {W' : World} {es2 : List Ent} {gk' gv' gc' : Option Nat} {ck' cv' cc' : Nat} {e : Ending}
    (he : e = .returned (.bool (hasK key L0)))
    (hT : Touch (fun k => k ∈ ownL nb gk gv gc ∨ k = tb) wr W') (hblk : W'.heap[tb]? = some (.cells #[.int .i64 (m : Int), .pointer (some ⟨rb, 0, none⟩), .int .i64 ((ins key v L0).length : Int)] 84 (0, 0)))
    (hnode : NodeAt W' nb es2 (ks.map Kid.b) gk' gv' gc' ck' cv' cc') (hlo : es.length ≤ es2.length) (hhi : es2.length + 1 ≤ 2 * m) (hok : KidsOk wr m h ks es2.length)
    (hL : inter (ks.map Kid.L) es2 = ins key v (inter (ks.map Kid.L) es)) (hX : (ownL nb gk' gv' gc').Nodup) (hsub : ∀ x ∈ ownL nb gk' gv' gc', x ∈ ownL nb gk gv gc ∨ wr.heap.size ≤ x) :
    PutPost tb m key v L0 bs0 w0 e W' := by
  have hN2 := nodup_new hX hI.nodup hI.rlt hsub
  have hsz := hI.touch.size
  have htb : tb ∉ ownL nb gk gv gc := fun hh => (List.nodup_append.1 hI.nodup).2.2 tb hh tb (by simp) rfl
  have hkeep : ∀ y ∈ F ++ ks.flatMap Kid.bs, W'.heap[y]? = wr.heap[y]? := by
    intro y hy
    refine hT.block y (hI.rlt y (List.mem_cons_of_mem _ hy)) ?_
    rintro (hh | rfl)
    · exact (List.nodup_append.1 hI.nodup).2.2 y hh y (List.mem_cons_of_mem _ hy) rfl
    · exact (List.nodup_cons.1 (List.nodup_append.1 hI.nodup).2.1).1 hy
  have hok' : KidsOk W' m h ks es2.length := hok.congr fun q hq b hb => hkeep b (List.mem_append_right _ (List.mem_flatMap.2 ⟨q, hq, hb⟩))
  obtain ⟨N', Bs, hr, h1, h2, h3⟩ := hI.hole W' es2.length (inter (ks.map Kid.L) es2) (ownL nb gk' gv' gc' ++ ks.flatMap Kid.bs) (Rep.close hnode rfl rfl rfl hok') (Nat.le_trans hI.lo hlo) hhi
    (fun x hx => hkeep x (List.mem_append_left _ hx))
  rw [hL, hI.insE] at hr
  have hperm : (tb :: Bs).Perm (ownL nb gk' gv' gc' ++ (tb :: (F ++ ks.flatMap Kid.bs))) := by
    refine (h3.cons tb).trans ?_
    rw [List.perm_iff_count]
    intro a
    simp only [List.count_append, List.count_cons]
    omega
  refine ⟨he, tb :: Bs, ⟨⟨rb, H, N', Bs, hblk, hr, Nat.le_trans hI.loR h1, h2, rfl⟩, hperm.nodup_iff.2 hN2, ins_srt _ _ hI.srt0, hI.m2, hI.m64⟩, fun x hx => ?_, ?_⟩
  · rcases List.mem_append.1 (hperm.subset hx) with hx | hx
    · rcases hsub x hx with hx | hx
      · exact hI.sub x (List.mem_append_left _ hx)
      · exact .inr (by omega)
    · exact hI.sub x (List.mem_append_right _ hx)
  · refine hI.touch.trans' hT fun k hk hh => ?_
    have hx : k ∈ ownL nb gk gv gc ++ (tb :: (F ++ ks.flatMap Kid.bs)) := by
      rcases hh with hh | rfl
      · exact List.mem_append_left _ hh
      · exact List.mem_append_right _ (by simp)
    rcases hI.sub k hx with h' | h'
    · exact h'
    · omega

/-- The key is there: its value is written. -/
theorem PI.here (hI : PI w0 tb m key v L0 bs0 wr rb H loR h nb lo F A B es ks gk gv gc ck cv cc) {e : Ending} (he : e = .returned (.bool true)) (hat : at_ key es = true) {b : Nat} (hb : gv = some b) :
    PutPost tb m key v L0 bs0 w0 e (wr.setCell ⟨b, pos key es, none⟩ (.int .i64 v)) := by
  obtain ⟨v0, hv0, hes⟩ := at_true hat
  have hil := (List.getElem?_eq_some_iff.1 hv0).1
  have hsn := hI.srt.node
  have hx : ∀ e ∈ es.take (pos key es), blt e.1 key := fun e he => pos_lt key es e he
  have hlen : (es.take (pos key es) ++ (key, v) :: es.drop (pos key es + 1)).length = es.length := by simp; omega
  have hbm : b ∈ ownL nb gk gv gc := by simp [hb]
  have hnb : b ≠ nb := by
    intro hh
    have := (List.nodup_cons.1 (List.nodup_append.1 hI.nodup).1).1
    exact this (by simp [hb, hh])
  have hgk : ∀ x, gk = some x → x ≠ b := by
    intro x hx hh
    subst hx hb hh
    have := (List.nodup_cons.1 (List.nodup_append.1 hI.nodup).1).2
    simp at this
  have hgc : ∀ x, gc = some x → x ≠ b := by
    intro x hx hh
    subst hx hb hh
    have := (List.nodup_cons.1 (List.nodup_append.1 hI.nodup).1).2
    have := (List.nodup_append.1 this).2.1
    simp at this
  have hboth : inter (ks.map Kid.L) (es.take (pos key es) ++ (key, v) :: es.drop (pos key es + 1)) = ins key v (inter (ks.map Kid.L) es) ∧ hasK key (inter (ks.map Kid.L) es) = true := by
    cases h with
    | zero =>
      have hk : ks = [] := hI.ok
      subst hk
      have := ins_leaf_here (x := es.take (pos key es)) (y := es.drop (pos key es + 1)) (k := key) (v := v) (v0 := v0) hx
      rw [← hes] at this
      exact ⟨this.1.symm, this.2⟩
    | succ h =>
      have hl := hI.ok.1
      have := ins_here (P := (ks.take (pos key es)).map Kid.L) (Q := (ks.drop (pos key es)).map Kid.L) (x := es.take (pos key es)) (y := es.drop (pos key es + 1)) (k := key) (v := v) (v0 := v0) (by simp; omega)
        (by rw [← hes, ← List.map_append, List.take_append_drop]; exact hI.srt) (by intro hh; have := congrArg List.length hh; simp at this; omega) hx
      rw [← hes, ← List.map_append, List.take_append_drop] at this
      exact ⟨this.1.symm, this.2⟩
  have htrue : hasK key L0 = true := by rw [← hI.hasE]; exact hboth.2
  refine hI.close (es2 := es.take (pos key es) ++ (key, v) :: es.drop (pos key es + 1)) (gk' := gk) (gv' := gv) (gc' := gc) (ck' := ck) (cv' := cv) (cc' := cc) (by rw [he, htrue]) ?_ ?_ ?_ (by rw [hlen]; exact Nat.le_refl _) (by rw [hlen]; exact hI.hi) (by rw [hlen]; exact hI.ok) hboth.1
    (List.nodup_append.1 hI.nodup).1 (fun x hx => .inl hx)
  · exact Touch.setCell (Touch.refl _ _) (p := ⟨b, _, none⟩) (fun _ => .inl hbm) _
  · have htb : tb ≠ b := fun hh => (List.nodup_append.1 hI.nodup).2.2 b hbm tb (by simp) hh.symm
    have h1 := ins_len key v hI.srt0
    rw [htrue, if_pos rfl] at h1
    rw [h1]
    exact blk_set_ne hI.tree htb _
  · refine ⟨?_, ?_, ?_, ?_⟩
    · rw [hlen]; exact blk_set_ne hI.node.blk (Ne.symm hnb) _
    · rw [hlen]
      have : sK (es.take (pos key es) ++ (key, v) :: es.drop (pos key es + 1)) = sK es := by
        conv => rhs; rw [hes]
        simp [sK]
      rw [this]
      exact hI.node.keys.set_off _ _ hgk
    · rw [hlen]
      subst hb
      obtain ⟨q1, cur, q2, q3, q4, q5, q6⟩ := hI.node.vals
      refine ⟨by simp [sV]; omega, cur.setIfInBounds (pos key es) (.int .i64 v), blk_set q2 _ _, q3, q4, by simp [q5], ?_⟩
      rw [Nat.mul_one] at q6 ⊢
      rw [Array.toList_setIfInBounds, List.take_set, q6]
      have hsv : sV (es.take (pos key es) ++ (key, v) :: es.drop (pos key es + 1)) = (sV es).take (pos key es) ++ .int .i64 v :: (sV es).drop (pos key es + 1) := by simp [sV]
      rw [hsv, List.set_eq_take_append_cons_drop, if_pos (by simp [sV]; exact hil)]
    · exact hI.node.kids.set_off _ _ hgc
end
end Go.Proofs.Ytkejjahlglldlaa
namespace Go.Proofs.Ytkejjahlglldlaa
open Go.RowKit Go.Lib

section
variable {w0 wr : World} {tb m : Nat} {key : List UInt8} {v : Int} {L0 : List Ent} {bs0 : List Nat} {rb H loR h nb lo : Nat} {F : List Nat} {A B es : List Ent} {ks : List Kid} {gk gv gc : Option Nat} {ck cv cc : Nat}

theorem PI.leaf (hI : PI w0 tb m key v L0 bs0 wr rb H loR h nb lo F A B es ks gk gv gc ck cv cc) {W1 W2 : World} {gk' gv' ck' cv' : Nat} {e : Ending} (he : e = .returned (.bool false)) (hks : ks = []) (hat : at_ key es = false) (hroom : es.length + 2 ≤ 2 * m)
    (S1 : Sl W1 9 1 (some gk') (es.length + 1) ck' ((sK es).take (pos key es) ++ str key :: (sK es).drop (pos key es))) (T1 : Touch (fun k => gk = some k ∨ k = nb) wr W1) (f1 : gk = some gk' ∨ wr.heap.size ≤ gk')
    (S2 : Sl W2 2 1 (some gv') (es.length + 1) cv' ((sV es).take (pos key es) ++ .int .i64 v :: (sV es).drop (pos key es))) (T2 : Touch (fun k => gv = some k ∨ k = nb) W1 W2) (f2 : gv = some gv' ∨ W1.heap.size ≤ gv')
    (B2 : W2.heap[nb]? = some (.cells #[slv (some gk') (es.length + 1) ck', slv (some gv') (es.length + 1) cv', slv gc 0 cc] 82 (0, 0))) :
    PutPost tb m key v L0 bs0 w0 e (W2.setCell ⟨tb, 2, none⟩ (.int .i64 ((L0.length : Int) + 1))) := by
  have hpl := pos_le key es
  have hsn := hI.srt.node
  have hx : ∀ e ∈ es.take (pos key es), blt e.1 key := fun e he => pos_lt key es e he
  have hy : ∀ e ∈ es.drop (pos key es), blt key e.1 := pos_gt key hsn (at_false hat)
  have hins := ins_leaf (v := v) hx hy
  have hz : h = 0 := by
    cases h with
    | zero => rfl
    | succ h => have := hI.ok.1; rw [hks] at this; simp at this
  subst hks
  have hfalse : hasK key L0 = false := by rw [← hI.hasE]; exact hins.2
  have hlen : (es.take (pos key es) ++ (key, v) :: es.drop (pos key es)).length = es.length + 1 := by simp; omega
  obtain ⟨nd1, nd2, nd3⟩ := List.nodup_append.1 hI.nodup
  have hnbm : nb ∈ ownL nb gk gv gc := by simp
  have hlt : ∀ x ∈ ownL nb gk gv gc, x < wr.heap.size := hI.node.lt
  have htbl : tb < wr.heap.size := blk_lt hI.tree
  have hz1 := T1.size
  have hgk' := S1.block_lt
  have hN1 : ([nb] ++ (gk' :: (gv.toList ++ gc.toList))).Nodup := nodup_swap (g := gk) (B := wr.heap.size) (by simpa [ownL] using nd1) (fun x hx => by
    rcases hx with hx | hx
    · simp at hx; subst hx; exact hlt _ hnbm
    · exact hlt x (by simp only [ownL, List.mem_cons, List.mem_append] at hx ⊢; exact .inr (.inr hx))) f1
  have hN2 : ([nb, gk'] ++ (gv' :: gc.toList)).Nodup := nodup_swap (g := gv) (B := W1.heap.size) (by simpa using hN1) (fun x hx => by
    rcases hx with hx | hx
    · simp at hx
      rcases hx with rfl | rfl
      · have := hlt _ hnbm; omega
      · exact hgk'
    · have := hlt x (by simp only [ownL, List.mem_cons, List.mem_append] at hx ⊢; exact .inr (.inr (.inr hx))); omega) f2
  have htb : ∀ x, x ∈ ownL nb gk gv gc → x ≠ tb := fun x hx hh => nd3 x hx tb (by simp) hh
  have hgt : gk' ≠ tb := by
    rcases f1 with hh | hh
    · exact htb gk' (by simp [hh])
    · omega
  have hvt : gv' ≠ tb := by
    rcases f2 with hh | hh
    · exact htb gv' (by simp [hh])
    · omega
  have hnt : nb ≠ tb := htb nb hnbm
  have a1 : gk' ≠ nb ∧ gv' ≠ nb ∧ gv' ≠ gk' := by
    simp only [List.cons_append, List.nil_append, List.nodup_cons, List.mem_cons, not_or] at hN2
    exact ⟨fun e => hN2.1.1 e.symm, fun e => hN2.1.2.1 e.symm, fun e => hN2.2.1.1 e.symm⟩
  have b1 : ∀ k, gv = some k → k ≠ gk' := by
    intro k hk e
    subst hk e
    simp at hN1
  have hgc : ∀ k, gc = some k → gk ≠ some k ∧ gv ≠ some k ∧ k ≠ nb ∧ k ≠ tb := by
    intro k hk
    have h0 := (List.nodup_cons.1 nd1)
    refine ⟨fun e => ?_, fun e => ?_, fun e => ?_, htb k (by simp [hk])⟩
    · have := (List.nodup_append.1 h0.2).2.2 k (by simp [e]) k (by simp [hk]); exact this rfl
    · have := (List.nodup_append.1 (List.nodup_append.1 h0.2).2.1).2.2 k (by simp [e]) k (by simp [hk]); exact this rfl
    · exact h0.1 (by simp [hk, ← e])
  have TW : Touch (fun k => k ∈ ownL nb gk gv gc ∨ k = tb) wr W2 := by
    refine (T1.mono ?_).trans' (T2.mono ?_ : Touch (fun k => k ∈ ownL nb gk gv gc ∨ k = tb) W1 W2) (fun _ _ h => h)
    all_goals
      intro k _ h
      rcases h with h | h
      · exact .inl (by simp [h])
      · exact .inl (by simp [h])
  have hgcs : Sl W2 78 1 gc 0 cc [] := (hI.node.kids.touch T1 (fun b hb hh => hh.elim (hgc b hb).1 (hgc b hb).2.2.1)).touch T2 (fun b hb hh => hh.elim (hgc b hb).2.1 (hgc b hb).2.2.1)
  refine hI.close (es2 := es.take (pos key es) ++ (key, v) :: es.drop (pos key es)) (gk' := some gk') (gv' := some gv') (gc' := gc) (ck' := ck') (cv' := cv') (cc' := cc) (by rw [he, hfalse]) ?_ ?_ ?_ (by rw [hlen]; omega) (by rw [hlen]; omega) (by subst hz; rfl) ?_ ?_ ?_
  · exact TW.setCell (p := ⟨tb, 2, none⟩) (fun _ => .inr rfl) _
  · have h1 := ins_len key v hI.srt0
    rw [hfalse] at h1
    have h2 : ((ins key v L0).length : Int) = (L0.length : Int) + 1 := by rw [h1]; simp
    rw [h2]
    have h3 : W2.heap[tb]? = wr.heap[tb]? := by
      rw [T2.block tb (by omega) (by rintro (hh | hh); exact htb tb (by simp [hh]) rfl; exact hnt hh.symm), T1.block tb htbl (by rintro (hh | hh); exact htb tb (by simp [hh]) rfl; exact hnt hh.symm)]
    exact blk_set (h3.trans hI.tree) 2 _
  · refine ⟨?_, ?_, ?_, ?_⟩
    · rw [hlen]; exact blk_set_ne B2 hnt _
    · rw [hlen, sK_ins]
      exact (S1.touch T2 (by intro b hb; cases hb; rintro (hh | hh); exact b1 _ hh rfl; exact a1.1 hh)).set_off _ _ (by intro b hb; cases hb; exact hgt)
    · rw [hlen, sV_ins]
      exact S2.set_off _ _ (by intro b hb; cases hb; exact hvt)
    · exact hgcs.set_off _ _ (fun b hb => (hgc b hb).2.2.2)
  · exact hins.1.symm
  · simpa [ownL] using hN2
  · intro x hx
    simp only [ownL, Option.toList_some, List.mem_cons, List.mem_append, List.not_mem_nil, or_false, Option.mem_toList] at hx
    rcases hx with rfl | rfl | rfl | hx
    · exact .inl hnbm
    · rcases f1 with hh | hh
      · exact .inl (by simp [hh])
      · exact .inr hh
    · rcases f2 with hh | hh
      · exact .inl (by simp [hh])
      · exact .inr (by omega)
    · exact .inl (by simp [hx])

/-- What the next round may count on: at the node's place there is room. -/
def Ready (m : Nat) (key : List UInt8) (h : Nat) (es : List Ent) (ks : List Kid) (k : Nat) : Prop :=
  (es.length + 2 ≤ 2 * m ∧ k = 2 * h + 1) ∨ (k = 2 * h ∧ (at_ key es = true ∨ ∃ x, ks[pos key es]? = some x ∧ x.n + 2 ≤ 2 * m))

/-- A full kid has been cut. -/
theorem PI.cut (hI : PI w0 tb m key v L0 bs0 wr rb H loR (h + 1) nb lo F A B es ks gk gv gc ck cv cc) {W' : World} {es' : List Ent} {ks' : List Kid} {gk' gv' gc' : Option Nat} {ck' cv' cc' : Nat} {em : Ent} {k1 k2 : Kid} (hroom : es.length + 2 ≤ 2 * m) (hat : at_ key es = false)
    (hC : Cut2 wr W' m h nb (pos key es) es ks (ownL nb gk gv gc ++ ks.flatMap Kid.bs) (tb :: F) es' ks' gk' gv' gc' ck' cv' cc' em k1 k2) :
    PI w0 tb m key v L0 bs0 W' rb H loR (h + 1) nb lo F A B es' ks' gk' gv' gc' ck' cv' cc' ∧ Ready m key (h + 1) es' ks' (2 * (h + 1)) := by
  have hpl := pos_le key es
  have hl := hC.ees
  have hlen : es'.length = es.length + 1 := by rw [hl]; simp; omega
  have hsz := hI.touch.size
  have hnt : ∀ y ∈ tb :: F, y ∉ ownL nb gk gv gc ++ ks.flatMap Kid.bs := by
    intro y hy hh
    have hnd := hI.nodup
    rcases List.mem_append.1 hh with hh | hh
    · exact (List.nodup_append.1 hnd).2.2 y hh y (by
        rcases List.mem_cons.1 hy with rfl | hy
        · simp
        · exact List.mem_cons_of_mem _ (List.mem_append_left _ hy)) rfl
    · have h2 := (List.nodup_append.1 hnd).2.1
      rcases List.mem_cons.1 hy with rfl | hy
      · exact (List.nodup_cons.1 h2).1 (List.mem_append_right _ hh)
      · exact (List.nodup_append.1 (List.nodup_cons.1 h2).2).2.2 y hy y hh rfl
  have hlt : ∀ y ∈ tb :: F, y < wr.heap.size := fun y hy => hI.rlt y (by
    rcases List.mem_cons.1 hy with rfl | hy
    · simp
    · exact List.mem_cons_of_mem _ (List.mem_append_left _ hy))
  have hkeep : ∀ y ∈ tb :: F, W'.heap[y]? = wr.heap[y]? := fun y hy => hC.touch.block y (hlt y hy) (hnt y hy)
  refine ⟨⟨by rw [hkeep tb (by simp)]; exact hI.tree, hC.node, hC.ok, hI.hole.congr fun x hx => hkeep x (List.mem_cons_of_mem _ hx), hI.loR, by have := hI.lo; omega, by omega, ?_, fun x hx => ?_, ?_, by rw [hC.L]; exact hI.insE, by rw [hC.L]; exact hI.hasE, by rw [hC.L]; exact hI.srt, hI.srt0, ?_, hI.m2, hI.m64⟩, .inr ⟨rfl, ?_⟩⟩
  · refine (List.Perm.nodup_iff ?_).1 hC.nodup
    rw [List.perm_iff_count]
    intro a
    simp only [List.count_append, List.count_cons]
    omega
  · have := hlt x (List.mem_cons_of_mem _ hx); have := hC.touch.size; omega
  · intro x hx
    have hx' : x ∈ tb :: F ∨ x ∈ ownL nb gk' gv' gc' ++ ks'.flatMap Kid.bs := by
      simp only [List.mem_append, List.mem_cons] at hx ⊢
      rcases hx with hx | hx | hx | hx
      · exact .inr (.inl hx)
      · exact .inl (.inl hx)
      · exact .inl (.inr hx)
      · exact .inr (.inr hx)
    rcases hx' with hx' | hx'
    · refine hI.sub x (List.mem_append_right _ ?_)
      rcases List.mem_cons.1 hx' with rfl | hx'
      · simp
      · exact List.mem_cons_of_mem _ (List.mem_append_left _ hx')
    · rcases hC.sub x hx' with hx2 | hx2
      · refine hI.sub x ?_
        rcases List.mem_append.1 hx2 with hx2 | hx2
        · exact List.mem_append_left _ hx2
        · exact List.mem_append_right _ (List.mem_cons_of_mem _ (List.mem_append_right _ hx2))
      · exact .inr (by omega)
  · refine hI.touch.trans' hC.touch fun k hk hh => ?_
    have := hI.sub k (by
      rcases List.mem_append.1 hh with hh | hh
      · exact List.mem_append_left _ hh
      · exact List.mem_append_right _ (List.mem_cons_of_mem _ (List.mem_append_right _ hh)))
    rcases this with h' | h'
    · exact h'
    · omega
  · have hsn : Srt es' := by
      have := hI.srt
      rw [← hC.L] at this
      exact this.node
    have hx : ∀ e ∈ es.take (pos key es), blt e.1 key := fun e he => pos_lt key es e he
    have hy : ∀ e ∈ es.drop (pos key es), blt key e.1 := pos_gt key hI.srt.node (at_false hat)
    have hln : (es.take (pos key es)).length = pos key es := by rw [List.length_take]; omega
    have hkl : ks.length = es.length + 1 := hI.ok.1
    have hkt : (ks.take (pos key es)).length = pos key es := by rw [List.length_take]; omega
    by_cases h1 : em.1 = key
    · left
      have hp : pos key es' = pos key es := by
        refine (pos_unique key (by omega) ?_ ?_).symm
        · rw [hl, List.take_left' hln]; exact hx
        · intro e he
          rw [hl, List.getElem?_append_right (by omega), hln, Nat.sub_self] at he
          simp at he
          subst he
          rw [h1]; exact bytesLess_self _
      unfold at_
      rw [hp, hl, List.getElem?_append_right (by omega), hln, Nat.sub_self]
      simpa using h1
    · right
      by_cases h2 : Op.bytesLess em.1 key = true
      · refine ⟨k2, ?_, by have := hC.n2; have := hI.m2; omega⟩
        have hp : pos key es' = pos key es + 1 := by
          refine (pos_unique key (by omega) ?_ ?_).symm
          · rw [hl]
            intro e he
            rw [List.take_append, hln, show pos key es + 1 - pos key es = 1 by omega] at he
            rcases List.mem_append.1 he with he | he
            · exact hx e (List.mem_of_mem_take he)
            · simp at he; subst he; exact h2
          · intro e he
            rw [hl, List.getElem?_append_right (by omega), hln, show pos key es + 1 - pos key es = 1 by omega] at he
            rw [List.getElem?_cons_succ] at he
            exact blt_not (hy e (List.mem_of_getElem? he))
        rw [hp, hC.eks, List.getElem?_append_right (by omega), hkt, show pos key es + 1 - pos key es = 1 by omega]
        rfl
      · refine ⟨k1, ?_, by have := hC.n1; have := hI.m2; omega⟩
        have hp : pos key es' = pos key es := by
          refine (pos_unique key (by omega) ?_ ?_).symm
          · rw [hl, List.take_left' hln]; exact hx
          · intro e he
            rw [hl, List.getElem?_append_right (by omega), hln, Nat.sub_self] at he
            simp at he
            subst he
            simpa using h2
        rw [hp, hC.eks, List.getElem?_append_right (by omega), hkt, Nat.sub_self]
        rfl

/-- One step down. -/
theorem PI.down (hI : PI w0 tb m key v L0 bs0 wr rb H loR (h + 1) nb lo F A B es ks gk gv gc ck cv cc) (hat : at_ key es = false) {k : Kid} (hk : ks[pos key es]? = some k) (hroom : k.n + 2 ≤ 2 * m)
    {ek : List Ent} {kk : List Kid} {hk' hv hc : Option Nat} {dk dv dc : Nat} (hK : NodeAt wr k.b ek (kk.map Kid.b) hk' hv hc dk dv dc) (hKn : k.n = ek.length) (hKL : k.L = inter (kk.map Kid.L) ek) (hKbs : k.bs = ownL k.b hk' hv hc ++ kk.flatMap Kid.bs) (hKok : KidsOk wr m h kk ek.length) :
    PI w0 tb m key v L0 bs0 wr rb H loR h k.b (m - 1) (F ++ ownL nb gk gv gc ++ ((ks.take (pos key es)).flatMap Kid.bs ++ (ks.drop (pos key es + 1)).flatMap Kid.bs)) (A ++ pre ((ks.take (pos key es)).map Kid.L) (es.take (pos key es))) (suf ((ks.drop (pos key es + 1)).map Kid.L) (es.drop (pos key es)) ++ B) ek kk hk' hv hc dk dv dc ∧
      Ready m key h ek kk (2 * h + 1) := by
  have hpl := pos_le key es
  have hks := list_at hk
  have hkl : ks.length = es.length + 1 := hI.ok.1
  have hkt : (ks.take (pos key es)).length = pos key es := by rw [List.length_take]; omega
  have hln : (es.take (pos key es)).length = pos key es := by rw [List.length_take]; omega
  have hx : ∀ e ∈ es.take (pos key es), blt e.1 key := fun e he => pos_lt key es e he
  have hy : ∀ e ∈ es.drop (pos key es), blt key e.1 := pos_gt key hI.srt.node (at_false hat)
  have hkm := hI.ok.2 k (List.mem_of_getElem? hk)
  have hes : es = es.take (pos key es) ++ es.drop (pos key es) := (List.take_append_drop _ _).symm
  have hint : inter (ks.map Kid.L) es = inter ((ks.take (pos key es)).map Kid.L ++ inter (kk.map Kid.L) ek :: (ks.drop (pos key es + 1)).map Kid.L) (es.take (pos key es) ++ es.drop (pos key es)) := by
    rw [List.take_append_drop, ← hKL, ← List.map_cons, ← List.map_append, ← hks]
  have hsrt := hI.srt
  rw [hint] at hsrt
  have hpm : ((ks.take (pos key es)).map Kid.L).length = (es.take (pos key es)).length := by rw [List.length_map, hkt, hln]
  have hbs : ks.flatMap Kid.bs = (ks.take (pos key es)).flatMap Kid.bs ++ ((ownL k.b hk' hv hc ++ kk.flatMap Kid.bs) ++ (ks.drop (pos key es + 1)).flatMap Kid.bs) := by
    conv => lhs; rw [hks]
    rw [List.flatMap_append, List.flatMap_cons, hKbs]
  have hperm : (ownL nb gk gv gc ++ (tb :: (F ++ ks.flatMap Kid.bs))).Perm (ownL k.b hk' hv hc ++ (tb :: ((F ++ ownL nb gk gv gc ++ ((ks.take (pos key es)).flatMap Kid.bs ++ (ks.drop (pos key es + 1)).flatMap Kid.bs)) ++ kk.flatMap Kid.bs))) := by
    rw [hbs, List.perm_iff_count]
    intro a
    simp only [List.count_append, List.count_cons]
    omega
  refine ⟨⟨hI.tree, hK, hKok, Hole.down hI.hole hI.node hes hks (by rw [hkt, hln]) hI.ok hI.lo hI.hi, hI.loR, by omega, by omega, hperm.nodup_iff.1 hI.nodup, fun x hx => ?_, fun x hx => hI.sub x (hperm.symm.subset hx), ?_, ?_, ?_, hI.srt0, hI.touch, hI.m2, hI.m64⟩, .inl ⟨by omega, rfl⟩⟩
  · rcases List.mem_append.1 hx with hx | hx
    · rcases List.mem_append.1 hx with hx | hx
      · exact hI.flt x hx
      · exact hI.node.lt x hx
    · refine hI.rlt x (List.mem_cons_of_mem _ (List.mem_append_right _ ?_))
      rw [hbs]
      rcases List.mem_append.1 hx with hx | hx
      · exact List.mem_append_left _ hx
      · exact List.mem_append_right _ (List.mem_append_right _ hx)
  · have h1 := ins_down (v := v) hpm hsrt hx hy
    have h2 := hI.insE
    rw [hint, h1] at h2
    rw [← h2]
    simp
  · rw [← hI.hasE, hint]
    exact (hasK_down hpm hsrt hx hy).symm
  · rw [inter_mid' _ _ _ _ _ hpm] at hsrt
    exact (srt_append.1 (srt_append.1 hsrt).2.1).1
end
end Go.Proofs.Ytkejjahlglldlaa
namespace Go.Proofs.Ytkejjahlglldlaa
open Go.RowKit Go.Lib

set_option maxRecDepth 100000 in
set_option maxHeartbeats 2000000 in
theorem New_bad (o : Int) (ho : o < 2 ∨ 64 < o) (w : World) :
    Calls Try.prog 6 #[.int .i64 o] w fun e w' => e = .returned (.tuple #[.pointer none, .int .i64 1]) ∧ Ext w w' := by
  by_cases h2 : o < 2
  · go_enter Try.func6, Try.ntmps6
    go_wp2
    go_ret2
    exact ⟨rfl, Ext.refl _⟩
  · have h64 : 64 < o := ho.resolve_left h2
    go_enter Try.func6, Try.ntmps6
    go_wp2
    go_ret2
    exact ⟨rfl, Ext.refl _⟩
def NewPost (m : Nat) (w : World) (e : Ending) (w' : World) : Prop :=
  ∃ tb bs, e = .returned (.tuple #[.pointer (some ⟨tb, 0, none⟩), .int .i64 0]) ∧ TreeAt w' tb m [] bs ∧ (∀ x ∈ bs, w.heap.size ≤ x) ∧ Ext w w'
set_option maxRecDepth 100000 in
set_option maxHeartbeats 2000000 in
theorem New_ok (m : Nat) (h2 : 2 ≤ m) (h64 : m ≤ 64) (w : World) :
    Calls Try.prog 6 #[.int .i64 (m : Int)] w (NewPost m w) := by
  have h2' : ¬ ((m : Int) < 2) := by omega
  have h64' : ¬ (64 < (m : Int)) := by omega
  go_enter Try.func6, Try.ntmps6
  go_wp2
  go_ret2
  have hb1 := blk_new w (.cells #[.slice none 0 0, .slice none 0 0, .slice none 0 0] 82)
  have hb2 := blk_new (w.alloc (.cells #[.slice none 0 0, .slice none 0 0, .slice none 0 0] 82)) (.cells #[.int .i64 (m : Int), .pointer (some ⟨w.heap.size, 0, none⟩), .int .i64 0] 84)
  rw [World.size_alloc] at hb2
  refine ⟨w.heap.size + 1, [w.heap.size + 1, w.heap.size], rfl, ⟨⟨w.heap.size, 0, 0, [w.heap.size], hb2, ⟨[], none, none, none, 0, 0, 0, ⟨blk_alloc hb1, Sl.nil _ _ _, Sl.nil _ _ _, Sl.nil _ _ _⟩, rfl, rfl, rfl⟩, by simp, by omega, rfl⟩, by simp, by simp [Srt], h2, h64⟩, by simp, ((Ext.refl w).alloc _).alloc _⟩
set_option maxRecDepth 100000 in
set_option maxHeartbeats 2000000 in
theorem Len_ok {tb m : Nat} {L : List Ent} {bs : List Nat} {w : World} (hT : TreeAt w tb m L bs) :
    Calls Try.prog 8 #[.pointer (some ⟨tb, 0, none⟩)] w fun e w' => e = .returned (.int .i64 (L.length : Int)) ∧ w = w' := by
  obtain ⟨rb, H, n, bs', hb, -⟩ := hT.ex
  obtain ⟨c0, c1, c2⟩ := blk3 hb
  clear hb hT
  go_enter Try.func8, Try.ntmps8
  go_wp2
  go_ret
  exact ⟨rfl, rfl⟩
end Go.Proofs.Ytkejjahlglldlaa
namespace Go.Proofs.Ytkejjahlglldlaa
open Go.RowKit Go.Lib

def CopyPost (m h : Nat) (k : Kid) (w : World) (e : Ending) (w' : World) : Prop :=
  ∃ k' : Kid, e = .returned (.pointer (some ⟨k'.b, 0, none⟩)) ∧ Rep w' m h k' ∧ k'.n = k.n ∧ k'.L = k.L ∧ (∀ x ∈ k'.bs, w.heap.size ≤ x) ∧ Ext w w'

/-- The copy under way: so many kids are copied. -/
structure CI (w : World) (m h ob : Nat) (es : List Ent) (ks : List Kid) (gk gv : Option Nat) (ck cv : Nat) (wr : World) (i : Nat) (gc : Option Nat) (cc : Nat) (done : List Kid) : Prop where
  len : done.length = i
  blk : wr.heap[ob]? = some (.cells #[slv gk es.length ck, slv gv es.length cv, slv gc i cc] 82 (0, 0))
  keys : Sl wr 9 1 gk es.length ck (sK es)
  vals : Sl wr 2 1 gv es.length cv (sV es)
  kids : Sl wr 78 1 gc i cc (sP (done.map Kid.b))
  copies : ∀ (j : Nat) (x y : Kid), done[j]? = some x → ks[j]? = some y → (∃ h', h = h' + 1 ∧ Rep wr m h' x) ∧ x.n = y.n ∧ x.L = y.L ∧ ∀ z ∈ x.bs, ob < z ∧ gc ≠ some z
  gk : ∀ b, gk = some b → b < ob ∧ w.heap.size ≤ b
  gv : ∀ b, gv = some b → b < ob ∧ w.heap.size ≤ b
  gc : ∀ b, gc = some b → ob < b
  ob : w.heap.size ≤ ob
  ext : Ext w wr

theorem CI.push {w wr w1 w2 : World} {m h ob i g' cc cc' : Nat} {es : List Ent} {ks : List Kid} {gk gv gc : Option Nat} {ck cv : Nat} {done : List Kid} {y x : Kid} (hC : CI w m (h + 1) ob es ks gk gv ck cv wr i gc cc done)
    (hy : ks[i]? = some y) (hx : Rep w1 m h x) (hn : x.n = y.n) (hL : x.L = y.L) (hf : ∀ z ∈ x.bs, wr.heap.size ≤ z) (hE : Ext wr w1)
    (hS : Sl w2 78 1 (some g') (i + 1) cc' (sP (done.map Kid.b) ++ [.pointer (some ⟨x.b, 0, none⟩)])) (hT : Touch (fun k => gc = some k) w1 w2) (hg : gc = some g' ∨ w1.heap.size ≤ g') :
    CI w m (h + 1) ob es ks gk gv ck cv (w2.setCell ⟨ob, 2, none⟩ (slv (some g') (i + 1) cc')) (i + 1) (some g') cc' (done ++ [x]) := by
  have hobl : ob < wr.heap.size := blk_lt hC.blk
  have hs1 := hE.size
  have hs2 := hT.size
  have hgo : g' ≠ ob := by
    rcases hg with h | h
    · have := hC.gc g' h; omega
    · omega
  have hgc0 : gc ≠ some ob := fun e => by have := hC.gc ob e; omega
  have hblk : w2.heap[ob]? = some (.cells #[slv gk es.length ck, slv gv es.length cv, slv gc i cc] 82 (0, 0)) := hT.old (Ext.block hE hC.blk) hgc0
  have two : ∀ z, ob < z → gc ≠ some z → z < w1.heap.size → (w2.setCell ⟨ob, 2, none⟩ (slv (some g') (i + 1) cc')).heap[z]? = w1.heap[z]? := fun z h1 h2 h3 => by
    rw [Below.heap_setCell _ _ _ _ (show z ≠ ob by omega)]
    exact hT.block z h3 h2
  refine ⟨by simp [hC.len], blk_set hblk 2 _, ?_, ?_, ?_, ?_, hC.gk, hC.gv, ?_, hC.ob, ?_⟩
  · exact ((hC.keys.ext hE).touch hT (fun b hb e => by have := hC.gk b hb; have := hC.gc b e; omega)).set_off _ _ (fun b hb => by have := (hC.gk b hb).1; show b ≠ ob; omega)
  · exact ((hC.vals.ext hE).touch hT (fun b hb e => by have := hC.gv b hb; have := hC.gc b e; omega)).set_off _ _ (fun b hb => by have := (hC.gv b hb).1; show b ≠ ob; omega)
  · have : sP ((done ++ [x]).map Kid.b) = sP (done.map Kid.b) ++ [.pointer (some ⟨x.b, 0, none⟩)] := by simp [sP, adr]
    rw [this]
    exact hS.set_off _ _ (fun b hb => by cases hb; exact hgo)
  · intro j x' y' hx' hy'
    rcases Nat.lt_or_ge j done.length with hj | hj
    · rw [List.getElem?_append_left hj] at hx'
      obtain ⟨⟨h', e, hr⟩, h1, h2, h3⟩ := hC.copies j x' y' hx' hy'
      cases e
      have hlt := hr.lt
      refine ⟨⟨h, rfl, (hr.ext hE).congr fun b hb => two b (h3 b hb).1 (h3 b hb).2 (by have := hlt b hb; omega)⟩, h1, h2, fun z hz => ⟨(h3 z hz).1, fun e => ?_⟩⟩
      cases e
      rcases hg with h | h
      · exact (h3 g' hz).2 h
      · have := hlt g' hz; omega
    · have hj0 : j = done.length := by
        have := (List.getElem?_eq_some_iff.1 hx').1
        simp at this; omega
      rw [hj0, List.getElem?_append_right (Nat.le_refl _), Nat.sub_self] at hx'
      cases hx'
      rw [hj0, hC.len, hy] at hy'
      cases hy'
      have hz1 : ∀ z ∈ x.bs, gc ≠ some z := fun z hz e => by
        subst e
        have := hC.kids.block_lt
        have := hf z hz
        omega
      refine ⟨⟨h, rfl, hx.congr fun b hb => two b (by have := hf b hb; omega) (hz1 b hb) (hx.lt b hb)⟩, hn, hL, fun z hz => ⟨by have := hf z hz; omega, fun e => ?_⟩⟩
      cases e
      rcases hg with h | h
      · exact hz1 g' hz h
      · have := hx.lt g' hz; omega
  · intro b hb
    cases hb
    rcases hg with h | h
    · exact hC.gc g' h
    · omega
  · have t := Touch.setCell ((hE.touch (fun k => gc = some k ∨ k = ob)).trans (hT.mono fun _ _ h => .inl h)) (p := ⟨ob, 2, none⟩) (fun _ => .inr rfl) (slv (some g') (i + 1) cc')
    refine Ext.trans' hC.ext (t.below hC.ext.size fun k hk => ?_)
    have := hC.ob
    rcases hk with hk | rfl
    · have := hC.gc k hk; omega
    · omega

theorem CI.finish {w wr : World} {m h ob cc : Nat} {es : List Ent} {ks : List Kid} {gk gv gc : Option Nat} {ck cv : Nat} {done : List Kid} {k : Kid} {e : Ending} (hC : CI w m h ob es ks gk gv ck cv wr ks.length gc cc done)
    (he : e = .returned (.pointer (some ⟨ob, 0, none⟩))) (hok : KidsOk w m h ks es.length) (hn : k.n = es.length) (hL : k.L = inter (ks.map Kid.L) es) : CopyPost m h k w e wr := by
  have hmap : done.map Kid.L = ks.map Kid.L := by
    refine List.ext_getElem (by simp [hC.len]) fun j h1 h2 => ?_
    simp only [List.length_map] at h1 h2
    have := hC.copies j _ _ (List.getElem?_eq_getElem h1) (List.getElem?_eq_getElem h2)
    simpa using this.2.2.1
  refine ⟨⟨ob, es.length, k.L, ownL ob gk gv gc ++ done.flatMap Kid.bs⟩, he, Rep.close (es := es) (ks := done) (gk := gk) (gv := gv) (gc := gc) (ck := ck) (cv := cv) (cc := cc) ?_ rfl (by rw [hmap]; exact hL) rfl ?_, hn.symm, rfl, ?_, hC.ext⟩
  · refine ⟨?_, hC.keys, hC.vals, ?_⟩
    · rw [List.length_map, hC.len]; exact hC.blk
    · rw [List.length_map, hC.len]; exact hC.kids
  · cases h with
    | zero =>
      have : ks = [] := hok
      have hl := hC.len
      rw [this] at hl
      exact List.eq_nil_of_length_eq_zero hl
    | succ h =>
      refine ⟨by rw [hC.len]; exact hok.1, fun x hx => ?_⟩
      obtain ⟨j, hj, rfl⟩ := List.getElem_of_mem hx
      have hj2 : j < ks.length := by rw [← hC.len]; exact hj
      obtain ⟨⟨h', e, hr⟩, h1, -, -⟩ := hC.copies j _ _ (List.getElem?_eq_getElem hj) (List.getElem?_eq_getElem hj2)
      cases e
      have := hok.2 _ (List.getElem_mem hj2)
      exact ⟨hr, by rw [h1]; exact this.2.1, by rw [h1]; exact this.2.2⟩
  · intro x hx
    have hob := hC.ob
    rcases List.mem_append.1 hx with hx | hx
    · simp only [ownL, List.mem_cons, List.mem_append, Option.mem_toList] at hx
      rcases hx with rfl | hx | hx | hx
      · exact hob
      · exact (hC.gk x hx).2
      · exact (hC.gv x hx).2
      · have := hC.gc x hx; omega
    · obtain ⟨q, hq, hx⟩ := List.mem_flatMap.1 hx
      obtain ⟨j, hj, rfl⟩ := List.getElem_of_mem hq
      have hj2 : j < ks.length := by rw [← hC.len]; exact hj
      have := (hC.copies j _ _ (List.getElem?_eq_getElem hj) (List.getElem?_eq_getElem hj2)).2.2.2 x hx
      omega

theorem adr_map (g : Option Nat) : (g.map fun b => (⟨b, 0, none⟩ : Addr)) = adr g := by cases g <;> rfl
theorem ClnS_sl {g : Option Nat} {n cap : Nat} {xs : List Value} {w : World} (h : Sl w 9 1 g n cap xs) (h1 : ∀ u ∈ xs, u.oneCell' = true) (hsz : n ≤ 1000000000) : Calls Try.prog 76 #[slv g n cap] w (ClnPS n xs w) := by
  have := ClnS g 0 n cap xs w (by have := h.len; omega) (fun b hb j u hu => by subst hb; rw [Nat.zero_add]; exact h.cell hu) (fun hn => by subst hn; exact h.2.1) h1 hsz
  rwa [adr_map] at this
theorem ClnI_sl {g : Option Nat} {n cap : Nat} {xs : List Value} {w : World} (h : Sl w 2 1 g n cap xs) (h1 : ∀ u ∈ xs, u.oneCell' = true) (hsz : n ≤ 1000000000) : Calls Try.prog 77 #[slv g n cap] w (ClnPI n xs w) := by
  have := ClnI g 0 n cap xs w (by have := h.len; omega) (fun b hb j u hu => by subst hb; rw [Nat.zero_add]; exact h.cell hu) (fun hn => by subst hn; exact h.2.1) h1 hsz
  rwa [adr_map] at this

set_option maxRecDepth 100000 in
set_option maxHeartbeats 16000000 in
theorem copied_step (m h : Nat) (hm64 : m ≤ 64) (ih : ∀ h', h = h' + 1 → ∀ (k : Kid) (w : World), Rep w m h' k → k.n + 1 ≤ 2 * m → Calls Try.prog 40 #[.pointer (some ⟨k.b, 0, none⟩)] w (CopyPost m h' k w))
    (k : Kid) (w : World) (hr : Rep w m h k) (hhi : k.n + 1 ≤ 2 * m) : Calls Try.prog 40 #[.pointer (some ⟨k.b, 0, none⟩)] w (CopyPost m h k w) := by
  obtain ⟨es, ks, gk0, gv0, gc0, ck0, cv0, cc0, h1, h2, h3, h4, h5⟩ := hr.open
  have HN := Lib.hid h1; have HNN := Lib.hid h2; have HL := Lib.hid h3; have HBS := Lib.hid h4; have HOK := Lib.hid h5; have IH := Lib.hid ih
  obtain ⟨n0, n1, n2⟩ := blk3 h1.blk
  have hes : es.length ≤ 127 := by omega
  have hkl : ks.length ≤ 128 := by
    cases h with
    | zero => have : ks = [] := h5; simp [this]
    | succ h => have := h5.1; omega
  obtain ⟨kn, hkn⟩ : ∃ kn, (ks.map Kid.b).length = kn := ⟨_, rfl⟩
  rw [hkn] at n2
  have HKN : Hid (kn = ks.length) := by rw [List.length_map] at hkn; exact hkn.symm
  have hknb : kn ≤ 128 := by have := HKN.out; omega
  clear h1 h2 h3 h4 h5 ih hr hkn hkl
  go_enter Try.func40, Try.ntmps40
  go_wp2
  refine region_calm [.p 0, .p 1, .p 2, .l 3, .p 5, .p 6, .p 7, .l 8, .h 4 true, .h 9 false, .p 10, .h 11 false, .p 12] f_mixed (by kernel_rfl) (by kernel_rfl) ?_
  repeat (first | (refine plan_p rfl (fun K hK => ?_); go_simp; refine hK _ ?_; clear hK K) | (refine plan_l rfl (fun K hK => ?_); go_simp; refine hK _ ?_; clear hK K))
  refine plan_ct rfl rfl (fun K _ hK => ?_)
  go_wp2_with fail
  refine (ClnS_sl (w := w.drew) (HN.out.keys.ext (Ext.refl w).drew) (sK_one es) (by omega)).mono ?_
  rintro e w1 ⟨gk, ck, rfl, hS1, hg1, hE1⟩
  go_wp2
  refine hK _ _ (hE1) ?_; clear hK K
  refine plan_c rfl rfl (fun K _ hK => ?_)
  go_wp2_with fail
  have hE01 : Ext w w1 := (Ext.refl w).drew.trans hE1
  refine (ClnI_sl (HN.out.vals.ext hE01) (sV_one es) (by omega)).mono ?_
  rintro e w2 ⟨gv, cv, rfl, hS2, hg2, hE2⟩
  go_wp2
  repeat (first | (refine plan_p rfl (fun K hK => ?_); go_simp; refine hK _ ?_; clear hK K) | (refine plan_l rfl (fun K hK => ?_); go_simp; refine hK _ ?_; clear hK K))
  refine plan_c rfl rfl (fun K _ hK => ?_)
  go_wp2
  repeat (first | (refine plan_p rfl (fun K hK => ?_); go_simp; refine hK _ ?_; clear hK K) | (refine plan_l rfl (fun K hK => ?_); go_simp; refine hK _ ?_; clear hK K))
  refine plan_done ?_
  obtain ⟨ob, hob⟩ : ∃ ob, w2.heap.size = ob := ⟨_, rfl⟩
  obtain ⟨W3, hW3⟩ : ∃ W3, w2.alloc (.cells #[slv gk es.length ck, slv gv es.length cv, .slice none 0 0] 82) = W3 := ⟨_, rfl⟩
  have hE03 : Ext w W3 := by rw [← hW3]; exact (hE01.trans hE2).alloc _
  have hCI : Hid (CI w m h ob es ks gk gv ck cv W3 0 none 0 []) := ⟨rfl, by rw [← hW3, ← hob]; exact blk_new _ _, by rw [← hW3]; exact (hS1.ext hE2).ext ((Ext.refl _).alloc _), by rw [← hW3]; exact hS2.ext ((Ext.refl _).alloc _), Sl.nil _ _ _, by simp,
    fun b hb => by have := hg1 b hb; subst hb; have := hS1.block_lt; have := hE2.size; exact ⟨by omega, by simpa using hg1 b rfl⟩, fun b hb => by have := hg2 b hb; subst hb; have := hS2.block_lt; have := hE01.size; exact ⟨by omega, by omega⟩, by simp, by rw [← hob]; exact (hE01.trans hE2).size, hE03⟩
  rw [hob, hW3]
  clear hW3 hob hS1 hS2 hg1 hg2 hE1 hE2 hE01 n0 n1 n2
  have HE3 := Lib.hid hE03; clear hE03
  have HN3 := Lib.hid (HN.out.congr fun y hy => Below.block HE3.out y (HN.out.lt y hy))
  obtain ⟨n0, n1, n2⟩ := blk3 HN3.out.blk
  have HKN2 : Hid ((ks.map Kid.b).length = kn) := by rw [List.length_map]; exact HKN.out.symm
  rw [HKN2.out] at n2
  go_wp2
  go_loopg [23] kn (fun r v23 wr => ∃ (i : Nat) (gc : Option Nat) (cc : Nat) (done : List Kid), i + r = kn ∧ v23 = .int .i64 (i : Int) ∧ CI w m h ob es ks gk gv ck cv wr i gc cc done)
  case atStart => exact ⟨0, none, 0, [], by omega, rfl, hCI.out⟩
  case round =>
    obtain ⟨i, gc, cc, done, hir, rfl, hC⟩ := hrel
    have HC := Lib.hid hC; clear hC
    have HIR := Lib.hid hir; clear hir
    clear n0 n1 n2
    by_cases hlt : i < kn
    · obtain ⟨y, hy⟩ : ∃ y, ks[i]? = some y := ⟨ks[i]'(by have := HKN.out; omega), List.getElem?_eq_getElem _⟩
      obtain ⟨h', hh'⟩ : ∃ h', h = h' + 1 := by
        cases h with
        | zero => have : ks = [] := HOK.out; rw [this] at hy; simp at hy
        | succ h' => exact ⟨h', rfl⟩
      subst hh'
      have hym := HOK.out.2 y (List.mem_of_getElem? hy)
      obtain ⟨gcb, hgcb⟩ := HN.out.kids.some_of_pos (by rw [List.length_map]; have := HKN.out; omega)
      have hsc := HN.out.kids.ext HC.out.ext
      rw [hgcb] at hsc
      have hci := hsc.cell (sP_get (show (ks.map Kid.b)[i]? = some y.b by rw [List.getElem?_map, hy]; rfl))
      have hri := fun U => run_index_slv (P := Try.prog) ei_node (cap := cc0) hgcb (j := i) (n := kn) hlt U
      obtain ⟨o0, o1, o2⟩ := blk3 HC.out.blk
      have HY := Lib.hid hy; have HYM := Lib.hid hym; have HG := Lib.hid hgcb
      clear hy hym hgcb hsc
      go_wp2
      refine region_calm [.p 0, .p 1, .p 2, .p 3, .l 4, .p 5, .h 6 true, .h 7 true, .h 8 false, .p 9, .p 10, .h 11 false] f_mixed (by kernel_rfl) (by kernel_rfl) ?_
      repeat (first | (refine plan_p rfl (fun K hK => ?_); go_simp; refine hK _ ?_; clear hK K) | (refine plan_l rfl (fun K hK => ?_); go_simp; refine hK _ ?_; clear hK K))
      refine plan_ct rfl rfl (fun K _ hK => ?_)
      go_wp2_with fail
      refine (IH.out h' rfl y wr.drew ((HYM.out.1.ext HC.out.ext).ext (Ext.refl wr).drew) HYM.out.2.2).mono ?_
      rintro e w4 ⟨x, rfl, hx, hxn, hxL, hxf, hE4⟩
      go_wp2
      refine hK _ _ (hE4) ?_; clear hK K
      refine plan_ct rfl rfl (fun K _ hK => ?_)
      go_wp2
      refine hK _ _ (((Ext.refl w4).alloc _)) ?_; clear hK K
      refine plan_c rfl rfl (fun K _ hK => ?_)
      have hE5 : Ext wr (w4.alloc (.cells #[.pointer (some ⟨x.b, 0, none⟩)] 78)) := ((Ext.refl wr).drew.trans hE4).alloc _
      refine app_lit ei_node rfl (.tmp 31) (.tmp 34) rfl (g := gc) (n := i) (cap := cc) (by rfl) (HC.out.kids.ext hE5) (by rfl) (by rfl) (blk_new w4 _) (by intro u hu; simp at hu; subst hu; rfl) (by omega) (by omega) ?_
      intro g' cap' w6 hS6 hT6 hat6
      have hgc0 : gc ≠ some ob := fun e => by have := HC.out.gc ob e; omega
      have hob6 := hT6.old (Ext.block hE5 HC.out.blk) hgc0
      have hfin := Lib.hid (HC.out.push (x := x) HY.out (hx.ext ((Ext.refl w4).alloc _)) hxn hxL (fun z hz => by have := hxf z hz; simpa using this) hE5 hS6 hT6 (hat6.imp id (fun e => by omega)))
      clear o0 o1 o2 hci
      obtain ⟨o0, o1, o2⟩ := blk3 hob6
      have hz := blk_frozen hob6 2
      clear hS6 hT6 hat6 hE5 hE4 hx hxn hxL hxf hob6 hgc0
      go_wp2
      repeat (first | (refine plan_p rfl (fun K hK => ?_); go_simp; refine hK _ ?_; clear hK K) | (refine plan_l rfl (fun K hK => ?_); go_simp; refine hK _ ?_; clear hK K))
      refine plan_c rfl rfl (fun K _ hK => ?_)
      go_wp2
      refine plan_done ?_
      go_wp2
      go_roundg (gk - 1)
      case measure => have := HIR.out; omega
      case rel => exact ⟨i + 1, some g', cap', done ++ [x], by have := HIR.out; omega, by go_num, hfin.out⟩
    · go_wp2
      go_ret
      have hik : i = ks.length := by have := HIR.out; have := HKN.out; omega
      have hC := HC.out
      rw [hik] at hC
      exact hC.finish rfl HOK.out HNN.out HL.out
theorem copied_ok (m : Nat) (hm64 : m ≤ 64) : ∀ (h : Nat) (k : Kid) (w : World), Rep w m h k → k.n + 1 ≤ 2 * m → Calls Try.prog 40 #[.pointer (some ⟨k.b, 0, none⟩)] w (CopyPost m h k w)
  | 0, k, w, hr, hk => copied_step m 0 hm64 (fun h' e => by cases e) k w hr hk
  | h + 1, k, w, hr, hk => copied_step m (h + 1) hm64 (fun h' e k w hr hk => by cases e; exact copied_ok m hm64 h k w hr hk) k w hr hk
end Go.Proofs.Ytkejjahlglldlaa
