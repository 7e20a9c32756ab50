/- How Put ends at a leaf; one step down; a full kid cut. No program is walked here. -/
import Derived.Test.YtkejjahlglldlaaBt8
namespace Go.Proofs.Ytkejjahlglldlaa
open Go.RowKit Go.Lib

section
variable {w0 wr : World} {tb m : Nat} {key : List UInt8} {v : Int} {L0 : List Ent} {bs0 : List Nat} {rb H loR h nb lo : Nat} {F : List Nat} {A B es : List Ent} {ks : List Kid} {gk gv gc : Option Nat} {ck cv cc : Nat}

theorem PI.leaf (hI : PI w0 tb m key v L0 bs0 wr rb H loR h nb lo F A B es ks gk gv gc ck cv cc) {W1 W2 : World} {gk' gv' ck' cv' : Nat} {e : Ending} (he : e = .returned (.bool false)) (hks : ks = []) (hat : at_ key es = false) (hroom : es.length + 2 ≤ 2 * m)
    (S1 : Sl W1 9 1 (some gk') (es.length + 1) ck' ((sK es).take (pos key es) ++ str key :: (sK es).drop (pos key es))) (T1 : Touch (fun k => gk = some k ∨ k = nb) wr W1) (f1 : gk = some gk' ∨ wr.heap.size ≤ gk')
    (S2 : Sl W2 2 1 (some gv') (es.length + 1) cv' ((sV es).take (pos key es) ++ .int .i64 v :: (sV es).drop (pos key es))) (T2 : Touch (fun k => gv = some k ∨ k = nb) W1 W2) (f2 : gv = some gv' ∨ W1.heap.size ≤ gv')
    (B2 : W2.heap[nb]? = some (.cells #[slv (some gk') (es.length + 1) ck', slv (some gv') (es.length + 1) cv', slv gc 0 cc] 82 (0, 0))) :
    PutPost tb m key v L0 bs0 w0 e (W2.setCell ⟨tb, 2, none⟩ (.int .i64 ((L0.length : Int) + 1))) := by
  have hpl := pos_le key es
  have hsn := hI.srt.node
  have hx : ∀ e ∈ es.take (pos key es), blt e.1 key := fun e he => pos_lt key es e he
  have hy : ∀ e ∈ es.drop (pos key es), blt key e.1 := pos_gt key hsn (at_false hat)
  have hins := ins_leaf (v := v) hx hy
  have hz : h = 0 := by
    cases h with
    | zero => rfl
    | succ h => have := hI.ok.1; rw [hks] at this; simp at this
  subst hks
  have hfalse : hasK key L0 = false := by rw [← hI.hasE]; exact hins.2
  have hlen : (es.take (pos key es) ++ (key, v) :: es.drop (pos key es)).length = es.length + 1 := by simp; omega
  obtain ⟨nd1, nd2, nd3⟩ := List.nodup_append.1 hI.nodup
  have hnbm : nb ∈ ownL nb gk gv gc := by simp
  have hlt : ∀ x ∈ ownL nb gk gv gc, x < wr.heap.size := hI.node.lt
  have htbl : tb < wr.heap.size := blk_lt hI.tree
  have hz1 := T1.size
  have hgk' := S1.block_lt
  have hN1 : ([nb] ++ (gk' :: (gv.toList ++ gc.toList))).Nodup := nodup_swap (g := gk) (B := wr.heap.size) (by simpa [ownL] using nd1) (fun x hx => by
    rcases hx with hx | hx
    · simp at hx; subst hx; exact hlt _ hnbm
    · exact hlt x (by simp only [ownL, List.mem_cons, List.mem_append] at hx ⊢; exact .inr (.inr hx))) f1
  have hN2 : ([nb, gk'] ++ (gv' :: gc.toList)).Nodup := nodup_swap (g := gv) (B := W1.heap.size) (by simpa using hN1) (fun x hx => by
    rcases hx with hx | hx
    · simp at hx
      rcases hx with rfl | rfl
      · have := hlt _ hnbm; omega
      · exact hgk'
    · have := hlt x (by simp only [ownL, List.mem_cons, List.mem_append] at hx ⊢; exact .inr (.inr (.inr hx))); omega) f2
  have htb : ∀ x, x ∈ ownL nb gk gv gc → x ≠ tb := fun x hx hh => nd3 x hx tb (by simp) hh
  have hgt : gk' ≠ tb := by
    rcases f1 with hh | hh
    · exact htb gk' (by simp [hh])
    · omega
  have hvt : gv' ≠ tb := by
    rcases f2 with hh | hh
    · exact htb gv' (by simp [hh])
    · omega
  have hnt : nb ≠ tb := htb nb hnbm
  have a1 : gk' ≠ nb ∧ gv' ≠ nb ∧ gv' ≠ gk' := by
    simp only [List.cons_append, List.nil_append, List.nodup_cons, List.mem_cons, not_or] at hN2
    exact ⟨fun e => hN2.1.1 e.symm, fun e => hN2.1.2.1 e.symm, fun e => hN2.2.1.1 e.symm⟩
  have b1 : ∀ k, gv = some k → k ≠ gk' := by
    intro k hk e
    subst hk e
    simp at hN1
  have hgc : ∀ k, gc = some k → gk ≠ some k ∧ gv ≠ some k ∧ k ≠ nb ∧ k ≠ tb := by
    intro k hk
    have h0 := (List.nodup_cons.1 nd1)
    refine ⟨fun e => ?_, fun e => ?_, fun e => ?_, htb k (by simp [hk])⟩
    · have := (List.nodup_append.1 h0.2).2.2 k (by simp [e]) k (by simp [hk]); exact this rfl
    · have := (List.nodup_append.1 (List.nodup_append.1 h0.2).2.1).2.2 k (by simp [e]) k (by simp [hk]); exact this rfl
    · exact h0.1 (by simp [hk, ← e])
  have TW : Touch (fun k => k ∈ ownL nb gk gv gc ∨ k = tb) wr W2 := by
    refine (T1.mono ?_).trans' (T2.mono ?_ : Touch (fun k => k ∈ ownL nb gk gv gc ∨ k = tb) W1 W2) (fun _ _ h => h)
    all_goals
      intro k _ h
      rcases h with h | h
      · exact .inl (by simp [h])
      · exact .inl (by simp [h])
  have hgcs : Sl W2 78 1 gc 0 cc [] := (hI.node.kids.touch T1 (fun b hb hh => hh.elim (hgc b hb).1 (hgc b hb).2.2.1)).touch T2 (fun b hb hh => hh.elim (hgc b hb).2.1 (hgc b hb).2.2.1)
  refine hI.close (es2 := es.take (pos key es) ++ (key, v) :: es.drop (pos key es)) (gk' := some gk') (gv' := some gv') (gc' := gc) (ck' := ck') (cv' := cv') (cc' := cc) (by rw [he, hfalse]) ?_ ?_ ?_ (by rw [hlen]; omega) (by rw [hlen]; omega) (by subst hz; rfl) ?_ ?_ ?_
  · exact TW.setCell (p := ⟨tb, 2, none⟩) (fun _ => .inr rfl) _
  · have h1 := ins_len key v hI.srt0
    rw [hfalse] at h1
    have h2 : ((ins key v L0).length : Int) = (L0.length : Int) + 1 := by rw [h1]; simp
    rw [h2]
    have h3 : W2.heap[tb]? = wr.heap[tb]? := by
      rw [T2.block tb (by omega) (by rintro (hh | hh); exact htb tb (by simp [hh]) rfl; exact hnt hh.symm), T1.block tb htbl (by rintro (hh | hh); exact htb tb (by simp [hh]) rfl; exact hnt hh.symm)]
    exact blk_set (h3.trans hI.tree) 2 _
  · refine ⟨?_, ?_, ?_, ?_⟩
    · rw [hlen]; exact blk_set_ne B2 hnt _
    · rw [hlen, sK_ins]
      exact (S1.touch T2 (by intro b hb; cases hb; rintro (hh | hh); exact b1 _ hh rfl; exact a1.1 hh)).set_off _ _ (by intro b hb; cases hb; exact hgt)
    · rw [hlen, sV_ins]
      exact S2.set_off _ _ (by intro b hb; cases hb; exact hvt)
    · exact hgcs.set_off _ _ (fun b hb => (hgc b hb).2.2.2)
  · exact hins.1.symm
  · simpa [ownL] using hN2
  · intro x hx
    simp only [ownL, Option.toList_some, List.mem_cons, List.mem_append, List.not_mem_nil, or_false, Option.mem_toList] at hx
    rcases hx with rfl | rfl | rfl | hx
    · exact .inl hnbm
    · rcases f1 with hh | hh
      · exact .inl (by simp [hh])
      · exact .inr hh
    · rcases f2 with hh | hh
      · exact .inl (by simp [hh])
      · exact .inr (by omega)
    · exact .inl (by simp [hx])

/-- What the next round may count on: at the node's place there is room. -/
def Ready (m : Nat) (key : List UInt8) (h : Nat) (es : List Ent) (ks : List Kid) (k : Nat) : Prop :=
  (es.length + 2 ≤ 2 * m ∧ k = 2 * h + 1) ∨ (k = 2 * h ∧ (at_ key es = true ∨ ∃ x, ks[pos key es]? = some x ∧ x.n + 2 ≤ 2 * m))

/-- A full kid has been cut. -/
theorem PI.cut (hI : PI w0 tb m key v L0 bs0 wr rb H loR (h + 1) nb lo F A B es ks gk gv gc ck cv cc) {W' : World} {es' : List Ent} {ks' : List Kid} {gk' gv' gc' : Option Nat} {ck' cv' cc' : Nat} {em : Ent} {k1 k2 : Kid} (hroom : es.length + 2 ≤ 2 * m) (hat : at_ key es = false)
    (hC : Cut2 wr W' m h nb (pos key es) es ks (ownL nb gk gv gc ++ ks.flatMap Kid.bs) (tb :: F) es' ks' gk' gv' gc' ck' cv' cc' em k1 k2) :
    PI w0 tb m key v L0 bs0 W' rb H loR (h + 1) nb lo F A B es' ks' gk' gv' gc' ck' cv' cc' ∧ Ready m key (h + 1) es' ks' (2 * (h + 1)) := by
  have hpl := pos_le key es
  have hl := hC.ees
  have hlen : es'.length = es.length + 1 := by rw [hl]; simp; omega
  have hsz := hI.touch.size
  have hnt : ∀ y ∈ tb :: F, y ∉ ownL nb gk gv gc ++ ks.flatMap Kid.bs := by
    intro y hy hh
    have hnd := hI.nodup
    rcases List.mem_append.1 hh with hh | hh
    · exact (List.nodup_append.1 hnd).2.2 y hh y (by
        rcases List.mem_cons.1 hy with rfl | hy
        · simp
        · exact List.mem_cons_of_mem _ (List.mem_append_left _ hy)) rfl
    · have h2 := (List.nodup_append.1 hnd).2.1
      rcases List.mem_cons.1 hy with rfl | hy
      · exact (List.nodup_cons.1 h2).1 (List.mem_append_right _ hh)
      · exact (List.nodup_append.1 (List.nodup_cons.1 h2).2).2.2 y hy y hh rfl
  have hlt : ∀ y ∈ tb :: F, y < wr.heap.size := fun y hy => hI.rlt y (by
    rcases List.mem_cons.1 hy with rfl | hy
    · simp
    · exact List.mem_cons_of_mem _ (List.mem_append_left _ hy))
  have hkeep : ∀ y ∈ tb :: F, W'.heap[y]? = wr.heap[y]? := fun y hy => hC.touch.block y (hlt y hy) (hnt y hy)
  refine ⟨⟨by rw [hkeep tb (by simp)]; exact hI.tree, hC.node, hC.ok, hI.hole.congr fun x hx => hkeep x (List.mem_cons_of_mem _ hx), hI.loR, by have := hI.lo; omega, by omega, ?_, fun x hx => ?_, ?_, by rw [hC.L]; exact hI.insE, by rw [hC.L]; exact hI.hasE, by rw [hC.L]; exact hI.srt, hI.srt0, ?_, hI.m2, hI.m64⟩, .inr ⟨rfl, ?_⟩⟩
  · refine (List.Perm.nodup_iff ?_).1 hC.nodup
    rw [List.perm_iff_count]
    intro a
    simp only [List.count_append, List.count_cons]
    omega
  · have := hlt x (List.mem_cons_of_mem _ hx); have := hC.touch.size; omega
  · intro x hx
    have hx' : x ∈ tb :: F ∨ x ∈ ownL nb gk' gv' gc' ++ ks'.flatMap Kid.bs := by
      simp only [List.mem_append, List.mem_cons] at hx ⊢
      rcases hx with hx | hx | hx | hx
      · exact .inr (.inl hx)
      · exact .inl (.inl hx)
      · exact .inl (.inr hx)
      · exact .inr (.inr hx)
    rcases hx' with hx' | hx'
    · refine hI.sub x (List.mem_append_right _ ?_)
      rcases List.mem_cons.1 hx' with rfl | hx'
      · simp
      · exact List.mem_cons_of_mem _ (List.mem_append_left _ hx')
    · rcases hC.sub x hx' with hx2 | hx2
      · refine hI.sub x ?_
        rcases List.mem_append.1 hx2 with hx2 | hx2
        · exact List.mem_append_left _ hx2
        · exact List.mem_append_right _ (List.mem_cons_of_mem _ (List.mem_append_right _ hx2))
      · exact .inr (by omega)
  · refine hI.touch.trans' hC.touch fun k hk hh => ?_
    have := hI.sub k (by
      rcases List.mem_append.1 hh with hh | hh
      · exact List.mem_append_left _ hh
      · exact List.mem_append_right _ (List.mem_cons_of_mem _ (List.mem_append_right _ hh)))
    rcases this with h' | h'
    · exact h'
    · omega
  · have hsn : Srt es' := by
      have := hI.srt
      rw [← hC.L] at this
      exact this.node
    have hx : ∀ e ∈ es.take (pos key es), blt e.1 key := fun e he => pos_lt key es e he
    have hy : ∀ e ∈ es.drop (pos key es), blt key e.1 := pos_gt key hI.srt.node (at_false hat)
    have hln : (es.take (pos key es)).length = pos key es := by rw [List.length_take]; omega
    have hkl : ks.length = es.length + 1 := hI.ok.1
    have hkt : (ks.take (pos key es)).length = pos key es := by rw [List.length_take]; omega
    by_cases h1 : em.1 = key
    · left
      have hp : pos key es' = pos key es := by
        refine (pos_unique key (by omega) ?_ ?_).symm
        · rw [hl, List.take_left' hln]; exact hx
        · intro e he
          rw [hl, List.getElem?_append_right (by omega), hln, Nat.sub_self] at he
          simp at he
          subst he
          rw [h1]; exact bytesLess_self _
      unfold at_
      rw [hp, hl, List.getElem?_append_right (by omega), hln, Nat.sub_self]
      simpa using h1
    · right
      by_cases h2 : Op.bytesLess em.1 key = true
      · refine ⟨k2, ?_, by have := hC.n2; have := hI.m2; omega⟩
        have hp : pos key es' = pos key es + 1 := by
          refine (pos_unique key (by omega) ?_ ?_).symm
          · rw [hl]
            intro e he
            rw [List.take_append, hln, show pos key es + 1 - pos key es = 1 by omega] at he
            rcases List.mem_append.1 he with he | he
            · exact hx e (List.mem_of_mem_take he)
            · simp at he; subst he; exact h2
          · intro e he
            rw [hl, List.getElem?_append_right (by omega), hln, show pos key es + 1 - pos key es = 1 by omega] at he
            rw [List.getElem?_cons_succ] at he
            exact blt_not (hy e (List.mem_of_getElem? he))
        rw [hp, hC.eks, List.getElem?_append_right (by omega), hkt, show pos key es + 1 - pos key es = 1 by omega]
        rfl
      · refine ⟨k1, ?_, by have := hC.n1; have := hI.m2; omega⟩
        have hp : pos key es' = pos key es := by
          refine (pos_unique key (by omega) ?_ ?_).symm
          · rw [hl, List.take_left' hln]; exact hx
          · intro e he
            rw [hl, List.getElem?_append_right (by omega), hln, Nat.sub_self] at he
            simp at he
            subst he
            simpa using h2
        rw [hp, hC.eks, List.getElem?_append_right (by omega), hkt, Nat.sub_self]
        rfl

/-- One step down. -/
theorem PI.down (hI : PI w0 tb m key v L0 bs0 wr rb H loR (h + 1) nb lo F A B es ks gk gv gc ck cv cc) (hat : at_ key es = false) {k : Kid} (hk : ks[pos key es]? = some k) (hroom : k.n + 2 ≤ 2 * m)
    {ek : List Ent} {kk : List Kid} {hk' hv hc : Option Nat} {dk dv dc : Nat} (hK : NodeAt wr k.b ek (kk.map Kid.b) hk' hv hc dk dv dc) (hKn : k.n = ek.length) (hKL : k.L = inter (kk.map Kid.L) ek) (hKbs : k.bs = ownL k.b hk' hv hc ++ kk.flatMap Kid.bs) (hKok : KidsOk wr m h kk ek.length) :
    PI w0 tb m key v L0 bs0 wr rb H loR h k.b (m - 1) (F ++ ownL nb gk gv gc ++ ((ks.take (pos key es)).flatMap Kid.bs ++ (ks.drop (pos key es + 1)).flatMap Kid.bs)) (A ++ pre ((ks.take (pos key es)).map Kid.L) (es.take (pos key es))) (suf ((ks.drop (pos key es + 1)).map Kid.L) (es.drop (pos key es)) ++ B) ek kk hk' hv hc dk dv dc ∧
      Ready m key h ek kk (2 * h + 1) := by
  have hpl := pos_le key es
  have hks := list_at hk
  have hkl : ks.length = es.length + 1 := hI.ok.1
  have hkt : (ks.take (pos key es)).length = pos key es := by rw [List.length_take]; omega
  have hln : (es.take (pos key es)).length = pos key es := by rw [List.length_take]; omega
  have hx : ∀ e ∈ es.take (pos key es), blt e.1 key := fun e he => pos_lt key es e he
  have hy : ∀ e ∈ es.drop (pos key es), blt key e.1 := pos_gt key hI.srt.node (at_false hat)
  have hkm := hI.ok.2 k (List.mem_of_getElem? hk)
  have hes : es = es.take (pos key es) ++ es.drop (pos key es) := (List.take_append_drop _ _).symm
  have hint : inter (ks.map Kid.L) es = inter ((ks.take (pos key es)).map Kid.L ++ inter (kk.map Kid.L) ek :: (ks.drop (pos key es + 1)).map Kid.L) (es.take (pos key es) ++ es.drop (pos key es)) := by
    rw [List.take_append_drop, ← hKL, ← List.map_cons, ← List.map_append, ← hks]
  have hsrt := hI.srt
  rw [hint] at hsrt
  have hpm : ((ks.take (pos key es)).map Kid.L).length = (es.take (pos key es)).length := by rw [List.length_map, hkt, hln]
  have hbs : ks.flatMap Kid.bs = (ks.take (pos key es)).flatMap Kid.bs ++ ((ownL k.b hk' hv hc ++ kk.flatMap Kid.bs) ++ (ks.drop (pos key es + 1)).flatMap Kid.bs) := by
    conv => lhs; rw [hks]
    rw [List.flatMap_append, List.flatMap_cons, hKbs]
  have hperm : (ownL nb gk gv gc ++ (tb :: (F ++ ks.flatMap Kid.bs))).Perm (ownL k.b hk' hv hc ++ (tb :: ((F ++ ownL nb gk gv gc ++ ((ks.take (pos key es)).flatMap Kid.bs ++ (ks.drop (pos key es + 1)).flatMap Kid.bs)) ++ kk.flatMap Kid.bs))) := by
    rw [hbs, List.perm_iff_count]
    intro a
    simp only [List.count_append, List.count_cons]
    omega
  refine ⟨⟨hI.tree, hK, hKok, Hole.down hI.hole hI.node hes hks (by rw [hkt, hln]) hI.ok hI.lo hI.hi, hI.loR, by omega, by omega, hperm.nodup_iff.1 hI.nodup, fun x hx => ?_, fun x hx => hI.sub x (hperm.symm.subset hx), ?_, ?_, ?_, hI.srt0, hI.touch, hI.m2, hI.m64⟩, .inl ⟨by omega, rfl⟩⟩
  · rcases List.mem_append.1 hx with hx | hx
    · rcases List.mem_append.1 hx with hx | hx
      · exact hI.flt x hx
      · exact hI.node.lt x hx
    · refine hI.rlt x (List.mem_cons_of_mem _ (List.mem_append_right _ ?_))
      rw [hbs]
      rcases List.mem_append.1 hx with hx | hx
      · exact List.mem_append_left _ hx
      · exact List.mem_append_right _ (List.mem_append_right _ hx)
  · have h1 := ins_down (v := v) hpm hsrt hx hy
    have h2 := hI.insE
    rw [hint, h1] at h2
    rw [← h2]
    simp
  · rw [← hI.hasE, hint]
    exact (hasK_down hpm hsrt hx hy).symm
  · rw [inter_mid' _ _ _ _ _ hpm] at hsrt
    exact (srt_append.1 (srt_append.1 hsrt).2.1).1
end
end Go.Proofs.Ytkejjahlglldlaa
