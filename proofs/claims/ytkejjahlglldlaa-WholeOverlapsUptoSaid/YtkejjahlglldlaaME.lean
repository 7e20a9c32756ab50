/- What split leaves: the three nodes. No program is walked here. A node whose kid was cut in two is a node again; the tree as a whole. No program is walked here. -/
import Derived.Test.YtkejjahlglldlaaMD
namespace Go.Proofs.Ytkejjahlglldlaa
open Go.RowKit Go.Lib

theorem Sl.take {w : World} {e : TypeId} {g : Option Nat} {n cap k : Nat} {xs : List Value} (h : Sl w e 1 g n cap xs) (hk : k ≤ n) : Sl w e 1 g k cap (xs.take k) := by
  refine ⟨by rw [List.length_take]; have := h.len; omega, ?_⟩
  cases g with
  | none => obtain ⟨_, h1, h2⟩ := h; exact ⟨by omega, h2⟩
  | some b =>
    obtain ⟨_, cur, hb, h1, h2, h3, h4⟩ := h
    refine ⟨cur, hb, by omega, h2, h3, ?_⟩
    rw [← h4, List.take_take]
    congr 1; omega
theorem sK_take (es : List Ent) (k : Nat) : sK (es.take k) = (sK es).take k := by simp [sK]
theorem sV_take (es : List Ent) (k : Nat) : sV (es.take k) = (sV es).take k := by simp [sV]
theorem sP_take (ps : List Nat) (k : Nat) : sP (ps.take k) = (sP ps).take k := by simp [sP]
theorem sK_drop (es : List Ent) (k : Nat) : sK (es.drop k) = (sK es).drop k := by simp [sK]
theorem sV_drop (es : List Ent) (k : Nat) : sV (es.drop k) = (sV es).drop k := by simp [sV]
theorem sP_drop (ps : List Nat) (k : Nat) : sP (ps.drop k) = (sP ps).drop k := by simp [sP]
theorem sK_ins (es : List Ent) (e : Ent) (i : Nat) : sK (es.take i ++ e :: es.drop i) = (sK es).take i ++ str e.1 :: (sK es).drop i := by simp [sK]
theorem sV_ins (es : List Ent) (e : Ent) (i : Nat) : sV (es.take i ++ e :: es.drop i) = (sV es).take i ++ .int .i64 e.2 :: (sV es).drop i := by simp [sV]
theorem sP_ins (ps : List Nat) (b : Nat) (i : Nat) : sP (ps.take i ++ b :: ps.drop i) = (sP ps).take i ++ .pointer (some ⟨b, 0, none⟩) :: (sP ps).drop i := by simp [sP, adr]

theorem nodup_swap {X Y : List Nat} {g : Option Nat} {g' B : Nat} (h : (X ++ (g.toList ++ Y)).Nodup) (hb : ∀ x, x ∈ X ∨ x ∈ Y → x < B) (hg : g = some g' ∨ B ≤ g') : (X ++ (g' :: Y)).Nodup := by
  rcases hg with rfl | hg
  · exact h
  · have h1 : (X ++ Y).Nodup := List.Sublist.nodup (List.Sublist.append_left (List.sublist_append_right _ _) _) h
    obtain ⟨h2, h3, h4⟩ := List.nodup_append.1 h1
    refine List.nodup_append.2 ⟨h2, List.nodup_cons.2 ⟨fun hm => by have := hb g' (.inr hm); omega, h3⟩, fun a ha b hbm => ?_⟩
    rcases List.mem_cons.1 hbm with rfl | hbm
    · have := hb a (.inl ha); omega
    · exact h4 a ha b hbm

/-- The three nodes behind a cut. -/
def SplitPost (nb kb m i : Nat) (es ek : List Ent) (ps pk : List Nat) (gk gv gc hk hv hc : Option Nat) (dk dv dc : Nat) (w : World) (e : Ending) (w' : World) : Prop :=
  (∃ v, e = .returned v) ∧ ∃ (em : Ent) (rb : Nat) (gk' gv' gc' : Nat) (rk rv rc : Option Nat) (ck' cv' cc' rck rcv rcc : Nat), ek[m - 1]? = some em ∧
    NodeAt w' nb (es.take i ++ em :: es.drop i) (ps.take (i + 1) ++ rb :: ps.drop (i + 1)) (some gk') (some gv') (some gc') ck' cv' cc' ∧
    NodeAt w' kb (ek.take (m - 1)) (pk.take m) hk hv hc dk dv dc ∧
    NodeAt w' rb (ek.drop m) (pk.drop m) rk rv rc rck rcv rcc ∧
    Touch (fun k => k ∈ ownL nb gk gv gc ∨ k ∈ ownL kb hk hv hc) w w' ∧
    (ownL nb (some gk') (some gv') (some gc') ++ (ownL kb hk hv hc ++ ownL rb rk rv rc)).Nodup ∧
    (∀ x, x ∈ ownL nb (some gk') (some gv') (some gc') → x ∈ ownL nb gk gv gc ∨ w.heap.size ≤ x) ∧ (∀ x ∈ ownL rb rk rv rc, w.heap.size ≤ x)

/-- What the walk knows ahead of the insertions. -/
structure SpA (nb kb rb m : Nat) (es ek : List Ent) (ps pk : List Nat) (gk gv gc hk hv hc rk rv rc : Option Nat) (ck cv cc dk dv dc rck rcv rcc : Nat) (w W : World) : Prop where
  nblk : W.heap[nb]? = some (.cells #[slv gk es.length ck, slv gv es.length cv, slv gc ps.length cc] 82 (0, 0))
  nk : Sl W 9 1 gk es.length ck (sK es)
  nv : Sl W 2 1 gv es.length cv (sV es)
  nc : Sl W 78 1 gc ps.length cc (sP ps)
  kblk : W.heap[kb]? = some (.cells #[slv hk ek.length dk, slv hv ek.length dv, slv hc (pk.take m).length dc] 82 (0, 0))
  kk : Sl W 9 1 hk ek.length dk (sK ek)
  kv : Sl W 2 1 hv ek.length dv (sV ek)
  kc : Sl W 78 1 hc (pk.take m).length dc (sP (pk.take m))
  right : NodeAt W rb (ek.drop m) (pk.drop m) rk rv rc rck rcv rcc
  touch : Touch (fun k => k ∈ ownL nb gk gv gc ∨ k ∈ ownL kb hk hv hc) w W
  fresh : ∀ x ∈ ownL rb rk rv rc, w.heap.size ≤ x
  nodup : (ownL rb rk rv rc).Nodup

theorem split_done {nb kb rb m i : Nat} {es ek : List Ent} {ps pk : List Nat} {gk gv gc hk hv hc rk rv rc : Option Nat} {ck cv cc dk dv dc rck rcv rcc : Nat} {w W W1 W2 W3 W4 : World} {em : Ent} {gk' gv' gc' ck' cv' cc' : Nat} {e : Ending} {v : Value}
    (he : e = .returned v) (hA : SpA nb kb rb m es ek ps pk gk gv gc hk hv hc rk rv rc ck cv cc dk dv dc rck rcv rcc w W) (hem : ek[m - 1]? = some em) (hi : i ≤ es.length) (hip : i + 1 ≤ ps.length)
    (hlt : ∀ x ∈ ownL nb gk gv gc ++ ownL kb hk hv hc, x < w.heap.size)
    (hnd : (ownL nb gk gv gc ++ ownL kb hk hv hc).Nodup) (hpk : (pk.take m).length ≤ pk.length)
    (S1 : Sl W1 9 1 (some gk') (es.length + 1) ck' ((sK es).take i ++ str em.1 :: (sK es).drop i)) (T1 : Touch (fun k => gk = some k ∨ k = nb) W W1) (f1 : gk = some gk' ∨ W.heap.size ≤ gk')
    (S2 : Sl W2 2 1 (some gv') (es.length + 1) cv' ((sV es).take i ++ .int .i64 em.2 :: (sV es).drop i)) (T2 : Touch (fun k => gv = some k ∨ k = nb) W1 W2) (f2 : gv = some gv' ∨ W1.heap.size ≤ gv')
    (S3 : Sl W3 78 1 (some gc') (ps.length + 1) cc' ((sP ps).take (i + 1) ++ .pointer (some ⟨rb, 0, none⟩) :: (sP ps).drop (i + 1))) (T3 : Touch (fun k => gc = some k ∨ k = nb) W2 W3) (f3 : gc = some gc' ∨ W2.heap.size ≤ gc')
    (B3 : W3.heap[nb]? = some (.cells #[slv (some gk') (es.length + 1) ck', slv (some gv') (es.length + 1) cv', slv (some gc') (ps.length + 1) cc'] 82 (0, 0)))
    (B4 : W4.heap[kb]? = some (.cells #[slv hk (m - 1) dk, slv hv (m - 1) dv, slv hc (pk.take m).length dc] 82 (0, 0))) (T4 : Touch (fun k => k = kb) W3 W4) :
    SplitPost nb kb m i es ek ps pk gk gv gc hk hv hc dk dv dc w e W4 := by
  have hsz := hA.touch.size
  have hz1 := T1.size
  have hz2 := T2.size
  have hz3 := T3.size
  -- all the blocks that were there, and the right node's
  have hN0 : (ownL nb gk gv gc ++ (ownL kb hk hv hc ++ ownL rb rk rv rc)).Nodup := by
    rw [← List.append_assoc]
    exact List.nodup_append.2 ⟨hnd, hA.nodup, fun a ha b hb e => by have := hlt a ha; have := hA.fresh b hb; omega⟩
  have hltK : ∀ x ∈ ownL kb hk hv hc ++ ownL rb rk rv rc, x < W.heap.size := fun x hx => by
    rcases List.mem_append.1 hx with hx | hx
    · have := hlt x (List.mem_append_right _ hx); omega
    · exact hA.right.lt x hx
  have hltN : ∀ x ∈ ownL nb gk gv gc, x < W.heap.size := fun x hx => by have := hlt x (List.mem_append_left _ hx); omega
  have hgk' := S1.block_lt
  have hgv' := S2.block_lt
  have hgc' := S3.block_lt
  generalize hR : ownL kb hk hv hc ++ ownL rb rk rv rc = R at *
  have hnbm : nb ∈ ownL nb gk gv gc := by simp
  have hN1 : ([nb] ++ (gk' :: (gv.toList ++ (gc.toList ++ R)))).Nodup := nodup_swap (g := gk) (B := W.heap.size) (by simpa [ownL] using hN0) (fun x hx => by
    rcases hx with hx | hx
    · simp at hx; subst hx; exact hltN _ hnbm
    · simp only [List.mem_append] at hx
      rcases hx with hx | hx | hx
      · exact hltN x (by simp only [ownL, List.mem_cons, List.mem_append]; exact .inr (.inr (.inl hx)))
      · exact hltN x (by simp only [ownL, List.mem_cons, List.mem_append]; exact .inr (.inr (.inr hx)))
      · exact hltK x hx) f1
  have hN2 : ([nb, gk'] ++ (gv' :: (gc.toList ++ R))).Nodup := nodup_swap (g := gv) (B := W1.heap.size) (by simpa using hN1) (fun x hx => by
    rcases hx with hx | hx
    · simp at hx
      rcases hx with rfl | rfl
      · have := hltN _ hnbm; omega
      · exact hgk'
    · simp only [List.mem_append] at hx
      rcases hx with hx | hx
      · have := hltN x (by simp only [ownL, List.mem_cons, List.mem_append]; exact .inr (.inr (.inr hx))); omega
      · have := hltK x hx; omega) f2
  have hN3 : ([nb, gk', gv'] ++ (gc' :: R)).Nodup := nodup_swap (g := gc) (B := W2.heap.size) (by simpa using hN2) (fun x hx => by
    rcases hx with hx | hx
    · simp at hx
      rcases hx with rfl | rfl | rfl
      · have := hltN _ hnbm; omega
      · omega
      · exact hgv'
    · have := hltK x hx; omega) f3
  have hkbR : kb ∈ R := by rw [← hR]; simp
  -- who is apart from whom
  have a1 : gk' ≠ nb ∧ gv' ≠ nb ∧ gc' ≠ nb ∧ nb ≠ kb := by
    simp only [List.cons_append, List.nil_append, List.nodup_cons, List.mem_cons, not_or] at hN3
    obtain ⟨⟨x1, x2, x3, x4⟩, _⟩ := hN3
    exact ⟨fun e => x1 e.symm, fun e => x2 e.symm, fun e => x3 e.symm, fun e => x4 (e ▸ hkbR)⟩
  have a2 : gk' ≠ kb ∧ gv' ≠ kb ∧ gc' ≠ kb := by
    simp only [List.cons_append, List.nil_append, List.nodup_cons, List.mem_cons, not_or] at hN3
    obtain ⟨_, ⟨_, _, x1⟩, ⟨_, x2⟩, x3, _⟩ := hN3
    exact ⟨fun e => x1 (e ▸ hkbR), fun e => x2 (e ▸ hkbR), fun e => x3 (e ▸ hkbR)⟩
  have b1 : ∀ k, gv = some k → k ≠ gk' := by
    intro k hk e
    subst hk e
    simp at hN1
  have b2 : ∀ k, gc = some k → k ≠ gk' ∧ k ≠ gv' := by
    intro k hk
    subst hk
    simp only [List.cons_append, List.nil_append, List.nodup_cons, List.mem_cons, List.mem_append, Option.toList_some, List.not_mem_nil, or_false, not_or] at hN2
    exact ⟨fun e => hN2.2.1.2.1 e.symm, fun e => hN2.2.2.1.1 e.symm⟩
  have kb4 : ∀ k ∈ R, k ≠ nb ∧ gk ≠ some k ∧ gv ≠ some k ∧ gc ≠ some k := by
    intro k hk
    obtain ⟨_, _, x⟩ := List.nodup_append.1 hN0
    refine ⟨fun e => x nb hnbm k hk e.symm, fun e => ?_, fun e => ?_, fun e => ?_⟩
    · exact x k (by simp [e]) k hk rfl
    · exact x k (by simp [e]) k hk rfl
    · exact x k (by simp [e]) k hk rfl
  -- from W on
  have TW : Touch (fun k => k ∈ ownL nb gk gv gc) W W3 := by
    refine ((T1.mono ?_).trans' (T2.mono ?_ : Touch (fun k => k ∈ ownL nb gk gv gc) W1 W2) (fun _ _ h => h)).trans' (T3.mono ?_ : Touch (fun k => k ∈ ownL nb gk gv gc) W2 W3) (fun _ _ h => h)
    all_goals
      intro k _ h
      rcases h with h | h
      · simp [h]
      · simp [h]
  have T34 : Touch (fun k => k ∈ ownL nb gk gv gc ∨ k = kb) W W4 := (TW.mono (fun _ _ h => .inl h)).trans' (T4.mono (fun _ _ h => .inr h)) (fun _ _ h => h)
  have hR3 : ∀ k ∈ R, k ≠ kb → W4.heap[k]? = W.heap[k]? := fun k hk hkb => T34.block k (hltK k hk) (by
    rintro (h | h)
    · obtain ⟨_, _, x⟩ := List.nodup_append.1 hN0
      exact x k h k hk rfl
    · exact hkb h)
  have c2 : ∀ k ∈ ownL rb rk rv rc, k ≠ kb := fun k hk e => by
    have := hA.fresh k hk
    have := hlt kb (by simp)
    omega
  have c3 : ∀ k, hk = some k ∨ hv = some k ∨ hc = some k → k ∈ R ∧ k ≠ kb := by
    intro k h
    have hm : k ∈ hk.toList ++ (hv.toList ++ hc.toList) := by simp only [List.mem_append, Option.mem_toList]; exact h
    refine ⟨by rw [← hR]; exact List.mem_append_left _ (List.mem_cons_of_mem _ hm), fun e => ?_⟩
    have := (List.nodup_cons.1 (List.nodup_append.1 hnd).2.1).1
    exact this (e ▸ hm)
  refine ⟨⟨v, he⟩, em, rb, gk', gv', gc', rk, rv, rc, ck', cv', cc', rck, rcv, rcc, hem, ⟨?_, ?_, ?_, ?_⟩, ⟨?_, ?_, ?_, ?_⟩, ?_, ?_, ?_, ?_, ?_⟩
  · have l1 : (es.take i ++ em :: es.drop i).length = es.length + 1 := by simp; omega
    have l2 : (ps.take (i + 1) ++ rb :: ps.drop (i + 1)).length = ps.length + 1 := by simp; omega
    rw [l1, l2, T4.block nb (by have := hltN _ hnbm; omega) a1.2.2.2]
    exact B3
  · have l1 : (es.take i ++ em :: es.drop i).length = es.length + 1 := by simp; omega
    rw [l1, sK_ins]
    refine ((S1.touch T2 ?_).touch T3 ?_).touch T4 ?_
    · intro _ hb; cases hb; rintro (h | h)
      · exact b1 _ h rfl
      · exact a1.1 h
    · intro _ hb; cases hb; rintro (h | h)
      · exact (b2 _ h).1 rfl
      · exact a1.1 h
    · intro _ hb; cases hb; intro h
      exact a2.1 h
  · have l1 : (es.take i ++ em :: es.drop i).length = es.length + 1 := by simp; omega
    rw [l1, sV_ins]
    refine (S2.touch T3 ?_).touch T4 ?_
    · intro _ hb; cases hb; rintro (h | h)
      · exact (b2 _ h).2 rfl
      · exact a1.2.1 h
    · intro _ hb; cases hb; intro h
      exact a2.2.1 h
  · have l2 : (ps.take (i + 1) ++ rb :: ps.drop (i + 1)).length = ps.length + 1 := by simp; omega
    rw [l2, sP_ins]
    exact S3.touch T4 (by intro _ hb; cases hb; exact a2.2.2)
  · have hml := (List.getElem?_eq_some_iff.1 hem).1
    have l1 : (ek.take (m - 1)).length = m - 1 := by rw [List.length_take]; omega
    rw [l1]; exact B4
  · have hml := (List.getElem?_eq_some_iff.1 hem).1
    have l1 : (ek.take (m - 1)).length = m - 1 := by rw [List.length_take]; omega
    rw [l1, sK_take]
    exact (hA.kk.congr fun b hb => hR3 b (c3 b (.inl hb)).1 (c3 b (.inl hb)).2).take (by omega)
  · have hml := (List.getElem?_eq_some_iff.1 hem).1
    have l1 : (ek.take (m - 1)).length = m - 1 := by rw [List.length_take]; omega
    rw [l1, sV_take]
    exact (hA.kv.congr fun b hb => hR3 b (c3 b (.inr (.inl hb))).1 (c3 b (.inr (.inl hb))).2).take (by omega)
  · exact hA.kc.congr fun b hb => hR3 b (c3 b (.inr (.inr hb))).1 (c3 b (.inr (.inr hb))).2
  · exact hA.right.congr fun b hb => hR3 b (by rw [← hR]; exact List.mem_append_right _ hb) (c2 b hb)
  · refine hA.touch.trans' T34 ?_
    rintro k _ (h | rfl)
    · exact .inl h
    · exact .inr (by simp)
  · show (nb :: (gk' :: ([] ++ (gv' :: ([] ++ [gc'])))) ++ (ownL kb hk hv hc ++ ownL rb rk rv rc)).Nodup
    rw [hR]
    simpa using hN3
  · intro x hx
    simp only [ownL, Option.toList_some, List.mem_cons, List.mem_append, List.not_mem_nil, or_false] at hx
    rcases hx with rfl | rfl | rfl | rfl
    · exact .inl hnbm
    · rcases f1 with h | h
      · exact .inl (by simp [h])
      · exact .inr (by omega)
    · rcases f2 with h | h
      · exact .inl (by simp [h])
      · exact .inr (by omega)
    · rcases f3 with h | h
      · exact .inl (by simp [h])
      · exact .inr (by omega)
  · exact hA.fresh

theorem Sl.set_off {w : World} {e : TypeId} {size n cap : Nat} {g : Option Nat} {xs : List Value} (h : Sl w e size g n cap xs) (p : Addr) (v : Value) (hne : ∀ b, g = some b → b ≠ p.block) : Sl (w.setCell p v) e size g n cap xs :=
  h.congr fun b hb => Below.heap_setCell _ _ _ _ (hne b hb)
theorem right_nodup {rb : Nat} {rk rv rc : Option Nat} (h1 : ∀ x, rk = some x → x < rb) (h2 : ∀ x, rv = some x → x < rb) (h3 : ∀ x y, rk = some x → rv = some y → x < y) (h4 : ∀ x, rc = some x → rb < x) : (ownL rb rk rv rc).Nodup := by
  cases rk <;> cases rv <;> cases rc <;> simp at h1 h2 h3 h4 ⊢ <;> omega
theorem spa_leaf {nb kb rb m : Nat} {es ek : List Ent} {ps : List Nat} {gk gv gc hk hv hc rk rv : Option Nat} {ck cv cc dk dv dc rck rcv M : Nat} {w W : World}
    (hE : Ext w W) (hN : NodeAt W nb es ps gk gv gc ck cv cc) (hK : NodeAt W kb ek [] hk hv hc dk dv dc) (hL : ek.length - m = M)
    (hB : W.heap[rb]? = some (.cells #[slv rk M rck, slv rv M rcv, .slice none 0 0] 82 (0, 0))) (h1 : ∀ x, rk = some x → w.heap.size ≤ x ∧ x < rb) (h2 : ∀ x, rv = some x → w.heap.size ≤ x ∧ x < rb) (h3 : ∀ x y, rk = some x → rv = some y → x < y) (hrb : w.heap.size ≤ rb)
    (hSK : Sl W 9 1 rk M rck ((sK ek).drop m)) (hSV : Sl W 2 1 rv M rcv ((sV ek).drop m)) :
    SpA nb kb rb m es ek ps [] gk gv gc hk hv hc rk rv none ck cv cc dk dv dc rck rcv 0 w W := by
  refine ⟨hN.blk, hN.keys, hN.vals, hN.kids, by simpa using hK.blk, hK.keys, hK.vals, by simpa using hK.kids, ⟨?_, ?_, ?_, ?_⟩, hE.touch _, ?_, right_nodup (fun x hx => (h1 x hx).2) (fun x hx => (h2 x hx).2) h3 (by simp)⟩
  · rw [List.length_drop, hL, List.drop_nil]; exact hB
  · rw [List.length_drop, hL, sK_drop]; exact hSK
  · rw [List.length_drop, hL, sV_drop]; exact hSV
  · simpa [sP] using Sl.nil W 78 1
  · intro x hx
    simp only [ownL, List.mem_cons, List.mem_append, Option.mem_toList] at hx
    rcases hx with rfl | hx | hx | hx
    · exact hrb
    · exact (h1 x hx).1
    · exact (h2 x hx).1
    · cases hx
theorem spa_inner {nb kb rb m : Nat} {es ek : List Ent} {ps pk : List Nat} {gk gv gc hk hv rk rv rc : Option Nat} {hcb ck cv cc dk dv dc rck rcv rcc M : Nat} {w W3 W4 : World}
    (hE : Ext w W4) (hN : NodeAt W4 nb es ps gk gv gc ck cv cc) (hK : NodeAt W4 kb ek pk hk hv (some hcb) dk dv dc) (hL : ek.length - m = M) (hpk : pk.length = 2 * m) (hnl : ∀ x ∈ ownL nb gk gv gc ++ ownL kb hk hv (some hcb), x < w.heap.size) (hnd : (ownL nb gk gv gc ++ ownL kb hk hv (some hcb)).Nodup)
    (hB : W4.heap[rb]? = some (.cells #[slv rk M rck, slv rv M rcv, .slice none 0 0] 82 (0, 0))) (h1 : ∀ x, rk = some x → w.heap.size ≤ x ∧ x < rb) (h2 : ∀ x, rv = some x → w.heap.size ≤ x ∧ x < rb) (h3 : ∀ x y, rk = some x → rv = some y → x < y) (hrb : w.heap.size ≤ rb) (hrb3 : rb < W3.heap.size)
    (hSK : Sl W4 9 1 rk M rck ((sK ek).drop m)) (hSV : Sl W4 2 1 rv M rcv ((sV ek).drop m)) (hSC : Sl W4 78 1 rc m rcc ((sP pk).drop m)) (h4 : ∀ x, rc = some x → W3.heap.size ≤ x) :
    SpA nb kb rb m es ek ps pk gk gv gc hk hv (some hcb) rk rv rc ck cv cc dk dv dc rck rcv rcc w ((W4.setCell ⟨rb, 2, none⟩ (slv rc m rcc)).setCell ⟨kb, 2, none⟩ (slv (some hcb) m dc)) := by
  have hkl := hnl kb (by simp)
  have hnbl := hnl nb (by simp)
  obtain ⟨hd1, hd2, hd3⟩ := List.nodup_append.1 hnd
  have hnk : nb ≠ kb := hd3 nb (by simp) kb (by simp)
  have hl1 : (pk.take m).length = m := by rw [List.length_take]; omega
  have hl2 : (pk.drop m).length = m := by rw [List.length_drop]; omega
  have hkid : ∀ x, hk = some x ∨ hv = some x ∨ hcb = x → x ≠ kb ∧ x < w.heap.size := fun x hx => by
    have hm : x ∈ hk.toList ++ (hv.toList ++ (some hcb).toList) := by
      simp only [List.mem_append, Option.mem_toList, Option.some.injEq]; exact hx
    exact ⟨fun e => (List.nodup_cons.1 hd2).1 (e ▸ hm), hnl x (List.mem_append_right _ (List.mem_cons_of_mem _ hm))⟩
  have hnode : ∀ x, gk = some x ∨ gv = some x ∨ gc = some x → x ≠ kb ∧ x < w.heap.size := fun x hx => by
    have hm : x ∈ ownL nb gk gv gc := by simp only [ownL, List.mem_cons, List.mem_append, Option.mem_toList]; exact .inr hx
    exact ⟨hd3 x hm kb (by simp), hnl x (List.mem_append_left _ hm)⟩
  have two : ∀ {e : TypeId} {g : Option Nat} {n cap : Nat} {xs : List Value}, Sl W4 e 1 g n cap xs → (∀ b, g = some b → b ≠ rb ∧ b ≠ kb) → Sl ((W4.setCell ⟨rb, 2, none⟩ (slv rc m rcc)).setCell ⟨kb, 2, none⟩ (slv (some hcb) m dc)) e 1 g n cap xs :=
    fun h hn => (h.set_off _ _ fun b hb => (hn b hb).1).set_off _ _ fun b hb => (hn b hb).2
  refine ⟨?_, two hN.keys fun b hb => ?_, two hN.vals fun b hb => ?_, two hN.kids fun b hb => ?_, ?_, two hK.keys fun b hb => ?_, two hK.vals fun b hb => ?_, ?_, ⟨?_, ?_, ?_, ?_⟩, ?_, ?_, right_nodup (fun x hx => (h1 x hx).2) (fun x hx => (h2 x hx).2) h3 (fun x hx => by have := h4 x hx; omega)⟩
  · exact blk_set_ne (blk_set_ne hN.blk (by show nb ≠ rb; omega) _) hnk _
  · have := hnode b (.inl hb); exact ⟨by omega, this.1⟩
  · have := hnode b (.inr (.inl hb)); exact ⟨by omega, this.1⟩
  · have := hnode b (.inr (.inr hb)); exact ⟨by omega, this.1⟩
  · rw [hl1]
    have := blk_set (blk_set_ne hK.blk (show kb ≠ rb by omega) (slv rc m rcc) (p := ⟨rb, 2, none⟩)) 2 (slv (some hcb) m dc)
    simpa using this
  · have := hkid b (.inl hb); exact ⟨by omega, this.1⟩
  · have := hkid b (.inr (.inl hb)); exact ⟨by omega, this.1⟩
  · rw [hl1, sP_take]
    refine two (hK.kids.take (by omega)) fun b hb => ?_
    cases hb
    have := hkid hcb (.inr (.inr rfl)); exact ⟨by omega, this.1⟩
  · rw [List.length_drop, hL, hl2]
    have h5 := blk_set hB 2 (slv rc m rcc)
    have := blk_set_ne (p := ⟨kb, 2, none⟩) h5 (show rb ≠ kb by omega) (slv (some hcb) m dc)
    simpa using this
  · rw [List.length_drop, hL, sK_drop]
    exact two hSK fun b hb => by have := h1 b hb; omega
  · rw [List.length_drop, hL, sV_drop]
    exact two hSV fun b hb => by have := h2 b hb; omega
  · rw [hl2, sP_drop]
    exact two hSC fun b hb => by have := h4 b hb; omega
  · refine Touch.setCell (Touch.setCell (hE.touch _) (p := ⟨rb, 2, none⟩) (fun h => ?_) _) (p := ⟨kb, 2, none⟩) (fun _ => .inr (by simp)) _
    simp only at h; omega
  · intro x hx
    simp only [ownL, List.mem_cons, List.mem_append, Option.mem_toList] at hx
    rcases hx with rfl | hx | hx | hx
    · exact hrb
    · exact (h1 x hx).1
    · exact (h2 x hx).1
    · have := h4 x hx; omega

/-- .. of a new text, the node's block then written: what lies behind. -/
theorem insS_at {g : Option Nat} {n cap i vb : Nat} {xs : List Value} {x : Value} {W U : World} (hs : Sl W 9 1 g n cap xs) (hE : Ext W U) (hx : U.heap[vb]? = some (.cells #[x] 9 (0, 0))) (hvb : W.heap.size ≤ vb) (hi : i ≤ n) (h1 : ∀ u ∈ xs, u.oneCell' = true) (h1x : x.oneCell' = true) (hn : n ≤ 1001) :
    Calls Try.prog 35 #[slv g n cap, .int .i64 (i : Int), .slice (some ⟨vb, 0, none⟩) 1 1] U fun e w' => ∃ g' cap', e = .returned (slv (some g') (n + 1) cap') ∧
      Sl w' 9 1 (some g') (n + 1) cap' (xs.take i ++ x :: xs.drop i) ∧ Touch (fun k => g = some k) W w' ∧ (g = some g' ∨ W.heap.size ≤ g') := by
  refine (InsS g n cap i vb 1 xs x U (hs.ext hE) hx (fun h => by subst h; have := hs.block_lt; omega) hi h1 h1x (by omega)).mono ?_
  rintro e w' ⟨g', cap', he, hS, hT, hf⟩
  exact ⟨g', cap', he, hS, (hE.touch _).trans' hT (fun _ _ h => h), hf.imp id fun h => by have := hE.size; omega⟩

/-- .. of a new text, the node's block then written: what lies behind. -/
theorem insI_at {g : Option Nat} {n cap i vb : Nat} {xs : List Value} {x : Value} {W U : World} (hs : Sl W 2 1 g n cap xs) (hE : Ext W U) (hx : U.heap[vb]? = some (.cells #[x] 2 (0, 0))) (hvb : W.heap.size ≤ vb) (hi : i ≤ n) (h1 : ∀ u ∈ xs, u.oneCell' = true) (h1x : x.oneCell' = true) (hn : n ≤ 1001) :
    Calls Try.prog 36 #[slv g n cap, .int .i64 (i : Int), .slice (some ⟨vb, 0, none⟩) 1 1] U fun e w' => ∃ g' cap', e = .returned (slv (some g') (n + 1) cap') ∧
      Sl w' 2 1 (some g') (n + 1) cap' (xs.take i ++ x :: xs.drop i) ∧ Touch (fun k => g = some k) W w' ∧ (g = some g' ∨ W.heap.size ≤ g') := by
  refine (InsI g n cap i vb 1 xs x U (hs.ext hE) hx (fun h => by subst h; have := hs.block_lt; omega) hi h1 h1x (by omega)).mono ?_
  rintro e w' ⟨g', cap', he, hS, hT, hf⟩
  exact ⟨g', cap', he, hS, (hE.touch _).trans' hT (fun _ _ h => h), hf.imp id fun h => by have := hE.size; omega⟩

/-- .. of a new text, the node's block then written: what lies behind. -/
theorem insN_at {g : Option Nat} {n cap i vb : Nat} {xs : List Value} {x : Value} {W U : World} (hs : Sl W 78 1 g n cap xs) (hE : Ext W U) (hx : U.heap[vb]? = some (.cells #[x] 78 (0, 0))) (hvb : W.heap.size ≤ vb) (hi : i ≤ n) (h1 : ∀ u ∈ xs, u.oneCell' = true) (h1x : x.oneCell' = true) (hn : n ≤ 1001) :
    Calls Try.prog 79 #[slv g n cap, .int .i64 (i : Int), .slice (some ⟨vb, 0, none⟩) 1 1] U fun e w' => ∃ g' cap', e = .returned (slv (some g') (n + 1) cap') ∧
      Sl w' 78 1 (some g') (n + 1) cap' (xs.take i ++ x :: xs.drop i) ∧ Touch (fun k => g = some k) W w' ∧ (g = some g' ∨ W.heap.size ≤ g') := by
  refine (InsN g n cap i vb 1 xs x U (hs.ext hE) hx (fun h => by subst h; have := hs.block_lt; omega) hi h1 h1x (by omega)).mono ?_
  rintro e w' ⟨g', cap', he, hS, hT, hf⟩
  exact ⟨g', cap', he, hS, (hE.touch _).trans' hT (fun _ _ h => h), hf.imp id fun h => by have := hE.size; omega⟩
theorem nd_store {g : Option Nat} {W w' : World} {nb j : Nat} {v : Value} (hT : Touch (fun k => g = some k) W w') : Touch (fun k => g = some k ∨ k = nb) W (w'.setCell ⟨nb, j, none⟩ v) :=
  Touch.setCell (hT.mono fun _ _ h => .inl h) (p := ⟨nb, j, none⟩) (fun _ => .inr rfl) v
theorem nd_blk {g : Option Nat} {W w' : World} {nb : Nat} {t : TypeId} {v0 v1 v2 : Value} (hB : W.heap[nb]? = some (.cells #[v0, v1, v2] t (0, 0))) (hT : Touch (fun k => g = some k) W w') (hne : g ≠ some nb) (j : Nat) (v : Value) :
    (w'.setCell ⟨nb, j, none⟩ v).heap[nb]? = some (.cells ((#[v0, v1, v2] : Array Value).setIfInBounds j v) t (0, 0)) := blk_set (hT.old hB hne) j v
theorem nd_blk_frozen {g : Option Nat} {W w' : World} {nb : Nat} {t : TypeId} {v0 v1 v2 : Value} (hB : W.heap[nb]? = some (.cells #[v0, v1, v2] t (0, 0))) (hT : Touch (fun k => g = some k) W w') (hne : g ≠ some nb) (j : Nat) : w'.frozen? ⟨nb, j, none⟩ = false := blk_frozen (hT.old hB hne) j
theorem nd_facts {nb kb : Nat} {gk gv gc hk hv hc : Option Nat} (hnd : (ownL nb gk gv gc ++ ownL kb hk hv hc).Nodup) :
    nb ≠ kb ∧ (∀ x, x = kb ∨ hk = some x ∨ hv = some x → gk ≠ some x ∧ gv ≠ some x ∧ gc ≠ some x ∧ x ≠ nb) ∧ gk ≠ some nb ∧ gv ≠ some nb ∧ gc ≠ some nb ∧ hk ≠ some kb ∧ hv ≠ some kb := by
  obtain ⟨h1, h2, h3⟩ := List.nodup_append.1 hnd
  have hn := (List.nodup_cons.1 h1).1
  have hk' := (List.nodup_cons.1 h2).1
  simp only [List.mem_append, Option.mem_toList, not_or] at hn hk'
  refine ⟨h3 nb (by simp) kb (by simp), fun x hx => ?_, hn.1, hn.2.1, hn.2.2, hk'.1, hk'.2.1⟩
  have hm : x ∈ ownL kb hk hv hc := by
    simp only [ownL, List.mem_cons, List.mem_append, Option.mem_toList]
    rcases hx with h | h | h
    · exact .inl h
    · exact .inr (.inl h)
    · exact .inr (.inr (.inl h))
  exact ⟨fun e => h3 x (by simp [e]) x hm rfl, fun e => h3 x (by simp [e]) x hm rfl, fun e => h3 x (by simp [e]) x hm rfl, fun e => h3 nb (by simp) x hm e.symm⟩
theorem nd_own {nb kb : Nat} {gk gv gc hk hv hc : Option Nat} (hnd : (ownL nb gk gv gc ++ ownL kb hk hv hc).Nodup) :
    (∀ x, gk = some x → gv ≠ some x) ∧ (∀ x, gk = some x → gc ≠ some x) ∧ (∀ x, gv = some x → gc ≠ some x) := by
  obtain ⟨h1, _, _⟩ := List.nodup_append.1 hnd
  obtain ⟨_, h2, h3⟩ := List.nodup_append.1 (List.nodup_cons.1 h1).2
  obtain ⟨_, _, h4⟩ := List.nodup_append.1 h2
  refine ⟨fun x hx e => ?_, fun x hx e => ?_, fun x hx e => ?_⟩
  · exact h3 x (by simp [hx]) x (by simp [e]) rfl
  · exact h3 x (by simp [hx]) x (by simp [e]) rfl
  · exact h4 x (by simp [hx]) x (by simp [e]) rfl
theorem ne_new {g : Option Nat} {g' x B : Nat} (h : g = some g' ∨ B ≤ g') (hx : x < B) (hg : g ≠ some x) : g' ≠ x := by
  intro e
  rcases h with h | h
  · exact hg (e ▸ h)
  · omega
end Go.Proofs.Ytkejjahlglldlaa
namespace Go.Proofs.Ytkejjahlglldlaa
open Go.RowKit Go.Lib

theorem nodup_new {X X0 Y : List Nat} {B : Nat} (hX : X.Nodup) (h0 : (X0 ++ Y).Nodup) (hlt : ∀ y ∈ Y, y < B) (hm : ∀ x ∈ X, x ∈ X0 ∨ B ≤ x) : (X ++ Y).Nodup := by
  obtain ⟨_, h2, h3⟩ := List.nodup_append.1 h0
  refine List.nodup_append.2 ⟨hX, h2, fun a ha b hb => ?_⟩
  rcases hm a ha with h | h
  · exact h3 a h b hb
  · have := hlt b hb; omega

theorem list_at {α : Type} {l : List α} {i : Nat} {x : α} (h : l[i]? = some x) : l = l.take i ++ x :: l.drop (i + 1) := by
  obtain ⟨hi, rfl⟩ := List.getElem?_eq_some_iff.1 h
  conv => lhs; rw [← List.take_append_drop i l]
  rw [List.drop_eq_getElem_cons hi]

/-- What the cut of a full kid leaves. -/
structure Cut2 (w w' : World) (m h nb i : Nat) (es : List Ent) (ks : List Kid) (old F : List Nat) (es' : List Ent) (ks' : List Kid) (gk gv gc : Option Nat) (ck cv cc : Nat) (em : Ent) (k1 k2 : Kid) : Prop where
  node : NodeAt w' nb es' (ks'.map Kid.b) gk gv gc ck cv cc
  ok : KidsOk w' m (h + 1) ks' es'.length
  ees : es' = es.take i ++ em :: es.drop i
  eks : ks' = ks.take i ++ k1 :: k2 :: ks.drop (i + 1)
  n1 : k1.n + 1 = m
  n2 : k2.n + 1 = m
  L : inter (ks'.map Kid.L) es' = inter (ks.map Kid.L) es
  touch : Touch (fun k => k ∈ old) w w'
  nodup : (F ++ (ownL nb gk gv gc ++ ks'.flatMap Kid.bs)).Nodup
  sub : ∀ x ∈ ownL nb gk gv gc ++ ks'.flatMap Kid.bs, x ∈ old ∨ w.heap.size ≤ x

theorem cut2_of {w w' : World} {m h nb i : Nat} {es ek : List Ent} {ks kk : List Kid} {k : Kid} {gk gv gc hk hv hc : Option Nat} {ck cv cc dk dv dc : Nat} {F : List Nat} {e : Ending} (hm : 2 ≤ m)
    (hN : NodeAt w nb es (ks.map Kid.b) gk gv gc ck cv cc) (hok : KidsOk w m (h + 1) ks es.length) (hk0 : ks[i]? = some k) (hie : i ≤ es.length)
    (hK : NodeAt w k.b ek (kk.map Kid.b) hk hv hc dk dv dc) (hKn : k.n = ek.length) (hKL : k.L = inter (kk.map Kid.L) ek) (hKbs : k.bs = ownL k.b hk hv hc ++ kk.flatMap Kid.bs) (hKok : KidsOk w m h kk ek.length) (hek : ek.length + 1 = 2 * m)
    (hF : ∀ x ∈ F, x < w.heap.size) (hnd : (F ++ (ownL nb gk gv gc ++ ks.flatMap Kid.bs)).Nodup)
    (hP : SplitPost nb k.b m i es ek (ks.map Kid.b) (kk.map Kid.b) gk gv gc hk hv hc dk dv dc w e w') :
    (∃ v, e = .returned v) ∧ ∃ es' ks' gk' gv' gc' ck' cv' cc' em k1 k2, Cut2 w w' m h nb i es ks (ownL nb gk gv gc ++ ks.flatMap Kid.bs) F es' ks' gk' gv' gc' ck' cv' cc' em k1 k2 := by
  obtain ⟨he, em, rb, gk', gv', gc', rk, rv, rc, ck', cv', cc', rck, rcv, rcc, hem, hN', hK', hR', hT, hnd', hsub, hfr⟩ := hP
  refine ⟨he, es.take i ++ em :: es.drop i, ks.take i ++ ⟨k.b, m - 1, inter ((kk.take m).map Kid.L) (ek.take (m - 1)), ownL k.b hk hv hc ++ (kk.take m).flatMap Kid.bs⟩ ::
    ⟨rb, m - 1, inter ((kk.drop m).map Kid.L) (ek.drop m), ownL rb rk rv rc ++ (kk.drop m).flatMap Kid.bs⟩ :: ks.drop (i + 1), some gk', some gv', some gc', ck', cv', cc', em, ⟨k.b, m - 1, inter ((kk.take m).map Kid.L) (ek.take (m - 1)), ownL k.b hk hv hc ++ (kk.take m).flatMap Kid.bs⟩, ⟨rb, m - 1, inter ((kk.drop m).map Kid.L) (ek.drop m), ownL rb rk rv rc ++ (kk.drop m).flatMap Kid.bs⟩, ?_⟩
  have hks := list_at hk0
  have hil := (List.getElem?_eq_some_iff.1 hk0).1
  have hkl : ks.length = es.length + 1 := hok.1
  have hkm : k ∈ ks := List.mem_of_getElem? hk0
  have hbsP : ks.flatMap Kid.bs = (ks.take i).flatMap Kid.bs ++ ((ownL k.b hk hv hc ++ ((kk.take m).flatMap Kid.bs ++ (kk.drop m).flatMap Kid.bs)) ++ (ks.drop (i + 1)).flatMap Kid.bs) := by
    conv => lhs; rw [hks]
    rw [List.flatMap_append, List.flatMap_cons, hKbs]
    congr 2
    conv => lhs; rw [← List.take_append_drop m kk]
    rw [List.flatMap_append]
  have hltks : ∀ x ∈ ks.flatMap Kid.bs, x < w.heap.size := fun x hx => by
    obtain ⟨q, hq, hx⟩ := List.mem_flatMap.1 hx
    exact (hok.2 q hq).1.lt x hx
  -- the blocks that are no node's own
  have hY : ((ownL nb gk gv gc ++ ownL k.b hk hv hc) ++ (F ++ ((ks.take i).flatMap Kid.bs ++ ((kk.take m).flatMap Kid.bs ++ ((kk.drop m).flatMap Kid.bs ++ (ks.drop (i + 1)).flatMap Kid.bs))))).Nodup := by
    refine (List.Perm.nodup_iff ?_).1 hnd
    rw [hbsP, List.perm_iff_count]
    intro a
    simp only [List.count_append]
    omega
  have hYlt : ∀ y ∈ F ++ ((ks.take i).flatMap Kid.bs ++ ((kk.take m).flatMap Kid.bs ++ ((kk.drop m).flatMap Kid.bs ++ (ks.drop (i + 1)).flatMap Kid.bs))), y < w.heap.size := by
    intro y hy
    rcases List.mem_append.1 hy with hy | hy
    · exact hF y hy
    · refine hltks y ?_
      rw [hbsP]
      simp only [List.mem_append] at hy ⊢
      rcases hy with hy | hy | hy | hy
      · exact .inl hy
      · exact .inr (.inl (.inr (.inl hy)))
      · exact .inr (.inl (.inr (.inr hy)))
      · exact .inr (.inr hy)
  have hX : ∀ x ∈ ownL nb (some gk') (some gv') (some gc') ++ (ownL k.b hk hv hc ++ ownL rb rk rv rc), x ∈ ownL nb gk gv gc ++ ownL k.b hk hv hc ∨ w.heap.size ≤ x := by
    intro x hx
    rcases List.mem_append.1 hx with hx | hx
    · exact (hsub x hx).imp (fun h => List.mem_append_left _ h) id
    · rcases List.mem_append.1 hx with hx | hx
      · exact .inl (List.mem_append_right _ hx)
      · exact .inr (hfr x hx)
  have hN2 := nodup_new hnd' hY hYlt hX
  -- what isn't touched
  have hkeep : ∀ y ∈ F ++ ((ks.take i).flatMap Kid.bs ++ ((kk.take m).flatMap Kid.bs ++ ((kk.drop m).flatMap Kid.bs ++ (ks.drop (i + 1)).flatMap Kid.bs))), w'.heap[y]? = w.heap[y]? := by
    intro y hy
    refine hT.block y (hYlt y hy) ?_
    rintro (h | h)
    · exact (List.nodup_append.1 hY).2.2 y (List.mem_append_left _ h) y hy rfl
    · exact (List.nodup_append.1 hY).2.2 y (List.mem_append_right _ h) y hy rfl
  have hkk : ∀ q ∈ kk, ∀ b ∈ q.bs, w'.heap[b]? = w.heap[b]? := by
    intro q hq b hb
    refine hkeep b (List.mem_append_right _ (List.mem_append_right _ ?_))
    rw [← List.append_assoc]
    refine List.mem_append_left _ ?_
    rw [← List.flatMap_append, List.take_append_drop]
    exact List.mem_flatMap.2 ⟨q, hq, hb⟩
  have hKok' := hKok.congr hkk
  have hl1 : (ek.take (m - 1)).length = m - 1 := by rw [List.length_take]; omega
  have hl2 : (ek.drop m).length = m - 1 := by rw [List.length_drop]; omega
  have hk1 : KidsOk w' m h (kk.take m) (m - 1) ∧ KidsOk w' m h (kk.drop m) (m - 1) := by
    cases h with
    | zero =>
      have : kk = [] := hKok
      subst this
      exact ⟨by simp [KidsOk], by simp [KidsOk]⟩
    | succ h =>
      have hl : kk.length = 2 * m := by rw [hKok.1]; exact hek
      exact ⟨⟨by rw [List.length_take]; omega, fun x hx => hKok'.2 x (List.mem_of_mem_take hx)⟩, ⟨by rw [List.length_drop]; omega, fun x hx => hKok'.2 x (List.mem_of_mem_drop hx)⟩⟩
  have hK2 : NodeAt w' k.b (ek.take (m - 1)) ((kk.take m).map Kid.b) hk hv hc dk dv dc := by rw [List.map_take]; exact hK'
  have hR2 : NodeAt w' rb (ek.drop m) ((kk.drop m).map Kid.b) rk rv rc rck rcv rcc := by rw [List.map_drop]; exact hR'
  refine ⟨?_, ⟨?_, ?_⟩, rfl, rfl, by show m - 1 + 1 = m; omega, by show m - 1 + 1 = m; omega, ?_, ?_, ?_, ?_⟩
  · have h1 : (ks.take i ++ (⟨k.b, m - 1, inter ((kk.take m).map Kid.L) (ek.take (m - 1)), ownL k.b hk hv hc ++ (kk.take m).flatMap Kid.bs⟩ : Kid) ::
        ⟨rb, m - 1, inter ((kk.drop m).map Kid.L) (ek.drop m), ownL rb rk rv rc ++ (kk.drop m).flatMap Kid.bs⟩ :: ks.drop (i + 1)).map Kid.b = (ks.map Kid.b).take (i + 1) ++ rb :: (ks.map Kid.b).drop (i + 1) := by
      rw [← List.map_take, ← List.map_drop, List.take_add_one, hk0]
      simp
    rw [h1]
    exact hN'
  · simp; omega
  · intro x hx
    have hold : ∀ q ∈ ks, (∀ b ∈ q.bs, b ∈ (ks.take i).flatMap Kid.bs ∨ b ∈ (ks.drop (i + 1)).flatMap Kid.bs) → Rep w' m h q ∧ m ≤ q.n + 1 ∧ q.n + 1 ≤ 2 * m := fun q hq hb =>
      ⟨(hok.2 q hq).1.congr fun b hb' => hkeep b (by
        simp only [List.mem_append]
        rcases hb b hb' with h | h
        · exact .inr (.inl h)
        · exact .inr (.inr (.inr (.inr h)))), (hok.2 q hq).2⟩
    rcases List.mem_append.1 hx with hx | hx
    · exact hold x (List.mem_of_mem_take hx) fun b hb => .inl (List.mem_flatMap.2 ⟨x, hx, hb⟩)
    · rcases List.mem_cons.1 hx with rfl | hx
      · exact ⟨Rep.close (ks := kk.take m) hK2 (by rw [hl1]) rfl rfl (by rw [hl1]; exact hk1.1), by show m ≤ m - 1 + 1; omega, by show m - 1 + 1 ≤ 2 * m; omega⟩
      · rcases List.mem_cons.1 hx with rfl | hx
        · exact ⟨Rep.close (ks := kk.drop m) hR2 (by rw [hl2]) rfl rfl (by rw [hl2]; exact hk1.2), by show m ≤ m - 1 + 1; omega, by show m - 1 + 1 ≤ 2 * m; omega⟩
        · exact hold x (List.mem_of_mem_drop hx) fun b hb => .inr (List.mem_flatMap.2 ⟨x, hx, hb⟩)
  · have h2 := inter_split ((ks.take i).map Kid.L) ((ks.drop (i + 1)).map Kid.L) (es.take i) (es.drop i) (inter ((kk.take m).map Kid.L) (ek.take (m - 1))) (inter ((kk.drop m).map Kid.L) (ek.drop m)) em (by simp; omega)
    have h3 := inter_halves (Ls := kk.map Kid.L) (j := m - 1) hem (by
      cases h with
      | zero => exact .inl (by have : kk = [] := hKok; simp [this])
      | succ h => exact .inr (by rw [List.length_map]; exact hKok.1))
    have hm1 : m - 1 + 1 = m := by omega
    rw [hm1, ← List.map_take, ← List.map_drop] at h3
    simp only [List.map_append, List.map_cons]
    rw [h2, ← h3, ← hKL, List.take_append_drop]
    conv => rhs; rw [hks]
    rw [List.map_append, List.map_cons]
  · refine hT.mono fun x _ hx => ?_
    rcases hx with hx | hx
    · exact List.mem_append_left _ hx
    · refine List.mem_append_right _ ?_
      rw [hbsP]
      simp only [List.mem_append]
      exact .inr (.inl (.inl hx))
  · refine (List.Perm.nodup_iff ?_).1 hN2
    rw [List.perm_iff_count]
    intro a
    simp only [List.flatMap_append, List.flatMap_cons, List.count_append]
    omega
  · intro x hx
    have h4 : x ∈ ownL nb (some gk') (some gv') (some gc') ++ (ownL k.b hk hv hc ++ ownL rb rk rv rc) ∨ x ∈ ks.flatMap Kid.bs := by
      rw [hbsP]
      simp only [List.flatMap_append, List.flatMap_cons] at hx
      simp only [List.mem_append] at hx ⊢
      rcases hx with hx | hx | (hx | hx) | (hx | hx) | hx
      · exact .inl (.inl hx)
      · exact .inr (.inl hx)
      · exact .inl (.inr (.inl hx))
      · exact .inr (.inr (.inl (.inr (.inl hx))))
      · exact .inl (.inr (.inr hx))
      · exact .inr (.inr (.inl (.inr (.inr hx))))
      · exact .inr (.inr (.inr hx))
    rcases h4 with h4 | h4
    · rcases hX x h4 with h5 | h5
      · rcases List.mem_append.1 h5 with h5 | h5
        · exact .inl (List.mem_append_left _ h5)
        · refine .inl (List.mem_append_right _ ?_)
          rw [hbsP]
          simp only [List.mem_append]
          exact .inr (.inl (.inl h5))
      · exact .inr h5
    · exact .inl (List.mem_append_right _ h4)
end Go.Proofs.Ytkejjahlglldlaa
