/- A node whose kid was cut in two is a node again; the tree as a whole. No program is walked here. -/
import Derived.Test.YtkejjahlglldlaaBt6
namespace Go.Proofs.Ytkejjahlglldlaa
open Go.RowKit Go.Lib

theorem nodup_new {X X0 Y : List Nat} {B : Nat} (hX : X.Nodup) (h0 : (X0 ++ Y).Nodup) (hlt : ∀ y ∈ Y, y < B) (hm : ∀ x ∈ X, x ∈ X0 ∨ B ≤ x) : (X ++ Y).Nodup := by
  obtain ⟨_, h2, h3⟩ := List.nodup_append.1 h0
  refine List.nodup_append.2 ⟨hX, h2, fun a ha b hb => ?_⟩
  rcases hm a ha with h | h
  · exact h3 a h b hb
  · have := hlt b hb; omega

theorem list_at {α : Type} {l : List α} {i : Nat} {x : α} (h : l[i]? = some x) : l = l.take i ++ x :: l.drop (i + 1) := by
  obtain ⟨hi, rfl⟩ := List.getElem?_eq_some_iff.1 h
  conv => lhs; rw [← List.take_append_drop i l]
  rw [List.drop_eq_getElem_cons hi]

/-- What the cut of a full kid leaves. -/
structure Cut2 (w w' : World) (m h nb i : Nat) (es : List Ent) (ks : List Kid) (old F : List Nat) (es' : List Ent) (ks' : List Kid) (gk gv gc : Option Nat) (ck cv cc : Nat) (em : Ent) (k1 k2 : Kid) : Prop where
  node : NodeAt w' nb es' (ks'.map Kid.b) gk gv gc ck cv cc
  ok : KidsOk w' m (h + 1) ks' es'.length
  ees : es' = es.take i ++ em :: es.drop i
  eks : ks' = ks.take i ++ k1 :: k2 :: ks.drop (i + 1)
  n1 : k1.n + 1 = m
  n2 : k2.n + 1 = m
  L : inter (ks'.map Kid.L) es' = inter (ks.map Kid.L) es
  touch : Touch (fun k => k ∈ old) w w'
  nodup : (F ++ (ownL nb gk gv gc ++ ks'.flatMap Kid.bs)).Nodup
  sub : ∀ x ∈ ownL nb gk gv gc ++ ks'.flatMap Kid.bs, x ∈ old ∨ w.heap.size ≤ x

theorem cut2_of {w w' : World} {m h nb i : Nat} {es ek : List Ent} {ks kk : List Kid} {k : Kid} {gk gv gc hk hv hc : Option Nat} {ck cv cc dk dv dc : Nat} {F : List Nat} {e : Ending} (hm : 2 ≤ m)
    (hN : NodeAt w nb es (ks.map Kid.b) gk gv gc ck cv cc) (hok : KidsOk w m (h + 1) ks es.length) (hk0 : ks[i]? = some k) (hie : i ≤ es.length)
    (hK : NodeAt w k.b ek (kk.map Kid.b) hk hv hc dk dv dc) (hKn : k.n = ek.length) (hKL : k.L = inter (kk.map Kid.L) ek) (hKbs : k.bs = ownL k.b hk hv hc ++ kk.flatMap Kid.bs) (hKok : KidsOk w m h kk ek.length) (hek : ek.length + 1 = 2 * m)
    (hF : ∀ x ∈ F, x < w.heap.size) (hnd : (F ++ (ownL nb gk gv gc ++ ks.flatMap Kid.bs)).Nodup)
    (hP : SplitPost nb k.b m i es ek (ks.map Kid.b) (kk.map Kid.b) gk gv gc hk hv hc dk dv dc w e w') :
    (∃ v, e = .returned v) ∧ ∃ es' ks' gk' gv' gc' ck' cv' cc' em k1 k2, Cut2 w w' m h nb i es ks (ownL nb gk gv gc ++ ks.flatMap Kid.bs) F es' ks' gk' gv' gc' ck' cv' cc' em k1 k2 := by
  obtain ⟨he, em, rb, gk', gv', gc', rk, rv, rc, ck', cv', cc', rck, rcv, rcc, hem, hN', hK', hR', hT, hnd', hsub, hfr⟩ := hP
  refine ⟨he, es.take i ++ em :: es.drop i, ks.take i ++ ⟨k.b, m - 1, inter ((kk.take m).map Kid.L) (ek.take (m - 1)), ownL k.b hk hv hc ++ (kk.take m).flatMap Kid.bs⟩ ::
    ⟨rb, m - 1, inter ((kk.drop m).map Kid.L) (ek.drop m), ownL rb rk rv rc ++ (kk.drop m).flatMap Kid.bs⟩ :: ks.drop (i + 1), some gk', some gv', some gc', ck', cv', cc', em, ⟨k.b, m - 1, inter ((kk.take m).map Kid.L) (ek.take (m - 1)), ownL k.b hk hv hc ++ (kk.take m).flatMap Kid.bs⟩, ⟨rb, m - 1, inter ((kk.drop m).map Kid.L) (ek.drop m), ownL rb rk rv rc ++ (kk.drop m).flatMap Kid.bs⟩, ?_⟩
  have hks := list_at hk0
  have hil := (List.getElem?_eq_some_iff.1 hk0).1
  have hkl : ks.length = es.length + 1 := hok.1
  have hkm : k ∈ ks := List.mem_of_getElem? hk0
  have hbsP : ks.flatMap Kid.bs = (ks.take i).flatMap Kid.bs ++ ((ownL k.b hk hv hc ++ ((kk.take m).flatMap Kid.bs ++ (kk.drop m).flatMap Kid.bs)) ++ (ks.drop (i + 1)).flatMap Kid.bs) := by
    conv => lhs; rw [hks]
    rw [List.flatMap_append, List.flatMap_cons, hKbs]
    congr 2
    conv => lhs; rw [← List.take_append_drop m kk]
    rw [List.flatMap_append]
  have hltks : ∀ x ∈ ks.flatMap Kid.bs, x < w.heap.size := fun x hx => by
    obtain ⟨q, hq, hx⟩ := List.mem_flatMap.1 hx
    exact (hok.2 q hq).1.lt x hx
  -- the blocks that are no node's own
  have hY : ((ownL nb gk gv gc ++ ownL k.b hk hv hc) ++ (F ++ ((ks.take i).flatMap Kid.bs ++ ((kk.take m).flatMap Kid.bs ++ ((kk.drop m).flatMap Kid.bs ++ (ks.drop (i + 1)).flatMap Kid.bs))))).Nodup := by
    refine (List.Perm.nodup_iff ?_).1 hnd
    rw [hbsP, List.perm_iff_count]
    intro a
    simp only [List.count_append]
    omega
  have hYlt : ∀ y ∈ F ++ ((ks.take i).flatMap Kid.bs ++ ((kk.take m).flatMap Kid.bs ++ ((kk.drop m).flatMap Kid.bs ++ (ks.drop (i + 1)).flatMap Kid.bs))), y < w.heap.size := by
    intro y hy
    rcases List.mem_append.1 hy with hy | hy
    · exact hF y hy
    · refine hltks y ?_
      rw [hbsP]
      simp only [List.mem_append] at hy ⊢
      rcases hy with hy | hy | hy | hy
      · exact .inl hy
      · exact .inr (.inl (.inr (.inl hy)))
      · exact .inr (.inl (.inr (.inr hy)))
      · exact .inr (.inr hy)
  have hX : ∀ x ∈ ownL nb (some gk') (some gv') (some gc') ++ (ownL k.b hk hv hc ++ ownL rb rk rv rc), x ∈ ownL nb gk gv gc ++ ownL k.b hk hv hc ∨ w.heap.size ≤ x := by
    intro x hx
    rcases List.mem_append.1 hx with hx | hx
    · exact (hsub x hx).imp (fun h => List.mem_append_left _ h) id
    · rcases List.mem_append.1 hx with hx | hx
      · exact .inl (List.mem_append_right _ hx)
      · exact .inr (hfr x hx)
  have hN2 := nodup_new hnd' hY hYlt hX
  -- what isn't touched
  have hkeep : ∀ y ∈ F ++ ((ks.take i).flatMap Kid.bs ++ ((kk.take m).flatMap Kid.bs ++ ((kk.drop m).flatMap Kid.bs ++ (ks.drop (i + 1)).flatMap Kid.bs))), w'.heap[y]? = w.heap[y]? := by
    intro y hy
    refine hT.block y (hYlt y hy) ?_
    rintro (h | h)
    · exact (List.nodup_append.1 hY).2.2 y (List.mem_append_left _ h) y hy rfl
    · exact (List.nodup_append.1 hY).2.2 y (List.mem_append_right _ h) y hy rfl
  have hkk : ∀ q ∈ kk, ∀ b ∈ q.bs, w'.heap[b]? = w.heap[b]? := by
    intro q hq b hb
    refine hkeep b (List.mem_append_right _ (List.mem_append_right _ ?_))
    rw [← List.append_assoc]
    refine List.mem_append_left _ ?_
    rw [← List.flatMap_append, List.take_append_drop]
    exact List.mem_flatMap.2 ⟨q, hq, hb⟩
  have hKok' := hKok.congr hkk
  have hl1 : (ek.take (m - 1)).length = m - 1 := by rw [List.length_take]; omega
  have hl2 : (ek.drop m).length = m - 1 := by rw [List.length_drop]; omega
  have hk1 : KidsOk w' m h (kk.take m) (m - 1) ∧ KidsOk w' m h (kk.drop m) (m - 1) := by
    cases h with
    | zero =>
      have : kk = [] := hKok
      subst this
      exact ⟨by simp [KidsOk], by simp [KidsOk]⟩
    | succ h =>
      have hl : kk.length = 2 * m := by rw [hKok.1]; exact hek
      exact ⟨⟨by rw [List.length_take]; omega, fun x hx => hKok'.2 x (List.mem_of_mem_take hx)⟩, ⟨by rw [List.length_drop]; omega, fun x hx => hKok'.2 x (List.mem_of_mem_drop hx)⟩⟩
  have hK2 : NodeAt w' k.b (ek.take (m - 1)) ((kk.take m).map Kid.b) hk hv hc dk dv dc := by rw [List.map_take]; exact hK'
  have hR2 : NodeAt w' rb (ek.drop m) ((kk.drop m).map Kid.b) rk rv rc rck rcv rcc := by rw [List.map_drop]; exact hR'
  refine ⟨?_, ⟨?_, ?_⟩, rfl, rfl, by show m - 1 + 1 = m; omega, by show m - 1 + 1 = m; omega, ?_, ?_, ?_, ?_⟩
  · have h1 : (ks.take i ++ (⟨k.b, m - 1, inter ((kk.take m).map Kid.L) (ek.take (m - 1)), ownL k.b hk hv hc ++ (kk.take m).flatMap Kid.bs⟩ : Kid) ::
        ⟨rb, m - 1, inter ((kk.drop m).map Kid.L) (ek.drop m), ownL rb rk rv rc ++ (kk.drop m).flatMap Kid.bs⟩ :: ks.drop (i + 1)).map Kid.b = (ks.map Kid.b).take (i + 1) ++ rb :: (ks.map Kid.b).drop (i + 1) := by
      rw [← List.map_take, ← List.map_drop, List.take_add_one, hk0]
      simp
    rw [h1]
    exact hN'
  · simp; omega
  · intro x hx
    have hold : ∀ q ∈ ks, (∀ b ∈ q.bs, b ∈ (ks.take i).flatMap Kid.bs ∨ b ∈ (ks.drop (i + 1)).flatMap Kid.bs) → Rep w' m h q ∧ m ≤ q.n + 1 ∧ q.n + 1 ≤ 2 * m := fun q hq hb =>
      ⟨(hok.2 q hq).1.congr fun b hb' => hkeep b (by
        simp only [List.mem_append]
        rcases hb b hb' with h | h
        · exact .inr (.inl h)
        · exact .inr (.inr (.inr (.inr h)))), (hok.2 q hq).2⟩
    rcases List.mem_append.1 hx with hx | hx
    · exact hold x (List.mem_of_mem_take hx) fun b hb => .inl (List.mem_flatMap.2 ⟨x, hx, hb⟩)
    · rcases List.mem_cons.1 hx with rfl | hx
      · exact ⟨Rep.close (ks := kk.take m) hK2 (by rw [hl1]) rfl rfl (by rw [hl1]; exact hk1.1), by show m ≤ m - 1 + 1; omega, by show m - 1 + 1 ≤ 2 * m; omega⟩
      · rcases List.mem_cons.1 hx with rfl | hx
        · exact ⟨Rep.close (ks := kk.drop m) hR2 (by rw [hl2]) rfl rfl (by rw [hl2]; exact hk1.2), by show m ≤ m - 1 + 1; omega, by show m - 1 + 1 ≤ 2 * m; omega⟩
        · exact hold x (List.mem_of_mem_drop hx) fun b hb => .inr (List.mem_flatMap.2 ⟨x, hx, hb⟩)
  · have h2 := inter_split ((ks.take i).map Kid.L) ((ks.drop (i + 1)).map Kid.L) (es.take i) (es.drop i) (inter ((kk.take m).map Kid.L) (ek.take (m - 1))) (inter ((kk.drop m).map Kid.L) (ek.drop m)) em (by simp; omega)
    have h3 := inter_halves (Ls := kk.map Kid.L) (j := m - 1) hem (by
      cases h with
      | zero => exact .inl (by have : kk = [] := hKok; simp [this])
      | succ h => exact .inr (by rw [List.length_map]; exact hKok.1))
    have hm1 : m - 1 + 1 = m := by omega
    rw [hm1, ← List.map_take, ← List.map_drop] at h3
    simp only [List.map_append, List.map_cons]
    rw [h2, ← h3, ← hKL, List.take_append_drop]
    conv => rhs; rw [hks]
    rw [List.map_append, List.map_cons]
  · refine hT.mono fun x _ hx => ?_
    rcases hx with hx | hx
    · exact List.mem_append_left _ hx
    · refine List.mem_append_right _ ?_
      rw [hbsP]
      simp only [List.mem_append]
      exact .inr (.inl (.inl hx))
  · refine (List.Perm.nodup_iff ?_).1 hN2
    rw [List.perm_iff_count]
    intro a
    simp only [List.flatMap_append, List.flatMap_cons, List.count_append]
    omega
  · intro x hx
    have h4 : x ∈ ownL nb (some gk') (some gv') (some gc') ++ (ownL k.b hk hv hc ++ ownL rb rk rv rc) ∨ x ∈ ks.flatMap Kid.bs := by
      rw [hbsP]
      simp only [List.flatMap_append, List.flatMap_cons] at hx
      simp only [List.mem_append] at hx ⊢
      rcases hx with hx | hx | (hx | hx) | (hx | hx) | hx
      · exact .inl (.inl hx)
      · exact .inr (.inl hx)
      · exact .inl (.inr (.inl hx))
      · exact .inr (.inr (.inl (.inr (.inl hx))))
      · exact .inl (.inr (.inr hx))
      · exact .inr (.inr (.inl (.inr (.inr hx))))
      · exact .inr (.inr (.inr hx))
    rcases h4 with h4 | h4
    · rcases hX x h4 with h5 | h5
      · rcases List.mem_append.1 h5 with h5 | h5
        · exact .inl (List.mem_append_left _ h5)
        · refine .inl (List.mem_append_right _ ?_)
          rw [hbsP]
          simp only [List.mem_append]
          exact .inr (.inl (.inl h5))
      · exact .inr h5
    · exact .inl (List.mem_append_right _ h4)
end Go.Proofs.Ytkejjahlglldlaa
