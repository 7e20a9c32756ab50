/- Two neighbours among a node's kids are cut anew, or become one: the node's contents stay. No program is walked here. A key taken out: the plain law; places of a key behind a turn. No program in sight. -/
import Derived.Test.YtkejjahlglldlaaME
namespace Go.Proofs.Ytkejjahlglldlaa
open Go.RowKit Go.Lib

/-- A node of height h + 1 whose kids were cut anew. -/
structure Recut (w w' : World) (m h nb : Nat) (es : List Ent) (ks : List Kid) (gk gv gc : Option Nat) (ck cv cc : Nat) (F : List Nat) (es' : List Ent) (ks' : List Kid) : Prop where
  node : NodeAt w' nb es' (ks'.map Kid.b) gk gv gc ck cv cc
  ok : KidsOk w' m (h + 1) ks' es'.length
  L : inter (ks'.map Kid.L) es' = inter (ks.map Kid.L) es
  touch : Touch (fun k => k ∈ ownL nb gk gv gc ++ ks.flatMap Kid.bs) w w'
  nodup : (F ++ (ownL nb gk gv gc ++ ks'.flatMap Kid.bs)).Nodup
  sub : ∀ x ∈ ownL nb gk gv gc ++ ks'.flatMap Kid.bs, x ∈ ownL nb gk gv gc ++ ks.flatMap Kid.bs ∨ w.heap.size ≤ x

theorem inter_pair (P Q : List (List Ent)) (x y L1 L2 : List Ent) (e : Ent) (h : P.length = x.length) : inter (P ++ L1 :: L2 :: Q) (x ++ e :: y) = pre P x ++ ((L1 ++ e :: L2) ++ suf Q y) := by
  rw [inter_split _ _ _ _ _ _ _ h, inter_mid' _ _ _ _ _ h]

theorem recut_of {w w' : World} {m h nb : Nat} {es es' x y z : List Ent} {ks ks' P Q M ka kb : List Kid} {a b : Kid} {gk gv gc : Option Nat} {ck cv cc : Nat} {F oa ob O : List Nat} {e : Ent}
    (hok : KidsOk w m (h + 1) ks es.length) (hks : ks = P ++ a :: b :: Q) (hes : es = x ++ e :: y) (hP : P.length = x.length) (hks' : ks' = P ++ M ++ Q) (hes' : es' = x ++ z ++ y) (hM : M.length = z.length + 1)
    (ha : a.bs = oa ++ ka.flatMap Kid.bs) (hb : b.bs = ob ++ kb.flatMap Kid.bs) (hF : ∀ x ∈ F, x < w.heap.size) (hnd : (F ++ (ownL nb gk gv gc ++ ks.flatMap Kid.bs)).Nodup)
    (hT : Touch (fun k => k ∈ ownL nb gk gv gc ++ (oa ++ ob)) w w') (hndO : (ownL nb gk gv gc ++ O).Nodup) (hsub : ∀ x ∈ O, x ∈ ownL nb gk gv gc ++ (oa ++ ob) ∨ w.heap.size ≤ x)
    (hMb : (M.flatMap Kid.bs).Perm (O ++ (ka ++ kb).flatMap Kid.bs)) (hMok : (∀ q ∈ ka ++ kb, ∀ c ∈ q.bs, w'.heap[c]? = w.heap[c]?) → ∀ k ∈ M, Rep w' m h k ∧ m ≤ k.n + 1 ∧ k.n + 1 ≤ 2 * m)
    (hL : pre (P.map Kid.L) x ++ ((a.L ++ e :: b.L) ++ suf (Q.map Kid.L) y) = inter ((P ++ M ++ Q).map Kid.L) (x ++ z ++ y)) (hnode : NodeAt w' nb es' (ks'.map Kid.b) gk gv gc ck cv cc) :
    Recut w w' m h nb es ks gk gv gc ck cv cc F es' ks' := by
  have hkl : ks.length = es.length + 1 := hok.1
  have hbsP : ks.flatMap Kid.bs = P.flatMap Kid.bs ++ ((oa ++ ka.flatMap Kid.bs) ++ ((ob ++ kb.flatMap Kid.bs) ++ Q.flatMap Kid.bs)) := by
    rw [hks, List.flatMap_append, List.flatMap_cons, List.flatMap_cons, ha, hb]
  have hltks : ∀ x ∈ ks.flatMap Kid.bs, x < w.heap.size := fun x hx => by
    obtain ⟨q, hq, hx⟩ := List.mem_flatMap.1 hx
    exact (hok.2 q hq).1.lt x hx
  have hY : ((ownL nb gk gv gc ++ (oa ++ ob)) ++ (F ++ (P.flatMap Kid.bs ++ ((ka ++ kb).flatMap Kid.bs ++ Q.flatMap Kid.bs)))).Nodup := by
    refine (List.Perm.nodup_iff ?_).1 hnd
    rw [hbsP, List.perm_iff_count]
    intro a
    simp only [List.count_append, List.flatMap_append]
    omega
  have hYlt : ∀ y ∈ F ++ (P.flatMap Kid.bs ++ ((ka ++ kb).flatMap Kid.bs ++ Q.flatMap Kid.bs)), y < w.heap.size := by
    intro y hy
    rcases List.mem_append.1 hy with hy | hy
    · exact hF y hy
    · refine hltks y ?_
      rw [hbsP]
      simp only [List.mem_append, List.flatMap_append] at hy ⊢
      rcases hy with hy | (hy | hy) | hy
      · exact .inl hy
      · exact .inr (.inl (.inr hy))
      · exact .inr (.inr (.inl (.inr hy)))
      · exact .inr (.inr (.inr hy))
  have hX : ∀ x ∈ ownL nb gk gv gc ++ O, x ∈ ownL nb gk gv gc ++ (oa ++ ob) ∨ w.heap.size ≤ x := by
    intro x hx
    rcases List.mem_append.1 hx with hx | hx
    · exact .inl (List.mem_append_left _ hx)
    · exact hsub x hx
  have hN2 := nodup_new hndO hY hYlt hX
  have hkeep : ∀ y ∈ F ++ (P.flatMap Kid.bs ++ ((ka ++ kb).flatMap Kid.bs ++ Q.flatMap Kid.bs)), w'.heap[y]? = w.heap[y]? := by
    intro y hy
    refine hT.block y (hYlt y hy) ?_
    intro h
    exact (List.nodup_append.1 hY).2.2 y h y hy rfl
  have hkk : ∀ q ∈ ka ++ kb, ∀ c ∈ q.bs, w'.heap[c]? = w.heap[c]? := fun q hq c hc => hkeep c (List.mem_append_right _ (List.mem_append_right _ (List.mem_append_left _ (List.mem_flatMap.2 ⟨q, hq, hc⟩))))
  have hbsP' : (ks'.flatMap Kid.bs).Perm (P.flatMap Kid.bs ++ ((O ++ (ka ++ kb).flatMap Kid.bs) ++ Q.flatMap Kid.bs)) := by
    rw [hks', List.flatMap_append, List.flatMap_append, List.append_assoc]
    exact List.Perm.append_left _ (List.Perm.append_right _ hMb)
  refine ⟨hnode, ⟨?_, ?_⟩, ?_, ?_, ?_, ?_⟩
  · rw [hks'] ; rw [hks] at hkl; rw [hes] at hkl; rw [hes']
    simp only [List.length_append, List.length_cons] at hkl ⊢
    omega
  · intro q hq
    have hold : q ∈ ks → (∀ c ∈ q.bs, c ∈ P.flatMap Kid.bs ∨ c ∈ Q.flatMap Kid.bs) → Rep w' m h q ∧ m ≤ q.n + 1 ∧ q.n + 1 ≤ 2 * m := fun hq hb =>
      ⟨(hok.2 q hq).1.congr fun b hb' => hkeep b (by
        simp only [List.mem_append]
        rcases hb b hb' with h | h
        · exact .inr (.inl h)
        · exact .inr (.inr (.inr h))), (hok.2 q hq).2⟩
    rw [hks'] at hq
    rcases List.mem_append.1 hq with hq | hq
    · rcases List.mem_append.1 hq with hq | hq
      · exact hold (by rw [hks]; simp [hq]) fun c hc => .inl (List.mem_flatMap.2 ⟨q, hq, hc⟩)
      · exact hMok hkk q hq
    · exact hold (by rw [hks]; simp [hq]) fun c hc => .inr (List.mem_flatMap.2 ⟨q, hq, hc⟩)
  · rw [hks', hes', hks, hes, ← hL, List.map_append, List.map_cons, List.map_cons, inter_pair _ _ _ _ _ _ _ (by simpa using hP)]
  · refine hT.mono fun k _ hk => ?_
    simp only [List.mem_append] at hk ⊢
    rcases hk with hk | hk | hk
    · exact .inl hk
    · exact .inr (by rw [hbsP]; simp [hk])
    · exact .inr (by rw [hbsP]; simp [hk])
  · refine (List.Perm.nodup_iff ?_).1 hN2
    rw [List.perm_iff_count]
    intro a
    have := hbsP'.count_eq a
    simp only [List.flatMap_append, List.count_append] at this ⊢
    omega
  · intro c hc
    rcases List.mem_append.1 hc with hc | hc
    · exact .inl (List.mem_append_left _ hc)
    · have hc := hbsP'.subset hc
      simp only [List.mem_append] at hc
      rcases hc with hc | (hc | hc) | hc
      · exact .inl (List.mem_append_right _ (by rw [hbsP]; exact List.mem_append_left _ hc))
      · rcases hsub c hc with hc | hc
        · refine .inl ?_
          simp only [List.mem_append] at hc ⊢
          rcases hc with hc | hc | hc
          · exact .inl hc
          · exact .inr (by rw [hbsP]; simp [hc])
          · exact .inr (by rw [hbsP]; simp [hc])
        · exact .inr hc
      · refine .inl (List.mem_append_right _ ?_)
        rw [hbsP]
        rw [List.flatMap_append] at hc
        rcases List.mem_append.1 hc with hc | hc <;> simp [hc]
      · exact .inl (List.mem_append_right _ (by rw [hbsP]; simp [hc]))

/-- What stands at i and i + 1. -/
theorem list_at2 {α : Type} {l : List α} {i : Nat} {a b : α} (h1 : l[i]? = some a) (h2 : l[i + 1]? = some b) : l = l.take i ++ a :: b :: l.drop (i + 2) := by
  have e1 := list_at h1
  obtain ⟨hi, rfl⟩ := List.getElem?_eq_some_iff.1 h2
  conv => lhs; rw [e1]
  rw [List.drop_eq_getElem_cons hi]

theorem KidsOk.append_take {W : World} {m h n j : Nat} {ks : List Kid} (hk : KidsOk W m h ks n) (hj : j ≤ n) : KidsOk W m h (ks.take (j + 1)) j := by
  cases h with
  | zero => have : ks = [] := hk; subst this; simp [KidsOk]
  | succ h => exact ⟨by rw [List.length_take, hk.1]; omega, fun x hx => hk.2 x (List.mem_of_mem_take hx)⟩
theorem KidsOk.dropN {W : World} {m h n j : Nat} {ks : List Kid} (hk : KidsOk W m h ks n) (hj : j ≤ n) : KidsOk W m h (ks.drop j) (n - j) := by
  cases h with
  | zero => have : ks = [] := hk; subst this; simp [KidsOk]
  | succ h => exact ⟨by rw [List.length_drop, hk.1]; omega, fun x hx => hk.2 x (List.mem_of_mem_drop hx)⟩
theorem KidsOk.append {W : World} {m h n n' : Nat} {ks ks' : List Kid} (hk : KidsOk W m h ks n) (hk' : KidsOk W m h ks' n') : KidsOk W m h (ks ++ ks') (n + n' + 1) := by
  cases h with
  | zero => have h1 : ks = [] := hk; have h2 : ks' = [] := hk'; subst h1 h2; rfl
  | succ h =>
    refine ⟨by rw [List.length_append, hk.1, hk'.1]; omega, fun x hx => ?_⟩
    rcases List.mem_append.1 hx with hx | hx
    · exact hk.2 x hx
    · exact hk'.2 x hx
theorem KidsOk.flat {W : World} {m h n : Nat} {ks : List Kid} (hk : KidsOk W m h ks n) : ks.map Kid.L = [] ∨ (ks.map Kid.L).length = n + 1 := by
  cases h with
  | zero => have h1 : ks = [] := hk; subst h1; exact .inl rfl
  | succ h => exact .inr (by rw [List.length_map]; exact hk.1)
/-- Two nodes and a key between them, as one. -/
theorem inter_join {W : World} {m h n n' : Nat} {k1 k2 : List Kid} {e1 e2 : List Ent} (h1 : KidsOk W m h k1 n) (h2 : KidsOk W m h k2 n') (e : Ent) (hn : n = e1.length) :
    inter (k1.map Kid.L) e1 ++ e :: inter (k2.map Kid.L) e2 = inter ((k1 ++ k2).map Kid.L) (e1 ++ e :: e2) := by
  cases h with
  | zero =>
    have h1 : k1 = [] := h1; have h2 : k2 = [] := h2
    subst h1 h2
    simp [inter]
  | succ h =>
    rw [List.map_append, inter_cut _ _ _ _ _ (by rw [List.length_map, h1.1, hn]) (by
      intro hh
      have := congrArg List.length hh
      rw [List.length_map, h2.1] at this
      simp at this)]

section
variable {w w' : World} {m h nb i : Nat} {es ea eb : List Ent} {em : Ent} {ks ka kb : List Kid} {a b : Kid} {gk gv gc hk hv hc jk jv jc : Option Nat} {ck cv cc : Nat} {F : List Nat}

/-- Two kids and the key between them are one kid. -/
theorem recut_merge {g1 g2 g3 : Option Nat} {c1 c2 c3 : Nat} (hok : KidsOk w m (h + 1) ks es.length) (hka : ks[i]? = some a) (hkb : ks[i + 1]? = some b) (hem : es[i]? = some em)
    (han : a.n = ea.length) (haL : a.L = inter (ka.map Kid.L) ea) (habs : a.bs = ownL a.b hk hv hc ++ ka.flatMap Kid.bs) (haok : KidsOk w m h ka ea.length)
    (hbn : b.n = eb.length) (hbL : b.L = inter (kb.map Kid.L) eb) (hbbs : b.bs = ownL b.b jk jv jc ++ kb.flatMap Kid.bs) (hbok : KidsOk w m h kb eb.length)
    (hsz : ea.length + eb.length + 2 ≤ 2 * m) (hm : m ≤ ea.length + eb.length + 2) (hF : ∀ x ∈ F, x < w.heap.size) (hnd : (F ++ (ownL nb gk gv gc ++ ks.flatMap Kid.bs)).Nodup)
    (hN : NodeAt w' nb (es.take i ++ es.drop (i + 1)) ((ks.map Kid.b).take (i + 1) ++ (ks.map Kid.b).drop (i + 2)) gk gv gc ck cv cc) (hA : NodeAt w' a.b (ea ++ em :: eb) (ka.map Kid.b ++ kb.map Kid.b) g1 g2 g3 c1 c2 c3)
    (hT : Touch (fun k => k ∈ ownL nb gk gv gc ++ (ownL a.b hk hv hc ++ ownL b.b jk jv jc)) w w') (hndO : (ownL nb gk gv gc ++ ownL a.b g1 g2 g3).Nodup)
    (hsub : ∀ x ∈ ownL a.b g1 g2 g3, x ∈ ownL nb gk gv gc ++ (ownL a.b hk hv hc ++ ownL b.b jk jv jc) ∨ w.heap.size ≤ x) :
    ∃ c : Kid, c.b = a.b ∧ c.n = ea.length + eb.length + 1 ∧ c.L = a.L ++ em :: b.L ∧ Recut w w' m h nb es ks gk gv gc ck cv cc F (es.take i ++ es.drop (i + 1)) (ks.take i ++ [c] ++ ks.drop (i + 2)) := by
  have hil := (List.getElem?_eq_some_iff.1 hem).1
  have hkl : ks.length = es.length + 1 := hok.1
  refine ⟨⟨a.b, ea.length + eb.length + 1, a.L ++ em :: b.L, ownL a.b g1 g2 g3 ++ (ka ++ kb).flatMap Kid.bs⟩, rfl, rfl, rfl, ?_⟩
  refine recut_of (x := es.take i) (y := es.drop (i + 1)) (z := []) (P := ks.take i) (Q := ks.drop (i + 2)) (M := [⟨a.b, ea.length + eb.length + 1, a.L ++ em :: b.L, ownL a.b g1 g2 g3 ++ (ka ++ kb).flatMap Kid.bs⟩]) (ka := ka) (kb := kb) (a := a) (b := b) (e := em)
    hok (list_at2 hka hkb) (list_at hem) (by simp; omega) rfl (by simp) rfl habs hbbs hF hnd hT hndO hsub ?_ ?_ ?_ ?_
  · simp only [List.flatMap_cons, List.flatMap_nil, List.append_nil]
    exact List.Perm.refl _
  · intro hkk k hk
    simp only [List.mem_singleton] at hk
    subst hk
    refine ⟨Rep.close (es := ea ++ em :: eb) (ks := ka ++ kb) (by rw [List.map_append]; exact hA) (by simp; omega) ?_ rfl ?_, by show m ≤ _; omega, by show _ ≤ 2 * m; omega⟩
    · rw [← inter_join haok hbok em rfl, ← haL, ← hbL]
    · have h1 := (haok.congr fun q hq => hkk q (List.mem_append_left _ hq)).append (hbok.congr fun q hq => hkk q (List.mem_append_right _ hq))
      have h2 : (ea ++ em :: eb).length = ea.length + eb.length + 1 := by simp; omega
      rw [h2]; exact h1
  · simp only [List.map_append, List.map_cons, List.map_nil, List.append_nil, List.append_assoc, List.cons_append, List.nil_append]
    rw [inter_mid' _ _ _ _ _ (by simp; omega)]
    simp
  · have h1 : (ks.take i ++ [(⟨a.b, ea.length + eb.length + 1, a.L ++ em :: b.L, ownL a.b g1 g2 g3 ++ (ka ++ kb).flatMap Kid.bs⟩ : Kid)] ++ ks.drop (i + 2)).map Kid.b = (ks.map Kid.b).take (i + 1) ++ (ks.map Kid.b).drop (i + 2) := by
      rw [← List.map_take, ← List.map_drop, List.take_add_one, hka]
      simp
    rw [h1]; exact hN

/-- Two kids and the key between them are cut anew. -/
theorem recut_turn {ea' eb' : List Ent} {e' : Ent} {ka' kb' : List Kid} {g1 g2 g3 j1 j2 j3 : Option Nat} {c1 c2 c3 d1 d2 d3 : Nat} (hok : KidsOk w m (h + 1) ks es.length) (hka : ks[i]? = some a) (hkb : ks[i + 1]? = some b) (hem : es[i]? = some em)
    (haL : a.L = inter (ka.map Kid.L) ea) (habs : a.bs = ownL a.b hk hv hc ++ ka.flatMap Kid.bs) (haok : KidsOk w m h ka ea.length)
    (hbL : b.L = inter (kb.map Kid.L) eb) (hbbs : b.bs = ownL b.b jk jv jc ++ kb.flatMap Kid.bs) (hbok : KidsOk w m h kb eb.length)
    (hE : ea ++ em :: eb = ea' ++ e' :: eb') (hK : ka ++ kb = ka' ++ kb') (hok1 : ∀ W, KidsOk W m h (ka ++ kb) (ea.length + eb.length + 1) → KidsOk W m h ka' ea'.length ∧ KidsOk W m h kb' eb'.length)
    (hb1 : m ≤ ea'.length + 1) (hb2 : ea'.length + 1 ≤ 2 * m) (hb3 : m ≤ eb'.length + 1) (hb4 : eb'.length + 1 ≤ 2 * m) (hF : ∀ x ∈ F, x < w.heap.size) (hnd : (F ++ (ownL nb gk gv gc ++ ks.flatMap Kid.bs)).Nodup)
    (hN : NodeAt w' nb (es.set i e') (ks.map Kid.b) gk gv gc ck cv cc) (hA : NodeAt w' a.b ea' (ka'.map Kid.b) g1 g2 g3 c1 c2 c3) (hB : NodeAt w' b.b eb' (kb'.map Kid.b) j1 j2 j3 d1 d2 d3)
    (hT : Touch (fun k => k ∈ ownL nb gk gv gc ++ (ownL a.b hk hv hc ++ ownL b.b jk jv jc)) w w') (hndO : (ownL nb gk gv gc ++ (ownL a.b g1 g2 g3 ++ ownL b.b j1 j2 j3)).Nodup)
    (hsub : ∀ x ∈ ownL a.b g1 g2 g3 ++ ownL b.b j1 j2 j3, x ∈ ownL nb gk gv gc ++ (ownL a.b hk hv hc ++ ownL b.b jk jv jc) ∨ w.heap.size ≤ x) :
    ∃ c d : Kid, c.b = a.b ∧ c.n = ea'.length ∧ d.b = b.b ∧ d.n = eb'.length ∧ Recut w w' m h nb es ks gk gv gc ck cv cc F (es.set i e') (ks.take i ++ [c, d] ++ ks.drop (i + 2)) := by
  have hil := (List.getElem?_eq_some_iff.1 hem).1
  have hkl : ks.length = es.length + 1 := hok.1
  refine ⟨⟨a.b, ea'.length, inter (ka'.map Kid.L) ea', ownL a.b g1 g2 g3 ++ ka'.flatMap Kid.bs⟩, ⟨b.b, eb'.length, inter (kb'.map Kid.L) eb', ownL b.b j1 j2 j3 ++ kb'.flatMap Kid.bs⟩, rfl, rfl, rfl, rfl, ?_⟩
  refine recut_of (x := es.take i) (y := es.drop (i + 1)) (z := [e']) (P := ks.take i) (Q := ks.drop (i + 2)) (M := [⟨a.b, ea'.length, inter (ka'.map Kid.L) ea', ownL a.b g1 g2 g3 ++ ka'.flatMap Kid.bs⟩, ⟨b.b, eb'.length, inter (kb'.map Kid.L) eb', ownL b.b j1 j2 j3 ++ kb'.flatMap Kid.bs⟩])
    (ka := ka) (kb := kb) (a := a) (b := b) (e := em) (O := ownL a.b g1 g2 g3 ++ ownL b.b j1 j2 j3)
    hok (list_at2 hka hkb) (list_at hem) (by simp; omega) rfl (by rw [List.set_eq_take_append_cons_drop, if_pos hil]; simp) rfl habs hbbs hF hnd hT hndO hsub ?_ ?_ ?_ ?_
  · rw [hK]
    simp only [List.flatMap_cons, List.flatMap_nil, List.append_nil, List.flatMap_append]
    rw [List.perm_iff_count]
    intro a
    simp only [List.count_append]
    omega
  · intro hkk
    obtain ⟨o1, o2⟩ := hok1 w' ((haok.congr fun q hq => hkk q (List.mem_append_left _ hq)).append (hbok.congr fun q hq => hkk q (List.mem_append_right _ hq)))
    intro k hk
    simp only [List.mem_cons, List.not_mem_nil, or_false] at hk
    rcases hk with rfl | rfl
    · exact ⟨Rep.close hA rfl rfl rfl o1, hb1, hb2⟩
    · exact ⟨Rep.close hB rfl rfl rfl o2, hb3, hb4⟩
  · have hJ : a.L ++ em :: b.L = inter (ka'.map Kid.L) ea' ++ e' :: inter (kb'.map Kid.L) eb' := by
      obtain ⟨o1, o2⟩ := hok1 w (haok.append hbok)
      rw [haL, hbL, inter_join haok hbok em rfl, hE, hK, inter_join o1 o2 e' rfl]
    rw [hJ]
    simp only [List.map_append, List.map_cons, List.map_nil, List.append_nil, List.append_assoc, List.cons_append, List.nil_append]
    rw [inter_pair _ _ _ _ _ _ _ (by simp; omega)]
    simp
  · have h1 : (ks.take i ++ [(⟨a.b, ea'.length, inter (ka'.map Kid.L) ea', ownL a.b g1 g2 g3 ++ ka'.flatMap Kid.bs⟩ : Kid), ⟨b.b, eb'.length, inter (kb'.map Kid.L) eb', ownL b.b j1 j2 j3 ++ kb'.flatMap Kid.bs⟩] ++ ks.drop (i + 2)).map Kid.b = ks.map Kid.b := by
      conv => rhs; rw [list_at2 hka hkb]
      simp
    rw [h1]; exact hN
end
end Go.Proofs.Ytkejjahlglldlaa
namespace Go.Proofs.Ytkejjahlglldlaa
open Go.RowKit Go.Lib

def del (k : List UInt8) (l : List Ent) : List Ent := l.filter fun e => !decide (e.1 = k)
theorem del_append (k : List UInt8) (a b : List Ent) : del k (a ++ b) = del k a ++ del k b := List.filter_append ..
theorem del_lt {k : List UInt8} {A : List Ent} (h : ∀ a ∈ A, blt a.1 k) : del k A = A := by
  refine List.filter_eq_self.2 fun a ha => ?_
  have := blt_ne (h a ha)
  simpa using this
theorem del_gt {k : List UInt8} {A : List Ent} (h : ∀ a ∈ A, blt k a.1) : del k A = A := by
  refine List.filter_eq_self.2 fun a ha => ?_
  have := blt_ne (h a ha)
  simpa using fun e => this e.symm
theorem del_cons_self (k : List UInt8) (v : Int) (A : List Ent) : del k ((k, v) :: A) = del k A := by simp [del]
theorem del_srt {k : List UInt8} {A : List Ent} (h : Srt A) : Srt (del k A) := List.Pairwise.sublist List.filter_sublist h
theorem del_mid {k : List UInt8} {v : Int} {A B : List Ent} (h : Srt (A ++ (k, v) :: B)) : del k (A ++ (k, v) :: B) = A ++ B := by
  have h1 : ∀ a ∈ A, blt a.1 k := fun a ha => (srt_append.1 h).2.2 a ha (k, v) (by simp)
  have h2 : ∀ b ∈ B, blt k b.1 := fun b hb => (List.pairwise_cons.1 (srt_append.1 h).2.1).1 b hb
  rw [del_append, del_cons_self, del_lt h1, del_gt h2]
theorem hasK_mid {k : List UInt8} {v : Int} {A B : List Ent} : hasK k (A ++ (k, v) :: B) = true := by rw [hasK_append]; simp [hasK]
theorem hasK_split {k : List UInt8} {L : List Ent} (h : hasK k L = true) : ∃ v A B, L = A ++ (k, v) :: B := by
  obtain ⟨e, he, hk⟩ := List.any_eq_true.1 h
  obtain ⟨A, B, rfl⟩ := List.append_of_mem he
  have : e.1 = k := by simpa using hk
  exact ⟨e.2, A, B, by rw [← this]⟩
theorem del_len {k : List UInt8} {L : List Ent} (h : Srt L) (hk : hasK k L = true) : (del k L).length + 1 = L.length := by
  obtain ⟨v, A, B, rfl⟩ := hasK_split hk
  rw [del_mid h]; simp; omega

theorem at_pos_none {k : List UInt8} {es : List Ent} (h : es.length ≤ pos k es) : at_ k es = false := by
  unfold at_
  rw [List.getElem?_eq_none h]
theorem at_of {k : List UInt8} {es : List Ent} {i : Nat} (hi : i = pos k es) (h : ∀ e, es[i]? = some e → e.1 ≠ k) : at_ k es = false := by
  unfold at_
  rw [← hi]
  cases he : es[i]? with
  | none => rfl
  | some e => exact decide_eq_false (h e he)
theorem pos_get {k : List UInt8} {es : List Ent} (hs : Srt es) {e : Ent} (h : es[pos k es]? = some e) : Op.bytesLess e.1 k = false := by
  refine pos_ge k es hs e ?_
  obtain ⟨hi, rfl⟩ := List.getElem?_eq_some_iff.1 h
  rw [List.drop_eq_getElem_cons hi]
  exact List.mem_cons_self ..
/-- The separator ahead of the place was changed. -/
theorem pos_turn_left {k : List UInt8} {es : List Ent} {j : Nat} {ex : Ent} (hs : Srt es) (hj : pos k es = j + 1) (hat : at_ k es = false) (hx : blt ex.1 k) : pos k (es.set j ex) = j + 1 ∧ at_ k (es.set j ex) = false := by
  have hp := pos_le k es
  have hg : (es.set j ex)[j + 1]? = es[j + 1]? := List.getElem?_set_ne (by omega)
  have h1 : j + 1 = pos k (es.set j ex) := by
    refine pos_unique k (by simp; omega) ?_ ?_
    · intro e he
      rw [List.set_eq_take_append_cons_drop, if_pos (by omega), List.take_append, List.length_take, List.take_take] at he
      rcases List.mem_append.1 he with he | he
      · refine pos_lt k es e ?_
        rw [hj]
        exact (List.take_sublist_take_left (by omega)).subset he
      · rw [show j + 1 - min j es.length = 1 by omega] at he
        simp at he; subst he; exact hx
    · intro e he
      rw [hg, ← hj] at he
      exact pos_get hs he
  refine ⟨h1.symm, at_of h1 fun e he => ?_⟩
  rw [hg, ← hj] at he
  exact at_false hat e he
/-- The separator at the place was changed. -/
theorem pos_turn_right {k : List UInt8} {es : List Ent} {i : Nat} {ex : Ent} (hi : pos k es = i) (hx : blt k ex.1) (hil : i < es.length) : pos k (es.set i ex) = i ∧ at_ k (es.set i ex) = false := by
  have hg : (es.set i ex)[i]? = some ex := by simp [hil]
  have h1 : i = pos k (es.set i ex) := by
    refine pos_unique k (by simp; omega) ?_ ?_
    · intro e he
      rw [List.take_set_of_le (Nat.le_refl _), ← hi] at he
      exact pos_lt k es e he
    · intro e he
      rw [hg] at he
      cases he
      exact blt_not hx
  refine ⟨h1.symm, at_of h1 fun e he => ?_⟩
  rw [hg] at he
  cases he
  exact fun h => blt_ne hx h.symm
/-- The separator at the place is gone. -/
theorem pos_cut {k : List UInt8} {es : List Ent} {i : Nat} (hs : Srt es) (hi : pos k es = i) (hil : i < es.length) : pos k (es.take i ++ es.drop (i + 1)) = i ∧ at_ k (es.take i ++ es.drop (i + 1)) = false := by
  have hl : (es.take i).length = i := by rw [List.length_take]; omega
  have hg : (es.take i ++ es.drop (i + 1))[i]? = es[i + 1]? := by
    rw [List.getElem?_append_right (by omega), hl, Nat.sub_self, List.getElem?_drop, Nat.add_zero]
  have h0 := pos_get (k := k) hs (e := es[i]) (by rw [hi]; exact List.getElem?_eq_getElem hil)
  have h2 : ∀ e, es[i + 1]? = some e → blt k e.1 := by
    intro e he
    obtain ⟨hi1, rfl⟩ := List.getElem?_eq_some_iff.1 he
    have h3 := (List.pairwise_iff_getElem.1 hs) i (i + 1) hil hi1 (by omega)
    by_cases h4 : es[i].1 = k
    · rw [← h4]; exact h3
    · exact bl_trans _ _ _ (bl_total _ _ h4 h0) h3
  have h1 : i = pos k (es.take i ++ es.drop (i + 1)) := by
    refine pos_unique k (by simp; omega) ?_ ?_
    · intro e he
      rw [List.take_left' hl, ← hi] at he
      exact pos_lt k es e he
    · intro e he
      rw [hg] at he
      exact blt_not (h2 e he)
  refine ⟨h1.symm, at_of h1 fun e he => ?_⟩
  rw [hg] at he
  exact fun h => blt_ne (h2 e he) h.symm
/-- The last separator is gone, and the place stood behind it. -/
theorem pos_cut_last {k : List UInt8} {es : List Ent} {q : Nat} (hi : pos k es = q + 1) (hl : es.length = q + 1) : pos k (es.take q ++ es.drop (q + 1)) = q ∧ at_ k (es.take q ++ es.drop (q + 1)) = false := by
  have e1 : es.take q ++ es.drop (q + 1) = es.take q := by rw [List.drop_eq_nil_of_le (by omega), List.append_nil]
  have hl2 : (es.take q).length = q := by rw [List.length_take]; omega
  rw [e1]
  have h1 : q = pos k (es.take q) := by
    refine pos_unique k (by omega) ?_ ?_
    · intro e he
      rw [List.take_take] at he
      refine pos_lt k es e ?_
      rw [hi]
      exact (List.take_sublist_take_left (by omega)).subset he
    · intro e he
      rw [List.getElem?_eq_none (by omega)] at he; cases he
  exact ⟨h1.symm, at_pos_none (by omega)⟩
theorem pair_srt {ks : List Kid} {es : List Ent} {i : Nat} {a b : Kid} {em : Ent} (hs : Srt (inter (ks.map Kid.L) es)) (hkl : ks.length = es.length + 1) (ha : ks[i]? = some a) (hb : ks[i + 1]? = some b) (hem : es[i]? = some em) :
    (∀ u ∈ a.L, blt u.1 em.1) ∧ (∀ u ∈ b.L, blt em.1 u.1) := by
  have hil := (List.getElem?_eq_some_iff.1 hem).1
  rw [list_at2 ha hb, list_at hem, List.map_append, List.map_cons, List.map_cons, inter_pair _ _ _ _ _ _ _ (by simp; omega)] at hs
  have h1 := (srt_append.1 (srt_append.1 hs).2.1).1
  obtain ⟨_, h3, h4⟩ := srt_append.1 h1
  exact ⟨fun u hu => h4 u hu em (by simp), fun u hu => (List.pairwise_cons.1 h3).1 u hu⟩

/-- Blocks of two neighbours beside the node's own. -/
theorem two_nd {X : List Nat} {F oa ob ra rb : List Nat} {ks : List Kid} {i : Nat} {a b : Kid} (hnd : (F ++ (X ++ ks.flatMap Kid.bs)).Nodup) (ha : ks[i]? = some a) (hb : ks[i + 1]? = some b) (hoa : a.bs = oa ++ ra) (hob : b.bs = ob ++ rb) : (X ++ (oa ++ ob)).Nodup := by
  have h1 := (List.nodup_append.1 hnd).2.1
  rw [list_at2 ha hb, List.flatMap_append, List.flatMap_cons, List.flatMap_cons, hoa, hob] at h1
  refine List.Nodup.sublist ?_ h1
  refine List.Sublist.append_left ?_ _
  refine List.Sublist.trans ?_ (List.sublist_append_right _ _)
  refine List.Sublist.append (List.sublist_append_left _ _) ?_
  exact List.Sublist.trans (List.sublist_append_left _ _) (List.sublist_append_left _ _)
end Go.Proofs.Ytkejjahlglldlaa
