/- Where cut stands, one step down, and how it ends. No program is walked here. -/
import Derived.Test.YtkejjahlglldlaaMK
import Derived.Test.YtkejjahlglldlaaMF
namespace Go.Proofs.Ytkejjahlglldlaa
open Go.RowKit Go.Lib

/-- Where cut stands: at a node of height h, on its way to take out key. -/
structure CuI (w0 : World) (tb m : Nat) (key0 : List UInt8) (L0 : List Ent) (bs0 : List Nat) (wr : World) (rb H h nb lo : Nat) (key : List UInt8) (F : List Nat) (A B es : List Ent) (ks : List Kid) (gk gv gc : Option Nat) (ck cv cc : Nat) : Prop where
  tree : wr.heap[tb]? = some (.cells #[.int .i64 (m : Int), .pointer (some ⟨rb, 0, none⟩), .int .i64 (L0.length : Int)] 84 (0, 0))
  node : NodeAt wr nb es (ks.map Kid.b) gk gv gc ck cv cc
  ok : KidsOk wr m h ks es.length
  hole : Hole wr m 0 H rb h nb lo F A B
  lo : lo ≤ es.length
  hi : es.length + 1 ≤ 2 * m
  nodup : ((ownL nb gk gv gc) ++ (tb :: (F ++ ks.flatMap Kid.bs))).Nodup
  flt : ∀ x ∈ F, x < wr.heap.size
  sub : ∀ x ∈ ownL nb gk gv gc ++ (tb :: (F ++ ks.flatMap Kid.bs)), x ∈ bs0 ∨ w0.heap.size ≤ x
  delE : A ++ del key (inter (ks.map Kid.L) es) ++ B = del key0 L0
  hasE : hasK key (inter (ks.map Kid.L) es) = true
  srt : Srt (inter (ks.map Kid.L) es)
  touch : Touch (fun k => k ∈ bs0) w0 wr
  m2 : 2 ≤ m
  m64 : m ≤ 64

def CutPost (tb m : Nat) (key0 : List UInt8) (L0 : List Ent) (bs0 : List Nat) (w0 : World) (rb H : Nat) (w' : World) : Prop :=
  ∃ N' Bs, w'.heap[tb]? = some (.cells #[.int .i64 (m : Int), .pointer (some ⟨rb, 0, none⟩), .int .i64 (L0.length : Int)] 84 (0, 0)) ∧ Rep w' m H ⟨rb, N', del key0 L0, Bs⟩ ∧ N' + 1 ≤ 2 * m ∧ (tb :: Bs).Nodup ∧
    (∀ x ∈ tb :: Bs, x ∈ bs0 ∨ w0.heap.size ≤ x) ∧ Touch (fun k => k ∈ bs0) w0 w'

section
variable {w0 wr : World} {tb m : Nat} {key0 : List UInt8} {L0 : List Ent} {bs0 : List Nat} {rb H h nb lo : Nat} {key : List UInt8} {F : List Nat} {A B es : List Ent} {ks : List Kid} {gk gv gc : Option Nat} {ck cv cc : Nat}

theorem CuI.rlt (hI : CuI w0 tb m key0 L0 bs0 wr rb H h nb lo key F A B es ks gk gv gc ck cv cc) : ∀ y ∈ tb :: (F ++ ks.flatMap Kid.bs), y < wr.heap.size := by
  intro y hy
  rcases List.mem_cons.1 hy with rfl | hy
  · exact blk_lt hI.tree
  · rcases List.mem_append.1 hy with hy | hy
    · exact hI.flt y hy
    · exact hI.ok.lt y hy
theorem CuI.ext {W : World} (hI : CuI w0 tb m key0 L0 bs0 wr rb H h nb lo key F A B es ks gk gv gc ck cv cc) (hE : Ext wr W) : CuI w0 tb m key0 L0 bs0 W rb H h nb lo key F A B es ks gk gv gc ck cv cc :=
  have hk : ∀ y, y < wr.heap.size → W.heap[y]? = wr.heap[y]? := fun y hy => Below.block hE y hy
  ⟨Ext.block hE hI.tree, hI.node.congr fun k h => hk k (hI.node.lt k h), hI.ok.congr fun x hx b hb => hk b (hI.ok.lt b (List.mem_flatMap.2 ⟨x, hx, hb⟩)), hI.hole.congr fun x hx => hk x (hI.flt x hx), hI.lo, hI.hi, hI.nodup,
    fun x hx => Nat.lt_of_lt_of_le (hI.flt x hx) hE.size, hI.sub, hI.delE, hI.hasE, hI.srt, hI.touch.trans (hE.touch _), hI.m2, hI.m64⟩
theorem CuI.nd (hI : CuI w0 tb m key0 L0 bs0 wr rb H h nb lo key F A B es ks gk gv gc ck cv cc) : nb ≠ tb ∧ gk ≠ some nb ∧ gv ≠ some nb ∧ gc ≠ some nb ∧ (∀ x, gk = some x → gv ≠ some x) ∧ (∀ x, gc = some x → gk ≠ some x ∧ gv ≠ some x) := by
  obtain ⟨nd1, nd2, nd3⟩ := List.nodup_append.1 hI.nodup
  obtain ⟨n1, n2⟩ := List.nodup_cons.1 nd1
  simp only [List.mem_append, Option.mem_toList, not_or] at n1
  refine ⟨nd3 nb (by simp) tb (by simp), n1.1, n1.2.1, n1.2.2, fun x hx e => ?_, fun x hx => ⟨fun e => ?_, fun e => ?_⟩⟩
  · exact (List.nodup_append.1 n2).2.2 x (by simp [hx]) x (by simp [e]) rfl
  · exact (List.nodup_append.1 n2).2.2 x (by simp [e]) x (by simp [hx]) rfl
  · exact (List.nodup_append.1 (List.nodup_append.1 n2).2.1).2.2 x (by simp [e]) x (by simp [hx]) rfl

/-- cut is at its end. -/
theorem CuI.close (hI : CuI w0 tb m key0 L0 bs0 wr rb H h nb lo key F A B es ks gk gv gc ck cv cc) {W' : World} {es2 : List Ent}
    (hT : Touch (fun k => k ∈ ownL nb gk gv gc) wr W') (hnode : NodeAt W' nb es2 (ks.map Kid.b) gk gv gc ck cv cc) (hlo : lo ≤ es2.length) (hhi : es2.length + 1 ≤ 2 * m) (hok : KidsOk wr m h ks es2.length)
    (hL : inter (ks.map Kid.L) es2 = del key (inter (ks.map Kid.L) es)) : CutPost tb m key0 L0 bs0 w0 rb H W' := by
  have hkeep : ∀ y ∈ tb :: (F ++ ks.flatMap Kid.bs), W'.heap[y]? = wr.heap[y]? := fun y hy =>
    hT.block y (hI.rlt y hy) fun hh => (List.nodup_append.1 hI.nodup).2.2 y hh y hy rfl
  have hok' : KidsOk W' m h ks es2.length := hok.congr fun q hq b hb => hkeep b (List.mem_cons_of_mem _ (List.mem_append_right _ (List.mem_flatMap.2 ⟨q, hq, hb⟩)))
  obtain ⟨N', Bs, hr, h1, h2, h3⟩ := hI.hole W' es2.length (inter (ks.map Kid.L) es2) (ownL nb gk gv gc ++ ks.flatMap Kid.bs) (Rep.close hnode rfl rfl rfl hok') hlo hhi
    (fun x hx => hkeep x (List.mem_cons_of_mem _ (List.mem_append_left _ hx)))
  rw [hL, hI.delE] at hr
  have hperm : (tb :: Bs).Perm (ownL nb gk gv gc ++ (tb :: (F ++ ks.flatMap Kid.bs))) := by
    refine (h3.cons tb).trans ?_
    rw [List.perm_iff_count]
    intro a
    simp only [List.count_append, List.count_cons]
    omega
  refine ⟨N', Bs, by rw [hkeep tb (by simp)]; exact hI.tree, hr, h2, hperm.nodup_iff.2 hI.nodup, fun x hx => hI.sub x (hperm.subset hx), ?_⟩
  refine hI.touch.trans' hT fun k hk hh => ?_
  rcases hI.sub k (List.mem_append_left _ hh) with h' | h'
  · exact h'
  · omega

/-- The kids were cut anew. -/
theorem CuI.turn (hI : CuI w0 tb m key0 L0 bs0 wr rb H (h + 1) nb lo key F A B es ks gk gv gc ck cv cc) {W' : World} {es' : List Ent} {ks' : List Kid} (hR : Recut wr W' m h nb es ks gk gv gc ck cv cc (tb :: F) es' ks') (hlo : lo ≤ es'.length) (hhi : es'.length + 1 ≤ 2 * m) :
    CuI w0 tb m key0 L0 bs0 W' rb H (h + 1) nb lo key F A B es' ks' gk gv gc ck cv cc := by
  have hsz := hI.touch.size
  have hnt : ∀ y ∈ tb :: F, y ∉ ownL nb gk gv gc ++ ks.flatMap Kid.bs := by
    intro y hy hh
    have hnd := hI.nodup
    rcases List.mem_append.1 hh with hh | hh
    · exact (List.nodup_append.1 hnd).2.2 y hh y (by
        rcases List.mem_cons.1 hy with rfl | hy
        · simp
        · exact List.mem_cons_of_mem _ (List.mem_append_left _ hy)) rfl
    · have h2 := (List.nodup_append.1 hnd).2.1
      rcases List.mem_cons.1 hy with rfl | hy
      · exact (List.nodup_cons.1 h2).1 (List.mem_append_right _ hh)
      · exact (List.nodup_append.1 (List.nodup_cons.1 h2).2).2.2 y hy y hh rfl
  have hlt : ∀ y ∈ tb :: F, y < wr.heap.size := fun y hy => hI.rlt y (by
    rcases List.mem_cons.1 hy with rfl | hy
    · simp
    · exact List.mem_cons_of_mem _ (List.mem_append_left _ hy))
  have hkeep : ∀ y ∈ tb :: F, W'.heap[y]? = wr.heap[y]? := fun y hy => hR.touch.block y (hlt y hy) (hnt y hy)
  refine ⟨by rw [hkeep tb (by simp)]; exact hI.tree, hR.node, hR.ok, hI.hole.congr fun x hx => hkeep x (List.mem_cons_of_mem _ hx), hlo, hhi, ?_, fun x hx => ?_, ?_, by rw [hR.L]; exact hI.delE, by rw [hR.L]; exact hI.hasE, by rw [hR.L]; exact hI.srt, ?_, hI.m2, hI.m64⟩
  · refine (List.Perm.nodup_iff ?_).1 hR.nodup
    rw [List.perm_iff_count]
    intro a
    simp only [List.count_append, List.count_cons]
    omega
  · have := hlt x (List.mem_cons_of_mem _ hx); have := hR.touch.size; omega
  · intro x hx
    have hx' : x ∈ tb :: F ∨ x ∈ ownL nb gk gv gc ++ ks'.flatMap Kid.bs := by
      simp only [List.mem_append, List.mem_cons] at hx ⊢
      rcases hx with hx | hx | hx | hx
      · exact .inr (.inl hx)
      · exact .inl (.inl hx)
      · exact .inl (.inr hx)
      · exact .inr (.inr hx)
    rcases hx' with hx' | hx'
    · refine hI.sub x (List.mem_append_right _ ?_)
      rcases List.mem_cons.1 hx' with rfl | hx'
      · simp
      · exact List.mem_cons_of_mem _ (List.mem_append_left _ hx')
    · rcases hR.sub x hx' with hx2 | hx2
      · refine hI.sub x ?_
        rcases List.mem_append.1 hx2 with hx2 | hx2
        · exact List.mem_append_left _ hx2
        · exact List.mem_append_right _ (List.mem_cons_of_mem _ (List.mem_append_right _ hx2))
      · exact .inr (by omega)
  · refine hI.touch.trans' hR.touch fun k hk hh => ?_
    have := hI.sub k (by
      rcases List.mem_append.1 hh with hh | hh
      · exact List.mem_append_left _ hh
      · exact List.mem_append_right _ (List.mem_cons_of_mem _ (List.mem_append_right _ hh)))
    rcases this with h' | h'
    · exact h'
    · omega

/-- One step down, with another key to take out, behind a change in the node alone. -/
theorem CuI.downX (hI : CuI w0 tb m key0 L0 bs0 wr rb H (h + 1) nb lo key F A B es ks gk gv gc ck cv cc) {W' : World} {es2 x y : List Ent} {P Q : List Kid} {k : Kid} {key' : List UInt8}
    (hT : Touch (fun k => k ∈ ownL nb gk gv gc) wr W') (hN : NodeAt W' nb es2 (ks.map Kid.b) gk gv gc ck cv cc) (hl2 : es2.length = es.length) (he : es2 = x ++ y) (hks : ks = P ++ k :: Q) (hP : P.length = x.length) (hkn : m ≤ k.n)
    (hdel : (A ++ pre (P.map Kid.L) x) ++ del key' k.L ++ (suf (Q.map Kid.L) y ++ B) = del key0 L0) (hhas : hasK key' k.L = true) (hsrt : Srt k.L) :
    ∃ ek kk hk hv hc dk dv dc, CuI w0 tb m key0 L0 bs0 W' rb H h k.b (m - 1) key' (F ++ ownL nb gk gv gc ++ (P.flatMap Kid.bs ++ Q.flatMap Kid.bs)) (A ++ pre (P.map Kid.L) x) (suf (Q.map Kid.L) y ++ B) ek kk hk hv hc dk dv dc ∧ m - 1 + 1 ≤ ek.length := by
  have hm2 := hI.m2
  have hkm := hI.ok.2 k (by rw [hks]; simp)
  have hkeep : ∀ y ∈ tb :: (F ++ ks.flatMap Kid.bs), W'.heap[y]? = wr.heap[y]? := fun y hy =>
    hT.block y (hI.rlt y hy) fun hh => (List.nodup_append.1 hI.nodup).2.2 y hh y hy rfl
  have hok' : KidsOk W' m (h + 1) ks es2.length := by
    rw [hl2]
    exact hI.ok.congr fun q hq b hb => hkeep b (List.mem_cons_of_mem _ (List.mem_append_right _ (List.mem_flatMap.2 ⟨q, hq, hb⟩)))
  obtain ⟨ek, kk, hk, hv, hc, dk, dv, dc, kN, kn, kL, kbs, kok⟩ := (hok'.2 k (by rw [hks]; simp)).1.open
  have hbs : ks.flatMap Kid.bs = P.flatMap Kid.bs ++ ((ownL k.b hk hv hc ++ kk.flatMap Kid.bs) ++ Q.flatMap Kid.bs) := by
    rw [hks, List.flatMap_append, List.flatMap_cons, kbs]
  have hperm : (ownL nb gk gv gc ++ (tb :: (F ++ ks.flatMap Kid.bs))).Perm (ownL k.b hk hv hc ++ (tb :: ((F ++ ownL nb gk gv gc ++ (P.flatMap Kid.bs ++ Q.flatMap Kid.bs)) ++ kk.flatMap Kid.bs))) := by
    rw [hbs, List.perm_iff_count]
    intro a
    simp only [List.count_append, List.count_cons]
    omega
  have hhole : Hole W' m 0 H rb (h + 1) nb lo F A B := hI.hole.congr fun x hx => hkeep x (List.mem_cons_of_mem _ (List.mem_append_left _ hx))
  refine ⟨ek, kk, hk, hv, hc, dk, dv, dc, ⟨by rw [hkeep tb (by simp)]; exact hI.tree, kN, kok, Hole.down hhole hN he hks hP hok' (by rw [hl2]; exact hI.lo) (by rw [hl2]; exact hI.hi), by omega, by omega, hperm.nodup_iff.1 hI.nodup, fun x hx => ?_, fun x hx => hI.sub x (hperm.symm.subset hx), ?_, ?_, ?_, ?_, hI.m2, hI.m64⟩, by omega⟩
  · have hsz := hT.size
    rcases List.mem_append.1 hx with hx | hx
    · rcases List.mem_append.1 hx with hx | hx
      · have := hI.flt x hx; omega
      · exact hN.lt x hx
    · have := hI.rlt x (List.mem_cons_of_mem _ (List.mem_append_right _ (by
        rw [hbs]
        rcases List.mem_append.1 hx with hx | hx
        · exact List.mem_append_left _ hx
        · exact List.mem_append_right _ (List.mem_append_right _ hx))))
      omega
  · rw [← kL]; exact hdel
  · rw [← kL]; exact hhas
  · rw [← kL]; exact hsrt
  · refine hI.touch.trans' hT fun k hk hh => ?_
    rcases hI.sub k (List.mem_append_left _ hh) with h' | h'
    · exact h'
    · omega

/-- The key isn't in the node: down. -/
theorem CuI.down (hI : CuI w0 tb m key0 L0 bs0 wr rb H (h + 1) nb lo key F A B es ks gk gv gc ck cv cc) (hat : at_ key es = false) {k : Kid} (hk : ks[pos key es]? = some k) (hkn : m ≤ k.n) :
    ∃ F' A' B' ek kk hk hv hc dk dv dc, CuI w0 tb m key0 L0 bs0 wr rb H h k.b (m - 1) key F' A' B' ek kk hk hv hc dk dv dc ∧ m - 1 + 1 ≤ ek.length := by
  have hpl := pos_le key es
  have hks := list_at hk
  have hkl : ks.length = es.length + 1 := hI.ok.1
  have hkt : (ks.take (pos key es)).length = pos key es := by rw [List.length_take]; omega
  have hln : (es.take (pos key es)).length = pos key es := by rw [List.length_take]; omega
  have hx : ∀ e ∈ es.take (pos key es), blt e.1 key := fun e he => pos_lt key es e he
  have hy : ∀ e ∈ es.drop (pos key es), blt key e.1 := pos_gt key hI.srt.node (at_false hat)
  have hes : es = es.take (pos key es) ++ es.drop (pos key es) := (List.take_append_drop _ _).symm
  have hint : inter (ks.map Kid.L) es = pre ((ks.take (pos key es)).map Kid.L) (es.take (pos key es)) ++ (k.L ++ suf ((ks.drop (pos key es + 1)).map Kid.L) (es.drop (pos key es))) := by
    clear hx hy
    generalize pos key es = p at hks hes hkt hln ⊢
    conv => lhs; rw [hks, hes]
    rw [List.map_append, List.map_cons, inter_mid' _ _ _ _ _ (by rw [List.length_map, hkt, hln])]
  have hsrt := hI.srt
  rw [hint] at hsrt
  have h1 : ∀ a ∈ pre ((ks.take (pos key es)).map Kid.L) (es.take (pos key es)), blt a.1 key := pre_lt (by rw [List.length_map, hkt, hln]) hsrt hx
  have h2 : ∀ a ∈ suf ((ks.drop (pos key es + 1)).map Kid.L) (es.drop (pos key es)), blt key a.1 := by
    rw [← List.append_assoc] at hsrt
    exact suf_gt hsrt hy
  have hd := hI.delE
  rw [hint, del_append, del_append, del_lt h1, del_gt h2] at hd
  have hh := hI.hasE
  rw [hint, hasK_append, hasK_append, hasK_lt h1, hasK_gt h2] at hh
  obtain ⟨ek, kk, a1, a2, a3, a4, a5, a6, r1, r2⟩ := hI.downX (Touch.refl _ _) hI.node rfl hes hks (by rw [hkt, hln]) hkn (key' := key) (by rw [← hd]; simp) (by simpa using hh) (srt_append.1 (srt_append.1 hsrt).2.1).1
  exact ⟨_, _, _, ek, kk, a1, a2, a3, a4, a5, a6, r1, r2⟩

/-- The key was written over by the last one of the kid ahead of it. -/
theorem CuI.pred (hI : CuI w0 tb m key0 L0 bs0 wr rb H (h + 1) nb lo key F A B es ks gk gv gc ck cv cc) (hat : at_ key es = true) {k : Kid} (hk : ks[pos key es]? = some k) (hkn : m ≤ k.n) {X : List Ent} {e' : Ent} (hX : k.L = X ++ [e']) {W' : World}
    (hT : Touch (fun k => k ∈ ownL nb gk gv gc) wr W') (hN : NodeAt W' nb (es.set (pos key es) e') (ks.map Kid.b) gk gv gc ck cv cc) :
    ∃ F' A' B' ek kk hk hv hc dk dv dc, CuI w0 tb m key0 L0 bs0 W' rb H h k.b (m - 1) e'.1 F' A' B' ek kk hk hv hc dk dv dc ∧ m - 1 + 1 ≤ ek.length := by
  have hpl := pos_le key es
  have hks := list_at hk
  have hkl : ks.length = es.length + 1 := hI.ok.1
  obtain ⟨v0, hv0, hes⟩ := at_true hat
  have hil := (List.getElem?_eq_some_iff.1 hv0).1
  have hkt : (ks.take (pos key es)).length = pos key es := by rw [List.length_take]; omega
  have hln : (es.take (pos key es)).length = pos key es := by rw [List.length_take]; omega
  have hint : inter (ks.map Kid.L) es = (pre ((ks.take (pos key es)).map Kid.L) (es.take (pos key es)) ++ k.L) ++ (key, v0) :: inter ((ks.drop (pos key es + 1)).map Kid.L) (es.drop (pos key es + 1)) := by
    generalize pos key es = p at hks hes hkt hln ⊢
    conv => lhs; rw [hks, hes]
    rw [List.map_append, List.map_cons, inter_mid' _ _ _ _ _ (by rw [List.length_map, hkt, hln])]
    simp [suf]
  have hsrt := hI.srt
  rw [hint] at hsrt
  have hd := hI.delE
  rw [hint, del_mid hsrt] at hd
  have hsk : Srt k.L := (srt_append.1 (srt_append.1 hsrt).1).2.1
  have hsk' := hsk
  rw [hX] at hsk'
  obtain ⟨ek, kk, a1, a2, a3, a4, a5, a6, r1, r2⟩ := hI.downX (x := es.take (pos key es)) (y := e' :: es.drop (pos key es + 1)) (P := ks.take (pos key es)) (Q := ks.drop (pos key es + 1)) (k := k) (key' := e'.1) hT hN (by simp) (by rw [List.set_eq_take_append_cons_drop, if_pos hil]) hks (by rw [hkt, hln]) hkn
    (by rw [hX, del_mid (v := e'.2) (B := []) hsk', ← hd, hX]
        simp [suf]) (by rw [hX]; exact hasK_mid (v := e'.2) (B := [])) hsk
  exact ⟨_, _, _, ek, kk, a1, a2, a3, a4, a5, a6, r1, r2⟩

/-- The key was written over by the first one of the kid behind it. -/
theorem CuI.succ (hI : CuI w0 tb m key0 L0 bs0 wr rb H (h + 1) nb lo key F A B es ks gk gv gc ck cv cc) (hat : at_ key es = true) {k : Kid} (hk : ks[pos key es + 1]? = some k) (hkn : m ≤ k.n) {X : List Ent} {e' : Ent} (hX : k.L = e' :: X) {W' : World}
    (hT : Touch (fun k => k ∈ ownL nb gk gv gc) wr W') (hN : NodeAt W' nb (es.set (pos key es) e') (ks.map Kid.b) gk gv gc ck cv cc) :
    ∃ F' A' B' ek kk hk hv hc dk dv dc, CuI w0 tb m key0 L0 bs0 W' rb H h k.b (m - 1) e'.1 F' A' B' ek kk hk hv hc dk dv dc ∧ m - 1 + 1 ≤ ek.length := by
  have hpl := pos_le key es
  have hkl : ks.length = es.length + 1 := hI.ok.1
  obtain ⟨v0, hv0, hes⟩ := at_true hat
  have hil := (List.getElem?_eq_some_iff.1 hv0).1
  obtain ⟨a, ha⟩ : ∃ a, ks[pos key es]? = some a := ⟨ks[pos key es]'(by omega), List.getElem?_eq_getElem _⟩
  have hks := list_at2 ha hk
  have hkt : (ks.take (pos key es)).length = pos key es := by rw [List.length_take]; omega
  have hln : (es.take (pos key es)).length = pos key es := by rw [List.length_take]; omega
  have hint : inter (ks.map Kid.L) es = (pre ((ks.take (pos key es)).map Kid.L) (es.take (pos key es)) ++ a.L) ++ (key, v0) :: (k.L ++ suf ((ks.drop (pos key es + 2)).map Kid.L) (es.drop (pos key es + 1))) := by
    generalize pos key es = p at hks hes hkt hln ⊢
    conv => lhs; rw [hks, hes]
    rw [List.map_append, List.map_cons, List.map_cons, inter_pair _ _ _ _ _ _ _ (by rw [List.length_map, hkt, hln])]
    simp
  have hsrt := hI.srt
  rw [hint] at hsrt
  have hd := hI.delE
  rw [hint, del_mid hsrt] at hd
  have hsk : Srt k.L := (srt_append.1 (List.pairwise_cons.1 (srt_append.1 hsrt).2.1).2).1
  have hsk' : Srt ([] ++ (e'.1, e'.2) :: X) := by rw [hX] at hsk; exact hsk
  have hpre : ∀ (P : List (List Ent)) (x : List Ent) (L : List Ent) (e : Ent), P.length = x.length → pre (P ++ [L]) (x ++ [e]) = pre P x ++ L ++ [e] := by
    intro P
    induction P with
    | nil => intro x L e hx; cases x with
      | nil => simp [pre]
      | cons _ _ => simp at hx
    | cons p P ih => intro x L e hx; cases x with
      | nil => simp at hx
      | cons z x =>
        simp only [List.cons_append, pre]
        rw [ih x L e (by simpa using hx)]
        simp
  obtain ⟨ek, kk, a1, a2, a3, a4, a5, a6, r1, r2⟩ := hI.downX (x := es.take (pos key es) ++ [e']) (y := es.drop (pos key es + 1)) (P := ks.take (pos key es) ++ [a]) (Q := ks.drop (pos key es + 2)) (k := k) (key' := e'.1) hT hN (by simp) (by rw [List.set_eq_take_append_cons_drop, if_pos hil]; simp) (by rw [List.append_assoc]; exact hks) (by simp; omega) hkn
    (by have h9 : del e'.1 k.L = X := by
          rw [hX]; exact del_mid hsk'
        rw [h9, ← hd, hX, List.map_append, List.map_cons, List.map_nil, hpre _ _ _ _ (by rw [List.length_map, hkt, hln])]
        simp) (by rw [hX]; exact hasK_mid (A := []) (v := e'.2)) hsk
  exact ⟨_, _, _, ek, kk, a1, a2, a3, a4, a5, a6, r1, r2⟩
end

/-- A key and its value written over. -/
theorem node_over {w : World} {b i kb vb : Nat} {es : List Ent} {ps : List Nat} {gk gv gc : Option Nat} {ck cv cc : Nat} (hn : NodeAt w b es ps gk gv gc ck cv cc) (hnd : (ownL b gk gv gc).Nodup) (hk : gk = some kb) (hv : gv = some vb) (hi : i < es.length) (e : Ent) :
    NodeAt ((w.setCell ⟨kb, i, none⟩ (str e.1)).setCell ⟨vb, i, none⟩ (.int .i64 e.2)) b (es.set i e) ps gk gv gc ck cv cc ∧ Touch (fun k => k ∈ ownL b gk gv gc) w ((w.setCell ⟨kb, i, none⟩ (str e.1)).setCell ⟨vb, i, none⟩ (.int .i64 e.2)) := by
  subst hk hv
  have hl : (es.set i e).length = es.length := by simp
  have a1 : b ≠ kb := fun h => by simp [h] at hnd
  have a2 : b ≠ vb := fun h => by simp [h] at hnd
  have a3 : kb ≠ vb := fun h => by simp [h] at hnd
  have a4 : ∀ x, gc = some x → x ≠ kb := fun x hx h => by simp [hx, h] at hnd
  have a5 : ∀ x, gc = some x → x ≠ vb := fun x hx h => by simp [hx, h] at hnd
  have eK : sK (es.set i e) = (sK es).set i (str e.1) := by simp [sK, List.map_set]
  have eV : sV (es.set i e) = (sV es).set i (.int .i64 e.2) := by simp [sV, List.map_set]
  have put : ∀ (W : World) (ty : TypeId) (g c : Nat) (xs : List Value) (v : Value), i < es.length → Sl W ty 1 (some g) es.length c xs → Sl (W.setCell ⟨g, i, none⟩ v) ty 1 (some g) es.length c (xs.set i v) := by
    intro W ty g c xs v hi hs
    obtain ⟨q1, cur, q2, q3, q4, q5, q6⟩ := hs
    refine ⟨by simpa using q1, cur.setIfInBounds i v, blk_set q2 _ _, q3, q4, by simp [q5], ?_⟩
    rw [Nat.mul_one] at q6 ⊢
    rw [Array.toList_setIfInBounds, List.take_set, q6]
  refine ⟨⟨?_, ?_, ?_, ?_⟩, ?_⟩
  · rw [hl]; exact blk_set_ne (blk_set_ne hn.blk a1 _) a2 _
  · rw [hl, eK]
    exact (put _ _ _ _ _ _ hi hn.keys).set_off _ _ (by intro x hx; cases hx; exact a3)
  · rw [hl, eV]
    exact put _ _ _ _ _ _ hi (hn.vals.set_off _ _ (by intro x hx; cases hx; exact Ne.symm a3))
  · exact (hn.kids.set_off _ _ (fun x hx => a4 x hx)).set_off _ _ (fun x hx => a5 x hx)
  · exact ((Touch.refl _ _).setCell (p := ⟨kb, i, none⟩) (fun _ => by simp) _).setCell (p := ⟨vb, i, none⟩) (fun _ => by simp) _
end Go.Proofs.Ytkejjahlglldlaa
