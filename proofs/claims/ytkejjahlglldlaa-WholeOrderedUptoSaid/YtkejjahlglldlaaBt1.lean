/- A tree of bounded nodes in memory: what a world holds of it; places to come back to. -/
import Derived.Test.YtkejjahlglldlaaBtL
import Derived.Test.YtkejjahlglldlaaIns
namespace Go.Proofs.Ytkejjahlglldlaa
open Go.RowKit

def sK (es : List Ent) : List Value := es.map fun e => str e.1
def sV (es : List Ent) : List Value := es.map fun e => .int .i64 e.2
def sP (ps : List Nat) : List Value := ps.map fun b => ptr (some b)
theorem sK_one (es : List Ent) : ∀ u ∈ sK es, u.oneCell' = true := by
  intro u hu; simp only [sK, List.mem_map] at hu; obtain ⟨_, _, rfl⟩ := hu; rfl
theorem sV_one (es : List Ent) : ∀ u ∈ sV es, u.oneCell' = true := by
  intro u hu; simp only [sV, List.mem_map] at hu; obtain ⟨_, _, rfl⟩ := hu; rfl
theorem sP_one (ps : List Nat) : ∀ u ∈ sP ps, u.oneCell' = true := by
  intro u hu; simp only [sP, List.mem_map] at hu; obtain ⟨_, _, rfl⟩ := hu; rfl

abbrev ownL (b : Nat) (gk gv gc : Option Nat) : List Nat := b :: (gk.toList ++ (gv.toList ++ gc.toList))

/-- The node in block b: its keys and values, its kids' blocks; the blocks of its slices. -/
structure NodeAt (W : World) (b : Nat) (es : List Ent) (ps : List Nat) (gk gv gc : Option Nat) (ck cv cc : Nat) : Prop where
  blk : W.heap[b]? = some (.cells #[slv gk es.length ck, slv gv es.length cv, slv gc ps.length cc] 82 (0, 0))
  keys : Sl W 9 1 gk es.length ck (sK es)
  vals : Sl W 2 1 gv es.length cv (sV es)
  kids : Sl W 78 1 gc ps.length cc (sP ps)

theorem NodeAt.congr {W W' : World} {b : Nat} {es : List Ent} {ps : List Nat} {gk gv gc : Option Nat} {ck cv cc : Nat} (h : NodeAt W b es ps gk gv gc ck cv cc) (hc : ∀ k ∈ ownL b gk gv gc, W'.heap[k]? = W.heap[k]?) :
    NodeAt W' b es ps gk gv gc ck cv cc :=
  ⟨by rw [hc b (by simp)]; exact h.blk, h.keys.congr fun k hk => hc k (by simp [hk]), h.vals.congr fun k hk => hc k (by simp [hk]), h.kids.congr fun k hk => hc k (by simp [hk])⟩
theorem NodeAt.lt {W : World} {b : Nat} {es : List Ent} {ps : List Nat} {gk gv gc : Option Nat} {ck cv cc : Nat} (h : NodeAt W b es ps gk gv gc ck cv cc) : ∀ k ∈ ownL b gk gv gc, k < W.heap.size := by
  intro k hk
  simp only [ownL, List.mem_cons, List.mem_append, Option.mem_toList] at hk
  rcases hk with rfl | hk | hk | hk
  · exact blk_lt h.blk
  · subst hk; exact h.keys.block_lt
  · subst hk; exact h.vals.block_lt
  · subst hk; exact h.kids.block_lt
theorem NodeAt.touch {S : Nat → Prop} {W W' : World} {b : Nat} {es : List Ent} {ps : List Nat} {gk gv gc : Option Nat} {ck cv cc : Nat} (h : NodeAt W b es ps gk gv gc ck cv cc) (ht : Touch S W W') (hn : ∀ k ∈ ownL b gk gv gc, ¬ S k) :
    NodeAt W' b es ps gk gv gc ck cv cc := h.congr fun k hk => ht.block k (h.lt k hk) (hn k hk)

/-- A kid: its block, its number of keys, its contents, all its blocks. -/
structure Kid where
  b : Nat
  n : Nat
  L : List Ent
  bs : List Nat

/-- A node of height h and all below it. -/
def Rep (W : World) (m : Nat) : Nat → Kid → Prop
  | 0, k => ∃ es gk gv gc ck cv cc, NodeAt W k.b es [] gk gv gc ck cv cc ∧ k.n = es.length ∧ k.L = es ∧ k.bs = ownL k.b gk gv gc
  | h + 1, k => ∃ (es : List Ent) (ks : List Kid) (gk gv gc : Option Nat) (ck cv cc : Nat), NodeAt W k.b es (ks.map Kid.b) gk gv gc ck cv cc ∧ k.n = es.length ∧ k.L = inter (ks.map Kid.L) es ∧ k.bs = ownL k.b gk gv gc ++ ks.flatMap Kid.bs ∧
      ks.length = es.length + 1 ∧ ∀ x ∈ ks, Rep W m h x ∧ m ≤ x.n + 1 ∧ x.n + 1 ≤ 2 * m
def KidsOk (W : World) (m : Nat) : Nat → List Kid → Nat → Prop
  | 0, ks, _ => ks = []
  | h + 1, ks, n => ks.length = n + 1 ∧ ∀ x ∈ ks, Rep W m h x ∧ m ≤ x.n + 1 ∧ x.n + 1 ≤ 2 * m

theorem Rep.open {W : World} {m h : Nat} {k : Kid} (hr : Rep W m h k) : ∃ (es : List Ent) (ks : List Kid) (gk gv gc : Option Nat) (ck cv cc : Nat), NodeAt W k.b es (ks.map Kid.b) gk gv gc ck cv cc ∧ k.n = es.length ∧ k.L = inter (ks.map Kid.L) es ∧ k.bs = ownL k.b gk gv gc ++ ks.flatMap Kid.bs ∧
    KidsOk W m h ks es.length := by
  cases h with
  | zero =>
    obtain ⟨es, gk, gv, gc, ck, cv, cc, h1, h2, h3, h4⟩ := hr
    exact ⟨es, [], gk, gv, gc, ck, cv, cc, h1, h2, by simp [h3, inter], by simp [h4], rfl⟩
  | succ h =>
    obtain ⟨es, ks, gk, gv, gc, ck, cv, cc, h1, h2, h3, h4, h5, h6⟩ := hr
    exact ⟨es, ks, gk, gv, gc, ck, cv, cc, h1, h2, h3, h4, h5, h6⟩
theorem Rep.close {W : World} {m h : Nat} {k : Kid} {es : List Ent} {ks : List Kid} {gk gv gc : Option Nat} {ck cv cc : Nat} (h1 : NodeAt W k.b es (ks.map Kid.b) gk gv gc ck cv cc) (h2 : k.n = es.length) (h3 : k.L = inter (ks.map Kid.L) es)
    (h4 : k.bs = ownL k.b gk gv gc ++ ks.flatMap Kid.bs) (h5 : KidsOk W m h ks es.length) : Rep W m h k := by
  cases h with
  | zero =>
    have h5 : ks = [] := h5
    subst h5
    exact ⟨es, gk, gv, gc, ck, cv, cc, h1, h2, by simpa [inter] using h3, by simpa using h4⟩
  | succ h => exact ⟨es, ks, gk, gv, gc, ck, cv, cc, h1, h2, h3, h4, h5.1, h5.2⟩
theorem Rep.congr {W W' : World} {m : Nat} : ∀ {h : Nat} {k : Kid}, Rep W m h k → (∀ b ∈ k.bs, W'.heap[b]? = W.heap[b]?) → Rep W' m h k
  | 0, k, ⟨es, gk, gv, gc, ck, cv, cc, h1, h2, h3, h4⟩, hc => ⟨es, gk, gv, gc, ck, cv, cc, h1.congr fun b hb => hc b (by rw [h4]; exact hb), h2, h3, h4⟩
  | h + 1, k, ⟨es, ks, gk, gv, gc, ck, cv, cc, h1, h2, h3, h4, h5, h6⟩, hc =>
    ⟨es, ks, gk, gv, gc, ck, cv, cc, h1.congr fun b hb => hc b (by rw [h4]; exact List.mem_append_left _ hb), h2, h3, h4, h5,
      fun x hx => ⟨(h6 x hx).1.congr fun b hb => hc b (by rw [h4]; exact List.mem_append_right _ (List.mem_flatMap.2 ⟨x, hx, hb⟩)), (h6 x hx).2⟩⟩
theorem Rep.lt {W : World} {m : Nat} : ∀ {h : Nat} {k : Kid}, Rep W m h k → ∀ b ∈ k.bs, b < W.heap.size
  | 0, k, ⟨es, gk, gv, gc, ck, cv, cc, h1, h2, h3, h4⟩, b, hb => h1.lt b (by rw [← h4]; exact hb)
  | h + 1, k, ⟨es, ks, gk, gv, gc, ck, cv, cc, h1, h2, h3, h4, h5, h6⟩, b, hb => by
    rw [h4] at hb
    rcases List.mem_append.1 hb with hb | hb
    · exact h1.lt b hb
    · obtain ⟨x, hx, hb⟩ := List.mem_flatMap.1 hb
      exact (h6 x hx).1.lt b hb
theorem Rep.touch {S : Nat → Prop} {W W' : World} {m h : Nat} {k : Kid} (hr : Rep W m h k) (ht : Touch S W W') (hn : ∀ b ∈ k.bs, ¬ S b) : Rep W' m h k := hr.congr fun b hb => ht.block b (hr.lt b hb) (hn b hb)
theorem Rep.ext {W W' : World} {m h : Nat} {k : Kid} (hr : Rep W m h k) (ht : Ext W W') : Rep W' m h k := hr.congr fun b hb => Below.block ht b (hr.lt b hb)
theorem Rep.mem {W : World} {m h : Nat} {k : Kid} (hr : Rep W m h k) : k.b ∈ k.bs := by
  obtain ⟨es, ks, gk, gv, gc, ck, cv, cc, h1, h2, h3, h4, h5⟩ := hr.open
  rw [h4]; simp
theorem KidsOk.congr {W W' : World} {m h n : Nat} {ks : List Kid} (hk : KidsOk W m h ks n) (hc : ∀ x ∈ ks, ∀ b ∈ x.bs, W'.heap[b]? = W.heap[b]?) : KidsOk W' m h ks n := by
  cases h with
  | zero => exact hk
  | succ h => exact ⟨hk.1, fun x hx => ⟨(hk.2 x hx).1.congr (hc x hx), (hk.2 x hx).2⟩⟩

/-- A place in the tree under rb: what is put there for the node in block b gives the tree again. F: the blocks outside; A, B: what stands ahead of and behind the node's contents. -/
def Hole (W : World) (m loR H rb h b lo : Nat) (F : List Nat) (A B : List Ent) : Prop :=
  ∀ (W' : World) (n' : Nat) (L' : List Ent) (bs' : List Nat), Rep W' m h ⟨b, n', L', bs'⟩ → lo ≤ n' → n' + 1 ≤ 2 * m → (∀ x ∈ F, W'.heap[x]? = W.heap[x]?) →
    ∃ N' Bs, Rep W' m H ⟨rb, N', A ++ L' ++ B, Bs⟩ ∧ loR ≤ N' ∧ N' + 1 ≤ 2 * m ∧ Bs.Perm (F ++ bs')
theorem Hole.root (W : World) (m lo H rb : Nat) : Hole W m lo H rb H rb lo [] [] [] := fun W' n' L' bs' hr h1 h2 _ => ⟨n', bs', by simpa using hr, h1, h2, by simp⟩
theorem Hole.congr {W W' : World} {m loR H rb h b lo : Nat} {F : List Nat} {A B : List Ent} (hh : Hole W m loR H rb h b lo F A B) (hc : ∀ x ∈ F, W'.heap[x]? = W.heap[x]?) : Hole W' m loR H rb h b lo F A B :=
  fun W2 n' L' bs' hr h1 h2 h3 => hh W2 n' L' bs' hr h1 h2 fun x hx => (h3 x hx).trans (hc x hx)

theorem inter_mid (P Q : List (List Ent)) (x y : List Ent) (L : List Ent) (h : P.length = x.length) : inter (P ++ L :: Q) (x ++ y) = pre P x ++ (L ++ suf Q y) := by
  rw [inter_at P x (L :: Q) y h (by simp), inter_cons]
/-- One step down. -/
theorem Hole.down {W : World} {m loR H rb h b lo : Nat} {F : List Nat} {A B : List Ent} (hh : Hole W m loR H rb (h + 1) b lo F A B) {es x y : List Ent} {ks P Q : List Kid} {k : Kid} {gk gv gc : Option Nat} {ck cv cc : Nat}
    (hn : NodeAt W b es (ks.map Kid.b) gk gv gc ck cv cc) (he : es = x ++ y) (hks : ks = P ++ k :: Q) (hP : P.length = x.length) (hk : KidsOk W m (h + 1) ks es.length) (hlo : lo ≤ es.length) (hhi : es.length + 1 ≤ 2 * m) :
    Hole W m loR H rb h k.b (m - 1) (F ++ ownL b gk gv gc ++ (P.flatMap Kid.bs ++ Q.flatMap Kid.bs)) (A ++ pre (P.map Kid.L) x) (suf (Q.map Kid.L) y ++ B) := by
  intro W' n' L' bs' hr h1 h2 h3
  obtain ⟨N', Bs, r1, r2, r3, r4⟩ := hh W' es.length (inter ((P ++ ⟨k.b, n', L', bs'⟩ :: Q).map Kid.L) es) (ownL b gk gv gc ++ (P ++ ⟨k.b, n', L', bs'⟩ :: Q).flatMap Kid.bs)
    (Rep.close (es := es) (ks := P ++ ⟨k.b, n', L', bs'⟩ :: Q) (by
        have h4 : (P ++ ⟨k.b, n', L', bs'⟩ :: Q).map Kid.b = ks.map Kid.b := by rw [hks]; simp
        rw [h4]
        exact hn.congr fun q hq => h3 q (by simp only [List.mem_append]; exact .inl (.inr hq))) rfl rfl rfl
      ⟨by rw [← hk.1, hks]; simp, fun q hq => by
        rcases List.mem_append.1 hq with hq | hq
        · have := hk.2 q (by rw [hks]; simp [hq])
          exact ⟨this.1.congr fun c hc => h3 c (by simp only [List.mem_append, List.mem_flatMap]; exact .inr (.inl ⟨q, hq, hc⟩)), this.2⟩
        · rcases List.mem_cons.1 hq with rfl | hq
          · exact ⟨hr, (by show m ≤ n' + 1; omega), h2⟩
          · have := hk.2 q (by rw [hks]; simp [hq])
            exact ⟨this.1.congr fun c hc => h3 c (by simp only [List.mem_append, List.mem_flatMap]; exact .inr (.inr ⟨q, hq, hc⟩)), this.2⟩⟩)
    hlo hhi (fun q hq => h3 q (by simp only [List.mem_append]; exact .inl (.inl hq)))
  refine ⟨N', Bs, ?_, r2, r3, r4.trans ?_⟩
  · have h5 : A ++ inter ((P ++ ⟨k.b, n', L', bs'⟩ :: Q).map Kid.L) es ++ B = A ++ pre (P.map Kid.L) x ++ L' ++ (suf (Q.map Kid.L) y ++ B) := by
      rw [List.map_append, List.map_cons, he, inter_mid _ _ _ _ _ (by simpa using hP)]
      simp
    rw [← h5]; exact r1
  · simp only [List.flatMap_append, List.flatMap_cons, List.append_assoc]
    refine List.Perm.append_left _ (List.Perm.append_left _ ?_)
    refine List.Perm.append_left _ ?_
    exact List.perm_append_comm
end Go.Proofs.Ytkejjahlglldlaa
