/- slices.SortFunc at periods, out of the kit's contract. -/
import Derived.Test.YtkejjahlglldlaaPe4
import Derived.Test.YtkejjahlglldlaaPeL
import Derived.Test.YtkejjahlglldlaaShf
namespace Go.Proofs.Ytkejjahlglldlaa
open Go.RowKit Go.Shelf Go.Lib Go.Sort

/-- Growth and draws alone. -/
def Gr (w w' : World) : Prop := ∃ q os, w' = grow (w.drewN q) os
theorem Gr.refl (w : World) : Gr w w := ⟨0, #[], by rw [grow_empty]; rfl⟩
theorem Gr.alloc {a w : World} (h : Gr a w) (o : Obj) : Gr a (w.alloc o) := by
  obtain ⟨q, os, rfl⟩ := h
  exact ⟨q, os ++ #[o], by rw [alloc_eq_grow, grow_grow]⟩
theorem drewN_drew (w : World) (q : Nat) : (w.drewN q).drew = w.drewN (q + 1) := by
  simp [World.drewN, World.drew, Nat.add_assoc]
theorem Gr.drew {a w : World} (h : Gr a w) : Gr a w.drew := by
  obtain ⟨q, os, rfl⟩ := h
  exact ⟨q + 1, os, by rw [drew_grow, drewN_drew]⟩
theorem Gr.trans {a b c : World} (h : Gr a b) (k : Gr b c) : Gr a c := by
  obtain ⟨q, os, rfl⟩ := h
  obtain ⟨q2, os2, rfl⟩ := k
  refine ⟨q + q2, os ++ os2, ?_⟩
  rw [← grow_grow]
  congr 1
  simp [World.drewN, grow, Nat.add_assoc]
theorem Gr.ext {w w' : World} (h : Gr w w') : Ext w w' := by
  obtain ⟨q, os, rfl⟩ := h
  refine ⟨rfl, rfl, rfl, by simp, fun k hk => ?_⟩
  exact heap_grow_old _ _ hk

theorem flatMap_len {α : Type} {enc : α → List Value} {k : Nat} (hk : ∀ x, (enc x).length = k) : ∀ (L : List α), (L.flatMap enc).length = L.length * k
  | [] => by simp
  | x :: L => by rw [List.flatMap_cons, List.length_append, hk, flatMap_len hk L, List.length_cons, Nat.add_mul]; omega
section
variable {α : Type} [Inhabited α]
theorem heap_putRow_other (w : World) (blk off : Nat) (d : Array Value) {k : Nat} (h : k ≠ blk) : (putRow id w blk off d).heap[k]? = w.heap[k]? := by
  simp [putRow, mapBlock, Array.getElem?_modify, Ne.symm h]
theorem heap_putRow_blk {w : World} {blk off : Nat} {d cur : Array Value} {e : TypeId} {f : Nat × Nat} (h : w.heap[blk]? = some (.cells cur e f)) : (putRow id w blk off d).heap[blk]? = some (.cells (putCells id off d cur) e f) := by
  simp [putRow, mapBlock, Array.getElem?_modify, h, onCells]
theorem sortWorld_other (enc : α → List Value) (k : Nat) (w : World) (blk off m : Nat) (d : Array α) (os : Array Obj) {j : Nat} (hj : j < w.heap.size) (h : j ≠ blk) : (sortWorldK enc k w blk off m d os).heap[j]? = w.heap[j]? := by
  unfold sortWorldK
  rw [heap_grow_old _ _ (by rw [size_putRowK]; exact hj)]
  exact heap_putRow_other _ _ _ _ h
theorem sortWorld_touch (enc : α → List Value) (k : Nat) (w : World) (blk off m : Nat) (d : Array α) (os : Array Obj) : Touch (fun j => j = blk) w (sortWorldK enc k w blk off m d os) :=
  ⟨rfl, rfl, rfl, by unfold sortWorldK; rw [size_grow, size_putRowK]; exact Nat.le_add_right _ _, fun j hj h => sortWorld_other enc k w blk off m d os hj h⟩
theorem flatMap_get {enc : α → List Value} {k : Nat} (hk : ∀ x, (enc x).length = k) (hk0 : 0 < k) : ∀ (L : List α) (t : Nat), t < L.length * k → (L.flatMap enc)[t]? = some ((enc L[t / k]!)[t % k]!)
  | [], t, h => by simp at h
  | x :: L, t, h => by
    rw [List.flatMap_cons]
    by_cases ht : t < k
    · rw [List.getElem?_append_left (by rw [hk]; exact ht), Nat.div_eq_of_lt ht, Nat.mod_eq_of_lt ht, List.getElem?_eq_getElem (by rw [hk]; exact ht)]
      simp [hk, ht]
    · obtain ⟨s, rfl⟩ : ∃ s, t = s + k := ⟨t - k, by omega⟩
      have h2 : s < L.length * k := by rw [List.length_cons, Nat.add_mul] at h; omega
      rw [List.getElem?_append_right (by rw [hk]; omega), hk, Nat.add_sub_cancel, flatMap_get hk hk0 L s h2, Nat.add_div_right _ hk0, Nat.add_mod_right]
      simp
theorem holdsK_of {enc : α → List Value} {k : Nat} (hk : ∀ x, (enc x).length = k) (hk0 : 0 < k) {w : World} {b n cap : Nat} {e : TypeId} {L : List α} (h : Sl w e k (some b) n cap (L.flatMap enc)) : HoldsK enc k w b 0 L.toArray := by
  intro j hj
  have hj' : j < L.length * k := by simpa using hj
  obtain ⟨cur, hb, hs, hc⟩ := h.raw
  refine ⟨?_, blk_frozen hb _⟩
  rw [get_flatK _ _ _ _ (by simpa using hj'), Nat.zero_add]
  have := h.cell (flatMap_get hk hk0 L j hj')
  simpa using this
theorem sortWorld_sl {enc : α → List Value} {k : Nat} (hk : ∀ x, (enc x).length = k) (hk0 : 0 < k) {w : World} {b n cap : Nat} {e : TypeId} {xs : List Value} (h : Sl w e k (some b) n cap xs) (d : Array α) (hd : d.size = n) (m : Nat) (os : Array Obj) :
    Sl (sortWorldK enc k w b 0 m d os) e k (some b) n cap (d.toList.flatMap enc) := by
  obtain ⟨cur, hb, hs, hc⟩ := h.raw
  have hle := h.le
  have hmul : n * k ≤ cap * k := Nat.mul_le_mul_right k hle
  refine Sl.of_cells h (Nat.le_refl _) (cur' := putCells id 0 (flatK enc k d) cur) ?_ (by simp [putCells, hs]) (by rw [flatMap_len hk]; simp [hd]) ?_
  · unfold sortWorldK
    rw [heap_grow_old _ _ (by rw [size_putRowK]; exact blk_lt hb)]
    exact heap_putRow_blk (w := Sort.ahead w m) hb
  · intro j u hu
    have hj : j < n * k := by
      have := (List.getElem?_eq_some_iff.1 hu).1
      rw [flatMap_len hk] at this
      simpa [hd] using this
    rw [flatMap_get hk hk0 _ _ (by simpa [hd] using hj)] at hu
    cases hu
    have hjc : j < cur.size := by omega
    unfold putCells
    rw [Array.getElem?_mapIdx, Array.getElem?_eq_getElem hjc]
    simp only [Option.map_some, Nat.zero_le, true_and, Nat.zero_add, Nat.sub_zero, size_flatK, hd, hj, if_true, id, Option.some.injEq]
    rw [get_flatK _ _ _ _ (by rw [hd]; exact hj)]
    have hjk : j / k < d.size := by rw [hd]; exact (Nat.div_lt_iff_lt_mul hk0).2 hj
    have he : d[j / k]! = d.toList[j / k]! := by rw [getElem!_pos d _ hjk, getElem!_pos d.toList _ (by simpa using hjk)]; simp
    rw [he]
/-- A permutation and its order, as lists. -/
theorem perm_list {d d' : Array α} (h : PermIn 0 d.size d d') : d'.toList.Perm d.toList := by
  obtain ⟨h1, _, h3⟩ := h
  have e1 : d'.extract 0 d.size = d' := by rw [← h1]; simp
  have e2 : d.extract 0 d.size = d := by simp
  rw [e1, e2] at h3
  exact h3
theorem sorted_list {lt : α → α → Bool} {d : Array α} {n : Nat} (hn : d.size = n) (h : SortedIn lt 0 n d) : d.toList.Pairwise fun a b => lt b a = false := by
  rw [List.pairwise_iff_getElem]
  intro i j hi hj hij
  have := h i j (Nat.zero_le _) hij (by rw [← hn]; simpa using hj)
  have hi' : i < d.size := by simpa using hi
  have hj' : j < d.size := by simpa using hj
  rw [getElem!_pos d i hi', getElem!_pos d j hj'] at this
  simpa using this
end

def encP (q : Per) : List Value := [.int .i64 q.1, .int .i64 q.2]
theorem flatQ_map : ∀ ps : List Per, flatQ ps = ps.flatMap encP
  | [] => rfl
  | q :: ps => by rw [List.flatMap_cons, ← flatQ_map ps]; rfl
theorem cmpI_lt (a b : Int) : decide (cmpI a b < 0) = decide (a < b) := by
  unfold cmpI
  by_cases h1 : a < b
  · simp [h1]
  · by_cases h2 : b < a <;> simp [h1, h2]
theorem swoP : SWO (ltOf fun x y : Per => cmpI x.1 y.1) where
  irrefl x := by simp [ltOf, cmpI_lt]
  trans x y z h1 h2 := by simp [ltOf, cmpI_lt] at *; omega
  ntrans x y z h1 h2 := by simp [ltOf, cmpI_lt] at *; omega
set_option maxHeartbeats 4000000 in
theorem cmpP_ok (x y : Per) (W : World) : Calls Try.prog 69 #[perV x, perV y] W (fun e w' => e = .returned (.int .i64 (cmpI x.1 y.1)) ∧ Gr W w') := by
  obtain ⟨a, b⟩ := x
  obtain ⟨c, d⟩ := y
  go_enter Try.func69, Try.ntmps69
  go_wp2_with fail
  refine (compare_i64 a c _).mono ?_
  rintro e w2 ⟨rfl, rfl⟩
  go_wp2
  go_ret
  exact ⟨rfl, ((Gr.refl W).alloc _).alloc _⟩
theorem sortP_ok (g : Option Nat) (n cap : Nat) (ps : List Per) (w : World) (hS : PSl w g n cap ps) (hsz : n ≤ 2199023255552) :
    Calls Try.prog 68 #[slv g n cap, .func (.func 69) #[] #[]] w (fun e w' => e = .returned (.tuple #[]) ∧ ∃ qs : List Per, qs.Perm ps ∧ qs.Pairwise (fun a b => a.1 ≤ b.1) ∧ PSl w' g n cap qs ∧ Touch (fun b => g = some b) w w') := by
  have hcnt := hS.count
  cases g with
  | none =>
    obtain ⟨_, rfl, rfl⟩ := hS
    have hps : ps = [] := List.eq_nil_of_length_eq_zero hcnt
    subst hps
    refine (AnyF.slices_SortFunc_none { Try.sortPer with } none 0 (.func (.func 69) #[] #[]) w).mono ?_
    rintro e w' ⟨rfl, rfl⟩
    exact ⟨rfl, [], List.Perm.refl _, List.Pairwise.nil, Sl.nil _ _ _, Touch.refl _ _⟩
  | some b =>
    replace hS : Sl w 45 2 (some b) n cap (ps.flatMap encP) := by rw [← flatQ_map]; exact hS
    have hk : ∀ x : Per, (encP x).length = 2 := fun _ => rfl
    have eg : ∀ args w, (callFunc 69 args).run Try.prog w = .ok (.enter 69 args) w := enters_of Try.func69 (by kernel_rfl) rfl
    have hlay : CmpLays Try.prog 69 #[] encP 2 (fun x y : Per => cmpI x.1 y.1) b 0 ps.toArray.size w := fun m os dk _ x y => (cmpP_ok x y _).mono fun e w' ⟨h1, h2⟩ => ⟨h1, h2⟩
    have hcon := AnyQ.slices_SortFunc Try.sortPer 2 Try.isAgg45 Try.sizeOf45 encP hk (fun x v hv => by simp [encP] at hv; rcases hv with rfl | rfl <;> rfl) (fun x y => cmpI x.1 y.1) swoP 69 #[] b 0 cap ps.toArray w eg hlay (holdsK_of hk (by omega) hS) hS.block_lt (by simp; omega)
    have hsize : ps.toArray.size = n := by simpa using hcnt
    rw [hsize] at hcon
    refine Calls.mono (show Calls Try.prog 68 _ _ _ from hcon) ?_
    rintro e w' ⟨rfl, d', m, os, hp, hs, rfl⟩
    have hd : d'.size = n := by have := hp.1; omega
    refine ⟨rfl, d'.toList, ?_, ?_, ?_, ?_⟩
    · have hp' : PermIn 0 ps.toArray.size ps.toArray d' := by rw [hsize]; exact hp
      simpa using perm_list hp'
    · have := sorted_list hd hs
      refine this.imp fun {x y} h => ?_
      simp [ltOf, cmpI_lt] at h
      omega
    · show Sl _ _ _ _ _ _ _
      rw [flatQ_map]
      exact sortWorld_sl hk (by omega) hS d' hd m os
    · exact (sortWorld_touch encP 2 w b 0 m d' os).mono (fun k _ h => by rw [h])
end Go.Proofs.Ytkejjahlglldlaa
