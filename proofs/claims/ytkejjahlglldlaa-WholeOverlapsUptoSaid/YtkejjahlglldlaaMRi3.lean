/- ritree.Nodes: walked. -/
import Derived.Test.YtkejjahlglldlaaMRi2
namespace Go.Proofs.Ytkejjahlglldlaa
open Go.RowKit Go.Lib

theorem NS.start {w w1 : World} {F T : Nat} (hE : Ext (((w.alloc (.cells #[.int .i64 (F : Int), .int .i64 (T : Int)] 45)).alloc (.cells #[.slice none 0 0] 46)).alloc (.cells #[.slice none 0 0] 46)) w1) (h1 : F < T) :
    NS w F T (w.heap.size + 1) (w.heap.size + 1 + 1) w.heap.size none w1 [] none 0 [] none 0 [] := by
  have a0 := blk_new w (.cells #[.int .i64 (F : Int), .int .i64 (T : Int)] 45)
  have a1 := blk_new (w.alloc (.cells #[.int .i64 (F : Int), .int .i64 (T : Int)] 45)) (.cells #[.slice none 0 0] 46)
  have a2 := blk_new ((w.alloc (.cells #[.int .i64 (F : Int), .int .i64 (T : Int)] 45)).alloc (.cells #[.slice none 0 0] 46)) (.cells #[.slice none 0 0] 46)
  rw [World.size_alloc] at a1
  rw [World.size_alloc, World.size_alloc] at a2
  refine ⟨Ext.block hE (blk_alloc a1), Ext.block hE a2, Ext.block hE (blk_alloc (blk_alloc a0)), Sl.nil _ _ _, Sl.nil _ _ _, ⟨by omega, by omega, by omega, by simp, by simp, by simp, by simp, by simp, by simp, by simp⟩, (((Ext.refl w).alloc _).alloc _).alloc _ |>.trans hE, ⟨by omega, by omega, by simp, by simp⟩, ⟨by simp, by simp, by simp, by simp, by simp⟩, by simp, by simp, by simp, by simp, h1⟩

theorem arr0 (a b : Value) (U : World) : (Instr.index 168 (.agg #[a, b]) (.int .i64 0)).run Try.prog U = .ok a U := by
  simp [Instr.index, run_underlying Try.underlying168, asIntOf, go_sem]
theorem arr1 (a b : Value) (U : World) : (Instr.index 168 (.agg #[a, b]) (.int .i64 1)).run Try.prog U = .ok b U := by
  simp [Instr.index, run_underlying Try.underlying168, asIntOf, go_sem]
/-- The slice of the loop's list stays. -/
theorem NS.keepx {w0 W W' : World} {F T lb rb pb : Nat} {x : Nat} {D : List Nat} {gl : Option Nat} {cl : Nat} {Ls : List Int} {gr : Option Nat} {cr : Nat} {Rs : List Int} (h : NS w0 F T lb rb pb (some x) W D gl cl Ls gr cr Rs) (hT : Touch (fun k => k = lb ∨ k = rb ∨ gl = some k ∨ gr = some k) W W') : W'.heap[x]? = W.heap[x]? :=
  hT.block x (h.xs.lt x rfl) (by
    rintro (e | e | e | e)
    · exact h.xs.l x rfl e
    · exact h.xs.r x rfl e
    · exact h.xs.gl x rfl e
    · exact h.xs.gr x rfl e)
theorem way_list {w3 : World} {c4 g4 : Nat} {out : List Nat} (hS4 : Sl w3 2 1 (some g4) (out.length + 1) c4 ((out.map fun x : Nat => Value.int .i64 (x : Int)) ++ [.int .i64 0])) : Sl w3 2 1 (some g4) (out ++ [0]).length c4 ((out ++ [0]).map fun x : Nat => Value.int .i64 (x : Int)) := by
  rw [List.map_append, List.length_append]; exact hS4

/-- What Nodes gives: the lists, rising; every node that must be there. -/
def NodesPost (F T : Nat) (w : World) (e : Ending) (w' : World) : Prop :=
  ∃ (gl gr : Option Nat) (cl cr : Nat) (Ls Rs : List Int), e = .returned (.tuple #[slv gl Ls.length cl, slv gr Rs.length cr, .int .i64 0]) ∧ ISl w' gl Ls.length cl Ls ∧ ISl w' gr Rs.length cr Rs ∧ Ext w w' ∧ Ls.Pairwise (fun a b => a < b) ∧ Rs.Pairwise (fun a b => a < b) ∧
    (∀ y ∈ Ls, 0 ≤ y ∧ y < (F : Int)) ∧ (∀ y ∈ Rs, (T : Int) ≤ y ∧ y ≤ 1099511627776) ∧ (Ls.length ≤ 200 ∧ Rs.length ≤ 200) ∧ ∃ D : List Nat, Covers D F ∧ Covers D (T - 1) ∧ ∀ y ∈ D, (y < F → (y : Int) ∈ Ls) ∧ (T ≤ y → (y : Int) ∈ Rs)

theorem ei_pp : EI Try.prog 171 170 1 8 :=
  ⟨Try.underlying171, by
    obtain ⟨i, h1, h2, h3, h4⟩ := info_parts (P := Try.prog) (e := 170) (z := .pointer none) (size := 1) (bytes := 8) (by kernel_rfl)
    exact ⟨i, _, h1, h2, h3, h4, rfl⟩, by omega, by omega⟩
set_option maxRecDepth 100000 in
set_option maxHeartbeats 8000000 in
theorem Nodes_ok (F T : Nat) (w : World) (hok : okP ((F : Int), (T : Int))) :
    Calls Try.prog 57 #[perV ((F : Int), (T : Int))] w (NodesPost F T w) := by
  have HOK := Lib.hid hok
  have h1 : F < T := by have := hok.2.1; simp only at this; omega
  have h2 : T ≤ 1099511627776 := by have := hok.2.2; simp only at this; omega
  clear hok
  go_enter Try.func57, Try.ntmps57
  go_wp2_with fail
  refine (Check_yes _ _ HOK.out).mono ?_
  rintro e w1 ⟨rfl, hE1⟩
  have HNS0 := Lib.hid (NS.start hE1 h1)
  clear hE1
  generalize w.heap.size + 1 + 1 = rb at *
  generalize w.heap.size + 1 = lb at *
  generalize w.heap.size = pb at *
  obtain ⟨v, hv⟩ : ∃ v, T - 1 = v := ⟨_, rfl⟩
  have hv1 : (T : Int) - 1 = (v : Int) := by omega
  have hwv : IntKind.i64.wrap (v : Int) = (v : Int) := by rw [IntKind.wrap_i64]; omega
  have hvl : v < 1099511627776 := by omega
  have HV := Lib.hid hv; clear hv
  have c0 := blk_cell HNS0.out.p (i := 0) rfl
  have c1 := blk_cell HNS0.out.p (i := 1) rfl
  go_wp2
  clear c0 c1
  go_loopg [23] 2 (fun k v23 wz => ∃ (d : Nat) (D : List Nat) (gl : Option Nat) (cl : Nat) (Ls : List Int) (gr : Option Nat) (cr : Nat) (Rs : List Int), v23 = .int .i64 (d : Int) ∧ d + k = 2 ∧ NS w F T lb rb pb none wz D gl cl Ls gr cr Rs ∧ D.length ≤ 60 * d ∧ (0 < d → Covers D F) ∧ (1 < d → Covers D v))
  case atStart => exact ⟨0, [], none, 0, [], none, 0, [], rfl, rfl, HNS0.out, by simp, by simp, by simp⟩
  case round =>
    obtain ⟨d, D, gl, cl, Ls, gr, cr, Rs, rfl, hdk, hN, hDl, hc1, hc2⟩ := hrel
    have HNS := Lib.hid hN; have HC1 := Lib.hid hc1; have HC2 := Lib.hid hc2
    clear HNS0 hN hc1 hc2
    have hd3 : d = 2 ∨ d = 0 ∨ d = 1 := by omega
    rcases hd3 with rfl | rfl | rfl
    · have HC : Hid (Covers D F ∧ Covers D v) := Lib.hid ⟨HC1.out (by omega), HC2.out (by omega)⟩
      clear HC1 HC2
      go_wp2
      have HN0 := Lib.hid (HNS.out.fresh (W' := wr.alloc (.cells #[.pointer (some ⟨lb, 0, none⟩), .pointer (some ⟨rb, 0, none⟩)] 170)) ((Ext.refl wr).alloc _) (b := wr.heap.size) (Nat.le_refl _) (by rw [World.size_alloc]; omega))
      have HSB0 : Hid ((wr.alloc (.cells #[.pointer (some ⟨lb, 0, none⟩), .pointer (some ⟨rb, 0, none⟩)] 170)).heap[wr.heap.size]? = some (.cells #[.pointer (some ⟨lb, 0, none⟩), .pointer (some ⟨rb, 0, none⟩)] 170 (0, 0))) := blk_new _ _
      generalize wr.heap.size = sb at *
      generalize wr.alloc (.cells #[.pointer (some ⟨lb, 0, none⟩), .pointer (some ⟨rb, 0, none⟩)] 170) = w5 at *
      clear HNS
      go_loopg [57] 2 (fun k v57 wz => ∃ (d : Nat) (gl : Option Nat) (cl : Nat) (Ls : List Int) (gr : Option Nat) (cr : Nat) (Rs : List Int), v57 = .int .i64 (d : Int) ∧ d + k = 2 ∧ NS w F T lb rb pb (some sb) wz D gl cl Ls gr cr Rs ∧
        wz.heap[sb]? = some (.cells #[.pointer (some ⟨lb, 0, none⟩), .pointer (some ⟨rb, 0, none⟩)] 170 (0, 0)) ∧ (0 < d → Ls.Pairwise fun a b => a < b) ∧ (1 < d → Rs.Pairwise fun a b => a < b))
      case atStart => exact ⟨0, _, _, _, _, _, _, rfl, rfl, HN0.out, HSB0.out, by simp, by simp⟩
      case round =>
        obtain ⟨d, gl, cl, Ls, gr, cr, Rs, rfl, hdk, hN, hsb, hs1, hs2⟩ := hrel
        have HN := Lib.hid hN; have HSB := Lib.hid hsb; have HS1 := Lib.hid hs1; have HS2 := Lib.hid hs2
        clear HN0 HSB0 hN hsb hs1 hs2
        have hd3 : d = 2 ∨ d = 0 ∨ d = 1 := by omega
        rcases hd3 with rfl | rfl | rfl
        · have cl0 := blk_cell HN.out.l (i := 0) rfl
          have cr0 := blk_cell HN.out.r (i := 0) rfl
          have hzl := blk_frozen HN.out.l 0
          have hzr := blk_frozen HN.out.r 0
          have hlr : ¬ lb = rb := HN.out.ne.lr
          have hrl : ¬ rb = lb := fun e => HN.out.ne.lr e.symm
          have B1 : Hid (((wr.setCell ⟨lb, 0, none⟩ (.slice (adr gl) Ls.length cl)).setCell ⟨rb, 0, none⟩ (.slice (adr gr) Rs.length cr)).heap[lb]? = some (.cells #[slv gl Ls.length cl] 46 (0, 0))) := Lib.hid (blk_set_ne (blk_set HN.out.l 0 _) hlr _)
          have B2 : Hid (((wr.setCell ⟨lb, 0, none⟩ (.slice (adr gl) Ls.length cl)).setCell ⟨rb, 0, none⟩ (.slice (adr gr) Rs.length cr)).heap[rb]? = some (.cells #[slv gr Rs.length cr] 46 (0, 0))) := Lib.hid (blk_set (blk_set_ne HN.out.r hrl _) 0 _)
          go_wp2
          have r0 := blk_cell B1.out (i := 0) rfl
          have r1 := blk_cell B2.out (i := 0) rfl
          refine bodyPost_ret (v := .tuple #[slv gl Ls.length cl, slv gr Rs.length cr, .int .i64 0]) (by simp [results, Try.results57, go_sem, r0, r1]; try rfl) rfl ?_
          have hv9 := HV.out
          have hln := HN.out.len
          refine ⟨gl, gr, cl, cr, Ls, Rs, rfl, (HN.out.sl.set_off _ _ (fun b hb e => HN.out.ne.gll (by rw [hb, e]))).set_off _ _ (fun b hb e => HN.out.ne.glr (by rw [hb, e])), (HN.out.sr.set_off _ _ (fun b hb e => HN.out.ne.grl (by rw [hb, e]))).set_off _ _ (fun b hb e => HN.out.ne.grr (by rw [hb, e])), ?_, HS1.out (by omega), HS2.out (by omega), HN.out.al, HN.out.ar, ⟨by omega, by omega⟩, D, HC.out.1, ?_, HN.out.has⟩
          · exact Touch.ext (S := fun k => k = lb ∨ k = rb) (((HN.out.ext.touch _).setCell (p := ⟨lb, 0, none⟩) (fun _ => .inl rfl) _).setCell (p := ⟨rb, 0, none⟩) (fun _ => .inr rfl) _) (fun i hi e => by
              have h5 := HN.out.new.lb
              have h6 := HN.out.new.rb
              rcases e with e | e <;> omega)
          · rw [hv9]; exact HC.out.2
        ·
          have hsb := HSB.out
          have cs0 := blk_cell hsb (i := 0) rfl
          have cs1 := blk_cell hsb (i := 1) rfl
          have cl0 := blk_cell HN.out.l (i := 0) rfl
          have hri : ∀ U, (Instr.indexAt 171 (.slice (some ⟨sb, 0, none⟩) 2 2) (.int .i64 0)).run Try.prog U = .ok (.pointer (some ⟨sb, 0, none⟩)) U := fun U => run_index_slv (P := Try.prog) ei_pp (g := some sb) (b := sb) (cap := 2) rfl (j := 0) (n := 2) (by omega) U
          have hlen : Ls.length ≤ 4398046511104 := by have := HN.out.len; omega
          clear hsb
          go_wp2_with fail
          refine (sortI_ok gl Ls.length cl Ls _ HN.out.sl hlen).mono ?_
          rintro e w6 ⟨rfl, hS6, hT6⟩
          have HS6 := Lib.hid hS6; have HT6 := Lib.hid hT6
          clear hS6 hT6 cl0 cs0 cs1
          have cl6 := blk_cell (HT6.out.old HN.out.l HN.out.ne.gll) (i := 0) rfl
          go_wp2_with fail
          refine (compactI_ok gl Ls.length cl _ w6 HS6.out (by
            have := List.pairwise_mergeSort (le := fun x y : Int => decide (x ≤ y)) (fun a b c h1 h2 => by simp at *; omega) (fun a b => by simp; omega) Ls
            exact this.imp (fun h => by simpa using h)) hlen).mono ?_
          rintro e w7 ⟨m', es', rfl, hS7, hm7, hso, hmem, hT7⟩
          have hcnt := hS7.count
          subst hcnt
          have hz7 : w7.frozen? ⟨lb, 0, none⟩ = false := blk_frozen (hT7.old (HT6.out.old HN.out.l HN.out.ne.gll) HN.out.ne.gll) 0
          have cl7 := blk_cell (hT7.old (HT6.out.old HN.out.l HN.out.ne.gll) HN.out.ne.gll) (i := 0) rfl
          have hmem2 : ∀ x, x ∈ es' ↔ x ∈ Ls := fun x => by rw [hmem]; exact (List.mergeSort_perm _ _).mem_iff
          have HP := Lib.hid (HN.out.left (W' := w7.setCell ⟨lb, 0, none⟩ (slv gl es'.length cl)) (gn := gl) (cn := cl) (Ns := es') (D' := D) (hS7.set_off _ _ (fun b hb e => HN.out.ne.gll (by rw [hb, e])))
            (blk_set (hT7.old (HT6.out.old HN.out.l HN.out.ne.gll) HN.out.ne.gll) 0 _) (((HT6.out.mono (fun k _ e => .inr e)).trans' (hT7.mono (fun k _ e => .inr e) : Touch (fun k => k = lb ∨ gl = some k) _ _) (fun _ _ e => e)).setCell (p := ⟨lb, 0, none⟩) (fun _ => .inl rfl) _)
            (fun b hb => .inl hb) (fun y hy => HN.out.al y ((hmem2 y).1 hy)) (fun y hy => (⟨fun h => (hmem2 _).2 ((HN.out.has y hy).1 h), (HN.out.has y hy).2⟩)) (by have := HN.out.len; omega))
          have HK : Hid ((w7.setCell ⟨lb, 0, none⟩ (slv gl es'.length cl)).heap[sb]? = wr.heap[sb]?) := Lib.hid (HN.out.keepx (((HT6.out.mono (fun k _ e => (.inr (.inr (.inl e))))).trans' (hT7.mono (fun k _ e => (.inr (.inr (.inl e)))) : Touch (fun k => k = lb ∨ k = rb ∨ gl = some k ∨ gr = some k) _ _) (fun _ _ e => e)).setCell (p := ⟨lb, 0, none⟩) (fun _ => (.inl rfl)) _))
          have HSO := Lib.hid hso
          clear hS7 hm7 hmem hT7 hmem2 hso cl6 HS6 HT6
          go_wp2
          go_roundg 1
          case measure => omega
          case rel => exact ⟨1, _, _, _, _, _, _, rfl, by omega, HP.out, by rw [HK.out]; exact HSB.out, fun _ => HSO.out, fun h => absurd h (by omega)⟩
        ·
          have hsb := HSB.out
          have cs0 := blk_cell hsb (i := 0) rfl
          have cs1 := blk_cell hsb (i := 1) rfl
          have cl0 := blk_cell HN.out.r (i := 0) rfl
          have hri : ∀ U, (Instr.indexAt 171 (.slice (some ⟨sb, 0, none⟩) 2 2) (.int .i64 1)).run Try.prog U = .ok (.pointer (some ⟨sb, 1, none⟩)) U := fun U => run_index_slv (P := Try.prog) ei_pp (g := some sb) (b := sb) (cap := 2) rfl (j := 1) (n := 2) (by omega) U
          have hlen : Rs.length ≤ 4398046511104 := by have := HN.out.len; omega
          clear hsb
          go_wp2_with fail
          refine (sortI_ok gr Rs.length cr Rs _ HN.out.sr hlen).mono ?_
          rintro e w6 ⟨rfl, hS6, hT6⟩
          have HS6 := Lib.hid hS6; have HT6 := Lib.hid hT6
          clear hS6 hT6 cl0 cs0 cs1
          have cl6 := blk_cell (HT6.out.old HN.out.r HN.out.ne.grr) (i := 0) rfl
          go_wp2_with fail
          refine (compactI_ok gr Rs.length cr _ w6 HS6.out (by
            have := List.pairwise_mergeSort (le := fun x y : Int => decide (x ≤ y)) (fun a b c h1 h2 => by simp at *; omega) (fun a b => by simp; omega) Rs
            exact this.imp (fun h => by simpa using h)) hlen).mono ?_
          rintro e w7 ⟨m', es', rfl, hS7, hm7, hso, hmem, hT7⟩
          have hcnt := hS7.count
          subst hcnt
          have hz7 : w7.frozen? ⟨rb, 0, none⟩ = false := blk_frozen (hT7.old (HT6.out.old HN.out.r HN.out.ne.grr) HN.out.ne.grr) 0
          have cl7 := blk_cell (hT7.old (HT6.out.old HN.out.r HN.out.ne.grr) HN.out.ne.grr) (i := 0) rfl
          have hmem2 : ∀ x, x ∈ es' ↔ x ∈ Rs := fun x => by rw [hmem]; exact (List.mergeSort_perm _ _).mem_iff
          have HP := Lib.hid (HN.out.right (W' := w7.setCell ⟨rb, 0, none⟩ (slv gr es'.length cr)) (gn := gr) (cn := cr) (Ns := es') (D' := D) (hS7.set_off _ _ (fun b hb e => HN.out.ne.grr (by rw [hb, e])))
            (blk_set (hT7.old (HT6.out.old HN.out.r HN.out.ne.grr) HN.out.ne.grr) 0 _) (((HT6.out.mono (fun k _ e => .inr e)).trans' (hT7.mono (fun k _ e => .inr e) : Touch (fun k => k = rb ∨ gr = some k) _ _) (fun _ _ e => e)).setCell (p := ⟨rb, 0, none⟩) (fun _ => .inl rfl) _)
            (fun b hb => .inl hb) (fun y hy => HN.out.ar y ((hmem2 y).1 hy)) (fun y hy => (⟨(HN.out.has y hy).1, fun h => (hmem2 _).2 ((HN.out.has y hy).2 h)⟩)) (by have := HN.out.len; omega))
          have HK : Hid ((w7.setCell ⟨rb, 0, none⟩ (slv gr es'.length cr)).heap[sb]? = wr.heap[sb]?) := Lib.hid (HN.out.keepx (((HT6.out.mono (fun k _ e => (.inr (.inr (.inr e))))).trans' (hT7.mono (fun k _ e => (.inr (.inr (.inr e)))) : Touch (fun k => k = lb ∨ k = rb ∨ gl = some k ∨ gr = some k) _ _) (fun _ _ e => e)).setCell (p := ⟨rb, 0, none⟩) (fun _ => (.inr (.inl rfl))) _))
          have HSO := Lib.hid hso
          clear hS7 hm7 hmem hT7 hmem2 hso cl6 HS6 HT6
          go_wp2
          go_roundg 0
          case measure => omega
          case rel => exact ⟨2, _, _, _, _, _, _, rfl, by omega, HP.out, by rw [HK.out]; exact HSB.out, fun _ => HS1.out (by omega), fun _ => HSO.out⟩
    · have hix := fun x y U => arr0 x y U
      have c0 := blk_cell HNS.out.p (i := 0) rfl
      have c1 := blk_cell HNS.out.p (i := 1) rfl
      go_wp2_with fail
      refine (way_ok F _ (by omega)).mono ?_
      rintro e w2 ⟨g3, c3, out, rfl, hS3, hg3, hE2, hl3, ha3, hw3⟩
      have HS3 := Lib.hid hS3; have HG3 := Lib.hid hg3; have HE2 := Lib.hid hE2; have HA3 := Lib.hid ha3; have HW3 := Lib.hid hw3
      clear hS3 hg3 hE2 ha3 hw3 c0 c1
      go_wp2_with (at_builtin; refine app_lit ei_int64 rfl (.tmp 27) (.tmp 28) rfl (g := g3) (n := out.length) (cap := c3) (b := w2.heap.size) (by rfl) (HS3.out.ext ((Ext.refl _).alloc _)) (by rfl) (news := [.int .i64 0]) rfl (blk_new w2 _) (by intro u hu; simp at hu; subst hu; rfl) (by omega) (by omega) ?_)
      intro g4 c4 w3 hS4 hT4 hat4
      have HX : Hid (Ext wr w3 ∧ wr.heap.size ≤ g4) := Lib.hid ⟨Touch.ext ((((HE2.out.alloc _).touch _).trans' hT4 (fun i hi h => h))) (fun i hi e => by have := HG3.out i e; omega), by
        have := HE2.out.size
        rcases hat4 with h | h
        · exact HG3.out _ h
        · omega⟩
      have HS4 := Lib.hid (way_list hS4)
      have HN3 := Lib.hid (HNS.out.fresh HX.out.1 HX.out.2 hS4.block_lt)
      have HNSL : Hid (∀ y ∈ out ++ [0], y ≤ 1099511627776) := Lib.hid (by
        intro y hy
        rcases List.mem_append.1 hy with hy | hy
        · exact HA3.out y hy
        · simp at hy; omega)
      have HCV : Hid (Covers (out ++ [0]) F) := Lib.hid ⟨by simp, fun k b h1 h2 h3 => List.mem_append_left _ (HW3.out k b h1 h2 h3)⟩
      have hml : (out ++ [0]).length ≤ 60 := by simp; omega
      obtain ⟨M, hM⟩ : ∃ M, out.length + 1 = M := ⟨_, rfl⟩
      have HM : Hid ((out ++ [0]).length = M) := Lib.hid (by simp; omega)
      have hM60 : M ≤ 60 := by omega
      clear hS4 hT4 hat4 HNS HX
      rw [hM]
      have HMM := Lib.hid hM
      clear hM hml hl3
      go_wp2
      generalize hns : out ++ [0] = ns at *
      clear hns
      go_loopg [31] M (fun k v31 wz => ∃ (i : Nat) (gl : Option Nat) (cl : Nat) (Ls : List Int) (gr : Option Nat) (cr : Nat) (Rs : List Int), v31 = .int .i64 (i : Int) ∧ i + k = M ∧ NS w F T lb rb pb (some g4) wz (D ++ ns.take i) gl cl Ls gr cr Rs ∧ Sl wz 2 1 (some g4) ns.length c4 (ns.map fun x : Nat => Value.int .i64 (x : Int)))
      case atStart => exact ⟨0, _, _, _, _, _, _, rfl, by omega, by rw [List.take_zero, List.append_nil]; exact HN3.out, HS4.out⟩
      case round =>
        obtain ⟨i, gl, cl, Ls, gr, cr, Rs, rfl, hik, hN, hSn⟩ := hrel
        have HN := Lib.hid hN; have HSN := Lib.hid hSn
        clear HN3 HS4 hN hSn HS3 HG3 HE2 HA3 HW3
        by_cases hi : i = M
        · have hlt : decide ((i : Int) < (M : Int)) = false := decide_eq_false (by omega)
          have hlt2 : decide (i < M) = false := decide_eq_false (by omega)
          have HI := Lib.hid hi
          have hwd : IntKind.i64.wrap ((0 : Int) + 1) = (0 : Int) + 1 := by rw [IntKind.wrap_i64]; omega
          clear hi
          go_wp2
          go_roundg 1
          case measure => omega
          case rel =>
            have h9 := HN.out
            rw [HI.out, ← HM.out, List.take_length] at h9
            refine ⟨0 + 1, D ++ ns, gl, cl, Ls, gr, cr, Rs, rfl, by omega, h9.side ⟨by simp, by simp, by simp, by simp, by simp⟩, by rw [List.length_append, HM.out]; omega, ?_, ?_⟩
            · intro _
              first
              | exact HCV.out.mono (fun x hx => List.mem_append_right _ hx)
              | exact (HC1.out (by omega)).mono (fun x hx => List.mem_append_left _ hx)
            · intro h
              first
              | exact absurd h (by omega)
              | exact HCV.out.mono (fun x hx => List.mem_append_right _ hx)
        · have hi2 : i < M := by omega
          obtain ⟨y, hy⟩ : ∃ y, ns[i]? = some y := ⟨ns[i]'(by have := HM.out; omega), List.getElem?_eq_getElem _⟩
          have hyb := HNSL.out y (List.mem_of_getElem? hy)
          have hcy := HSN.out.cell (j := i) (u := .int .i64 (y : Int)) (by simp [hy])
          have hri := fun U => run_index_slv (P := Try.prog) ei_int64 (g := some g4) (b := g4) (cap := c4) rfl (j := i) (n := M) hi2 U
          have HTK : Hid (D ++ ns.take (i + 1) = (D ++ ns.take i) ++ [y]) := Lib.hid (by rw [List.take_add_one, hy]; simp)
          have hlt : decide ((i : Int) < (M : Int)) = true := decide_eq_true (by omega)
          have hlt2 : decide (i < M) = true := decide_eq_true hi2
          have hwi : IntKind.i64.wrap ((i : Int) + 1) = (i : Int) + 1 := by rw [IntKind.wrap_i64]; omega
          have c0 := blk_cell HN.out.p (i := 0) rfl
          have c1 := blk_cell HN.out.p (i := 1) rfl
          have cl0 := blk_cell HN.out.l (i := 0) rfl
          have cr0 := blk_cell HN.out.r (i := 0) rfl
          have hDl : Ls.length + Rs.length ≤ 200 := by have := HN.out.len; rw [List.length_append, List.length_take] at this; omega
          clear hy hi
          by_cases hyF : y < F
          · have hb1 : decide ((y : Int) < (F : Int)) = true := decide_eq_true (by omega)
            have hb2 : decide (y < F) = true := decide_eq_true hyF
            go_wp2_with (at_builtin; refine app_lit ei_int64 rfl (.tmp 40) (.tmp 42) rfl (g := gl) (n := Ls.length) (cap := cl) (b := wr.heap.size) (by rfl) (HN.out.sl.ext ((Ext.refl _).alloc _)) (by rfl) (news := [.int .i64 (y : Int)]) rfl (blk_new wr _) (by intro u hu; simp at hu; subst hu; rfl) (by omega) (by omega) ?_)
            intro g' c' w4 hS hT hat
            have HP := Lib.hid (HN.out.putL hyF hS hT hat)
            have hz : w4.frozen? ⟨lb, 0, none⟩ = false := blk_frozen (hT.old (blk_alloc HN.out.l) HN.out.ne.gll) 0
            have hcl := blk_cell (hT.old (blk_alloc (o' := .cells #[.int .i64 (y : Int)] 2) HN.out.l) HN.out.ne.gll) (i := 0) rfl
            have HK : Hid ((w4.setCell ⟨lb, 0, none⟩ (.slice (some ⟨g', 0, none⟩) (Ls.length + 1) c')).heap[g4]? = wr.heap[g4]?) := Lib.hid (HN.out.keepx (((((Ext.refl wr).alloc _).touch _).trans' (hT.mono (fun k _ e => .inr (.inr (.inl e)))) (fun _ _ e => e)).setCell (p := ⟨lb, 0, none⟩) (fun _ => .inl rfl) _))
            clear hS hT hat c0 c1 cl0 cr0 hcy
            go_wp2
            go_roundg (gk - 1)
            case measure => omega
            case rel => exact ⟨i + 1, _, _, _, _, _, _, rfl, by omega, by rw [HTK.out]; exact HP.out, HSN.out.congr fun b hb => by cases hb; exact HK.out⟩
          · have hb1 : decide ((y : Int) < (F : Int)) = false := decide_eq_false (by omega)
            have hb2 : decide (y < F) = false := decide_eq_false hyF
            by_cases hyT : T ≤ y
            · have hb3 : decide ((T : Int) ≤ (y : Int)) = true := decide_eq_true (by omega)
              have hb4 : decide (T ≤ y) = true := decide_eq_true hyT
              go_wp2_with (at_builtin; refine app_lit ei_int64 rfl (.tmp 49) (.tmp 51) rfl (g := gr) (n := Rs.length) (cap := cr) (b := wr.heap.size) (by rfl) (HN.out.sr.ext ((Ext.refl _).alloc _)) (by rfl) (news := [.int .i64 (y : Int)]) rfl (blk_new wr _) (by intro u hu; simp at hu; subst hu; rfl) (by omega) (by omega) ?_)
              intro g' c' w4 hS hT hat
              have HP := Lib.hid (HN.out.putR hyT hyb hS hT hat)
              have hz : w4.frozen? ⟨rb, 0, none⟩ = false := blk_frozen (hT.old (blk_alloc HN.out.r) HN.out.ne.grr) 0
              have hcl := blk_cell (hT.old (blk_alloc (o' := .cells #[.int .i64 (y : Int)] 2) HN.out.r) HN.out.ne.grr) (i := 0) rfl
              have HK : Hid ((w4.setCell ⟨rb, 0, none⟩ (.slice (some ⟨g', 0, none⟩) (Rs.length + 1) c')).heap[g4]? = wr.heap[g4]?) := Lib.hid (HN.out.keepx (((((Ext.refl wr).alloc _).touch _).trans' (hT.mono (fun k _ e => .inr (.inr (.inr e)))) (fun _ _ e => e)).setCell (p := ⟨rb, 0, none⟩) (fun _ => .inr (.inl rfl)) _))
              clear hS hT hat c0 c1 cl0 cr0 hcy
              go_wp2
              go_roundg (gk - 1)
              case measure => omega
              case rel => exact ⟨i + 1, _, _, _, _, _, _, rfl, by omega, by rw [HTK.out]; exact HP.out, HSN.out.congr fun b hb => by cases hb; exact HK.out⟩
            · have hb3 : decide ((T : Int) ≤ (y : Int)) = false := decide_eq_false (by omega)
              have hb4 : decide (T ≤ y) = false := decide_eq_false hyT
              have HP := Lib.hid (HN.out.seen (y := y) (by omega) (by omega))
              go_wp2
              go_roundg (gk - 1)
              case measure => omega
              case rel => exact ⟨i + 1, _, _, _, _, _, _, rfl, by omega, by rw [HTK.out]; exact HP.out, HSN.out⟩
    · have hix := fun x y U => arr1 x y U
      have c0 := blk_cell HNS.out.p (i := 0) rfl
      have c1 := blk_cell HNS.out.p (i := 1) rfl
      go_wp2_with fail
      refine (way_ok v _ (by omega)).mono ?_
      rintro e w2 ⟨g3, c3, out, rfl, hS3, hg3, hE2, hl3, ha3, hw3⟩
      have HS3 := Lib.hid hS3; have HG3 := Lib.hid hg3; have HE2 := Lib.hid hE2; have HA3 := Lib.hid ha3; have HW3 := Lib.hid hw3
      clear hS3 hg3 hE2 ha3 hw3 c0 c1
      go_wp2_with (at_builtin; refine app_lit ei_int64 rfl (.tmp 27) (.tmp 28) rfl (g := g3) (n := out.length) (cap := c3) (b := w2.heap.size) (by rfl) (HS3.out.ext ((Ext.refl _).alloc _)) (by rfl) (news := [.int .i64 0]) rfl (blk_new w2 _) (by intro u hu; simp at hu; subst hu; rfl) (by omega) (by omega) ?_)
      intro g4 c4 w3 hS4 hT4 hat4
      have HX : Hid (Ext wr w3 ∧ wr.heap.size ≤ g4) := Lib.hid ⟨Touch.ext ((((HE2.out.alloc _).touch _).trans' hT4 (fun i hi h => h))) (fun i hi e => by have := HG3.out i e; omega), by
        have := HE2.out.size
        rcases hat4 with h | h
        · exact HG3.out _ h
        · omega⟩
      have HS4 := Lib.hid (way_list hS4)
      have HN3 := Lib.hid (HNS.out.fresh HX.out.1 HX.out.2 hS4.block_lt)
      have HNSL : Hid (∀ y ∈ out ++ [0], y ≤ 1099511627776) := Lib.hid (by
        intro y hy
        rcases List.mem_append.1 hy with hy | hy
        · exact HA3.out y hy
        · simp at hy; omega)
      have HCV : Hid (Covers (out ++ [0]) v) := Lib.hid ⟨by simp, fun k b h1 h2 h3 => List.mem_append_left _ (HW3.out k b h1 h2 h3)⟩
      have hml : (out ++ [0]).length ≤ 60 := by simp; omega
      obtain ⟨M, hM⟩ : ∃ M, out.length + 1 = M := ⟨_, rfl⟩
      have HM : Hid ((out ++ [0]).length = M) := Lib.hid (by simp; omega)
      have hM60 : M ≤ 60 := by omega
      clear hS4 hT4 hat4 HNS HX
      rw [hM]
      have HMM := Lib.hid hM
      clear hM hml hl3
      go_wp2
      generalize hns : out ++ [0] = ns at *
      clear hns
      go_loopg [31] M (fun k v31 wz => ∃ (i : Nat) (gl : Option Nat) (cl : Nat) (Ls : List Int) (gr : Option Nat) (cr : Nat) (Rs : List Int), v31 = .int .i64 (i : Int) ∧ i + k = M ∧ NS w F T lb rb pb (some g4) wz (D ++ ns.take i) gl cl Ls gr cr Rs ∧ Sl wz 2 1 (some g4) ns.length c4 (ns.map fun x : Nat => Value.int .i64 (x : Int)))
      case atStart => exact ⟨0, _, _, _, _, _, _, rfl, by omega, by rw [List.take_zero, List.append_nil]; exact HN3.out, HS4.out⟩
      case round =>
        obtain ⟨i, gl, cl, Ls, gr, cr, Rs, rfl, hik, hN, hSn⟩ := hrel
        have HN := Lib.hid hN; have HSN := Lib.hid hSn
        clear HN3 HS4 hN hSn HS3 HG3 HE2 HA3 HW3
        by_cases hi : i = M
        · have hlt : decide ((i : Int) < (M : Int)) = false := decide_eq_false (by omega)
          have hlt2 : decide (i < M) = false := decide_eq_false (by omega)
          have HI := Lib.hid hi
          have hwd : IntKind.i64.wrap ((1 : Int) + 1) = (1 : Int) + 1 := by rw [IntKind.wrap_i64]; omega
          clear hi
          go_wp2
          go_roundg 0
          case measure => omega
          case rel =>
            have h9 := HN.out
            rw [HI.out, ← HM.out, List.take_length] at h9
            refine ⟨1 + 1, D ++ ns, gl, cl, Ls, gr, cr, Rs, rfl, by omega, h9.side ⟨by simp, by simp, by simp, by simp, by simp⟩, by rw [List.length_append, HM.out]; omega, ?_, ?_⟩
            · intro _
              first
              | exact HCV.out.mono (fun x hx => List.mem_append_right _ hx)
              | exact (HC1.out (by omega)).mono (fun x hx => List.mem_append_left _ hx)
            · intro h
              first
              | exact absurd h (by omega)
              | exact HCV.out.mono (fun x hx => List.mem_append_right _ hx)
        · have hi2 : i < M := by omega
          obtain ⟨y, hy⟩ : ∃ y, ns[i]? = some y := ⟨ns[i]'(by have := HM.out; omega), List.getElem?_eq_getElem _⟩
          have hyb := HNSL.out y (List.mem_of_getElem? hy)
          have hcy := HSN.out.cell (j := i) (u := .int .i64 (y : Int)) (by simp [hy])
          have hri := fun U => run_index_slv (P := Try.prog) ei_int64 (g := some g4) (b := g4) (cap := c4) rfl (j := i) (n := M) hi2 U
          have HTK : Hid (D ++ ns.take (i + 1) = (D ++ ns.take i) ++ [y]) := Lib.hid (by rw [List.take_add_one, hy]; simp)
          have hlt : decide ((i : Int) < (M : Int)) = true := decide_eq_true (by omega)
          have hlt2 : decide (i < M) = true := decide_eq_true hi2
          have hwi : IntKind.i64.wrap ((i : Int) + 1) = (i : Int) + 1 := by rw [IntKind.wrap_i64]; omega
          have c0 := blk_cell HN.out.p (i := 0) rfl
          have c1 := blk_cell HN.out.p (i := 1) rfl
          have cl0 := blk_cell HN.out.l (i := 0) rfl
          have cr0 := blk_cell HN.out.r (i := 0) rfl
          have hDl : Ls.length + Rs.length ≤ 200 := by have := HN.out.len; rw [List.length_append, List.length_take] at this; omega
          clear hy hi
          by_cases hyF : y < F
          · have hb1 : decide ((y : Int) < (F : Int)) = true := decide_eq_true (by omega)
            have hb2 : decide (y < F) = true := decide_eq_true hyF
            go_wp2_with (at_builtin; refine app_lit ei_int64 rfl (.tmp 40) (.tmp 42) rfl (g := gl) (n := Ls.length) (cap := cl) (b := wr.heap.size) (by rfl) (HN.out.sl.ext ((Ext.refl _).alloc _)) (by rfl) (news := [.int .i64 (y : Int)]) rfl (blk_new wr _) (by intro u hu; simp at hu; subst hu; rfl) (by omega) (by omega) ?_)
            intro g' c' w4 hS hT hat
            have HP := Lib.hid (HN.out.putL hyF hS hT hat)
            have hz : w4.frozen? ⟨lb, 0, none⟩ = false := blk_frozen (hT.old (blk_alloc HN.out.l) HN.out.ne.gll) 0
            have hcl := blk_cell (hT.old (blk_alloc (o' := .cells #[.int .i64 (y : Int)] 2) HN.out.l) HN.out.ne.gll) (i := 0) rfl
            have HK : Hid ((w4.setCell ⟨lb, 0, none⟩ (.slice (some ⟨g', 0, none⟩) (Ls.length + 1) c')).heap[g4]? = wr.heap[g4]?) := Lib.hid (HN.out.keepx (((((Ext.refl wr).alloc _).touch _).trans' (hT.mono (fun k _ e => .inr (.inr (.inl e)))) (fun _ _ e => e)).setCell (p := ⟨lb, 0, none⟩) (fun _ => .inl rfl) _))
            clear hS hT hat c0 c1 cl0 cr0 hcy
            go_wp2
            go_roundg (gk - 1)
            case measure => omega
            case rel => exact ⟨i + 1, _, _, _, _, _, _, rfl, by omega, by rw [HTK.out]; exact HP.out, HSN.out.congr fun b hb => by cases hb; exact HK.out⟩
          · have hb1 : decide ((y : Int) < (F : Int)) = false := decide_eq_false (by omega)
            have hb2 : decide (y < F) = false := decide_eq_false hyF
            by_cases hyT : T ≤ y
            · have hb3 : decide ((T : Int) ≤ (y : Int)) = true := decide_eq_true (by omega)
              have hb4 : decide (T ≤ y) = true := decide_eq_true hyT
              go_wp2_with (at_builtin; refine app_lit ei_int64 rfl (.tmp 49) (.tmp 51) rfl (g := gr) (n := Rs.length) (cap := cr) (b := wr.heap.size) (by rfl) (HN.out.sr.ext ((Ext.refl _).alloc _)) (by rfl) (news := [.int .i64 (y : Int)]) rfl (blk_new wr _) (by intro u hu; simp at hu; subst hu; rfl) (by omega) (by omega) ?_)
              intro g' c' w4 hS hT hat
              have HP := Lib.hid (HN.out.putR hyT hyb hS hT hat)
              have hz : w4.frozen? ⟨rb, 0, none⟩ = false := blk_frozen (hT.old (blk_alloc HN.out.r) HN.out.ne.grr) 0
              have hcl := blk_cell (hT.old (blk_alloc (o' := .cells #[.int .i64 (y : Int)] 2) HN.out.r) HN.out.ne.grr) (i := 0) rfl
              have HK : Hid ((w4.setCell ⟨rb, 0, none⟩ (.slice (some ⟨g', 0, none⟩) (Rs.length + 1) c')).heap[g4]? = wr.heap[g4]?) := Lib.hid (HN.out.keepx (((((Ext.refl wr).alloc _).touch _).trans' (hT.mono (fun k _ e => .inr (.inr (.inr e)))) (fun _ _ e => e)).setCell (p := ⟨rb, 0, none⟩) (fun _ => .inr (.inl rfl)) _))
              clear hS hT hat c0 c1 cl0 cr0 hcy
              go_wp2
              go_roundg (gk - 1)
              case measure => omega
              case rel => exact ⟨i + 1, _, _, _, _, _, _, rfl, by omega, by rw [HTK.out]; exact HP.out, HSN.out.congr fun b hb => by cases hb; exact HK.out⟩
            · have hb3 : decide ((T : Int) ≤ (y : Int)) = false := decide_eq_false (by omega)
              have hb4 : decide (T ≤ y) = false := decide_eq_false hyT
              have HP := Lib.hid (HN.out.seen (y := y) (by omega) (by omega))
              go_wp2
              go_roundg (gk - 1)
              case measure => omega
              case rel => exact ⟨i + 1, _, _, _, _, _, _, rfl, by omega, by rw [HTK.out]; exact HP.out, HSN.out⟩
end Go.Proofs.Ytkejjahlglldlaa
