/- btree.Put: walked. -/
import Derived.Test.YtkejjahlglldlaaBt9
import Derived.Test.YtkejjahlglldlaaBt5
namespace Go.Proofs.Ytkejjahlglldlaa
open Go.RowKit Go.Lib

theorem PI.start {w W : World} {tb m : Nat} {key : List UInt8} {v : Int} {L0 : List Ent} {bs0 bs' : List Nat} {rb H n : Nat} {es : List Ent} {ks : List Kid} {gk gv gc : Option Nat} {ck cv cc : Nat} (hE : Ext w W) (hT : TreeAt w tb m L0 bs0)
    (hB : W.heap[tb]? = some (.cells #[.int .i64 (m : Int), .pointer (some ⟨rb, 0, none⟩), .int .i64 (L0.length : Int)] 84 (0, 0))) (hlo : (if H = 0 then 0 else 1) ≤ n) (hbs : bs0 = tb :: bs')
    (hN : NodeAt W rb es (ks.map Kid.b) gk gv gc ck cv cc) (hn : n = es.length) (hL : L0 = inter (ks.map Kid.L) es) (hb : bs' = ownL rb gk gv gc ++ ks.flatMap Kid.bs) (hok : KidsOk W m H ks es.length) (hroom : es.length + 2 ≤ 2 * m) :
    PI w tb m key v L0 bs0 W rb H (if H = 0 then 0 else 1) H rb (if H = 0 then 0 else 1) [] [] [] es ks gk gv gc ck cv cc ∧ Ready m key H es ks (2 * H + 1) := by
  have hperm : (tb :: (ownL rb gk gv gc ++ ks.flatMap Kid.bs)).Perm (ownL rb gk gv gc ++ (tb :: ([] ++ ks.flatMap Kid.bs))) := by
    rw [List.perm_iff_count]
    intro a
    simp only [List.count_append, List.count_cons, List.count_nil]
    omega
  have hbs2 : bs0 = tb :: (ownL rb gk gv gc ++ ks.flatMap Kid.bs) := by rw [hbs, hb]
  refine ⟨⟨hB, hN, hok, Hole.root _ _ _ _ _, Nat.le_refl _, by rw [← hn]; exact hlo, by omega, hperm.nodup_iff.1 (hbs2 ▸ hT.nodup), by simp, fun x hx => .inl (by rw [hbs2]; exact hperm.symm.subset hx), ?_, ?_, ?_, hT.srt, hE.touch _, hT.lo, hT.hi⟩, .inl ⟨hroom, rfl⟩⟩
  · rw [← hL]; simp
  · rw [← hL]
  · rw [← hL]; exact hT.srt

theorem PI.grow {w W W' : World} {tb m : Nat} {key : List UInt8} {v : Int} {L0 : List Ent} {bs0 bs' : List Nat} {rb nb g H n : Nat} {es' : List Ent} {ks' : List Kid} {gk' gv' gc' : Option Nat} {ck' cv' cc' : Nat} {em : Ent} {k1 k2 : Kid}
    (hT : TreeAt w tb m L0 bs0) (hTo : Touch (fun k => k = tb) w W) (hB : W.heap[tb]? = some (.cells #[.int .i64 (m : Int), .pointer (some ⟨nb, 0, none⟩), .int .i64 (L0.length : Int)] 84 (0, 0))) (hbs : bs0 = tb :: bs')
    (hnb : w.heap.size ≤ nb) (hg : w.heap.size ≤ g) (hlt : ∀ x ∈ ownL nb none none (some g) ++ [(⟨rb, n, L0, bs'⟩ : Kid)].flatMap Kid.bs, x ≠ tb)
    (hC : Cut2 W W' m H nb 0 [] [⟨rb, n, L0, bs'⟩] (ownL nb none none (some g) ++ [(⟨rb, n, L0, bs'⟩ : Kid)].flatMap Kid.bs) [tb] es' ks' gk' gv' gc' ck' cv' cc' em k1 k2) :
    PI w tb m key v L0 bs0 W' nb (H + 1) 1 (H + 1) nb 1 [] [] [] es' ks' gk' gv' gc' ck' cv' cc' ∧ Ready m key (H + 1) es' ks' (2 * (H + 1) + 1) := by
  have hlen : es'.length = 1 := by rw [hC.ees]; simp
  have hm := hT.lo
  have hsz := hTo.size
  have hinter : inter (ks'.map Kid.L) es' = L0 := by rw [hC.L]; rfl
  have htl : tb < W.heap.size := blk_lt hB
  refine ⟨⟨?_, hC.node, hC.ok, Hole.root _ _ _ _ _, by simp, by omega, by omega, ?_, by simp, fun x hx => ?_, by rw [hinter]; simp, by rw [hinter], by rw [hinter]; exact hT.srt, hT.srt, ?_, hT.lo, hT.hi⟩, .inl ⟨by omega, rfl⟩⟩
  · rw [hC.touch.block tb htl (fun hh => hlt tb hh rfl)]; exact hB
  · refine (List.Perm.nodup_iff ?_).1 hC.nodup
    rw [List.perm_iff_count]
    intro a
    simp only [List.count_append, List.count_cons, List.count_nil]
    omega
  · have hx' : x = tb ∨ x ∈ ownL nb gk' gv' gc' ++ ks'.flatMap Kid.bs := by
      simp only [List.mem_append, List.mem_cons, List.nil_append] at hx ⊢
      rcases hx with hx | hx | hx
      · exact .inr (.inl hx)
      · exact .inl hx
      · exact .inr (.inr hx)
    rcases hx' with rfl | hx'
    · exact .inl (by simp [hbs])
    · rcases hC.sub x hx' with h | h
      · simp only [ownL, Option.toList_none, Option.toList_some, List.nil_append, List.mem_append, List.mem_cons, List.not_mem_nil, or_false, List.flatMap_cons, List.flatMap_nil, List.append_nil] at h
        rcases h with (rfl | rfl) | h
        · exact .inr hnb
        · exact .inr hg
        · exact .inl (by rw [hbs]; exact List.mem_cons_of_mem _ h)
      · exact .inr (by omega)
  · refine (hTo.mono fun k _ h => by rw [h, hbs]; simp).trans' hC.touch fun k hk h => ?_
    simp only [ownL, Option.toList_none, Option.toList_some, List.nil_append, List.mem_append, List.mem_cons, List.not_mem_nil, or_false, List.flatMap_cons, List.flatMap_nil, List.append_nil] at h
    rcases h with (rfl | rfl) | h
    · omega
    · omega
    · rw [hbs]; exact List.mem_cons_of_mem _ h

theorem PI.ext {w0 wr W : World} {tb m : Nat} {key : List UInt8} {v : Int} {L0 : List Ent} {bs0 : List Nat} {rb H loR h nb lo : Nat} {F : List Nat} {A B es : List Ent} {ks : List Kid} {gk gv gc : Option Nat} {ck cv cc : Nat}
    (hI : PI w0 tb m key v L0 bs0 wr rb H loR h nb lo F A B es ks gk gv gc ck cv cc) (hE : Ext wr W) : PI w0 tb m key v L0 bs0 W rb H loR h nb lo F A B es ks gk gv gc ck cv cc :=
  have hk : ∀ y, y < wr.heap.size → W.heap[y]? = wr.heap[y]? := fun y hy => Below.block hE y hy
  ⟨Ext.block hE hI.tree, hI.node.congr fun k h => hk k (hI.node.lt k h), hI.ok.congr fun x hx b hb => hk b (hI.ok.lt b (List.mem_flatMap.2 ⟨x, hx, hb⟩)), hI.hole.congr fun x hx => hk x (hI.flt x hx), hI.loR, hI.lo, hI.hi, hI.nodup,
    fun x hx => Nat.lt_of_lt_of_le (hI.flt x hx) hE.size, hI.sub, hI.insE, hI.hasE, hI.srt, hI.srt0, hI.touch.trans (hE.touch _), hI.m2, hI.m64⟩
theorem PI.nd {w0 wr : World} {tb m : Nat} {key : List UInt8} {v : Int} {L0 : List Ent} {bs0 : List Nat} {rb H loR h nb lo : Nat} {F : List Nat} {A B es : List Ent} {ks : List Kid} {gk gv gc : Option Nat} {ck cv cc : Nat}
    (hI : PI w0 tb m key v L0 bs0 wr rb H loR h nb lo F A B es ks gk gv gc ck cv cc) : nb ≠ tb ∧ gk ≠ some nb ∧ gv ≠ some nb ∧ gk ≠ some tb ∧ gv ≠ some tb ∧ (∀ x, gk = some x → gv ≠ some x) := by
  obtain ⟨nd1, nd2, nd3⟩ := List.nodup_append.1 hI.nodup
  obtain ⟨n1, n2⟩ := List.nodup_cons.1 nd1
  simp only [List.mem_append, Option.mem_toList, not_or] at n1
  refine ⟨nd3 nb (by simp) tb (by simp), n1.1, n1.2.1, fun e => nd3 tb (by simp [e]) tb (by simp) rfl, fun e => nd3 tb (by simp [e]) tb (by simp) rfl, fun x hx e => ?_⟩
  exact (List.nodup_append.1 n2).2.2 x (by simp [hx]) x (by simp [e]) rfl

theorem PI.kid_nd {w0 wr : World} {tb m : Nat} {key : List UInt8} {v : Int} {L0 : List Ent} {bs0 : List Nat} {rb H loR h nb lo : Nat} {F : List Nat} {A B es : List Ent} {ks : List Kid} {gk gv gc hk hv hc : Option Nat} {ck cv cc : Nat}
    (hI : PI w0 tb m key v L0 bs0 wr rb H loR h nb lo F A B es ks gk gv gc ck cv cc) {k : Kid} {rest : List Nat} (hk0 : k ∈ ks) (hbs : k.bs = ownL k.b hk hv hc ++ rest) : (ownL nb gk gv gc ++ ownL k.b hk hv hc).Nodup := by
  obtain ⟨nd1, nd2, nd3⟩ := List.nodup_append.1 hI.nodup
  have h1 := (List.nodup_append.1 (List.nodup_cons.1 nd2).2).2.1
  have hsub : ∀ x ∈ ownL k.b hk hv hc, x ∈ ks.flatMap Kid.bs := fun x hx => List.mem_flatMap.2 ⟨k, hk0, by rw [hbs]; exact List.mem_append_left _ hx⟩
  refine List.nodup_append.2 ⟨nd1, ?_, fun a ha b hb => nd3 a ha b (List.mem_cons_of_mem _ (List.mem_append_right _ (hsub b hb)))⟩
  obtain ⟨i, hi, rfl⟩ := List.getElem_of_mem hk0
  have h2 := list_at (List.getElem?_eq_getElem hi)
  rw [h2, List.flatMap_append, List.flatMap_cons, hbs] at h1
  exact (List.nodup_append.1 (List.nodup_append.1 (List.nodup_append.1 h1).2.1).1).1

/-- The tree with a new root above the old one. -/
structure GrowAt (w W1 W2 : World) (tb m rb H n : Nat) (L0 : List Ent) (bs0 bs' : List Nat) (es : List Ent) (ks : List Kid) (gk gv gc : Option Nat) (ck cv cc : Nat) : Prop where
  touch : Touch (fun k => k = tb) w W2
  tree : W2.heap[tb]? = some (.cells #[.int .i64 (m : Int), .pointer (some ⟨W1.heap.size + 1, 0, none⟩), .int .i64 (L0.length : Int)] 84 (0, 0))
  node : NodeAt W2 (W1.heap.size + 1) [] [rb] none none (some W1.heap.size) 0 0 1
  rep : Rep W2 m H ⟨rb, n, L0, bs'⟩
  kid : NodeAt W2 rb es (ks.map Kid.b) gk gv gc ck cv cc
  keep : ∀ x ∈ bs', W2.heap[x]? = w.heap[x]?
  nd : ([tb] ++ (ownL (W1.heap.size + 1) none none (some W1.heap.size) ++ [(⟨rb, n, L0, bs'⟩ : Kid)].flatMap Kid.bs)).Nodup
  nd2 : (ownL (W1.heap.size + 1) none none (some W1.heap.size) ++ ownL rb gk gv gc).Nodup
  size : w.heap.size ≤ W1.heap.size
theorem grow_at {w W1 : World} {tb m rb H n : Nat} {L0 : List Ent} {bs0 bs' : List Nat} {es : List Ent} {ks : List Kid} {gk gv gc : Option Nat} {ck cv cc : Nat} (hE : Ext w W1) (hT : TreeAt w tb m L0 bs0)
    (hB : w.heap[tb]? = some (.cells #[.int .i64 (m : Int), .pointer (some ⟨rb, 0, none⟩), .int .i64 (L0.length : Int)] 84 (0, 0))) (hbs : bs0 = tb :: bs') (hr : Rep w m H ⟨rb, n, L0, bs'⟩)
    (hN : NodeAt w rb es (ks.map Kid.b) gk gv gc ck cv cc) (hb : bs' = ownL rb gk gv gc ++ ks.flatMap Kid.bs) :
    GrowAt w W1 (((W1.setCell ⟨tb, 1, none⟩ (.pointer (some ⟨W1.heap.size + 1, 0, none⟩))).alloc (.cells #[.pointer (some ⟨rb, 0, none⟩)] 78)).alloc (.cells #[slv none 0 0, slv none 0 0, slv (some W1.heap.size) 1 1] 82)) tb m rb H n L0 bs0 bs' es ks gk gv gc ck cv cc := by
  have hsz := hE.size
  have htl : tb < w.heap.size := blk_lt hB
  have hTo : Touch (fun k => k = tb) w (((W1.setCell ⟨tb, 1, none⟩ (.pointer (some ⟨W1.heap.size + 1, 0, none⟩))).alloc (.cells #[.pointer (some ⟨rb, 0, none⟩)] 78)).alloc (.cells #[slv none 0 0, slv none 0 0, slv (some W1.heap.size) 1 1] 82)) :=
    ((Touch.setCell (S := fun k => k = tb) (hE.touch _) (p := ⟨tb, 1, none⟩) (fun _ => rfl) (.pointer (some ⟨W1.heap.size + 1, 0, none⟩))).alloc _).alloc _
  have hus : (W1.setCell ⟨tb, 1, none⟩ (.pointer (some ⟨W1.heap.size + 1, 0, none⟩))).heap.size = W1.heap.size := by simp [World.setCell]
  have hnd0 := hT.nodup
  rw [hbs] at hnd0
  obtain ⟨h1, h2⟩ := List.nodup_cons.1 hnd0
  have hlt : ∀ x ∈ bs', x < w.heap.size := hr.lt
  have hkeep : ∀ x ∈ bs', (((W1.setCell ⟨tb, 1, none⟩ (.pointer (some ⟨W1.heap.size + 1, 0, none⟩))).alloc (.cells #[.pointer (some ⟨rb, 0, none⟩)] 78)).alloc (.cells #[slv none 0 0, slv none 0 0, slv (some W1.heap.size) 1 1] 82)).heap[x]? = w.heap[x]? :=
    fun x hx => hTo.block x (hlt x hx) (fun e => h1 (e ▸ hx))
  have hown : ∀ x ∈ ownL rb gk gv gc, x ∈ bs' := fun x hx => by rw [hb]; exact List.mem_append_left _ hx
  have hn1 : (((W1.setCell ⟨tb, 1, none⟩ (.pointer (some ⟨W1.heap.size + 1, 0, none⟩))).alloc (.cells #[.pointer (some ⟨rb, 0, none⟩)] 78)).alloc (.cells #[slv none 0 0, slv none 0 0, slv (some W1.heap.size) 1 1] 82)).heap[W1.heap.size + 1]? = some (.cells #[slv none 0 0, slv none 0 0, slv (some W1.heap.size) 1 1] 82 (0, 0)) := by
    have := blk_new ((W1.setCell ⟨tb, 1, none⟩ (.pointer (some ⟨W1.heap.size + 1, 0, none⟩))).alloc (.cells #[.pointer (some ⟨rb, 0, none⟩)] 78)) (.cells #[slv none 0 0, slv none 0 0, slv (some W1.heap.size) 1 1] 82)
    rwa [World.size_alloc, hus] at this
  have hn0 : (((W1.setCell ⟨tb, 1, none⟩ (.pointer (some ⟨W1.heap.size + 1, 0, none⟩))).alloc (.cells #[.pointer (some ⟨rb, 0, none⟩)] 78)).alloc (.cells #[slv none 0 0, slv none 0 0, slv (some W1.heap.size) 1 1] 82)).heap[W1.heap.size]? = some (.cells #[.pointer (some ⟨rb, 0, none⟩)] 78 (0, 0)) := by
    have := blk_new (W1.setCell ⟨tb, 1, none⟩ (.pointer (some ⟨W1.heap.size + 1, 0, none⟩))) (.cells #[.pointer (some ⟨rb, 0, none⟩)] 78)
    rw [hus] at this
    exact blk_alloc this
  refine ⟨hTo, blk_alloc (blk_alloc (blk_set (Ext.block hE hB) 1 _)), ⟨hn1, Sl.nil _ _ _, Sl.nil _ _ _, ?_⟩, hr.congr hkeep, hN.congr fun k hk => hkeep k (hown k hk), hkeep, ?_, ?_, hsz⟩
  · refine ⟨rfl, #[.pointer (some ⟨rb, 0, none⟩)], hn0, Nat.le_refl _, by simp [maxLen], rfl, rfl⟩
  · simp only [ownL, Option.toList_none, Option.toList_some, List.nil_append, List.flatMap_cons, List.flatMap_nil, List.append_nil, List.cons_append, List.nodup_cons, List.mem_cons, not_or]
    exact ⟨⟨by omega, by omega, h1⟩, ⟨by omega, fun h => by have := hlt _ h; omega⟩, fun h => by have := hlt _ h; omega, h2⟩
  · have h3 : (ownL rb gk gv gc).Nodup := (List.nodup_append.1 (hb ▸ h2)).1
    refine List.nodup_append.2 ⟨by simp, h3, fun a ha b hb' e => ?_⟩
    have := hlt b (hown b hb')
    simp at ha
    omega
set_option maxRecDepth 100000 in
set_option maxHeartbeats 16000000 in
theorem BtPut_ok (tb m : Nat) (L0 : List Ent) (bs0 : List Nat) (key : List UInt8) (v : Int) (w : World) (hT : TreeAt w tb m L0 bs0) (hlen : L0.length ≤ 1000000000) :
    Calls Try.prog 7 #[.pointer (some ⟨tb, 0, none⟩), str key, .int .i64 v] w (PutPost tb m key v L0 bs0 w) := by
  have HT := Lib.hid hT
  have hm2 := hT.lo
  have hm64 := hT.hi
  obtain ⟨rb, H, n, bs', hB, hr, hlo, hhi, hbs⟩ := hT.ex
  obtain ⟨es, ks, gk, gv, gc, ck, cv, cc, h1, h2, h3, h4, h5⟩ := hr.open
  simp only at h1 h2 h3 h4
  have HB := Lib.hid hB; have HR := Lib.hid hr; have HN := Lib.hid h1; have HL := Lib.hid h3; have HBS := Lib.hid h4; have HOK := Lib.hid h5; have HBS0 := Lib.hid hbs; have HLO := Lib.hid hlo; have HE := Lib.hid h2
  obtain ⟨t0, t1, t2⟩ := blk3 hB
  obtain ⟨n0, n1, n2⟩ := blk3 h1.blk
  have hnl : es.length ≤ 127 := by omega
  clear hB hr h1 h2 h3 h4 h5 hbs hT hlo
  by_cases hfull : es.length + 1 = 2 * m
  · have hf : ((es.length : Int) == 2 * (m : Int) - 1) = true := by simp; omega
    have HFU := Lib.hid hfull; clear hfull
    go_enter Try.func7, Try.ntmps7
    go_wp2
    refine region_calm [.p 0, .p 1, .p 2, .l 3, .p 4, .p 5, .l 6, .p 7, .p 8, .p 9, .p 10, .l 11, .h 12 true, .p 13] f_mixed (by kernel_rfl) (by kernel_rfl) ?_
    repeat (first | (refine plan_p rfl (fun K hK => ?_); go_simp; refine hK _ ?_; clear hK K) | (refine plan_l rfl (fun K hK => ?_); go_simp; refine hK _ ?_; clear hK K))
    refine plan_ct rfl rfl (fun K _ hK => ?_)
    go_wp2_with fail
    refine (most_ok m hm64 w.drew).mono ?_
    rintro e W1 ⟨rfl, hE1⟩
    go_wp2
    refine hK _ _ (hE1) ?_; clear hK K
    repeat (first | (refine plan_p rfl (fun K hK => ?_); go_simp; refine hK _ ?_; clear hK K) | (refine plan_l rfl (fun K hK => ?_); go_simp; refine hK _ ?_; clear hK K))
    refine plan_done ?_
    have hE : Ext w W1 := (Ext.refl w).drew.trans hE1
    clear t0 t1 t2 n0 n1 n2
    have HB1 := Lib.hid (Ext.block hE HB.out)
    obtain ⟨t0, t1, t2⟩ := blk3 HB1.out
    have hz := blk_frozen HB1.out 1
    have htl : tb < W1.heap.size := blk_lt HB1.out
    have hgr : Hid (GrowAt w W1 (((W1.setCell ⟨tb, 1, none⟩ (.pointer (some ⟨W1.heap.size + 1, 0, none⟩))).alloc (.cells #[.pointer (some ⟨rb, 0, none⟩)] 78)).alloc (.cells #[slv none 0 0, slv none 0 0, slv (some W1.heap.size) 1 1] 82)) tb m rb H n L0 bs0 bs' es ks gk gv gc ck cv cc) :=
      grow_at hE HT.out HB.out HBS0.out HR.out HN.out HBS.out
    go_wp2_with fail
    obtain ⟨W2, hW2⟩ : ∃ W2, (((W1.setCell ⟨tb, 1, none⟩ (.pointer (some ⟨W1.heap.size + 1, 0, none⟩))).alloc (.cells #[.pointer (some ⟨rb, 0, none⟩)] 78)).alloc (.cells #[slv none 0 0, slv none 0 0, slv (some W1.heap.size) 1 1] 82)) = W2 := ⟨_, rfl⟩
    rw [hW2] at hgr
    show Calls _ _ #[.pointer (some ⟨tb, 0, none⟩), .pointer (some ⟨W1.heap.size + 1, 0, none⟩), .int .i64 ((0 : Nat) : Int)] (((W1.setCell ⟨tb, 1, none⟩ (.pointer (some ⟨W1.heap.size + 1, 0, none⟩))).alloc (.cells #[.pointer (some ⟨rb, 0, none⟩)] 78)).alloc (.cells #[slv none 0 0, slv none 0 0, slv (some W1.heap.size) 1 1] 82)) _
    rw [hW2]
    refine (split_ok tb (W1.heap.size + 1) rb m 0 _ _ [] es [rb] (ks.map Kid.b) none none (some W1.heap.size) 0 0 1 gk gv gc ck cv cc W2 hgr.out.tree hgr.out.node hgr.out.kid rfl (Nat.le_refl _) hm2 hm64 HFU.out ?_ (by simp) rfl hgr.out.nd2).mono ?_
    · cases H with
      | zero => exact .inl (by have : ks = [] := HOK.out; rw [this]; rfl)
      | succ H => exact .inr (by rw [List.length_map, HOK.out.1]; exact HFU.out)
    rintro e W3 hP
    have hrep := hgr.out.rep
    obtain ⟨⟨v', rfl⟩, es', ks', gk', gv', gc', ck', cv', cc', em, k1, k2, hC⟩ := cut2_of (h := H) (ks := [⟨rb, n, L0, bs'⟩]) (k := ⟨rb, n, L0, bs'⟩) (F := [tb]) hm2 hgr.out.node ⟨rfl, fun x hx => by
        simp at hx; subst hx
        exact ⟨hrep, by show m ≤ n + 1; have := HE.out; have := HFU.out; omega, hhi⟩⟩ rfl (Nat.le_refl _) hgr.out.kid HE.out HL.out HBS.out
      (HOK.out.congr fun x hx b hb => hgr.out.keep b (by rw [HBS.out]; exact List.mem_append_right _ (List.mem_flatMap.2 ⟨x, hx, hb⟩))) HFU.out (fun x hx => by simp at hx; subst hx; exact blk_lt hgr.out.tree) hgr.out.nd hP
    have hpi := Lib.hid (PI.grow (key := key) (v := v) HT.out hgr.out.touch hgr.out.tree HBS0.out (by have := hgr.out.size; omega) hgr.out.size (fun x hx e => by
      have := (List.nodup_cons.1 hgr.out.nd).1
      exact this (e ▸ hx)) hC)
    obtain ⟨q0, q1, q2⟩ := blk3 hpi.out.1.tree
    clear hP hC hrep hgr hW2 t0 t1 t2 hz hf hnl hhi HR HN HL HBS HOK HBS0 HLO HE HB HFU
    go_wp2
    have HP := hpi
    go_loopg [7] (2*(H+1)+1) (fun k v7 wr => ∃ (rb H loR h nb lo : Nat) (F : List Nat) (A B es : List Ent) (ks : List Kid) (gk gv gc : Option Nat) (ck cv cc : Nat), v7 = .pointer (some ⟨nb, 0, none⟩) ∧ PI w tb m key v L0 bs0 wr rb H loR h nb lo F A B es ks gk gv gc ck cv cc ∧ Ready m key h es ks k)
    case atStart => exact ⟨_, _, _, _, _, _, _, _, _, _, _, _, _, _, _, _, _, rfl, HP.out.1, HP.out.2⟩
    case round =>
      obtain ⟨rb, H, loR, h, nb, lo, F, A, B, es, ks, gk, gv, gc, ck, cv, cc, rfl, hI, hR⟩ := hrel
      have HI := Lib.hid hI; have HR := Lib.hid hR
      clear hI hR
      have hes : es.length ≤ 1000000000 := by have := HI.out.hi; have := HI.out.m64; omega
      obtain ⟨p, hp⟩ : ∃ p, pos key es = p := ⟨_, rfl⟩
      obtain ⟨n0, n1, n2⟩ := blk3 HI.out.node.blk
      obtain ⟨t0, t1, t2⟩ := blk3 HI.out.tree
      have hples : p ≤ es.length := by rw [← hp]; exact pos_le key es
      go_wp2_with fail
      refine (find_ok HI.out.node key hes HI.out.srt.node).mono ?_
      rintro e w' ⟨rfl, rfl⟩
      rw [hp]
      have HPP := Lib.hid hp; clear hp
      cases hat : at_ key es
      · by_cases hks : ks = []
        · have hpk' : decide (ks.map Kid.b = []) = true := decide_eq_true (by rw [hks]; rfl)
          have HKS := Lib.hid hks; clear hks
          have hroom : es.length + 2 ≤ 2 * m := by
            rcases HR.out with ⟨h1, _⟩ | ⟨_, h1 | ⟨x, h1, _⟩⟩
            · exact h1
            · rw [hat] at h1; cases h1
            · rw [HKS.out] at h1; simp at h1
          have HND := Lib.hid HI.out.nd
          go_wp2_with (first | (go_at_call 34; refine (leaf_ok HI.out.node).mono ?_; rintro e w' ⟨rfl, rfl⟩))
          refine (insS_at (i := p) (vb := wr.heap.size) (x := str key) (U := wr.alloc (.cells #[str key] 9)) HI.out.node.keys ((Ext.refl wr).alloc _) (blk_new wr _) (Nat.le_refl _) hples (sK_one es) rfl (by omega)).mono ?_
          rintro e W5 ⟨gk', ck', rfl, S5, T5, f5⟩
          clear n0 n1 n2
          have hz := nd_blk_frozen HI.out.node.blk T5 HND.out.2.1 0
          obtain ⟨n0, n1, n2⟩ := blk3 (T5.old HI.out.node.blk HND.out.2.1)
          have HS5 := Lib.hid S5; have HT5 := Lib.hid T5; have HF5 := Lib.hid f5
          clear S5 T5 f5
          have HB5 : Hid ((W5.setCell ⟨nb, 0, none⟩ (slv (some gk') (es.length + 1) ck')).heap[nb]? = some (.cells #[slv (some gk') (es.length + 1) ck', slv gv es.length cv, slv gc (ks.map Kid.b).length cc] 82 (0, 0))) := nd_blk HI.out.node.blk HT5.out HND.out.2.1 0 _
          have HT5' := Lib.hid (nd_store (nb := nb) (j := 0) (v := slv (some gk') (es.length + 1) ck') HT5.out)
          have HS5' := Lib.hid (HS5.out.set_off ⟨nb, 0, none⟩ (slv (some gk') (es.length + 1) ck') (fun b hb => by cases hb; exact ne_new HF5.out (blk_lt HI.out.node.blk) HND.out.2.1))
          have HTB5 := Lib.hid (HT5'.out.old HI.out.tree (by rintro (h | h); exact HND.out.2.2.2.1 h; exact HND.out.1 h.symm))
          have HNV5 := Lib.hid (HI.out.node.vals.touch HT5'.out (by intro b hb; rintro (h | h); exact HND.out.2.2.2.2.2 b h hb; exact HND.out.2.2.1 (h ▸ hb)))
          clear HS5 HT5
          go_wp2_with fail
          clear n0 n1 n2 hz t0 t1 t2
          obtain ⟨WB, hWB⟩ : ∃ WB, W5.setCell ⟨nb, 0, none⟩ (slv (some gk') (es.length + 1) ck') = WB := ⟨_, rfl⟩
          have hs5 : W5.heap.size = WB.heap.size := by rw [← hWB]; simp [World.setCell]
          rw [hWB] at HB5 HT5' HS5' HTB5 HNV5
          rw [hWB, hs5]
          clear hWB hs5
          refine (insI_at (i := p) (vb := WB.heap.size) (x := .int .i64 v) (U := WB.alloc (.cells #[.int .i64 v] 2)) HNV5.out ((Ext.refl WB).alloc _) (blk_new WB _) (Nat.le_refl _) hples (sV_one es) rfl (by omega)).mono ?_
          rintro e W6 ⟨gv', cv', rfl, S6, T6, f6⟩
          have hz := nd_blk_frozen HB5.out T6 HND.out.2.2.1 1
          obtain ⟨n0, n1, n2⟩ := blk3 (T6.old HB5.out HND.out.2.2.1)
          have HS6 := Lib.hid S6; have HT6 := Lib.hid T6; have HF6 := Lib.hid f6
          clear S6 T6 f6
          have HB6 : Hid ((W6.setCell ⟨nb, 1, none⟩ (slv (some gv') (es.length + 1) cv')).heap[nb]? = some (.cells #[slv (some gk') (es.length + 1) ck', slv (some gv') (es.length + 1) cv', slv gc (ks.map Kid.b).length cc] 82 (0, 0))) := nd_blk HB5.out HT6.out HND.out.2.2.1 1 _
          have HT6' := Lib.hid (nd_store (nb := nb) (j := 1) (v := slv (some gv') (es.length + 1) cv') HT6.out)
          have HS6' := Lib.hid (HS6.out.set_off ⟨nb, 1, none⟩ (slv (some gv') (es.length + 1) cv') (fun b hb => by cases hb; exact ne_new HF6.out (blk_lt HB5.out) HND.out.2.2.1))
          have HTB6 := Lib.hid (HT6'.out.old HTB5.out (by rintro (h | h); exact HND.out.2.2.2.2.1 h; exact HND.out.1 h.symm))
          have hT6b := HT6.out.old HTB5.out (by intro h; exact HND.out.2.2.2.2.1 h)
          obtain ⟨t0, t1, t2⟩ := blk3 hT6b
          have hzt := blk_frozen hT6b 2
          have hnt : ¬ nb = tb := HND.out.1
          have hnt2 : ¬ tb = nb := fun e => HND.out.1 e.symm
          have hwc : IntKind.i64.wrap ((L0.length : Int) + 1) = (L0.length : Int) + 1 := by rw [IntKind.wrap_i64]; omega
          clear HS6 HT6 hT6b HNV5
          go_wp2
          go_ret
          refine HI.out.leaf rfl HKS.out hat hroom (by rw [HPP.out]; exact HS5'.out) HT5'.out HF5.out (by rw [HPP.out]; exact HS6'.out) HT6'.out HF6.out ?_
          have := HB6.out
          rw [HKS.out] at this
          exact this
        · have hpk' : decide (ks.map Kid.b = []) = false := decide_eq_false (by simpa using hks)
          have HKS := Lib.hid hks; clear hks
          obtain ⟨h', hh'⟩ : ∃ h', h = h' + 1 := by
            cases h with
            | zero => exact absurd HI.out.ok HKS.out
            | succ h' => exact ⟨h', rfl⟩
          subst hh'
          have HKL : Hid (ks.length = es.length + 1) := HI.out.ok.1
          obtain ⟨k, hk⟩ : ∃ k, ks[p]? = some k := ⟨ks[p]'(by have := HKL.out; omega), List.getElem?_eq_getElem _⟩
          have hkm := HI.out.ok.2 k (List.mem_of_getElem? hk)
          obtain ⟨ek, kk, hk', hv, hc, dk, dv, dc, e1, e2, e3, e4, e5⟩ := hkm.1.open
          have hek : ek.length ≤ 127 := by omega
          obtain ⟨gcb, hgcb⟩ := HI.out.node.kids.some_of_pos (by rw [List.length_map]; have := HKL.out; omega)
          have hsc := HI.out.node.kids
          rw [hgcb] at hsc
          have hci := hsc.cell (sP_get (show (ks.map Kid.b)[p]? = some k.b by simp [hk]))
          obtain ⟨kn, hkn⟩ : ∃ kn, (ks.map Kid.b).length = kn := ⟨_, rfl⟩
          have hri := fun U => run_index_slv (P := Try.prog) ei_node (cap := cc) hgcb (j := p) (n := kn) (by rw [← hkn, List.length_map]; have := HKL.out; omega) U
          rw [hkn] at n2
          obtain ⟨k0, k1, k2⟩ := blk3 e1.blk
          have HE1 := Lib.hid e1; have HE2 := Lib.hid e2; have HE3 := Lib.hid e3; have HE4 := Lib.hid e4; have HE5 := Lib.hid e5
          have HK := Lib.hid hk; have HKN := Lib.hid hkn; have HG := Lib.hid hgcb; have HKM := Lib.hid hkm
          clear e1 e2 e3 e4 e5 hk hkn hgcb hsc hkm
          by_cases hful : ek.length + 1 = 2 * m
          · have hf : ((ek.length : Int) == 2 * (m : Int) - 1) = true := by simp; omega
            have HFUL := Lib.hid hful; clear hful
            have hroom : es.length + 2 ≤ 2 * m := by
              rcases HR.out with ⟨h1, _⟩ | ⟨_, h1 | ⟨x, h1, h2⟩⟩
              · exact h1
              · rw [hat] at h1; cases h1
              · rw [HPP.out, HK.out] at h1
                cases h1
                have := HE2.out; have := HFUL.out; omega
            have hkidnd := Lib.hid (HI.out.kid_nd (List.mem_of_getElem? HK.out) HE4.out)
            go_wp2_with (first | (go_at_call 34; refine (leaf_ok HI.out.node).mono ?_; rintro e w' ⟨rfl, rfl⟩))
            refine region_calm [.p 0, .p 1, .p 2, .l 3, .p 4, .p 5, .l 6, .p 7, .p 8, .l 9, .p 10, .p 11, .p 12, .p 13, .l 14, .h 15 true, .p 16, .p 17] f_mixed (by kernel_rfl) (by kernel_rfl) ?_
            repeat (first | (refine plan_p rfl (fun K hK => ?_); go_simp; refine hK _ ?_; clear hK K) | (refine plan_l rfl (fun K hK => ?_); go_simp; refine hK _ ?_; clear hK K))
            refine plan_ct rfl rfl (fun K _ hK => ?_)
            go_wp2_with fail
            refine (most_ok m hm64 wr.drew).mono ?_
            rintro e W1 ⟨rfl, hE1⟩
            go_wp2
            refine hK _ _ (hE1) ?_; clear hK K
            repeat (first | (refine plan_p rfl (fun K hK => ?_); go_simp; refine hK _ ?_; clear hK K) | (refine plan_l rfl (fun K hK => ?_); go_simp; refine hK _ ?_; clear hK K))
            refine plan_done ?_
            have HEX := Lib.hid ((Ext.refl wr).drew.trans hE1)
            have HI1 := Lib.hid (HI.out.ext HEX.out)
            clear hE1 t0 t1 t2 n0 n1 n2 hci k0 k1 k2
            have HK1 := Lib.hid (HE1.out.congr fun y hy => Below.block HEX.out y (HE1.out.lt y hy))
            have HO1 := Lib.hid (HE5.out.congr fun x hx b hb => Below.block HEX.out b (HE5.out.lt b (List.mem_flatMap.2 ⟨x, hx, hb⟩)))
            go_wp2_with fail
            refine (split_ok tb nb k.b m p _ _ es ek (ks.map Kid.b) (kk.map Kid.b) gk gv gc ck cv cc hk' hv hc dk dv dc W1 HI1.out.tree HI1.out.node HK1.out (by rw [List.getElem?_map, HK.out]; rfl) hples hm2 hm64 HFUL.out ?_ (by have := HI1.out.hi; omega) (by rw [List.length_map]; exact HKL.out) hkidnd.out).mono ?_
            · cases h' with
              | zero => exact .inl (by have : kk = [] := HE5.out; rw [this]; rfl)
              | succ h' => exact .inr (by rw [List.length_map, HE5.out.1]; exact HFUL.out)
            rintro e W2 hP
            obtain ⟨⟨v', rfl⟩, es', ks', gk', gv', gc', ck', cv', cc', em, k1, k2, hC⟩ := cut2_of (F := tb :: F) hm2 HI1.out.node HI1.out.ok HK.out hples HK1.out HE2.out HE3.out HE4.out HO1.out HFUL.out (fun x hx => HI1.out.rlt x (by
                rcases List.mem_cons.1 hx with rfl | hx
                · simp
                · exact List.mem_cons_of_mem _ (List.mem_append_left _ hx))) (by
                refine (List.Perm.nodup_iff ?_).1 HI1.out.nodup
                rw [List.perm_iff_count]
                intro a
                simp only [List.count_append, List.count_cons]
                omega) hP
            rw [← HPP.out] at hC
            have hfin := Lib.hid (HI1.out.cut hroom hat hC)
            clear hP hC
            go_wp2
            go_roundg (2 * (h' + 1))
            case measure =>
              rcases HR.out with ⟨_, h1⟩ | ⟨_, h1 | ⟨x, h1, h2⟩⟩
              · omega
              · rw [hat] at h1; cases h1
              · rw [HPP.out, HK.out] at h1
                cases h1
                have := HE2.out; have := HFUL.out; omega
            case rel => exact ⟨_, _, _, _, _, _, _, _, _, _, _, _, _, _, _, _, _, rfl, hfin.out.1, hfin.out.2⟩
          · have hf : ((ek.length : Int) == 2 * (m : Int) - 1) = false := by simp; omega
            have HFUL := Lib.hid hful; clear hful
            go_wp2_with (first | (go_at_call 34; refine (leaf_ok HI.out.node).mono ?_; rintro e w' ⟨rfl, rfl⟩))
            refine region_calm [.p 0, .p 1, .p 2, .l 3, .p 4, .p 5, .l 6, .p 7, .p 8, .l 9, .p 10, .p 11, .p 12, .p 13, .l 14, .h 15 true, .p 16, .p 17] f_mixed (by kernel_rfl) (by kernel_rfl) ?_
            repeat (first | (refine plan_p rfl (fun K hK => ?_); go_simp; refine hK _ ?_; clear hK K) | (refine plan_l rfl (fun K hK => ?_); go_simp; refine hK _ ?_; clear hK K))
            refine plan_ct rfl rfl (fun K _ hK => ?_)
            go_wp2_with fail
            refine (most_ok m hm64 wr.drew).mono ?_
            rintro e W1 ⟨rfl, hE1⟩
            go_wp2
            refine hK _ _ (hE1) ?_; clear hK K
            repeat (first | (refine plan_p rfl (fun K hK => ?_); go_simp; refine hK _ ?_; clear hK K) | (refine plan_l rfl (fun K hK => ?_); go_simp; refine hK _ ?_; clear hK K))
            refine plan_done ?_
            have HEX := Lib.hid ((Ext.refl wr).drew.trans hE1)
            have HI1 := Lib.hid (HI.out.ext HEX.out)
            clear hE1 t0 t1 t2 n0 n1 n2 hci k0 k1 k2
            have HK1 := Lib.hid (HE1.out.congr fun y hy => Below.block HEX.out y (HE1.out.lt y hy))
            have HO1 := Lib.hid (HE5.out.congr fun x hx b hb => Below.block HEX.out b (HE5.out.lt b (List.mem_flatMap.2 ⟨x, hx, hb⟩)))
            obtain ⟨n0, n1, n2⟩ := blk3 HI1.out.node.blk
            have hsc := HI1.out.node.kids
            rw [HG.out] at hsc
            have hci := hsc.cell (sP_get (show (ks.map Kid.b)[p]? = some k.b by rw [List.getElem?_map, HK.out]; rfl))
            rw [HKN.out] at n2
            clear hsc
            go_wp2
            go_roundg (2 * h' + 1)
            case measure =>
              rcases HR.out with ⟨_, h1⟩ | ⟨h1, _⟩
              · omega
              · omega
            case rel =>
              have hfin := HI1.out.down (k := k) hat (by rw [HPP.out]; exact HK.out) (by have := HE2.out; have := HFUL.out; have := HKM.out.2.2; omega) HK1.out HE2.out HE3.out HE4.out HO1.out
              exact ⟨_, _, _, _, _, _, _, _, _, _, _, _, _, _, _, _, _, rfl, hfin.1, hfin.2⟩
      · obtain ⟨v0, hv0, -⟩ := at_true hat
        rw [HPP.out] at hv0
        have hpl : p < es.length := (List.getElem?_eq_some_iff.1 hv0).1
        obtain ⟨gvb, hgvb⟩ := HI.out.node.vals.some_of_pos (by omega)
        have hsv := HI.out.node.vals
        rw [hgvb] at hsv
        have hc := hsv.cell (sV_get hv0)
        have hz := hsv.frozen p
        have hri := fun U => run_index_slv (P := Try.prog) ei_int64 (cap := cv) hgvb (j := p) (n := es.length) hpl U
        have HV0 := Lib.hid hv0; have HG := Lib.hid hgvb
        clear hv0 hgvb hsv
        go_wp2
        go_ret
        rw [← HPP.out]
        exact HI.out.here rfl hat HG.out
  · have hf : ((es.length : Int) == 2 * (m : Int) - 1) = false := by simp; omega
    have HFU := Lib.hid hfull; clear hfull
    go_enter Try.func7, Try.ntmps7
    go_wp2
    refine region_calm [.p 0, .p 1, .p 2, .l 3, .p 4, .p 5, .l 6, .p 7, .p 8, .p 9, .p 10, .l 11, .h 12 true, .p 13] f_mixed (by kernel_rfl) (by kernel_rfl) ?_
    repeat (first | (refine plan_p rfl (fun K hK => ?_); go_simp; refine hK _ ?_; clear hK K) | (refine plan_l rfl (fun K hK => ?_); go_simp; refine hK _ ?_; clear hK K))
    refine plan_ct rfl rfl (fun K _ hK => ?_)
    go_wp2_with fail
    refine (most_ok m hm64 w.drew).mono ?_
    rintro e W1 ⟨rfl, hE1⟩
    go_wp2
    refine hK _ _ (hE1) ?_; clear hK K
    repeat (first | (refine plan_p rfl (fun K hK => ?_); go_simp; refine hK _ ?_; clear hK K) | (refine plan_l rfl (fun K hK => ?_); go_simp; refine hK _ ?_; clear hK K))
    refine plan_done ?_
    have hE : Ext w W1 := (Ext.refl w).drew.trans hE1
    clear t0 t1 t2 n0 n1 n2
    have HN1 := Lib.hid (HN.out.congr fun k hk => Below.block hE k (HN.out.lt k hk))
    have HB1 := Lib.hid (Ext.block hE HB.out)
    have HP := Lib.hid (PI.start (key := key) (v := v) hE HT.out HB1.out HLO.out HBS0.out HN1.out HE.out HL.out HBS.out (HOK.out.congr fun x hx b hb => Below.block hE b (HOK.out.lt b (List.mem_flatMap.2 ⟨x, hx, hb⟩))) (by have := HFU.out; have := HE.out; omega))
    obtain ⟨t0, t1, t2⟩ := blk3 HB1.out
    go_wp2
    clear t0 t1 t2 hf hnl hhi HR HN HL HBS HOK HBS0 HLO HE HN1 HB HFU
    go_loopg [7] (2*H+1) (fun k v7 wr => ∃ (rb H loR h nb lo : Nat) (F : List Nat) (A B es : List Ent) (ks : List Kid) (gk gv gc : Option Nat) (ck cv cc : Nat), v7 = .pointer (some ⟨nb, 0, none⟩) ∧ PI w tb m key v L0 bs0 wr rb H loR h nb lo F A B es ks gk gv gc ck cv cc ∧ Ready m key h es ks k)
    case atStart => exact ⟨_, _, _, _, _, _, _, _, _, _, _, _, _, _, _, _, _, rfl, HP.out.1, HP.out.2⟩
    case round =>
      obtain ⟨rb, H, loR, h, nb, lo, F, A, B, es, ks, gk, gv, gc, ck, cv, cc, rfl, hI, hR⟩ := hrel
      have HI := Lib.hid hI; have HR := Lib.hid hR
      clear hI hR
      have hes : es.length ≤ 1000000000 := by have := HI.out.hi; have := HI.out.m64; omega
      obtain ⟨p, hp⟩ : ∃ p, pos key es = p := ⟨_, rfl⟩
      obtain ⟨n0, n1, n2⟩ := blk3 HI.out.node.blk
      obtain ⟨t0, t1, t2⟩ := blk3 HI.out.tree
      have hples : p ≤ es.length := by rw [← hp]; exact pos_le key es
      go_wp2_with fail
      refine (find_ok HI.out.node key hes HI.out.srt.node).mono ?_
      rintro e w' ⟨rfl, rfl⟩
      rw [hp]
      have HPP := Lib.hid hp; clear hp
      cases hat : at_ key es
      · by_cases hks : ks = []
        · have hpk' : decide (ks.map Kid.b = []) = true := decide_eq_true (by rw [hks]; rfl)
          have HKS := Lib.hid hks; clear hks
          have hroom : es.length + 2 ≤ 2 * m := by
            rcases HR.out with ⟨h1, _⟩ | ⟨_, h1 | ⟨x, h1, _⟩⟩
            · exact h1
            · rw [hat] at h1; cases h1
            · rw [HKS.out] at h1; simp at h1
          have HND := Lib.hid HI.out.nd
          go_wp2_with (first | (go_at_call 34; refine (leaf_ok HI.out.node).mono ?_; rintro e w' ⟨rfl, rfl⟩))
          refine (insS_at (i := p) (vb := wr.heap.size) (x := str key) (U := wr.alloc (.cells #[str key] 9)) HI.out.node.keys ((Ext.refl wr).alloc _) (blk_new wr _) (Nat.le_refl _) hples (sK_one es) rfl (by omega)).mono ?_
          rintro e W5 ⟨gk', ck', rfl, S5, T5, f5⟩
          clear n0 n1 n2
          have hz := nd_blk_frozen HI.out.node.blk T5 HND.out.2.1 0
          obtain ⟨n0, n1, n2⟩ := blk3 (T5.old HI.out.node.blk HND.out.2.1)
          have HS5 := Lib.hid S5; have HT5 := Lib.hid T5; have HF5 := Lib.hid f5
          clear S5 T5 f5
          have HB5 : Hid ((W5.setCell ⟨nb, 0, none⟩ (slv (some gk') (es.length + 1) ck')).heap[nb]? = some (.cells #[slv (some gk') (es.length + 1) ck', slv gv es.length cv, slv gc (ks.map Kid.b).length cc] 82 (0, 0))) := nd_blk HI.out.node.blk HT5.out HND.out.2.1 0 _
          have HT5' := Lib.hid (nd_store (nb := nb) (j := 0) (v := slv (some gk') (es.length + 1) ck') HT5.out)
          have HS5' := Lib.hid (HS5.out.set_off ⟨nb, 0, none⟩ (slv (some gk') (es.length + 1) ck') (fun b hb => by cases hb; exact ne_new HF5.out (blk_lt HI.out.node.blk) HND.out.2.1))
          have HTB5 := Lib.hid (HT5'.out.old HI.out.tree (by rintro (h | h); exact HND.out.2.2.2.1 h; exact HND.out.1 h.symm))
          have HNV5 := Lib.hid (HI.out.node.vals.touch HT5'.out (by intro b hb; rintro (h | h); exact HND.out.2.2.2.2.2 b h hb; exact HND.out.2.2.1 (h ▸ hb)))
          clear HS5 HT5
          go_wp2_with fail
          clear n0 n1 n2 hz t0 t1 t2
          obtain ⟨WB, hWB⟩ : ∃ WB, W5.setCell ⟨nb, 0, none⟩ (slv (some gk') (es.length + 1) ck') = WB := ⟨_, rfl⟩
          have hs5 : W5.heap.size = WB.heap.size := by rw [← hWB]; simp [World.setCell]
          rw [hWB] at HB5 HT5' HS5' HTB5 HNV5
          rw [hWB, hs5]
          clear hWB hs5
          refine (insI_at (i := p) (vb := WB.heap.size) (x := .int .i64 v) (U := WB.alloc (.cells #[.int .i64 v] 2)) HNV5.out ((Ext.refl WB).alloc _) (blk_new WB _) (Nat.le_refl _) hples (sV_one es) rfl (by omega)).mono ?_
          rintro e W6 ⟨gv', cv', rfl, S6, T6, f6⟩
          have hz := nd_blk_frozen HB5.out T6 HND.out.2.2.1 1
          obtain ⟨n0, n1, n2⟩ := blk3 (T6.old HB5.out HND.out.2.2.1)
          have HS6 := Lib.hid S6; have HT6 := Lib.hid T6; have HF6 := Lib.hid f6
          clear S6 T6 f6
          have HB6 : Hid ((W6.setCell ⟨nb, 1, none⟩ (slv (some gv') (es.length + 1) cv')).heap[nb]? = some (.cells #[slv (some gk') (es.length + 1) ck', slv (some gv') (es.length + 1) cv', slv gc (ks.map Kid.b).length cc] 82 (0, 0))) := nd_blk HB5.out HT6.out HND.out.2.2.1 1 _
          have HT6' := Lib.hid (nd_store (nb := nb) (j := 1) (v := slv (some gv') (es.length + 1) cv') HT6.out)
          have HS6' := Lib.hid (HS6.out.set_off ⟨nb, 1, none⟩ (slv (some gv') (es.length + 1) cv') (fun b hb => by cases hb; exact ne_new HF6.out (blk_lt HB5.out) HND.out.2.2.1))
          have HTB6 := Lib.hid (HT6'.out.old HTB5.out (by rintro (h | h); exact HND.out.2.2.2.2.1 h; exact HND.out.1 h.symm))
          have hT6b := HT6.out.old HTB5.out (by intro h; exact HND.out.2.2.2.2.1 h)
          obtain ⟨t0, t1, t2⟩ := blk3 hT6b
          have hzt := blk_frozen hT6b 2
          have hnt : ¬ nb = tb := HND.out.1
          have hnt2 : ¬ tb = nb := fun e => HND.out.1 e.symm
          have hwc : IntKind.i64.wrap ((L0.length : Int) + 1) = (L0.length : Int) + 1 := by rw [IntKind.wrap_i64]; omega
          clear HS6 HT6 hT6b HNV5
          go_wp2
          go_ret
          refine HI.out.leaf rfl HKS.out hat hroom (by rw [HPP.out]; exact HS5'.out) HT5'.out HF5.out (by rw [HPP.out]; exact HS6'.out) HT6'.out HF6.out ?_
          have := HB6.out
          rw [HKS.out] at this
          exact this
        · have hpk' : decide (ks.map Kid.b = []) = false := decide_eq_false (by simpa using hks)
          have HKS := Lib.hid hks; clear hks
          obtain ⟨h', hh'⟩ : ∃ h', h = h' + 1 := by
            cases h with
            | zero => exact absurd HI.out.ok HKS.out
            | succ h' => exact ⟨h', rfl⟩
          subst hh'
          have HKL : Hid (ks.length = es.length + 1) := HI.out.ok.1
          obtain ⟨k, hk⟩ : ∃ k, ks[p]? = some k := ⟨ks[p]'(by have := HKL.out; omega), List.getElem?_eq_getElem _⟩
          have hkm := HI.out.ok.2 k (List.mem_of_getElem? hk)
          obtain ⟨ek, kk, hk', hv, hc, dk, dv, dc, e1, e2, e3, e4, e5⟩ := hkm.1.open
          have hek : ek.length ≤ 127 := by omega
          obtain ⟨gcb, hgcb⟩ := HI.out.node.kids.some_of_pos (by rw [List.length_map]; have := HKL.out; omega)
          have hsc := HI.out.node.kids
          rw [hgcb] at hsc
          have hci := hsc.cell (sP_get (show (ks.map Kid.b)[p]? = some k.b by simp [hk]))
          obtain ⟨kn, hkn⟩ : ∃ kn, (ks.map Kid.b).length = kn := ⟨_, rfl⟩
          have hri := fun U => run_index_slv (P := Try.prog) ei_node (cap := cc) hgcb (j := p) (n := kn) (by rw [← hkn, List.length_map]; have := HKL.out; omega) U
          rw [hkn] at n2
          obtain ⟨k0, k1, k2⟩ := blk3 e1.blk
          have HE1 := Lib.hid e1; have HE2 := Lib.hid e2; have HE3 := Lib.hid e3; have HE4 := Lib.hid e4; have HE5 := Lib.hid e5
          have HK := Lib.hid hk; have HKN := Lib.hid hkn; have HG := Lib.hid hgcb; have HKM := Lib.hid hkm
          clear e1 e2 e3 e4 e5 hk hkn hgcb hsc hkm
          by_cases hful : ek.length + 1 = 2 * m
          · have hf : ((ek.length : Int) == 2 * (m : Int) - 1) = true := by simp; omega
            have HFUL := Lib.hid hful; clear hful
            have hroom : es.length + 2 ≤ 2 * m := by
              rcases HR.out with ⟨h1, _⟩ | ⟨_, h1 | ⟨x, h1, h2⟩⟩
              · exact h1
              · rw [hat] at h1; cases h1
              · rw [HPP.out, HK.out] at h1
                cases h1
                have := HE2.out; have := HFUL.out; omega
            have hkidnd := Lib.hid (HI.out.kid_nd (List.mem_of_getElem? HK.out) HE4.out)
            go_wp2_with (first | (go_at_call 34; refine (leaf_ok HI.out.node).mono ?_; rintro e w' ⟨rfl, rfl⟩))
            refine region_calm [.p 0, .p 1, .p 2, .l 3, .p 4, .p 5, .l 6, .p 7, .p 8, .l 9, .p 10, .p 11, .p 12, .p 13, .l 14, .h 15 true, .p 16, .p 17] f_mixed (by kernel_rfl) (by kernel_rfl) ?_
            repeat (first | (refine plan_p rfl (fun K hK => ?_); go_simp; refine hK _ ?_; clear hK K) | (refine plan_l rfl (fun K hK => ?_); go_simp; refine hK _ ?_; clear hK K))
            refine plan_ct rfl rfl (fun K _ hK => ?_)
            go_wp2_with fail
            refine (most_ok m hm64 wr.drew).mono ?_
            rintro e W1 ⟨rfl, hE1⟩
            go_wp2
            refine hK _ _ (hE1) ?_; clear hK K
            repeat (first | (refine plan_p rfl (fun K hK => ?_); go_simp; refine hK _ ?_; clear hK K) | (refine plan_l rfl (fun K hK => ?_); go_simp; refine hK _ ?_; clear hK K))
            refine plan_done ?_
            have HEX := Lib.hid ((Ext.refl wr).drew.trans hE1)
            have HI1 := Lib.hid (HI.out.ext HEX.out)
            clear hE1 t0 t1 t2 n0 n1 n2 hci k0 k1 k2
            have HK1 := Lib.hid (HE1.out.congr fun y hy => Below.block HEX.out y (HE1.out.lt y hy))
            have HO1 := Lib.hid (HE5.out.congr fun x hx b hb => Below.block HEX.out b (HE5.out.lt b (List.mem_flatMap.2 ⟨x, hx, hb⟩)))
            go_wp2_with fail
            refine (split_ok tb nb k.b m p _ _ es ek (ks.map Kid.b) (kk.map Kid.b) gk gv gc ck cv cc hk' hv hc dk dv dc W1 HI1.out.tree HI1.out.node HK1.out (by rw [List.getElem?_map, HK.out]; rfl) hples hm2 hm64 HFUL.out ?_ (by have := HI1.out.hi; omega) (by rw [List.length_map]; exact HKL.out) hkidnd.out).mono ?_
            · cases h' with
              | zero => exact .inl (by have : kk = [] := HE5.out; rw [this]; rfl)
              | succ h' => exact .inr (by rw [List.length_map, HE5.out.1]; exact HFUL.out)
            rintro e W2 hP
            obtain ⟨⟨v', rfl⟩, es', ks', gk', gv', gc', ck', cv', cc', em, k1, k2, hC⟩ := cut2_of (F := tb :: F) hm2 HI1.out.node HI1.out.ok HK.out hples HK1.out HE2.out HE3.out HE4.out HO1.out HFUL.out (fun x hx => HI1.out.rlt x (by
                rcases List.mem_cons.1 hx with rfl | hx
                · simp
                · exact List.mem_cons_of_mem _ (List.mem_append_left _ hx))) (by
                refine (List.Perm.nodup_iff ?_).1 HI1.out.nodup
                rw [List.perm_iff_count]
                intro a
                simp only [List.count_append, List.count_cons]
                omega) hP
            rw [← HPP.out] at hC
            have hfin := Lib.hid (HI1.out.cut hroom hat hC)
            clear hP hC
            go_wp2
            go_roundg (2 * (h' + 1))
            case measure =>
              rcases HR.out with ⟨_, h1⟩ | ⟨_, h1 | ⟨x, h1, h2⟩⟩
              · omega
              · rw [hat] at h1; cases h1
              · rw [HPP.out, HK.out] at h1
                cases h1
                have := HE2.out; have := HFUL.out; omega
            case rel => exact ⟨_, _, _, _, _, _, _, _, _, _, _, _, _, _, _, _, _, rfl, hfin.out.1, hfin.out.2⟩
          · have hf : ((ek.length : Int) == 2 * (m : Int) - 1) = false := by simp; omega
            have HFUL := Lib.hid hful; clear hful
            go_wp2_with (first | (go_at_call 34; refine (leaf_ok HI.out.node).mono ?_; rintro e w' ⟨rfl, rfl⟩))
            refine region_calm [.p 0, .p 1, .p 2, .l 3, .p 4, .p 5, .l 6, .p 7, .p 8, .l 9, .p 10, .p 11, .p 12, .p 13, .l 14, .h 15 true, .p 16, .p 17] f_mixed (by kernel_rfl) (by kernel_rfl) ?_
            repeat (first | (refine plan_p rfl (fun K hK => ?_); go_simp; refine hK _ ?_; clear hK K) | (refine plan_l rfl (fun K hK => ?_); go_simp; refine hK _ ?_; clear hK K))
            refine plan_ct rfl rfl (fun K _ hK => ?_)
            go_wp2_with fail
            refine (most_ok m hm64 wr.drew).mono ?_
            rintro e W1 ⟨rfl, hE1⟩
            go_wp2
            refine hK _ _ (hE1) ?_; clear hK K
            repeat (first | (refine plan_p rfl (fun K hK => ?_); go_simp; refine hK _ ?_; clear hK K) | (refine plan_l rfl (fun K hK => ?_); go_simp; refine hK _ ?_; clear hK K))
            refine plan_done ?_
            have HEX := Lib.hid ((Ext.refl wr).drew.trans hE1)
            have HI1 := Lib.hid (HI.out.ext HEX.out)
            clear hE1 t0 t1 t2 n0 n1 n2 hci k0 k1 k2
            have HK1 := Lib.hid (HE1.out.congr fun y hy => Below.block HEX.out y (HE1.out.lt y hy))
            have HO1 := Lib.hid (HE5.out.congr fun x hx b hb => Below.block HEX.out b (HE5.out.lt b (List.mem_flatMap.2 ⟨x, hx, hb⟩)))
            obtain ⟨n0, n1, n2⟩ := blk3 HI1.out.node.blk
            have hsc := HI1.out.node.kids
            rw [HG.out] at hsc
            have hci := hsc.cell (sP_get (show (ks.map Kid.b)[p]? = some k.b by rw [List.getElem?_map, HK.out]; rfl))
            rw [HKN.out] at n2
            clear hsc
            go_wp2
            go_roundg (2 * h' + 1)
            case measure =>
              rcases HR.out with ⟨_, h1⟩ | ⟨h1, _⟩
              · omega
              · omega
            case rel =>
              have hfin := HI1.out.down (k := k) hat (by rw [HPP.out]; exact HK.out) (by have := HE2.out; have := HFUL.out; have := HKM.out.2.2; omega) HK1.out HE2.out HE3.out HE4.out HO1.out
              exact ⟨_, _, _, _, _, _, _, _, _, _, _, _, _, _, _, _, _, rfl, hfin.1, hfin.2⟩
      · obtain ⟨v0, hv0, -⟩ := at_true hat
        rw [HPP.out] at hv0
        have hpl : p < es.length := (List.getElem?_eq_some_iff.1 hv0).1
        obtain ⟨gvb, hgvb⟩ := HI.out.node.vals.some_of_pos (by omega)
        have hsv := HI.out.node.vals
        rw [hgvb] at hsv
        have hc := hsv.cell (sV_get hv0)
        have hz := hsv.frozen p
        have hri := fun U => run_index_slv (P := Try.prog) ei_int64 (cap := cv) hgvb (j := p) (n := es.length) hpl U
        have HV0 := Lib.hid hv0; have HG := Lib.hid hgvb
        clear hv0 hgvb hsv
        go_wp2
        go_ret
        rw [← HPP.out]
        exact HI.out.here rfl hat HG.out
end Go.Proofs.Ytkejjahlglldlaa
