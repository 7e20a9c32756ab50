/- fill: what it leaves, in every case. No program is walked here. -/
import Derived.Test.YtkejjahlglldlaaMBm5
import Derived.Test.YtkejjahlglldlaaMK
namespace Go.Proofs.Ytkejjahlglldlaa
open Go.RowKit Go.Lib

theorem Recut.stay {w w' : World} {m h nb : Nat} {es : List Ent} {ks : List Kid} {gk gv gc : Option Nat} {ck cv cc : Nat} {F : List Nat} (hE : Ext w w') (hN : NodeAt w nb es (ks.map Kid.b) gk gv gc ck cv cc) (hok : KidsOk w m (h + 1) ks es.length)
    (hnd : (F ++ (ownL nb gk gv gc ++ ks.flatMap Kid.bs)).Nodup) : Recut w w' m h nb es ks gk gv gc ck cv cc F es ks :=
  ⟨hN.ext hE, hok.congr fun x hx b hb => Below.block hE b ((hok.2 x hx).1.lt b hb), rfl, hE.touch _, hnd, fun _ hx => .inl hx⟩

/-- What fill leaves. -/
def FillPost (m h nb : Nat) (key : List UInt8) (es : List Ent) (ks : List Kid) (gk gv gc : Option Nat) (ck cv cc : Nat) (F : List Nat) (w : World) (e : Ending) (w' : World) : Prop :=
  ∃ es' ks' nx, e = .returned (.pointer (some ⟨nx.b, 0, none⟩)) ∧ Recut w w' m h nb es ks gk gv gc ck cv cc F es' ks' ∧ ks'[pos key es']? = some nx ∧ at_ key es' = false ∧ m ≤ nx.n ∧ es.length ≤ es'.length + 1 ∧ es'.length ≤ es.length

theorem KidsOk.lens {W : World} {m h n : Nat} {ks : List Kid} (hk : KidsOk W m h ks n) (hn : n ≤ 127) : (ks.map Kid.b = [] ∨ (ks.map Kid.b).length = n + 1) ∧ (ks.map Kid.b).length ≤ 128 := by
  cases h with
  | zero => have h1 : ks = [] := hk; subst h1; exact ⟨.inl rfl, by simp⟩
  | succ h => rw [List.length_map, hk.1]; exact ⟨.inr rfl, by omega⟩

/-- merge, as kids. -/
theorem merge_recut {w : World} {tb m h nb i : Nat} {es : List Ent} {ks : List Kid} {a b : Kid} {em : Ent} {gk gv gc : Option Nat} {ck cv cc : Nat} {F : List Nat}
    (hN : NodeAt w nb es (ks.map Kid.b) gk gv gc ck cv cc) (hok : KidsOk w m (h + 1) ks es.length) (hm : m ≤ 64) (hm2 : 2 ≤ m) (hes : es.length + 1 ≤ 2 * m) (hka : ks[i]? = some a) (hkb : ks[i + 1]? = some b) (hem : es[i]? = some em)
    (hsz : a.n + b.n + 2 ≤ 2 * m) (hF : ∀ x ∈ F, x < w.heap.size) (hnd : (F ++ (ownL nb gk gv gc ++ ks.flatMap Kid.bs)).Nodup) :
    Calls Try.prog 114 #[.pointer (some ⟨tb, 0, none⟩), .pointer (some ⟨nb, 0, none⟩), .int .i64 (i : Int)] w fun e w' => e = .returned (.pointer (some ⟨a.b, 0, none⟩)) ∧
      ∃ c : Kid, c.b = a.b ∧ c.n = a.n + b.n + 1 ∧ c.L = a.L ++ em :: b.L ∧ Recut w w' m h nb es ks gk gv gc ck cv cc F (es.take i ++ es.drop (i + 1)) (ks.take i ++ [c] ++ ks.drop (i + 2)) := by
  obtain ⟨hra, ha1, ha2⟩ := hok.2 a (List.mem_of_getElem? hka)
  obtain ⟨hrb, hb1, hb2⟩ := hok.2 b (List.mem_of_getElem? hkb)
  obtain ⟨ea, ka, hk, hv, hc, dk, dv, dc, an, aN, aL, abs, aok⟩ := hra.open
  obtain ⟨eb, kb, jk, jv, jc, fk, fv, fc, bn, bN, bL, bbs, bok⟩ := hrb.open
  have l1 := aok.lens (by omega)
  have l2 := bok.lens (by omega)
  have hkl : ks.length = es.length + 1 := hok.1
  refine (merge_ok tb nb a.b b.b i es ea eb em (ks.map Kid.b) (ka.map Kid.b) (kb.map Kid.b) gk gv gc hk hv hc jk jv jc ck cv cc dk dv dc fk fv fc w hN an bn (two_nd hnd hka hkb abs bbs) hem (by simp [hka]) (by simp [hkb]) (by omega) (by simp; omega) (by omega) (by omega) l1.2 l2.2).mono ?_
  rintro e w' ⟨rfl, g1, g2, g3, c1, c2, c3, q1, q2, q3, q4, q5⟩
  refine ⟨rfl, ?_⟩
  obtain ⟨c, r1, r2, r3, r4⟩ := recut_merge hok hka hkb hem aN aL abs aok bN bL bbs bok (by omega) (by omega) hF hnd q1 q2 q3 q4 q5
  exact ⟨c, r1, by omega, r3, r4⟩

set_option maxHeartbeats 1000000 in
theorem fill_ok {w : World} {tb m h nb : Nat} {tr tc : Value} {key : List UInt8} {es : List Ent} {ks : List Kid} {gk gv gc : Option Nat} {ck cv cc : Nat} {F : List Nat}
    (hB : w.heap[tb]? = some (.cells #[.int .i64 (m : Int), tr, tc] 84 (0, 0)))
    (hN : NodeAt w nb es (ks.map Kid.b) gk gv gc ck cv cc) (hok : KidsOk w m (h + 1) ks es.length) (hm : m ≤ 64) (hm2 : 2 ≤ m) (hes1 : 1 ≤ es.length) (hes : es.length + 1 ≤ 2 * m) (hs : Srt (inter (ks.map Kid.L) es)) (hat : at_ key es = false)
    (hF : ∀ x ∈ F, x < w.heap.size) (hnd : (F ++ (ownL nb gk gv gc ++ ks.flatMap Kid.bs)).Nodup) :
    Calls Try.prog 112 #[.pointer (some ⟨tb, 0, none⟩), .pointer (some ⟨nb, 0, none⟩), .int .i64 (pos key es : Int)] w (FillPost m h nb key es ks gk gv gc ck cv cc F w) := by
  have hkl : ks.length = es.length + 1 := hok.1
  have hpl := pos_le key es
  obtain ⟨i, hi⟩ : ∃ i, pos key es = i := ⟨_, rfl⟩
  rw [hi]
  have hil : i ≤ es.length := hi ▸ hpl
  obtain ⟨k, hk0⟩ : ∃ k, ks[i]? = some k := ⟨ks[i]'(by omega), List.getElem?_eq_getElem _⟩
  obtain ⟨hrk, hk1, hk2⟩ := hok.2 k (List.mem_of_getElem? hk0)
  obtain ⟨ek, kk, hk, hv, hc, dk, dv, dc, kn, kN, kL, kbs, kok⟩ := hrk.open
  have hsn := hs.node
  have lk := kok.lens (by omega)
  have hkb : (ks.map Kid.b)[i]? = some k.b := by simp [hk0]
  by_cases hA : m ≤ ek.length
  · refine (fillA_ok tb nb k.b m i tr tc es ek _ _ gk gv gc hk hv hc ck cv cc dk dv dc w hB hN kn hkb hm hA (by omega)).mono ?_
    rintro e w' ⟨rfl, hE⟩
    exact ⟨es, ks, k, rfl, Recut.stay hE hN hok hnd, by rw [hi]; exact hk0, hat, by omega, by omega, Nat.le_refl _⟩
  · by_cases hLft : ∃ j l, i = j + 1 ∧ ks[j]? = some l ∧ m ≤ l.n
    · obtain ⟨j, l, rfl, hl0, hln⟩ := hLft
      obtain ⟨hrl, hl1, hl2⟩ := hok.2 l (List.mem_of_getElem? hl0)
      obtain ⟨el, kl, lk', lv, lc, bk, bv, bc, ln, lN, lL, lbs, lok⟩ := hrl.open
      have ll := lok.lens (by omega)
      obtain ⟨L, hL⟩ : ∃ L, el.length = L + 1 := ⟨el.length - 1, by omega⟩
      have hex : el[L]? = some (el[L]'(by omega)) := List.getElem?_eq_getElem _
      have hem : es[j]? = some (es[j]'(by omega)) := List.getElem?_eq_getElem _
      generalize el[L]'(by omega) = ex at hex
      generalize es[j]'(by omega) = em at hem
      refine (fillB_ok tb nb l.b k.b m (j + 1) j L tr tc es el ek em ex _ (kl.map Kid.b) (kk.map Kid.b) gk gv gc lk' lv lc hk hv hc ck cv cc bk bv bc dk dv dc w hB hN ln kn (two_nd hnd hl0 hk0 lbs kbs) rfl hkb (by simp [hl0]) hem hL hex ll.1 hm (by omega) (by omega) (by omega) (by simp; omega) (by omega) ll.2 (by omega) lk.2).mono ?_
      rintro e w' ⟨rfl, g1, g2, g3, c1, c2, c3, q1, q2, q3, q4, q5, q6⟩
      have hel : el = el.take L ++ [ex] := by
        have := list_at hex
        rwa [List.drop_eq_nil_of_le (by omega)] at this
      have hxk : blt ex.1 key := by
        have h1 := (pair_srt hs hkl hl0 hk0 hem).1 ex (by rw [lL]; exact (inter_sub _ _).subset (List.mem_of_getElem? hex))
        have h2 := pos_lt key es em (by
          rw [hi]
          exact List.mem_of_getElem? (i := j) (by rw [List.getElem?_take, if_pos (by omega)]; exact hem))
        exact bl_trans _ _ _ h1 h2
      have hlt : (el.take L).length = L := by rw [List.length_take]; omega
      obtain ⟨c, d, r1, r2, r3, r4, r5⟩ := recut_turn (i := j) (a := l) (b := k) (em := em) (ea := el) (eb := ek) (ka := kl) (kb := kk) (ea' := el.take L) (eb' := em :: ek) (e' := ex) (ka' := kl.take (L + 1)) (kb' := kl.drop (L + 1) ++ kk) (F := F)
        hok hl0 hk0 hem lL lbs lok kL kbs kok (by conv => lhs; rw [hel]
                                                  simp) (by rw [← List.append_assoc, List.take_append_drop]) (by
          intro W hW
          rw [hlt]
          cases h with
          | zero =>
            have h1 : kl = [] := lok
            have h2 : kk = [] := kok
            subst h1 h2
            exact ⟨rfl, rfl⟩
          | succ h =>
            have h1 : kl.length = el.length + 1 := lok.1
            have h2 : kk.length = ek.length + 1 := kok.1
            refine ⟨⟨by rw [List.length_take]; omega, fun x hx => hW.2 x (List.mem_append_left _ (List.mem_of_mem_take hx))⟩, ⟨by simp; omega, fun x hx => hW.2 x ?_⟩⟩
            rcases List.mem_append.1 hx with hx | hx
            · exact List.mem_append_left _ (List.mem_of_mem_drop hx)
            · exact List.mem_append_right _ hx) (by omega) (by omega) (by simp; omega) (by simp; omega) hF hnd q1 (by rw [List.map_take]; exact q2) (by rw [List.map_append, List.map_drop]; exact q3) q4 q5 (by
          intro x hx
          rcases List.mem_append.1 hx with hx | hx
          · exact .inl (List.mem_append_right _ (List.mem_append_left _ hx))
          · exact q6 x hx)
      obtain ⟨p1, p2⟩ := pos_turn_left hsn hi hat hxk
      refine ⟨_, _, d, by rw [r3], r5, ?_, p2, by rw [r4]; simp; omega, by simp, by simp⟩
      rw [p1]
      have hjl : (ks.take j).length = j := by rw [List.length_take]; omega
      rw [List.append_assoc, List.getElem?_append_right (by omega), hjl, show j + 1 - j = 1 by omega]
      rfl
    · have hno : NoLeft w m i (ks.map Kid.b) := by
        intro j hj
        obtain ⟨l, hl0⟩ : ∃ l, ks[j]? = some l := ⟨ks[j]'(by omega), List.getElem?_eq_getElem _⟩
        obtain ⟨hrl, hl1, hl2⟩ := hok.2 l (List.mem_of_getElem? hl0)
        obtain ⟨el, kl, lk', lv, lc, bk, bv, bc, ln, lN, lL, lbs, lok⟩ := hrl.open
        have h1 : ¬ m ≤ l.n := fun h => hLft ⟨j, l, hj, hl0, h⟩
        exact ⟨l.b, el.length, bk, lk', _, _, by simp [hl0], ln.blk, by omega, by omega⟩
      by_cases hRgt : ∃ r, i < es.length ∧ ks[i + 1]? = some r ∧ m ≤ r.n
      · obtain ⟨r, hie, hr0, hrn⟩ := hRgt
        obtain ⟨hrr, hr1, hr2⟩ := hok.2 r (List.mem_of_getElem? hr0)
        obtain ⟨er, kr, rk, rv, rc, fk, fv, fc, rn, rN, rL, rbs, rok⟩ := hrr.open
        have lr := rok.lens (by omega)
        have hex : er[0]? = some (er[0]'(by omega)) := List.getElem?_eq_getElem _
        have hem : es[i]? = some (es[i]'hie) := List.getElem?_eq_getElem _
        generalize er[0]'(by omega) = ex at hex
        generalize es[i]'hie = em at hem
        refine (fillC_ok tb nb k.b r.b m i tr tc es ek er em ex _ (kk.map Kid.b) (kr.map Kid.b) gk gv gc hk hv hc rk rv rc ck cv cc dk dv dc fk fv fc w hB hN kn rn (two_nd hnd hk0 hr0 kbs rbs) hno hkb (by simp [hr0]) hem hex lr.1 hm (by omega) (by omega) (by omega) (by simp; omega) (by omega) lr.2 (by omega) lk.2).mono ?_
        rintro e w' ⟨rfl, g1, g2, g3, c1, c2, c3, q1, q2, q3, q4, q5, q6⟩
        have her : er = ex :: er.drop 1 := by
          have := list_at hex
          simpa using this
        have hxk : blt key ex.1 := by
          have h1 := (pair_srt hs hkl hk0 hr0 hem).2 ex (by rw [rL]; exact (inter_sub _ _).subset (List.mem_of_getElem? hex))
          have h2 := pos_get hsn (k := key) (e := em) (by rw [hi]; exact hem)
          have h3 := at_false hat em (by rw [hi]; exact hem)
          exact bl_trans _ _ _ (bl_total _ _ h3 h2) h1
        obtain ⟨c, d, r1, r2, r3, r4, r5⟩ := recut_turn (i := i) (a := k) (b := r) (em := em) (ea := ek) (eb := er) (ka := kk) (kb := kr) (ea' := ek ++ [em]) (eb' := er.drop 1) (e' := ex) (ka' := kk ++ kr.take 1) (kb' := kr.drop 1) (F := F)
          hok hk0 hr0 hem kL kbs kok rL rbs rok (by conv => lhs; rw [her]
                                                    simp) (by rw [List.append_assoc, List.take_append_drop]) (by
            intro W hW
            cases h with
            | zero =>
              have h1 : kr = [] := rok
              have h2 : kk = [] := kok
              subst h1 h2
              exact ⟨rfl, rfl⟩
            | succ h =>
              have h1 : kr.length = er.length + 1 := rok.1
              have h2 : kk.length = ek.length + 1 := kok.1
              refine ⟨⟨by simp; omega, fun x hx => hW.2 x ?_⟩, ⟨by simp; omega, fun x hx => hW.2 x (List.mem_append_right _ (List.mem_of_mem_drop hx))⟩⟩
              rcases List.mem_append.1 hx with hx | hx
              · exact List.mem_append_left _ hx
              · exact List.mem_append_right _ (List.mem_of_mem_take hx)) (by simp; omega) (by simp; omega) (by simp; omega) (by simp; omega) hF hnd q1 (by rw [List.map_append, List.map_take]; exact q2) (by rw [List.map_drop]; exact q3) q4 q5 (by
            intro x hx
            rcases List.mem_append.1 hx with hx | hx
            · exact q6 x hx
            · exact .inl (List.mem_append_right _ (List.mem_append_right _ hx)))
        obtain ⟨p1, p2⟩ := pos_turn_right hi hxk hie
        refine ⟨_, _, c, by rw [r1], r5, ?_, p2, by rw [r2]; simp; omega, by simp, by simp⟩
        rw [p1]
        have hjl : (ks.take i).length = i := by rw [List.length_take]; omega
        rw [List.append_assoc, List.getElem?_append_right (by omega), hjl, Nat.sub_self]
        rfl
      · have hnr : NoRight w m i es (ks.map Kid.b) := by
          intro hie
          obtain ⟨r, hr0⟩ : ∃ r, ks[i + 1]? = some r := ⟨ks[i + 1]'(by omega), List.getElem?_eq_getElem _⟩
          obtain ⟨hrr, hr1, hr2⟩ := hok.2 r (List.mem_of_getElem? hr0)
          obtain ⟨er, kr, rk, rv, rc, fk, fv, fc, rn, rN, rL, rbs, rok⟩ := hrr.open
          have h1 : ¬ m ≤ r.n := fun h => hRgt ⟨r, hie, hr0, h⟩
          exact ⟨r.b, er.length, fk, rk, _, _, by simp [hr0], rn.blk, by omega, by omega⟩
        by_cases hie : i < es.length
        · obtain ⟨r, hr0⟩ : ∃ r, ks[i + 1]? = some r := ⟨ks[i + 1]'(by omega), List.getElem?_eq_getElem _⟩
          have h1 : ¬ m ≤ r.n := fun h => hRgt ⟨r, hie, hr0, h⟩
          have hr1 := (hok.2 r (List.mem_of_getElem? hr0)).2.1
          have hem : es[i]? = some (es[i]'hie) := List.getElem?_eq_getElem _
          generalize es[i]'hie = em at hem
          refine (fillD_ok tb nb k.b k.b m i i tr tc es ek _ (kk.map Kid.b) gk gv gc hk hv hc ck cv cc dk dv dc w (P := fun w' => ∃ w1, Ext w w1 ∧ ∃ c : Kid, c.b = k.b ∧ c.n = k.n + r.n + 1 ∧ c.L = k.L ++ em :: r.L ∧ Recut w1 w' m h nb es ks gk gv gc ck cv cc F (es.take i ++ es.drop (i + 1)) (ks.take i ++ [c] ++ ks.drop (i + 2))) hB hN kn hno hnr hkb (.inr ⟨hie, rfl⟩) hm (by omega) (by omega) (by simp; omega) (by omega) ?_).mono ?_
          · intro w1 hE1
            refine (merge_recut (tb := tb) (hN.ext hE1) (hok.congr fun x hx b hb => Below.block hE1 b ((hok.2 x hx).1.lt b hb)) hm hm2 hes hk0 hr0 hem (by omega) (fun x hx => Nat.lt_of_lt_of_le (hF x hx) hE1.size) hnd).mono ?_
            rintro e w' ⟨rfl, hc⟩
            exact ⟨rfl, w1, hE1, hc⟩
          · rintro e w' ⟨rfl, w1, hE1, c, r1, r2, r3, r4⟩
            obtain ⟨p1, p2⟩ := pos_cut hsn hi hie
            refine ⟨_, _, c, by rw [r1], ⟨r4.node, r4.ok, r4.L, (hE1.touch _).trans r4.touch, r4.nodup, fun x hx => (r4.sub x hx).imp id fun h => Nat.le_trans hE1.size h⟩, ?_, p2, by omega, by simp; omega, by simp; omega⟩
            rw [p1]
            have hjl : (ks.take i).length = i := by rw [List.length_take]; omega
            rw [List.append_assoc, List.getElem?_append_right (by omega), hjl, Nat.sub_self]
            rfl
        · obtain ⟨q, rfl⟩ : ∃ q, i = q + 1 := ⟨i - 1, by omega⟩
          obtain ⟨l, hl0⟩ : ∃ l, ks[q]? = some l := ⟨ks[q]'(by omega), List.getElem?_eq_getElem _⟩
          have h1 : ¬ m ≤ l.n := fun h => hLft ⟨q, l, rfl, hl0, h⟩
          have hl1 := (hok.2 l (List.mem_of_getElem? hl0)).2.1
          have hem : es[q]? = some (es[q]'(by omega)) := List.getElem?_eq_getElem _
          generalize es[q]'(by omega) = em at hem
          refine (fillD_ok tb nb k.b l.b m (q + 1) q tr tc es ek _ (kk.map Kid.b) gk gv gc hk hv hc ck cv cc dk dv dc w (P := fun w' => ∃ w1, Ext w w1 ∧ ∃ c : Kid, c.b = l.b ∧ c.n = l.n + k.n + 1 ∧ c.L = l.L ++ em :: k.L ∧ Recut w1 w' m h nb es ks gk gv gc ck cv cc F (es.take q ++ es.drop (q + 1)) (ks.take q ++ [c] ++ ks.drop (q + 2))) hB hN kn hno hnr hkb (.inl ⟨by omega, rfl⟩) hm (by omega) (by omega) (by simp; omega) (by omega) ?_).mono ?_
          · intro w1 hE1
            refine (merge_recut (tb := tb) (hN.ext hE1) (hok.congr fun x hx b hb => Below.block hE1 b ((hok.2 x hx).1.lt b hb)) hm hm2 hes hl0 hk0 hem (by omega) (fun x hx => Nat.lt_of_lt_of_le (hF x hx) hE1.size) hnd).mono ?_
            rintro e w' ⟨rfl, hc⟩
            exact ⟨rfl, w1, hE1, hc⟩
          · rintro e w' ⟨rfl, w1, hE1, c, r1, r2, r3, r4⟩
            obtain ⟨p1, p2⟩ := pos_cut_last hi (by omega)
            refine ⟨_, _, c, by rw [r1], ⟨r4.node, r4.ok, r4.L, (hE1.touch _).trans r4.touch, r4.nodup, fun x hx => (r4.sub x hx).imp id fun h => Nat.le_trans hE1.size h⟩, ?_, p2, by omega, by simp; omega, by simp; omega⟩
            rw [p1]
            have hjl : (ks.take q).length = q := by rw [List.length_take]; omega
            rw [List.append_assoc, List.getElem?_append_right (by omega), hjl, Nat.sub_self]
            rfl
end Go.Proofs.Ytkejjahlglldlaa
