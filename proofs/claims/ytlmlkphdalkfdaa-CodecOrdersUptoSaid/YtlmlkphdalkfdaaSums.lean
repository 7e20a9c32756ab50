/- CodecSums: walked. -/
import Derived.Test.YtlmlkphdalkfdaaAwk
namespace Go.Proofs.Ytlmlkphdalkfdaa
open Go.RowKit

theorem conv_at {w : World} {v : Value} {l : List UInt8} (h : BytesAt w v l) : (convert 22 9 v).run Try.prog w = .ok (str l) w := by
  obtain ⟨a, c, rfl, h0, hc⟩ := h
  cases a with
  | none =>
    obtain rfl := h0 rfl
    cases l with
    | nil => exact run_convert_bytes_nil (w := w) 22 5 Try.underlying22 Try.underlying5 0 0 9 Try.underlying9
    | cons x l => obtain ⟨b, off, h, _⟩ := hc (by simp); cases h
  | some p =>
    refine run_convert_bytes_back w _ _ 5 p c l Try.underlying22 Try.underlying5 Try.underlying9 (fun j hj => ?_)
    obtain ⟨b, off, h, h2⟩ := hc (by omega)
    cases h
    have := h2 j _ (List.getElem?_eq_getElem hj)
    unfold Addr.add
    split
    · rename_i h0; subst h0; exact this
    · exact this

theorem size_byte : Try.prog.elem 22 = 5 ∧ ∀ w : World, (sizeOf 5).run Try.prog w = .ok 1 w := by
  refine ⟨by kernel_rfl, fun w => ?_⟩
  obtain ⟨i, z, h1, _, h2, _⟩ := ei_byte.info
  simp [sizeOf, typeInfo, h1, h2]
theorem add_flat (b off k : Nat) : (⟨b, off, none⟩ : Addr).add k = ⟨b, off + k, none⟩ := by
  unfold Addr.add; split <;> simp_all
theorem und_elem : Try.prog.underlying 22 = some (.slice (Try.prog.elem 22)) := by rw [size_byte.1]; exact Try.underlying22
theorem bytes_to {w : World} {a : Option Addr} {c k : Nat} {l : List UInt8} (h : BytesAt w (.slice a l.length c) l) (hc : l.length ≤ c) (hk : k ≤ l.length) :
    ∃ pa ca, (∀ w', (Instr.sliceAt 22 (.slice a l.length c) none (some (.int .i64 (k : Int))) none).run Try.prog w' = .ok (.slice pa k ca) w') ∧ BytesAt w (.slice pa k ca) (l.take k) := by
  obtain ⟨a', c', he, h0, hb⟩ := h
  obtain ⟨rfl, rfl⟩ : a = a' ∧ c = c' := by cases he; exact ⟨rfl, rfl⟩
  refine ⟨if c = 0 then a else a.map (·.add (0 * 1)), c, fun w' => ?_, ?_⟩
  · rw [run_sliceAt_slice _ _ _ _ _ _ und_elem, run_slice_h _ _ _ _ _ und_elem .i64 (k : Int) (by omega) (by omega), size_byte.1, size_byte.2 w']
    rfl
  · have hlen : (l.take k).length = k := by rw [List.length_take]; omega
    refine ⟨if c = 0 then a else a.map (·.add (0 * 1)), c, ?_, fun h => ?_, fun hp => ?_⟩
    · rw [hlen]
    · split at h
      · assumption
      · exact h0 (by cases a <;> simp_all)
    · rw [hlen] at hp
      obtain ⟨b, off, rfl, h2⟩ := hb (by omega)
      refine ⟨b, off, ?_, fun j x hx => h2 j x ?_⟩
      · rw [if_neg (by omega)]; simp [add_flat]
      · rw [List.getElem?_take] at hx; split at hx
        · exact hx
        · cases hx
theorem bytes_from {w : World} {a : Option Addr} {c k : Nat} {l : List UInt8} (h : BytesAt w (.slice a l.length c) l) (hc : l.length ≤ c) (hk : k ≤ l.length) :
    BytesAt w (.slice (if c = k then a else Option.map (fun x => x.add k) a) (l.length - k) (c - k)) (l.drop k) := by
  obtain ⟨a', c', he, h0, hb⟩ := h
  obtain ⟨rfl, rfl⟩ : a = a' ∧ c = c' := by cases he; exact ⟨rfl, rfl⟩
  · have hlen : (l.drop k).length = l.length - k := by rw [List.length_drop]
    refine ⟨if c = k then a else Option.map (fun x => x.add k) a, c - k, ?_, fun h => ?_, fun hp => ?_⟩
    · rw [hlen]
    · split at h
      · omega
      · have := h0 (by cases a <;> simp_all); omega
    · rw [hlen] at hp
      obtain ⟨b, off, rfl, h2⟩ := hb (by omega)
      refine ⟨b, off + k, ?_, fun j x hx => ?_⟩
      · rw [if_neg (by omega)]; simp [add_flat]
      · rw [List.getElem?_drop] at hx; rw [Nat.add_assoc]; exact h2 _ _ hx

theorem plan_p1 {P : Program} {ops : Array Oper} {Q : Exit → Act → World → Prop} {i : Nat} {o : Oper} {rest : List PS} {a : Act} {w : World} {r : List Oper} (ho : ops.toList.drop i = o :: r) (hw : Region.wanted o (yielded ops a.tmps) = true) (v : Value)
    (h : ∀ w', (execOp a.eval o).run P w' = .ok (.value v) w') (h2 : ∀ K : Act → Prop, (∀ a, wpPlan P ops Q rest a w → K a) → K (a.put o.dst v)) :
    wpPlan P ops Q (.p i :: rest) a w := ⟨o, at_drop ho, by
      rw [if_pos hw]
      exact ⟨v, h, h2 _ fun _ h => h⟩⟩

set_option maxRecDepth 100000 in
set_option maxHeartbeats 8000000 in
theorem sums_any (v : Value) (l : List UInt8) (cut : Int) (w : World) (hv : BytesAt w v l) (hcap : ∀ a n c, v = .slice a n c → n ≤ c) (hl : l.length ≤ 1000000000) (h1 : -9223372036854775808 ≤ cut) (h2 : cut ≤ 9223372036854775807) :
    Calls Try.prog 3 #[v, .int .i64 cut] w (fun e w' => e = .returned (.bool true) ∧ Ext w w') := by
  obtain ⟨a, c, rfl, h0, hc⟩ := hv
  have hv : BytesAt w (.slice a l.length c) l := ⟨a, c, rfl, h0, hc⟩
  have HV := Lib.hid hv; clear hv h0 hc
  have HCAP := Lib.hid (hcap _ _ _ rfl); clear hcap
  go_enter Try.func3, Try.ntmps3
  go_wp2_with fail
  refine (awake_ok w).mono ?_
  rintro e w1 ⟨rfl, hE1⟩
  have hcv := conv_at (HV.out.ext hE1)
  go_wp2_with fail
  refine (RSum_ok l w1 (by omega)).mono ?_
  rintro e w2 ⟨rfl, hE2⟩
  clear hcv
  have hEw := hE1.trans hE2
  by_cases hc0 : cut < 0
  · clear h1 h2
    go_wp2_with fail
    refine region_calm [.p 0, .p 3, .h 1 false, .h 2 false, .p 4, .p 5, .p 6, .p 7, .p 8, .p 9, .p 10, .p 11, .p 14, .h 12 false, .h 13 false, .p 15, .p 16, .p 17, .p 18, .p 21, .h 19 false, .h 20 false, .p 22, .p 23, .p 24] f_mixed (by kernel_rfl) (by kernel_rfl) ?_
    repeat (first | (refine plan_p rfl (fun K hK => ?_); go_simp; refine hK _ ?_; clear hK K) | (refine plan_l rfl (fun K hK => ?_); go_simp; refine hK _ ?_; clear hK K))
    refine plan_c rfl rfl (fun K _ hK => ?_)
    go_wp2_with fail
    refine plan_c rfl rfl (fun K _ hK => ?_)
    go_wp2_with fail
    refine (Sum_ok w2.heap.size 1 [l] _ (by simp) (fun i x hx => ?_)).mono ?_
    · match i, hx with
      | 0, hx =>
        cases hx
        exact ⟨by omega, _, blk_cell (by rw [blk_drew]; exact blk_new w2 _) rfl, HV.out.ext (((hE1.trans hE2).alloc _).drew)⟩
      | i + 1, hx => simp at hx
    rintro e w3 ⟨rfl, rfl⟩
    have hf1 : crcOf ([l] : List (List UInt8)).flatten = crcOf l := by simp
    rw [hf1]
    clear hf1
    go_wp2_with fail
    repeat (first | (refine plan_p rfl (fun K hK => ?_); go_simp; refine hK _ ?_; clear hK K) | (refine plan_l rfl (fun K hK => ?_); go_simp; refine hK _ ?_; clear hK K))
    refine plan_h rfl (fun K hK => ?_)
    go_wp2_with fail
    refine plan_h rfl (fun K hK => ?_)
    go_wp2_with fail
    refine (Sum_ok (w2.heap.size + 1) 2 [[], l] _ (by simp) (fun i x hx => ?_)).mono ?_
    · match i, hx with
      | 0, hx =>
        cases hx
        exact ⟨by simp, _, blk_cell (by rw [blk_drew]; exact blk_new2 w2 _ _) rfl, by
          obtain ⟨a', c', he, h0, _⟩ := HV.out
          cases he
          exact ⟨_, _, rfl, h0, fun h => by simp at h⟩⟩
      | 1, hx =>
        cases hx
        exact ⟨by omega, _, blk_cell (by rw [blk_drew]; exact blk_new2 w2 _ _) rfl, HV.out.ext ((((hE1.trans hE2).alloc _).alloc _).drew)⟩
      | i + 2, hx => simp at hx
    rintro e w3 ⟨rfl, rfl⟩
    have hf2 : crcOf ([[], l] : List (List UInt8)).flatten = crcOf l := by simp
    rw [hf2]
    clear hf2
    go_wp2_with fail
    repeat (first | (refine plan_p rfl (fun K hK => ?_); go_simp; refine hK _ ?_; clear hK K) | (refine plan_l rfl (fun K hK => ?_); go_simp; refine hK _ ?_; clear hK K))
    refine plan_h rfl (fun K hK => ?_)
    go_wp2_with fail
    refine plan_h rfl (fun K hK => ?_)
    go_wp2_with fail
    refine (Sum_ok (w2.heap.size + 1 + 1) 3 [[], l, []] _ (by simp) (fun i x hx => ?_)).mono ?_
    · have hb3 := blk_new2 (w2.alloc (.cells #[.slice a l.length c] 22)) (.cells #[.slice a 0 c, .slice a l.length c] 22) (.cells #[.slice none 0 0, .slice a l.length c, .slice none 0 0] 22)
      rw [World.size_alloc] at hb3
      match i, hx with
      | 0, hx =>
        cases hx
        exact ⟨by simp, _, blk_cell (by rw [blk_drew]; exact hb3) rfl, BytesAt.nil _⟩
      | 1, hx =>
        cases hx
        exact ⟨by omega, _, blk_cell (by rw [blk_drew]; exact hb3) rfl, HV.out.ext (((((hE1.trans hE2).alloc _).alloc _).alloc _).drew)⟩
      | 2, hx =>
        cases hx
        exact ⟨by simp, _, blk_cell (by rw [blk_drew]; exact hb3) rfl, BytesAt.nil _⟩
      | i + 3, hx => simp at hx
    rintro e w3 ⟨rfl, rfl⟩
    have hf3 : crcOf ([[], l, []] : List (List UInt8)).flatten = crcOf l := by simp
    rw [hf3]
    clear hf3
    go_wp2_with fail
    repeat (first | (refine plan_p rfl (fun K hK => ?_); go_simp; refine hK _ ?_; clear hK K) | (refine plan_l rfl (fun K hK => ?_); go_simp; refine hK _ ?_; clear hK K))
    refine plan_done ?_
    go_wp2
    go_ret
    exact ⟨rfl, (((hEw.alloc _).alloc _).alloc _).drew⟩
  · by_cases hc1 : cut > l.length
    · clear h1 h2
      go_wp2_with fail
      refine region_calm [.p 0, .p 3, .h 1 false, .h 2 false, .p 4, .p 5, .p 6, .p 7, .p 8, .p 9, .p 10, .p 11, .p 14, .h 12 false, .h 13 false, .p 15, .p 16, .p 17, .p 18, .p 21, .h 19 false, .h 20 false, .p 22, .p 23, .p 24] f_mixed (by kernel_rfl) (by kernel_rfl) ?_
      repeat (first | (refine plan_p rfl (fun K hK => ?_); go_simp; refine hK _ ?_; clear hK K) | (refine plan_l rfl (fun K hK => ?_); go_simp; refine hK _ ?_; clear hK K))
      refine plan_c rfl rfl (fun K _ hK => ?_)
      go_wp2_with fail
      refine plan_c rfl rfl (fun K _ hK => ?_)
      go_wp2_with fail
      refine (Sum_ok w2.heap.size 1 [l] _ (by simp) (fun i x hx => ?_)).mono ?_
      · match i, hx with
        | 0, hx =>
          cases hx
          exact ⟨by omega, _, blk_cell (by rw [blk_drew]; exact blk_new w2 _) rfl, HV.out.ext (((hE1.trans hE2).alloc _).drew)⟩
        | i + 1, hx => simp at hx
      rintro e w3 ⟨rfl, rfl⟩
      have hf1 : crcOf ([l] : List (List UInt8)).flatten = crcOf l := by simp
      rw [hf1]
      clear hf1
      go_wp2_with fail
      repeat (first | (refine plan_p rfl (fun K hK => ?_); go_simp; refine hK _ ?_; clear hK K) | (refine plan_l rfl (fun K hK => ?_); go_simp; refine hK _ ?_; clear hK K))
      refine plan_h rfl (fun K hK => ?_)
      go_wp2_with fail
      refine plan_h rfl (fun K hK => ?_)
      go_wp2_with fail
      refine (Sum_ok (w2.heap.size + 1) 2 [[], l] _ (by simp) (fun i x hx => ?_)).mono ?_
      · match i, hx with
        | 0, hx =>
          cases hx
          exact ⟨by simp, _, blk_cell (by rw [blk_drew]; exact blk_new2 w2 _ _) rfl, by
            obtain ⟨a', c', he, h0, _⟩ := HV.out
            cases he
            exact ⟨_, _, rfl, h0, fun h => by simp at h⟩⟩
        | 1, hx =>
          cases hx
          exact ⟨by omega, _, blk_cell (by rw [blk_drew]; exact blk_new2 w2 _ _) rfl, HV.out.ext ((((hE1.trans hE2).alloc _).alloc _).drew)⟩
        | i + 2, hx => simp at hx
      rintro e w3 ⟨rfl, rfl⟩
      have hf2 : crcOf ([[], l] : List (List UInt8)).flatten = crcOf l := by simp
      rw [hf2]
      clear hf2
      go_wp2_with fail
      repeat (first | (refine plan_p rfl (fun K hK => ?_); go_simp; refine hK _ ?_; clear hK K) | (refine plan_l rfl (fun K hK => ?_); go_simp; refine hK _ ?_; clear hK K))
      refine plan_h rfl (fun K hK => ?_)
      go_wp2_with fail
      refine plan_h rfl (fun K hK => ?_)
      go_wp2_with fail
      refine (Sum_ok (w2.heap.size + 1 + 1) 3 [[], l, []] _ (by simp) (fun i x hx => ?_)).mono ?_
      · have hb3 := blk_new2 (w2.alloc (.cells #[.slice a l.length c] 22)) (.cells #[.slice a 0 c, .slice a l.length c] 22) (.cells #[.slice none 0 0, .slice a l.length c, .slice none 0 0] 22)
        rw [World.size_alloc] at hb3
        match i, hx with
        | 0, hx =>
          cases hx
          exact ⟨by simp, _, blk_cell (by rw [blk_drew]; exact hb3) rfl, BytesAt.nil _⟩
        | 1, hx =>
          cases hx
          exact ⟨by omega, _, blk_cell (by rw [blk_drew]; exact hb3) rfl, HV.out.ext (((((hE1.trans hE2).alloc _).alloc _).alloc _).drew)⟩
        | 2, hx =>
          cases hx
          exact ⟨by simp, _, blk_cell (by rw [blk_drew]; exact hb3) rfl, BytesAt.nil _⟩
        | i + 3, hx => simp at hx
      rintro e w3 ⟨rfl, rfl⟩
      have hf3 : crcOf ([[], l, []] : List (List UInt8)).flatten = crcOf l := by simp
      rw [hf3]
      clear hf3
      go_wp2_with fail
      repeat (first | (refine plan_p rfl (fun K hK => ?_); go_simp; refine hK _ ?_; clear hK K) | (refine plan_l rfl (fun K hK => ?_); go_simp; refine hK _ ?_; clear hK K))
      refine plan_done ?_
      go_wp2
      go_ret
      exact ⟨rfl, (((hEw.alloc _).alloc _).alloc _).drew⟩
    · obtain ⟨k, rfl⟩ : ∃ k : Nat, cut = (k : Int) := ⟨cut.toNat, by omega⟩
      have hkl : k ≤ l.length := by omega
      have hc1' : ¬ (l.length : Int) < (k : Int) := by omega
      clear hc0 hc1
      go_wp2_with fail
      refine region_calm [.p 0, .p 3, .h 1 false, .h 2 false, .p 4, .p 5, .p 6, .p 7, .p 8, .p 9, .p 10, .p 11, .p 14, .h 12 false, .h 13 false, .p 15, .p 16, .p 17, .p 18, .p 21, .h 19 false, .h 20 false, .p 22, .p 23, .p 24] f_mixed (by kernel_rfl) (by kernel_rfl) ?_
      repeat (first | (refine plan_p rfl (fun K hK => ?_); go_simp; refine hK _ ?_; clear hK K) | (refine plan_l rfl (fun K hK => ?_); go_simp; refine hK _ ?_; clear hK K))
      refine plan_c rfl rfl (fun K _ hK => ?_)
      go_wp2_with fail
      refine plan_c rfl rfl (fun K _ hK => ?_)
      go_wp2_with fail
      refine (Sum_ok w2.heap.size 1 [l] _ (by simp) (fun i x hx => ?_)).mono ?_
      · match i, hx with
        | 0, hx =>
          cases hx
          exact ⟨by omega, _, blk_cell (by rw [blk_drew]; exact blk_new w2 _) rfl, HV.out.ext (((hE1.trans hE2).alloc _).drew)⟩
        | i + 1, hx => simp at hx
      rintro e w3 ⟨rfl, rfl⟩
      have hf1 : crcOf ([l] : List (List UInt8)).flatten = crcOf l := by simp
      rw [hf1]
      clear hf1
      obtain ⟨pa, ca, hva, hba⟩ := bytes_to (HV.out.ext hEw) HCAP.out hkl
      have hbb := bytes_from (HV.out.ext hEw) HCAP.out hkl
      have HVA := Lib.hid hva
      have HBA := Lib.hid hba
      have HBB := Lib.hid hbb
      clear hva hba hbb
      go_wp2_with fail
      repeat (first | (refine plan_p rfl (fun K hK => ?_); go_simp; refine hK _ ?_; clear hK K) | (refine plan_l rfl (fun K hK => ?_); go_simp; refine hK _ ?_; clear hK K))
      refine plan_p1 rfl (by rfl) (.slice pa k ca) (fun w' => ?_) (fun K hK => ?_)
      · show ((Instr.sliceAt 22 (.slice a l.length c) none (some (.int .i64 (k : Int))) none >>= fun v => pure (Next.value v)).run Try.prog w') = _
        rw [Sem.run_bind, HVA.out]
        rfl
      go_simp; refine hK _ ?_; clear hK K
      repeat (first | (refine plan_p rfl (fun K hK => ?_); go_simp; refine hK _ ?_; clear hK K) | (refine plan_l rfl (fun K hK => ?_); go_simp; refine hK _ ?_; clear hK K))
      generalize (if c = k then a else Option.map (fun x => x.add k) a) = pb at *
      generalize c - k = cb at *
      generalize l.length - k = nb at *
      refine plan_h rfl (fun K hK => ?_)
      go_wp2_with fail
      refine plan_h rfl (fun K hK => ?_)
      go_wp2_with fail
      refine (Sum_ok (w2.heap.size + 1) 2 [l.take k, l.drop k] _ (by simp) (fun i x hx => ?_)).mono ?_
      · match i, hx with
        | 0, hx =>
          cases hx
          exact ⟨by rw [List.length_take]; omega, _, blk_cell (by rw [blk_drew]; exact blk_new2 w2 _ _) rfl, HBA.out.ext ((((Ext.refl w2).alloc _).alloc _).drew)⟩
        | 1, hx =>
          cases hx
          exact ⟨by rw [List.length_drop]; omega, _, blk_cell (by rw [blk_drew]; exact blk_new2 w2 _ _) rfl, HBB.out.ext ((((Ext.refl w2).alloc _).alloc _).drew)⟩
        | i + 2, hx => simp at hx
      rintro e w3 ⟨rfl, rfl⟩
      have hf2 : crcOf ([l.take k, l.drop k] : List (List UInt8)).flatten = crcOf l := by simp
      rw [hf2]
      clear hf2 HBA HBB
      go_wp2_with fail
      repeat (first | (refine plan_p rfl (fun K hK => ?_); go_simp; refine hK _ ?_; clear hK K) | (refine plan_l rfl (fun K hK => ?_); go_simp; refine hK _ ?_; clear hK K))
      refine plan_h rfl (fun K hK => ?_)
      go_wp2_with fail
      refine plan_h rfl (fun K hK => ?_)
      go_wp2_with fail
      refine (Sum_ok (w2.heap.size + 1 + 1) 3 [[], l, []] _ (by simp) (fun i x hx => ?_)).mono ?_
      · have hb3 := blk_new2 (w2.alloc (.cells #[.slice a l.length c] 22)) (.cells #[.slice pa k ca, .slice pb nb cb] 22) (.cells #[.slice none 0 0, .slice a l.length c, .slice none 0 0] 22)
        rw [World.size_alloc] at hb3
        match i, hx with
        | 0, hx =>
          cases hx
          exact ⟨by simp, _, blk_cell (by rw [blk_drew]; exact hb3) rfl, BytesAt.nil _⟩
        | 1, hx =>
          cases hx
          exact ⟨by omega, _, blk_cell (by rw [blk_drew]; exact hb3) rfl, HV.out.ext (((((hE1.trans hE2).alloc _).alloc _).alloc _).drew)⟩
        | 2, hx =>
          cases hx
          exact ⟨by simp, _, blk_cell (by rw [blk_drew]; exact hb3) rfl, BytesAt.nil _⟩
        | i + 3, hx => simp at hx
      rintro e w3 ⟨rfl, rfl⟩
      have hf3 : crcOf ([[], l, []] : List (List UInt8)).flatten = crcOf l := by simp
      rw [hf3]
      clear hf3
      go_wp2_with fail
      repeat (first | (refine plan_p rfl (fun K hK => ?_); go_simp; refine hK _ ?_; clear hK K) | (refine plan_l rfl (fun K hK => ?_); go_simp; refine hK _ ?_; clear hK K))
      refine plan_done ?_
      go_wp2
      go_ret
      exact ⟨rfl, (((hEw.alloc _).alloc _).alloc _).drew⟩

end Go.Proofs.Ytlmlkphdalkfdaa
