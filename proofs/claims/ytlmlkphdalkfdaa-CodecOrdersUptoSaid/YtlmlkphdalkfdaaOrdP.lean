/- CodecOrders: for every three slices of values the law returns true and the input reads as it did: the row's statement of the second form, proved. Condition: none beyond the row's own (its bound on the input's bulk). -/
import Derived.Test.YtlmlkphdalkfdaaIn
import Derived.Test.YtlmlkphdalkfdaaOrd
namespace Go.Proofs.Ytlmlkphdalkfdaa
open Go.ChangeShapes Go.WideShapes Go.ChangeAt Go.RowKit Go.Deep

theorem orders_contract (H : Type) (enc : TypeId × Value → H) (W : World) (base : Nat) (args : Array Value) (ds gs : List (DataW H)) (before : List MemPlace)
    (hval : ∀ (j : Nat) t v, Try.f10.params[j]? = some t → args[j]? = some v → Value.okWide Try.prog W .any base t v)
    (hW : DataW.Whole enc Try.prog Try.f10.params.toList Rows.codecOrdersSpec.vars false W args.toList ds gs before) (hk : Rows.uptoSmall H (ds ++ gs) = true) :
    Calls Try.prog 10 args W fun e W' => ∃ v, e = .returned v ∧ Rows.codecOrdersSpec.post enc Try.prog Try.f10 false true false false W args v W' := by
  have hW' := hW
  obtain ⟨p, q, hA0, hV, rfl, hfz, hnd⟩ := hW
  have hA : DataW.TrodAll enc Try.prog W 0 (fun _ => true) true Try.f10.params.toList args.toList ds p := hA0
  rw [Try.params10] at hA hval
  obtain ⟨v0, vs0, d0, ds0, p0, q0, hargs, rfl, rfl, h0, r0⟩ := trodAll_cons hA
  obtain ⟨v1, vs1, d1, ds1, p1, q1, rfl, rfl, rfl, h1, r1⟩ := trodAll_cons r0
  obtain ⟨v2, vs2, d2, ds2, p2, q2, rfl, rfl, rfl, h2, r2⟩ := trodAll_cons r1
  obtain ⟨rfl, rfl, rfl⟩ := trodAll_nil r2
  obtain rfl : args = #[v0, v1, v2] := by cases args; simp_all
  obtain ⟨rfl, rfl⟩ := trodVars_none hV
  obtain ⟨sa, n, ca, us, rfl, hn, hu, hbu, fu⟩ := open_vals (hval 0 28 v0 rfl rfl) h0
  obtain ⟨sb, m, cb, vs, rfl, hm, hv, hbv, fv⟩ := open_vals (hval 1 28 v1 rfl rfl) h1
  obtain ⟨sc, k, cc, xs, rfl, hx, hc, hbc, fx⟩ := open_vals (hval 2 28 v2 rfl rfl) h2
  have hd0 := Blk.arg_le hk (d := d0) (by simp)
  have hd1 := Blk.arg_le hk (d := d1) (by simp)
  have hd2 := Blk.arg_le hk (d := d2) (by simp)
  refine (orders_any sa sb sc n m k ca cb cc us vs xs W hn hm hx hu hv hc (by omega) (by omega) (by omega) (fun u hu => by have := fu u hu; omega) (fun u hu => by have := fv u hu; omega)).mono fun e W' ⟨he, hg⟩ => ?_
  subst he
  exact ⟨_, rfl, post_true laidOut (by kernel_rfl) (by kernel_rfl) Try.underlying4 rfl rfl rfl rfl hW' hg⟩

set_option maxRecDepth 100000 in
theorem orders_lifted (os : Os) (started : os.Started) (H : Type) (enc : TypeId × Value → H) (F : Stop.Interp) :
    ReturnsInHanded {} Try.checked os 10 .any ((Rows.OpenSpec.upto Rows.codecOrdersSpec).pre6 enc Try.prog Try.f10 Rows.codecOrdersUptoRow.domain false) (((Rows.OpenSpec.upto Rows.codecOrdersSpec).at F).post enc Try.prog Try.f10 false true false false) := by
  refine returnsInHanded_of_cond (C := Try.checked) (s := Rows.OpenSpec.upto Rows.codecOrdersSpec) (k := Rows.uptoSmall) rfl own started (by kernel_rfl) Try.func10
    (OpenSpec.witness (enc := enc) (C := Try.checked) (s := Rows.OpenSpec.upto Rows.codecOrdersSpec) (k := Rows.uptoSmall) rfl false ⟨#[], #[.slice none 0 0, .slice none 0 0, .slice none 0 0], []⟩ 8 (by kernel_rfl) (by kernel_rfl) (by kernel_rfl)
      (x := ([.nil, .nil, .nil], [], [])) (by kernel_rfl) rfl (by kernel_rfl)) ?_
  intro W base args ds gs before hval hW _ hk _
  exact orders_contract H enc W base args ds gs before hval hW hk

theorem orders_said : Rows.CodecOrdersUptoSaid :=
  OpenClaim.holds_of_cond 10 Try.f10 rfl rfl rfl rfl rfl rfl rfl ⟨rfl, rfl, rfl, rfl, rfl⟩ rfl rfl rfl rfl rfl (by kernel_rfl) Try.func10 (by kernel_rfl)
    (of_decide_eq_true (by kernel_rfl)) (by unfold Func.isWrapper; first | (rw [if_pos (by decide +kernel)]; kernel_rfl) | (rw [if_neg (by decide +kernel)]; exact ⟨rfl, rfl⟩))
    (fun os started H enc _ F => orders_lifted os started H enc F)
end Go.Proofs.Ytlmlkphdalkfdaa
