/- What the rows of this seat share: the world of the witness (all listed variables laid), the bound, MaxLen's cell out of the world's shape. -/
import Derived.Test.YtaiedccjaahmgaaDoorCards
import Derived.Test.YtaiedccjaahmgaaDoorTie
import Derived.Test.YtaiedccjaahmgaaDoorOpn
import Derived.Test.YtaiedccjaahmgaaDoorShf
import Derived.Test.YtaiedccjaahmgaaDoorLex7
import Derived.LaidMore
import Derived.Lay
import Derived.Deep.DeepHandedRow
import Derived.Stop.Joined
import Derived.SevenTiedAt
namespace Go.Proofs.YtaiedccjaahmgaaDoor
open Go.ChangeShapes Go.WideShapes Go.ChangeAt Go.RowKit Go.Deep

theorem laidOut : laidOutB Tryd.prog = true := by kernel_rfl
theorem own : ownKnob Tryd.prog.godebug = none := by kernel_rfl

/-- 'There is an input that fits': at a world that is written out. -/
theorem witness_all {H : Type} {enc : TypeId × Value → H} {C : Checked} {os : Os} {f : FuncId} {fn : Func} {s : OpenSpec} {conds : List PathCond} {apart : Bool} {laid : List (String × DataW Unit)} (w0 : World) (args : Array Value) (hos : w0.os = os)
    (hsh : (w0.forCall (fun _ _ => 0) ⟨#[], args, []⟩).Shaped C.prog) (hok : Input.okWideB C.prog (w0.forCall (fun _ _ => 0) ⟨#[], args, []⟩) f ⟨#[], args, []⟩ = true)
    (hrow : s.preRow enc C.prog fn conds apart laid (w0.forCall (fun _ _ => 0) ⟨#[], args, []⟩).memory args) :
    ∃ (w : World) (tape : Tape) (i : Input), w.os = os ∧ (w.forCall tape i).Shaped C.prog ∧ i.vars = [] ∧ Input.okWide C.prog (w.forCall tape i) .any w.heap.size f i ∧
      s.preRow enc C.prog fn conds apart laid (w.forCall tape i).memory i.args ∧ ({} : Assume).holds C.prog (lone (Frame.enter C.prog f i.args .normal) [] (w.forCall tape i)) :=
  ⟨w0, fun _ _ => 0, ⟨#[], args, []⟩, hos, hsh, (Input.okWide_of_okWideB (base := 0) hok).1, (Input.okWide_of_okWideB hok).2, hrow, by
    simp only [Assume.holds]
    exact ⟨by simp, by simp, fun _ => Modest.zero, by simp, by simp⟩⟩

theorem max_of_shape {W : World} (h : W.ShapedOpen Tryd.prog) : MaxOk W := Tryd.laysM155.s1_3 W h

theorem open_str {H : Type} {enc : TypeId × Value → H} {w : World} {b0 : Nat} {v : Value} {d : DataW H} {p : List MemPlace}
    (hv : Value.okWide Tryd.prog w .any b0 9 v) (h : DataW.Trod enc Tryd.prog w 0 (fun _ => true) true 9 v d p) : ∃ l : List UInt8, v = str l ∧ l.length ≤ Rows.uptoBulk d := by
  obtain ⟨s, rfl, rfl, -, -⟩ := Go.ChangeMaps.open_string Tryd.underlying9 hv h
  refine ⟨s.data.toList, rfl, ?_⟩
  have := Blk.string_eq (H := H) s.data.toList
  omega
end Go.Proofs.YtaiedccjaahmgaaDoor
