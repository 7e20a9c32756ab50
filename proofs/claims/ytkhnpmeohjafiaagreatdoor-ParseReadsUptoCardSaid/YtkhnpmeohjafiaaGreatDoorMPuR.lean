/- Lemmas. -/
import Derived.Test.YtkhnpmeohjafiaaGreatDoorCards
import Derived.Test.YtkhnpmeohjafiaaGreatDoorTie
import Derived.Test.YtkhnpmeohjafiaaGreatDoorMOpn
import Derived.Test.YtkhnpmeohjafiaaGreatDoorMQ
import Derived.LaidMore
import Derived.LaidSub
import Derived.Lay
import Derived.Lib.LaidTab
import Derived.Shelf.Vars
import Derived.Deep.DeepHandedRow
import Derived.Stop.Joined
import Derived.SevenTiedAt
set_option maxRecDepth 100000
namespace Go.Proofs.YtkhnpmeohjafiaaGreatDoor
open Go.ChangeShapes Go.WideShapes Go.ChangeAt Go.RowKit Go.Deep
theorem laidOut : laidOutB Tryz.prog = true := by kernel_rfl
theorem own : ownKnob Tryz.prog.godebug = none := by kernel_rfl
theorem witness_all {H : Type} {enc : TypeId × Value → H} {C : Checked} {os : Os} {f : FuncId} {fn : Func} {s : OpenSpec} {conds : List PathCond} {apart : Bool} {laid : List (String × DataW Unit)} (w0 : World) (args : Array Value) (hos : w0.os = os)
  (hsh : (w0.forCall (fun _ _ => 0) ⟨#[], args, []⟩).Shaped C.prog) (hok : Input.okWideB C.prog (w0.forCall (fun _ _ => 0) ⟨#[], args, []⟩) f ⟨#[], args, []⟩ = true)
  (hrow : s.preRow enc C.prog fn conds apart laid (w0.forCall (fun _ _ => 0) ⟨#[], args, []⟩).memory args) :
  ∃ (w : World) (tape : Tape) (i : Input), w.os = os ∧ (w.forCall tape i).Shaped C.prog ∧ i.vars = [] ∧ Input.okWide C.prog (w.forCall tape i) .any w.heap.size f i ∧
   s.preRow enc C.prog fn conds apart laid (w.forCall tape i).memory i.args ∧ ({} : Assume).holds C.prog (lone (Frame.enter C.prog f i.args .normal) [] (w.forCall tape i)) :=
 ⟨w0, fun _ _ => 0, ⟨#[], args, []⟩, hos, hsh, (Input.okWide_of_okWideB (base := 0) hok).1, (Input.okWide_of_okWideB hok).2, hrow, by
  simp only [Assume.holds]
  exact ⟨by simp, by simp, fun _ => Modest.zero, by simp, by simp⟩⟩
def laidL : List (String × DataW Unit) := [("math/bits.deBruijn32tab", Rows.laid_math_bits_deBruijn32tab), ("math/bits.deBruijn64tab", Rows.laid_math_bits_deBruijn64tab), ("internal/strconv.uint64pow10", Rows.laid_internal_strconv_uint64pow10), ("unicode/utf8.acceptRanges", Rows.laid_unicode_utf8_acceptRanges), ("unicode.CaseRanges", Rows.laid_unicode_CaseRanges), ("unicode/utf8.first", Rows.laid_unicode_utf8_first)]
theorem max_of_shape {W : World} (h : W.ShapedOpen Tryz.prog) : MaxOk W :=
 Go.Proofs.cell_of_shapedOpen_int (zero := #[.int .i64 0]) (t := 3) h (of_decide_eq_true (by kernel_rfl)) (by kernel_rfl) rfl (by kernel_rfl) (by kernel_rfl) Tryz.underlying3
theorem gl_of {W : World} (h : W.ShapedOpen Tryz.prog) (hl : laidMetH Tryz.prog laidL W) : Gl W := by
 refine ⟨max_of_shape h, ?_⟩
 rw [MakeChecks.laidMetH_plain _ _ _ (by kernel_rfl)] at hl
 have h1 := laidMet.filter (fun x => x.1 == "internal/strconv.uint64pow10") hl
 have h2 : (laidL.filter fun x => x.1 == "internal/strconv.uint64pow10") = ("internal/strconv.uint64pow10", Lib.tabData .u64 Lib.pow10Tab) :: [] := by kernel_rfl
 rw [h2] at h1
 exact Lib.tabIs_of_head (g := 0) (t := (Tryz.prog.globals[0]?).map (·.type) |>.getD 0) (e := 162) (n := 20) (by kernel_rfl) (by kernel_rfl) (by kernel_rfl) (by kernel_rfl) (by kernel_rfl) (by kernel_rfl) h1
theorem open_str {H : Type} {enc : TypeId × Value → H} {w : World} {b0 : Nat} {v : Value} {d : DataW H} {p : List MemPlace}
  (hv : Value.okWide Tryz.prog w .any b0 9 v) (h : DataW.Trod enc Tryz.prog w 0 (fun _ => true) true 9 v d p) : ∃ l : List UInt8, v = str l ∧ l.length ≤ Rows.uptoBulk d := by
 obtain ⟨s, rfl, rfl, -, -⟩ := Go.ChangeMaps.open_string Tryz.underlying9 hv h
 refine ⟨s.data.toList, rfl, ?_⟩
 have := Blk.string_eq (H := H) s.data.toList
 omega
end Go.Proofs.YtkhnpmeohjafiaaGreatDoor
