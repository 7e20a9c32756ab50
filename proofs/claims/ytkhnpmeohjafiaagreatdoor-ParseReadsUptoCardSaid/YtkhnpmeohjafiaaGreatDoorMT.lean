/- Lemmas. -/
import Derived.Test.YtkhnpmeohjafiaaGreatDoorMS
import Derived.Test.YtkhnpmeohjafiaaGreatDoorML
namespace Go.Proofs.YtkhnpmeohjafiaaGreatDoor
open Go.RowKit
theorem ei_num : EI Tryz.prog 30 2 1 8 :=
 ⟨Tryz.underlying30, by
  obtain ⟨i, h1, h2, h3, h4⟩ := info_parts (P := Tryz.prog) (e := 2) (z := .int .i64 0) (size := 1) (bytes := 8) (by kernel_rfl)
  exact ⟨i, _, h1, h2, h3, h4, rfl⟩, by omega, by omega⟩
theorem ei_per : EI Tryz.prog 31 28 2 16 :=
 ⟨Tryz.underlying31, by
  obtain ⟨i, h1, h2, h3, h4⟩ := info_parts (P := Tryz.prog) (e := 28) (z := .agg #[.int .i64 0, .int .i64 0]) (size := 2) (bytes := 16) (by kernel_rfl)
  exact ⟨i, _, h1, h2, h3, h4, rfl⟩, by omega, by omega⟩
end Go.Proofs.YtkhnpmeohjafiaaGreatDoor
