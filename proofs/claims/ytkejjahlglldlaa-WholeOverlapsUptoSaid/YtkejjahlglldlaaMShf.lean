/- DERIVED: THE SHELF's CONTRACTS AT THIS DUMP, IN PLAIN WORDS (tools/lay-plain.mjs out of 'TryShelf.lean', which tools/lay-shelf.mjs wrote): THE SAME DECLARATIONS UNDER THE SAME NAMES: 'import', 'namespace', 'open', 'def', 'theorem' AND NOTHING ELSE: no command of the shelf's: FOR A HAND-IN. Each laying: the table of numbers ('.._ren') and one theorem, a field a fact of the dump's own or the kernel's comparison; each contract: ONE APPLICATION. -/
import Derived.Shelf.Small.Bits
import Derived.Shelf.Small.Strs
import Derived.Shelf.Strconv.Itoa0
import Derived.Ground.Names2Prog
import Derived.Shelf.Slices.ReverseS
import Derived.Shelf.Slices.Clone
import Derived.Shelf.Slices.SearchI
import Derived.Shelf.Slices.Delete
import Derived.Shelf.Slices.Cells
import Derived.Shelf.Slices.Empties
import Derived.Ground.SlgnProg
import Derived.Shelf.SlicesE.Compact
import Derived.Shelf.SlicesE.Clone
import Derived.Ground.SlgmProg
import Derived.Shelf.SortM.Plain
import Derived.Shelf.SortM.SortNone
import Derived.Shelf.SlSortCmp.WholeK
import Derived.Shelf.SlSortCmp.NoneTotal
import Derived.Ground.SlsfProg
import Derived.Test.YtkejjahlglldlaaProg
namespace Go.Proofs
open Go.Shelf
def Try.laysSlE43_f93_ren : Go.Shelf.Ren := ⟨fun | 43 => 93 | n => n, fun | 22 => 46 | 23 => 2 | 3 => 3 | 4 => 4 | 0 => 0 | n => n, fun | n => n⟩
theorem Try.laysSlE43_f93 : Go.Proofs.SlLaysE.n43 Try.prog Try.laysSlE43_f93_ren := {
  mixed := by kernel_rfl
  f43 := ⟨Try.f93.name, by decide, Try.func93.trans (congrArg some (by kernel_rfl))⟩
  t0 := Try.underlying0
  a0 := Try.isAgg0
  z0 := Try.sizeOf0
  v0 := Try.zeroValue0
  t3 := Try.underlying3
  a3 := Try.isAgg3
  z3 := Try.sizeOf3
  v3 := Try.zeroValue3
  t4 := Try.underlying4
  a4 := Try.isAgg4
  z4 := Try.sizeOf4
  v4 := Try.zeroValue4
  t22 := Try.underlying46
  a22 := Try.isAgg46
  z22 := Try.sizeOf46
  v22 := Try.zeroValue46
  a23 := Try.isAgg2
  z23 := Try.sizeOf2 }
open Go.RowKit Go.Lib Go.Sort in
/-- slices.Compact: "Compact replaces consecutive runs of equal elements with a single copy. .. Compact zeroes the elements between the new length and the original length.": IT RETURNS THE SLICE CUT TO 'compactUpTo d d.size'; ITS CELLS HOLD THAT, THEN ZERO VALUES up to the old length; the library's two loops are walked. (LAID AT THE INSTANCE 'slices.Compact[[]int64,int64]': no walk: one application.) -/
theorem Try.slices_Compact {α : Type} [Inhabited α] [DecidableEq α] (enc : α → Value) (hO : OneCell enc) (heq : EqlAt Try.prog 2 enc (fun x y => decide (x = y))) (hne : NeqAt Try.prog 2 enc (fun x y => decide (x = y))) (zr : α) (v23 : ∀ w, (zeroValue 2).run Try.prog w = .ok (enc zr) w) (blk off cap : Nat) (d : Array α) (w : World) (hH : Holds enc w blk off d) (hsz : d.size ≤ 9223372036854775807) (hcap : d.size ≤ cap) :
    Calls Try.prog 93 #[.slice (some ⟨blk, off, none⟩) d.size cap] w fun e w' => e = .returned (.slice (some ⟨blk, off, none⟩) (compactUpTo d d.size).length cap) ∧ ∃ q, w' = putRow enc (Sort.ahead w q) blk off (compactUpTo d d.size ++ List.replicate (d.size - (compactUpTo d d.size).length) zr).toArray := AnyE.slices_Compact Try.laysSlE43_f93 enc hO heq hne zr v23 blk off cap d w hH hsz hcap
def Try.laysSlM5_f59_ren : Go.Shelf.Ren := ⟨fun | 5 => 59 | 8 => 95 | 7 => 94 | 19 => 124 | 20 => 89 | 10 => 115 | 11 => 116 | 12 => 117 | 13 => 118 | 14 => 119 | 15 => 120 | 16 => 121 | 17 => 122 | 18 => 123 | 30 => 147 | 31 => 148 | 32 => 149 | 33 => 150 | 34 => 151 | 35 => 87 | 40 => 159 | n => n, fun | 23 => 46 | 25 => 2 | 3 => 3 | 32 => 105 | 22 => 46 | 0 => 0 | 44 => 197 | 46 => 95 | 4 => 4 | 36 => 190 | 35 => 189 | 41 => 86 | 5 => 5 | 9 => 9 | 53 => 211 | 57 => 215 | 63 => 222 | 64 => 223 | n => n, fun | n => n⟩
theorem Try.laysSlM5_f59 : Go.Proofs.SlLaysM.n5 Try.prog Try.laysSlM5_f59_ren := {
  mixed := by kernel_rfl
  f5 := ⟨Try.f59.name, by decide, Try.func59.trans (congrArg some (by kernel_rfl))⟩
  f7 := ⟨Try.f94.name, by decide, Try.func94.trans (congrArg some (by kernel_rfl))⟩
  f8 := Try.func95.trans (congrArg some (by kernel_rfl))
  f10 := ⟨Try.f115.name, by decide, Try.func115.trans (congrArg some (by kernel_rfl))⟩
  f11 := ⟨Try.f116.name, by decide, Try.func116.trans (congrArg some (by kernel_rfl))⟩
  f12 := ⟨Try.f117.name, by decide, Try.func117.trans (congrArg some (by kernel_rfl))⟩
  f13 := ⟨Try.f118.name, by decide, Try.func118.trans (congrArg some (by kernel_rfl))⟩
  f14 := ⟨Try.f119.name, by decide, Try.func119.trans (congrArg some (by kernel_rfl))⟩
  f15 := ⟨Try.f120.name, by decide, Try.func120.trans (congrArg some (by kernel_rfl))⟩
  f16 := ⟨Try.f121.name, by decide, Try.func121.trans (congrArg some (by kernel_rfl))⟩
  f17 := ⟨Try.f122.name, by decide, Try.func122.trans (congrArg some (by kernel_rfl))⟩
  f18 := ⟨Try.f123.name, by decide, Try.func123.trans (congrArg some (by kernel_rfl))⟩
  f19 := Try.func124.trans (congrArg some (by kernel_rfl))
  f20 := Try.func89.trans (congrArg some (by kernel_rfl))
  f30 := ⟨Try.f147.name, by decide, Try.func147.trans (congrArg some (by kernel_rfl))⟩
  f31 := Try.func148.trans (congrArg some (by kernel_rfl))
  f32 := Try.func149.trans (congrArg some (by kernel_rfl))
  f33 := ⟨Try.f150.name, by decide, Try.func150.trans (congrArg some (by kernel_rfl))⟩
  f34 := ⟨Try.f151.name, by decide, Try.func151.trans (congrArg some (by kernel_rfl))⟩
  f35 := ⟨Try.f87.name, by decide, Try.func87.trans (congrArg some (by kernel_rfl))⟩
  f40 := ⟨Try.f159.name, by decide, Try.func159.trans (congrArg some (by kernel_rfl))⟩
  t0 := Try.underlying0
  a0 := Try.isAgg0
  z0 := Try.sizeOf0
  v0 := Try.zeroValue0
  t3 := Try.underlying3
  a3 := Try.isAgg3
  z3 := Try.sizeOf3
  v3 := Try.zeroValue3
  t4 := Try.underlying4
  a4 := Try.isAgg4
  z4 := Try.sizeOf4
  v4 := Try.zeroValue4
  t5 := Try.underlying5
  a5 := Try.isAgg5
  z5 := Try.sizeOf5
  v5 := Try.zeroValue5
  t9 := Try.underlying9
  a9 := Try.isAgg9
  z9 := Try.sizeOf9
  v9 := Try.zeroValue9
  t22 := Try.underlying46
  a22 := Try.isAgg46
  z22 := Try.sizeOf46
  v22 := Try.zeroValue46
  t23 := Try.underlying46
  a23 := Try.isAgg46
  z23 := Try.sizeOf46
  v23 := Try.zeroValue46
  t25 := Try.underlying2
  a25 := Try.isAgg2
  z25 := Try.sizeOf2
  v25 := Try.zeroValue2
  t32 := Try.underlying105
  a32 := Try.isAgg105
  z32 := Try.sizeOf105
  v32 := Try.zeroValue105
  t35 := Try.underlying189
  a35 := Try.isAgg189
  z35 := Try.sizeOf189
  v35 := Try.zeroValue189
  t36 := Try.underlying190
  a36 := Try.isAgg190
  z36 := Try.sizeOf190
  v36 := Try.zeroValue190
  t41 := Try.underlying86
  a41 := Try.isAgg86
  z41 := Try.sizeOf86
  v41 := Try.zeroValue86
  t44 := Try.underlying197
  a44 := Try.isAgg197
  z44 := Try.sizeOf197
  v44 := Try.zeroValue197
  t46 := Try.underlying95
  a46 := Try.isAgg95
  z46 := Try.sizeOf95
  v46 := Try.zeroValue95
  t53 := Try.underlying211
  a53 := Try.isAgg211
  z53 := Try.sizeOf211
  v53 := Try.zeroValue211
  t57 := Try.underlying215
  a57 := Try.isAgg215
  z57 := Try.sizeOf215
  v57 := Try.zeroValue215
  t63 := Try.underlying222
  a63 := Try.isAgg222
  z63 := Try.sizeOf222
  v63 := Try.zeroValue222
  t64 := Try.underlying223
  a64 := Try.isAgg223
  z64 := Try.sizeOf223
  v64 := Try.zeroValue223 }
open Go.Sort Go.RowKit in
theorem Try.slices_Sort_int (blk off cap : Nat) (zs : List Int) (w : World) (hH : Holds (Value.int .i64) w blk off zs.toArray) (hblk : blk < w.heap.size) (hsz : zs.length < 4611686018427387904) :
    Calls Try.prog 59 #[.slice (some ⟨blk, off, none⟩) zs.length cap] w fun e w' =>
      e = .returned (.tuple #[]) ∧ ∃ n os, w' = grow (putRow (Value.int .i64) (Sort.ahead w n) blk off (zs.mergeSort fun x y => decide (x ≤ y)).toArray) os := AnyM.slices_Sort_int Try.laysSlM5_f59 blk off cap zs w hH hblk hsz
open Go.RowKit Go.Sort in
/-- .. and plain. (LAID AT THE INSTANCE 'slices.Sort[[]int64,int64]': no walk: one application.) -/
theorem Try.slices_Sort_int_none (p : Option Addr) (cap : Nat) (w : World) :
    Calls Try.prog 59 #[.slice p 0 cap] w fun e w' => e = .returned (.tuple #[]) ∧ w' = w := AnyM.slices_Sort_int_none Try.laysSlM5_f59 p cap w
def Try.sortPer_ren : Go.Shelf.Ren := ⟨fun | 6 => 68 | 15 => 95 | 14 => 97 | 28 => 124 | 29 => 89 | 20 => 125 | 21 => 126 | 22 => 127 | 23 => 128 | 24 => 129 | 25 => 130 | 26 => 131 | 27 => 132 | 46 => 152 | 47 => 148 | 48 => 149 | 49 => 153 | 50 => 154 | 57 => 160 | n => n, fun | 22 => 43 | 24 => 45 | 25 => 144 | 3 => 3 | 39 => 105 | 0 => 0 | 53 => 197 | 55 => 95 | 4 => 4 | 46 => 190 | 45 => 189 | 50 => 86 | 5 => 5 | 9 => 9 | 66 => 211 | 70 => 215 | 76 => 222 | 77 => 223 | n => n, fun | n => n⟩
theorem Try.sortPer : Go.Proofs.SlLaysF0.n6 Try.prog Try.sortPer_ren := {
  mixed := by kernel_rfl
  f6 := ⟨Try.f68.name, by decide, Try.func68.trans (congrArg some (by kernel_rfl))⟩
  f14 := ⟨Try.f97.name, by decide, Try.func97.trans (congrArg some (by kernel_rfl))⟩
  f15 := Try.func95.trans (congrArg some (by kernel_rfl))
  f20 := ⟨Try.f125.name, by decide, Try.func125.trans (congrArg some (by kernel_rfl))⟩
  f21 := ⟨Try.f126.name, by decide, Try.func126.trans (congrArg some (by kernel_rfl))⟩
  f22 := ⟨Try.f127.name, by decide, Try.func127.trans (congrArg some (by kernel_rfl))⟩
  f23 := ⟨Try.f128.name, by decide, Try.func128.trans (congrArg some (by kernel_rfl))⟩
  f24 := ⟨Try.f129.name, by decide, Try.func129.trans (congrArg some (by kernel_rfl))⟩
  f25 := ⟨Try.f130.name, by decide, Try.func130.trans (congrArg some (by kernel_rfl))⟩
  f26 := ⟨Try.f131.name, by decide, Try.func131.trans (congrArg some (by kernel_rfl))⟩
  f27 := ⟨Try.f132.name, by decide, Try.func132.trans (congrArg some (by kernel_rfl))⟩
  f28 := Try.func124.trans (congrArg some (by kernel_rfl))
  f29 := Try.func89.trans (congrArg some (by kernel_rfl))
  f46 := ⟨Try.f152.name, by decide, Try.func152.trans (congrArg some (by kernel_rfl))⟩
  f47 := Try.func148.trans (congrArg some (by kernel_rfl))
  f48 := Try.func149.trans (congrArg some (by kernel_rfl))
  f49 := ⟨Try.f153.name, by decide, Try.func153.trans (congrArg some (by kernel_rfl))⟩
  f50 := ⟨Try.f154.name, by decide, Try.func154.trans (congrArg some (by kernel_rfl))⟩
  f57 := ⟨Try.f160.name, by decide, Try.func160.trans (congrArg some (by kernel_rfl))⟩
  t0 := Try.underlying0
  a0 := Try.isAgg0
  z0 := Try.sizeOf0
  v0 := Try.zeroValue0
  t3 := Try.underlying3
  a3 := Try.isAgg3
  z3 := Try.sizeOf3
  v3 := Try.zeroValue3
  t4 := Try.underlying4
  a4 := Try.isAgg4
  z4 := Try.sizeOf4
  v4 := Try.zeroValue4
  t5 := Try.underlying5
  a5 := Try.isAgg5
  z5 := Try.sizeOf5
  v5 := Try.zeroValue5
  t9 := Try.underlying9
  a9 := Try.isAgg9
  z9 := Try.sizeOf9
  v9 := Try.zeroValue9
  t22 := Try.underlying43
  a22 := Try.isAgg43
  z22 := Try.sizeOf43
  v22 := Try.zeroValue43
  t25 := Try.underlying144
  a25 := Try.isAgg144
  z25 := Try.sizeOf144
  v25 := Try.zeroValue144
  t39 := Try.underlying105
  a39 := Try.isAgg105
  z39 := Try.sizeOf105
  v39 := Try.zeroValue105
  t45 := Try.underlying189
  a45 := Try.isAgg189
  z45 := Try.sizeOf189
  v45 := Try.zeroValue189
  t46 := Try.underlying190
  a46 := Try.isAgg190
  z46 := Try.sizeOf190
  v46 := Try.zeroValue190
  t50 := Try.underlying86
  a50 := Try.isAgg86
  z50 := Try.sizeOf86
  v50 := Try.zeroValue86
  t53 := Try.underlying197
  a53 := Try.isAgg197
  z53 := Try.sizeOf197
  v53 := Try.zeroValue197
  t55 := Try.underlying95
  a55 := Try.isAgg95
  z55 := Try.sizeOf95
  v55 := Try.zeroValue95
  t66 := Try.underlying211
  a66 := Try.isAgg211
  z66 := Try.sizeOf211
  v66 := Try.zeroValue211
  t70 := Try.underlying215
  a70 := Try.isAgg215
  z70 := Try.sizeOf215
  v70 := Try.zeroValue215
  t76 := Try.underlying222
  a76 := Try.isAgg222
  z76 := Try.sizeOf222
  v76 := Try.zeroValue222
  t77 := Try.underlying223
  a77 := Try.isAgg223
  z77 := Try.sizeOf223
  v77 := Try.zeroValue223 }
def Try.sortFact_ren : Go.Shelf.Ren := ⟨fun | 6 => 73 | 15 => 95 | 14 => 100 | 28 => 124 | 29 => 89 | 20 => 133 | 21 => 134 | 22 => 135 | 23 => 136 | 24 => 137 | 25 => 138 | 26 => 139 | 27 => 140 | 46 => 155 | 47 => 148 | 48 => 149 | 49 => 156 | 50 => 157 | 57 => 161 | n => n, fun | 22 => 65 | 24 => 70 | 25 => 149 | 3 => 3 | 39 => 105 | 0 => 0 | 53 => 197 | 55 => 95 | 4 => 4 | 46 => 190 | 45 => 189 | 50 => 86 | 5 => 5 | 9 => 9 | 66 => 211 | 70 => 215 | 76 => 222 | 77 => 223 | n => n, fun | n => n⟩
theorem Try.sortFact : Go.Proofs.SlLaysF0.n6 Try.prog Try.sortFact_ren := {
  mixed := by kernel_rfl
  f6 := ⟨Try.f73.name, by decide, Try.func73.trans (congrArg some (by kernel_rfl))⟩
  f14 := ⟨Try.f100.name, by decide, Try.func100.trans (congrArg some (by kernel_rfl))⟩
  f15 := Try.func95.trans (congrArg some (by kernel_rfl))
  f20 := ⟨Try.f133.name, by decide, Try.func133.trans (congrArg some (by kernel_rfl))⟩
  f21 := ⟨Try.f134.name, by decide, Try.func134.trans (congrArg some (by kernel_rfl))⟩
  f22 := ⟨Try.f135.name, by decide, Try.func135.trans (congrArg some (by kernel_rfl))⟩
  f23 := ⟨Try.f136.name, by decide, Try.func136.trans (congrArg some (by kernel_rfl))⟩
  f24 := ⟨Try.f137.name, by decide, Try.func137.trans (congrArg some (by kernel_rfl))⟩
  f25 := ⟨Try.f138.name, by decide, Try.func138.trans (congrArg some (by kernel_rfl))⟩
  f26 := ⟨Try.f139.name, by decide, Try.func139.trans (congrArg some (by kernel_rfl))⟩
  f27 := ⟨Try.f140.name, by decide, Try.func140.trans (congrArg some (by kernel_rfl))⟩
  f28 := Try.func124.trans (congrArg some (by kernel_rfl))
  f29 := Try.func89.trans (congrArg some (by kernel_rfl))
  f46 := ⟨Try.f155.name, by decide, Try.func155.trans (congrArg some (by kernel_rfl))⟩
  f47 := Try.func148.trans (congrArg some (by kernel_rfl))
  f48 := Try.func149.trans (congrArg some (by kernel_rfl))
  f49 := ⟨Try.f156.name, by decide, Try.func156.trans (congrArg some (by kernel_rfl))⟩
  f50 := ⟨Try.f157.name, by decide, Try.func157.trans (congrArg some (by kernel_rfl))⟩
  f57 := ⟨Try.f161.name, by decide, Try.func161.trans (congrArg some (by kernel_rfl))⟩
  t0 := Try.underlying0
  a0 := Try.isAgg0
  z0 := Try.sizeOf0
  v0 := Try.zeroValue0
  t3 := Try.underlying3
  a3 := Try.isAgg3
  z3 := Try.sizeOf3
  v3 := Try.zeroValue3
  t4 := Try.underlying4
  a4 := Try.isAgg4
  z4 := Try.sizeOf4
  v4 := Try.zeroValue4
  t5 := Try.underlying5
  a5 := Try.isAgg5
  z5 := Try.sizeOf5
  v5 := Try.zeroValue5
  t9 := Try.underlying9
  a9 := Try.isAgg9
  z9 := Try.sizeOf9
  v9 := Try.zeroValue9
  t22 := Try.underlying65
  a22 := Try.isAgg65
  z22 := Try.sizeOf65
  v22 := Try.zeroValue65
  t25 := Try.underlying149
  a25 := Try.isAgg149
  z25 := Try.sizeOf149
  v25 := Try.zeroValue149
  t39 := Try.underlying105
  a39 := Try.isAgg105
  z39 := Try.sizeOf105
  v39 := Try.zeroValue105
  t45 := Try.underlying189
  a45 := Try.isAgg189
  z45 := Try.sizeOf189
  v45 := Try.zeroValue189
  t46 := Try.underlying190
  a46 := Try.isAgg190
  z46 := Try.sizeOf190
  v46 := Try.zeroValue190
  t50 := Try.underlying86
  a50 := Try.isAgg86
  z50 := Try.sizeOf86
  v50 := Try.zeroValue86
  t53 := Try.underlying197
  a53 := Try.isAgg197
  z53 := Try.sizeOf197
  v53 := Try.zeroValue197
  t55 := Try.underlying95
  a55 := Try.isAgg95
  z55 := Try.sizeOf95
  v55 := Try.zeroValue95
  t66 := Try.underlying211
  a66 := Try.isAgg211
  z66 := Try.sizeOf211
  v66 := Try.zeroValue211
  t70 := Try.underlying215
  a70 := Try.isAgg215
  z70 := Try.sizeOf215
  v70 := Try.zeroValue215
  t76 := Try.underlying222
  a76 := Try.isAgg222
  z76 := Try.sizeOf222
  v76 := Try.zeroValue222
  t77 := Try.underlying223
  a77 := Try.isAgg223
  z77 := Try.sizeOf223
  v77 := Try.zeroValue223 }
end Go.Proofs
