/- Lemmas. -/
import Derived.Shelf.Strings.Builder1
import Derived.Shelf.Strings.Builder2
import Derived.Shelf.Strings.OnBuilder
import Derived.Shelf.Small.Utf8
import Derived.Shelf.Strings.BuilderF
import Derived.Shelf.Strings.BuilderK
import Derived.Shelf.Utf8.RuneCount
import Derived.Shelf.Strconv.Itoa0
import Derived.Shelf.Strconv.Itoa1
import Derived.Shelf.LaysM
import Derived.Shelf.Strconv.Itoa2
import Derived.Shelf.Strconv.Itoa3
import Derived.Shelf.Strconv.Itoa4
import Derived.Shelf.Strings.Search1
import Derived.Shelf.Strings.Search2
import Derived.Shelf.Strings.Search3
import Derived.Shelf.Strings.Count
import Derived.Shelf.Strings.Shaped
import Derived.Shelf.Strings.Prefix
import Derived.Shelf.Strings.Split
import Derived.Shelf.Strings.Replace
import Derived.Shelf.Strings.SplitShaped
import Derived.Shelf.Unicode.Latin
import Derived.Shelf.Unicode.Decode
import Derived.Shelf.Strings.RuneCount
import Derived.Shelf.Unicode.DecodeSlow
import Derived.Shelf.Unicode.DecodeAny
import Derived.Shelf.Unicode.CaseLookup
import Derived.Shelf.Unicode.CaseConvert
import Derived.Shelf.Unicode.CaseTo
import Derived.Shelf.Unicode.CaseLaid
import Derived.Test.YtkhnpmeohjafiaaGreatDoorProg
namespace Go.Proofs
open Go.Shelf
def Tryz.lays169_ren : Go.Shelf.Ren := ⟨fun | 169 => 81 | n => n, fun | 70 => 132 | 9 => 9 | 0 => 0 | 72 => 134 | 37 => 54 | 127 => 159 | 3 => 3 | 5 => 5 | n => n, fun | n => n⟩
theorem Tryz.lays169 : Go.Proofs.Lays.n169 Tryz.prog Tryz.lays169_ren := {
 mixed := by kernel_rfl
 f169 := Tryz.func81.trans (congrArg some (by kernel_rfl))
 t0 := Tryz.underlying0
 a0 := Tryz.isAgg0
 z0 := Tryz.sizeOf0
 v0 := Tryz.zeroValue0
 t3 := Tryz.underlying3
 a3 := Tryz.isAgg3
 z3 := Tryz.sizeOf3
 v3 := Tryz.zeroValue3
 t9 := Tryz.underlying9
 a9 := Tryz.isAgg9
 z9 := Tryz.sizeOf9
 v9 := Tryz.zeroValue9
 t37 := Tryz.underlying54
 a37 := Tryz.isAgg54
 z37 := Tryz.sizeOf54
 v37 := Tryz.zeroValue54
 t70 := Tryz.underlying132
 a70 := Tryz.isAgg132
 z70 := Tryz.sizeOf132
 v70 := Tryz.zeroValue132
 t72 := Tryz.underlying134
 a72 := Tryz.isAgg134
 z72 := Tryz.sizeOf134
 v72 := Tryz.zeroValue134
 t127 := Tryz.underlying159
 a127 := Tryz.isAgg159
 z127 := Tryz.sizeOf159
 v127 := Tryz.zeroValue159 }
theorem Tryz.Builder_Extra_169 : Builder.Extra Tryz.prog Tryz.lays169_ren := {
 sizeBuilder := by kernel_rfl
 liesBuilder := by kernel_rfl
 t5 := Tryz.underlying5
 a5 := Tryz.isAgg5
 z5 := Tryz.sizeOf5
 v5 := Tryz.zeroValue5
 infoByte := by kernel_rfl
 cellsByte := by kernel_rfl
 sizeByte := by kernel_rfl
 neB5 := by decide }
open Go.RowKit in
theorem Tryz.Builder_String_any (B b : Nat) (l : List UInt8) (w : World) (h : Lib.IsBuilder 134 5 B b (Lib.byteCells l) w) (hBw : B ≤ w.heap.size) :
 Calls Tryz.prog 81 #[.pointer (some ⟨b, 0, none⟩)] w fun e w' => e = .returned (.string ⟨l.toArray⟩) ∧ Below B w w' := Any.Builder_String_any Tryz.lays169 Tryz.Builder_Extra_169 B b l w h hBw
def Tryz.lays158_ren : Go.Shelf.Ren := ⟨fun | 158 => 46 | 165 => 79 | 166 => 80 | 167 => 85 | 169 => 81 | 230 => 86 | 203 => 87 | 240 => 104 | 241 => 105 | 197 => 111 | 118 => 112 | 168 => 113 | 270 => 114 | 262 => 115 | 276 => 121 | 277 => 122 | 260 => 130 | 242 => 131 | 313 => 132 | 278 => 142 | 274 => 143 | 275 => 144 | n => n, fun | 9 => 9 | 4 => 4 | 3 => 3 | 5 => 5 | 72 => 134 | 0 => 0 | 76 => 138 | 75 => 137 | 107 => 144 | 70 => 132 | 20 => 20 | 37 => 54 | 127 => 159 | 21 => 21 | 105 => 168 | 164 => 174 | 162 => 189 | 203 => 187 | 119 => 194 | 46 => 183 | 139 => 197 | 138 => 196 | 51 => 180 | 160 => 198 | 208 => 209 | 206 => 207 | 80 => 108 | n => n, fun | 13 => 1 | 3 => 3 | 4 => 4 | n => n⟩
theorem Tryz.lays158 : Go.Proofs.Lays.n158 Tryz.prog Tryz.lays158_ren := {
 mixed := by kernel_rfl
 f118 := Tryz.func112.trans (congrArg some (by kernel_rfl))
 f158 := Tryz.func46.trans (congrArg some (by kernel_rfl))
 f165 := Tryz.func79.trans (congrArg some (by kernel_rfl))
 f166 := Tryz.func80.trans (congrArg some (by kernel_rfl))
 f167 := Tryz.func85.trans (congrArg some (by kernel_rfl))
 f168 := Tryz.func113.trans (congrArg some (by kernel_rfl))
 f169 := Tryz.func81.trans (congrArg some (by kernel_rfl))
 f197 := Tryz.func111.trans (congrArg some (by kernel_rfl))
 f203 := Tryz.func87.trans (congrArg some (by kernel_rfl))
 f230 := Tryz.func86.trans (congrArg some (by kernel_rfl))
 f240 := Tryz.func104.trans (congrArg some (by kernel_rfl))
 f241 := Tryz.func105.trans (congrArg some (by kernel_rfl))
 f242 := Tryz.func131.trans (congrArg some (by kernel_rfl))
 f260 := Tryz.func130.trans (congrArg some (by kernel_rfl))
 f262 := Tryz.func115.trans (congrArg some (by kernel_rfl))
 f270 := Tryz.func114.trans (congrArg some (by kernel_rfl))
 f274 := Tryz.func143.trans (congrArg some (by kernel_rfl))
 f275 := Tryz.func144.trans (congrArg some (by kernel_rfl))
 f276 := Tryz.func121.trans (congrArg some (by kernel_rfl))
 f277 := Tryz.func122.trans (congrArg some (by kernel_rfl))
 f278 := Tryz.func142.trans (congrArg some (by kernel_rfl))
 f313 := Tryz.func132.trans (congrArg some (by kernel_rfl))
 t0 := Tryz.underlying0
 a0 := Tryz.isAgg0
 z0 := Tryz.sizeOf0
 v0 := Tryz.zeroValue0
 t3 := Tryz.underlying3
 a3 := Tryz.isAgg3
 z3 := Tryz.sizeOf3
 v3 := Tryz.zeroValue3
 t4 := Tryz.underlying4
 a4 := Tryz.isAgg4
 z4 := Tryz.sizeOf4
 v4 := Tryz.zeroValue4
 t5 := Tryz.underlying5
 a5 := Tryz.isAgg5
 z5 := Tryz.sizeOf5
 v5 := Tryz.zeroValue5
 t9 := Tryz.underlying9
 a9 := Tryz.isAgg9
 z9 := Tryz.sizeOf9
 v9 := Tryz.zeroValue9
 t20 := Tryz.underlying20
 a20 := Tryz.isAgg20
 z20 := Tryz.sizeOf20
 v20 := Tryz.zeroValue20
 t21 := Tryz.underlying21
 a21 := Tryz.isAgg21
 z21 := Tryz.sizeOf21
 v21 := Tryz.zeroValue21
 t37 := Tryz.underlying54
 a37 := Tryz.isAgg54
 z37 := Tryz.sizeOf54
 v37 := Tryz.zeroValue54
 t46 := Tryz.underlying183
 a46 := Tryz.isAgg183
 z46 := Tryz.sizeOf183
 v46 := Tryz.zeroValue183
 t51 := Tryz.underlying180
 a51 := Tryz.isAgg180
 z51 := Tryz.sizeOf180
 v51 := Tryz.zeroValue180
 t70 := Tryz.underlying132
 a70 := Tryz.isAgg132
 z70 := Tryz.sizeOf132
 v70 := Tryz.zeroValue132
 t72 := Tryz.underlying134
 a72 := Tryz.isAgg134
 z72 := Tryz.sizeOf134
 v72 := Tryz.zeroValue134
 t75 := Tryz.underlying137
 a75 := Tryz.isAgg137
 z75 := Tryz.sizeOf137
 v75 := Tryz.zeroValue137
 t76 := Tryz.underlying138
 a76 := Tryz.isAgg138
 z76 := Tryz.sizeOf138
 v76 := Tryz.zeroValue138
 t105 := Tryz.underlying168
 a105 := Tryz.isAgg168
 z105 := Tryz.sizeOf168
 v105 := Tryz.zeroValue168
 t107 := Tryz.underlying144
 a107 := Tryz.isAgg144
 z107 := Tryz.sizeOf144
 v107 := Tryz.zeroValue144
 t119 := Tryz.underlying194
 a119 := Tryz.isAgg194
 z119 := Tryz.sizeOf194
 t127 := Tryz.underlying159
 a127 := Tryz.isAgg159
 z127 := Tryz.sizeOf159
 v127 := Tryz.zeroValue159
 t138 := Tryz.underlying196
 a138 := Tryz.isAgg196
 z138 := Tryz.sizeOf196
 v138 := Tryz.zeroValue196
 t139 := Tryz.underlying197
 a139 := Tryz.isAgg197
 z139 := Tryz.sizeOf197
 v139 := Tryz.zeroValue197
 t160 := Tryz.underlying198
 a160 := Tryz.isAgg198
 z160 := Tryz.sizeOf198
 v160 := Tryz.zeroValue198
 t162 := Tryz.underlying189
 a162 := Tryz.isAgg189
 z162 := Tryz.sizeOf189
 v162 := Tryz.zeroValue189
 t164 := Tryz.underlying174
 a164 := Tryz.isAgg174
 z164 := Tryz.sizeOf174
 v164 := Tryz.zeroValue174
 t203 := Tryz.underlying187
 a203 := Tryz.isAgg187
 z203 := Tryz.sizeOf187
 v203 := Tryz.zeroValue187
 t206 := Tryz.underlying207
 a206 := Tryz.isAgg207
 z206 := Tryz.sizeOf207
 v206 := Tryz.zeroValue207
 t208 := Tryz.underlying209
 a208 := Tryz.isAgg209
 z208 := Tryz.sizeOf209
 v208 := Tryz.zeroValue209
 g3 := by kernel_rfl
 g4 := by kernel_rfl
 g13 := by kernel_rfl }
theorem Tryz.Builder_Extra_158 : Builder.Extra Tryz.prog Tryz.lays158_ren := {
 sizeBuilder := by kernel_rfl
 liesBuilder := by kernel_rfl
 t5 := Tryz.underlying5
 a5 := Tryz.isAgg5
 z5 := Tryz.sizeOf5
 v5 := Tryz.zeroValue5
 infoByte := by kernel_rfl
 cellsByte := by kernel_rfl
 sizeByte := by kernel_rfl
 neB5 := by decide }
open Go.RowKit in
theorem Tryz.strings_ToUpper_ascii (s : ByteArray) (w : World) (hs : s.size ≤ 140737488355328) (hascii : ∀ (j : Nat) (b : UInt8), s.data.toList[j]? = some b → b.toNat < 128) :
 Calls Tryz.prog 46 #[.string s] w fun e w' => e = .returned (.string ⟨(Lib.toUpperA s.data.toList).toArray⟩) ∧ Below w.heap.size w w' := Any.strings_ToUpper_ascii Tryz.lays158 Tryz.Builder_Extra_158 s w hs hascii
def Tryz.lays156_ren : Go.Shelf.Ren := ⟨fun | 156 => 31 | 165 => 79 | 166 => 80 | 169 => 81 | 240 => 104 | 241 => 105 | 276 => 121 | 277 => 122 | n => n, fun | 31 => 24 | 9 => 9 | 3 => 3 | 4 => 4 | 0 => 0 | 20 => 20 | 72 => 134 | 76 => 138 | 70 => 132 | 37 => 54 | 75 => 137 | 127 => 159 | 164 => 174 | 5 => 5 | 80 => 108 | n => n, fun | n => n⟩
theorem Tryz.lays156 : Go.Proofs.Lays.n156 Tryz.prog Tryz.lays156_ren := {
 mixed := by kernel_rfl
 f156 := Tryz.func31.trans (congrArg some (by kernel_rfl))
 f165 := Tryz.func79.trans (congrArg some (by kernel_rfl))
 f166 := Tryz.func80.trans (congrArg some (by kernel_rfl))
 f169 := Tryz.func81.trans (congrArg some (by kernel_rfl))
 f240 := Tryz.func104.trans (congrArg some (by kernel_rfl))
 f241 := Tryz.func105.trans (congrArg some (by kernel_rfl))
 f276 := Tryz.func121.trans (congrArg some (by kernel_rfl))
 f277 := Tryz.func122.trans (congrArg some (by kernel_rfl))
 t0 := Tryz.underlying0
 a0 := Tryz.isAgg0
 z0 := Tryz.sizeOf0
 v0 := Tryz.zeroValue0
 t3 := Tryz.underlying3
 a3 := Tryz.isAgg3
 z3 := Tryz.sizeOf3
 v3 := Tryz.zeroValue3
 t4 := Tryz.underlying4
 a4 := Tryz.isAgg4
 z4 := Tryz.sizeOf4
 v4 := Tryz.zeroValue4
 t9 := Tryz.underlying9
 a9 := Tryz.isAgg9
 z9 := Tryz.sizeOf9
 v9 := Tryz.zeroValue9
 t20 := Tryz.underlying20
 a20 := Tryz.isAgg20
 z20 := Tryz.sizeOf20
 v20 := Tryz.zeroValue20
 t31 := Tryz.underlying24
 a31 := Tryz.isAgg24
 z31 := Tryz.sizeOf24
 v31 := Tryz.zeroValue24
 t37 := Tryz.underlying54
 a37 := Tryz.isAgg54
 z37 := Tryz.sizeOf54
 v37 := Tryz.zeroValue54
 t70 := Tryz.underlying132
 a70 := Tryz.isAgg132
 z70 := Tryz.sizeOf132
 v70 := Tryz.zeroValue132
 t72 := Tryz.underlying134
 a72 := Tryz.isAgg134
 z72 := Tryz.sizeOf134
 v72 := Tryz.zeroValue134
 t75 := Tryz.underlying137
 a75 := Tryz.isAgg137
 z75 := Tryz.sizeOf137
 v75 := Tryz.zeroValue137
 t76 := Tryz.underlying138
 a76 := Tryz.isAgg138
 z76 := Tryz.sizeOf138
 v76 := Tryz.zeroValue138
 t127 := Tryz.underlying159
 a127 := Tryz.isAgg159
 z127 := Tryz.sizeOf159
 v127 := Tryz.zeroValue159
 t164 := Tryz.underlying174
 a164 := Tryz.isAgg174
 z164 := Tryz.sizeOf174
 v164 := Tryz.zeroValue174 }
theorem Tryz.Builder_Extra_156 : Builder.Extra Tryz.prog Tryz.lays156_ren := {
 sizeBuilder := by kernel_rfl
 liesBuilder := by kernel_rfl
 t5 := Tryz.underlying5
 a5 := Tryz.isAgg5
 z5 := Tryz.sizeOf5
 v5 := Tryz.zeroValue5
 infoByte := by kernel_rfl
 cellsByte := by kernel_rfl
 sizeByte := by kernel_rfl
 neB5 := by decide }
open Go.RowKit in
theorem Tryz.strings_Join_none (a : Option Addr) (c : Nat) (sep : ByteArray) (w : World) :
 Calls Tryz.prog 31 #[.slice a 0 c, .string sep] w fun e w' => e = .returned (.string ⟨#[]⟩) ∧ w' = w := Any.strings_Join_none Tryz.lays156 Tryz.Builder_Extra_156 a c sep w
open Go.RowKit in
theorem Tryz.strings_Join (bk o c : Nat) (xs : List ByteArray) (sep : ByteArray) (w : World) (hcells : ∀ (j : Nat) x, xs[j]? = some x → w.cell? ⟨bk, o + j, none⟩ = some (.string x)) (hbk : bk < w.heap.size) (hN : xs.length ≤ 140737488355328) (hcap : xs.length ≤ c) (hlen : (Lib.join (xs.map (·.data.toList)) sep.data.toList).length ≤ 140737488355328) :
 Calls Tryz.prog 31 #[.slice (some ⟨bk, o, none⟩) xs.length c, .string sep] w fun e w' => e = .returned (.string ⟨(Lib.join (xs.map (·.data.toList)) sep.data.toList).toArray⟩) ∧ Below w.heap.size w w' := Any.strings_Join Tryz.lays156 Tryz.Builder_Extra_156 bk o c xs sep w hcells hbk hN hcap hlen
def Tryz.laysM173_ren : Go.Shelf.Ren := ⟨fun | 173 => 40 | 246 => 83 | 283 => 106 | 284 => 107 | 285 => 108 | 286 => 109 | 129 => 124 | 317 => 123 | 318 => 125 | 319 => 126 | 320 => 127 | 337 => 137 | 338 => 138 | n => n, fun | 2 => 2 | 3 => 3 | 9 => 9 | 4 => 4 | 171 => 161 | 0 => 0 | 53 => 162 | 37 => 54 | 5 => 5 | 173 => 165 | 212 => 179 | 51 => 180 | 20 => 20 | 213 => 181 | 46 => 183 | 232 => 204 | 233 => 205 | n => n, fun | 17 => 0 | 18 => 5 | 19 => 6 | n => n⟩
theorem Tryz.laysM173 : Go.Proofs.LaysM.n173 Tryz.prog Tryz.laysM173_ren := {
 mixed := by kernel_rfl
 f129 := Tryz.func124.trans (congrArg some (by kernel_rfl))
 f173 := Tryz.func40.trans (congrArg some (by kernel_rfl))
 f246 := Tryz.func83.trans (congrArg some (by kernel_rfl))
 f283 := Tryz.func106.trans (congrArg some (by kernel_rfl))
 f284 := Tryz.func107.trans (congrArg some (by kernel_rfl))
 f285 := Tryz.func108.trans (congrArg some (by kernel_rfl))
 f286 := Tryz.func109.trans (congrArg some (by kernel_rfl))
 f317 := Tryz.func123.trans (congrArg some (by kernel_rfl))
 f318 := Tryz.func125.trans (congrArg some (by kernel_rfl))
 f319 := Tryz.func126.trans (congrArg some (by kernel_rfl))
 f320 := Tryz.func127.trans (congrArg some (by kernel_rfl))
 f337 := Tryz.func137.trans (congrArg some (by kernel_rfl))
 f338 := Tryz.func138.trans (congrArg some (by kernel_rfl))
 t0 := Tryz.underlying0
 a0 := Tryz.isAgg0
 z0 := Tryz.sizeOf0
 v0 := Tryz.zeroValue0
 t2 := Tryz.underlying2
 a2 := Tryz.isAgg2
 z2 := Tryz.sizeOf2
 v2 := Tryz.zeroValue2
 t3 := Tryz.underlying3
 a3 := Tryz.isAgg3
 z3 := Tryz.sizeOf3
 v3 := Tryz.zeroValue3
 t4 := Tryz.underlying4
 a4 := Tryz.isAgg4
 z4 := Tryz.sizeOf4
 v4 := Tryz.zeroValue4
 t5 := Tryz.underlying5
 a5 := Tryz.isAgg5
 z5 := Tryz.sizeOf5
 v5 := Tryz.zeroValue5
 t9 := Tryz.underlying9
 a9 := Tryz.isAgg9
 z9 := Tryz.sizeOf9
 v9 := Tryz.zeroValue9
 t20 := Tryz.underlying20
 a20 := Tryz.isAgg20
 z20 := Tryz.sizeOf20
 v20 := Tryz.zeroValue20
 t37 := Tryz.underlying54
 a37 := Tryz.isAgg54
 z37 := Tryz.sizeOf54
 v37 := Tryz.zeroValue54
 t46 := Tryz.underlying183
 a46 := Tryz.isAgg183
 z46 := Tryz.sizeOf183
 v46 := Tryz.zeroValue183
 t51 := Tryz.underlying180
 a51 := Tryz.isAgg180
 z51 := Tryz.sizeOf180
 v51 := Tryz.zeroValue180
 t53 := Tryz.underlying162
 a53 := Tryz.isAgg162
 z53 := Tryz.sizeOf162
 v53 := Tryz.zeroValue162
 t171 := Tryz.underlying161
 a171 := Tryz.isAgg161
 z171 := Tryz.sizeOf161
 v171 := Tryz.zeroValue161
 t173 := Tryz.underlying165
 a173 := Tryz.isAgg165
 z173 := Tryz.sizeOf165
 v173 := Tryz.zeroValue165
 t212 := Tryz.underlying179
 a212 := Tryz.isAgg179
 z212 := Tryz.sizeOf179
 v212 := Tryz.zeroValue179
 t213 := Tryz.underlying181
 a213 := Tryz.isAgg181
 z213 := Tryz.sizeOf181
 t232 := Tryz.underlying204
 a232 := Tryz.isAgg204
 z232 := Tryz.sizeOf204
 v232 := Tryz.zeroValue204
 t233 := Tryz.underlying205
 a233 := Tryz.isAgg205
 z233 := Tryz.sizeOf205
 v233 := Tryz.zeroValue205
 g17 := by kernel_rfl
 g18 := by kernel_rfl
 g19 := by kernel_rfl
 i0 := by kernel_rfl
 i2 := by kernel_rfl
 i3 := by kernel_rfl
 i4 := by kernel_rfl
 i5 := by kernel_rfl
 i9 := by kernel_rfl
 i20 := by kernel_rfl
 i37 := by kernel_rfl
 i46 := by kernel_rfl
 i51 := by kernel_rfl
 i53 := by kernel_rfl
 i171 := by kernel_rfl
 i173 := by kernel_rfl
 i212 := by kernel_rfl
 i232 := by kernel_rfl
 i233 := by kernel_rfl
 m17 := by kernel_rfl
 m18 := by kernel_rfl
 m19 := by kernel_rfl }
open Go.RowKit Go.Sort Go.Lib in
theorem Tryz.strconv_FormatInt_10 (n : Int) (h0 : -9223372036854775808 ≤ n) (h1 : n ≤ 9223372036854775807) (w : World) (htab : Lib.TabIs Tryz.prog w "internal/strconv.uint64pow10" .u64 Lib.pow10Tab) :
 Calls Tryz.prog 40 #[.int .i64 n, .int .i64 10] w fun e w' => e = .returned (.string ⟨(Lib.itoa n).toArray⟩) ∧ ∃ k os, w' = grow (w.drewN k) os := Any.strconv_FormatInt_10 Tryz.laysM173 n h0 h1 w htab
def Tryz.lays99_ren : Go.Shelf.Ren := ⟨fun | 99 => 52 | 206 => 88 | n => n, fun | 9 => 9 | 4 => 4 | 3 => 3 | n => n, fun | n => n⟩
theorem Tryz.lays99 : Go.Proofs.Lays.n99 Tryz.prog Tryz.lays99_ren := {
 mixed := by kernel_rfl
 f99 := Tryz.func52.trans (congrArg some (by kernel_rfl))
 f206 := Tryz.func88.trans (congrArg some (by kernel_rfl))
 t3 := Tryz.underlying3
 a3 := Tryz.isAgg3
 z3 := Tryz.sizeOf3
 v3 := Tryz.zeroValue3
 t4 := Tryz.underlying4
 a4 := Tryz.isAgg4
 z4 := Tryz.sizeOf4
 v4 := Tryz.zeroValue4
 t9 := Tryz.underlying9
 a9 := Tryz.isAgg9
 z9 := Tryz.sizeOf9
 v9 := Tryz.zeroValue9 }
open Go.RowKit Go.Lib in
theorem Tryz.strings_HasPrefix (s p : ByteArray) (w : World) :
 Calls Tryz.prog 52 #[.string s, .string p] w fun e w' => e = .returned (.bool (Lib.hasPrefix s.data.toList p.data.toList)) ∧ w' = w := Any.strings_HasPrefix Tryz.lays99 s p w
def Tryz.lays155_ren : Go.Shelf.Ren := ⟨fun | 155 => 84 | 154 => 110 | 138 => 128 | 165 => 79 | 143 => 129 | 166 => 80 | 197 => 111 | 169 => 81 | 195 => 139 | 218 => 140 | 240 => 104 | 241 => 105 | 219 => 141 | 260 => 130 | 276 => 121 | 277 => 122 | 217 => 149 | 225 => 150 | 224 => 151 | 267 => 152 | 266 => 155 | 314 => 156 | n => n, fun | 9 => 9 | 3 => 3 | 4 => 4 | 72 => 134 | 0 => 0 | 76 => 138 | 105 => 168 | 21 => 21 | 5 => 5 | 70 => 132 | 20 => 20 | 37 => 54 | 75 => 137 | 127 => 159 | 164 => 174 | 46 => 183 | 119 => 194 | 139 => 197 | 138 => 196 | 146 => 210 | 51 => 180 | 80 => 108 | n => n, fun | 1 => 2 | 3 => 3 | 4 => 4 | n => n⟩
theorem Tryz.lays155 : Go.Proofs.Lays.n155 Tryz.prog Tryz.lays155_ren := {
 mixed := by kernel_rfl
 f138 := Tryz.func128.trans (congrArg some (by kernel_rfl))
 f143 := Tryz.func129.trans (congrArg some (by kernel_rfl))
 f154 := Tryz.func110.trans (congrArg some (by kernel_rfl))
 f155 := Tryz.func84.trans (congrArg some (by kernel_rfl))
 f165 := Tryz.func79.trans (congrArg some (by kernel_rfl))
 f166 := Tryz.func80.trans (congrArg some (by kernel_rfl))
 f169 := Tryz.func81.trans (congrArg some (by kernel_rfl))
 f195 := Tryz.func139.trans (congrArg some (by kernel_rfl))
 f197 := Tryz.func111.trans (congrArg some (by kernel_rfl))
 f217 := Tryz.func149.trans (congrArg some (by kernel_rfl))
 f218 := Tryz.func140.trans (congrArg some (by kernel_rfl))
 f219 := Tryz.func141.trans (congrArg some (by kernel_rfl))
 f224 := Tryz.func151.trans (congrArg some (by kernel_rfl))
 f225 := Tryz.func150.trans (congrArg some (by kernel_rfl))
 f240 := Tryz.func104.trans (congrArg some (by kernel_rfl))
 f241 := Tryz.func105.trans (congrArg some (by kernel_rfl))
 f260 := Tryz.func130.trans (congrArg some (by kernel_rfl))
 f266 := Tryz.func155.trans (congrArg some (by kernel_rfl))
 f267 := Tryz.func152.trans (congrArg some (by kernel_rfl))
 f276 := Tryz.func121.trans (congrArg some (by kernel_rfl))
 f277 := Tryz.func122.trans (congrArg some (by kernel_rfl))
 f314 := Tryz.func156.trans (congrArg some (by kernel_rfl))
 t0 := Tryz.underlying0
 a0 := Tryz.isAgg0
 z0 := Tryz.sizeOf0
 v0 := Tryz.zeroValue0
 t3 := Tryz.underlying3
 a3 := Tryz.isAgg3
 z3 := Tryz.sizeOf3
 v3 := Tryz.zeroValue3
 t4 := Tryz.underlying4
 a4 := Tryz.isAgg4
 z4 := Tryz.sizeOf4
 v4 := Tryz.zeroValue4
 t5 := Tryz.underlying5
 a5 := Tryz.isAgg5
 z5 := Tryz.sizeOf5
 v5 := Tryz.zeroValue5
 t9 := Tryz.underlying9
 a9 := Tryz.isAgg9
 z9 := Tryz.sizeOf9
 v9 := Tryz.zeroValue9
 t20 := Tryz.underlying20
 a20 := Tryz.isAgg20
 z20 := Tryz.sizeOf20
 v20 := Tryz.zeroValue20
 t21 := Tryz.underlying21
 a21 := Tryz.isAgg21
 z21 := Tryz.sizeOf21
 v21 := Tryz.zeroValue21
 t37 := Tryz.underlying54
 a37 := Tryz.isAgg54
 z37 := Tryz.sizeOf54
 v37 := Tryz.zeroValue54
 t46 := Tryz.underlying183
 a46 := Tryz.isAgg183
 z46 := Tryz.sizeOf183
 v46 := Tryz.zeroValue183
 t51 := Tryz.underlying180
 a51 := Tryz.isAgg180
 z51 := Tryz.sizeOf180
 v51 := Tryz.zeroValue180
 t70 := Tryz.underlying132
 a70 := Tryz.isAgg132
 z70 := Tryz.sizeOf132
 v70 := Tryz.zeroValue132
 t72 := Tryz.underlying134
 a72 := Tryz.isAgg134
 z72 := Tryz.sizeOf134
 v72 := Tryz.zeroValue134
 t75 := Tryz.underlying137
 a75 := Tryz.isAgg137
 z75 := Tryz.sizeOf137
 v75 := Tryz.zeroValue137
 t76 := Tryz.underlying138
 a76 := Tryz.isAgg138
 z76 := Tryz.sizeOf138
 v76 := Tryz.zeroValue138
 t105 := Tryz.underlying168
 a105 := Tryz.isAgg168
 z105 := Tryz.sizeOf168
 v105 := Tryz.zeroValue168
 t119 := Tryz.underlying194
 a119 := Tryz.isAgg194
 z119 := Tryz.sizeOf194
 t127 := Tryz.underlying159
 a127 := Tryz.isAgg159
 z127 := Tryz.sizeOf159
 v127 := Tryz.zeroValue159
 t138 := Tryz.underlying196
 a138 := Tryz.isAgg196
 z138 := Tryz.sizeOf196
 v138 := Tryz.zeroValue196
 t139 := Tryz.underlying197
 a139 := Tryz.isAgg197
 z139 := Tryz.sizeOf197
 v139 := Tryz.zeroValue197
 t146 := Tryz.underlying210
 a146 := Tryz.isAgg210
 z146 := Tryz.sizeOf210
 v146 := Tryz.zeroValue210
 t164 := Tryz.underlying174
 a164 := Tryz.isAgg174
 z164 := Tryz.sizeOf174
 v164 := Tryz.zeroValue174
 g1 := by kernel_rfl
 g3 := by kernel_rfl
 g4 := by kernel_rfl }
theorem Tryz.Builder_Extra_155 : Builder.Extra Tryz.prog Tryz.lays155_ren := {
 sizeBuilder := by kernel_rfl
 liesBuilder := by kernel_rfl
 t5 := Tryz.underlying5
 a5 := Tryz.isAgg5
 z5 := Tryz.sizeOf5
 v5 := Tryz.zeroValue5
 infoByte := by kernel_rfl
 cellsByte := by kernel_rfl
 sizeByte := by kernel_rfl
 neB5 := by decide }
open Go.RowKit Go.Lib in
theorem Tryz.strings_ReplaceAll (s old new : ByteArray) (m : Int) (w : World) (hs : s.size < 4294967281) (hm : w.cell? ⟨2, 0, none⟩ = some (.int .i64 m)) (h1 : 1 ≤ old.size) (hlen : s.size + Lib.countB s old * new.size ≤ 140737488355328) :
 Calls Tryz.prog 84 #[.string s, .string old, .string new] w fun e w' =>
  e = .returned (.string ⟨(Lib.replaceAll s.data.toList old.data.toList new.data.toList).toArray⟩) ∧ Below w.heap.size w w' := Any.strings_ReplaceAll Tryz.lays155 Tryz.Builder_Extra_155 s old new m w hs hm h1 hlen
open Go.RowKit in
theorem Tryz.Builder_WriteByte (B b : Nat) (bs : List Value) (c : Int) (w : World) (h : Lib.IsBuilder 134 5 B b bs w) (hlen : bs.length + 1 ≤ 140737488355328) (hBw : B ≤ w.heap.size) :
  Calls Tryz.prog 85 #[.pointer (some ⟨b, 0, none⟩), .int .u8 c] w fun e w' => e = .returned .nilIface ∧ (Lib.BuilderAt 134 5 B b (.pointer (some ⟨b, 0, none⟩)) (bs ++ [.int .u8 c]) w' ∧ Below B w w') :=
 Any.Builder_WriteByte { Tryz.lays158 with } Tryz.Builder_Extra_158 B b bs c w h hlen hBw
end Go.Proofs
