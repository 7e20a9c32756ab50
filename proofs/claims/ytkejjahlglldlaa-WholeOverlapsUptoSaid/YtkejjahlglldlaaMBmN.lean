/- The walk of btree.cut, its parts: a way into a function's code; what a round hands on. No program is walked here. -/
import Derived.Test.YtkejjahlglldlaaMBm8
import Derived.Test.YtkejjahlglldlaaMBm9
import Derived.Lib.Builder
namespace Go.Proofs.Ytkejjahlglldlaa
open Go.RowKit Go.Lib

/-- A part of a function's code. -/
def nA : Code → Code
  | .seq a _ => a
  | .cond _ a _ => a
  | .block _ c => c
  | .loop c => c
  | .scope c => c
  | c => c
def nB : Code → Code
  | .seq _ b => b
  | .cond _ _ b => b
  | c => c
theorem nA_seq (a b : Code) : nA (.seq a b) = a := rfl
theorem nA_cond (o : Operand) (a b : Code) : nA (.cond o a b) = a := rfl
theorem nA_block (n : Nat) (c : Code) : nA (.block n c) = c := rfl
theorem nA_loop (c : Code) : nA (.loop c) = c := rfl
theorem nA_scope (c : Code) : nA (.scope c) = c := rfl
theorem nB_seq (a b : Code) : nB (.seq a b) = b := rfl
theorem nB_cond (o : Operand) (a b : Code) : nB (.cond o a b) = b := rfl
def nav : List Bool → Code → Code
  | [], c => c
  | false :: r, c => nav r (nA c)
  | true :: r, c => nav r (nB c)
def bodyOf (f : Func) : Code := match f.body with
  | some c => c
  | none => .skip

def s3 (a0 a1 a2 : SD) : Nat → SD
  | 0 => a0 | 1 => a1 | _ => a2
theorem Mm.start1 {w : World} {nb : Nat} {es : List Ent} {ps : List Nat} {gk gv gc : Option Nat} {ck cv cc : Nat} (hN : NodeAt w nb es ps gk gv gc ck cv cc) (hnd : (ownL nb gk gv gc).Nodup) :
    Mm w (fun k => k ∈ ownL nb gk gv gc) 1 3 (fun _ => nb) (fun _ => hcN gk gv gc es.length ps.length ck cv cc) (s3 (sdK es gk ck) (sdV es gv cv) (sdP ps gc cc)) w := by
  have hN0 : (ownM 1 3 (fun _ => nb) (s3 (sdK es gk ck) (sdV es gv cv) (sdP ps gc cc))).Nodup := by
    refine (List.Perm.nodup_iff ?_).1 hnd
    rw [List.perm_iff_count]
    intro a
    show _ = List.count a (([nb] ++ []) ++ (gk.toList ++ (gv.toList ++ (gc.toList ++ []))))
    simp only [List.count_append, List.count_cons, List.count_nil]
    omega
  obtain ⟨a1, a2, a3⟩ := (ownM_iff _ _ _ _).1 hN0
  refine ⟨fun _ _ => hN.blk, ?_, a1, a2, a3, Touch.refl _ _, fun _ _ => by simp, ?_, fun _ _ => hN.lt nb (by simp)⟩
  · intro i hi
    match i, hi with
    | 0, _ => exact hN.keys
    | 1, _ => exact hN.vals
    | 2, _ => exact hN.kids
  · intro i hi b hb
    refine .inl ?_
    match i, hi with
    | 0, _ => have : gk = some b := hb; simp [this]
    | 1, _ => have : gv = some b := hb; simp [this]
    | 2, _ => have : gc = some b := hb; simp [this]

theorem leaf_at {key : List UInt8} {es : List Ent} (hs : Srt es) (hk : hasK key es = true) : at_ key es = true := by
  obtain ⟨v, A, B, rfl⟩ := hasK_split hk
  have h1 : A.length = pos key (A ++ (key, v) :: B) := by
    refine pos_unique key (by simp) ?_ ?_
    · intro e he
      rw [List.take_left' rfl] at he
      exact (srt_append.1 hs).2.2 e he (key, v) (by simp)
    · intro e he
      rw [List.getElem?_append_right (Nat.le_refl _), Nat.sub_self] at he
      cases he
      exact bytesLess_self _
  unfold at_
  rw [← h1, List.getElem?_append_right (Nat.le_refl _), Nat.sub_self]
  simp

/-- The last kid's contents end the node's. -/
theorem inter_last {W : World} {m h : Nat} {es : List Ent} {ks : List Kid} (hk : KidsOk W m (h + 1) ks es.length) {k : Kid} (hl : ks[ks.length - 1]? = some k) : ∃ X, inter (ks.map Kid.L) es = X ++ k.L := by
  have h1 := list_at hl
  have hkl := hk.1
  rw [List.drop_eq_nil_of_le (by omega)] at h1
  refine ⟨pre ((ks.take (ks.length - 1)).map Kid.L) es, ?_⟩
  conv => lhs; rw [h1, ← List.append_nil es]
  rw [List.map_append, List.map_cons, List.map_nil, inter_mid' _ _ _ _ _ (by simp; omega)]
  simp [suf]
theorem inter_first {W : World} {m h : Nat} {es : List Ent} {ks : List Kid} (hk : KidsOk W m (h + 1) ks es.length) {k : Kid} (hl : ks[0]? = some k) : ∃ X, inter (ks.map Kid.L) es = k.L ++ X := by
  cases ks with
  | nil => simp at hl
  | cons a ks =>
    simp at hl
    subst hl
    exact ⟨_, inter_cons _ _ _⟩

theorem neq_node (a : Addr) (w : World) : (binOp .neq 78 (.pointer (some a)) (.pointer (some a))).run Try.prog w = .ok (.bool false) w := by
  obtain ⟨j, hj⟩ := Option.isSome_iff_exists.1 (by kernel_rfl : (Try.prog.info? 82).isSome = true)
  exact run_neq_ptr_same w a Try.underlying78 hj

/-- What a round of cut hands on, in any frame. -/
structure Onward (K : Act → World → Prop) (n : Nat) (w0 : World) (tb m : Nat) (key0 : List UInt8) (L0 : List Ent) (bs0 : List Nat) (rb H : Nat) : Prop where
  go : ∀ {v1 v2 u6 u7 u8 u9 u10 u11 u12 u13 u14 u15 u16 u17 u18 u19 u20 u21 u22 u23 u24 u25 u26 u27 u28 u29 u30 u31 u32 u33 u34 u35 u36 u37 u38 u39 u40 u41 u42 u43 u44 u45 u46 u47 u48 u49 u50 u51 u52 u53 u54 u55 u56 u57 u58 u59 u60 u61 u62 u63 u64 u65 u66 u67 u68 u69 u70 u71 u72 u73 u74 u75 u76 u77 u78 u79 u80 u81 u82 u83 u84 u85 u86 u87 u88 u89 u90 u91 u92 u93 u94 u95 u96 u97 u98 u99 u100 u101 u102 u103 u104 u105 u106 u107 u108 u109 u110 u111 u112 u113 u114 u115 u116 u117 u118 u119 u120 u121 u122 u123 u124 u125 u126 u127 u128 u129 u130 u131 u132 u133 u134 u135 u136 u137 u138 u139 u140 u141 u142 u143 u144 u145 u146 u147 u148 u149 u150 u151 u152 u153 u154 u155 u156 u157 u158 u159 u160 u161 u162 u163 u164 u165 u166 u167 u168 u169 u170 u171 u172 u173 u174 u175 u176 u177 u178 u179 u180 u181 u182 u183 u184 u185 u186 u187 u188 u189 u190 u191 u192 u193 u194 u195 u196 u197 u198 u199 u200 u201 u202 u203 u204 u205 u206 u207 u208 u209 u210 u211 u212 u213 u214 u215 u216 u217 u218 u219 u220 u221 u222 u223 u224 u225 u226 u227 u228 u229 u230 u231 u232 u233 u234 u235 u236 u237 u238 : Value} {wr : World} (h : Nat), h < n → (∃ (nb lo : Nat) (key : List UInt8) (F : List Nat) (A B es : List Ent) (ks : List Kid) (sk sv sc : Option Nat) (ck cv cc : Nat), v1 = .pointer (some ⟨nb, 0, none⟩) ∧ v2 = str key ∧ CuI w0 tb m key0 L0 bs0 wr rb H h nb lo key F A B es ks sk sv sc ck cv cc ∧ lo + 1 ≤ es.length) →
    K ⟨List.toArray (Value.pointer (some ⟨tb, 0, none⟩) :: v1 :: v2 :: undef :: undef :: undef :: u6 :: u7 :: u8 :: u9 :: u10 :: u11 :: u12 :: u13 :: u14 :: u15 :: u16 :: u17 :: u18 :: u19 :: u20 :: u21 :: u22 :: u23 :: u24 :: u25 :: u26 :: u27 :: u28 :: u29 :: u30 :: u31 :: u32 :: u33 :: u34 :: u35 :: u36 :: u37 :: u38 :: u39 :: u40 :: u41 :: u42 :: u43 :: u44 :: u45 :: u46 :: u47 :: u48 :: u49 :: u50 :: u51 :: u52 :: u53 :: u54 :: u55 :: u56 :: u57 :: u58 :: u59 :: u60 :: u61 :: u62 :: u63 :: u64 :: u65 :: u66 :: u67 :: u68 :: u69 :: u70 :: u71 :: u72 :: u73 :: u74 :: u75 :: u76 :: u77 :: u78 :: u79 :: u80 :: u81 :: u82 :: u83 :: u84 :: u85 :: u86 :: u87 :: u88 :: u89 :: u90 :: u91 :: u92 :: u93 :: u94 :: u95 :: u96 :: u97 :: u98 :: u99 :: u100 :: u101 :: u102 :: u103 :: u104 :: u105 :: u106 :: u107 :: u108 :: u109 :: u110 :: u111 :: u112 :: u113 :: u114 :: u115 :: u116 :: u117 :: u118 :: u119 :: u120 :: u121 :: u122 :: u123 :: u124 :: u125 :: u126 :: u127 :: u128 :: u129 :: u130 :: u131 :: u132 :: u133 :: u134 :: u135 :: u136 :: u137 :: u138 :: u139 :: u140 :: u141 :: u142 :: u143 :: u144 :: u145 :: u146 :: u147 :: u148 :: u149 :: u150 :: u151 :: u152 :: u153 :: u154 :: u155 :: u156 :: u157 :: u158 :: u159 :: u160 :: u161 :: u162 :: u163 :: u164 :: u165 :: u166 :: u167 :: u168 :: u169 :: u170 :: u171 :: u172 :: u173 :: u174 :: u175 :: u176 :: u177 :: u178 :: u179 :: u180 :: u181 :: u182 :: u183 :: u184 :: u185 :: u186 :: u187 :: u188 :: u189 :: u190 :: u191 :: u192 :: u193 :: u194 :: u195 :: u196 :: u197 :: u198 :: u199 :: u200 :: u201 :: u202 :: u203 :: u204 :: u205 :: u206 :: u207 :: u208 :: u209 :: u210 :: u211 :: u212 :: u213 :: u214 :: u215 :: u216 :: u217 :: u218 :: u219 :: u220 :: u221 :: u222 :: u223 :: u224 :: u225 :: u226 :: u227 :: u228 :: u229 :: u230 :: u231 :: u232 :: u233 :: u234 :: u235 :: u236 :: u237 :: u238 :: []), []⟩ wr

end Go.Proofs.Ytkejjahlglldlaa
