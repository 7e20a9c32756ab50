/- annalslaw15.ParseDeep: walked at every input. -/
import Derived.Test.YtkhnpmeohjafiaaGreatDoorMU
import Derived.Test.YtkhnpmeohjafiaaGreatDoorMQ
namespace Go.Proofs.YtkhnpmeohjafiaaGreatDoor
open Go.RowKit

set_option maxRecDepth 100000 in
set_option maxHeartbeats 16000000 in
theorem deep_any (n k : Int) (w : World) (hg : Gl w) :
    Calls Tryz.prog 5 #[.int .i64 n, .int .i64 k] w (fun e w' => e = .returned (.bool true) ∧ Ext w w') := by
  have HG := Lib.hid hg
  clear hg
  go_enter Tryz.func5, Tryz.ntmps5
  go_wp2_with fail
  refine (awake_ok w HG.out).mono ?_
  rintro e w1 ⟨rfl, hE1⟩
  have HE1 := Lib.hid hE1
  clear hE1
  by_cases hn : n < 0 ∨ 300 < n
  · have HN := Lib.hid hn
    clear hn
    rcases HN.out with h | h
    · go_wp2
      go_ret
      exact ⟨rfl, HE1.out⟩
    · have h' : ¬ n < 0 := by omega
      go_wp2
      go_ret
      exact ⟨rfl, HE1.out⟩
  · have hn1 : ¬ n < 0 := by omega
    have hn2 : ¬ 300 < n := by omega
    obtain ⟨m, rfl⟩ : ∃ m : Nat, n = (m : Int) := ⟨n.toNat, by omega⟩
    have hm3 : m ≤ 300 := by omega
    clear hn
    by_cases hk0 : k = 0
    · subst hk0
      obtain ⟨s1, h5⟩ : ∃ z : Str, z = [115, 101, 108, 101, 99, 116, 32, 97, 32, 102, 114, 111, 109, 32, 116, 32, 119, 104, 101, 114, 101, 32] ++ nestT [40] [41] m := ⟨_, rfl⟩
      have hc1 : ∀ u : World, (Op.stringOp .add ⟨#[115, 101, 108, 101, 99, 116, 32, 97, 32, 102, 114, 111, 109, 32, 116, 32, 119, 104, 101, 114, 101, 32]⟩ (bs (nestT [40] [41] m))).run Tryz.prog u = .ok (str s1) u := fun u => by
        rw [h5]; exact cat_ok [115, 101, 108, 101, 99, 116, 32, 97, 32, 102, 114, 111, 109, 32, 116, 32, 119, 104, 101, 114, 101, 32] _ u (by have := nestT_len [40] [41] m; simp at this ⊢; omega)
      go_wp2_with fail
      refine (nested_ok [40] [41] m hm3 (by decide) w1).mono ?_
      rintro e w2 ⟨rfl, hE2⟩
      have HE2 := Lib.hid (HE1.out.trans hE2)
      clear hE2
      have hsz1 : s1.length ≤ 1000000000 := by
        have h1 := nestT_len [40] [41] m
        have h2 : m * (([40] : Str).length + ([41] : Str).length) ≤ 300 * 10 := Nat.mul_le_mul (by omega) (by decide)
        rw [h5, List.length_append]
        have h3 : ([115, 101, 108, 101, 99, 116, 32, 97, 32, 102, 114, 111, 109, 32, 116, 32, 119, 104, 101, 114, 101, 32] : Str).length = 22 := rfl
        omega
      have HSZ := Lib.hid hsz1
      have HDR : Hid (DeepR 1 m (parseOf s1)) := Lib.hid (by rw [h5]; exact parse_paren m (by omega))
      clear h5 hsz1
      go_wp2_with fail
      refine (Parse_ok s1 _ HSZ.out).mono ?_
      rintro e w3 ⟨hE3, hp⟩
      by_cases hm : m ≤ 32
      · obtain ⟨x, hx⟩ := HDR.out.1 hm
        rw [hx] at hp
        obtain ⟨v, rfl, hok⟩ := hp
        obtain ⟨u0, u1, u2, u3, u4, u5, u6, u7, u8, u9⟩ := v
        obtain ⟨g1, c1, e1⟩ := hok.col.slice
        obtain ⟨g2, c2, e2⟩ := hok.key.slice
        obtain ⟨g3, c3, e3⟩ := hok.val.slice
        obtain ⟨g4, c4, e4⟩ := hok.set.slice
        obtain ⟨g5, c5, e5⟩ := hok.cond.slice
        obtain ⟨g6, c6, e6⟩ := hok.qu.slice
        obtain ⟨g7, c7, e7⟩ := hok.op.slice
        obtain ⟨g8, c8, e8⟩ := hok.asof.slice
        obtain ⟨g9, c9, e9⟩ := hok.dur.slice
        obtain ⟨g10, c10, e10⟩ := hok.ord.slice
        simp only at e1 e2 e3 e4 e5 e6 e7 e8 e9 e10
        subst e1 e2 e3 e4 e5 e6 e7 e8 e9 e10
        have HE3 := Lib.hid (HE2.out.trans hE3)
        clear hok hE3 hx
        go_wp2
        go_ret
        exact ⟨rfl, (HE3.out.alloc _).alloc _⟩
      · have hx := HDR.out.2 (by omega)
        rw [hx] at hp
        obtain rfl := hp
        have HE3 := Lib.hid (HE2.out.trans hE3)
        clear hE3 hx
        go_wp2
        go_ret
        exact ⟨rfl, (HE3.out.alloc _).alloc _⟩
    by_cases hk1 : k = 1
    · subst hk1
      obtain ⟨s1, h5⟩ : ∃ z : Str, z = [115, 101, 108, 101, 99, 116, 32, 97, 32, 102, 114, 111, 109, 32, 116, 32, 119, 104, 101, 114, 101, 32] ++ nestT [45] [] m := ⟨_, rfl⟩
      have hc1 : ∀ u : World, (Op.stringOp .add ⟨#[115, 101, 108, 101, 99, 116, 32, 97, 32, 102, 114, 111, 109, 32, 116, 32, 119, 104, 101, 114, 101, 32]⟩ (bs (nestT [45] [] m))).run Tryz.prog u = .ok (str s1) u := fun u => by
        rw [h5]; exact cat_ok [115, 101, 108, 101, 99, 116, 32, 97, 32, 102, 114, 111, 109, 32, 116, 32, 119, 104, 101, 114, 101, 32] _ u (by have := nestT_len [45] [] m; simp at this ⊢; omega)
      go_wp2_with fail
      refine (nested_ok [45] [] m hm3 (by decide) w1).mono ?_
      rintro e w2 ⟨rfl, hE2⟩
      have HE2 := Lib.hid (HE1.out.trans hE2)
      clear hE2
      have hsz1 : s1.length ≤ 1000000000 := by
        have h1 := nestT_len [45] [] m
        have h2 : m * (([45] : Str).length + ([] : Str).length) ≤ 300 * 10 := Nat.mul_le_mul (by omega) (by decide)
        rw [h5, List.length_append]
        have h3 : ([115, 101, 108, 101, 99, 116, 32, 97, 32, 102, 114, 111, 109, 32, 116, 32, 119, 104, 101, 114, 101, 32] : Str).length = 22 := rfl
        omega
      have HSZ := Lib.hid hsz1
      have HDR : Hid (DeepR 1 m (parseOf s1)) := Lib.hid (by rw [h5]; exact parse_minus m (by omega))
      clear h5 hsz1
      go_wp2_with fail
      refine (Parse_ok s1 _ HSZ.out).mono ?_
      rintro e w3 ⟨hE3, hp⟩
      by_cases hm : m ≤ 32
      · obtain ⟨x, hx⟩ := HDR.out.1 hm
        rw [hx] at hp
        obtain ⟨v, rfl, hok⟩ := hp
        obtain ⟨u0, u1, u2, u3, u4, u5, u6, u7, u8, u9⟩ := v
        obtain ⟨g1, c1, e1⟩ := hok.col.slice
        obtain ⟨g2, c2, e2⟩ := hok.key.slice
        obtain ⟨g3, c3, e3⟩ := hok.val.slice
        obtain ⟨g4, c4, e4⟩ := hok.set.slice
        obtain ⟨g5, c5, e5⟩ := hok.cond.slice
        obtain ⟨g6, c6, e6⟩ := hok.qu.slice
        obtain ⟨g7, c7, e7⟩ := hok.op.slice
        obtain ⟨g8, c8, e8⟩ := hok.asof.slice
        obtain ⟨g9, c9, e9⟩ := hok.dur.slice
        obtain ⟨g10, c10, e10⟩ := hok.ord.slice
        simp only at e1 e2 e3 e4 e5 e6 e7 e8 e9 e10
        subst e1 e2 e3 e4 e5 e6 e7 e8 e9 e10
        have HE3 := Lib.hid (HE2.out.trans hE3)
        clear hok hE3 hx
        go_wp2
        go_ret
        exact ⟨rfl, (HE3.out.alloc _).alloc _⟩
      · have hx := HDR.out.2 (by omega)
        rw [hx] at hp
        obtain rfl := hp
        have HE3 := Lib.hid (HE2.out.trans hE3)
        clear hE3 hx
        go_wp2
        go_ret
        exact ⟨rfl, (HE3.out.alloc _).alloc _⟩
    by_cases hk2 : k = 2
    · subst hk2
      obtain ⟨s1, h5⟩ : ∃ z : Str, z = [115, 101, 108, 101, 99, 116, 32, 97, 32, 102, 114, 111, 109, 32, 116, 32, 119, 104, 101, 114, 101, 32] ++ nestT [110, 111, 116, 32] [] m := ⟨_, rfl⟩
      have hc1 : ∀ u : World, (Op.stringOp .add ⟨#[115, 101, 108, 101, 99, 116, 32, 97, 32, 102, 114, 111, 109, 32, 116, 32, 119, 104, 101, 114, 101, 32]⟩ (bs (nestT [110, 111, 116, 32] [] m))).run Tryz.prog u = .ok (str s1) u := fun u => by
        rw [h5]; exact cat_ok [115, 101, 108, 101, 99, 116, 32, 97, 32, 102, 114, 111, 109, 32, 116, 32, 119, 104, 101, 114, 101, 32] _ u (by have := nestT_len [110, 111, 116, 32] [] m; simp at this ⊢; omega)
      go_wp2_with fail
      refine (nested_ok [110, 111, 116, 32] [] m hm3 (by decide) w1).mono ?_
      rintro e w2 ⟨rfl, hE2⟩
      have HE2 := Lib.hid (HE1.out.trans hE2)
      clear hE2
      have hsz1 : s1.length ≤ 1000000000 := by
        have h1 := nestT_len [110, 111, 116, 32] [] m
        have h2 : m * (([110, 111, 116, 32] : Str).length + ([] : Str).length) ≤ 300 * 10 := Nat.mul_le_mul (by omega) (by decide)
        rw [h5, List.length_append]
        have h3 : ([115, 101, 108, 101, 99, 116, 32, 97, 32, 102, 114, 111, 109, 32, 116, 32, 119, 104, 101, 114, 101, 32] : Str).length = 22 := rfl
        omega
      have HSZ := Lib.hid hsz1
      have HDR : Hid (DeepR 4 m (parseOf s1)) := Lib.hid (by rw [h5]; exact parse_nots m (by omega))
      clear h5 hsz1
      go_wp2_with fail
      refine (Parse_ok s1 _ HSZ.out).mono ?_
      rintro e w3 ⟨hE3, hp⟩
      by_cases hm : m ≤ 32
      · obtain ⟨x, hx⟩ := HDR.out.1 hm
        rw [hx] at hp
        obtain ⟨v, rfl, hok⟩ := hp
        obtain ⟨u0, u1, u2, u3, u4, u5, u6, u7, u8, u9⟩ := v
        obtain ⟨g1, c1, e1⟩ := hok.col.slice
        obtain ⟨g2, c2, e2⟩ := hok.key.slice
        obtain ⟨g3, c3, e3⟩ := hok.val.slice
        obtain ⟨g4, c4, e4⟩ := hok.set.slice
        obtain ⟨g5, c5, e5⟩ := hok.cond.slice
        obtain ⟨g6, c6, e6⟩ := hok.qu.slice
        obtain ⟨g7, c7, e7⟩ := hok.op.slice
        obtain ⟨g8, c8, e8⟩ := hok.asof.slice
        obtain ⟨g9, c9, e9⟩ := hok.dur.slice
        obtain ⟨g10, c10, e10⟩ := hok.ord.slice
        simp only at e1 e2 e3 e4 e5 e6 e7 e8 e9 e10
        subst e1 e2 e3 e4 e5 e6 e7 e8 e9 e10
        have HE3 := Lib.hid (HE2.out.trans hE3)
        clear hok hE3 hx
        go_wp2
        go_ret
        exact ⟨rfl, (HE3.out.alloc _).alloc _⟩
      · have hx := HDR.out.2 (by omega)
        rw [hx] at hp
        obtain rfl := hp
        have HE3 := Lib.hid (HE2.out.trans hE3)
        clear hE3 hx
        go_wp2
        go_ret
        exact ⟨rfl, (HE3.out.alloc _).alloc _⟩
    go_wp2
    go_ret
    exact ⟨rfl, HE1.out⟩
end Go.Proofs.YtkhnpmeohjafiaaGreatDoor
