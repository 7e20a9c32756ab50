/- parse.Parse's answer in one form, whatever the text. -/
import Derived.Test.YtkhnpmeohjafiaaGreatDoorMU
import Derived.Test.YtkhnpmeohjafiaaGreatDoorMV
import Derived.Test.YtkhnpmeohjafiaaGreatDoorMPrZ
namespace Go.Proofs.YtkhnpmeohjafiaaGreatDoor
open Go.RowKit

/-- The statement and the fault that are answered. -/
def stOf : (Nat × Nat) ⊕ St → St
  | .inl _ => St.none
  | .inr x => x
def flOf : (Nat × Nat) ⊕ St → Nat × Nat
  | .inl f => f
  | .inr _ => (0, 0)
theorem fl_ok {l : List UInt8} (h : (flOf (parseOf l)).1 = 0) : ∃ x, parseOf l = .inr x := by
  cases hp : parseOf l with
  | inl f => rw [hp] at h; exact absurd h (parse_fault hp).1
  | inr x => exact ⟨x, rfl⟩
theorem fl_le (l : List UInt8) : (flOf (parseOf l)).2 ≤ l.length := by
  cases hp : parseOf l with
  | inl f => exact (parse_fault hp).2
  | inr x => exact Nat.zero_le _
/-- What parse.Parse answers: the cells told one by one. -/
theorem Parse_any (l : List UInt8) (w : World) (hl : l.length ≤ 1000000000) (x : St) (f1 f2 : Nat) (hx : stOf (parseOf l) = x) (h1 : (flOf (parseOf l)).1 = f1) (h2 : (flOf (parseOf l)).2 = f2) :
    Calls Tryz.prog 9 #[str l] w (fun e w' => Ext w w' ∧ ∃ g1 g2 g3 g4 g5 g6 g7 g8 g9 g10 c1 c2 c3 c4 c5 c6 c7 c8 c9 c10,
      e = .returned (.tuple #[.agg #[str x.kind, str x.table, slv g1 x.columns.length c1, slv g2 x.keys.length c2, slv g3 x.values.length c3, slv g4 x.sets.length c4, .int .i64 (x.period.1 : Int), .int .i64 (x.period.2 : Int), slv g5 x.cond.length c5, slv g6 x.query.length c6, slv g7 x.ops.length c7, slv g8 x.asOf.length c8, slv g9 x.during.length c9, slv g10 x.order.length c10], .agg #[.int .i64 (f1 : Int), .int .i64 (f2 : Int)]]) ∧
      StOk w' (fun b => w.heap.size ≤ b) x ⟨slv g1 x.columns.length c1, slv g2 x.keys.length c2, slv g3 x.values.length c3, slv g4 x.sets.length c4, slv g5 x.cond.length c5, slv g6 x.query.length c6, slv g7 x.ops.length c7, slv g8 x.asOf.length c8, slv g9 x.during.length c9, slv g10 x.order.length c10⟩) := by
  subst hx h1 h2
  refine (Parse_ok l w hl).mono ?_
  rintro e w' ⟨hE, hp⟩
  refine ⟨hE, ?_⟩
  cases hr : parseOf l with
  | inl f =>
    rw [hr] at hp
    obtain rfl := hp
    exact ⟨none, none, none, none, none, none, none, none, none, none, 0, 0, 0, 0, 0, 0, 0, 0, 0, 0, rfl, StOk.none w' _ [] [] (0, 0)⟩
  | inr x =>
    rw [hr] at hp
    obtain ⟨v, rfl, hok⟩ := hp
    obtain ⟨u0, u1, u2, u3, u4, u5, u6, u7, u8, u9⟩ := v
    obtain ⟨g1, c1, e1⟩ := hok.col.slice
    obtain ⟨g2, c2, e2⟩ := hok.key.slice
    obtain ⟨g3, c3, e3⟩ := hok.val.slice
    obtain ⟨g4, c4, e4⟩ := hok.set.slice
    obtain ⟨g5, c5, e5⟩ := hok.cond.slice
    obtain ⟨g6, c6, e6⟩ := hok.qu.slice
    obtain ⟨g7, c7, e7⟩ := hok.op.slice
    obtain ⟨g8, c8, e8⟩ := hok.asof.slice
    obtain ⟨g9, c9, e9⟩ := hok.dur.slice
    obtain ⟨g10, c10, e10⟩ := hok.ord.slice
    simp only at e1 e2 e3 e4 e5 e6 e7 e8 e9 e10
    subst e1 e2 e3 e4 e5 e6 e7 e8 e9 e10
    exact ⟨g1, g2, g3, g4, g5, g6, g7, g8, g9, g10, c1, c2, c3, c4, c5, c6, c7, c8, c9, c10, rfl, hok⟩
end Go.Proofs.YtkhnpmeohjafiaaGreatDoor
