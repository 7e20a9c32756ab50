/- Lemmas. -/
import Derived.Test.YtkhnpmeohjafiaaGreatDoorMB
namespace Go.Proofs.YtkhnpmeohjafiaaGreatDoor
abbrev Str := List UInt8
inductive Ex where
 | mk (op : Str) (n : Nat) (text of : Str) (args : List Ex)
def eNum (n : Nat) : Ex := .mk [110, 117, 109, 98, 101, 114] n [] [] []
def eText (t : Str) : Ex := .mk [116, 101, 120, 116] 0 t [] []
def eName (t o : Str) : Ex := .mk [110, 97, 109, 101] 0 t o []
def eOne (op : Str) (a : Ex) : Ex := .mk op 0 [] [] [a]
def eTwo (op : Str) (a b : Ex) : Ex := .mk op 0 [] [] [a, b]
structure Qu where
 coalesce : Bool
 all : Bool
 count : Bool
 sum : Str
 items : List Ex
 tables : List Str
 cond : List Ex
def Qu.none : Qu := ⟨false, false, false, [], [], [], []⟩
structure St where
 kind : Str
 table : Str
 columns : List (Str × Nat)
 keys : List Str
 values : List Ex
 sets : List (Str × Ex)
 period : Nat × Nat
 cond : List Ex
 query : List Qu
 ops : List Str
 asOf : List Nat
 during : List (Nat × Nat)
 order : List Str
def St.none : St := ⟨[], [], [], [], [], [], (0, 0), [], [], [], [], [], []⟩
abbrev Res (α : Type) := Except (Nat × Nat) (α × List Tok)
def bnd {α β : Type} (r : Res α) (k : α → List Tok → Res β) : Res β :=
 match r with
 | .ok (x, ts) => k x ts
 | .error e => .error e
def fin {α β : Type} (f : α → β) (r : Res α) : Res β := bnd r fun x ts => .ok (f x, ts)
@[simp] theorem bnd_ok {α β : Type} (x : α) (ts : List Tok) (k : α → List Tok → Res β) : bnd (.ok (x, ts)) k = k x ts := rfl
@[simp] theorem bnd_error {α β : Type} (e : Nat × Nat) (k : α → List Tok → Res β) : bnd (.error e) k = .error e := rfl
@[simp] theorem fin_ok {α β : Type} (f : α → β) (x : α) (ts : List Tok) : fin f (.ok (x, ts)) = .ok (f x, ts) := rfl
@[simp] theorem fin_error {α β : Type} (f : α → β) (e : Nat × Nat) : fin f (.error e) = .error e := rfl
def FOREVER : Nat := 1099511627776
def plc (E : Nat) : List Tok → Nat
 | [] => E
 | t :: _ => t.2.2.2
def isT (s : Str) : List Tok → Bool
 | [] => false
 | t :: _ => (t.1 == 1 || t.1 == 4) && t.2.1 == s
def anyT (ops : List Str) (ts : List Tok) : Bool := ops.any fun s => isT s ts
def isK (k : Nat) : List Tok → Bool
 | [] => false
 | t :: _ => t.1 == k
def txt : List Tok → Str
 | [] => []
 | t :: _ => t.2.1
def nmb : List Tok → Nat
 | [] => 0
 | t :: _ => t.2.2.1
def bad {α : Type} (E c : Nat) (ts : List Tok) : Res α := .error (c, plc E ts)
def must (E : Nat) (s : Str) (ts : List Tok) : Res Unit := if isT s ts then .ok ((), ts.tail) else bad E 150 ts
def reservedL : List Str := [[67, 82, 69, 65, 84, 69], [84, 65, 66, 76, 69], [73, 78, 68, 69, 88], [79, 78], [78, 79], [79, 86, 69, 82, 76, 65, 80], [73, 78, 84], [84, 69, 88, 84], [73, 78, 83, 69, 82, 84], [73, 78, 84, 79], [86, 65, 76, 85, 69, 83], [70, 82, 79, 77], [84, 79], [70, 79, 82, 69, 86, 69, 82], [85, 80, 68, 65, 84, 69], [83, 69, 84], [70, 79, 82], [87, 72, 69, 82, 69], [68, 69, 76, 69, 84, 69], [66, 69, 71, 73, 78], [67, 79, 77, 77, 73, 84], [82, 79, 76, 76, 66, 65, 67, 75], [83, 69, 76, 69, 67, 84], [67, 79, 65, 76, 69, 83, 67, 69], [67, 79, 85, 78, 84], [83, 85, 77], [85, 78, 73, 79, 78], [69, 88, 67, 69, 80, 84], [65, 83], [79, 70], [65, 84], [68, 85, 82, 73, 78, 71], [79, 82, 68, 69, 82], [66, 89], [65, 78, 68], [79, 82], [78, 79, 84]]
def resv (s : Str) : Bool := reservedL.contains s
def nameT (ts : List Tok) : Bool := isK 1 ts && !resv (txt ts) && decide ((txt ts).length ≤ 24)
def name (E : Nat) (ts : List Tok) : Res Str := if nameT ts then .ok (txt ts, ts.tail) else bad E 150 ts
def number (E : Nat) (ts : List Tok) : Res Nat := if isK 2 ts then .ok (nmb ts, ts.tail) else bad E 150 ts
section
variable {α : Type}
def sepL (one : List Tok → Res α) : Nat → List α → List Tok → Res (List α)
 | 0, acc, ts => .ok (acc, ts)
 | f + 1, acc, ts => if isT [44] ts then bnd (one ts.tail) fun x r => sepL one f (acc ++ [x]) r else .ok (acc, ts)
def sep (one : List Tok → Res α) (ts : List Tok) : Res (List α) := bnd (one ts) fun x r => sepL one r.length [x] r
end
def chL (read : List Tok → Res Ex) (ops : List Str) : Nat → Ex → List Tok → Res Ex
 | 0, e, ts => .ok (e, ts)
 | f + 1, e, ts => if anyT ops ts then bnd (read ts.tail) fun x r => chL read ops f (eTwo (txt ts) e x) r else .ok (e, ts)
def ch (read : List Tok → Res Ex) (ops : List Str) (ts : List Tok) : Res Ex := bnd (read ts) fun e r => chL read ops r.length e r
def item (E : Nat) (ts : List Tok) : Res Ex :=
 bnd (name E ts) fun n r => if isT [46] r then bnd (name E r.tail) fun m r' => .ok (eName m n, r') else .ok (eName n [], r)
def cmpL : List Str := [[61], [60, 62], [60, 61], [62, 61], [60], [62]]
def factorOf (E : Nat) (fs es : List Tok → Res Ex) (ts : List Tok) : Res Ex :=
 if isK 2 ts then .ok (eNum (nmb ts), ts.tail)
 else if isK 3 ts then .ok (eText (txt ts), ts.tail)
 else if isT [45] ts then fin (eOne [45]) (fs ts.tail)
 else if isT [40] ts then bnd (es ts.tail) fun e r => bnd (must E [41] r) fun _ r' => .ok (e, r')
 else item E ts
def productOf (fc : List Tok → Res Ex) : List Tok → Res Ex := ch fc [[42]]
def sumOf (fc : List Tok → Res Ex) : List Tok → Res Ex := ch (productOf fc) [[43], [45]]
def cmpOf (sm : List Tok → Res Ex) (ts : List Tok) : Res Ex :=
 bnd (sm ts) fun e r => if anyT cmpL r then fin (eTwo (txt r) e) (sm r.tail) else .ok (e, r)
def notOf (fc ns : List Tok → Res Ex) (ts : List Tok) : Res Ex :=
 if isT [78, 79, 84] ts then fin (eOne [78, 79, 84]) (ns ts.tail) else cmpOf (sumOf fc) ts
def bothOf (nt : List Tok → Res Ex) : List Tok → Res Ex := ch nt [[65, 78, 68]]
def exprOf (nt : List Tok → Res Ex) : List Tok → Res Ex := ch (bothOf nt) [[79, 82]]
structure Lv where
 fac : List Tok → Res Ex
 no : List Tok → Res Ex
def Lv.ex (l : Lv) : List Tok → Res Ex := exprOf l.no
def lvOf (E : Nat) (fs ns es : List Tok → Res Ex) : Lv := ⟨factorOf E fs es, notOf (factorOf E fs es) ns⟩
def lv (E : Nat) : Nat → Lv
 | 0 => lvOf E (bad E 151) (bad E 151) (bad E 151)
 | n + 1 => lvOf E (lv E n).fac (lv E n).no (lv E n).ex
def expr (E : Nat) : List Tok → Res Ex := (lv E 32).ex
def period (E : Nat) (ts : List Tok) : Res (Nat × Nat) :=
 bnd (number E ts) fun a r => bnd (must E [84, 79] r) fun _ r =>
  bnd (if isT [70, 79, 82, 69, 86, 69, 82] r then .ok (FOREVER, r.tail) else number E r) fun z r' => if z ≤ a ∨ FOREVER < z then bad E 40 ts else .ok ((a, z), r')
def whereP (E : Nat) (ts : List Tok) : Res (List Ex) := if isT [87, 72, 69, 82, 69] ts then fin (fun e => [e]) (expr E ts.tail) else .ok ([], ts)
def names (E : Nat) (ts : List Tok) : Res (List Str) :=
 bnd (must E [40] ts) fun _ r => bnd (sep (name E) r) fun l r => bnd (must E [41] r) fun _ r => .ok (l, r)
def column (E : Nat) (ts : List Tok) : Res (Str × Nat) :=
 bnd (name E ts) fun n r => if isT [84, 69, 88, 84] r then .ok ((n, 2), r.tail) else bnd (must E [73, 78, 84] r) fun _ r' => .ok ((n, 1), r')
def setP (E : Nat) (ts : List Tok) : Res (Str × Ex) :=
 bnd (name E ts) fun c r => bnd (must E [61] r) fun _ r => fin (fun e => (c, e)) (expr E r)
def asked (E : Nat) (q : Qu) (ts : List Tok) : Res Qu :=
 if isT [42] ts then .ok ({ q with all := true }, ts.tail)
 else if isT [67, 79, 85, 78, 84] ts then .ok ({ q with count := true }, ts.tail)
 else if isT [83, 85, 77] ts then fin (fun s => { q with sum := s }) (name E ts.tail)
 else fin (fun l => { q with items := l }) (sep (item E) ts)
def tablesP (E : Nat) (ts : List Tok) : Res (List Str) :=
 bnd (name E ts) fun n r => if isT [44] r then fin (fun m => [n, m]) (name E r.tail) else .ok ([n], r)
def query (E : Nat) (ts : List Tok) : Res Qu :=
 bnd (must E [83, 69, 76, 69, 67, 84] ts) fun _ r =>
 bnd (asked E { Qu.none with coalesce := isT [67, 79, 65, 76, 69, 83, 67, 69] r } (if isT [67, 79, 65, 76, 69, 83, 67, 69] r then r.tail else r)) fun q r =>
 bnd (must E [70, 82, 79, 77] r) fun _ r => bnd (tablesP E r) fun l r => fin (fun c => { q with tables := l, cond := c }) (whereP E r)
def moreL (E : Nat) : Nat → List Str → List Qu → List Tok → Res (List Str × List Qu)
 | 0, o, q, ts => .ok ((o, q), ts)
 | f + 1, o, q, ts => if anyT [[85, 78, 73, 79, 78], [69, 88, 67, 69, 80, 84]] ts then bnd (query E ts.tail) fun x r => moreL E f (o ++ [txt ts]) (q ++ [x]) r else .ok ((o, q), ts)
def asOfP (E : Nat) (ts : List Tok) : Res (List Nat) :=
 if isT [65, 83] ts then bnd (must E [79, 70] ts.tail) fun _ r => fin (fun n => [n]) (number E r) else .ok ([], ts)
def duringP (E : Nat) (ts : List Tok) : Res (List (Nat × Nat)) :=
 if isT [65, 84] ts then
  (if isK 2 ts.tail ∧ FOREVER ≤ nmb ts.tail then bad E 40 ts.tail else fin (fun n => [(n, n + 1)]) (number E ts.tail))
 else if isT [68, 85, 82, 73, 78, 71] ts then fin (fun p => [p]) (period E ts.tail)
 else .ok ([], ts)
def orderP (E : Nat) (ts : List Tok) : Res (List Str) :=
 if isT [79, 82, 68, 69, 82] ts then bnd (must E [66, 89] ts.tail) fun _ r => sep (name E) r else .ok ([], ts)
def selects (E : Nat) (ts : List Tok) : Res St :=
 bnd (query E ts) fun q r => bnd (moreL E r.length [] [q] r) fun oq r => bnd (asOfP E r) fun a r => bnd (duringP E r) fun d r =>
  fin (fun o => { St.none with kind := [83, 69, 76, 69, 67, 84], query := oq.2, ops := oq.1, asOf := a, during := d, order := o }) (orderP E r)
def portion (E : Nat) (ts : List Tok) : Res (Nat × Nat) := if isT [70, 79, 82] ts then period E ts.tail else .ok ((0, FOREVER), ts)
def keysP (E : Nat) (ts : List Tok) : Res (List Str) :=
 if isT [78, 79] ts then bnd (must E [79, 86, 69, 82, 76, 65, 80] ts.tail) fun _ r => names E r else .ok ([], ts)
def create (E : Nat) (ts : List Tok) : Res St :=
 bnd (name E ts) fun t r => bnd (must E [40] r) fun _ r => bnd (sep (column E) r) fun l r => bnd (must E [41] r) fun _ r =>
  fin (fun k => { St.none with kind := [67, 82, 69, 65, 84, 69], table := t, columns := l, keys := k }) (keysP E r)
def index (E : Nat) (ts : List Tok) : Res St :=
 bnd (must E [73, 78, 68, 69, 88] ts) fun _ r => bnd (must E [79, 78] r) fun _ r => fin (fun t => { St.none with kind := [73, 78, 68, 69, 88], table := t }) (name E r)
def insert (E : Nat) (ts : List Tok) : Res St :=
 bnd (must E [73, 78, 84, 79] ts) fun _ r => bnd (name E r) fun t r => bnd (must E [86, 65, 76, 85, 69, 83] r) fun _ r => bnd (must E [40] r) fun _ r =>
  bnd (sep (expr E) r) fun l r => bnd (must E [41] r) fun _ r => bnd (must E [70, 82, 79, 77] r) fun _ r =>
  fin (fun p => { St.none with kind := [73, 78, 83, 69, 82, 84], table := t, values := l, period := p }) (period E r)
def update (E : Nat) (ts : List Tok) : Res St :=
 bnd (name E ts) fun t r => bnd (must E [83, 69, 84] r) fun _ r => bnd (sep (setP E) r) fun l r => bnd (portion E r) fun p r =>
  fin (fun c => { St.none with kind := [85, 80, 68, 65, 84, 69], table := t, sets := l, period := p, cond := c }) (whereP E r)
def delete (E : Nat) (ts : List Tok) : Res St :=
 bnd (must E [70, 82, 79, 77] ts) fun _ r => bnd (name E r) fun t r => bnd (portion E r) fun p r =>
  fin (fun c => { St.none with kind := [68, 69, 76, 69, 84, 69], table := t, period := p, cond := c }) (whereP E r)
def stmt (E : Nat) (ts : List Tok) : Res St :=
 if isT [67, 82, 69, 65, 84, 69] ts then (if isT [84, 65, 66, 76, 69] ts.tail then create E ts.tail.tail else index E ts.tail)
 else if isT [73, 78, 83, 69, 82, 84] ts then insert E ts.tail
 else if isT [85, 80, 68, 65, 84, 69] ts then update E ts.tail
 else if isT [68, 69, 76, 69, 84, 69] ts then delete E ts.tail
 else if anyT [[66, 69, 71, 73, 78], [67, 79, 77, 77, 73, 84], [82, 79, 76, 76, 66, 65, 67, 75]] ts then .ok ({ St.none with kind := txt ts }, ts.tail)
 else selects E ts
def whole (E : Nat) (ts : List Tok) : Res St :=
 bnd (stmt E ts) fun x r => if (if isT [59] r then r.tail else r) = [] then .ok (x, []) else bad E 150 (if isT [59] r then r.tail else r)
def parseOf (l : List UInt8) : (Nat × Nat) ⊕ St :=
 match lexOf l with
 | .inl f => .inl f
 | .inr ts => match whole l.length ts with
   | .ok (x, _) => .inr x
   | .error f => .inl f
def Suf {α : Type} (ts : List Tok) (r : Res α) : Prop := ∀ x t, r = .ok (x, t) → t <:+ ts
section
variable {α β : Type} {ts u : List Tok}
theorem Suf.ok {x : α} (h : u <:+ ts) : Suf ts (.ok (x, u)) := by rintro _ _ h1; cases h1; exact h
theorem Suf.error {e : Nat × Nat} : Suf (α := α) ts (.error e) := by rintro _ _ h; cases h
theorem Suf.bad {E c : Nat} {v : List Tok} : Suf (α := α) ts (bad E c v) := Suf.error
theorem Suf.bnd {r : Res α} {k : α → List Tok → Res β} (h : Suf ts r) (hk : ∀ x t, t <:+ ts → Suf ts (k x t)) : Suf ts (bnd r k) := by
 cases r with
 | error e => exact Suf.error
 | ok q => exact hk q.1 q.2 (h _ _ rfl)
theorem Suf.fin {r : Res α} {f : α → β} (h : Suf ts r) : Suf ts (fin f r) := Suf.bnd h fun _ _ ht => Suf.ok ht
theorem Suf.up {r : Res α} (h : Suf u r) (hu : u <:+ ts) : Suf ts r := fun x t hr => (h x t hr).trans hu
theorem suf_tail (l : List Tok) : l.tail <:+ l := List.tail_suffix l
theorem suf_tail' (h : u <:+ ts) : u.tail <:+ ts := (suf_tail u).trans h
theorem Suf.must (E : Nat) (s : Str) (ts : List Tok) : Suf ts (must E s ts) := by
 unfold Go.Proofs.YtkhnpmeohjafiaaGreatDoor.must; split
 · exact Suf.ok (suf_tail _)
 · exact Suf.bad
theorem Suf.name (E : Nat) (ts : List Tok) : Suf ts (name E ts) := by
 unfold Go.Proofs.YtkhnpmeohjafiaaGreatDoor.name; split
 · exact Suf.ok (suf_tail _)
 · exact Suf.bad
theorem Suf.sepL {one : List Tok → Res α} (h : ∀ ts, Suf ts (one ts)) : ∀ (f : Nat) (acc : List α) (ts : List Tok), Suf ts (sepL one f acc ts)
 | 0, _, _ => Suf.ok (List.suffix_refl _)
 | f + 1, acc, ts => by
   unfold Go.Proofs.YtkhnpmeohjafiaaGreatDoor.sepL; split
   · exact Suf.bnd ((h _).up (suf_tail _)) fun x t ht => (Suf.sepL h f _ t).up ht
   · exact Suf.ok (List.suffix_refl _)
theorem Suf.sep {one : List Tok → Res α} (h : ∀ ts, Suf ts (one ts)) (ts : List Tok) : Suf ts (sep one ts) := Suf.bnd (h ts) fun x t ht => (Suf.sepL h _ _ t).up ht
theorem Suf.chL {read : List Tok → Res Ex} {ops : List Str} (h : ∀ ts, Suf ts (read ts)) : ∀ (f : Nat) (e : Ex) (ts : List Tok), Suf ts (chL read ops f e ts)
 | 0, _, _ => Suf.ok (List.suffix_refl _)
 | f + 1, e, ts => by
   unfold Go.Proofs.YtkhnpmeohjafiaaGreatDoor.chL; split
   · exact Suf.bnd ((h _).up (suf_tail _)) fun x t ht => (Suf.chL h f _ t).up ht
   · exact Suf.ok (List.suffix_refl _)
theorem Suf.ch {read : List Tok → Res Ex} {ops : List Str} (h : ∀ ts, Suf ts (read ts)) (ts : List Tok) : Suf ts (ch read ops ts) := Suf.bnd (h ts) fun x t ht => (Suf.chL h _ _ t).up ht
theorem Suf.item (E : Nat) (ts : List Tok) : Suf ts (item E ts) := by
 refine Suf.bnd (Suf.name E ts) fun n t ht => ?_
 split
 · exact Suf.bnd ((Suf.name E _).up (suf_tail' ht)) fun m t' h' => Suf.ok h'
 · exact Suf.ok ht
theorem Suf.factorOf {E : Nat} {fs es : List Tok → Res Ex} (hf : ∀ ts, Suf ts (fs ts)) (he : ∀ ts, Suf ts (es ts)) (ts : List Tok) : Suf ts (factorOf E fs es ts) := by
 unfold Go.Proofs.YtkhnpmeohjafiaaGreatDoor.factorOf
 split
 · exact Suf.ok (suf_tail _)
 split
 · exact Suf.ok (suf_tail _)
 split
 · exact ((hf _).up (suf_tail _)).fin
 split
 · exact Suf.bnd ((he _).up (suf_tail _)) fun e t ht => Suf.bnd ((Suf.must E _ t).up ht) fun _ t h => Suf.ok h
 · exact Suf.item E ts
theorem Suf.cmpOf {sm : List Tok → Res Ex} (h : ∀ ts, Suf ts (sm ts)) (ts : List Tok) : Suf ts (cmpOf sm ts) := by
 refine Suf.bnd (h ts) fun e t ht => ?_
 split
 · exact ((h _).up (suf_tail' ht)).fin
 · exact Suf.ok ht
theorem Suf.notOf {fc ns : List Tok → Res Ex} (hf : ∀ ts, Suf ts (fc ts)) (hn : ∀ ts, Suf ts (ns ts)) (ts : List Tok) : Suf ts (notOf fc ns ts) := by
 unfold Go.Proofs.YtkhnpmeohjafiaaGreatDoor.notOf; split
 · exact ((hn _).up (suf_tail _)).fin
 · exact Suf.cmpOf (Suf.ch (Suf.ch hf)) ts
theorem Suf.exprOf {nt : List Tok → Res Ex} (h : ∀ ts, Suf ts (nt ts)) (ts : List Tok) : Suf ts (exprOf nt ts) := Suf.ch (Suf.ch h) ts
theorem Suf.lvOf {E : Nat} {fs ns es : List Tok → Res Ex} (hf : ∀ ts, Suf ts (fs ts)) (hn : ∀ ts, Suf ts (ns ts)) (he : ∀ ts, Suf ts (es ts)) :
  (∀ ts, Suf ts ((lvOf E fs ns es).fac ts)) ∧ (∀ ts, Suf ts ((lvOf E fs ns es).no ts)) ∧ ∀ ts, Suf ts ((lvOf E fs ns es).ex ts) :=
 ⟨Suf.factorOf hf he, Suf.notOf (Suf.factorOf hf he) hn, Suf.exprOf (Suf.notOf (Suf.factorOf hf he) hn)⟩
theorem Suf.lv (E : Nat) : ∀ n, (∀ ts, Suf ts ((lv E n).fac ts)) ∧ (∀ ts, Suf ts ((lv E n).no ts)) ∧ ∀ ts, Suf ts ((lv E n).ex ts)
 | 0 => Suf.lvOf (fun _ => Suf.bad) (fun _ => Suf.bad) (fun _ => Suf.bad)
 | n + 1 => Suf.lvOf (Suf.lv E n).1 (Suf.lv E n).2.1 (Suf.lv E n).2.2
theorem Suf.expr (E : Nat) (ts : List Tok) : Suf ts (expr E ts) := (Suf.lv E 32).2.2 ts
theorem Suf.whereP (E : Nat) (ts : List Tok) : Suf ts (whereP E ts) := by
 unfold Go.Proofs.YtkhnpmeohjafiaaGreatDoor.whereP; split
 · exact ((Suf.expr E _).up (suf_tail _)).fin
 · exact Suf.ok (List.suffix_refl _)
theorem Suf.column (E : Nat) (ts : List Tok) : Suf ts (column E ts) := by
 refine Suf.bnd (Suf.name E ts) fun n t ht => ?_
 split
 · exact Suf.ok (suf_tail' ht)
 · exact Suf.bnd ((Suf.must E _ t).up ht) fun _ t h => Suf.ok h
theorem Suf.setP (E : Nat) (ts : List Tok) : Suf ts (setP E ts) :=
 Suf.bnd (Suf.name E ts) fun c t ht => Suf.bnd ((Suf.must E _ t).up ht) fun _ t h => ((Suf.expr E t).up h).fin
theorem Suf.asked (E : Nat) (q : Qu) (ts : List Tok) : Suf ts (asked E q ts) := by
 unfold Go.Proofs.YtkhnpmeohjafiaaGreatDoor.asked
 split
 · exact Suf.ok (suf_tail _)
 split
 · exact Suf.ok (suf_tail _)
 split
 · exact ((Suf.name E _).up (suf_tail _)).fin
 · exact (Suf.sep (Suf.item E) ts).fin
theorem Suf.tablesP (E : Nat) (ts : List Tok) : Suf ts (tablesP E ts) := by
 refine Suf.bnd (Suf.name E ts) fun n t ht => ?_
 split
 · exact ((Suf.name E _).up (suf_tail' ht)).fin
 · exact Suf.ok ht
theorem Suf.query (E : Nat) (ts : List Tok) : Suf ts (query E ts) := by
 refine Suf.bnd (Suf.must E _ ts) fun _ t ht => Suf.bnd ?_ fun q t ht => Suf.bnd ((Suf.must E _ t).up ht) fun _ t ht => Suf.bnd ((Suf.tablesP E t).up ht) fun l t ht => ((Suf.whereP E t).up ht).fin
 split
 · exact (Suf.asked E _ _).up (suf_tail' ht)
 · exact (Suf.asked E _ _).up ht
end
def SignOk (ts : List Tok) : Prop := ∀ t ∈ ts, t.1 = 4 → t.2.1 ∈ ([[60, 62], [60, 61], [62, 61], [40], [41], [44], [59], [46], [61], [60], [62], [43], [45], [42]] : List Str)
theorem sgn_mem {x : UInt8} {r s : List UInt8} (h : sgn x r = some s) : s ∈ ([[60, 62], [60, 61], [62, 61], [40], [41], [44], [59], [46], [61], [60], [62], [43], [45], [42]] : List Str) := by
 have h1 : ∀ x : UInt8, sgnOne x = some s → s ∈ ([[60, 62], [60, 61], [62, 61], [40], [41], [44], [59], [46], [61], [60], [62], [43], [45], [42]] : List Str) := by
   intro x h
   unfold sgnOne at h
   split at h
   · rename_i hm
     cases h
     simp only [List.mem_cons, List.not_mem_nil, or_false] at hm
     rcases hm with rfl | rfl | rfl | rfl | rfl | rfl | rfl | rfl | rfl | rfl | rfl <;> decide
   · cases h
 unfold sgn at h
 split at h
 · split at h
   · rename_i hc
     cases h
     rcases hc with ⟨rfl, rfl | rfl⟩ | ⟨rfl, rfl⟩ <;> decide
   · exact h1 _ h
 · exact h1 _ h
theorem one_sign {l t : List UInt8} {n m : Nat} (h : one l = some (4, t, n, m)) : t ∈ ([[60, 62], [60, 61], [62, 61], [40], [41], [44], [59], [46], [61], [60], [62], [43], [45], [42]] : List Str) := by
 cases l with
 | nil => simp [one] at h
 | cons x r =>
   rw [one_cons] at h
   split at h
   · simp at h
   split at h
   · split at h <;> simp at h
   split at h
   · cases hq : quo r with
     | none => rw [hq] at h; simp at h
     | some q => rw [hq] at h; simp at h
   · cases hs : sgn x r with
     | none => rw [hs] at h; simp at h
     | some s =>
       rw [hs] at h
       simp at h
       rw [← h.1]
       exact sgn_mem hs
theorem toks_sign : ∀ (f p : Nat) (l : List UInt8) (ts : List Tok), toks f p l = .inr ts → SignOk ts
 | 0, p, l, ts, h => by simp [toks] at h; subst h; simp [SignOk]
 | f + 1, p, [], ts, h => by simp [toks] at h; subst h; simp [SignOk]
 | f + 1, p, x :: r, ts, h => by
   rw [toks] at h
   split at h
   · exact toks_sign f _ _ ts h
   · split at h
     · cases h
     · rename_i k t n m ho
       cases hq : toks f (p + m) ((x :: r).drop m) with
       | inl e => rw [hq] at h; simp [consT] at h
       | inr us =>
         rw [hq] at h
         simp [consT] at h
         subst h
         intro u hu hk
         rcases List.mem_cons.1 hu with rfl | hu
         · simp only at hk
           subst hk
           exact one_sign ho
         · exact toks_sign f _ _ us hq u hu hk
theorem lexOf_sign {l : List UInt8} {ts : List Tok} (h : lexOf l = .inr ts) : SignOk ts := by
 unfold lexOf at h
 split at h
 · cases h
 · split at h
   · cases h
   · rename_i us hu
     cases h
     exact toks_sign _ _ _ _ hu
theorem SignOk.suf {ts us : List Tok} (h : SignOk ts) (hs : us <:+ ts) : SignOk us := fun t ht => h t (hs.mem ht)
abbrev signs14 : List Str := [[60, 62], [60, 61], [62, 61], [40], [41], [44], [59], [46], [61], [60], [62], [43], [45], [42]]
theorem isW_of_L {x : UInt8} (h : isL x = true) : isW x = true := by simp [isW, h]
section
variable {E : Nat} {fc ns nt read : List Tok → Res Ex} {ops : List Str} {ts r : List Tok} {e : Ex} {x : Nat × Nat}
theorem chL_stop {f : Nat} (h : anyT ops r = false) : chL read ops f e r = .ok (e, r) := by cases f <;> simp [chL, h]
def Stop (ts : List Tok) : Prop := anyT [[42]] ts = false ∧ anyT [[43], [45]] ts = false ∧ anyT cmpL ts = false ∧ anyT [[65, 78, 68]] ts = false ∧ anyT [[79, 82]] ts = false
end
end Go.Proofs.YtkhnpmeohjafiaaGreatDoor
