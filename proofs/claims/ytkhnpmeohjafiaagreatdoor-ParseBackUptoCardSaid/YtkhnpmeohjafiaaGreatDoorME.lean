/- The statement of a list of tokens: plain law, the definitions. No program is named here. What is behind is a part of what was there: plain law of the readers. No program is named here. The tokens of a text that is put together of pieces: plain law. No program is named here. An expression that lies 32 deep is read, a deeper one is not: plain law. No program is named here. -/
import Derived.Test.YtkhnpmeohjafiaaGreatDoorMB
namespace Go.Proofs.YtkhnpmeohjafiaaGreatDoor

abbrev Str := List UInt8
/-- An expression: its operator, its number, its text, its table, its operands. -/
inductive Ex where
  | mk (op : Str) (n : Nat) (text of : Str) (args : List Ex)
def Ex.op : Ex → Str | .mk a _ _ _ _ => a
def Ex.num : Ex → Nat | .mk _ a _ _ _ => a
def Ex.text : Ex → Str | .mk _ _ a _ _ => a
def Ex.tab : Ex → Str | .mk _ _ _ a _ => a
def Ex.args : Ex → List Ex | .mk _ _ _ _ a => a
def Ex.none : Ex := .mk [] 0 [] [] []
def eNum (n : Nat) : Ex := .mk [110, 117, 109, 98, 101, 114] n [] [] []
def eText (t : Str) : Ex := .mk [116, 101, 120, 116] 0 t [] []
def eName (t o : Str) : Ex := .mk [110, 97, 109, 101] 0 t o []
def eOne (op : Str) (a : Ex) : Ex := .mk op 0 [] [] [a]
def eTwo (op : Str) (a b : Ex) : Ex := .mk op 0 [] [] [a, b]

structure Qu where
  coalesce : Bool
  all : Bool
  count : Bool
  sum : Str
  items : List Ex
  tables : List Str
  cond : List Ex
def Qu.none : Qu := ⟨false, false, false, [], [], [], []⟩
structure St where
  kind : Str
  table : Str
  columns : List (Str × Nat)
  keys : List Str
  values : List Ex
  sets : List (Str × Ex)
  period : Nat × Nat
  cond : List Ex
  query : List Qu
  ops : List Str
  asOf : List Nat
  during : List (Nat × Nat)
  order : List Str
def St.none : St := ⟨[], [], [], [], [], [], (0, 0), [], [], [], [], [], []⟩

/-- What is read and the tokens behind it; or a fault's code and place. -/
abbrev Res (α : Type) := Except (Nat × Nat) (α × List Tok)
def bnd {α β : Type} (r : Res α) (k : α → List Tok → Res β) : Res β :=
  match r with
  | .ok (x, ts) => k x ts
  | .error e => .error e
def fin {α β : Type} (f : α → β) (r : Res α) : Res β := bnd r fun x ts => .ok (f x, ts)
@[simp] theorem bnd_ok {α β : Type} (x : α) (ts : List Tok) (k : α → List Tok → Res β) : bnd (.ok (x, ts)) k = k x ts := rfl
@[simp] theorem bnd_error {α β : Type} (e : Nat × Nat) (k : α → List Tok → Res β) : bnd (.error e) k = .error e := rfl
@[simp] theorem fin_ok {α β : Type} (f : α → β) (x : α) (ts : List Tok) : fin f (.ok (x, ts)) = .ok (f x, ts) := rfl
@[simp] theorem fin_error {α β : Type} (f : α → β) (e : Nat × Nat) : fin f (.error e) = .error e := rfl

def FOREVER : Nat := 1099511627776
/-- The next token's place. -/
def plc (E : Nat) : List Tok → Nat
  | [] => E
  | t :: _ => t.2.2.2
def isT (s : Str) : List Tok → Bool
  | [] => false
  | t :: _ => (t.1 == 1 || t.1 == 4) && t.2.1 == s
def anyT (ops : List Str) (ts : List Tok) : Bool := ops.any fun s => isT s ts
def isK (k : Nat) : List Tok → Bool
  | [] => false
  | t :: _ => t.1 == k
def txt : List Tok → Str
  | [] => []
  | t :: _ => t.2.1
def nmb : List Tok → Nat
  | [] => 0
  | t :: _ => t.2.2.1
def bad {α : Type} (E c : Nat) (ts : List Tok) : Res α := .error (c, plc E ts)
def must (E : Nat) (s : Str) (ts : List Tok) : Res Unit := if isT s ts then .ok ((), ts.tail) else bad E 150 ts

def reservedL : List Str := [[67, 82, 69, 65, 84, 69], [84, 65, 66, 76, 69], [73, 78, 68, 69, 88], [79, 78], [78, 79], [79, 86, 69, 82, 76, 65, 80], [73, 78, 84], [84, 69, 88, 84], [73, 78, 83, 69, 82, 84], [73, 78, 84, 79], [86, 65, 76, 85, 69, 83], [70, 82, 79, 77], [84, 79], [70, 79, 82, 69, 86, 69, 82], [85, 80, 68, 65, 84, 69], [83, 69, 84], [70, 79, 82], [87, 72, 69, 82, 69], [68, 69, 76, 69, 84, 69], [66, 69, 71, 73, 78], [67, 79, 77, 77, 73, 84], [82, 79, 76, 76, 66, 65, 67, 75], [83, 69, 76, 69, 67, 84], [67, 79, 65, 76, 69, 83, 67, 69], [67, 79, 85, 78, 84], [83, 85, 77], [85, 78, 73, 79, 78], [69, 88, 67, 69, 80, 84], [65, 83], [79, 70], [65, 84], [68, 85, 82, 73, 78, 71], [79, 82, 68, 69, 82], [66, 89], [65, 78, 68], [79, 82], [78, 79, 84]]
def resv (s : Str) : Bool := reservedL.contains s
def nameT (ts : List Tok) : Bool := isK 1 ts && !resv (txt ts) && decide ((txt ts).length ≤ 24)
def name (E : Nat) (ts : List Tok) : Res Str := if nameT ts then .ok (txt ts, ts.tail) else bad E 150 ts
def number (E : Nat) (ts : List Tok) : Res Nat := if isK 2 ts then .ok (nmb ts, ts.tail) else bad E 150 ts

section
variable {α : Type}
def sepL (one : List Tok → Res α) : Nat → List α → List Tok → Res (List α)
  | 0, acc, ts => .ok (acc, ts)
  | f + 1, acc, ts => if isT [44] ts then bnd (one ts.tail) fun x r => sepL one f (acc ++ [x]) r else .ok (acc, ts)
/-- Some things with commas between. -/
def sep (one : List Tok → Res α) (ts : List Tok) : Res (List α) := bnd (one ts) fun x r => sepL one r.length [x] r
end
def chL (read : List Tok → Res Ex) (ops : List Str) : Nat → Ex → List Tok → Res Ex
  | 0, e, ts => .ok (e, ts)
  | f + 1, e, ts => if anyT ops ts then bnd (read ts.tail) fun x r => chL read ops f (eTwo (txt ts) e x) r else .ok (e, ts)
/-- Operands with some operators between, the first ones first. -/
def ch (read : List Tok → Res Ex) (ops : List Str) (ts : List Tok) : Res Ex := bnd (read ts) fun e r => chL read ops r.length e r

def item (E : Nat) (ts : List Tok) : Res Ex :=
  bnd (name E ts) fun n r => if isT [46] r then bnd (name E r.tail) fun m r' => .ok (eName m n, r') else .ok (eName n [], r)
def cmpL : List Str := [[61], [60, 62], [60, 61], [62, 61], [60], [62]]
/-- The readers at a depth, of those one deeper. -/
def factorOf (E : Nat) (fs es : List Tok → Res Ex) (ts : List Tok) : Res Ex :=
  if isK 2 ts then .ok (eNum (nmb ts), ts.tail)
  else if isK 3 ts then .ok (eText (txt ts), ts.tail)
  else if isT [45] ts then fin (eOne [45]) (fs ts.tail)
  else if isT [40] ts then bnd (es ts.tail) fun e r => bnd (must E [41] r) fun _ r' => .ok (e, r')
  else item E ts
def productOf (fc : List Tok → Res Ex) : List Tok → Res Ex := ch fc [[42]]
def sumOf (fc : List Tok → Res Ex) : List Tok → Res Ex := ch (productOf fc) [[43], [45]]
def cmpOf (sm : List Tok → Res Ex) (ts : List Tok) : Res Ex :=
  bnd (sm ts) fun e r => if anyT cmpL r then fin (eTwo (txt r) e) (sm r.tail) else .ok (e, r)
def notOf (fc ns : List Tok → Res Ex) (ts : List Tok) : Res Ex :=
  if isT [78, 79, 84] ts then fin (eOne [78, 79, 84]) (ns ts.tail) else cmpOf (sumOf fc) ts
def bothOf (nt : List Tok → Res Ex) : List Tok → Res Ex := ch nt [[65, 78, 68]]
def exprOf (nt : List Tok → Res Ex) : List Tok → Res Ex := ch (bothOf nt) [[79, 82]]
structure Lv where
  fac : List Tok → Res Ex
  no : List Tok → Res Ex
def Lv.ex (l : Lv) : List Tok → Res Ex := exprOf l.no
def lvOf (E : Nat) (fs ns es : List Tok → Res Ex) : Lv := ⟨factorOf E fs es, notOf (factorOf E fs es) ns⟩
/-- The readers where so many levels are left. -/
def lv (E : Nat) : Nat → Lv
  | 0 => lvOf E (bad E 151) (bad E 151) (bad E 151)
  | n + 1 => lvOf E (lv E n).fac (lv E n).no (lv E n).ex
def expr (E : Nat) : List Tok → Res Ex := (lv E 32).ex

def period (E : Nat) (ts : List Tok) : Res (Nat × Nat) :=
  bnd (number E ts) fun a r => bnd (must E [84, 79] r) fun _ r =>
    bnd (if isT [70, 79, 82, 69, 86, 69, 82] r then .ok (FOREVER, r.tail) else number E r) fun z r' => if z ≤ a ∨ FOREVER < z then bad E 40 ts else .ok ((a, z), r')
def whereP (E : Nat) (ts : List Tok) : Res (List Ex) := if isT [87, 72, 69, 82, 69] ts then fin (fun e => [e]) (expr E ts.tail) else .ok ([], ts)
def names (E : Nat) (ts : List Tok) : Res (List Str) :=
  bnd (must E [40] ts) fun _ r => bnd (sep (name E) r) fun l r => bnd (must E [41] r) fun _ r => .ok (l, r)
def column (E : Nat) (ts : List Tok) : Res (Str × Nat) :=
  bnd (name E ts) fun n r => if isT [84, 69, 88, 84] r then .ok ((n, 2), r.tail) else bnd (must E [73, 78, 84] r) fun _ r' => .ok ((n, 1), r')
def setP (E : Nat) (ts : List Tok) : Res (Str × Ex) :=
  bnd (name E ts) fun c r => bnd (must E [61] r) fun _ r => fin (fun e => (c, e)) (expr E r)
/-- What is asked for. -/
def asked (E : Nat) (q : Qu) (ts : List Tok) : Res Qu :=
  if isT [42] ts then .ok ({ q with all := true }, ts.tail)
  else if isT [67, 79, 85, 78, 84] ts then .ok ({ q with count := true }, ts.tail)
  else if isT [83, 85, 77] ts then fin (fun s => { q with sum := s }) (name E ts.tail)
  else fin (fun l => { q with items := l }) (sep (item E) ts)
def tablesP (E : Nat) (ts : List Tok) : Res (List Str) :=
  bnd (name E ts) fun n r => if isT [44] r then fin (fun m => [n, m]) (name E r.tail) else .ok ([n], r)
def query (E : Nat) (ts : List Tok) : Res Qu :=
  bnd (must E [83, 69, 76, 69, 67, 84] ts) fun _ r =>
  bnd (asked E { Qu.none with coalesce := isT [67, 79, 65, 76, 69, 83, 67, 69] r } (if isT [67, 79, 65, 76, 69, 83, 67, 69] r then r.tail else r)) fun q r =>
  bnd (must E [70, 82, 79, 77] r) fun _ r => bnd (tablesP E r) fun l r => fin (fun c => { q with tables := l, cond := c }) (whereP E r)
def moreL (E : Nat) : Nat → List Str → List Qu → List Tok → Res (List Str × List Qu)
  | 0, o, q, ts => .ok ((o, q), ts)
  | f + 1, o, q, ts => if anyT [[85, 78, 73, 79, 78], [69, 88, 67, 69, 80, 84]] ts then bnd (query E ts.tail) fun x r => moreL E f (o ++ [txt ts]) (q ++ [x]) r else .ok ((o, q), ts)
def asOfP (E : Nat) (ts : List Tok) : Res (List Nat) :=
  if isT [65, 83] ts then bnd (must E [79, 70] ts.tail) fun _ r => fin (fun n => [n]) (number E r) else .ok ([], ts)
def duringP (E : Nat) (ts : List Tok) : Res (List (Nat × Nat)) :=
  if isT [65, 84] ts then
    (if isK 2 ts.tail ∧ FOREVER ≤ nmb ts.tail then bad E 40 ts.tail else fin (fun n => [(n, n + 1)]) (number E ts.tail))
  else if isT [68, 85, 82, 73, 78, 71] ts then fin (fun p => [p]) (period E ts.tail)
  else .ok ([], ts)
def orderP (E : Nat) (ts : List Tok) : Res (List Str) :=
  if isT [79, 82, 68, 69, 82] ts then bnd (must E [66, 89] ts.tail) fun _ r => sep (name E) r else .ok ([], ts)
def selects (E : Nat) (ts : List Tok) : Res St :=
  bnd (query E ts) fun q r => bnd (moreL E r.length [] [q] r) fun oq r => bnd (asOfP E r) fun a r => bnd (duringP E r) fun d r =>
    fin (fun o => { St.none with kind := [83, 69, 76, 69, 67, 84], query := oq.2, ops := oq.1, asOf := a, during := d, order := o }) (orderP E r)
def portion (E : Nat) (ts : List Tok) : Res (Nat × Nat) := if isT [70, 79, 82] ts then period E ts.tail else .ok ((0, FOREVER), ts)
def keysP (E : Nat) (ts : List Tok) : Res (List Str) :=
  if isT [78, 79] ts then bnd (must E [79, 86, 69, 82, 76, 65, 80] ts.tail) fun _ r => names E r else .ok ([], ts)
def create (E : Nat) (ts : List Tok) : Res St :=
  bnd (name E ts) fun t r => bnd (must E [40] r) fun _ r => bnd (sep (column E) r) fun l r => bnd (must E [41] r) fun _ r =>
    fin (fun k => { St.none with kind := [67, 82, 69, 65, 84, 69], table := t, columns := l, keys := k }) (keysP E r)
def index (E : Nat) (ts : List Tok) : Res St :=
  bnd (must E [73, 78, 68, 69, 88] ts) fun _ r => bnd (must E [79, 78] r) fun _ r => fin (fun t => { St.none with kind := [73, 78, 68, 69, 88], table := t }) (name E r)
def insert (E : Nat) (ts : List Tok) : Res St :=
  bnd (must E [73, 78, 84, 79] ts) fun _ r => bnd (name E r) fun t r => bnd (must E [86, 65, 76, 85, 69, 83] r) fun _ r => bnd (must E [40] r) fun _ r =>
    bnd (sep (expr E) r) fun l r => bnd (must E [41] r) fun _ r => bnd (must E [70, 82, 79, 77] r) fun _ r =>
    fin (fun p => { St.none with kind := [73, 78, 83, 69, 82, 84], table := t, values := l, period := p }) (period E r)
def update (E : Nat) (ts : List Tok) : Res St :=
  bnd (name E ts) fun t r => bnd (must E [83, 69, 84] r) fun _ r => bnd (sep (setP E) r) fun l r => bnd (portion E r) fun p r =>
    fin (fun c => { St.none with kind := [85, 80, 68, 65, 84, 69], table := t, sets := l, period := p, cond := c }) (whereP E r)
def delete (E : Nat) (ts : List Tok) : Res St :=
  bnd (must E [70, 82, 79, 77] ts) fun _ r => bnd (name E r) fun t r => bnd (portion E r) fun p r =>
    fin (fun c => { St.none with kind := [68, 69, 76, 69, 84, 69], table := t, period := p, cond := c }) (whereP E r)
def stmt (E : Nat) (ts : List Tok) : Res St :=
  if isT [67, 82, 69, 65, 84, 69] ts then (if isT [84, 65, 66, 76, 69] ts.tail then create E ts.tail.tail else index E ts.tail)
  else if isT [73, 78, 83, 69, 82, 84] ts then insert E ts.tail
  else if isT [85, 80, 68, 65, 84, 69] ts then update E ts.tail
  else if isT [68, 69, 76, 69, 84, 69] ts then delete E ts.tail
  else if anyT [[66, 69, 71, 73, 78], [67, 79, 77, 77, 73, 84], [82, 79, 76, 76, 66, 65, 67, 75]] ts then .ok ({ St.none with kind := txt ts }, ts.tail)
  else selects E ts
def whole (E : Nat) (ts : List Tok) : Res St :=
  bnd (stmt E ts) fun x r => if (if isT [59] r then r.tail else r) = [] then .ok (x, []) else bad E 150 (if isT [59] r then r.tail else r)
/-- A text's statement, or a fault's code and place. -/
def parseOf (l : List UInt8) : (Nat × Nat) ⊕ St :=
  match lexOf l with
  | .inl f => .inl f
  | .inr ts => match whole l.length ts with
    | .ok (x, _) => .inr x
    | .error f => .inl f
end Go.Proofs.YtkhnpmeohjafiaaGreatDoor
namespace Go.Proofs.YtkhnpmeohjafiaaGreatDoor

def Suf {α : Type} (ts : List Tok) (r : Res α) : Prop := ∀ x t, r = .ok (x, t) → t <:+ ts
section
variable {α β : Type} {ts u : List Tok}
theorem Suf.ok {x : α} (h : u <:+ ts) : Suf ts (.ok (x, u)) := by rintro _ _ h1; cases h1; exact h
theorem Suf.error {e : Nat × Nat} : Suf (α := α) ts (.error e) := by rintro _ _ h; cases h
theorem Suf.bad {E c : Nat} {v : List Tok} : Suf (α := α) ts (bad E c v) := Suf.error
theorem Suf.bnd {r : Res α} {k : α → List Tok → Res β} (h : Suf ts r) (hk : ∀ x t, t <:+ ts → Suf ts (k x t)) : Suf ts (bnd r k) := by
  cases r with
  | error e => exact Suf.error
  | ok q => exact hk q.1 q.2 (h _ _ rfl)
theorem Suf.fin {r : Res α} {f : α → β} (h : Suf ts r) : Suf ts (fin f r) := Suf.bnd h fun _ _ ht => Suf.ok ht
theorem Suf.up {r : Res α} (h : Suf u r) (hu : u <:+ ts) : Suf ts r := fun x t hr => (h x t hr).trans hu
theorem suf_tail (l : List Tok) : l.tail <:+ l := List.tail_suffix l
theorem suf_tail' (h : u <:+ ts) : u.tail <:+ ts := (suf_tail u).trans h
theorem Suf.must (E : Nat) (s : Str) (ts : List Tok) : Suf ts (must E s ts) := by
  unfold Go.Proofs.YtkhnpmeohjafiaaGreatDoor.must; split
  · exact Suf.ok (suf_tail _)
  · exact Suf.bad
theorem Suf.name (E : Nat) (ts : List Tok) : Suf ts (name E ts) := by
  unfold Go.Proofs.YtkhnpmeohjafiaaGreatDoor.name; split
  · exact Suf.ok (suf_tail _)
  · exact Suf.bad
theorem Suf.number (E : Nat) (ts : List Tok) : Suf ts (number E ts) := by
  unfold Go.Proofs.YtkhnpmeohjafiaaGreatDoor.number; split
  · exact Suf.ok (suf_tail _)
  · exact Suf.bad
theorem Suf.sepL {one : List Tok → Res α} (h : ∀ ts, Suf ts (one ts)) : ∀ (f : Nat) (acc : List α) (ts : List Tok), Suf ts (sepL one f acc ts)
  | 0, _, _ => Suf.ok (List.suffix_refl _)
  | f + 1, acc, ts => by
    unfold Go.Proofs.YtkhnpmeohjafiaaGreatDoor.sepL; split
    · exact Suf.bnd ((h _).up (suf_tail _)) fun x t ht => (Suf.sepL h f _ t).up ht
    · exact Suf.ok (List.suffix_refl _)
theorem Suf.sep {one : List Tok → Res α} (h : ∀ ts, Suf ts (one ts)) (ts : List Tok) : Suf ts (sep one ts) := Suf.bnd (h ts) fun x t ht => (Suf.sepL h _ _ t).up ht
theorem Suf.chL {read : List Tok → Res Ex} {ops : List Str} (h : ∀ ts, Suf ts (read ts)) : ∀ (f : Nat) (e : Ex) (ts : List Tok), Suf ts (chL read ops f e ts)
  | 0, _, _ => Suf.ok (List.suffix_refl _)
  | f + 1, e, ts => by
    unfold Go.Proofs.YtkhnpmeohjafiaaGreatDoor.chL; split
    · exact Suf.bnd ((h _).up (suf_tail _)) fun x t ht => (Suf.chL h f _ t).up ht
    · exact Suf.ok (List.suffix_refl _)
theorem Suf.ch {read : List Tok → Res Ex} {ops : List Str} (h : ∀ ts, Suf ts (read ts)) (ts : List Tok) : Suf ts (ch read ops ts) := Suf.bnd (h ts) fun x t ht => (Suf.chL h _ _ t).up ht
theorem Suf.item (E : Nat) (ts : List Tok) : Suf ts (item E ts) := by
  refine Suf.bnd (Suf.name E ts) fun n t ht => ?_
  split
  · exact Suf.bnd ((Suf.name E _).up (suf_tail' ht)) fun m t' h' => Suf.ok h'
  · exact Suf.ok ht
theorem Suf.factorOf {E : Nat} {fs es : List Tok → Res Ex} (hf : ∀ ts, Suf ts (fs ts)) (he : ∀ ts, Suf ts (es ts)) (ts : List Tok) : Suf ts (factorOf E fs es ts) := by
  unfold Go.Proofs.YtkhnpmeohjafiaaGreatDoor.factorOf
  split
  · exact Suf.ok (suf_tail _)
  split
  · exact Suf.ok (suf_tail _)
  split
  · exact ((hf _).up (suf_tail _)).fin
  split
  · exact Suf.bnd ((he _).up (suf_tail _)) fun e t ht => Suf.bnd ((Suf.must E _ t).up ht) fun _ t h => Suf.ok h
  · exact Suf.item E ts
theorem Suf.cmpOf {sm : List Tok → Res Ex} (h : ∀ ts, Suf ts (sm ts)) (ts : List Tok) : Suf ts (cmpOf sm ts) := by
  refine Suf.bnd (h ts) fun e t ht => ?_
  split
  · exact ((h _).up (suf_tail' ht)).fin
  · exact Suf.ok ht
theorem Suf.notOf {fc ns : List Tok → Res Ex} (hf : ∀ ts, Suf ts (fc ts)) (hn : ∀ ts, Suf ts (ns ts)) (ts : List Tok) : Suf ts (notOf fc ns ts) := by
  unfold Go.Proofs.YtkhnpmeohjafiaaGreatDoor.notOf; split
  · exact ((hn _).up (suf_tail _)).fin
  · exact Suf.cmpOf (Suf.ch (Suf.ch hf)) ts
theorem Suf.exprOf {nt : List Tok → Res Ex} (h : ∀ ts, Suf ts (nt ts)) (ts : List Tok) : Suf ts (exprOf nt ts) := Suf.ch (Suf.ch h) ts
theorem Suf.lvOf {E : Nat} {fs ns es : List Tok → Res Ex} (hf : ∀ ts, Suf ts (fs ts)) (hn : ∀ ts, Suf ts (ns ts)) (he : ∀ ts, Suf ts (es ts)) :
    (∀ ts, Suf ts ((lvOf E fs ns es).fac ts)) ∧ (∀ ts, Suf ts ((lvOf E fs ns es).no ts)) ∧ ∀ ts, Suf ts ((lvOf E fs ns es).ex ts) :=
  ⟨Suf.factorOf hf he, Suf.notOf (Suf.factorOf hf he) hn, Suf.exprOf (Suf.notOf (Suf.factorOf hf he) hn)⟩
theorem Suf.lv (E : Nat) : ∀ n, (∀ ts, Suf ts ((lv E n).fac ts)) ∧ (∀ ts, Suf ts ((lv E n).no ts)) ∧ ∀ ts, Suf ts ((lv E n).ex ts)
  | 0 => Suf.lvOf (fun _ => Suf.bad) (fun _ => Suf.bad) (fun _ => Suf.bad)
  | n + 1 => Suf.lvOf (Suf.lv E n).1 (Suf.lv E n).2.1 (Suf.lv E n).2.2
theorem Suf.expr (E : Nat) (ts : List Tok) : Suf ts (expr E ts) := (Suf.lv E 32).2.2 ts
theorem Suf.period (E : Nat) (ts : List Tok) : Suf ts (period E ts) := by
  refine Suf.bnd (Suf.number E ts) fun a t ht => Suf.bnd ((Suf.must E _ t).up ht) fun _ t ht => Suf.bnd ?_ fun z t ht => ?_
  · split
    · exact Suf.ok (suf_tail' ht)
    · exact (Suf.number E t).up ht
  · split
    · exact Suf.bad
    · exact Suf.ok ht
theorem Suf.whereP (E : Nat) (ts : List Tok) : Suf ts (whereP E ts) := by
  unfold Go.Proofs.YtkhnpmeohjafiaaGreatDoor.whereP; split
  · exact ((Suf.expr E _).up (suf_tail _)).fin
  · exact Suf.ok (List.suffix_refl _)
theorem Suf.column (E : Nat) (ts : List Tok) : Suf ts (column E ts) := by
  refine Suf.bnd (Suf.name E ts) fun n t ht => ?_
  split
  · exact Suf.ok (suf_tail' ht)
  · exact Suf.bnd ((Suf.must E _ t).up ht) fun _ t h => Suf.ok h
theorem Suf.setP (E : Nat) (ts : List Tok) : Suf ts (setP E ts) :=
  Suf.bnd (Suf.name E ts) fun c t ht => Suf.bnd ((Suf.must E _ t).up ht) fun _ t h => ((Suf.expr E t).up h).fin
theorem Suf.asked (E : Nat) (q : Qu) (ts : List Tok) : Suf ts (asked E q ts) := by
  unfold Go.Proofs.YtkhnpmeohjafiaaGreatDoor.asked
  split
  · exact Suf.ok (suf_tail _)
  split
  · exact Suf.ok (suf_tail _)
  split
  · exact ((Suf.name E _).up (suf_tail _)).fin
  · exact (Suf.sep (Suf.item E) ts).fin
theorem Suf.tablesP (E : Nat) (ts : List Tok) : Suf ts (tablesP E ts) := by
  refine Suf.bnd (Suf.name E ts) fun n t ht => ?_
  split
  · exact ((Suf.name E _).up (suf_tail' ht)).fin
  · exact Suf.ok ht
theorem Suf.query (E : Nat) (ts : List Tok) : Suf ts (query E ts) := by
  refine Suf.bnd (Suf.must E _ ts) fun _ t ht => Suf.bnd ?_ fun q t ht => Suf.bnd ((Suf.must E _ t).up ht) fun _ t ht => Suf.bnd ((Suf.tablesP E t).up ht) fun l t ht => ((Suf.whereP E t).up ht).fin
  split
  · exact (Suf.asked E _ _).up (suf_tail' ht)
  · exact (Suf.asked E _ _).up ht
end

/-- Of the texts of a list of tokens: signs are signs. -/
def SignOk (ts : List Tok) : Prop := ∀ t ∈ ts, t.1 = 4 → t.2.1 ∈ ([[60, 62], [60, 61], [62, 61], [40], [41], [44], [59], [46], [61], [60], [62], [43], [45], [42]] : List Str)
theorem sgn_mem {x : UInt8} {r s : List UInt8} (h : sgn x r = some s) : s ∈ ([[60, 62], [60, 61], [62, 61], [40], [41], [44], [59], [46], [61], [60], [62], [43], [45], [42]] : List Str) := by
  have h1 : ∀ x : UInt8, sgnOne x = some s → s ∈ ([[60, 62], [60, 61], [62, 61], [40], [41], [44], [59], [46], [61], [60], [62], [43], [45], [42]] : List Str) := by
    intro x h
    unfold sgnOne at h
    split at h
    · rename_i hm
      cases h
      simp only [List.mem_cons, List.not_mem_nil, or_false] at hm
      rcases hm with rfl | rfl | rfl | rfl | rfl | rfl | rfl | rfl | rfl | rfl | rfl <;> decide
    · cases h
  unfold sgn at h
  split at h
  · split at h
    · rename_i hc
      cases h
      rcases hc with ⟨rfl, rfl | rfl⟩ | ⟨rfl, rfl⟩ <;> decide
    · exact h1 _ h
  · exact h1 _ h
theorem one_sign {l t : List UInt8} {n m : Nat} (h : one l = some (4, t, n, m)) : t ∈ ([[60, 62], [60, 61], [62, 61], [40], [41], [44], [59], [46], [61], [60], [62], [43], [45], [42]] : List Str) := by
  cases l with
  | nil => simp [one] at h
  | cons x r =>
    rw [one_cons] at h
    split at h
    · simp at h
    split at h
    · split at h <;> simp at h
    split at h
    · cases hq : quo r with
      | none => rw [hq] at h; simp at h
      | some q => rw [hq] at h; simp at h
    · cases hs : sgn x r with
      | none => rw [hs] at h; simp at h
      | some s =>
        rw [hs] at h
        simp at h
        rw [← h.1]
        exact sgn_mem hs
theorem toks_sign : ∀ (f p : Nat) (l : List UInt8) (ts : List Tok), toks f p l = .inr ts → SignOk ts
  | 0, p, l, ts, h => by simp [toks] at h; subst h; simp [SignOk]
  | f + 1, p, [], ts, h => by simp [toks] at h; subst h; simp [SignOk]
  | f + 1, p, x :: r, ts, h => by
    rw [toks] at h
    split at h
    · exact toks_sign f _ _ ts h
    · split at h
      · cases h
      · rename_i k t n m ho
        cases hq : toks f (p + m) ((x :: r).drop m) with
        | inl e => rw [hq] at h; simp [consT] at h
        | inr us =>
          rw [hq] at h
          simp [consT] at h
          subst h
          intro u hu hk
          rcases List.mem_cons.1 hu with rfl | hu
          · simp only at hk
            subst hk
            exact one_sign ho
          · exact toks_sign f _ _ us hq u hu hk
theorem lexOf_sign {l : List UInt8} {ts : List Tok} (h : lexOf l = .inr ts) : SignOk ts := by
  unfold lexOf at h
  split at h
  · cases h
  · split at h
    · cases h
    · rename_i us hu
      cases h
      exact toks_sign _ _ _ _ hu
theorem SignOk.suf {ts us : List Tok} (h : SignOk ts) (hs : us <:+ ts) : SignOk us := fun t ht => h t (hs.mem ht)
/-- A word is met as a sign nowhere. -/
theorem isT_word {ts : List Tok} (h : SignOk ts) {s : Str} (hs : s ∉ ([[60, 62], [60, 61], [62, 61], [40], [41], [44], [59], [46], [61], [60], [62], [43], [45], [42]] : List Str)) : isT s ts = (isK 1 ts && txt ts == s) := by
  cases ts with
  | nil => rfl
  | cons t r =>
    simp only [isT, isK, txt]
    by_cases h4 : t.1 = 4
    · have h1 := h t (by simp) h4
      have h2 : (t.2.1 == s) = false := by
        rw [beq_eq_false_iff_ne]
        rintro rfl
        exact hs h1
      rw [h2]; simp
    · have : (t.1 == 4) = false := by simpa using h4
      rw [this]; simp
end Go.Proofs.YtkhnpmeohjafiaaGreatDoor
namespace Go.Proofs.YtkhnpmeohjafiaaGreatDoor

/-- A piece of a text: a word, digits, a quoted text, a sign, blanks. -/
inductive Pc where
  | word (s : Str)
  | num (s : Str)
  | quo (t : Str)
  | sig (s : Str)
  | gap (s : Str)
abbrev signs14 : List Str := [[60, 62], [60, 61], [62, 61], [40], [41], [44], [59], [46], [61], [60], [62], [43], [45], [42]]
def Pc.flat : Pc → Str
  | .word s => s
  | .num s => s
  | .quo t => quoted t
  | .sig s => s
  | .gap s => s
def Pc.ok : Pc → Prop
  | .word s => headL s = true ∧ ∀ x ∈ s, isW x = true
  | .num s => s ≠ [] ∧ s.length ≤ 18 ∧ ∀ x ∈ s, isD x = true
  | .quo _ => True
  | .sig s => s ∈ signs14
  | .gap s => ∀ x ∈ s, isB x = true
/-- A piece's token, if it is one, without its place. -/
def Pc.bare : Pc → List (Nat × Str × Nat)
  | .word s => [(1, s.map up, 0)]
  | .num s => [(2, [], val s)]
  | .quo t => [(3, t, 0)]
  | .sig s => [(4, s, 0)]
  | .gap _ => []
def flatP (l : List Pc) : Str := l.flatMap Pc.flat
def bareP (l : List Pc) : List (Nat × Str × Nat) := l.flatMap Pc.bare
def placeP : Nat → List Pc → List Tok
  | _, [] => []
  | p, a :: l => a.bare.map (fun b => (b.1, b.2.1, b.2.2, p)) ++ placeP (p + a.flat.length) l
/-- May these bytes stand behind a piece? -/
def Pc.next (r : Str) : Pc → Prop
  | .word _ => ∀ x, r.head? = some x → isW x = false
  | .num _ => ∀ x, r.head? = some x → isW x = false
  | .quo _ => ∀ x, r.head? = some x → x ≠ 39
  | .sig s => (s = [60] ∨ s = [62]) → ∀ x, r.head? = some x → x ≠ 61 ∧ x ≠ 62
  | .gap _ => True
def AdjP : List Pc → Str → Prop
  | [], _ => True
  | a :: l, r => a.next (flatP l ++ r) ∧ AdjP l r
/-- These bytes may stand behind any piece. -/
def Dl (r : Str) : Prop := ∀ x, r.head? = some x → isW x = false ∧ x ≠ 39 ∧ x ≠ 61 ∧ x ≠ 62

theorem flatP_nil : flatP [] = [] := rfl
theorem flatP_cons (a : Pc) (l : List Pc) : flatP (a :: l) = a.flat ++ flatP l := rfl
theorem flatP_append (l m : List Pc) : flatP (l ++ m) = flatP l ++ flatP m := by simp [flatP]
theorem bareP_append (l m : List Pc) : bareP (l ++ m) = bareP l ++ bareP m := by simp [bareP]
theorem bareP_cons (a : Pc) (l : List Pc) : bareP (a :: l) = a.bare ++ bareP l := rfl
theorem adj_append : ∀ (l m : List Pc) (r : Str), AdjP (l ++ m) r ↔ AdjP l (flatP m ++ r) ∧ AdjP m r
  | [], m, r => by simp [AdjP]
  | a :: l, m, r => by
    simp only [List.cons_append, AdjP, adj_append l m r, flatP_append, List.append_assoc, and_assoc]
theorem Dl.next {r : Str} (h : Dl r) (a : Pc) : a.next r := by
  cases a with
  | word s => exact fun x hx => (h x hx).1
  | num s => exact fun x hx => (h x hx).1
  | quo t => exact fun x hx => (h x hx).2.1
  | sig s => exact fun _ x hx => (h x hx).2.2
  | gap s => trivial
theorem Dl.nil : Dl [] := by simp [Dl]
theorem Dl.cons {x : UInt8} {r : Str} (h : isW x = false ∧ x ≠ 39 ∧ x ≠ 61 ∧ x ≠ 62) : Dl (x :: r) := by simpa [Dl] using h

theorem takeWhile_app {p : UInt8 → Bool} : ∀ {s r : Str}, (∀ x ∈ s, p x = true) → (∀ x, r.head? = some x → p x = false) → (s ++ r).takeWhile p = s ∧ (s ++ r).dropWhile p = r
  | [], [], _, _ => by simp
  | [], y :: r, _, h => by
    have := h y rfl
    simp [List.takeWhile_cons, List.dropWhile_cons, this]
  | x :: s, r, hs, h => by
    have h1 := hs x (List.mem_cons_self ..)
    obtain ⟨h2, h3⟩ := takeWhile_app (s := s) (r := r) (fun y hy => hs y (List.mem_cons_of_mem _ hy)) h
    simp [List.takeWhile_cons, List.dropWhile_cons, h1, h2, h3]
theorem quo_dbl' : ∀ (l r : List UInt8), (∀ x, r.head? = some x → x ≠ 39) → quo (dbl l ++ 39 :: r) = some (l, (dbl l).length + 1)
  | [], r, h => by
    cases r with
    | nil => simp [dbl, quo]
    | cons y r =>
      have := h y rfl
      rw [quo.eq_def]
      simp [dbl, this]
  | x :: l, r, h => by
    have ih := quo_dbl' l r h
    by_cases hx : x = 39
    · subst hx
      rw [dbl_cons, if_pos rfl]
      simp only [List.cons_append, List.nil_append]
      rw [quo.eq_def]
      simp only [if_true]
      rw [ih]
      simp
    · rw [dbl_cons, if_neg hx]
      simp only [List.cons_append, List.nil_append]
      rw [quo.eq_def]
      simp only [if_neg hx]
      rw [ih]
      simp
theorem isW_of_L {x : UInt8} (h : isL x = true) : isW x = true := by simp [isW, h]
theorem isW_of_D {x : UInt8} (h : isD x = true) : isW x = true := by simp [isW, h]
theorem isL_of_W {x : UInt8} (h : isW x = false) : isL x = false := by simp [isW] at h; exact h.1
theorem isD_of_W {x : UInt8} (h : isW x = false) : isD x = false := by simp [isW] at h; exact h.2
theorem sign_byte {s : Str} (h : s ∈ signs14) : ∃ x t, s = x :: t ∧ isW x = false ∧ isB x = false ∧ x ≠ 39 := by
  simp only [signs14, List.mem_cons, List.not_mem_nil, or_false] at h
  rcases h with rfl | rfl | rfl | rfl | rfl | rfl | rfl | rfl | rfl | rfl | rfl | rfl | rfl | rfl <;> exact ⟨_, _, rfl, by decide, by decide, by decide⟩
theorem sgn_app {s r : Str} (h : s ∈ signs14) (hn : (Pc.sig s).next r) : ∃ x t, s ++ r = x :: t ∧ sgn x t = some s := by
  have hd : ∀ x : UInt8, x ∈ ([40, 41, 44, 59, 46, 61, 43, 45, 42] : List UInt8) → ∀ r, sgn x r = some [x] := by
    intro x hx r
    have h60 : x ≠ 60 := by rintro rfl; revert hx; decide
    have h62 : x ≠ 62 := by rintro rfl; revert hx; decide
    have hs : sgnOne x = some [x] := by
      unfold sgnOne
      rw [if_pos]
      simp only [List.mem_cons, List.not_mem_nil, or_false] at hx ⊢
      rcases hx with h | h | h | h | h | h | h | h | h <;> simp [h]
    cases r with
    | nil => exact hs
    | cons y r => simp [sgn, h60, h62, hs]
  have h1 : ∀ x : UInt8, (x = 60 ∨ x = 62) → (∀ y, r.head? = some y → y ≠ 61 ∧ y ≠ 62) → sgn x r = some [x] := by
    intro x hx hr
    have hs : sgnOne x = some [x] := by rcases hx with rfl | rfl <;> decide
    cases r with
    | nil => exact hs
    | cons y r =>
      obtain ⟨h61, h62⟩ := hr y rfl
      simp [sgn, h61, h62, hs]
  simp only [signs14, List.mem_cons, List.not_mem_nil, or_false] at h
  rcases h with rfl | rfl | rfl | rfl | rfl | rfl | rfl | rfl | rfl | rfl | rfl | rfl | rfl | rfl
  · exact ⟨_, _, rfl, by simp [sgn]⟩
  · exact ⟨_, _, rfl, by simp [sgn]⟩
  · exact ⟨_, _, rfl, by simp [sgn]⟩
  · exact ⟨_, _, rfl, hd _ (by decide) _⟩
  · exact ⟨_, _, rfl, hd _ (by decide) _⟩
  · exact ⟨_, _, rfl, hd _ (by decide) _⟩
  · exact ⟨_, _, rfl, hd _ (by decide) _⟩
  · exact ⟨_, _, rfl, hd _ (by decide) _⟩
  · exact ⟨_, _, rfl, hd _ (by decide) _⟩
  · exact ⟨_, _, rfl, h1 _ (.inl rfl) (hn (.inl rfl))⟩
  · exact ⟨_, _, rfl, h1 _ (.inr rfl) (hn (.inr rfl))⟩
  · exact ⟨_, _, rfl, hd _ (by decide) _⟩
  · exact ⟨_, _, rfl, hd _ (by decide) _⟩
  · exact ⟨_, _, rfl, hd _ (by decide) _⟩
/-- A piece's token stands at the beginning. -/
theorem one_piece {a : Pc} {r : Str} (h : a.ok) (hn : a.next r) {k n : Nat} {t : Str} (hb : a.bare = [(k, t, n)]) : one (a.flat ++ r) = some (k, t, n, a.flat.length) := by
  cases a with
  | gap s => simp [Pc.bare] at hb
  | word s =>
    simp only [Pc.bare, List.cons.injEq, Prod.mk.injEq, and_true] at hb
    obtain ⟨rfl, rfl, rfl⟩ := hb
    obtain ⟨h1, h2⟩ := h
    cases s with
    | nil => simp [headL] at h1
    | cons x s =>
      obtain ⟨h3, h4⟩ := takeWhile_app (s := x :: s) (r := r) h2 hn
      simp only [headL] at h1
      simp only [Pc.flat]
      rw [List.cons_append, one_cons, if_pos h1, ← List.cons_append, h3]
  | num s =>
    simp only [Pc.bare, List.cons.injEq, Prod.mk.injEq, and_true] at hb
    obtain ⟨rfl, rfl, rfl⟩ := hb
    obtain ⟨h0, h1, h2⟩ := h
    cases s with
    | nil => exact absurd rfl h0
    | cons x s =>
      obtain ⟨h3, h4⟩ := takeWhile_app (p := isD) (s := x :: s) (r := r) h2 (fun y hy => isD_of_W (hn y hy))
      have hx := h2 x (List.mem_cons_self ..)
      have hL : isL x = false := by
        cases hl : isL x with
        | false => rfl
        | true => rw [isL_d hl] at hx; cases hx
      have hh : headL r = false := by
        cases r with
        | nil => rfl
        | cons y r => exact isL_of_W (hn y rfl)
      simp only [Pc.flat]
      rw [List.cons_append, one_cons, hL, hx, ← List.cons_append, h3, h4, hh]
      simp only [Bool.false_eq_true, if_false, if_true, and_true]
      rw [if_pos h1]
  | quo t =>
    simp only [Pc.bare, List.cons.injEq, Prod.mk.injEq, and_true] at hb
    obtain ⟨rfl, rfl, rfl⟩ := hb
    have h1 : isL 39 = false := by decide
    have h2 : isD 39 = false := by decide
    have h3 : quoted t ++ r = 39 :: (dbl t ++ 39 :: r) := by simp [quoted]
    simp only [Pc.flat]
    rw [h3, one_cons, h1, h2, if_pos rfl, quo_dbl' t r hn]
    simp [quoted]
  | sig s =>
    simp only [Pc.bare, List.cons.injEq, Prod.mk.injEq, and_true] at hb
    obtain ⟨rfl, rfl, rfl⟩ := hb
    obtain ⟨x, u, h1, h2⟩ := sgn_app h hn
    obtain ⟨y, v, h3, h4, h5, h6⟩ := sign_byte h
    have hxy : y = x := by
      subst h3
      simp at h1
      exact h1.1
    subst hxy
    simp only [Pc.flat]
    rw [h1, one_cons, isL_of_W h4, isD_of_W h4, if_neg h6, h2]
    simp
theorem tk_pieces : ∀ (l : List Pc) (p : Nat) (r : Str), (∀ a ∈ l, a.ok) → AdjP l r → tk p (flatP l ++ r) = appR (placeP p l) (tk (p + (flatP l).length) r)
  | [], p, r, _, _ => by simp [flatP, placeP, appR_nil]
  | a :: l, p, r, h, ha => by
    have ih := tk_pieces l (p + a.flat.length) r (fun b hb => h b (List.mem_cons_of_mem _ hb)) ha.2
    have hok := h a (List.mem_cons_self ..)
    have hn := ha.1
    have hlen : p + (flatP (a :: l)).length = p + a.flat.length + (flatP l).length := by rw [flatP_cons, List.length_append]; omega
    rw [hlen]
    rw [flatP_cons, List.append_assoc]
    have key : ∀ k t n, a.bare = [(k, t, n)] → tk p (a.flat ++ (flatP l ++ r)) = appR (placeP p (a :: l)) (tk (p + a.flat.length + (flatP l).length) r) := by
      intro k t n hb
      have ho := one_piece hok hn hb
      cases hf : a.flat ++ (flatP l ++ r) with
      | nil =>
        rw [hf] at ho
        simp [one] at ho
      | cons x u =>
        rw [hf] at ho
        rw [tk_some ho, ← hf, List.drop_left', ih, placeP, hb]
        · simp only [List.map_cons, List.map_nil, List.singleton_append, appR_cons]
        · rfl
    cases a with
    | gap s => simp only [Pc.flat, placeP, Pc.bare, List.map_nil, List.nil_append] at *; rw [tk_blanks s p _ hok, ih]
    | word s => exact key _ _ _ rfl
    | num s => exact key _ _ _ rfl
    | quo s => exact key _ _ _ rfl
    | sig s => exact key _ _ _ rfl
/-- A token without its place. -/
def strip (t : Tok) : Nat × Str × Nat := (t.1, t.2.1, t.2.2.1)
theorem placeP_strip : ∀ (l : List Pc) (p : Nat), (placeP p l).map strip = bareP l
  | [], _ => rfl
  | a :: l, p => by
    rw [placeP, List.map_append, placeP_strip l, bareP_cons, List.map_map]
    congr 1
    have : strip ∘ (fun b : Nat × Str × Nat => ((b.1, b.2.1, b.2.2, p) : Tok)) = id := by funext b; rfl
    rw [this, List.map_id]
/-- A text that is pieces alone. -/
theorem lexOf_pieces {l : List Pc} (h : ∀ a ∈ l, a.ok) (ha : AdjP l []) (hl : (flatP l).length ≤ 4096) : lexOf (flatP l) = .inr (placeP 0 l) := by
  have := tk_pieces l 0 [] h ha
  rw [List.append_nil, tk_nil] at this
  unfold lexOf
  rw [if_neg (by omega), this]
  simp [appR]
theorem lexOf_long {l : Str} (h : 4096 < l.length) : lexOf l = .inl (2, 4096) := by unfold lexOf; rw [if_pos h]
end Go.Proofs.YtkhnpmeohjafiaaGreatDoor
namespace Go.Proofs.YtkhnpmeohjafiaaGreatDoor

section
variable {E : Nat} {fc ns nt read : List Tok → Res Ex} {ops : List Str} {ts r : List Tok} {e : Ex} {x : Nat × Nat}
theorem chL_stop {f : Nat} (h : anyT ops r = false) : chL read ops f e r = .ok (e, r) := by cases f <;> simp [chL, h]
theorem ch_of (h : read ts = .ok (e, r)) (hs : anyT ops r = false) : ch read ops ts = .ok (e, r) := by simp [ch, h, chL_stop hs]
theorem ch_err (h : read ts = .error x) : ch read ops ts = .error x := by simp [ch, h]
theorem sum_of (h : fc ts = .ok (e, r)) (h1 : anyT [[42]] r = false) (h2 : anyT [[43], [45]] r = false) : sumOf fc ts = .ok (e, r) := ch_of (ch_of h h1) h2
theorem sum_err (h : fc ts = .error x) : sumOf fc ts = .error x := ch_err (ch_err h)
theorem cmp_of (h : read ts = .ok (e, r)) (h1 : anyT cmpL r = false) : cmpOf read ts = .ok (e, r) := by simp [cmpOf, h, h1]
theorem cmp_err (h : read ts = .error x) : cmpOf read ts = .error x := by simp [cmpOf, h]
/-- None of the operators stands next. -/
def Stop (ts : List Tok) : Prop := anyT [[42]] ts = false ∧ anyT [[43], [45]] ts = false ∧ anyT cmpL ts = false ∧ anyT [[65, 78, 68]] ts = false ∧ anyT [[79, 82]] ts = false
theorem Stop.nil : Stop [] := ⟨rfl, rfl, rfl, rfl, rfl⟩
theorem not_of (h : fc ts = .ok (e, r)) (hs : Stop r) (hn : isT [78, 79, 84] ts = false) : notOf fc ns ts = .ok (e, r) := by
  unfold notOf
  rw [hn]
  exact cmp_of (sum_of h hs.1 hs.2.1) hs.2.2.1
theorem not_err (h : fc ts = .error x) (hn : isT [78, 79, 84] ts = false) : notOf fc ns ts = .error x := by
  unfold notOf
  rw [hn]
  exact cmp_err (sum_err h)
theorem ex_of (h : nt ts = .ok (e, r)) (hs : Stop r) : exprOf nt ts = .ok (e, r) := ch_of (ch_of h hs.2.2.2.1) hs.2.2.2.2
theorem ex_err (h : nt ts = .error x) : exprOf nt ts = .error x := ch_err (ch_err h)
end
theorem lv_fac (E n : Nat) : ∃ fs ns es, lv E n = lvOf E fs ns es := by cases n <;> exact ⟨_, _, _, rfl⟩
theorem lv_no_of {E n : Nat} {ts r : List Tok} {e : Ex} (h : (lv E n).fac ts = .ok (e, r)) (hs : Stop r) (hn : isT [78, 79, 84] ts = false) : (lv E n).no ts = .ok (e, r) := by
  obtain ⟨fs, ns, es, h1⟩ := lv_fac E n
  rw [h1] at h ⊢
  exact not_of h hs hn
theorem lv_no_err {E n : Nat} {ts : List Tok} {x : Nat × Nat} (h : (lv E n).fac ts = .error x) (hn : isT [78, 79, 84] ts = false) : (lv E n).no ts = .error x := by
  obtain ⟨fs, ns, es, h1⟩ := lv_fac E n
  rw [h1] at h ⊢
  exact not_err h hn
theorem isT_of {s : Str} {t : Tok} {r : List Tok} {k n : Nat} {u : Str} (h : strip t = (k, u, n)) : isT s (t :: r) = ((k == 1 || k == 4) && u == s) := by
  simp only [strip, Prod.mk.injEq] at h
  simp only [isT, h.1, h.2.1]
theorem isK_of {j : Nat} {t : Tok} {r : List Tok} {k n : Nat} {u : Str} (h : strip t = (k, u, n)) : isK j (t :: r) = (k == j) := by
  simp only [strip, Prod.mk.injEq] at h
  simp only [isK, h.1]
theorem txt_of {t : Tok} {r : List Tok} {k n : Nat} {u : Str} (h : strip t = (k, u, n)) : txt (t :: r) = u := by
  simp only [strip, Prod.mk.injEq] at h
  exact h.2.1
theorem stop_close {t : Tok} {r : List Tok} (h : strip t = (4, [41], 0)) : Stop (t :: r) := by
  refine ⟨?_, ?_, ?_, ?_, ?_⟩ <;> simp [anyT, cmpL, isT_of h]
theorem fac_name {E : Nat} {fs es : List Tok → Res Ex} {t : Tok} {r : List Tok} {u : Str} (h : strip t = (1, u, 0)) (hr : resv u = false) (hl : u.length ≤ 24) (hm : u ≠ [45]) (hp : u ≠ [40]) (hd : isT [46] r = false) : factorOf E fs es (t :: r) = .ok (eName u [], r) := by
  have h1 : (u == [45]) = false := by simpa using hm
  have h2 : (u == [40]) = false := by simpa using hp
  simp only [factorOf, isK_of h, isT_of h, h1, h2, item, name, nameT, txt_of h, hr, hl, List.tail_cons]
  simp [hd]
/-- n openers, then what has none. -/
theorem deep_paren {E : Nat} {a : Tok} (ha : strip a = (1, [65], 0)) : ∀ (m : Nat) (k : Nat) (op cl r : List Tok), op.length = m → cl.length = m → (∀ t ∈ op, strip t = (4, [40], 0)) → (∀ t ∈ cl, strip t = (4, [41], 0)) → isT [46] r = false →
    (lv E k).fac (op ++ a :: (cl ++ r)) = if m ≤ k then .ok (eName [65] [], r) else .error (151, plc E ((op ++ a :: (cl ++ r)).drop (k + 1)))
  | 0, k, op, cl, r, h1, h2, _, _, hd => by
    obtain ⟨fs, ns, es, hl⟩ := lv_fac E k
    rw [List.length_eq_zero_iff] at h1 h2
    subst h1 h2
    rw [hl]
    simp only [List.nil_append, Nat.zero_le, if_true]
    exact fac_name ha (by decide) (by decide) (by decide) (by decide) hd
  | m + 1, k, op, cl, r, h1, h2, ho, hc, hd => by
    cases op with
    | nil => simp at h1
    | cons t op =>
      have hcl : ∃ cl' u, cl = cl' ++ [u] := by
        rcases List.eq_nil_or_concat cl with rfl | ⟨l, u, h⟩
        · simp at h2
        · exact ⟨l, u, by simpa using h⟩
      obtain ⟨cl', u, rfl⟩ := hcl
      have ht := ho t (List.mem_cons_self ..)
      have hu := hc u (by simp)
      have e1 : (cl' ++ [u]) ++ r = cl' ++ u :: r := by simp
      rw [e1]
      have hin : isT [78, 79, 84] (op ++ a :: (cl' ++ u :: r)) = false := by
        cases op with
        | nil => rw [List.nil_append, isT_of ha]; decide
        | cons o op => rw [List.cons_append, isT_of (ho o (by simp))]; decide
      have hfac : ∀ fs es, factorOf E fs es (t :: op ++ a :: (cl' ++ u :: r)) = bnd (es (op ++ a :: (cl' ++ u :: r))) fun e r => bnd (must E [41] r) fun _ r' => .ok (e, r') := by
        intro fs es
        simp only [factorOf, List.cons_append, isK_of ht, isT_of ht, List.tail_cons]
        simp
      cases k with
      | zero =>
        rw [if_neg (by omega)]
        show factorOf E _ _ _ = _
        rw [hfac]
        simp only [bad, bnd_error, Nat.zero_add, List.cons_append, List.drop_succ_cons, List.drop_zero]
      | succ k =>
        show factorOf E _ _ _ = _
        rw [hfac]
        have ih := deep_paren (E := E) ha m k op cl' (u :: r) (by simpa using h1) (by simpa using h2) (fun x hx => ho x (List.mem_cons_of_mem _ hx)) (fun x hx => hc x (by simp [hx])) (by rw [isT_of hu]; decide)
        by_cases hmk : m ≤ k
        · rw [if_pos hmk] at ih
          rw [if_pos (by omega)]
          have h3 : (lv E k).ex (op ++ a :: (cl' ++ u :: r)) = .ok (eName [65] [], u :: r) := ex_of (lv_no_of ih (stop_close hu) hin) (stop_close hu)
          rw [h3]
          simp [must, isT_of hu]
        · rw [if_neg hmk] at ih
          rw [if_neg (by omega)]
          have h3 : (lv E k).ex (op ++ a :: (cl' ++ u :: r)) = _ := ex_err (lv_no_err ih hin)
          rw [h3]
          simp
theorem deep_minus {E : Nat} {a : Tok} (ha : strip a = (1, [65], 0)) : ∀ (m : Nat) (k : Nat) (op r : List Tok), op.length = m → (∀ t ∈ op, strip t = (4, [45], 0)) → isT [46] r = false →
    ∃ e, (lv E k).fac (op ++ a :: r) = if m ≤ k then .ok (e, r) else .error (151, plc E ((op ++ a :: r).drop (k + 1)))
  | 0, k, op, r, h1, _, hd => by
    obtain ⟨fs, ns, es, hl⟩ := lv_fac E k
    rw [List.length_eq_zero_iff] at h1
    subst h1
    rw [hl]
    simp only [List.nil_append, Nat.zero_le, if_true]
    exact ⟨_, fac_name ha (by decide) (by decide) (by decide) (by decide) hd⟩
  | m + 1, k, op, r, h1, ho, hd => by
    cases op with
    | nil => simp at h1
    | cons t op =>
      have ht := ho t (List.mem_cons_self ..)
      have hfac : ∀ fs es, factorOf E fs es (t :: op ++ a :: r) = fin (eOne [45]) (fs (op ++ a :: r)) := by
        intro fs es
        simp only [factorOf, List.cons_append, isK_of ht, isT_of ht, List.tail_cons]
        simp
      cases k with
      | zero =>
        refine ⟨.none, ?_⟩
        rw [if_neg (by omega)]
        show factorOf E _ _ _ = _
        rw [hfac]
        simp only [bad, fin_error, Nat.zero_add, List.cons_append, List.drop_succ_cons, List.drop_zero]
      | succ k =>
        obtain ⟨e, ih⟩ := deep_minus (E := E) ha m k op r (by simpa using h1) (fun x hx => ho x (List.mem_cons_of_mem _ hx)) hd
        refine ⟨eOne [45] e, ?_⟩
        show factorOf E _ _ _ = _
        rw [hfac, ih]
        by_cases hmk : m ≤ k
        · rw [if_pos hmk, if_pos (by omega)]; rfl
        · rw [if_neg hmk, if_neg (by omega)]; simp
theorem deep_not {E : Nat} {a : Tok} (ha : strip a = (1, [65], 0)) : ∀ (m : Nat) (k : Nat) (op r : List Tok), op.length = m → (∀ t ∈ op, strip t = (1, [78, 79, 84], 0)) → isT [46] r = false → Stop r →
    ∃ e, (lv E k).no (op ++ a :: r) = if m ≤ k then .ok (e, r) else .error (151, plc E ((op ++ a :: r).drop (k + 1)))
  | 0, k, op, r, h1, _, hd, hs => by
    obtain ⟨fs, ns, es, hl⟩ := lv_fac E k
    rw [List.length_eq_zero_iff] at h1
    subst h1
    rw [hl]
    simp only [List.nil_append, Nat.zero_le, if_true]
    exact ⟨_, not_of (fac_name ha (by decide) (by decide) (by decide) (by decide) hd) hs (by rw [isT_of ha]; decide)⟩
  | m + 1, k, op, r, h1, ho, hd, hs => by
    cases op with
    | nil => simp at h1
    | cons t op =>
      have ht := ho t (List.mem_cons_self ..)
      have hno : ∀ fc ns, notOf fc ns (t :: op ++ a :: r) = fin (eOne [78, 79, 84]) (ns (op ++ a :: r)) := by
        intro fs es
        simp only [notOf, List.cons_append, isT_of ht, List.tail_cons]
        simp
      cases k with
      | zero =>
        refine ⟨.none, ?_⟩
        rw [if_neg (by omega)]
        show notOf _ _ _ = _
        rw [hno]
        simp only [bad, fin_error, Nat.zero_add, List.cons_append, List.drop_succ_cons, List.drop_zero]
      | succ k =>
        obtain ⟨e, ih⟩ := deep_not (E := E) ha m k op r (by simpa using h1) (fun x hx => ho x (List.mem_cons_of_mem _ hx)) hd hs
        refine ⟨eOne [78, 79, 84] e, ?_⟩
        show notOf _ _ _ = _
        rw [hno, ih]
        by_cases hmk : m ≤ k
        · rw [if_pos hmk, if_pos (by omega)]; rfl
        · rw [if_neg hmk, if_neg (by omega)]; simp

/-- A question whose condition is what stands behind WHERE. -/
def qWhere (e : Ex) : St := { St.none with kind := [83, 69, 76, 69, 67, 84], query := [{ Qu.none with items := [eName [65] []], tables := [[84]], cond := [e] }] }
theorem whole_where {E : Nat} {t1 t2 t3 t4 t5 : Tok} {ts : List Tok} (h1 : strip t1 = (1, [83, 69, 76, 69, 67, 84], 0)) (h2 : strip t2 = (1, [65], 0)) (h3 : strip t3 = (1, [70, 82, 79, 77], 0)) (h4 : strip t4 = (1, [84], 0)) (h5 : strip t5 = (1, [87, 72, 69, 82, 69], 0)) :
    whole E (t1 :: t2 :: t3 :: t4 :: t5 :: ts) = bnd (expr E ts) fun e r => bnd (bnd (moreL E r.length [] [{ Qu.none with items := [eName [65] []], tables := [[84]], cond := [e] }] r) fun oq r => bnd (asOfP E r) fun a r => bnd (duringP E r) fun d r =>
      fin (fun o => { St.none with kind := [83, 69, 76, 69, 67, 84], query := oq.2, ops := oq.1, asOf := a, during := d, order := o }) (orderP E r)) fun x r => if (if isT [59] r then r.tail else r) = [] then .ok (x, []) else bad E 150 (if isT [59] r then r.tail else r) := by
  have hq : query E (t1 :: t2 :: t3 :: t4 :: t5 :: ts) = fin (fun e => { Qu.none with items := [eName [65] []], tables := [[84]], cond := [e] }) (expr E ts) := by
    have n2 : name E (t2 :: t3 :: t4 :: t5 :: ts) = .ok ([65], t3 :: t4 :: t5 :: ts) := by
      simp only [name, nameT, isK_of h2, txt_of h2, List.tail_cons]
      rfl
    have n4 : name E (t4 :: t5 :: ts) = .ok ([84], t5 :: ts) := by
      simp only [name, nameT, isK_of h4, txt_of h4, List.tail_cons]
      rfl
    have hi : item E (t2 :: t3 :: t4 :: t5 :: ts) = .ok (eName [65] [], t3 :: t4 :: t5 :: ts) := by
      simp only [item, n2, bnd_ok, isT_of h3]
      rfl
    have hs : sep (item E) (t2 :: t3 :: t4 :: t5 :: ts) = .ok ([eName [65] []], t3 :: t4 :: t5 :: ts) := by
      simp only [sep, hi, bnd_ok, List.length_cons, sepL, isT_of h3]
      rfl
    have ha : asked E { Qu.none with coalesce := false } (t2 :: t3 :: t4 :: t5 :: ts) = .ok ({ Qu.none with items := [eName [65] []] }, t3 :: t4 :: t5 :: ts) := by
      simp only [asked, isT_of h2, hs]
      rfl
    have ht : tablesP E (t4 :: t5 :: ts) = .ok ([[84]], t5 :: ts) := by
      simp only [tablesP, n4, bnd_ok, isT_of h5]
      rfl
    have hw : whereP E (t5 :: ts) = fin (fun e => [e]) (expr E ts) := by
      simp only [whereP, isT_of h5, List.tail_cons]
      rfl
    have hc : isT [67, 79, 65, 76, 69, 83, 67, 69] (t2 :: t3 :: t4 :: t5 :: ts) = false := by simp only [isT_of h2]; decide
    simp only [query, must, isT_of h1, List.tail_cons]
    simp only [show ((1 == 1 || 1 == 4) && ([83, 69, 76, 69, 67, 84] : Str) == [83, 69, 76, 69, 67, 84]) = true by decide, if_true, bnd_ok, hc, Bool.false_eq_true, if_false, ha, isT_of h3, show ((1 == 1 || 1 == 4) && ([70, 82, 79, 77] : Str) == [70, 82, 79, 77]) = true by decide, List.tail_cons, ht, hw]
    cases expr E ts with
    | error e => rfl
    | ok q => rfl
  have hst : stmt E (t1 :: t2 :: t3 :: t4 :: t5 :: ts) = selects E (t1 :: t2 :: t3 :: t4 :: t5 :: ts) := by
    simp only [stmt, isT_of h1, anyT, List.any]
    rfl
  unfold whole
  rw [hst]
  unfold selects
  rw [hq]
  cases expr E ts with
  | error e => rfl
  | ok q => rfl
theorem whole_where_ok {E : Nat} {t1 t2 t3 t4 t5 : Tok} {ts : List Tok} {e : Ex} (h1 : strip t1 = (1, [83, 69, 76, 69, 67, 84], 0)) (h2 : strip t2 = (1, [65], 0)) (h3 : strip t3 = (1, [70, 82, 79, 77], 0)) (h4 : strip t4 = (1, [84], 0)) (h5 : strip t5 = (1, [87, 72, 69, 82, 69], 0))
    (he : expr E ts = .ok (e, [])) : whole E (t1 :: t2 :: t3 :: t4 :: t5 :: ts) = .ok (qWhere e, []) := by
  rw [whole_where h1 h2 h3 h4 h5, he]
  rfl
theorem whole_where_err {E : Nat} {t1 t2 t3 t4 t5 : Tok} {ts : List Tok} {x : Nat × Nat} (h1 : strip t1 = (1, [83, 69, 76, 69, 67, 84], 0)) (h2 : strip t2 = (1, [65], 0)) (h3 : strip t3 = (1, [70, 82, 79, 77], 0)) (h4 : strip t4 = (1, [84], 0)) (h5 : strip t5 = (1, [87, 72, 69, 82, 69], 0))
    (he : expr E ts = .error x) : whole E (t1 :: t2 :: t3 :: t4 :: t5 :: ts) = .error x := by
  rw [whole_where h1 h2 h3 h4 h5, he]
  rfl
/-- The pieces of 'select a from t where '. -/
def headP : List Pc := [.word [115, 101, 108, 101, 99, 116], .gap [32], .word [97], .gap [32], .word [102, 114, 111, 109], .gap [32], .word [116], .gap [32], .word [119, 104, 101, 114, 101], .gap [32]]
theorem headP_flat : flatP headP = [115, 101, 108, 101, 99, 116, 32, 97, 32, 102, 114, 111, 109, 32, 116, 32, 119, 104, 101, 114, 101, 32] := by decide
theorem headP_ok : ∀ a ∈ headP, a.ok := by
  intro a ha
  simp only [headP, List.mem_cons, List.not_mem_nil, or_false] at ha
  rcases ha with rfl | rfl | rfl | rfl | rfl | rfl | rfl | rfl | rfl | rfl <;> simp only [Pc.ok] <;> decide
theorem headP_adj (r : Str) : AdjP headP r := by
  simp [headP, AdjP, Pc.next, flatP, Pc.flat, isW, isL, isD]
theorem headP_place (l : List Pc) : placeP 0 (headP ++ l) = (1, [83, 69, 76, 69, 67, 84], 0, 0) :: (1, [65], 0, 7) :: (1, [70, 82, 79, 77], 0, 9) :: (1, [84], 0, 14) :: (1, [87, 72, 69, 82, 69], 0, 16) :: placeP 22 l := rfl
/-- The statement of a text 'select a from t where ..' of pieces. -/
theorem parse_where {l : List Pc} (h : ∀ a ∈ l, a.ok) (ha : AdjP l []) (hl : ([115, 101, 108, 101, 99, 116, 32, 97, 32, 102, 114, 111, 109, 32, 116, 32, 119, 104, 101, 114, 101, 32] ++ flatP l).length ≤ 4096) :
    (∀ e, expr ([115, 101, 108, 101, 99, 116, 32, 97, 32, 102, 114, 111, 109, 32, 116, 32, 119, 104, 101, 114, 101, 32] ++ flatP l).length (placeP 22 l) = .ok (e, []) → parseOf ([115, 101, 108, 101, 99, 116, 32, 97, 32, 102, 114, 111, 109, 32, 116, 32, 119, 104, 101, 114, 101, 32] ++ flatP l) = .inr (qWhere e)) ∧
    (∀ x, expr ([115, 101, 108, 101, 99, 116, 32, 97, 32, 102, 114, 111, 109, 32, 116, 32, 119, 104, 101, 114, 101, 32] ++ flatP l).length (placeP 22 l) = .error x → parseOf ([115, 101, 108, 101, 99, 116, 32, 97, 32, 102, 114, 111, 109, 32, 116, 32, 119, 104, 101, 114, 101, 32] ++ flatP l) = .inl x) := by
  have hf : [115, 101, 108, 101, 99, 116, 32, 97, 32, 102, 114, 111, 109, 32, 116, 32, 119, 104, 101, 114, 101, 32] ++ flatP l = flatP (headP ++ l) := by rw [flatP_append, headP_flat]
  have hlex : lexOf ([115, 101, 108, 101, 99, 116, 32, 97, 32, 102, 114, 111, 109, 32, 116, 32, 119, 104, 101, 114, 101, 32] ++ flatP l) = .inr (placeP 0 (headP ++ l)) := by
    rw [hf]
    refine lexOf_pieces (fun a hm => ?_) ((adj_append _ _ _).2 ⟨headP_adj _, ha⟩) (by rw [← hf]; exact hl)
    rcases List.mem_append.1 hm with hm | hm
    · exact headP_ok a hm
    · exact h a hm
  rw [headP_place] at hlex
  constructor
  · intro e he
    unfold parseOf
    rw [hlex]
    simp only
    rw [whole_where_ok rfl rfl rfl rfl rfl he]
  · intro x he
    unfold parseOf
    rw [hlex]
    simp only
    rw [whole_where_err rfl rfl rfl rfl rfl he]
theorem place_rep (a : Pc) (b : Nat × Str × Nat) (hb : a.bare = [b]) : ∀ (n p : Nat) (l : List Pc), ∃ ts, placeP p (List.replicate n a ++ l) = ts ++ placeP (p + n * a.flat.length) l ∧ ts.length = n ∧ ∀ t ∈ ts, strip t = b
  | 0, p, l => ⟨[], by simp, rfl, by simp⟩
  | n + 1, p, l => by
    obtain ⟨ts, h1, h2, h3⟩ := place_rep a b hb n (p + a.flat.length) l
    refine ⟨(b.1, b.2.1, b.2.2, p) :: ts, ?_, by simp [h2], ?_⟩
    · rw [List.replicate_succ, List.cons_append, placeP, hb, h1]
      have : p + a.flat.length + n * a.flat.length = p + (n + 1) * a.flat.length := by rw [Nat.add_mul]; omega
      rw [this]
      rfl
    · intro t ht
      rcases List.mem_cons.1 ht with rfl | ht
      · rfl
      · exact h3 t ht
end Go.Proofs.YtkhnpmeohjafiaaGreatDoor
