/- The machine itself: what one operation makes of what is known, and how a function's code is gone through. -/
import Derived.Test.YtkhbodngiodklaaDxA
import Derived.StillTail
set_option linter.all false
namespace Go.Dx
open Go Go.RowKit

/-- A cell's kind, where '==' is asked. -/
inductive Kd where
  | i (k : IntKind) | b | s
inductive Ty where
  | int (k : IntKind) | bool | str | slice (e : TypeId) | struct (fs : List (Nat × TypeId)) | arr (n : Nat) (e : TypeId) | ptr (e : TypeId) | other
structure TI where
  d : Ty
  size : Nat
  bytes : Nat
  zero : Value
  ok : Bool
  eqk : List Kd

structure Var where
  t : TypeId
  cells : List V
/-- What stands in a row: cell by cell, or by columns. -/
inductive Ct where
  | list (l : List V)
  | cols (cs : List Col)
structure Row where
  live : Bool
  e : TypeId
  sz : Nat
  n : I
  ct : Ct
inductive Need where
  | idx (i n : Int)
  | le (a b : Int)
  | room (n : Int) (bytes : Nat)
  | nonneg (a : Int)
  | ne (a b : Int)
structure S where
  tmps : List V
  vars : List Var
  rows : List Row
  needs : List Need

inductive It where
  | code (c : Code) | inBlock (id : Nat) | inLoop (c : Code) | ops (all rest : List Oper)
  | openR (n : Nat) (ops : Array Oper) (listed : Array Bool) | pickR (n : Nat) (ops : Array Oper) (listed : Array Bool) (j : Nat)

inductive Out where
  | base (s : S)
  | ret (vs : List V) (s : S)
  | branch (b : Bool) (t1 : List It) (s1 : S) (t2 : List It) (s2 : S)
  | call (f : FuncId) (args : List V) (dst : Option Nat) (ask : Bool) (t : List It) (s : S)
  | loop (c : Code) (t : List It) (s : S)
  | out (id : Nat) (s : S)
  | stuck (o : Oper) (all rest : List Oper) (t : List It) (s : S)
  | fuel (t : List It) (s : S)
  | bad (t : List It) (s : S)
  | fork (ts : List (List It)) (s : S)

def ofCell : Value → V
  | .int k n => .i k (.l n)
  | .bool b => .b (.l b)
  | v => .v v
def ofVal : Value → V
  | .agg cs => .agg (cs.toList.map ofCell)
  | v => ofCell v

def one : V → Bool
  | .i _ _ | .b _ | .lp _ _ | .ro _ _ _ | .rp _ _ _ _ _ | .own _ | .vw _ _ _ _ | .op _ _ _ _ | .fn _ _ => true
  | .v v => v.oneCell'
  | _ => false
/-- It leads to no row of the call's own. -/
def cl : V → Bool
  | .i _ _ | .b _ | .lp _ _ | .ro _ _ _ | .rp _ _ _ _ _ => true
  | .v v => v.oneCell'
  | _ => false
/-- The cells of a value; none where it is not known how many there are. -/
def cells : V → Option (List V)
  | .agg l => if l.all one then some l else none
  | v => if one v then some [v] else none

def ev (s : S) : Operand → V
  | .tmp t => s.tmps.getD t .junk
  | .const v => ofVal v
  | .global g => .v (.pointer (some ⟨g, 0, none⟩))
  | .func f => .fn f []
def S.put (s : S) (d : Option Nat) (v : V) : S :=
  match d with
  | none => s
  | some d => { s with tmps := s.tmps.set d v }

def splice (l : List V) (o : Nat) (m : List V) : List V := l.take o ++ m ++ l.drop (o + m.length)
def shapeV (t : TI) (l : List V) : V :=
  match t.d with
  | .struct _ | .arr _ _ => .agg l
  | _ => l.getD 0 .junk
def fillParts (place : Nat → Nat) : List V → List (Nat × V) → Option (List V)
  | z, [] => some z
  | z, (i, v) :: r =>
    match cells v with
    | some m => if place i + m.length ≤ z.length then fillParts place (splice z (place i) m) r else none
    | none => none

def isCmp : BinOp → Bool
  | .eql | .neq | .lss | .leq | .gtr | .geq => true
  | _ => false
def litCmp (op : BinOp) (a b : Int) : Bool :=
  match op with
  | .eql => a == b | .neq => a != b | .lss => decide (a < b) | .leq => decide (a ≤ b) | .gtr => decide (b < a) | _ => decide (b ≤ a)
/-- What Go's whole numbers come to (a shift's count and a divisor are asked for apart). -/
def litArith (op : BinOp) (k : IntKind) (a b : Int) : Int :=
  match op with
  | .add => k.wrap (a + b) | .sub => k.wrap (a - b) | .mul => k.wrap (a * b)
  | .quo => k.wrap (a.tdiv b) | .rem => a.tmod b
  | .shl => k.wrap (a * 2 ^ min b.toNat k.bits) | .shr => a.fdiv (2 ^ min b.toNat k.bits)
  | .and => k.wrap (BitVec.ofInt k.bits a &&& BitVec.ofInt k.bits b).toNat
  | .or => k.wrap (BitVec.ofInt k.bits a ||| BitVec.ofInt k.bits b).toNat
  | .xor => k.wrap (BitVec.ofInt k.bits a ^^^ BitVec.ofInt k.bits b).toNat
  | _ => k.wrap (BitVec.ofInt k.bits a &&& ~~~ BitVec.ofInt k.bits b).toNat

def natI : I → Nat
  | .l n => n.toNat
  | .s n => n.toNat
def addI (a b : I) : I := match a, b with
  | .l x, .l y => .l (x + y)
  | .l x, .s y => if x == 0 then .s y else .s (x + y)
  | .s x, .l y => if y == 0 then .s x else .s (x + y)
  | .s x, .s y => .s (x + y)
def subI (a b : I) : I := match a, b with
  | .l x, .l y => .l (x - y)
  | .l x, .s y => .s (x - y)
  | .s x, .l y => if y == 0 then .s x else .s (x - y)
  | .s x, .s y => .s (x - y)
def leI : I → I → Option (List Need)
  | .l a, .l b => if a ≤ b then some [] else none
  | a, b => some [.le a.val b.val]
def bNot : B → B
  | .l b => .l (!b)
  | .s b => .s (!b)
def bAnd : B → B → B
  | .l true, y => y
  | .l false, _ => .l false
  | x, .l true => x
  | _, .l false => .l false
  | .s a, .s b => .s (a && b)

/-! ### Columns -/
def catF {α : Type} (n : Nat) (f g : Nat → α) : Nat → α := fun i => if i < n then f i else g (i - n)
def updF {α : Type} (f : Nat → α) (i : Nat) (v : α) : Nat → α := fun j => if j = i then v else f j
def shF {α : Type} (k : Nat) (f : Nat → α) : Nat → α := fun i => f (k + i)
def FCol.cat (n : Nat) : FCol → FCol → Col
  | .i k f, .i k' g => if k == k' then .f (.i k (catF n f g)) else .j
  | .b f, .b g => .f (.b (catF n f g))
  | .s f, .s g => .f (.s (catF n f g))
  | _, _ => .j
def FCol2.cat (n : Nat) : FCol2 → FCol2 → Option FCol2
  | .i k f, .i k' g => if k == k' then some (.i k (catF n f g)) else none
  | .b f, .b g => some (.b (catF n f g))
  | .s f, .s g => some (.s (catF n f g))
  | _, _ => none
def catSl (n : Nat) : List FCol2 → List FCol2 → Option (List FCol2)
  | [], [] => some []
  | c :: cs, d :: ds => match c.cat n d, catSl n cs ds with
    | some x, some xs => some (x :: xs)
    | _, _ => none
  | _, _ => none
def Col.cat (n : Nat) : Col → Col → Col
  | .f c, .f d => c.cat n d
  | .sl p cs, .sl q ds => match catSl n cs ds with
    | some xs => .sl (catF n p q) xs
    | none => .j
  | _, _ => .j
def catCols (n : Nat) : List Col → List Col → List Col
  | c :: cs, d :: ds => c.cat n d :: catCols n cs ds
  | _, _ => []
def FCol.sh (k : Nat) : FCol → FCol
  | .i q f => .i q (shF k f)
  | .b f => .b (shF k f)
  | .s f => .s (shF k f)
def FCol2.sh (k : Nat) : FCol2 → FCol2
  | .i q f => .i q (shF k f)
  | .b f => .b (shF k f)
  | .s f => .s (shF k f)
def Col.sh (k : Nat) : Col → Col
  | .f c => .f (c.sh k)
  | .sl p cs => .sl (shF k p) (cs.map (FCol2.sh k))
  | .j => .j
def shI (k : I) (cs : List Col) : List Col := match k with
  | .l 0 => cs
  | k => cs.map (Col.sh (natI k))
/-- One cell is set otherwise. -/
def Col.upd (i : Nat) : Col → V → Col
  | .f (.i k p), .i k' n => if k == k' then .f (.i k (updF p i n.val)) else .j
  | .f (.b p), .b x => .f (.b (updF p i x.val))
  | .f (.s p), .v (.string x) => .f (.s (updF p i x))
  | _, _ => .j
def updCols (i : Nat) : Nat → List Col → List V → List Col
  | 0, c :: cs, v :: vs => c.upd i v :: updCols i 0 cs vs
  | 0, cs, [] => cs
  | j + 1, c :: cs, vs => c :: updCols i j cs vs
  | _, [], _ => []
/-- A column of cells that are listed. -/
def kI : List V → Option IntKind
  | .i k _ :: _ => some k
  | _ => none
def asI (k : IntKind) : List V → Option (List Int)
  | [] => some []
  | .i k' n :: l => if k == k' then (asI k l).map (n.val :: ·) else none
  | _ => none
def asB : List V → Option (List Bool)
  | [] => some []
  | .b x :: l => (asB l).map (x.val :: ·)
  | _ => none
def asS : List V → Option (List ByteArray)
  | [] => some []
  | .v (.string x) :: l => (asS l).map (x :: ·)
  | _ => none
def colOf (l : List V) : Col :=
  match l with
  | .i k _ :: _ => match asI k l with | some x => .f (.i k (fun i => x.getD i 0)) | none => .j
  | .b _ :: _ => match asB l with | some x => .f (.b (fun i => x.getD i false)) | none => .j
  | .v (.string _) :: _ => match asS l with | some x => .f (.s (fun i => x.getD i ByteArray.empty)) | none => .j
  | _ => .j
/-- Every so manieth one, from one on. -/
def every (sz : Nat) : Nat → Nat → List V → List V
  | 0, _, _ => []
  | n + 1, j, l => l.getD j .junk :: every sz n (j + sz) l
def colsOf (sz : Nat) (l : List V) : List Col := (List.range sz).map fun j => colOf (every sz (l.length / sz) j l)
def Ct.cols' (sz : Nat) : Ct → List Col
  | .list l => colsOf sz l
  | .cols cs => cs
def Ct.cells (n sz : Nat) : Ct → List V
  | .list l => l
  | .cols cs => (List.range n).flatMap fun i => (List.range sz).map (getC cs i)
/-- Two rows, one behind the other. -/
def Ct.cat (n m : I) (sz : Nat) : Ct → Ct → Ct
  | .list l, .list l' => .list (l ++ l')
  | a, b => match n, m with
    | .l 0, _ => b
    | _, .l 0 => a
    | n, _ => .cols (catCols (natI n) (a.cols' sz) (b.cols' sz))

section
variable (T : TypeId → TI)

def binI (op : BinOp) (k : IntKind) (a b : I) : V :=
  if isCmp op then
    match a, b with
    | .l a, .l b => .b (.l (litCmp op a b))
    | a, b => .b (.s (litCmp op a.val b.val))
  else
    match a, b with
    | .l a, .l b => .i k (.l (litArith op k a b))
    | a, b => .i k (.s (litArith op k a.val b.val))
/-- What an operation over whole numbers asks for: a divisor that is not nought, a shift that is not below nought. -/
def needI (op : BinOp) (b : I) : Option (List Need) :=
  match op with
  | .quo | .rem => match b with | .l n => if n == 0 then none else some [] | .s n => some [.ne n 0]
  | .shl | .shr => match b with | .l n => if n < 0 then none else some [] | .s n => some [.nonneg n]
  | _ => some []
def needRoom (m : I) (bytes : Nat) (ns : List Need) : List Need :=
  match m with
  | .l n => if 0 ≤ n ∧ n * bytes ≤ 140737488355328 then ns else .room n bytes :: ns
  | .s n => .room n bytes :: ns

inductive R where
  | ok (v : V) (s : S)
  | skip (s : S)
  | stuck

mutual
def kill (r : Nat) : V → V
  | .own r' => if r' == r then .junk else .own r'
  | .vw r' sz lo n => if r' == r then .junk else .vw r' sz lo n
  | .op r' sz i j => if r' == r then .junk else .op r' sz i j
  | .agg l => .agg (kills r l)
  | .tup l => .tup (kills r l)
  | .fn f l => .fn f (kills r l)
  | .i k n => .i k n
  | .b x => .b x
  | .v v => .v v
  | .lp x o => .lp x o
  | .ro n sz cs => .ro n sz cs
  | .rp n sz cs i j => .rp n sz cs i j
  | .junk => .junk
def kills (r : Nat) : List V → List V
  | [] => []
  | v :: vs => kill r v :: kills r vs
end

def opLoad (s : S) (t : TypeId) (x : V) : R :=
  match x with
  | .lp v o => match s.vars[v]? with
    | some b => if o + (T t).size ≤ b.cells.length then .ok (shapeV (T t) ((b.cells.drop o).take (T t).size)) s else .stuck
    | none => .stuck
  | .rp _ sz cs i j => if j + (T t).size ≤ sz then .ok (shapeV (T t) ((List.range (T t).size).map fun q => getC cs (natI i) (j + q))) s else .stuck
  | .op r sz i j => match s.rows[r]? with
    | some b => if b.live && b.sz == sz && decide (j + (T t).size ≤ sz) then
        match b.ct, i with
        | .list l, .l i => if i.toNat * sz + j + (T t).size ≤ l.length then .ok (shapeV (T t) ((l.drop (i.toNat * sz + j)).take (T t).size)) s else .stuck
        | ct, i => .ok (shapeV (T t) ((List.range (T t).size).map fun q => getC (ct.cols' sz) (natI i) (j + q))) s
      else .stuck
    | none => .stuck
  | _ => .stuck
def opStore (s : S) (t : TypeId) (x y : V) : R :=
  match x, cells y with
  | .lp v o, some m => match s.vars[v]? with
    | some b => if m.length == (T t).size && decide (o + m.length ≤ b.cells.length) then .skip { s with vars := s.vars.set v { b with cells := splice b.cells o m } } else .stuck
    | none => .stuck
  | .op r sz i j, some m => match s.rows[r]? with
    | some b => if b.live && b.sz == sz && m.length == (T t).size && decide (j + m.length ≤ sz) && m.all cl then
        match b.ct, i with
        | .list l, .l i => if i.toNat * sz + j + m.length ≤ l.length then .skip { s with rows := s.rows.set r { b with ct := .list (splice l (i.toNat * sz + j) m) } } else .stuck
        | ct, i => .skip { s with rows := s.rows.set r { b with ct := .cols (updCols (natI i) j (ct.cols' sz) m) } }
      else .stuck
    | none => .stuck
  | _, _ => .stuck
def opIndexAddr (s : S) (t : TypeId) (x ix : V) : R :=
  match x, ix, (T t).d with
  | .lp v o, .i _ (.l i), .arr n e => if 0 ≤ i ∧ i < n ∧ (T e).ok = true then .ok (.lp v (o + i.toNat * (T e).size)) s else .stuck
  | .ro n sz cs, .i _ i, .slice e => if (T e).size == sz && decide (0 < sz) && (T e).ok then
      match n, i with
      | .l n', .l i' => if 0 ≤ i' ∧ i' < n' then .ok (.rp n sz cs i 0) s else .stuck
      | n', i' => .ok (.rp n sz cs i 0) { s with needs := .idx i'.val n'.val :: s.needs }
      else .stuck
  | .own r, .i _ i, .slice e => match s.rows[r]? with
    | some b => if b.live && b.sz == (T e).size && (T e).ok then
        match b.n, i with
        | .l n', .l i' => if 0 ≤ i' ∧ i' < n' then .ok (.op r b.sz i 0) s else .stuck
        | n', i' => .ok (.op r b.sz i 0) { s with needs := .idx i'.val n'.val :: s.needs }
        else .stuck
    | none => .stuck
  | .vw r sz lo n, .i _ i, .slice e => if (T e).size == sz && (T e).ok then
      match n, i with
      | .l n', .l i' => if 0 ≤ i' ∧ i' < n' then .ok (.op r sz (addI lo i) 0) s else .stuck
      | n', i' => .ok (.op r sz (addI lo i) 0) { s with needs := .idx i'.val n'.val :: s.needs }
      else .stuck
  | _, _, _ => .stuck
def opLen (s : S) (x : V) : R :=
  match x with
  | .ro n _ _ => .ok (.i .i64 n) s
  | .own r => match s.rows[r]? with
    | some b => if b.live then .ok (.i .i64 b.n) s else .stuck
    | none => .stuck
  | .vw _ _ _ n => .ok (.i .i64 n) s
  | .v (.slice none 0 0) => .ok (.i .i64 (.l 0)) s
  | _ => .stuck
/-- What is appended: how many, and what. -/
def tailOf (s : S) (sz : Nat) (x : V) : Option (I × Ct) :=
  match x with
  | .v (.slice none 0 0) => some (.l 0, .list [])
  | .own r => match s.rows[r]? with
    | some b => if b.live && b.sz == sz then some (b.n, b.ct) else none
    | none => none
  | .vw r sz' lo n => match s.rows[r]? with
    | some b => if b.live && b.sz == sz && sz' == sz then
        match b.ct, lo, n with
        | .list l, .l a, .l q => if (a.toNat + q.toNat) * sz ≤ l.length ∧ 0 ≤ a ∧ 0 ≤ q then some (n, .list ((l.drop (a.toNat * sz)).take (q.toNat * sz))) else none
        | ct, lo, n => some (n, .cols (shI lo (ct.cols' sz)))
      else none
    | none => none
  | .ro n sz' cs => if sz' == sz then some (n, .cols cs) else none
  | _ => none
def opAppend (s : S) (t : TypeId) (x y : V) : R :=
  match (T t).d with
  | .slice e =>
    if (T e).ok && decide (0 < (T e).size) && decide (0 < (T e).bytes) then
    match tailOf s (T e).size y with
    | some (m, ms) =>
      match x with
      | .v (.slice none 0 0) =>
        .ok (.own s.rows.length) { s with rows := s.rows ++ [⟨true, e, (T e).size, m, ms⟩], needs := needRoom m (T e).bytes s.needs }
      | .own r => match s.rows[r]? with
        | some b => if b.live && b.e == e && b.sz == (T e).size then
            .ok (.own r) { s with
              tmps := kills r s.tmps
              vars := s.vars.map fun v => { v with cells := kills r v.cells }
              rows := (s.rows.set r { b with n := addI b.n m, ct := b.ct.cat b.n m b.sz ms })
              needs := needRoom (addI b.n m) (T e).bytes s.needs }
          else .stuck
        | none => .stuck
      | _ => .stuck
    | none => .stuck
    else .stuck
  | _ => .stuck

def seqS (a b : ByteArray) : Bool := a.toList == b.toList
def op0 (s : S) (o : Op) : R :=
  match o with
  | .move x | .assign x => .ok (ev s x) s
  | .pick c a b => match ev s c with
    | .b (.l true) => .ok (ev s a) s
    | .b (.l false) => .ok (ev s b) s
    | .b (.s c) => match ev s a, ev s b with
      | .b (.l true), .b y => .ok (.b (.s (c || y.val))) s
      | .b y, .b (.l false) => .ok (.b (.s (c && y.val))) s
      | _, _ => .stuck
    | _ => .stuck
  | .box t x => match cells (ev s x) with
    | some l => .ok (.lp s.vars.length 0) { s with vars := s.vars ++ [⟨t, l⟩] }
    | none => .stuck
  | .alloc t => if (T t).ok then match cells (ofVal (T t).zero) with
    | some l => .ok (.lp s.vars.length 0) { s with vars := s.vars ++ [⟨t, l⟩] }
    | none => .stuck else .stuck
  | .load t x => if (T t).ok then opLoad T s t (ev s x) else .stuck
  | .nilCheck x => match ev s x with
    | .lp v o => .ok (.lp v o) s
    | .rp n sz cs i j => .ok (.rp n sz cs i j) s
    | _ => .stuck
  | .fieldAddr t x f => match (T t).d with
    | .struct fs => match fs[f]? with
      | some (off, _) => match ev s x with
        | .lp v o => .ok (.lp v (o + off)) s
        | .rp n sz cs i j => .ok (.rp n sz cs i (j + off)) s
        | .op r sz i j => .ok (.op r sz i (j + off)) s
        | _ => .stuck
      | none => .stuck
    | _ => .stuck
  | .indexAddr t x ix => opIndexAddr T s t (ev s x) (ev s ix)
  | .index t x ix => match ev s x, ev s ix, (T t).d with
    | .agg l, .i _ (.l i), .arr n e => if 0 ≤ i ∧ i < n ∧ i.toNat * (T e).size + (T e).size ≤ l.length ∧ (T e).ok = true then .ok (shapeV (T e) ((l.drop (i.toNat * (T e).size)).take (T e).size)) s else .stuck
    | _, _, _ => .stuck
  | .build t parts => if (T t).ok then match (T t).d, ofVal (T t).zero with
    | .struct fs, .agg z => match fillParts (fun i => (fs.getD i (0, 0)).1) z (parts.toList.map fun (i, x) => (i, ev s x)) with
      | some l => if parts.toList.all (fun (i, x) => (cells (ev s x)).elim false fun m => (fs[i]?).elim false fun f => (T f.2).ok && m.length == (T f.2).size) then .ok (.agg l) s else .stuck
      | none => .stuck
    | .arr n e, .agg z => match fillParts (fun i => i * (T e).size) z (parts.toList.map fun (i, x) => (i, ev s x)) with
      | some l => if (T e).ok && parts.toList.all (fun (i, x) => (cells (ev s x)).elim false fun m => (T e).ok && m.length == (T e).size) then .ok (.agg l) s else .stuck
      | none => .stuck
    | _, _ => .stuck else .stuck
  | .buildSlice t len parts => match (T t).d with
    | .slice e => if (T e).ok && decide (0 < (T e).size) && decide (len * (T e).size ≤ 1000) then
      match cells (ofVal (T e).zero) with
      | some z =>
        match fillParts (fun i => i * (T e).size) ((List.range len).flatMap fun _ => z) (parts.toList.map fun (i, x) => (i, ev s x)) with
        | some l => if z.length == (T e).size && l.all cl && parts.toList.all (fun (i, x) => (cells (ev s x)).elim false fun m => m.length == (T e).size) then .ok (.own s.rows.length) { s with rows := s.rows ++ [⟨true, e, (T e).size, .l len, .list l⟩] } else .stuck
        | none => .stuck
      | none => .stuck
      else .stuck
    | _ => .stuck
  | .binOp o t x y _ => match ev s x, ev s y with
    | .i k a, .i k' b =>
      if k == k' || o == .shl || o == .shr then
        match needI o b with
        | some ns => .ok (binI o k a b) { s with needs := ns ++ s.needs }
        | none => .stuck
      else .stuck
    | .v (.string a), .v (.string b) => match o with
      | .eql => .ok (.b (.s (seqS a b))) s
      | .neq => .ok (.b (.s (!(seqS a b)))) s
      | _ => .stuck
    | _, _ => .stuck
  | .unOp .not _ x => match ev s x with
    | .b b => .ok (.b (bNot b)) s
    | _ => .stuck
  | .convert a b x => if (T a).ok then match ev s x, (T b).d with
    | .i _ (.l n), .int k' => .ok (.i k' (.l (k'.wrap n))) s
    | .i _ (.s n), .int k' => .ok (.i k' (.s (k'.wrap n))) s
    | _, _ => .stuck else .stuck
  | .extract x i => match ev s x with
    | .tup l => match l[i]? with | some v => .ok v s | none => .stuck
    | _ => .stuck
  | .call { callee := .builtin .len, args, argTypes } => match args.toList, argTypes.toList with
    | [x], [t] => match (T t).d with
      | .slice _ => opLen s (ev s x)
      | .str => match ev s x with
        | .v (.string z) => .ok (.i .i64 (.s (z.size : Int))) s
        | _ => .stuck
      | _ => .stuck
    | _, _ => .stuck
  | .call { callee := .builtin .append, args, argTypes } => match args.toList, argTypes.toList with
    | [x, y], [t, t'] => if t == t' then opAppend T s t (ev s x) (ev s y) else .stuck
    | _, _ => .stuck
  | _ => .stuck

/-! ### More operations -/
/-- '==' of two cells of a kind. -/
def eqCell : Kd → V → V → Option B
  | .i k, .i k' a, .i k'' b => if k' == k && k'' == k then some (match a, b with | .l x, .l y => .l (x == y) | x, y => .s (x.val == y.val)) else none
  | .b, .b a, .b b => some (match a, b with | .l x, .l y => .l (x == y) | x, y => .s (x.val == y.val))
  | .s, .v (.string a), .v (.string b) => some (.s (seqS a b))
  | _, _, _ => none
def eqCells : List Kd → List V → List V → Option B
  | [], [], [] => some (.l true)
  | k :: ks, x :: xs, y :: ys => match eqCell k x y, eqCells ks xs ys with
    | some a, some b => some (bAnd a b)
    | _, _ => none
  | _, _, _ => none
/-- A part of a row that is read only. -/
def opCut (n : I) (sz : Nat) (cs : List Col) (s : S) (lo hi : Option V) : R :=
  match lo, hi with
  | none, none => .ok (.ro n sz cs) s
  | some (.i _ l), none =>
    match leI (.l 0) l, leI l n with
    | some a, some b => .ok (.ro (subI n l) sz (shI l cs)) { s with needs := a ++ (b ++ s.needs) }
    | _, _ => .stuck
  | none, some (.i _ h) =>
    match leI (.l 0) h, leI h n with
    | some a, some b => .ok (.ro h sz cs) { s with needs := a ++ (b ++ s.needs) }
    | _, _ => .stuck
  | some (.i _ l), some (.i _ h) =>
    match leI (.l 0) l, leI l h, leI h n with
    | some a, some b, some c => .ok (.ro (subI h l) sz (shI l cs)) { s with needs := a ++ (b ++ (c ++ s.needs)) }
    | _, _, _ => .stuck
  | _, _ => .stuck
/-- A part of a row of one's own, or of a part of it. -/
def opView (r sz : Nat) (lo n : I) (s : S) (l h : Option V) : R :=
  match l, h with
  | none, none => .ok (.vw r sz lo n) s
  | some (.i _ l), none =>
    match leI (.l 0) l, leI l n with
    | some a, some b => .ok (.vw r sz (addI lo l) (subI n l)) { s with needs := a ++ (b ++ s.needs) }
    | _, _ => .stuck
  | none, some (.i _ h) =>
    match leI (.l 0) h, leI h n with
    | some a, some b => .ok (.vw r sz lo h) { s with needs := a ++ (b ++ s.needs) }
    | _, _ => .stuck
  | some (.i _ l), some (.i _ h) =>
    match leI (.l 0) l, leI l h, leI h n with
    | some a, some b, some c => .ok (.vw r sz (addI lo l) (subI h l)) { s with needs := a ++ (b ++ (c ++ s.needs)) }
    | _, _, _ => .stuck
  | _, _ => .stuck
/-- The bytes of a column, as a text. -/
def mkS (n : Nat) (f : Nat → Int) : ByteArray := ⟨((List.range n).map fun i => UInt8.ofNat (f i).toNat).toArray⟩
def opX (s : S) (o : Op) : R :=
  match o with
  | .binOp b t x y _ => match ev s x, ev s y with
    | .agg l, .agg l' => match (T t).d with
      | .struct _ =>
        if (T t).ok then
        match (T t).eqk with
        | [] => .stuck
        | k :: ks => match eqCells (k :: ks) l l' with
          | some r => match b with
            | .eql => .ok (.b r) s
            | .neq => .ok (.b (bNot r)) s
            | _ => .stuck
          | none => .stuck
        else .stuck
      | _ => .stuck
    | .b p, .b q => match (T t).d with
      | .bool => match eqCell .b (.b p) (.b q), b with
        | some r, .eql => .ok (.b r) s
        | some r, .neq => .ok (.b (bNot r)) s
        | _, _ => .stuck
      | _ => .stuck
    | _, _ => .stuck
  | .slice t x lo hi none => match (T t).d, ev s x with
    | .slice e, .ro n sz cs => if (T e).ok && (T e).size == sz then opCut n sz cs s (lo.map (ev s)) (hi.map (ev s)) else .stuck
    | .slice e, .own r => match s.rows[r]? with
      | some b => if (T e).ok && (T e).size == b.sz && b.live then opView r b.sz (.l 0) b.n s (lo.map (ev s)) (hi.map (ev s)) else .stuck
      | none => .stuck
    | .slice e, .vw r sz l0 n => if (T e).ok && (T e).size == sz then opView r sz l0 n s (lo.map (ev s)) (hi.map (ev s)) else .stuck
    | _, _ => .stuck
  | .convert a b x => match (T a).d, (T b).d with
    | .slice e, .str => match (T e).d with
      | .int .u8 => match tailOf s 1 (ev s x) with
        | some (m, ct) => match ct.cols' 1 with
          | [.f (.i .u8 f)] => .ok (.v (.string (mkS (natI m) f))) s
          | _ => match m with | .l 0 => .ok (.v (.string ByteArray.empty)) s | _ => .stuck
        | none => .stuck
      | _ => .stuck
    | _, _ => .stuck
  | .call { callee := .builtin .max, args, argTypes := _ } => match args.toList with
    | [x, y] => match ev s x, ev s y with
      | .i k (.l a), .i k' (.l b) => if k == k' then .ok (.i k (.l (if a < b then b else a))) s else .stuck
      | .i k a, .i k' b => if k == k' then .ok (.i k (.s (if a.val < b.val then b.val else a.val))) s else .stuck
      | _, _ => .stuck
    | _ => .stuck
  | .call { callee := .builtin .min, args, argTypes := _ } => match args.toList with
    | [x, y] => match ev s x, ev s y with
      | .i k (.l a), .i k' (.l b) => if k == k' then .ok (.i k (.l (if b < a then b else a))) s else .stuck
      | .i k a, .i k' b => if k == k' then .ok (.i k (.s (if b.val < a.val then b.val else a.val))) s else .stuck
      | _, _ => .stuck
    | _ => .stuck
  | _ => .stuck
def op (s : S) (o : Op) : R :=
  match op0 T s o with
  | .stuck => opX T s o
  | r => r

/-- Is an operation wanted: yes, no, or by a name. -/
inductive Want where
  | yes | no | by_ (b : Bool) (d : Nat) | unknown
def wanted (all : List Oper) (s : S) (o : Oper) : Want :=
  match o.guard with
  | none => .yes
  | some (j, want) =>
    match (all[j]?).bind (·.dst) with
    | none => .unknown
    | some d =>
      match s.tmps[d]? with
      | some (.b (.l b)) => if b == want then .yes else .no
      | some (.b (.s b)) => .by_ b d
      | some (.v (.tuple _)) => .no
      | _ => .unknown

/-- Out of a block; none: it lies further down. -/
def exitIt (id : Nat) : List It → Option (List It)
  | .inBlock id' :: k => if id' == id then some k else exitIt id k
  | _ :: k => exitIt id k
  | [] => none

/-- The results, as the frame holds them. -/
def resV (s : S) : ResultVar → Option V
  | .tmp t => some (s.tmps.getD t .junk)
  | .cell a t => match s.tmps.getD a .junk with
    | .lp v o => match s.vars[v]? with
      | some b => if (T t).ok && decide (o + (T t).size ≤ b.cells.length) then some (shapeV (T t) ((b.cells.drop o).take (T t).size)) else none
      | none => none
    | _ => none
def resVs (s : S) : List ResultVar → Option (List V)
  | [] => some []
  | r :: rs => match resV T s r, resVs s rs with
    | some v, some vs => some (v :: vs)
    | _, _ => none

def S.bare (s : S) : S := { s with needs := [] }
def S.more (s : S) (ns : List Need) : S := { s with needs := s.needs ++ ns }
/-- It turns nothing, and makes nothing. -/
def isQuiet : Op → Bool
  | .move _ | .assign _ | .pick _ _ _ | .load _ _ | .nilCheck _ | .fieldAddr _ _ _ | .indexAddr _ _ _ | .index _ _ _ | .build _ _ | .binOp _ _ _ _ _ | .unOp _ _ _ | .convert _ _ _ | .extract _ _ => true
  | .call { callee := .builtin .len, args := _, argTypes := _ } => true
  | .slice _ _ _ _ _ => true
  | .call { callee := .builtin .max, args := _, argTypes := _ } => true
  | .call { callee := .builtin .min, args := _, argTypes := _ } => true
  | _ => false
def isMake : Op → Bool
  | .alloc _ | .box _ _ | .buildSlice _ _ _ => true
  | _ => false
def lastOp (ops : Array Oper) (j : Nat) : Bool := (List.range ops.size).all fun i => i == j || Region.waitsFor .any ops j i
/-- It may be taken first. -/
def takes (ops : Array Oper) (listed : Array Bool) (i : Nat) : Bool :=
  match ops[i]? with
  | some o => if isQuiet o.op then Region.free .any ops listed i else false
  | none => false
def quietN : List Oper → Nat
  | [] => 0
  | o :: r => if isQuiet o.op then quietN r + 1 else 0
/-- A region whose order is open: in the text's order. -/
def runQ (all : List Oper) : List Oper → S → Option S
  | [], s => some s
  | o :: r, s =>
    match wanted all s o with
    | .no => runQ all r (s.put o.dst (.v undef))
    | .yes =>
      match o.op with
      | .store t x y =>
        if (T t).ok then
          match opStore T s t (ev s x) (ev s y) with
          | .skip s => runQ all r (s.put o.dst (.v undef))
          | _ => none
        else none
      | q =>
        match op T s.bare q with
        | .ok v s' => runQ all r ((s'.more s.needs).put o.dst v)
        | _ => none
    | _ => none
def mayOrder (ops : Array Oper) : Bool :=
  (quietN ops.toList == ops.size && Region.lexB .any ops) || Region.lexTailB .any ops (quietN ops.toList)
/-- The block behind which a loop stands. -/
def idOf : List It → Option Nat
  | .inBlock id :: _ => some id
  | _ :: k => idOf k
  | [] => none
/-- 'un': is a loop gone through round by round? (By the block behind which it stands.) -/
def run (res : List ResultVar) (un : Option Nat → Bool) : Nat → List It → S → Out
  | 0, t, s => .fuel t s
  | n + 1, t, s =>
    match t with
    | [] => .base s
    | .inBlock _ :: k => run res un n k s
    | .inLoop c :: k => run res un n (.code c :: .inLoop c :: k) s
    | .openR 0 ops listed :: k => if (Region.ready .any ops listed).isEmpty then run res un n k s else .bad t s
    | .openR (m + 1) ops listed :: k =>
      match Region.ready .any ops listed with
      | [] => run res un n k s
      | j :: js =>
        match (j :: js).find? (takes ops listed) with
        | some i =>
          match ops[i]? with
          | none => .bad t s
          | some o =>
            match wanted ops.toList s o with
            | .no => run res un n (.openR m ops (listed.setIfInBounds i true) :: k) (s.put o.dst (.v undef))
            | .by_ b d => .branch b t (s.put (some d) (.b (.l true))) t (s.put (some d) (.b (.l false)))
            | .unknown => .bad t s
            | .yes =>
              match op T s.bare o.op with
              | .ok v s' => run res un n (.openR m ops (listed.setIfInBounds i true) :: k) ((s'.more s.needs).put o.dst v)
              | _ => .bad t s
        | none =>
          match js with
          | [] => run res un n (.pickR m ops listed j :: k) s
          | _ => .fork ((j :: js).map fun i => .pickR m ops listed i :: k) s
    | .pickR m ops listed j :: k =>
      match ops[j]? with
      | none => .bad t s
      | some o =>
        match wanted ops.toList s o with
        | .no => run res un n (.openR m ops (listed.setIfInBounds j true) :: k) (s.put o.dst (.v undef))
        | .by_ b d => .branch b t (s.put (some d) (.b (.l true))) t (s.put (some d) (.b (.l false)))
        | .unknown => .bad t s
        | .yes =>
          match o.op with
          | .call { callee := .value (.func f), args, argTypes := _ } => .call f (args.toList.map (ev s)) o.dst (!lastOp ops j) (.openR m ops (listed.setIfInBounds j true) :: k) s
          | .store t' x y =>
            if lastOp ops j && (T t').ok then
              match opStore T s t' (ev s x) (ev s y) with
              | .skip s => run res un n (.openR m ops (listed.setIfInBounds j true) :: k) (s.put o.dst (.v undef))
              | _ => .bad t s
            else .bad t s
          | q =>
            if isQuiet q || isMake q || lastOp ops j then
              match op T s.bare q with
              | .ok v s' => run res un n (.openR m ops (listed.setIfInBounds j true) :: k) ((s'.more s.needs).put o.dst v)
              | _ => .bad t s
            else .bad t s
    | .ops _ [] :: k => run res un n k s
    | .ops all (o :: rest) :: k =>
      match wanted all s o with
      | .no => run res un n (.ops all rest :: k) (s.put o.dst (.v undef))
      | .by_ b d => .branch b (.ops all (o :: rest) :: k) (s.put (some d) (.b (.l true))) (.ops all (o :: rest) :: k) (s.put (some d) (.b (.l false)))
      | .unknown => .bad t s
      | .yes =>
        match o.op with
        | .call { callee := .value (.func f), args, argTypes := _ } => .call f (args.toList.map (ev s)) o.dst false (.ops all rest :: k) s
        | .store t x y =>
          if (T t).ok then
            match opStore T s t (ev s x) (ev s y) with
            | .skip s => run res un n (.ops all rest :: k) (s.put o.dst (.v undef))
            | _ => .stuck o all rest k s
          else .stuck o all rest k s
        | q =>
          match op T s.bare q with
          | .ok v s' => run res un n (.ops all rest :: k) ((s'.more s.needs).put o.dst v)
          | _ => .stuck o all rest k s
    | .code c :: k =>
      match c with
      | .skip => run res un n k s
      | .label _ => run res un n k s
      | .seq a b => run res un n (.code a :: .code b :: k) s
      | .block id c => run res un n (.code c :: .inBlock id :: k) s
      | .loop c => if un (idOf k) then run res un n (.code c :: .inLoop c :: k) s else .loop c k s
      | .exit id => match exitIt id k with | some k' => run res un n k' s | none => .out id s
      | .ret => match resVs T s res with | some vs => .ret vs s | none => .bad t s
      | .cond c x y =>
        match ev s c with
        | .b (.l true) => run res un n (.code x :: k) s
        | .b (.l false) => run res un n (.code y :: k) s
        | .b (.s b) => .branch b (.code x :: k) s (.code y :: k) s
        | _ => .bad t s
      | .region _ ops draw =>
        if draw then
          match (if ops.size ≤ 19 then (if mayOrder ops then runQ T ops.toList ops.toList s else none) else none) with
          | some s' => run res un n k s'
          | none => if Region.noSelect ops then run res un n (.openR ops.size ops (Array.replicate ops.size false) :: k) s else .bad t s
        else run res un n (.ops ops.toList ops.toList :: k) s
      | _ => .bad t s
end
end Go.Dx
