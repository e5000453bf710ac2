/- The machine itself: what one operation makes of what is known, and how a function's code is gone through. -/
import Derived.Test.YtplefbcgpbdkfaaDoorFa
import Derived.StillTail
set_option linter.all false
namespace Go.Fx
open Go Go.RowKit

inductive Kd where
  | i (k : IntKind) | b | s
inductive Ty where
  | int (k : IntKind) | bool | str | slice (e : TypeId) | struct (fs : List (Nat × TypeId)) | arr (n : Nat) (e : TypeId) | ptr (e : TypeId) | other
/-- What the machine knows of a type: 'tp': its values are data of that kind; 'pk': its variables are kept as one datum; 'kd': what its pointers lead to is kept as an object of that kind. -/
structure TI where
  d : Ty
  size : Nat
  bytes : Nat
  zero : Value
  ok : Bool
  eqk : List Kd
  tp : Option Tp
  pk : Bool
  kd : Option Nat

/-- What a variable holds: one datum, or cell by cell. -/
inductive Ctn where
  | pk (t : Tp) (e : t.T)
  | ls (l : List V)
def Ctn.cells : Ctn → List V
  | .pk t e => t.cells e
  | .ls l => l
def Ctn.size : Ctn → Nat
  | .pk t _ => t.size
  | .ls l => l.length
structure Var where
  live : Bool
  ct : Ctn
/-- A row: 'fix': it is never appended to, and stays where it is. -/
structure Row where
  live : Bool
  fix : Bool
  e : TypeId
  t : Tp
  n : I
  l : List t.T
inductive Need where
  | idx (i n : Int)
  | le (a b : Int)
  | room (n : Int) (bytes : Nat)
  | nonneg (a : Int)
  | ne (a b : Int)
  | tru (b : Bool)
/-- What an object is: one of a kind, all of a kind by their places, a row of slices, a text's iterator, nothing that is known, one block. -/
inductive OK where
  | one (n : Nat) | aren (n : Nat) | sls (e e' : TypeId) | it | opq | blk (n : Nat)
deriving DecidableEq
/-- An object: what lies behind is not seen. -/
structure Ob where
  live : Bool
  k : OK
  t : Tp
  e : t.T
inductive Rt where
  | v (x : Nat) | r (r : Nat) | o (x : Nat)
deriving DecidableEq
/-- Roots that may not be turned: so many of each; 'gr': how many rows came in. -/
structure LK where
  v : Nat
  r : Nat
  o : Nat
  gr : Nat
deriving DecidableEq
def LK.has (l : LK) : Rt → Bool
  | .v x => decide (x < l.v)
  | .r x => decide (x < l.r)
  | .o x => decide (x < l.o)
structure S where
  tmps : List V
  vars : List Var
  rows : List Row
  objs : List Ob
  needs : List Need
  lk : LK

inductive It where
  | code (c : Code) | inBlock (id : Nat) | inLoop (c : Code) | ops (all rest : List Oper)
  | openR (n : Nat) (ops : Array Oper) (listed : Array Bool) (rds : List Rt) | pickR (n : Nat) (ops : Array Oper) (listed : Array Bool) (j : Nat) (rds : List Rt)
/-- What is given a name. -/
inductive Say where
  | t (d : Nat) | v (x : Nat) | r (r : Nat)

inductive Out where
  | base (s : S)
  | ret (vs : List V) (s : S)
  | branch (b : Bool) (t1 : List It) (s1 : S) (t2 : List It) (s2 : S)
  | call (f : FuncId) (args : List V) (dst : Option Nat) (ask : Option (List Rt)) (t : List It) (s : S)
  | loop (c : Code) (t : List It) (s : S)
  | out (id : Nat) (s : S)
  | stuck (o : Oper) (all rest : List Oper) (t : List It) (s : S)
  | fuel (t : List It) (s : S)
  | bad (t : List It) (s : S)
  | fork (ts : List (List It)) (s : S)
  | say (w : List Say) (t : List It) (s : S)

def ofCell : Value → V
  | .int k n => .i k (.l n)
  | .bool b => .b (.l b)
  | v => .v v
def ofVal : Value → V
  | .agg cs => .agg (cs.toList.map ofCell)
  | v => ofCell v

def one : V → Bool
  | .i _ _ | .b _ | .pt _ | .lp _ _ | .ro _ _ _ | .rp _ _ _ _ | .own _ | .vw _ _ _ _ | .op _ _ _ _ | .bk _ _ _ _ | .fn _ _ | .obj _ => true
  | .v v => v.oneCell'
  | _ => false
/-- The cells of a value; none where it is not known how many there are. -/
def cells : V → Option (List V)
  | .agg l => if l.all one then some l else none
  | .x t e => some (t.cells e)
  | v => if one v then some [v] else none
/-- A value's datum. -/
def asD1 : (t : Tp) → V → Option t.T
  | .i k, v => match v with | .i k' n => if k == k' then some n.val else none | _ => none
  | .bo, v => match v with | .b x => some x.val | _ => none
  | .tx, v => match v with | .v (.string x) => some x | _ => none
  | .pt, v => match v with | .pt e => some e | .v (.pointer none) => some ((-1 : Int), (0 : Int)) | _ => none
  | .sl t, v => match v with | .ro t' _ l => (if h : t'.eq t then some (Tp.castL h l) else none) | .v (.slice none 0 0) => some [] | _ => none
  | .p _ _, _ => none
  | .opt _, _ => none
def asDs : (t : Tp) → List V → Option (t.T × List V)
  | .p a b, l => match asDs a l with
    | some (x, l) => match asDs b l with
      | some (y, l) => some ((x, y), l)
      | none => none
    | none => none
  | .i k, v :: l => (asD1 (.i k) v).map fun x => (x, l)
  | .bo, v :: l => (asD1 .bo v).map fun x => (x, l)
  | .tx, v :: l => (asD1 .tx v).map fun x => (x, l)
  | .pt, v :: l => (asD1 .pt v).map fun x => (x, l)
  | .sl t, v :: l => (asD1 (.sl t) v).map fun x => (x, l)
  | .opt t, v :: l => (asD1 (.opt t) v).map fun x => (x, l)
  | _, [] => none
def asDl (t : Tp) (l : List V) : Option t.T := match asDs t l with | some (x, []) => some x | _ => none
def asD (t : Tp) : V → Option t.T
  | .x t' e => if t.isP then (if h : t'.eq t then some (Tp.cast h e) else none) else none
  | .agg l => if t.isP then asDl t l else none
  | v => if t.isP then none else asD1 t v

def ev (s : S) : Operand → V
  | .tmp t => s.tmps.getD t .junk
  | .const v => ofVal v
  | .global g => .v (.pointer (some ⟨g, 0, none⟩))
  | .func f => .fn f []
def S.put (s : S) (d : Option Nat) (v : V) : S :=
  match d with
  | none => s
  | some d => { s with tmps := s.tmps.set d v }

def splice (l : List V) (o : Nat) (m : List V) : List V := l.take o ++ m ++ l.drop (o + m.length)
def aggTy : Ty → Bool
  | .struct _ | .arr _ _ => true
  | _ => false
def shapeV (t : TI) (l : List V) : V := if aggTy t.d then .agg l else l.getD 0 .junk
def shapeD (t : TI) (l : List V) : V :=
  match t.tp with
  | some q => if q.isP then (match asDl q l with | some d => .x q d | none => shapeV t l) else shapeV t l
  | none => shapeV t l
def fillParts (place : Nat → Nat) : List V → List (Nat × V) → Option (List V)
  | z, [] => some z
  | z, (i, v) :: r =>
    match cells v with
    | some m => if place i + m.length ≤ z.length then fillParts place (splice z (place i) m) r else none
    | none => none

def isCmp : BinOp → Bool
  | .eql | .neq | .lss | .leq | .gtr | .geq => true
  | _ => false
def litCmp (op : BinOp) (a b : Int) : Bool :=
  match op with
  | .eql => a == b | .neq => a != b | .lss => decide (a < b) | .leq => decide (a ≤ b) | .gtr => decide (b < a) | _ => decide (b ≤ a)
/-- What Go's whole numbers come to (a shift's count and a divisor are asked for apart). -/
def litArith (op : BinOp) (k : IntKind) (a b : Int) : Int :=
  match op with
  | .add => k.wrap (a + b) | .sub => k.wrap (a - b) | .mul => k.wrap (a * b)
  | .quo => k.wrap (a.tdiv b) | .rem => a.tmod b
  | .shl => k.wrap (a * 2 ^ min b.toNat k.bits) | .shr => a.fdiv (2 ^ min b.toNat k.bits)
  | .and => k.wrap (BitVec.ofInt k.bits a &&& BitVec.ofInt k.bits b).toNat
  | .or => k.wrap (BitVec.ofInt k.bits a ||| BitVec.ofInt k.bits b).toNat
  | .xor => k.wrap (BitVec.ofInt k.bits a ^^^ BitVec.ofInt k.bits b).toNat
  | _ => k.wrap (BitVec.ofInt k.bits a &&& ~~~ BitVec.ofInt k.bits b).toNat

def natI : I → Nat
  | .l n => n.toNat
  | .s n => n.toNat
def addI (a b : I) : I := match a, b with
  | .l x, .l y => .l (x + y)
  | .l x, .s y => if x == 0 then .s y else .s (x + y)
  | .s x, .l y => if y == 0 then .s x else .s (x + y)
  | .s x, .s y => .s (x + y)
def subI (a b : I) : I := match a, b with
  | .l x, .l y => .l (x - y)
  | .l x, .s y => .s (x - y)
  | .s x, .l y => if y == 0 then .s x else .s (x - y)
  | .s x, .s y => .s (x - y)
def leI : I → I → Option (List Need)
  | .l a, .l b => if a ≤ b then some [] else none
  | a, b => some [.le a.val b.val]
def bNot : B → B
  | .l b => .l (!b)
  | .s b => .s (!b)
def bAnd : B → B → B
  | .l true, y => y
  | .l false, _ => .l false
  | x, .l true => x
  | _, .l false => .l false
  | .s a, .s b => .s (a && b)
/-- A part of a list. -/
def cutL {α : Type} (l : List α) (lo n : I) : List α := match lo with
  | .l 0 => l.take (natI n)
  | lo => (l.drop (natI lo)).take (natI n)
def dropL {α : Type} (l : List α) (lo : I) : List α := match lo with
  | .l 0 => l
  | lo => l.drop (natI lo)
/-- Two data are the same. -/
noncomputable def same {α : Type} (a b : α) : Bool := @decide (a = b) (Classical.propDecidable _)
theorem same_iff {α : Type} {a b : α} : same a b = true ↔ a = b := by simp [same]
theorem same_self {α : Type} (a : α) : same a a = true := by simp [same]

noncomputable section
variable (T : TypeId → TI)

def binI (op : BinOp) (k : IntKind) (a b : I) : V :=
  if isCmp op then
    match a, b with
    | .l a, .l b => .b (.l (litCmp op a b))
    | a, b => .b (.s (litCmp op a.val b.val))
  else
    match a, b with
    | .l a, .l b => .i k (.l (litArith op k a b))
    | a, b => .i k (.s (litArith op k a.val b.val))
/-- What an operation over whole numbers asks for: a divisor that is not nought, a shift that is not below nought. -/
def needI (op : BinOp) (b : I) : Option (List Need) :=
  match op with
  | .quo | .rem => match b with | .l n => if n == 0 then none else some [] | .s n => some [.ne n 0]
  | .shl | .shr => match b with | .l n => if n < 0 then none else some [] | .s n => some [.nonneg n]
  | _ => some []
def needRoom (m : I) (bytes : Nat) (ns : List Need) : List Need :=
  match m with
  | .l n => if 0 ≤ n ∧ n * bytes ≤ 140737488355328 then ns else .room n bytes :: ns
  | .s n => .room n bytes :: ns

inductive R where
  | ok (v : V) (s : S)
  | skip (s : S)
  | stuck

mutual
def kill (r : Nat) : V → V
  | .own r' => if r' == r then .junk else .own r'
  | .vw r' sz lo n => if r' == r then .junk else .vw r' sz lo n
  | .op r' sz i j => if r' == r then .junk else .op r' sz i j
  | .bk r' sz k n => if r' == r then .junk else .bk r' sz k n
  | .agg l => .agg (kills r l)
  | .tup l => .tup (kills r l)
  | .fn f l => .fn f (kills r l)
  | .i k n => .i k n
  | .b x => .b x
  | .v v => .v v
  | .x t e => .x t e
  | .lp x o => .lp x o
  | .ro t n l => .ro t n l
  | .rp t l i j => .rp t l i j
  | .obj x => .obj x
  | .nx b p r => .nx b p r
  | .pt e => .pt e
  | .junk => .junk
def kills (r : Nat) : List V → List V
  | [] => []
  | v :: vs => kill r v :: kills r vs
end
def Ctn.kill (r : Nat) : Ctn → Ctn
  | .pk t e => .pk t e
  | .ls l => .ls (kills r l)
/-- A row's element as a kind of data. -/
def Row.get (b : Row) (t : Tp) (i : I) (j : Nat) : Option t.T := Tp.sub t b.t (b.t.ix b.l i.val) j

def opLoad (s : S) (t : TypeId) (x : V) : R :=
  match x with
  | .lp v o => match s.vars[v]? with
    | some b => if b.live then match b.ct with
      | .pk q e => match (T t).tp with
        | some tt => match Tp.sub tt q e o with
          | some d => .ok (toV tt d) s
          | none => .stuck
        | none => .stuck
      | .ls l => if o + (T t).size ≤ l.length then .ok (shapeD (T t) ((l.drop o).take (T t).size)) s else .stuck
      else .stuck
    | none => .stuck
  | .rp q l i j => match (T t).tp with
    | some tt => match Tp.sub tt q (q.ix l i.val) j with
      | some d => .ok (toV tt d) s
      | none => .stuck
    | none => .stuck
  | .op r sz i j => match s.rows[r]? with
    | some b => if b.live && b.t.size == sz then
        match (T t).tp with
        | some tt => match b.get tt i j with
          | some d => .ok (toV tt d) s
          | none => .stuck
        | none => .stuck
      else .stuck
    | none => .stuck
  | _ => .stuck
/-- A variable's content with some cells otherwise. -/
def Ctn.byCells (t : TI) (ct : Ctn) (o : Nat) (y : V) : Option Ctn :=
  match Fx.cells y with
  | some m => if m.length == t.size && decide (o + m.length ≤ ct.cells.length) then some (.ls (splice ct.cells o m)) else none
  | none => none
def Ctn.put (t : TI) (ct : Ctn) (o : Nat) (y : V) : Option Ctn :=
  match ct with
  | .pk q e => match t.tp with
    | some tt => match asD tt y with
      | some d => match Tp.upd tt d q e o with
        | some e' => some (.pk q e')
        | none => ct.byCells t o y
      | none => ct.byCells t o y
    | none => ct.byCells t o y
  | .ls l => match y with
    | .x q e => if o == 0 && q.size == l.length && q.size == t.size then some (.pk q e) else ct.byCells t o y
    | _ => ct.byCells t o y
def opStore (s : S) (t : TypeId) (x y : V) : R :=
  match x with
  | .lp v o => if s.lk.has (.v v) then .stuck else match s.vars[v]? with
    | some b => if b.live then match b.ct.put (T t) o y with
      | some ct => .skip { s with vars := s.vars.set v ⟨true, ct⟩ }
      | none => .stuck
      else .stuck
    | none => .stuck
  | .op r sz i j => if s.lk.has (.r r) then .stuck else match s.rows[r]? with
    | some b => if b.live && b.t.size == sz then
        match (T t).tp with
        | some tt => match asD tt y with
          | some d => match Tp.upd tt d b.t (b.t.ix b.l i.val) j with
            | some e' => .skip { s with rows := s.rows.set r { b with l := b.l.set (natI i) e' } }
            | none => .stuck
          | none => .stuck
        | none => .stuck
      else .stuck
    | none => .stuck
  | _ => .stuck
def opIndexAddr (s : S) (t : TypeId) (x ix : V) : R :=
  match x, ix, (T t).d with
  | .lp v o, .i _ (.l i), .arr n e => if 0 ≤ i ∧ i < n ∧ (T e).ok = true then .ok (.lp v (o + i.toNat * (T e).size)) s else .stuck
  | .ro q n l, .i _ i, .slice e => if (T e).size == q.size && (T e).ok then
      match n, i with
      | .l n', .l i' => if 0 ≤ i' ∧ i' < n' then .ok (.rp q l i 0) s else .stuck
      | n', i' => .ok (.rp q l i 0) { s with needs := .idx i'.val n'.val :: s.needs }
      else .stuck
  | .own r, .i _ i, .slice e => match s.rows[r]? with
    | some b => if b.live && b.t.size == (T e).size && (T e).ok then
        match b.n, i with
        | .l n', .l i' => if 0 ≤ i' ∧ i' < n' then .ok (.op r b.t.size i 0) s else .stuck
        | n', i' => .ok (.op r b.t.size i 0) { s with needs := .idx i'.val n'.val :: s.needs }
        else .stuck
    | none => .stuck
  | .vw r sz lo n, .i _ i, .slice e => if (T e).size == sz && (T e).ok then
      match n, i with
      | .l n', .l i' => if 0 ≤ i' ∧ i' < n' then .ok (.op r sz (addI lo i) 0) s else .stuck
      | n', i' => .ok (.op r sz (addI lo i) 0) { s with needs := .idx i'.val n'.val :: s.needs }
      else .stuck
  | _, _, _ => .stuck
def opLen (s : S) (x : V) : R :=
  match x with
  | .ro _ n _ => .ok (.i .i64 n) s
  | .own r => match s.rows[r]? with
    | some b => if b.live then .ok (.i .i64 b.n) s else .stuck
    | none => .stuck
  | .vw _ _ _ n => .ok (.i .i64 n) s
  | .v (.slice none 0 0) => .ok (.i .i64 (.l 0)) s
  | _ => .stuck
/-- What a slice holds: how many, and what. -/
def tailOf (s : S) (t : Tp) (x : V) : Option (I × List t.T) :=
  match x with
  | .v (.slice none 0 0) => some (.l 0, [])
  | .own r => match s.rows[r]? with
    | some b => if h : b.t.eq t then (if b.live then some (b.n, Tp.castL h b.l) else none) else none
    | none => none
  | .vw r sz lo n => match s.rows[r]? with
    | some b => if h : b.t.eq t then (if b.live && b.t.size == sz then some (n, cutL (Tp.castL h b.l) lo n) else none) else none
    | none => none
  | .ro q n l => if h : q.eq t then some (n, Tp.castL h l) else none
  | _ => none
def zeroI : I → Bool
  | .l n => n == 0
  | .s _ => false
def opAppend (s : S) (t : TypeId) (x y : V) : R :=
  match (T t).d with
  | .slice e =>
    match (T e).tp with
    | some q =>
      if (T e).ok && decide (0 < (T e).bytes) && q.size == (T e).size then
      match x with
      | .v (.slice none 0 0) => match tailOf s q y with
        | some (m, ms) => .ok (.own s.rows.length) { s with rows := s.rows ++ [⟨true, false, e, q, m, ms⟩], needs := needRoom m (T e).bytes s.needs }
        | none => .stuck
      | .own r => match s.rows[r]? with
        | some b => if b.live && !b.fix && b.e == e && b.t.size == (T e).size && !s.lk.has (.r r) then
            match tailOf s b.t y with
            | some (m, ms) =>
              .ok (.own r) { s with
                tmps := kills r s.tmps
                vars := s.vars.map fun v => ⟨v.live, v.ct.kill r⟩
                rows := (s.rows.set r { b with n := addI b.n m, l := b.l ++ ms })
                needs := needRoom (addI b.n m) (T e).bytes s.needs }
            | none => .stuck
          else .stuck
        | none => .stuck
      | .vw r sz lo n => match s.rows[r]? with
        | some b => if zeroI lo && b.live && !b.fix && b.e == e && b.t.size == (T e).size && sz == b.t.size && !s.lk.has (.r r) then
            match tailOf s b.t y with
            | some (m, ms) =>
              .ok (.own r) { s with
                tmps := kills r s.tmps
                vars := s.vars.map fun v => ⟨v.live, v.ct.kill r⟩
                rows := (s.rows.set r { b with n := addI n m, l := b.l.take (natI n) ++ ms })
                needs := needRoom (addI n m) (T e).bytes s.needs }
            | none => .stuck
          else .stuck
        | none => .stuck
      | _ => .stuck
      else .stuck
    | none => .stuck
  | _ => .stuck
/-- A list with some elements otherwise. -/
def fillD (t : Tp) : List t.T → List (Nat × V) → Option (List t.T)
  | z, [] => some z
  | z, (i, v) :: r => match asD t v with
    | some d => if i < z.length then fillD t (z.set i d) r else none
    | none => none
/-- A datum with some fields otherwise. -/
def fillF (T : TypeId → TI) (fs : List (Nat × TypeId)) (q : Tp) : q.T → List (Nat × V) → Option q.T
  | z, [] => some z
  | z, (i, v) :: r => match fs[i]? with
    | some (off, ft) => match (T ft).tp with
      | some tt => if (T ft).ok then (match asD tt v with
        | some d => match Tp.upd tt d q z off with
          | some z' => fillF T fs q z' r
          | none => none
        | none => none) else none
      | none => none
    | none => none

def buildCells (s : S) (t : TypeId) (fs : List (Nat × TypeId)) (z : List V) (parts : List (Nat × V)) : R :=
  match fillParts (fun i => (fs.getD i (0, 0)).1) z parts with
  | some l => if parts.all (fun (i, x) => (cells x).elim false fun m => (fs[i]?).elim false fun f => (T f.2).ok && m.length == (T f.2).size) then .ok (shapeD (T t) l) s else .stuck
  | none => .stuck
def opBuild (s : S) (t : TypeId) (parts : List (Nat × V)) : R :=
  if (T t).ok then match (T t).d, ofVal (T t).zero with
    | .struct fs, .agg z => match (T t).tp with
      | some q => if q.isP then (match fillF T fs q q.z parts with
        | some e => .ok (.x q e) s
        | none => buildCells T s t fs z parts) else buildCells T s t fs z parts
      | none => buildCells T s t fs z parts
    | .arr n e, .agg z => match fillParts (fun i => i * (T e).size) z parts with
      | some l => if (T e).ok && parts.all (fun (i, x) => (cells x).elim false fun m => (T e).ok && m.length == (T e).size) then .ok (shapeD (T t) l) s else .stuck
      | none => .stuck
    | _, _ => .stuck else .stuck
def aggOf : V → Option (List V)
  | .agg l => some l
  | .x q e => some (q.cells e)
  | _ => none
def evs (s : S) (parts : Array (Nat × Operand)) : List (Nat × V) := parts.toList.map fun (i, x) => (i, ev s x)
def op0 (s : S) (o : Op) : R :=
  match o with
  | .move x | .assign x => .ok (ev s x) s
  | .pick c a b => match ev s c with
    | .b (.l true) => .ok (ev s a) s
    | .b (.l false) => .ok (ev s b) s
    | .b (.s c) => match ev s a, ev s b with
      | .b (.l true), .b y => .ok (.b (.s (c || y.val))) s
      | .b y, .b (.l false) => .ok (.b (.s (c && y.val))) s
      | _, _ => .stuck
    | _ => .stuck
  | .box t x => match ev s x with
    | .x q e => .ok (.lp s.vars.length 0) { s with vars := s.vars ++ [⟨true, .pk q e⟩] }
    | y => match cells y with
      | some l => if l.isEmpty then .stuck else .ok (.lp s.vars.length 0) { s with vars := s.vars ++ [⟨true, .ls l⟩] }
      | none => .stuck
  | .alloc t => if (T t).ok then
      match (if (T t).pk then (T t).tp else none) with
      | some q => .ok (.lp s.vars.length 0) { s with vars := s.vars ++ [⟨true, .pk q q.z⟩] }
      | none => match cells (ofVal (T t).zero) with
        | some l => if l.isEmpty then .stuck else .ok (.lp s.vars.length 0) { s with vars := s.vars ++ [⟨true, .ls l⟩] }
        | none => .stuck
      else .stuck
  | .load t x => if (T t).ok then opLoad T s t (ev s x) else .stuck
  | .nilCheck x => match ev s x with
    | .lp v o => .ok (.lp v o) s
    | .rp q l i j => .ok (.rp q l i j) s
    | .op r sz i j => .ok (.op r sz i j) s
    | _ => .stuck
  | .fieldAddr t x f => match (T t).d with
    | .struct fs => match fs[f]? with
      | some (off, _) => match ev s x with
        | .lp v o => .ok (.lp v (o + off)) s
        | .rp q l i j => .ok (.rp q l i (j + off)) s
        | .op r sz i j => .ok (.op r sz i (j + off)) s
        | _ => .stuck
      | none => .stuck
    | _ => .stuck
  | .indexAddr t x ix => opIndexAddr T s t (ev s x) (ev s ix)
  | .index t x ix => match aggOf (ev s x), ev s ix, (T t).d with
    | some l, .i _ (.l i), .arr n e => if 0 ≤ i ∧ i < n ∧ i.toNat * (T e).size + (T e).size ≤ l.length ∧ (T e).ok = true then .ok (shapeD (T e) ((l.drop (i.toNat * (T e).size)).take (T e).size)) s else .stuck
    | _, _, _ => .stuck
  | .build t parts => opBuild T s t (evs s parts)
  | .buildSlice t len parts => match (T t).d with
    | .slice e => match (T e).tp with
      | some q => if (T e).ok && q.size == (T e).size && decide (len * (T e).size ≤ 1000) then
        match fillD q (List.replicate len q.z) (evs s parts) with
        | some l => .ok (.own s.rows.length) { s with rows := s.rows ++ [⟨true, false, e, q, .l len, l⟩] }
        | none => .stuck
        else .stuck
      | none => .stuck
    | _ => .stuck
  | .binOp o t x y _ => match ev s x, ev s y with
    | .i k a, .i k' b =>
      if k == k' || o == .shl || o == .shr then
        match needI o b with
        | some ns => .ok (binI o k a b) { s with needs := ns ++ s.needs }
        | none => .stuck
      else .stuck
    | .v (.string a), .v (.string b) => match o with
      | .eql => .ok (.b (.s (same a b))) s
      | .neq => .ok (.b (.s (!(same a b)))) s
      | _ => .stuck
    | _, _ => .stuck
  | .unOp .not _ x => match ev s x with
    | .b b => .ok (.b (bNot b)) s
    | _ => .stuck
  | .convert a b x => if (T a).ok then match ev s x, (T b).d with
    | .i _ (.l n), .int k' => .ok (.i k' (.l (k'.wrap n))) s
    | .i _ (.s n), .int k' => .ok (.i k' (.s (k'.wrap n))) s
    | _, _ => .stuck else .stuck
  | .extract x i => match ev s x with
    | .tup l => match l[i]? with | some v => .ok v s | none => .stuck
    | _ => .stuck
  | .call { callee := .builtin .len, args, argTypes } => match args.toList, argTypes.toList with
    | [x], [t] => match (T t).d with
      | .slice _ => opLen s (ev s x)
      | .str => match ev s x with
        | .v (.string z) => .ok (.i .i64 (.s (z.size : Int))) s
        | _ => .stuck
      | _ => .stuck
    | _, _ => .stuck
  | .call { callee := .builtin .append, args, argTypes } => match args.toList, argTypes.toList with
    | [x, y], [t, t'] => if t == t' then opAppend T s t (ev s x) (ev s y) else .stuck
    | _, _ => .stuck
  | _ => .stuck

/-! ### More operations -/
/-- '==' of two cells of a kind. -/
def eqCell : Kd → V → V → Option B
  | .i k, .i k' a, .i k'' b => if k' == k && k'' == k then some (match a, b with | .l x, .l y => .l (x == y) | x, y => .s (x.val == y.val)) else none
  | .b, .b a, .b b => some (match a, b with | .l x, .l y => .l (x == y) | x, y => .s (x.val == y.val))
  | .s, .v (.string a), .v (.string b) => some (.s (same a b))
  | _, _, _ => none
def eqCells : List Kd → List V → List V → Option B
  | [], [], [] => some (.l true)
  | k :: ks, x :: xs, y :: ys => match eqCell k x y, eqCells ks xs ys with
    | some a, some b => some (bAnd a b)
    | _, _ => none
  | _, _, _ => none
/-- A part of a row that is read only. -/
def opCut (q : Tp) (n : I) (l : List q.T) (s : S) (lo hi : Option V) : R :=
  match lo, hi with
  | none, none => .ok (.ro q n l) s
  | some (.i _ a), none =>
    match leI (.l 0) a, leI a n with
    | some x, some y => .ok (.ro q (subI n a) (dropL l a)) { s with needs := x ++ (y ++ s.needs) }
    | _, _ => .stuck
  | none, some (.i _ h) =>
    match leI (.l 0) h, leI h n with
    | some x, some y => .ok (.ro q h (l.take (natI h))) { s with needs := x ++ (y ++ s.needs) }
    | _, _ => .stuck
  | some (.i _ a), some (.i _ h) =>
    match leI (.l 0) a, leI a h, leI h n with
    | some x, some y, some z => .ok (.ro q (subI h a) (cutL l a (subI h a))) { s with needs := x ++ (y ++ (z ++ s.needs)) }
    | _, _, _ => .stuck
  | _, _ => .stuck
/-- A part of a row of one's own, or of a part of it. -/
def opView (r sz : Nat) (lo n : I) (s : S) (l h : Option V) : R :=
  match l, h with
  | none, none => .ok (.vw r sz lo n) s
  | some (.i _ l), none =>
    match leI (.l 0) l, leI l n with
    | some a, some b => .ok (.vw r sz (addI lo l) (subI n l)) { s with needs := a ++ (b ++ s.needs) }
    | _, _ => .stuck
  | none, some (.i _ h) =>
    match leI (.l 0) h, leI h n with
    | some a, some b => .ok (.vw r sz lo h) { s with needs := a ++ (b ++ s.needs) }
    | _, _ => .stuck
  | some (.i _ l), some (.i _ h) =>
    match leI (.l 0) l, leI l h, leI h n with
    | some a, some b, some c => .ok (.vw r sz (addI lo l) (subI h l)) { s with needs := a ++ (b ++ (c ++ s.needs)) }
    | _, _, _ => .stuck
  | _, _ => .stuck
/-- A text's byte; a part of it. -/
def strAt (a : ByteArray) (i : Int) : Int := ((a.toList.getD i.toNat 0).toNat : Int)
def strCut (a : ByteArray) (l h : Int) : ByteArray := a.extract l.toNat h.toNat
def intV : V → Option I
  | .i _ n => some n
  | _ => none
/-- The bytes of a list, as a text. -/
def mkS (l : List Int) : ByteArray := ⟨(l.map fun n => UInt8.ofNat n.toNat).toArray⟩
def opX (s : S) (o : Op) : R :=
  match o with
  | .binOp b t x y _ => match (T t).d with
    | .struct _ => if (T t).ok then
      match (T t).tp, ev s x, ev s y with
      | some q, .x qa a, .x qb b' => if h : qa.eq q ∧ qb.eq q then (match (T t).eqk, b with
        | _ :: _, .eql => .ok (.b (.s (same (Tp.cast h.1 a) (Tp.cast h.2 b')))) s
        | _ :: _, .neq => .ok (.b (.s (!(same (Tp.cast h.1 a) (Tp.cast h.2 b'))))) s
        | _, _ => .stuck) else .stuck
      | _, xv, yv => match aggOf xv, aggOf yv with
        | some l, some l' => match (T t).eqk with
          | [] => .stuck
          | k :: ks => match eqCells (k :: ks) l l' with
            | some r => match b with
              | .eql => .ok (.b r) s
              | .neq => .ok (.b (bNot r)) s
              | _ => .stuck
            | none => .stuck
        | _, _ => .stuck
      else .stuck
    | .bool => match ev s x, ev s y with
      | .b p, .b q => match eqCell .b (.b p) (.b q), b with
        | some r, .eql => .ok (.b r) s
        | some r, .neq => .ok (.b (bNot r)) s
        | _, _ => .stuck
      | _, _ => .stuck
    | _ => .stuck
  | .slice t x lo hi none => match (T t).d, ev s x with
    | .slice e, .ro q n l => if (T e).ok && (T e).size == q.size then opCut q n l s (lo.map (ev s)) (hi.map (ev s)) else .stuck
    | .slice e, .own r => match s.rows[r]? with
      | some b => if (T e).ok && (T e).size == b.t.size && b.live then opView r b.t.size (.l 0) b.n s (lo.map (ev s)) (hi.map (ev s)) else .stuck
      | none => .stuck
    | .slice e, .vw r sz l0 n => if (T e).ok && (T e).size == sz then opView r sz l0 n s (lo.map (ev s)) (hi.map (ev s)) else .stuck
    | _, _ => .stuck
  | .convert a b x => match (T a).d, (T b).d with
    | .slice e, .str => match (T e).d with
      | .int .u8 => match tailOf s (.i .u8) (ev s x) with
        | some (_, l) => .ok (.v (.string (mkS l))) s
        | none => .stuck
      | _ => .stuck
    | _, _ => .stuck
  | .call { callee := .builtin .max, args, argTypes := _ } => match args.toList with
    | [x, y] => match ev s x, ev s y with
      | .i k (.l a), .i k' (.l b) => if k == k' then .ok (.i k (.l (if a < b then b else a))) s else .stuck
      | .i k a, .i k' b => if k == k' then .ok (.i k (.s (if a.val < b.val then b.val else a.val))) s else .stuck
      | _, _ => .stuck
    | _ => .stuck
  | .call { callee := .builtin .min, args, argTypes := _ } => match args.toList with
    | [x, y] => match ev s x, ev s y with
      | .i k (.l a), .i k' (.l b) => if k == k' then .ok (.i k (.l (if b < a then b else a))) s else .stuck
      | .i k a, .i k' b => if k == k' then .ok (.i k (.s (if b.val < a.val then b.val else a.val))) s else .stuck
      | _, _ => .stuck
    | _ => .stuck
  | _ => .stuck
/-- How long a row is to be: the length, and the room. -/
def sameI (x y : Operand) (a b : I) : Bool := match x, y, a, b with
  | _, _, .l m, .l n => m == n
  | .tmp i, .tmp j, _, _ => i == j
  | _, _, _, _ => false
/-- Texts that are gone through. -/
abbrev tpIt : Tp := .p .tx (.i .i64)
def runeAt (a : ByteArray) (p : Int) : Int := ((Utf8.decode a p.toNat).1 : Int)
def stepAt (a : ByteArray) (p : Int) : Int := if p < a.size then p + ((Utf8.decode a p.toNat).2 : Int) else p
def opNext (s : S) (x : Nat) : R :=
  match s.objs[x]? with
  | some b => if h : b.t.eq tpIt then (if b.live && decide (b.k = .it) && !s.lk.has (.o x) then
      let e := Tp.cast h b.e
      .ok (.nx (decide (e.2 < e.1.size)) e.2 (runeAt e.1 e.2)) { s with objs := s.objs.set x ⟨true, .it, tpIt, (e.1, stepAt e.1 e.2)⟩ } else .stuck) else .stuck
  | none => .stuck
/-- Pointers that are held against none. -/
def isPtr : V → Bool
  | .lp _ _ | .rp _ _ _ _ | .op _ _ _ _ => true
  | _ => false
def isNilP : V → Bool
  | .v (.pointer none) => true
  | _ => false
def nilEq (x y : V) : Option B :=
  if isNilP x && isNilP y then some (.l true) else if (isNilP x && isPtr y) || (isPtr x && isNilP y) then some (.l false) else match x with
    | .pt e => if isNilP y then some (.s (decide (e.1 < 0))) else none
    | _ => match y with
      | .pt e => if isNilP x then some (.s (decide (e.1 < 0))) else none
      | _ => none
/-- A row is cut in two: what was cut off, and the rest; values that lead to it lead to the rest. -/
def bkV (r r2 : Nat) (sz : Nat) (p n : I) : V → V
  | .own r' => if r' == r then .bk r2 sz p n else .own r'
  | .bk r' sz' k n' => if r' == r && sz' == sz then .bk r2 sz (addI k p) n' else .bk r' sz' k n'
  | v => v
def Ctn.bk (r r2 : Nat) (sz : Nat) (p n : I) : Ctn → Ctn
  | .ls l => .ls (l.map (bkV r r2 sz p n))
  | ct => ct
def opSplit (r sz : Nat) (k n : I) (s : S) (l h m : I) : R :=
  if s.lk.has (.r r) || decide (r < s.lk.gr) then .stuck else match s.rows[r]? with
  | some b => if b.live && b.t.size == sz then
      .ok (.own s.rows.length) { s with
        tmps := s.tmps.map (bkV r (s.rows.length + 1) sz (subI h l) b.n)
        vars := s.vars.map fun v => ⟨v.live, v.ct.bk r (s.rows.length + 1) sz (subI h l) b.n⟩
        rows := (s.rows.set r { b with live := false }) ++ [⟨true, true, b.e, b.t, subI h l, b.l.take (natI (subI h l))⟩, ⟨true, true, b.e, b.t, subI b.n (subI h l), b.l.drop (natI (subI h l))⟩]
        needs := .le k.val l.val :: .le l.val k.val :: .le l.val h.val :: .le h.val n.val :: .le h.val m.val :: .le m.val h.val :: s.needs }
    else .stuck
  | none => .stuck
/-- Still more operations. -/
def opY (s : S) (o : Op) : R :=
  match o with
  | .makeSlice t l c => match ev s l, ev s c, (T t).d with
    | .i _ n, .i _ m, .slice e => match (T e).tp with
      | some q => if (T e).ok && decide (0 < (T e).bytes) && q.size == (T e).size && sameI l c n m then
          .ok (.own s.rows.length) { s with rows := s.rows ++ [⟨true, false, e, q, n, List.replicate (natI n) q.z⟩], needs := .room n.val (T e).bytes :: s.needs }
        else .stuck
      | none => .stuck
    | _, _, _ => .stuck
  | .range t x => match (T t).d, ev s x with
    | .str, .v (.string a) => .ok (.obj s.objs.length) { s with objs := s.objs ++ [⟨true, .it, tpIt, (a, (0 : Int))⟩] }
    | _, _ => .stuck
  | .next x true => match ev s x with
    | .obj x => opNext s x
    | _ => .stuck
  | .extract x i => match ev s x, i with
    | .nx b _ _, 0 => .ok (.b (.s b)) s
    | .nx b p _, 1 => .ok (.i .i64 (.s p)) { s with needs := .tru b :: s.needs }
    | .nx b _ r, 2 => .ok (.i .i32 (.s r)) { s with needs := .tru b :: s.needs }
    | _, _ => .stuck
  | .nilCheck x => match ev s x with
    | .pt e => .ok (.pt e) { s with needs := .le 0 e.1 :: s.needs }
    | _ => .stuck
  | .slice t x (some lo) (some hi) (some mx) => match (T t).d, ev s x, ev s lo, ev s hi, ev s mx with
    | .slice e, .own r, .i _ l, .i _ h, .i _ m => match s.rows[r]? with
      | some b => if (T e).ok && (T e).size == b.t.size then opSplit r b.t.size (.l 0) b.n s l h m else .stuck
      | none => .stuck
    | .slice e, .bk r sz k n, .i _ l, .i _ h, .i _ m => if (T e).ok && (T e).size == sz then opSplit r sz k n s l h m else .stuck
    | _, _, _, _, _ => .stuck
  | .makeFunc (.func f) first caps => if first.toList.isEmpty then .ok (.fn f (caps.toList.map (ev s))) s else .stuck
  | .binOp o t x y _ => match ev s x, ev s y with
    | .v (.string a), .v (.string b) => match o with
      | .add => .ok (.v (.string (a ++ b))) { s with needs := .le ((a.size : Int) + b.size) 9223372036854775807 :: s.needs }
      | .lss => .ok (.b (.s (Op.bytesLess a.toList b.toList))) s
      | .geq => .ok (.b (.s (!(Op.bytesLess a.toList b.toList)))) s
      | _ => .stuck
    | x', y' => match (T t).d with
      | .ptr _ => match nilEq x' y', o with
        | some b, .eql => .ok (.b b) s
        | some b, .neq => .ok (.b (bNot b)) s
        | _, _ => .stuck
      | _ => .stuck
  | .index t x i => match (T t).d, ev s x, ev s i with
    | .str, .v (.string a), .i _ n => .ok (.i .u8 (.s (strAt a n.val))) { s with needs := .idx n.val a.size :: s.needs }
    | _, _, _ => .stuck
  | .slice t x lo hi none => match (T t).d, ev s x with
    | .str, .v (.string a) => match (match lo with | none => some (I.l 0) | some l => intV (ev s l)), (match hi with | none => some (I.s (a.size : Int)) | some h => intV (ev s h)) with
      | some l, some h => .ok (.v (.string (strCut a l.val h.val))) { s with needs := .le 0 l.val :: .le l.val h.val :: .le h.val a.size :: s.needs }
      | _, _ => .stuck
    | _, _ => .stuck
  | _ => .stuck
def op (s : S) (o : Op) : R :=
  match op0 T s o with
  | .stuck => match opX T s o with
    | .stuck => opY T s o
    | r => r
  | r => r

/-- Is an operation wanted: yes, no, or by a name. -/
inductive Want where
  | yes | no | by_ (b : Bool) (d : Nat) | unknown
def wanted (all : List Oper) (s : S) (o : Oper) : Want :=
  match o.guard with
  | none => .yes
  | some (j, want) =>
    match (all[j]?).bind (·.dst) with
    | none => .unknown
    | some d =>
      match s.tmps[d]? with
      | some (.b (.l b)) => if b == want then .yes else .no
      | some (.b (.s b)) => .by_ b d
      | some (.v (.tuple _)) => .no
      | _ => .unknown

/-- Out of a block; none: it lies further down. -/
def exitIt (id : Nat) : List It → Option (List It)
  | .inBlock id' :: k => if id' == id then some k else exitIt id k
  | _ :: k => exitIt id k
  | [] => none

/-- The results, as the frame holds them. -/
def resV (s : S) : ResultVar → Option V
  | .tmp t => some (s.tmps.getD t .junk)
  | .cell a t => match (if (T t).ok then opLoad T s t (s.tmps.getD a .junk) else .stuck) with
    | .ok v _ => some v
    | _ => none
def resVs (s : S) : List ResultVar → Option (List V)
  | [] => some []
  | r :: rs => match resV T s r, resVs s rs with
    | some v, some vs => some (v :: vs)
    | _, _ => none

def S.bare (s : S) : S := { s with needs := [] }
def S.more (s : S) (ns : List Need) : S := { s with needs := s.needs ++ ns }
/-- The roots that are looked at. -/
def readsV : V → List Rt
  | .lp x _ => [.v x]
  | .op r _ _ _ => [.r r]
  | .own r => [.r r]
  | .vw r _ _ _ => [.r r]
  | .bk r _ _ _ => [.r r]
  | _ => []
def readsO (s : S) : Op → List Rt
  | .load _ x => readsV (ev s x)
  | .convert _ _ x => readsV (ev s x)
  | _ => []
/-- The roots that are turned, but for a store's. -/
def touchO (s : S) : Op → List Rt
  | .call { callee := .builtin .append, args, argTypes := _ } => match args.toList with
    | x :: _ => readsV (ev s x)
    | [] => []
  | .next x _ => match ev s x with
    | .obj x => [.o x]
    | _ => []
  | .slice _ x _ _ (some _) => readsV (ev s x)
  | _ => []
/-- It turns nothing, and makes nothing. -/
def isQuiet : Op → Bool
  | .move _ | .assign _ | .pick _ _ _ | .load _ _ | .nilCheck _ | .fieldAddr _ _ _ | .indexAddr _ _ _ | .index _ _ _ | .build _ _ | .binOp _ _ _ _ _ | .unOp _ _ _ | .convert _ _ _ | .extract _ _ => true
  | .call { callee := .builtin .len, args := _, argTypes := _ } => true
  | .slice _ _ _ _ none => true
  | .makeFunc _ _ _ => true
  | .call { callee := .builtin .max, args := _, argTypes := _ } => true
  | .call { callee := .builtin .min, args := _, argTypes := _ } => true
  | _ => false
def isMake : Op → Bool
  | .alloc _ | .box _ _ | .buildSlice _ _ _ => true
  | _ => false
/-- What each operation waits for, near and far. -/
def ancs : List Oper → List (List Nat) → List (List Nat)
  | [], acc => acc
  | o :: r, acc => ancs r (acc ++ [((o.after.toList.filter (Region.binds .any)).flatMap fun e => e.on :: acc.getD e.on []).eraseDups])
/-- It is ordered with all others. -/
def lastOp (ops : Array Oper) (j : Nat) : Bool :=
  let A := ancs ops.toList []
  (List.range ops.size).all fun i => i == j || ((A.getD j []).contains i || (A.getD i []).contains j)
/-- What is listed has all listed that it waits for. -/
def closedB (ops : Array Oper) (listed : Array Bool) : Bool :=
  (List.range ops.size).all fun k => !listed.getD k false || ((ops[k]?).map fun o => o.after.all fun e => !Region.binds .any e || listed.getD e.on false).getD true
/-- It may be taken first. -/
def takes (ops : Array Oper) (listed : Array Bool) (i : Nat) : Bool :=
  match ops[i]? with
  | some o => if isQuiet o.op then (if closedB ops listed then Region.free .any ops listed i else false) else false
  | none => false
def quietN : List Oper → Nat
  | [] => 0
  | o :: r => if isQuiet o.op then quietN r + 1 else 0
/-- A region whose order is open: in the text's order. -/
def runQ (all : List Oper) : List Oper → S → Option S
  | [], s => some s
  | o :: r, s =>
    match wanted all s o with
    | .no => runQ all r (s.put o.dst (.v undef))
    | .yes =>
      match o.op with
      | .store t x y =>
        if (T t).ok then
          match opStore T s t (ev s x) (ev s y) with
          | .skip s => runQ all r (s.put o.dst (.v undef))
          | _ => none
        else none
      | q =>
        match op T s.bare q with
        | .ok v s' => runQ all r ((s'.more s.needs).put o.dst v)
        | _ => none
    | _ => none
def mayOrder (ops : Array Oper) : Bool :=
  (quietN ops.toList == ops.size && Region.lexB .any ops) || Region.lexTailB .any ops (quietN ops.toList)
/-- The block behind which a loop stands. -/
def idOf : List It → Option Nat
  | .inBlock id :: _ => some id
  | _ :: k => idOf k
  | [] => none
/-- What of an operation is given a name. -/
def sayD (d : Option Nat) : V → List Say
  | .i _ (.s _) => match d with | some d => [.t d] | none => []
  | .x _ _ => match d with | some d => [.t d] | none => []
  | _ => []
def says (s : S) (o : Oper) (v : V) : List Say :=
  match o.op with
  | .load _ x => match ev s x with
    | .rp _ _ _ _ | .op _ _ _ _ => sayD o.dst v
    | _ => []
  | .binOp _ _ _ _ _ | .convert _ _ _ => sayD o.dst v
  | .call { callee := .builtin .append, args := _, argTypes := _ } => match v with | .own r => [.r r] | _ => []
  | .call { callee := .builtin .max, args := _, argTypes := _ } => sayD o.dst v
  | .call { callee := .builtin .min, args := _, argTypes := _ } => sayD o.dst v
  | _ => []
def saysS (s : S) (x : Operand) : List Say :=
  match ev s x with
  | .op r _ _ _ => [.r r]
  | .lp v _ => [.v v]
  | _ => []
/-- 'un': is a loop gone through round by round? (By the block behind which it stands.) -/
def run (res : List ResultVar) (un : Option Nat → Bool) : Nat → List It → S → Out
  | 0, t, s => .fuel t s
  | n + 1, t, s =>
    match t with
    | [] => .base s
    | .inBlock _ :: k => run res un n k s
    | .inLoop c :: k => run res un n (.code c :: .inLoop c :: k) s
    | .openR 0 ops listed _ :: k => if (Region.ready .any ops listed).isEmpty then run res un n k s else .bad t s
    | .openR (m + 1) ops listed rds :: k =>
      match Region.ready .any ops listed with
      | [] => run res un n k s
      | j :: js =>
        match (j :: js).find? (takes ops listed) with
        | some i =>
          match ops[i]? with
          | none => .bad t s
          | some o =>
            match wanted ops.toList s o with
            | .no => run res un n (.openR m ops (listed.setIfInBounds i true) rds :: k) (s.put o.dst (.v undef))
            | .by_ b d => .branch b t (s.put (some d) (.b (.l true))) t (s.put (some d) (.b (.l false)))
            | .unknown => .bad t s
            | .yes =>
              match op T s.bare o.op with
              | .ok v s' => run res un n (.openR m ops (listed.setIfInBounds i true) (readsO s.bare o.op ++ rds) :: k) ((s'.more s.needs).put o.dst v)
              | _ => .bad t s
        | none =>
          match js with
          | [] => run res un n (.pickR m ops listed j rds :: k) s
          | _ => .fork ((j :: js).map fun i => .pickR m ops listed i rds :: k) s
    | .pickR m ops listed j rds :: k =>
      match ops[j]? with
      | none => .bad t s
      | some o =>
        match wanted ops.toList s o with
        | .no => run res un n (.openR m ops (listed.setIfInBounds j true) rds :: k) (s.put o.dst (.v undef))
        | .by_ b d => .branch b t (s.put (some d) (.b (.l true))) t (s.put (some d) (.b (.l false)))
        | .unknown => .bad t s
        | .yes =>
          match o.op with
          | .call { callee := .value (.func f), args, argTypes := _ } =>
            if lastOp ops j then .call f (args.toList.map (ev s)) o.dst none (.openR m ops (listed.setIfInBounds j true) [] :: k) s
            else .call f (args.toList.map (ev s)) o.dst (some rds) (.openR m ops (listed.setIfInBounds j true) rds :: k) s
          | .store t' x y =>
            if lastOp ops j && (T t').ok then
              match opStore T s t' (ev s x) (ev s y) with
              | .skip s => run res un n (.openR m ops (listed.setIfInBounds j true) [] :: k) (s.put o.dst (.v undef))
              | _ => .bad t s
            else if (T t').ok && (readsV (ev s x)).all (fun q => !rds.contains q) then
              match opStore T s t' (ev s x) (ev s y) with
              | .skip s => run res un n (.openR m ops (listed.setIfInBounds j true) rds :: k) (s.put o.dst (.v undef))
              | _ => .bad t s
            else .bad t s
          | q =>
            if lastOp ops j then
              match op T s.bare q with
              | .ok v s' => run res un n (.openR m ops (listed.setIfInBounds j true) [] :: k) ((s'.more s.needs).put o.dst v)
              | _ => .bad t s
            else if (touchO s.bare q).all (fun x => !rds.contains x) then
              match op T s.bare q with
              | .ok v s' => run res un n (.openR m ops (listed.setIfInBounds j true) rds :: k) ((s'.more s.needs).put o.dst v)
              | _ => .bad t s
            else .bad t s
    | .ops _ [] :: k => run res un n k s
    | .ops all (o :: rest) :: k =>
      match wanted all s o with
      | .no => run res un n (.ops all rest :: k) (s.put o.dst (.v undef))
      | .by_ b d => .branch b (.ops all (o :: rest) :: k) (s.put (some d) (.b (.l true))) (.ops all (o :: rest) :: k) (s.put (some d) (.b (.l false)))
      | .unknown => .bad t s
      | .yes =>
        match o.op with
        | .call { callee := .value (.func f), args, argTypes := _ } => .call f (args.toList.map (ev s)) o.dst none (.ops all rest :: k) s
        | .store t x y =>
          if (T t).ok then
            match opStore T s t (ev s x) (ev s y) with
            | .skip s' => match saysS s x with
              | [] => run res un n (.ops all rest :: k) (s'.put o.dst (.v undef))
              | w :: ws => .say (w :: ws) (.ops all rest :: k) (s'.put o.dst (.v undef))
            | _ => .stuck o all rest k s
          else .stuck o all rest k s
        | q =>
          match op T s.bare q with
          | .ok v s' => match says s o v with
            | [] => run res un n (.ops all rest :: k) ((s'.more s.needs).put o.dst v)
            | w :: ws => .say (w :: ws) (.ops all rest :: k) ((s'.more s.needs).put o.dst v)
          | _ => .stuck o all rest k s
    | .code c :: k =>
      match c with
      | .skip => run res un n k s
      | .label _ => run res un n k s
      | .seq a b => run res un n (.code a :: .code b :: k) s
      | .block id c => run res un n (.code c :: .inBlock id :: k) s
      | .loop c => if un (idOf k) then run res un n (.code c :: .inLoop c :: k) s else .loop c k s
      | .exit id => match exitIt id k with | some k' => run res un n k' s | none => .out id s
      | .ret => match resVs T s res with | some vs => .ret vs s | none => .bad t s
      | .cond c x y =>
        match ev s c with
        | .b (.l true) => run res un n (.code x :: k) s
        | .b (.l false) => run res un n (.code y :: k) s
        | .b (.s b) => .branch b (.code x :: k) s (.code y :: k) s
        | _ => .bad t s
      | .region _ ops draw =>
        if draw then
          match (if ops.size ≤ 19 then (if mayOrder ops then runQ T ops.toList ops.toList s else none) else none) with
          | some s' => run res un n k s'
          | none => if Region.noSelect ops then run res un n (.openR ops.size ops (Array.replicate ops.size false) [] :: k) s else .bad t s
        else run res un n (.ops ops.toList ops.toList :: k) s
      | _ => .bad t s
end
/-! ### Names -/
structure U where
  t : Tp
  e : t.T
def U.as (t : Tp) (u : U) : t.T := if h : u.t.eq t then Tp.cast h u.e else t.z
def U.get (t : Tp) (l : List U) (i : Nat) : t.T := match l[i]? with | some u => u.as t | none => t.z
theorem U.as_self (t : Tp) (e : t.T) : U.as t ⟨t, e⟩ = e := by
  unfold U.as
  rw [dif_pos (t.eq_self)]
  rfl

/-! ### Shapes -/
inductive Sh where
  | d (t : Tp) | is (v : V) | agg (l : List Sh) | bk (r sz : Nat)
mutual
def Sh.kn : Sh → List Tp
  | .d t => [t]
  | .is _ => []
  | .agg l => Sh.kns l
  | .bk _ _ => [.i .i64, .i .i64]
def Sh.kns : List Sh → List Tp
  | [] => []
  | a :: l => a.kn ++ Sh.kns l
end
mutual
def Sh.mk : Sh → List U → V × List U
  | .d t, u :: l => (toV t (u.as t), l)
  | .is v, l => (v, l)
  | .agg shs, l => (.agg (Sh.mks shs l).1, (Sh.mks shs l).2)
  | .bk r sz, u :: u' :: l => (.bk r sz (.s (u.as (.i .i64))) (.s (u'.as (.i .i64))), l)
  | _, l => (.junk, l)
def Sh.mks : List Sh → List U → List V × List U
  | [], l => ([], l)
  | a :: as, l => ((a.mk l).1 :: (Sh.mks as (a.mk l).2).1, (Sh.mks as (a.mk l).2).2)
end
inductive VP where
  | pk (t : Tp) | ls (l : List Sh)
structure RP where
  fix : Bool
  e : TypeId
  t : Tp
def VP.kn : VP → List Tp
  | .pk t => [t]
  | .ls l => Sh.kns l
def VP.kns : List VP → List Tp
  | [] => []
  | a :: l => a.kn ++ VP.kns l
def RP.kns : List RP → List Tp
  | [] => []
  | a :: l => .sl a.t :: RP.kns l
def VP.mk : VP → List U → Var × List U
  | .pk t, u :: l => (⟨true, .pk t (u.as t)⟩, l)
  | .ls shs, l => (⟨true, .ls (Sh.mks shs l).1⟩, (Sh.mks shs l).2)
  | _, l => (⟨false, .ls []⟩, l)
def VP.mks : List VP → List U → List Var × List U
  | [], l => ([], l)
  | a :: as, l => ((a.mk l).1 :: (VP.mks as (a.mk l).2).1, (VP.mks as (a.mk l).2).2)
def RP.mks : List RP → List U → List Row
  | a :: as, u :: l => ⟨true, a.fix, a.e, a.t, .s ((u.as (.sl a.t)).length : Int), u.as (.sl a.t)⟩ :: RP.mks as l
  | _, _ => []
/-- Objects: what they are, and of which kind their data are. -/
def OP.kns : List (OK × Tp) → List Tp
  | [] => []
  | a :: l => a.2 :: OP.kns l
def OP.mks : List (OK × Tp) → List U → List Ob
  | a :: as, u :: l => ⟨true, a.1, a.2, u.as a.2⟩ :: OP.mks as l
  | _, _ => []
/-- A kind of objects: its pattern; what holds of what it has; what is to be seen of it. -/
structure Kn where
  t : Tp
  ret : Sh
  vars : List VP
  rows : List RP
  objs : List (OK × Tp)
  ok : List U → t.T → Prop
def Kn.kn (k : Kn) : List Tp := k.ret.kn ++ (VP.kns k.vars ++ (RP.kns k.rows ++ OP.kns k.objs))
def Kn.retV (k : Kn) (us : List U) : V := (k.ret.mk us).1
def Kn.st (k : Kn) (us : List U) : S :=
  let l := (k.ret.mk us).2
  let m := VP.mks k.vars l
  ⟨[], m.1, RP.mks k.rows m.2, OP.mks k.objs (m.2.drop k.rows.length), [], ⟨0, 0, 0, 0⟩⟩
end Go.Fx
