/- Plain words for entries of scripts, and the contracts of package wire. -/
import Derived.Test.YtkhbodngiodklaaVb
set_option linter.all false
namespace Go.Proofs.Ytkhbodngiodklaa
open Go Go.Fx
/-- An entry: kind, who, n, the call, dev, mask. -/
abbrev En := Int × Int × Int × Cl × Int × Int
abbrev tpE : Tp := .p (.i .i64) (.p (.i .i64) (.p (.i .i64) (.p tpC (.p (.i .i64) (.i .i64)))))
def noC : Cl := (0, 0, 0, 0)
def E0 : En := (0, 0, 0, (0, 0, 0, 0), 0, 0)
def rightE (e : En) : Bool :=
  (e.1 == 0 && decide (1 ≤ e.2.2.1) && decide (e.2.2.1 ≤ 100) && e.2.1 == 0 && e.2.2.2.1 == noC && e.2.2.2.2.1 == 0 && e.2.2.2.2.2 == 0) ||
  (e.1 == 1 && decide (0 ≤ e.2.1) && decide (e.2.1 < 256) && rightC e.2.2.2.1 && e.2.2.1 == 0 && e.2.2.2.2.1 == 0 && e.2.2.2.2.2 == 0) ||
  (e.1 == 2 && decide (0 ≤ e.2.1) && decide (e.2.1 < 256) && decide (0 ≤ e.2.2.2.2.1) && decide (e.2.2.2.2.1 < 256) && decide (1 ≤ e.2.2.2.2.2) && decide (e.2.2.2.2.2 ≤ 7) && e.2.2.1 == 0 && e.2.2.2.1 == noC)
def wfE (e : En) : Prop := wfC e.2.2.2.1
/-- A right entry's bytes, without their count. -/
def bsE (e : En) : List Int := if e.1 == 0 then [0, e.2.2.1, 0] else if e.1 == 2 then [2, e.2.1, e.2.2.2.2.1, e.2.2.2.2.2] else 1 :: e.2.1 :: callL e.2.2.2.1
def cbE (e : En) : List Int := ((bsE e).length : Int) :: bsE e
/-- The bytes of a script. -/
def allE (l : List En) : List Int := l.flatMap cbE
def wrOK (l : List En) : Bool := decide (l.length ≤ 2048) && l.all rightE
def wrL (l : List En) : List Int := if wrOK l then allE l else []
def wrE (l : List En) : Int := if 2048 < l.length then 13 else if l.all rightE then 0 else 11
/-- What may be an entry. -/
def candE (l : List Int) : En :=
  if l.length == 3 && ix l 0 == 0 then (0, 0, ix l 1 + ix l 2 * 256, noC, 0, 0)
  else if l.length == 4 && ix l 0 == 2 then (2, ix l 1, 0, noC, ix l 2, ix l 3)
  else if l.length == 27 && ix l 0 == 1 && rightC (rawC (l.drop 2)) then (1, ix l 1, 0, rawC (l.drop 2), 0, 0)
  else E0
def oneE (l : List Int) : En := if rightE (candE l) then candE l else E0
def isE (l : List Int) : Bool := rightE (candE l)
/-- The entries of bytes. -/
def rdE : Nat → List Int → List En
  | 0, _ => []
  | _, [] => []
  | k + 1, x :: l => if (l.length : Int) < x then [] else (if isE (l.take x.toNat) then [oneE (l.take x.toNat)] else []) ++ rdE k (l.drop x.toNat)
def rdAll (l : List Int) : List En := (rdE l.length l).take 2048
def rdL (l : List Int) : List En := if l.length ≤ 65536 then rdAll l else []
def rdC (l : List Int) : Int := if l.length ≤ 65536 then 0 else 12
abbrev tEs : Tp := .sl tpE
def rowB (l : List Int) : Row := mkRow 5 (.i .u8) l
def rowE (l : List En) : Row := mkRow 55 tpE l
def conERight : Con := fnC [.d tpE] (fun (e : En) => bb (rightE e))
def conBody : Con := fnR [.d tpE] (fun (e : En) => rightE e = true) (.own 0) (fun (e : En) => [rowB (bsE e)])
def conWrite : Con := fnRV [.d tEs] (fun (l : List En) => True) (fun (l : List En) => .tup [.own 0, i64 (wrE l)]) (fun (l : List En) => [rowB (wrL l)])
def conOne : Con := fnP [.d tB] (fun (l : List Int) => bytes l) (fun (l : List Int) => .tup [.x tpE (oneE l), bb (isE l)])
def conWRead : Con := fnRV [.d tB] (fun (l : List Int) => bytes l) (fun (l : List Int) => .tup [.own 0, i64 (rdC l)]) (fun (l : List Int) => [rowE (rdL l)])
def conEBytes : Con := fnR [.d tpE] (fun (e : En) => rightE e = true ∧ wfE e) (.own 0) (fun (e : En) => [rowB (cbE e)])
def conAll : Con := fnR [.d tEs] (fun (l : List En) => l.length ≤ 200000 ∧ ∀ e ∈ l, rightE e = true ∧ wfE e) (.own 0) (fun (l : List En) => [rowB (allE l)])
def conRRead15 : Con := fnR [.d tB] (fun (l : List Int) => l.length ≤ 100000 ∧ bytes l) (.own 0) (fun (l : List Int) => [rowE (rdAll l)])
noncomputable def conSameE : Con := fnP [.d tEs, .d tEs] (fun (a b : List En) => a.length ≤ 1000000) (fun (a b : List En) => bb (same a b))
end Go.Proofs.Ytkhbodngiodklaa
